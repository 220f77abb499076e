/- An abstract evaluator over the model's code: values without addresses where they can be had. The definitions.
   Immutable slices are lists; what is written lies in a small heap of its own; nothing is drawn. -/
import Derived.Orders
import Derived.LoopN
import Derived.Below
namespace Go.Ab

inductive V where
  | any
  | no
  | bool (b : Bool)
  | int (k : IntKind) (n : Int)
  | str (s : ByteArray)
  | nilp
  | ptr (b off : Nat)
  | lptr (cs : List V) (off : Nat)
  | nils
  | sl (b off len cap k : Nat)
  | lst (xs : List (List V))
  | agg (cs : List V)
  | tup (vs : List V)
  | func (fn : Fn) (first captured : List V)
  | nilf
  | iface (t : TypeId) (v : V)
  | nili
  | nilm
  | mref (b : Nat)
  | mp (k e : IntKind) (l : List (Int × Int))

/-- One cell's worth: what may be stored into a cell. -/
def V.leaf : V → Bool
  | .any | .no | .agg _ | .tup _ | .mp .. | .mref _ => false
  | _ => true

/-- It leads to nothing that is written. -/
def V.rf : V → Bool
  | .ptr .. | .sl .. | .func .. | .iface .. | .agg _ | .tup _ | .mref _ => false
  | _ => true

abbrev Heap := List (Option (List V))

structure Cfg where
  lo : Nat
  ex : Option Nat
  thr : Nat

/-- May this block be written? -/
def Cfg.wr (c : Cfg) (b : Nat) : Bool := decide (c.lo ≤ b) || (c.ex == some b)

abbrev Callf := Cfg → FuncId → List V → Heap → Option (V × Heap)

def ofLeaf : Value → Option V
  | .bool b => some (.bool b)
  | .int k n => some (.int k n)
  | .string s => some (.str s)
  | .pointer none => some .nilp
  | .slice none 0 0 => some .nils
  | .nilFunc => some .nilf
  | .nilIface => some .nili
  | .map none => some .nilm
  | _ => none

def ofVal : Value → Option V
  | .agg cs => (cs.toList.mapM ofLeaf).map .agg
  | .func fn f c => if f.size = 0 && c.size = 0 then some (.func fn [] []) else none
  | v => ofLeaf v

def ev (fr : List V) : Operand → Option V
  | .tmp t => fr[t]?
  | .const v => ofVal v
  | .func f => some (.func (.func f) [] [])
  | .global _ => none

def szOf (P : Program) (t : TypeId) : Option Nat := (P.info? t).map (·.size)

def isAg (P : Program) (t : TypeId) : Option Bool :=
  match P.underlying t with
  | some (.struct _) => some true
  | some (.array _ _) => some true
  | some _ => some false
  | none => none

def zeroOf (P : Program) (t : TypeId) : Option V :=
  match P.info? t with
  | some i => match i.zero with
    | some v => ofVal v
    | none => none
  | none => none

def part (P : Program) (t : TypeId) (cs : List V) (off : Nat) : Option V :=
  match isAg P t with
  | some true => match szOf P t with
    | some s => if off + s ≤ cs.length then some (.agg ((cs.drop off).take s)) else none
    | none => none
  | some false => cs[off]?
  | none => none

/-- A map's block. -/
def isMap : List V → Bool
  | .mp .. :: _ => true
  | _ => false

def blockOf (h : Heap) (b : Nat) : Option (List V) :=
  match h[b]? with
  | some (some cs) => if isMap cs then none else some cs
  | _ => none

def mapOf (h : Heap) (b : Nat) : Option (IntKind × IntKind × List (Int × Int)) :=
  match h[b]? with
  | some (some [.mp k e l]) => some (k, e, l)
  | _ => none

def mget : List (Int × Int) → Int → Option Int
  | [], _ => none
  | (a, v) :: r, x => if x == a then some v else mget r x

def mset : List (Int × Int) → Int → Int → List (Int × Int)
  | [], x, y => [(x, y)]
  | (a, v) :: r, x, y => if x == a then (x, y) :: r else (a, v) :: mset r x y

/-- A map from integers to integers. -/
def mapKinds (P : Program) (t : TypeId) : Option (IntKind × IntKind) :=
  match P.underlying t with
  | some (.map a b) => match P.underlying a, P.underlying b, zeroOf P b with
    | some (.int k), some (.int e), some (.int e' 0) => if e = e' then some (k, e) else none
    | _, _, _ => none
  | _ => none

def makeMapV (P : Program) (h : Heap) (t : TypeId) : Option (V × Heap) :=
  match mapKinds P t with
  | some (k, e) => some (.mref h.length, h ++ [some [.mp k e []]])
  | none => none

def mapUpdateV (P : Program) (cfg : Cfg) (h : Heap) (t : TypeId) (m key v : V) : Option Heap :=
  match mapKinds P t, m, key, v with
  | some (k, e), .mref b, .int k1 x, .int e1 y => match mapOf h b with
    | some (k2, e2, l) => if k = k1 && e = e1 && k = k2 && e = e2 && cfg.wr b then some (h.set b (some [.mp k e (mset l x y)])) else none
    | none => none
  | _, _, _, _ => none

def lookupV (P : Program) (h : Heap) (t : TypeId) (m key : V) (ok : Bool) : Option V :=
  match mapKinds P t, m, key with
  | some (k, e), .mref b, .int k1 x => match mapOf h b with
    | some (k2, e2, l) => if k = k1 && k = k2 && e = e2 then
        match mget l x with
        | some y => some (if ok then .tup [.int e y, .bool true] else .int e y)
        | none => some (if ok then .tup [.int e 0, .bool false] else .int e 0)
      else none
    | none => none
  | _, _, _ => none

def loadV (P : Program) (h : Heap) (t : TypeId) : V → Option V
  | .ptr b off => match blockOf h b with
    | some cs => part P t cs off
    | none => none
  | .lptr cs off => part P t cs off
  | _ => none

/-- The cells of a value that is to be stored. -/
def cellsOf : V → Option (List V)
  | .agg cs => if cs.all V.leaf then some cs else none
  | v => if v.leaf then some [v] else none

def putAt (cs : List V) : Nat → List V → List V
  | _, [] => cs
  | off, v :: r => putAt (cs.set off v) (off + 1) r

def storeCellsV (cfg : Cfg) (h : Heap) (b off : Nat) (vs : List V) : Option Heap :=
  match blockOf h b with
  | some cs =>
    if off + vs.length ≤ cs.length && cfg.wr b && (decide (cfg.thr ≤ b) || vs.all V.rf) then some (h.set b (some (putAt cs off vs))) else none
  | none => none

def storeV (P : Program) (cfg : Cfg) (h : Heap) (t : TypeId) (a v : V) : Option Heap :=
  match a, szOf P t, cellsOf v with
  | .ptr b off, some s, some vs => if vs.length = s then storeCellsV cfg h b off vs else none
  | _, _, _ => none

def fieldAddrV (P : Program) (s : TypeId) (a : V) (f : Nat) : Option V :=
  match P.underlying s with
  | some (.struct fields) => match fields[f]? with
    | some fd => match szOf P fd.type with
      | some (_ + 1) => match a with
        | .ptr b off => some (.ptr b (off + fd.offset))
        | .lptr cs off => some (.lptr cs (off + fd.offset))
        | _ => none
      | _ => none
    | none => none
  | _ => none

def fieldV (P : Program) (t : TypeId) (x : V) (f : Nat) : Option V :=
  match P.underlying t with
  | some (.struct fields) => match fields[f]? with
    | some fd => match x with
      | .agg cs => part P fd.type cs fd.offset
      | _ => none
    | none => none
  | _ => none

def indexAddrV (P : Program) (t : TypeId) (x i : V) : Option V :=
  match i with
  | .int _ n =>
    if 0 ≤ n then
      match P.underlying t with
      | some (.slice elem) => match szOf P elem, x with
        | some s, .sl b off len _ k => if n.toNat < len && s == k then some (.ptr b (off + n.toNat * k)) else none
        | some s, .lst xs => match xs[n.toNat]? with
          | some e => if e.length = s then some (.lptr e 0) else none
          | none => none
        | _, _ => none
      | some (.array len elem) => match szOf P elem, x with
        | some s, .ptr b off => if n.toNat < len then some (.ptr b (off + n.toNat * s)) else none
        | some s, .lptr cs off => if n.toNat < len then some (.lptr cs (off + n.toNat * s)) else none
        | _, _ => none
      | _ => none
    else none
  | _ => none

def indexV (P : Program) (t : TypeId) (x i : V) : Option V :=
  match i with
  | .int _ n =>
    if 0 ≤ n then
      match P.underlying t, x with
      | some (.array len elem), .agg cs => match szOf P elem with
        | some s => if n.toNat < len then part P elem cs (n.toNat * s) else none
        | none => none
      | some .string, .str s => match s[n.toNat]? with
        | some b => some (.int .u8 b.toNat)
        | none => none
      | _, _ => none
    else none
  | _ => none

/-- A bound of a slice expression. -/
def boundV (d : Nat) : Option (Option V) → Option Nat
  | none => some d
  | some (some (.int _ n)) => if 0 ≤ n then some n.toNat else none
  | some _ => none

def sliceV (P : Program) (h : Heap) (t : TypeId) (x : V) (lo hi : Option (Option V)) : Option V :=
  match P.underlying t, x with
  | some (.slice elem), .sl b off len cap k =>
    match szOf P elem, boundV 0 lo, boundV len hi with
    | some s, some l, some r =>
      if s = k && decide (l ≤ r) && decide (r ≤ len) && decide (len ≤ cap) then
        if l = 0 then some (.sl b off r cap k)
        else if l = r then some (.lst [])
        else some (.sl b (off + l * k) (r - l) (cap - l) k)
      else none
    | _, _, _ => none
  | some (.slice elem), .lst xs =>
    match szOf P elem, boundV 0 lo, boundV xs.length hi with
    | some s, some l, some r => if decide (l ≤ r) && decide (r ≤ xs.length) && (l == r || (xs[l]?).map List.length == some s) then some (.lst ((xs.take r).drop l)) else none
    | _, _, _ => none
  | some (.slice elem), .nils =>
    match szOf P elem, boundV 0 lo, boundV 0 hi with
    | some _, some 0, some 0 => some .nils
    | _, _, _ => none
  | some .string, .str s =>
    match boundV 0 lo, boundV s.size hi with
    | some l, some r => if l ≤ r && r ≤ s.size then some (.str (s.extract l r)) else none
    | _, _ => none
  | some (.array n elem), .ptr b off =>
    match szOf P elem, lo, hi with
    | some s, none, none => match blockOf h b with
      | some cs => if off + n * s ≤ cs.length then some (.sl b off n n s) else none
      | none => none
    | _, _, _ => none
  | _, _ => none

def roomy (n bytes : Nat) : Bool := decide (n * bytes ≤ 2 ^ 40) && decide (n ≤ 2 ^ 40)

def bytesOf (P : Program) (t : TypeId) : Option Nat := (P.info? t).map (·.bytes)

def zerosFor (z : List V) : Nat → List V
  | 0 => []
  | n + 1 => z ++ zerosFor z n

def vcells : V → List V
  | .agg cs => cs
  | v => [v]

def makeSliceV (P : Program) (h : Heap) (t : TypeId) (l c : V) : Option (V × Heap) :=
  match P.underlying t, l, c with
  | some (.slice elem), .int .i64 n, .int .i64 m =>
    match szOf P elem, bytesOf P elem, zeroOf P elem with
    | some s, some y, some z =>
      if 0 ≤ n && n ≤ m && roomy m.toNat y && ((vcells z).length == s) && decide (0 < s) then
        some (.sl h.length 0 n.toNat m.toNat s, h ++ [some (zerosFor (vcells z) m.toNat)])
      else none
    | _, _, _ => none
  | _, _, _ => none

/-- The parts of a literal, each at its place, none left out. -/
def partsInOrder (fr : List V) : Nat → List (Nat × Operand) → Option (List V)
  | _, [] => some []
  | i, (j, x) :: r =>
    if i = j then
      match ev fr x with
      | some v => match partsInOrder fr (i + 1) r with
        | some vs => some (v :: vs)
        | none => none
      | none => none
    else none

def cellsAll (s : Nat) : List V → Option (List V)
  | [] => some []
  | v :: r => match cellsOf v with
    | some cs => if cs.length = s then match cellsAll s r with
        | some rest => some (cs ++ rest)
        | none => none
      else none
    | none => none

def buildSliceV (P : Program) (h : Heap) (t : TypeId) (len : Nat) (vs : List V) : Option (V × Heap) :=
  match P.underlying t with
  | some (.slice elem) => match szOf P elem with
    | some s => match cellsAll s vs with
      | some cs => if vs.length = len && decide (0 < s) && decide (len * s ≤ 2 ^ 24) && (zeroOf P elem).isSome then some (.sl h.length 0 len len s, h ++ [some cs]) else none
      | none => none
    | none => none
  | _ => none

/-- The parts of a struct's or an array's literal put over its zero. -/
def fillV (place : Nat → Option (Nat × Nat)) (cs : List V) : List (Nat × V) → Option (List V)
  | [] => some cs
  | (i, v) :: r => match place i, cellsOf v with
    | some (off, s), some vs => if vs.length = s && decide (off + s ≤ cs.length) then fillV place (putAt cs off vs) r else none
    | _, _ => none

def placesOf (P : Program) (fields : Array Field) (i : Nat) : Option (Nat × Nat) :=
  match fields[i]? with
  | some f => match szOf P f.type with
    | some s => some (f.offset, s)
    | none => none
  | none => none

def evParts (fr : List V) : List (Nat × Operand) → Option (List (Nat × V))
  | [] => some []
  | (j, x) :: r => match ev fr x with
    | some v => match evParts fr r with
      | some vs => some ((j, v) :: vs)
      | none => none
    | none => none

/-- Every field has its size. -/
def allSized (P : Program) (fields : Array Field) : Bool := fields.toList.all fun f => (szOf P f.type).isSome

def buildV (P : Program) (t : TypeId) (ps : List (Nat × V)) : Option V :=
  match zeroOf P t, P.underlying t with
  | some (.agg z), some (.struct fields) => if allSized P fields then (fillV (placesOf P fields) z ps).map .agg else none
  | some (.agg z), some (.array _ elem) => match szOf P elem with
    | some s => (fillV (fun i => some (i * s, s)) z ps).map .agg
    | none => none
  | _, _ => none

def evAll (fr : List V) : List Operand → Option (List V)
  | [] => some []
  | x :: r => match ev fr x with
    | some v => match evAll fr r with
      | some vs => some (v :: vs)
      | none => none
    | none => none

def intBin (op : BinOp) (k : IntKind) (a b : Int) : Option V :=
  match op with
  | .add => some (.int k (k.wrap (a + b)))
  | .sub => some (.int k (k.wrap (a - b)))
  | .mul => some (.int k (k.wrap (a * b)))
  | .quo => if b = 0 then none else some (.int k (k.wrap (a.tdiv b)))
  | .rem => if b = 0 then none else some (.int k (a.tmod b))
  | .and => some (.int k (k.wrap ((BitVec.ofInt k.bits a &&& BitVec.ofInt k.bits b).toNat : Int)))
  | .or => some (.int k (k.wrap ((BitVec.ofInt k.bits a ||| BitVec.ofInt k.bits b).toNat : Int)))
  | .xor => some (.int k (k.wrap ((BitVec.ofInt k.bits a ^^^ BitVec.ofInt k.bits b).toNat : Int)))
  | .andNot => some (.int k (k.wrap ((BitVec.ofInt k.bits a &&& ~~~(BitVec.ofInt k.bits b)).toNat : Int)))
  | .eql => some (.bool (a == b))
  | .neq => some (.bool (a != b))
  | .lss => some (.bool (decide (a < b)))
  | .leq => some (.bool (decide (a ≤ b)))
  | .gtr => some (.bool (decide (a > b)))
  | .geq => some (.bool (decide (a ≥ b)))
  | _ => none

def strBin (op : BinOp) (a b : ByteArray) : Option V :=
  match op with
  | .add => if ((a.size + b.size : Nat) : Int) > IntKind.i64.max then none else some (.str (a ++ b))
  | .eql => some (.bool (a.toList == b.toList))
  | .neq => some (.bool !(a.toList == b.toList))
  | .lss => some (.bool (Op.bytesLess a.toList b.toList))
  | .leq => some (.bool (Op.bytesLess a.toList b.toList || a.toList == b.toList))
  | .gtr => some (.bool !(Op.bytesLess a.toList b.toList || a.toList == b.toList))
  | .geq => some (.bool !(Op.bytesLess a.toList b.toList))
  | _ => none

/-- Two leaves of one plain type. -/
def leafEq (P : Program) (t : TypeId) (x y : V) : Option Bool :=
  match P.underlying t, x, y with
  | some (.int _), .int k a, .int k' b => if k = k' then some (a == b) else none
  | some .bool, .bool a, .bool b => some (a == b)
  | some .string, .str a, .str b => some (a.toList == b.toList)
  | _, _, _ => none

/-- Two structs, each field of one cell, in its place, of a plain type that is compared by itself. -/
def flatEq (P : Program) : Nat → List Field → List V → List V → Option Bool
  | _, [], [], [] => some true
  | i, f :: fs, a :: x, b :: y =>
    if f.offset = i && !(f.name == "_") then
      match leafEq P f.type a b with
      | some true => flatEq P (i + 1) fs x y
      | some false => some false
      | none => none
    else none
  | _, _, _, _ => none

def eqV (P : Program) (t : TypeId) (x y : V) : Option Bool :=
  match x, y with
  | .agg xs, .agg ys => match P.underlying t with
    | some (.struct fields) => if !P.stoodInHeld t && !P.eqGuardType P.depth t then flatEq P 0 fields.toList xs ys else none
    | _ => none
  | .bool a, .bool b => match P.underlying t with
    | some .bool => some (a == b)
    | _ => none
  | .sl .., .nils => match P.underlying t with
    | some (.slice _) => some false
    | _ => none
  | .lst (_ :: _), .nils => match P.underlying t with
    | some (.slice _) => some false
    | _ => none
  | .nils, .nils => match P.underlying t with
    | some (.slice _) => some true
    | _ => none
  | .nilp, .nilp => match P.underlying t with
    | some (.pointer _) => some true
    | _ => none
  | _, _ => none

def binV (P : Program) (op : BinOp) (t : TypeId) (x y : V) : Option V :=
  match op, x, y with
  | .shl, .int k a, .int _ b => if b < 0 then none else some (.int k (k.wrap (a * 2 ^ (min b.toNat k.bits))))
  | .shr, .int k a, .int _ b => if b < 0 then none else some (.int k (a.fdiv (2 ^ (min b.toNat k.bits))))
  | op, .int k a, .int k' b => if k = k' then intBin op k a b else none
  | op, .str a, .str b => strBin op a b
  | .eql, x, y => match eqV P t x y with
    | some b => some (.bool b)
    | none => none
  | .neq, x, y => match eqV P t x y with
    | some b => some (.bool !b)
    | none => none
  | _, _, _ => none

def unV (op : UnOp) (x : V) : Option V :=
  match op, x with
  | .neg, .int k n => some (.int k (k.wrap (0 - n)))
  | .xor, .int k n => intBin .xor k (if k.signed then -1 else k.max) n
  | .not, .bool b => some (.bool !b)
  | _, _ => none

/-- The runes of a string, as Go decodes them. -/
def runesOf (s : ByteArray) : (bound i : Nat) → List Int
  | 0, _ => []
  | bound + 1, i =>
    if i < s.size then
      let (r, width) := Utf8.decode s i
      Int.ofNat r :: runesOf s bound (i + width)
    else []

/-- The elements of a slice of one-cell elements. -/
def elemsOf (h : Heap) : V → Option (List V)
  | .sl b off len _ k => match blockOf h b with
    | some cs => if k = 1 && decide (off + len ≤ cs.length) then some ((cs.drop off).take len) else none
    | none => none
  | .lst xs => xs.mapM fun e => match e with
    | [c] => some c
    | _ => none
  | .nils => some []
  | _ => none

def bytesIn : List V → Option (List UInt8)
  | [] => some []
  | .int .u8 n :: r => match bytesIn r with
    | some bs => some (UInt8.ofNat n.toNat :: bs)
    | none => none
  | _ => none

def runesIn : List V → Option (List Int)
  | [] => some []
  | .int .i32 n :: r => match runesIn r with
    | some ns => some (n :: ns)
    | none => none
  | _ => none

/-- The string of some runes. -/
def encAll (ns : List Int) : ByteArray := ns.foldl (fun s n => s ++ Utf8.encode n) ByteArray.empty

def convV (P : Program) (h : Heap) (src dst : TypeId) (x : V) : Option (V × Heap) :=
  match P.underlying src, P.underlying dst with
  | some (.slice e), some .string => match P.underlying e with
    | some (.int .u8) => match elemsOf h x with
      | some cs => match bytesIn cs with
        | some bs => some (.str ⟨bs.toArray⟩, h)
        | none => none
      | none => none
    | some (.int .i32) => match elemsOf h x with
      | some cs => match runesIn cs with
        | some ns => some (.str (encAll ns), h)
        | none => none
      | none => none
    | _ => none
  | some _, some (.int k) => match x with
    | .int _ n => some (.int k (k.wrap n), h)
    | _ => none
  | some _, some .string => match x with
    | .str s => some (.str s, h)
    | _ => none
  | some _, some (.slice e) => match x with
    | .str s => match P.underlying e with
      | some (.int .i32) => some (.sl h.length 0 (runesOf s s.size 0).length (runesOf s s.size 0).length 1, h ++ [some ((runesOf s s.size 0).map (V.int .i32))])
      | _ => none
    | _ => none
  | _, _ => none

def lenV (P : Program) (t : TypeId) (x : V) : Option V :=
  match P.underlying t, x with
  | some .string, .str s => some (.int .i64 s.size)
  | some (.slice _), .sl _ _ len _ _ => some (.int .i64 len)
  | some (.slice _), .lst xs => some (.int .i64 xs.length)
  | some (.slice _), .nils => some (.int .i64 0)
  | some (.array n _), _ => some (.int .i64 n)
  | _, _ => none

/-- The cells of the first elements of a source that is appended or copied. -/
def srcCells (h : Heap) (s : Nat) : V → Option (Nat × List V)
  | .sl b off len _ k => match blockOf h b with
    | some cs => if k = s && decide (off + len * k ≤ cs.length) then some (len, (cs.drop off).take (len * k)) else none
    | none => none
  | .lst xs => if xs.all (fun e => e.length == s) then some (xs.length, xs.flatten) else none
  | .nils => some (0, [])
  | _ => none

/-- The zero of an element's type is as long as an element. -/
def zeroFits (P : Program) (t : TypeId) (s : Nat) : Bool :=
  match zeroOf P t with
  | some z => (vcells z).length == s
  | none => false

def appendV (P : Program) (cfg : Cfg) (h : Heap) (t u : TypeId) (d x : V) : Option (V × Heap) :=
  match P.underlying t with
  | some (.slice elem) => match szOf P elem, bytesOf P elem with
    | some s, some y => match srcCells h s x with
      | some (n, new) =>
        if new.all V.leaf && decide (0 < s) && decide (t = u) && zeroFits P elem s then
          match d with
          | .nils => if roomy n y then
              if n = 0 then some (.nils, h) else some (.sl h.length 0 n n s, h ++ [some new])
            else none
          | .sl b off len cap k =>
            if k = s && roomy (len + n) y then
              if len + n ≤ cap then
                match storeCellsV cfg h b (off + len * s) new with
                | some h' => some (.sl b off (len + n) cap k, h')
                | none => none
              else match blockOf h b with
                | some cs => if off = 0 && cfg.wr b && decide (len * s ≤ cs.length) then
                    some (.sl h.length 0 (len + n) (len + n) k, (h.set b none) ++ [some (cs.take (len * s) ++ new)])
                  else none
                | none => none
            else none
          | _ => none
        else none
      | none => none
    | _, _ => none
  | _ => none

/-- The elements of a slice made zero. -/
def clearV (P : Program) (cfg : Cfg) (h : Heap) (t : TypeId) (x : V) : Option Heap :=
  match P.underlying t, x with
  | some (.slice _), .nils => some h
  | some (.slice _), .lst [] => some h
  | some (.slice elem), .sl b off len _ k =>
    if len = 0 then some h
    else match szOf P elem, zeroOf P elem with
      | some s, some z => if s = k && ((vcells z).length == s) && decide (0 < s) && (vcells z).all V.leaf then storeCellsV cfg h b off (zerosFor (vcells z) len) else none
      | _, _ => none
  | _, _ => none

def minV : List V → Option V
  | [.int k a, .int _ b] => some (.int k (if b < a then b else a))
  | [.int k a, .int _ b, .int _ c] => some (.int k (if c < (if b < a then b else a) then c else (if b < a then b else a)))
  | _ => none

def maxV : List V → Option V
  | [.int k a, .int _ b] => some (.int k (if b > a then b else a))
  | [.int k a, .int _ b, .int _ c] => some (.int k (if c > (if b > a then b else a) then c else (if b > a then b else a)))
  | _ => none

def nilCheckV : V → Option V
  | .ptr b off => some (.ptr b off)
  | .lptr cs off => some (.lptr cs off)
  | .func (.func f) a c => some (.func (.func f) a c)
  | _ => none

def extractV : V → Nat → Option V
  | .tup vs, i => vs[i]?
  | _, _ => none

/-- Every operation but a call of a Go function. -/
def opV (P : Program) (cfg : Cfg) (fr : List V) (h : Heap) : Op → Option (V × Heap)
  | .move x => (ev fr x).map (·, h)
  | .assign x => (ev fr x).map (·, h)
  | .pick c a b => match ev fr c with
    | some (.bool true) => (ev fr a).map (·, h)
    | some (.bool false) => (ev fr b).map (·, h)
    | _ => none
  | .alloc t => match zeroOf P t with
    | some z => some (.ptr h.length 0, h ++ [some (vcells z)])
    | none => none
  | .box _ x => match ev fr x with
    | some v => match cellsOf v with
      | some cs => some (.ptr h.length 0, h ++ [some cs])
      | none => none
    | none => none
  | .build t ps => match evParts fr ps.toList with
    | some vs => (buildV P t vs).map (·, h)
    | none => none
  | .buildSlice t n ps => match partsInOrder fr 0 ps.toList with
    | some vs => buildSliceV P h t n vs
    | none => none
  | .load t a => match ev fr a with
    | some x => (loadV P h t x).map (·, h)
    | none => none
  | .store t a x => match ev fr a, ev fr x with
    | some p, some v => match storeV P cfg h t p v with
      | some h' => some (.no, h')
      | none => none
    | _, _ => none
  | .nilCheck x => match ev fr x with
    | some v => (nilCheckV v).map (·, h)
    | none => none
  | .binOp op t x y _ => match ev fr x, ev fr y with
    | some a, some b => (binV P op t a b).map (·, h)
    | _, _ => none
  | .unOp op _ x => match ev fr x with
    | some a => (unV op a).map (·, h)
    | none => none
  | .convert s d x => match ev fr x with
    | some a => convV P h s d a
    | none => none
  | .makeFunc fn first captured => match evAll fr first.toList, evAll fr captured.toList with
    | some f, some c => some (.func fn f c, h)
    | _, _ => none
  | .makeSlice t l c => match ev fr l, ev fr c with
    | some a, some b => makeSliceV P h t a b
    | _, _ => none
  | .slice t x lo hi none => match ev fr x with
    | some a => (sliceV P h t a (lo.map (ev fr)) (hi.map (ev fr))).map (·, h)
    | none => none
  | .fieldAddr s x f => match ev fr x with
    | some a => (fieldAddrV P s a f).map (·, h)
    | none => none
  | .field t x f => match ev fr x with
    | some a => (fieldV P t a f).map (·, h)
    | none => none
  | .indexAddr t x i => match ev fr x, ev fr i with
    | some a, some b => (indexAddrV P t a b).map (·, h)
    | _, _ => none
  | .index t x i => match ev fr x, ev fr i with
    | some a, some b => (indexV P t a b).map (·, h)
    | _, _ => none
  | .extract x i => match ev fr x with
    | some a => (extractV a i).map (·, h)
    | none => none
  | .makeMap t none => makeMapV P h t
  | .mapUpdate t m k x => match ev fr m, ev fr k, ev fr x with
    | some a, some b, some c => match mapUpdateV P cfg h t a b c with
      | some h' => some (.no, h')
      | none => none
    | _, _, _ => none
  | .lookup t m k ok => match ev fr m, ev fr k with
    | some a, some b => (lookupV P h t a b ok).map (·, h)
    | _, _ => none
  | .call { callee := .builtin b, args, argTypes } => match evAll fr args.toList with
    | none => none
    | some vs => match b, argTypes.toList, vs with
      | .len, [t], [x] => (lenV P t x).map (·, h)
      | .append, [t, u], [d, x] => appendV P cfg h t u d x
      | .min, _, vs => (minV vs).map (·, h)
      | .max, _, vs => (maxV vs).map (·, h)
      | .clear, [t], [x] => match clearV P cfg h t x with
        | some h' => some (.tup [], h')
        | none => none
      | _, _, _ => none
  | _ => none

/-- Slices of blocks from n on become lists; nothing else may lead there. -/
def chunk (k : Nat) : Nat → List V → List (List V)
  | 0, _ => []
  | n + 1, cs => cs.take k :: chunk k n (cs.drop k)

def frz (h : Heap) (n : Nat) : Nat → V → Option V
  | 0, _ => none
  | d + 1, v => match v with
    | .sl b off len cap k =>
      if b < n then some (.sl b off len cap k)
      else match blockOf h b with
        | some cs => if off + len * k ≤ cs.length then
            match ((cs.drop off).take (len * k)).mapM (frz h n d) with
            | some cs' => if cs'.all V.rf then some (.lst (chunk k len cs')) else none
            | none => none
          else none
        | none => none
    | .ptr b off => if b < n then some (.ptr b off) else none
    | .mref b => if b < n then some (.mref b) else none
    | .nils => some (.lst [])
    | .agg cs => match cs.mapM (frz h n d) with
      | some cs' => some (.agg cs')
      | none => none
    | .tup cs => match cs.mapM (frz h n d) with
      | some cs' => some (.tup cs')
      | none => none
    | .func fn [] [] => some (.func fn [] [])
    | .func _ _ _ => none
    | .iface _ _ => none
    | v => some v

/-- It leads to no block. -/
def V.noref : V → Bool
  | .agg cs => cs.all V.rf
  | .tup cs => cs.all V.rf
  | .func _ f c => f.all V.rf && c.all V.rf
  | v => v.rf

/-- What slices it has lie in blocks of this heap. -/
def own (h : Heap) : Nat → V → Bool
  | 0, _ => false
  | d + 1, v => match v with
    | .sl b off len _ k => match blockOf h b with
      | some cs => ((cs.drop off).take (len * k)).all (own h d)
      | none => false
    | .agg cs => cs.all (own h d)
    | .tup cs => cs.all (own h d)
    | .lst [] => true
    | .bool _ | .int .. | .str _ | .nilp | .nils | .nilf | .nili | .nilm | .no => true
    | _ => false

/-- A nil slice is as good as an empty one. -/
def unnil : V → V
  | .nils => .lst []
  | v => v

def frzA (h : Heap) (v : V) : Option V := (frz h 0 6 v).map unnil

/-- How a function is called: 0: it writes nothing that was there, and what it hands back is frozen (over an empty heap, if what it takes leads to no block);
    1: it may write, and leaves nothing of its own behind; 3: what it takes is frozen for it, and what it hands back is new; else: as it is. -/
def callM (md : FuncId → Nat) (call : Callf) (cfg : Cfg) (f : FuncId) (args : List V) (h : Heap) : Option (V × Heap) :=
  match md f with
  | 0 =>
    if args.all V.noref then
      match call ⟨0, none, 0⟩ f args [] with
      | some (r, h') => match frz h' 0 6 r with
        | some r' => some (r', h)
        | none => none
      | none => none
    else
      match call ⟨h.length, none, h.length⟩ f args h with
      | some (r, h') => match frz h' h.length 6 r with
        | some r' => some (r', h'.take h.length)
        | none => none
      | none => none
  | 1 => match call ⟨cfg.lo, cfg.ex, h.length⟩ f args h with
    | some (r, h') => match frz h' h.length 6 r with
      | some r' => some (r', h'.take h.length)
      | none => none
    | none => none
  | 3 => match args.mapM (frzA h) with
    | none => none
    | some args' => match call ⟨0, none, 0⟩ f args' [] with
      | some (r, h') =>
        if own h' 6 r then
          match frz h' 0 6 r with
          | some r' => some (r', h)
          | none => none
        else none
      | none => none
  | _ => call cfg f args h

def opEv (P : Program) (md : FuncId → Nat) (call : Callf) (cfg : Cfg) (fr : List V) (h : Heap) (op : Op) : Option (V × Heap) :=
  match op with
  | .call { callee := .value f, args, argTypes := _ } => match ev fr f, evAll fr args.toList with
    | some (.func (.func g) first captured), some vs => callM md call cfg g ((first ++ vs) ++ captured) h
    | _, _ => none
  | op => opV P cfg fr h op

def put (fr : List V) : Option Tmp → V → List V
  | some d, v => fr.set d v
  | none, _ => fr

def wantd (ops : Array Oper) (fr : List V) (o : Oper) : Option Bool :=
  match o.guard with
  | none => some true
  | some (j, want) => match ops[j]? with
    | some p => match p.dst with
      | some d => match fr[d]? with
        | some (.bool b) => some (b == want)
        | some .no => some false
        | _ => none
      | none => none
    | none => none

def stepOp (P : Program) (md : FuncId → Nat) (call : Callf) (cfg : Cfg) (ops : Array Oper) (o : Oper) (fr : List V) (h : Heap) : Option (List V × Heap) :=
  match wantd ops fr o with
  | some true => match opEv P md call cfg fr h o.op with
    | some (v, h') => some (put fr o.dst v, h')
    | none => none
  | some false => some (put fr o.dst .no, h)
  | none => none

def runOps (P : Program) (md : FuncId → Nat) (call : Callf) (cfg : Cfg) (ops : Array Oper) : List Oper → List V → Heap → Option (List V × Heap)
  | [], fr, h => some (fr, h)
  | o :: r, fr, h => match stepOp P md call cfg ops o fr h with
    | some (fr', h') => runOps P md call cfg ops r fr' h'
    | none => none

inductive Ex where
  | normal
  | exit (id : Nat)
  | ret

abbrev St := Ex × List V × Heap

def iter (body : List V → Heap → Option St) : Nat → List V → Heap → Option St
  | 0, _, _ => none
  | n + 1, fr, h => match body fr h with
    | some (.normal, fr', h') => iter body n fr' h'
    | r => r

/-- A region that draws its order: how it is carried out is told in another text. -/
abbrev Drawf := Cfg → Array Oper → List V → Heap → Option (List V × Heap)

def code (P : Program) (md : FuncId → Nat) (call : Callf) (draw : Drawf) (cfg : Cfg) (n : Nat) : Code → List V → Heap → Option St
  | .skip, fr, h => some (.normal, fr, h)
  | .region _ ops false, fr, h => match runOps P md call cfg ops ops.toList fr h with
    | some (fr', h') => some (.normal, fr', h')
    | none => none
  | .region _ ops true, fr, h => match draw cfg ops fr h with
    | some (fr', h') => some (.normal, fr', h')
    | none => none
  | .seq a b, fr, h => match code P md call draw cfg n a fr h with
    | some (.normal, fr', h') => code P md call draw cfg n b fr' h'
    | r => r
  | .cond c t e, fr, h => match ev fr c with
    | some (.bool true) => code P md call draw cfg n t fr h
    | some (.bool false) => code P md call draw cfg n e fr h
    | _ => none
  | .block id b, fr, h => match code P md call draw cfg n b fr h with
    | some (.exit i, fr', h') => some (if i = id then .normal else .exit i, fr', h')
    | r => r
  | .loop b, fr, h => iter (code P md call draw cfg n b) n fr h
  | .exit id, fr, h => some (.exit id, fr, h)
  | .ret, fr, h => some (.ret, fr, h)
  | _, _, _ => none

def resV (P : Program) (fr : List V) (h : Heap) : List ResultVar → Option (List V)
  | [] => some []
  | .tmp t :: r => match fr[t]? with
    | some v => match resV P fr h r with
      | some vs => some (v :: vs)
      | none => none
    | none => none
  | .cell a t :: r => match fr[a]? with
    | some p => match loadV P h t p with
      | some v => match resV P fr h r with
        | some vs => some (v :: vs)
        | none => none
      | none => none
    | none => none

def oneOf : List V → V
  | [v] => v
  | vs => .tup vs

def fnEv (P : Program) (md : FuncId → Nat) (call : Callf) (draw : Drawf) (n : Nat) (cfg : Cfg) (fn : Func) (args : List V) (h : Heap) : Option (V × Heap) :=
  match fn.body with
  | none => none
  | some c => match code P md call draw cfg n c (args ++ List.replicate (fn.ntmps - args.length) .no) h with
    | some (.exit _, _, _) => none
    | some (_, fr, h') => match resV P fr h' fn.results.toList with
      | some vs => some (oneOf vs, h')
      | none => none
    | none => none

end Go.Ab
