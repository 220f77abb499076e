/- Several texts of this proof in one. -/
import Derived.Orders
import Derived.LoopN
import Derived.Below
import Derived.Laws.CopyRow
import Derived.Laws.Cells
import Derived.Laws.AppendOwn
import Derived.Laws.StructEq
import Derived.Great.FillDense
set_option linter.all false
/- An abstract evaluator over the model's code: values without addresses where they can be had. The definitions.
   Immutable slices are lists; what is written lies in a small heap of its own; nothing is drawn. -/
namespace Go.Ab
inductive V where
  | any
  | no
  | bool (b : Bool)
  | int (k : IntKind) (n : Int)
  | str (s : ByteArray)
  | nilp
  | ptr (b off : Nat)
  | lptr (cs : List V) (off : Nat)
  | nils
  | sl (b off len cap k : Nat)
  | lst (xs : List (List V))
  | agg (cs : List V)
  | tup (vs : List V)
  | func (fn : Fn) (first captured : List V)
  | nilf
  | iface (t : TypeId) (v : V)
  | nili
  | nilm
  | mref (b : Nat)
  | mp (k e : IntKind) (l : List (Int × Int))
  | mq (l : List (List V))
def V.leaf : V → Bool
  | .any | .no | .agg _ | .tup _ | .mp .. | .mq _ => false
  | _ => true
def V.rf : V → Bool
  | .ptr .. | .sl .. | .func .. | .iface .. | .agg _ | .tup _ | .mref _ => false
  | _ => true
abbrev Heap := List (Option (List V))
structure Cfg where
  lo : Nat
  ex : List Nat
  thr : Nat
def Cfg.wr (c : Cfg) (b : Nat) : Bool := decide (c.lo ≤ b) || c.ex.contains b
abbrev Callf := Cfg → FuncId → List V → Heap → Option (V × Heap)
def ofLeaf : Value → Option V
  | .bool b => some (.bool b)
  | .int k n => some (.int k n)
  | .string s => some (.str s)
  | .pointer none => some .nilp
  | .slice none 0 0 => some .nils
  | .nilFunc => some .nilf
  | .nilIface => some .nili
  | .map none => some .nilm
  | _ => none
def ofVal : Value → Option V
  | .agg cs => (cs.toList.mapM ofLeaf).map .agg
  | .func fn f c => if f.size = 0 && c.size = 0 then some (.func fn [] []) else none
  | v => ofLeaf v
def ev (fr : List V) : Operand → Option V
  | .tmp t => fr[t]?
  | .const v => ofVal v
  | .func f => some (.func (.func f) [] [])
  | .global _ => none
def szOf (P : Program) (t : TypeId) : Option Nat := (P.info? t).map (·.size)
def isAg (P : Program) (t : TypeId) : Option Bool :=
  match P.underlying t with
  | some (.struct _) => some true
  | some (.array _ _) => some true
  | some _ => some false
  | none => none
def zeroOf (P : Program) (t : TypeId) : Option V :=
  match P.info? t with
  | some i => match i.zero with
    | some v => ofVal v
    | none => none
  | none => none
def part (P : Program) (t : TypeId) (cs : List V) (off : Nat) : Option V :=
  match isAg P t with
  | some true => match szOf P t with
    | some s => if off + s ≤ cs.length then some (.agg ((cs.drop off).take s)) else none
    | none => none
  | some false => cs[off]?
  | none => none
def isMap : List V → Bool
  | .mp .. :: _ => true
  | .mq _ :: _ => true
  | _ => false
def blockOf (h : Heap) (b : Nat) : Option (List V) :=
  match h[b]? with
  | some (some cs) => if isMap cs then none else some cs
  | _ => none
def mapsIn (h : Heap) : List Nat := (List.range h.length).filter fun b => match h[b]? with
  | some (some cs) => isMap cs
  | _ => false
def mapOf (h : Heap) (b : Nat) : Option (IntKind × IntKind × List (Int × Int)) :=
  match h[b]? with
  | some (some [.mp k e l]) => some (k, e, l)
  | _ => none
def mget : List (Int × Int) → Int → Option Int
  | [], _ => none
  | (a, v) :: r, x => if x == a then some v else mget r x
def mset : List (Int × Int) → Int → Int → List (Int × Int)
  | [], x, y => [(x, y)]
  | (a, v) :: r, x, y => if x == a then (x, y) :: r else (a, v) :: mset r x y
def mapSOf (h : Heap) (b : Nat) : Option (List (List V)) :=
  match h[b]? with
  | some (some [.mq l]) => some l
  | _ => none
def flatL : V → Bool
  | .bool _ | .int .. | .nilf | .func _ [] [] => true
  | _ => false
def flatV : V → Bool
  | .agg cs => cs.all flatL
  | v => flatL v
def mapKinds (P : Program) (t : TypeId) : Option (IntKind × IntKind) :=
  match P.underlying t with
  | some (.map a b) => match P.underlying a, P.underlying b, zeroOf P b with
    | some (.int k), some (.int e), some (.int e' 0) => if e = e' then some (k, e) else none
    | _, _, _ => none
  | _ => none
def loadV (P : Program) (h : Heap) (t : TypeId) : V → Option V
  | .ptr b off => match blockOf h b with
    | some cs => part P t cs off
    | none => none
  | .lptr cs off => part P t cs off
  | _ => none
def cellsOf : V → Option (List V)
  | .agg cs => if cs.all V.leaf then some cs else none
  | v => if v.leaf then some [v] else none
def putAt (cs : List V) : Nat → List V → List V
  | _, [] => cs
  | off, v :: r => putAt (cs.set off v) (off + 1) r
def storeCellsV (cfg : Cfg) (h : Heap) (b off : Nat) (vs : List V) : Option Heap :=
  match blockOf h b with
  | some cs =>
    if off + vs.length ≤ cs.length && cfg.wr b && (decide (cfg.thr ≤ b) || vs.all V.rf) then some (h.set b (some (putAt cs off vs))) else none
  | none => none
def storeV (P : Program) (cfg : Cfg) (h : Heap) (t : TypeId) (a v : V) : Option Heap :=
  match a, szOf P t, cellsOf v with
  | .ptr b off, some s, some vs => if vs.length = s then storeCellsV cfg h b off vs else none
  | _, _, _ => none
def fieldAddrV (P : Program) (s : TypeId) (a : V) (f : Nat) : Option V :=
  match P.underlying s with
  | some (.struct fields) => match fields[f]? with
    | some fd => match szOf P fd.type with
      | some (_ + 1) => match a with
        | .ptr b off => some (.ptr b (off + fd.offset))
        | .lptr cs off => some (.lptr cs (off + fd.offset))
        | _ => none
      | _ => none
    | none => none
  | _ => none
def fieldV (P : Program) (t : TypeId) (x : V) (f : Nat) : Option V :=
  match P.underlying t with
  | some (.struct fields) => match fields[f]? with
    | some fd => match x with
      | .agg cs => part P fd.type cs fd.offset
      | _ => none
    | none => none
  | _ => none
def indexAddrV (P : Program) (t : TypeId) (x i : V) : Option V :=
  match i with
  | .int _ n =>
    if 0 ≤ n then
      match P.underlying t with
      | some (.slice elem) => match szOf P elem, x with
        | some s, .sl b off len _ k => if n.toNat < len && s == k then some (.ptr b (off + n.toNat * k)) else none
        | some s, .lst xs => match xs[n.toNat]? with
          | some e => if e.length = s then some (.lptr e 0) else none
          | none => none
        | _, _ => none
      | some (.array len elem) => match szOf P elem, x with
        | some s, .ptr b off => if n.toNat < len then some (.ptr b (off + n.toNat * s)) else none
        | some s, .lptr cs off => if n.toNat < len then some (.lptr cs (off + n.toNat * s)) else none
        | _, _ => none
      | _ => none
    else none
  | _ => none
def indexV (P : Program) (t : TypeId) (x i : V) : Option V :=
  match i with
  | .int _ n =>
    if 0 ≤ n then
      match P.underlying t, x with
      | some (.array len elem), .agg cs => match szOf P elem with
        | some s => if n.toNat < len then part P elem cs (n.toNat * s) else none
        | none => none
      | some .string, .str s => match s[n.toNat]? with
        | some b => some (.int .u8 b.toNat)
        | none => none
      | _, _ => none
    else none
  | _ => none
def boundV (d : Nat) : Option (Option V) → Option Nat
  | none => some d
  | some (some (.int _ n)) => if 0 ≤ n then some n.toNat else none
  | some _ => none
def sliceV (P : Program) (h : Heap) (t : TypeId) (x : V) (lo hi : Option (Option V)) : Option V :=
  match P.underlying t, x with
  | some (.slice elem), .sl b off len cap k =>
    match szOf P elem, boundV 0 lo, boundV len hi with
    | some s, some l, some r =>
      if s = k && decide (l ≤ r) && decide (r ≤ len) && decide (len ≤ cap) then
        if l = 0 then some (.sl b off r cap k)
        else if l = r then some (.lst [])
        else some (.sl b (off + l * k) (r - l) (cap - l) k)
      else none
    | _, _, _ => none
  | some (.slice elem), .lst xs =>
    match szOf P elem, boundV 0 lo, boundV xs.length hi with
    | some s, some l, some r => if decide (l ≤ r) && decide (r ≤ xs.length) && (l == r || (xs[l]?).map List.length == some s) then some (.lst ((xs.take r).drop l)) else none
    | _, _, _ => none
  | some (.slice elem), .nils =>
    match szOf P elem, boundV 0 lo, boundV 0 hi with
    | some _, some 0, some 0 => some .nils
    | _, _, _ => none
  | some .string, .str s =>
    match boundV 0 lo, boundV s.size hi with
    | some l, some r => if l ≤ r && r ≤ s.size then some (.str (s.extract l r)) else none
    | _, _ => none
  | some (.array n elem), .ptr b off =>
    match szOf P elem, lo, hi with
    | some s, none, none => match blockOf h b with
      | some cs => if off + n * s ≤ cs.length then some (.sl b off n n s) else none
      | none => none
    | _, _, _ => none
  | _, _ => none
def roomy (n bytes : Nat) : Bool := decide (n * bytes ≤ 2 ^ 40) && decide (n ≤ 2 ^ 40)
def bytesOf (P : Program) (t : TypeId) : Option Nat := (P.info? t).map (·.bytes)
def zerosFor (z : List V) : Nat → List V
  | 0 => []
  | n + 1 => z ++ zerosFor z n
def vcells : V → List V
  | .agg cs => cs
  | v => [v]
def makeSliceV (P : Program) (h : Heap) (t : TypeId) (l c : V) : Option (V × Heap) :=
  match P.underlying t, l, c with
  | some (.slice elem), .int .i64 n, .int .i64 m =>
    match szOf P elem, bytesOf P elem, zeroOf P elem with
    | some s, some y, some z =>
      if 0 ≤ n && n ≤ m && roomy m.toNat y && ((vcells z).length == s) && decide (0 < s) then
        some (.sl h.length 0 n.toNat m.toNat s, h ++ [some (zerosFor (vcells z) m.toNat)])
      else none
    | _, _, _ => none
  | _, _, _ => none
def partsInOrder (fr : List V) : Nat → List (Nat × Operand) → Option (List V)
  | _, [] => some []
  | i, (j, x) :: r =>
    if i = j then
      match ev fr x with
      | some v => match partsInOrder fr (i + 1) r with
        | some vs => some (v :: vs)
        | none => none
      | none => none
    else none
def cellsAll (s : Nat) : List V → Option (List V)
  | [] => some []
  | v :: r => match cellsOf v with
    | some cs => if cs.length = s then match cellsAll s r with
        | some rest => some (cs ++ rest)
        | none => none
      else none
    | none => none
def buildSliceV (P : Program) (h : Heap) (t : TypeId) (len : Nat) (vs : List V) : Option (V × Heap) :=
  match P.underlying t with
  | some (.slice elem) => match szOf P elem with
    | some s => match cellsAll s vs with
      | some cs => if vs.length = len && decide (0 < s) && decide (len * s ≤ 2 ^ 24) && (zeroOf P elem).isSome then some (.sl h.length 0 len len s, h ++ [some cs]) else none
      | none => none
    | none => none
  | _ => none
def fillV (place : Nat → Option (Nat × Nat)) (cs : List V) : List (Nat × V) → Option (List V)
  | [] => some cs
  | (i, v) :: r => match place i, cellsOf v with
    | some (off, s), some vs => if vs.length = s && decide (off + s ≤ cs.length) then fillV place (putAt cs off vs) r else none
    | _, _ => none
def placesOf (P : Program) (fields : Array Field) (i : Nat) : Option (Nat × Nat) :=
  match fields[i]? with
  | some f => match szOf P f.type with
    | some s => some (f.offset, s)
    | none => none
  | none => none
def evParts (fr : List V) : List (Nat × Operand) → Option (List (Nat × V))
  | [] => some []
  | (j, x) :: r => match ev fr x with
    | some v => match evParts fr r with
      | some vs => some ((j, v) :: vs)
      | none => none
    | none => none
def allSized (P : Program) (fields : Array Field) : Bool := fields.toList.all fun f => (szOf P f.type).isSome
def buildV (P : Program) (t : TypeId) (ps : List (Nat × V)) : Option V :=
  match zeroOf P t, P.underlying t with
  | some (.agg z), some (.struct fields) => if allSized P fields then (fillV (placesOf P fields) z ps).map .agg else none
  | some (.agg z), some (.array _ elem) => match szOf P elem with
    | some s => (fillV (fun i => some (i * s, s)) z ps).map .agg
    | none => none
  | _, _ => none
def evAll (fr : List V) : List Operand → Option (List V)
  | [] => some []
  | x :: r => match ev fr x with
    | some v => match evAll fr r with
      | some vs => some (v :: vs)
      | none => none
    | none => none
def intBin (op : BinOp) (k : IntKind) (a b : Int) : Option V :=
  match op with
  | .add => some (.int k (k.wrap (a + b)))
  | .sub => some (.int k (k.wrap (a - b)))
  | .mul => some (.int k (k.wrap (a * b)))
  | .quo => if b = 0 then none else some (.int k (k.wrap (a.tdiv b)))
  | .rem => if b = 0 then none else some (.int k (a.tmod b))
  | .and => some (.int k (k.wrap ((BitVec.ofInt k.bits a &&& BitVec.ofInt k.bits b).toNat : Int)))
  | .or => some (.int k (k.wrap ((BitVec.ofInt k.bits a ||| BitVec.ofInt k.bits b).toNat : Int)))
  | .xor => some (.int k (k.wrap ((BitVec.ofInt k.bits a ^^^ BitVec.ofInt k.bits b).toNat : Int)))
  | .andNot => some (.int k (k.wrap ((BitVec.ofInt k.bits a &&& ~~~(BitVec.ofInt k.bits b)).toNat : Int)))
  | .eql => some (.bool (a == b))
  | .neq => some (.bool (a != b))
  | .lss => some (.bool (decide (a < b)))
  | .leq => some (.bool (decide (a ≤ b)))
  | .gtr => some (.bool (decide (a > b)))
  | .geq => some (.bool (decide (a ≥ b)))
  | _ => none
def strBin (op : BinOp) (a b : ByteArray) : Option V :=
  match op with
  | .add => if ((a.size + b.size : Nat) : Int) > IntKind.i64.max then none else some (.str (a ++ b))
  | .eql => some (.bool (a.toList == b.toList))
  | .neq => some (.bool !(a.toList == b.toList))
  | .lss => some (.bool (Op.bytesLess a.toList b.toList))
  | .leq => some (.bool (Op.bytesLess a.toList b.toList || a.toList == b.toList))
  | .gtr => some (.bool !(Op.bytesLess a.toList b.toList || a.toList == b.toList))
  | .geq => some (.bool !(Op.bytesLess a.toList b.toList))
  | _ => none
def leafEq (P : Program) (t : TypeId) (x y : V) : Option Bool :=
  match P.underlying t, x, y with
  | some (.int _), .int k a, .int k' b => if k = k' then some (a == b) else none
  | some .bool, .bool a, .bool b => some (a == b)
  | some .string, .str a, .str b => some (a.toList == b.toList)
  | _, _, _ => none
def flatEq (P : Program) : Nat → List Field → List V → List V → Option Bool
  | _, [], [], [] => some true
  | i, f :: fs, a :: x, b :: y =>
    if f.offset = i && !(f.name == "_") then
      match leafEq P f.type a b with
      | some true => flatEq P (i + 1) fs x y
      | some false => some false
      | none => none
    else none
  | _, _, _, _ => none
def eqV (P : Program) (t : TypeId) (x y : V) : Option Bool :=
  match x, y with
  | .agg xs, .agg ys => match P.underlying t with
    | some (.struct fields) => if !P.stoodInHeld t && !P.eqGuardType P.depth t then flatEq P 0 fields.toList xs ys else none
    | _ => none
  | .bool a, .bool b => match P.underlying t with
    | some .bool => some (a == b)
    | _ => none
  | .sl .., .nils => match P.underlying t with
    | some (.slice _) => some false
    | _ => none
  | .lst (_ :: _), .nils => match P.underlying t with
    | some (.slice _) => some false
    | _ => none
  | .nils, .nils => match P.underlying t with
    | some (.slice _) => some true
    | _ => none
  | .nilp, .nilp => match P.underlying t with
    | some (.pointer _) => some true
    | _ => none
  | _, _ => none
def keyFields (P : Program) : Nat → List Field → Bool
  | _, [] => true
  | i, f :: fs => decide (f.offset = i) && (match P.underlying f.type with
    | some (.int _) => true
    | some .bool => true
    | _ => false) && keyFields P (i + 1) fs
def mapTys (P : Program) (t : TypeId) : Option (TypeId × List Field × V) :=
  match P.underlying t with
  | some (.map a b) => match P.underlying a, zeroOf P b with
    | some (.struct fields), some z => if keyFields P 0 fields.toList && flatV z then some (a, fields.toList, z) else none
    | _, _ => none
  | _ => none
def mapTyI (P : Program) (t : TypeId) : Option (TypeId × IntKind × V) :=
  match P.underlying t with
  | some (.map a b) => match P.underlying a, zeroOf P b with
    | some (.int k), some z => if flatV z then some (a, k, z) else none
    | _, _ => none
  | _ => none
def findI (k : IntKind) (x : Int) : List (List V) → Option (Option V)
  | [] => some none
  | [.int k' y, v] :: r => if k' = k then (if x = y then some (some v) else findI k x r) else none
  | _ => none
def findS (P : Program) (a : TypeId) (key : V) : List (List V) → Option (Option V)
  | [] => some none
  | [k, v] :: r => match eqV P a key k with
    | some true => some (some v)
    | some false => findS P a key r
    | none => none
  | _ => none
def makeMapV (P : Program) (h : Heap) (t : TypeId) : Option (V × Heap) :=
  match mapKinds P t with
  | some (k, e) => some (.mref h.length, h ++ [some [.mp k e []]])
  | none => match mapTys P t with
    | some _ => some (.mref h.length, h ++ [some [.mq []]])
    | none => match mapTyI P t with
      | some _ => some (.mref h.length, h ++ [some [.mq []]])
      | none => none
def mapUpdateS (P : Program) (cfg : Cfg) (h : Heap) (t : TypeId) (m key v : V) : Option Heap :=
  match mapTys P t, m, key with
  | some (a, fs, _), .mref b, .agg ks => match mapSOf h b with
    | some l => if flatV (.agg ks) && flatV v && decide (ks.length = fs.length) && cfg.wr b then match findS P a (.agg ks) l with
        | some none => some (h.set b (some [.mq (l ++ [[.agg ks, v]])]))
        | _ => none
      else none
    | none => none
  | _, _, _ => none
def mapUpdateI (P : Program) (cfg : Cfg) (h : Heap) (t : TypeId) (m : V) (k1 : IntKind) (x : Int) (v : V) : Option Heap :=
  match mapTyI P t, m with
  | some (_, k, _), .mref b => match mapSOf h b with
    | some l => if k = k1 && flatV v && cfg.wr b then match findI k x l with
        | some none => some (h.set b (some [.mq (l ++ [[.int k x, v]])]))
        | _ => none
      else none
    | none => none
  | _, _ => none
def mapUpdateV (P : Program) (cfg : Cfg) (h : Heap) (t : TypeId) (m key v : V) : Option Heap :=
  match mapKinds P t, m, key, v with
  | some (k, e), .mref b, .int k1 x, .int e1 y => match mapOf h b with
    | some (k2, e2, l) => if k = k1 && e = e1 && k = k2 && e = e2 && cfg.wr b then some (h.set b (some [.mp k e (mset l x y)])) else none
    | none => none
  | none, m, .int k x, v => mapUpdateI P cfg h t m k x v
  | none, m, key, v => mapUpdateS P cfg h t m key v
  | _, _, _, _ => none
def lookupS (P : Program) (h : Heap) (t : TypeId) (m key : V) (ok : Bool) : Option V :=
  match mapTys P t, m, key with
  | some (a, fs, z), .mref b, .agg ks => match mapSOf h b with
    | some l => if flatV (.agg ks) && decide (ks.length = fs.length) then match findS P a (.agg ks) l with
        | some (some y) => some (if ok then .tup [y, .bool true] else y)
        | some none => some (if ok then .tup [z, .bool false] else z)
        | none => none
      else none
    | none => none
  | _, _, _ => none
def lookupI (P : Program) (h : Heap) (t : TypeId) (m : V) (k1 : IntKind) (x : Int) (ok : Bool) : Option V :=
  match mapTyI P t, m with
  | some (_, k, z), .mref b => match mapSOf h b with
    | some l => if k = k1 then match findI k x l with
        | some (some y) => some (if ok then .tup [y, .bool true] else y)
        | some none => some (if ok then .tup [z, .bool false] else z)
        | none => none
      else none
    | none => none
  | _, _ => none
def lookupV (P : Program) (h : Heap) (t : TypeId) (m key : V) (ok : Bool) : Option V :=
  match mapKinds P t, m, key with
  | some (k, e), .mref b, .int k1 x => match mapOf h b with
    | some (k2, e2, l) => if k = k1 && k = k2 && e = e2 then
        match mget l x with
        | some y => some (if ok then .tup [.int e y, .bool true] else .int e y)
        | none => some (if ok then .tup [.int e 0, .bool false] else .int e 0)
      else none
    | none => none
  | none, m, .int k x => lookupI P h t m k x ok
  | none, m, key => lookupS P h t m key ok
  | _, _, _ => none
def binV (P : Program) (op : BinOp) (t : TypeId) (x y : V) : Option V :=
  match op, x, y with
  | .shl, .int k a, .int _ b => if b < 0 then none else some (.int k (k.wrap (a * 2 ^ (min b.toNat k.bits))))
  | .shr, .int k a, .int _ b => if b < 0 then none else some (.int k (a.fdiv (2 ^ (min b.toNat k.bits))))
  | op, .int k a, .int k' b => if k = k' then intBin op k a b else none
  | op, .str a, .str b => strBin op a b
  | .eql, x, y => match eqV P t x y with
    | some b => some (.bool b)
    | none => none
  | .neq, x, y => match eqV P t x y with
    | some b => some (.bool !b)
    | none => none
  | _, _, _ => none
def unV (op : UnOp) (x : V) : Option V :=
  match op, x with
  | .neg, .int k n => some (.int k (k.wrap (0 - n)))
  | .xor, .int k n => intBin .xor k (if k.signed then -1 else k.max) n
  | .not, .bool b => some (.bool !b)
  | _, _ => none
def runesOf (s : ByteArray) : (bound i : Nat) → List Int
  | 0, _ => []
  | bound + 1, i =>
    if i < s.size then
      let (r, width) := Utf8.decode s i
      Int.ofNat r :: runesOf s bound (i + width)
    else []
def elemsOf (h : Heap) : V → Option (List V)
  | .sl b off len _ k => match blockOf h b with
    | some cs => if k = 1 && decide (off + len ≤ cs.length) then some ((cs.drop off).take len) else none
    | none => none
  | .lst xs => xs.mapM fun e => match e with
    | [c] => some c
    | _ => none
  | .nils => some []
  | _ => none
def bytesIn : List V → Option (List UInt8)
  | [] => some []
  | .int .u8 n :: r => match bytesIn r with
    | some bs => some (UInt8.ofNat n.toNat :: bs)
    | none => none
  | _ => none
def runesIn : List V → Option (List Int)
  | [] => some []
  | .int .i32 n :: r => match runesIn r with
    | some ns => some (n :: ns)
    | none => none
  | _ => none
def encAll (ns : List Int) : ByteArray := ns.foldl (fun s n => s ++ Utf8.encode n) ByteArray.empty
def convV (P : Program) (h : Heap) (src dst : TypeId) (x : V) : Option (V × Heap) :=
  match P.underlying src, P.underlying dst with
  | some (.slice e), some .string => match P.underlying e with
    | some (.int .u8) => match elemsOf h x with
      | some cs => match bytesIn cs with
        | some bs => some (.str ⟨bs.toArray⟩, h)
        | none => none
      | none => none
    | some (.int .i32) => match elemsOf h x with
      | some cs => match runesIn cs with
        | some ns => some (.str (encAll ns), h)
        | none => none
      | none => none
    | _ => none
  | some _, some (.int k) => match x with
    | .int _ n => some (.int k (k.wrap n), h)
    | _ => none
  | some _, some .string => match x with
    | .str s => some (.str s, h)
    | _ => none
  | some _, some (.slice e) => match x with
    | .str s => match P.underlying e with
      | some (.int .i32) => some (.sl h.length 0 (runesOf s s.size 0).length (runesOf s s.size 0).length 1, h ++ [some ((runesOf s s.size 0).map (V.int .i32))])
      | _ => none
    | _ => none
  | _, _ => none
def lenV (P : Program) (t : TypeId) (x : V) : Option V :=
  match P.underlying t, x with
  | some .string, .str s => some (.int .i64 s.size)
  | some (.slice _), .sl _ _ len _ _ => some (.int .i64 len)
  | some (.slice _), .lst xs => some (.int .i64 xs.length)
  | some (.slice _), .nils => some (.int .i64 0)
  | some (.array n _), _ => some (.int .i64 n)
  | _, _ => none
def srcCells (h : Heap) (s : Nat) : V → Option (Nat × List V)
  | .sl b off len _ k => match blockOf h b with
    | some cs => if k = s && decide (off + len * k ≤ cs.length) then some (len, (cs.drop off).take (len * k)) else none
    | none => if len = 0 then some (0, []) else none
  | .lst xs => if xs.all (fun e => e.length == s) then some (xs.length, xs.flatten) else none
  | .nils => some (0, [])
  | _ => none
def zeroFits (P : Program) (t : TypeId) (s : Nat) : Bool :=
  match zeroOf P t with
  | some z => (vcells z).length == s
  | none => false
def appendV (P : Program) (cfg : Cfg) (h : Heap) (t u : TypeId) (d x : V) : Option (V × Heap) :=
  match P.underlying t with
  | some (.slice elem) => match szOf P elem, bytesOf P elem with
    | some s, some y => match srcCells h s x with
      | some (n, new) =>
        if new.all V.leaf && decide (0 < s) && decide (t = u) && zeroFits P elem s then
          match d with
          | .nils => if roomy n y then
              if n = 0 then some (.nils, h) else some (.sl h.length 0 n n s, h ++ [some new])
            else none
          | .sl b off len cap k =>
            if k = s && roomy (len + n) y then
              if len + n ≤ cap then
                match storeCellsV cfg h b (off + len * s) new with
                | some h' => some (.sl b off (len + n) cap k, h')
                | none => none
              else match blockOf h b with
                | some cs => if off = 0 && cfg.wr b && decide (len * s ≤ cs.length) then
                    some (.sl h.length 0 (len + n) (len + n) k, (h.set b none) ++ [some (cs.take (len * s) ++ new)])
                  else none
                | none => none
            else none
          | _ => none
        else none
      | none => none
    | _, _ => none
  | _ => none
def clearV (P : Program) (cfg : Cfg) (h : Heap) (t : TypeId) (x : V) : Option Heap :=
  match P.underlying t, x with
  | some (.slice _), .nils => some h
  | some (.slice _), .lst [] => some h
  | some (.slice elem), .sl b off len _ k =>
    if len = 0 then some h
    else match szOf P elem, zeroOf P elem with
      | some s, some z => if s = k && ((vcells z).length == s) && decide (0 < s) && (vcells z).all V.leaf then storeCellsV cfg h b off (zerosFor (vcells z) len) else none
      | _, _ => none
  | _, _ => none
def minV : List V → Option V
  | [.int k a, .int _ b] => some (.int k (if b < a then b else a))
  | [.int k a, .int _ b, .int _ c] => some (.int k (if c < (if b < a then b else a) then c else (if b < a then b else a)))
  | _ => none
def maxV : List V → Option V
  | [.int k a, .int _ b] => some (.int k (if b > a then b else a))
  | [.int k a, .int _ b, .int _ c] => some (.int k (if c > (if b > a then b else a) then c else (if b > a then b else a)))
  | _ => none
def nilCheckV : V → Option V
  | .ptr b off => some (.ptr b off)
  | .lptr cs off => some (.lptr cs off)
  | .func (.func f) a c => some (.func (.func f) a c)
  | _ => none
def extractV : V → Nat → Option V
  | .tup vs, i => vs[i]?
  | _, _ => none
def opV (P : Program) (cfg : Cfg) (fr : List V) (h : Heap) : Op → Option (V × Heap)
  | .move x => (ev fr x).map (·, h)
  | .assign x => (ev fr x).map (·, h)
  | .pick c a b => match ev fr c with
    | some (.bool true) => (ev fr a).map (·, h)
    | some (.bool false) => (ev fr b).map (·, h)
    | _ => none
  | .alloc t => match zeroOf P t with
    | some z => some (.ptr h.length 0, h ++ [some (vcells z)])
    | none => none
  | .box _ x => match ev fr x with
    | some v => match cellsOf v with
      | some cs => some (.ptr h.length 0, h ++ [some cs])
      | none => none
    | none => none
  | .build t ps => match evParts fr ps.toList with
    | some vs => (buildV P t vs).map (·, h)
    | none => none
  | .buildSlice t n ps => match partsInOrder fr 0 ps.toList with
    | some vs => buildSliceV P h t n vs
    | none => none
  | .load t a => match ev fr a with
    | some x => (loadV P h t x).map (·, h)
    | none => none
  | .store t a x => match ev fr a, ev fr x with
    | some p, some v => match storeV P cfg h t p v with
      | some h' => some (.no, h')
      | none => none
    | _, _ => none
  | .nilCheck x => match ev fr x with
    | some v => (nilCheckV v).map (·, h)
    | none => none
  | .binOp op t x y _ => match ev fr x, ev fr y with
    | some a, some b => (binV P op t a b).map (·, h)
    | _, _ => none
  | .unOp op _ x => match ev fr x with
    | some a => (unV op a).map (·, h)
    | none => none
  | .convert s d x => match ev fr x with
    | some a => convV P h s d a
    | none => none
  | .makeFunc fn first captured => match evAll fr first.toList, evAll fr captured.toList with
    | some f, some c => some (.func fn f c, h)
    | _, _ => none
  | .makeSlice t l c => match ev fr l, ev fr c with
    | some a, some b => makeSliceV P h t a b
    | _, _ => none
  | .slice t x lo hi none => match ev fr x with
    | some a => (sliceV P h t a (lo.map (ev fr)) (hi.map (ev fr))).map (·, h)
    | none => none
  | .fieldAddr s x f => match ev fr x with
    | some a => (fieldAddrV P s a f).map (·, h)
    | none => none
  | .field t x f => match ev fr x with
    | some a => (fieldV P t a f).map (·, h)
    | none => none
  | .indexAddr t x i => match ev fr x, ev fr i with
    | some a, some b => (indexAddrV P t a b).map (·, h)
    | _, _ => none
  | .index t x i => match ev fr x, ev fr i with
    | some a, some b => (indexV P t a b).map (·, h)
    | _, _ => none
  | .extract x i => match ev fr x with
    | some a => (extractV a i).map (·, h)
    | none => none
  | .makeMap t none => makeMapV P h t
  | .mapUpdate t m k x => match ev fr m, ev fr k, ev fr x with
    | some a, some b, some c => match mapUpdateV P cfg h t a b c with
      | some h' => some (.no, h')
      | none => none
    | _, _, _ => none
  | .insert t m k x => match ev fr m, ev fr k, ev fr x with
    | some a, some b, some c => match mapUpdateV P cfg h t a b c with
      | some h' => some (.no, h')
      | none => none
    | _, _, _ => none
  | .lookup t m k ok => match ev fr m, ev fr k with
    | some a, some b => (lookupV P h t a b ok).map (·, h)
    | _, _ => none
  | .call { callee := .builtin b, args, argTypes } => match evAll fr args.toList with
    | none => none
    | some vs => match b, argTypes.toList, vs with
      | .len, [t], [x] => (lenV P t x).map (·, h)
      | .append, [t, u], [d, x] => appendV P cfg h t u d x
      | .min, _, vs => (minV vs).map (·, h)
      | .max, _, vs => (maxV vs).map (·, h)
      | .clear, [t], [x] => match clearV P cfg h t x with
        | some h' => some (.tup [], h')
        | none => none
      | _, _, _ => none
  | _ => none
def chunk (k : Nat) : Nat → List V → List (List V)
  | 0, _ => []
  | n + 1, cs => cs.take k :: chunk k n (cs.drop k)
def frz (h : Heap) (n : Nat) : Nat → V → Option V
  | 0, _ => none
  | d + 1, v => match v with
    | .sl b off len cap k =>
      if b < n then some (.sl b off len cap k)
      else match blockOf h b with
        | some cs => if off + len * k ≤ cs.length then
            match ((cs.drop off).take (len * k)).mapM (frz h n d) with
            | some cs' => if cs'.all V.rf then some (.lst (chunk k len cs')) else none
            | none => none
          else none
        | none => none
    | .ptr b off => if b < n then some (.ptr b off) else none
    | .mref b => if b < n then some (.mref b) else none
    | .nils => some (.lst [])
    | .agg cs => match cs.mapM (frz h n d) with
      | some cs' => some (.agg cs')
      | none => none
    | .tup cs => match cs.mapM (frz h n d) with
      | some cs' => some (.tup cs')
      | none => none
    | .func fn [] [] => some (.func fn [] [])
    | .func _ _ _ => none
    | .iface _ _ => none
    | v => some v
def V.noref : V → Bool
  | .agg cs => cs.all V.rf
  | .tup cs => cs.all V.rf
  | .func _ f c => f.all V.rf && c.all V.rf
  | v => v.rf
def own (h : Heap) : Nat → V → Bool
  | 0, _ => false
  | d + 1, v => match v with
    | .sl b off len _ k => match blockOf h b with
      | some cs => ((cs.drop off).take (len * k)).all (own h d)
      | none => false
    | .agg cs => cs.all (own h d)
    | .tup cs => cs.all (own h d)
    | .lst [] => true
    | .bool _ | .int .. | .str _ | .nilp | .nils | .nilf | .nili | .nilm | .no => true
    | _ => false
def unnil : V → V
  | .nils => .lst []
  | v => v
def frzA (h : Heap) (v : V) : Option V := (frz h 0 6 v).map unnil
/-- How a function is called: 0: it writes nothing that was there, and what it hands back is frozen (over an empty heap, if what it takes leads to no block);
    1: it may write, and leaves nothing of its own behind; 3: what it takes is frozen for it, and what it hands back is new; 4: as 1 (where the order is drawn: it may write maps); else: as it is (5: where the order is drawn it may write maps). -/
def callM (md : FuncId → Nat) (call : Callf) (cfg : Cfg) (f : FuncId) (args : List V) (h : Heap) : Option (V × Heap) :=
  match md f with
  | 0 =>
    if args.all V.noref then
      match call ⟨0, [], 0⟩ f args [] with
      | some (r, h') => match frz h' 0 6 r with
        | some r' => some (r', h)
        | none => none
      | none => none
    else
      match call ⟨h.length, [], h.length⟩ f args h with
      | some (r, h') => match frz h' h.length 6 r with
        | some r' => some (r', h'.take h.length)
        | none => none
      | none => none
  | 1 => match call ⟨cfg.lo, cfg.ex, h.length⟩ f args h with
    | some (r, h') => match frz h' h.length 6 r with
      | some r' => some (r', h'.take h.length)
      | none => none
    | none => none
  | 4 => match call ⟨cfg.lo, cfg.ex, h.length⟩ f args h with
    | some (r, h') => match frz h' h.length 6 r with
      | some r' => some (r', h'.take h.length)
      | none => none
    | none => none
  | 3 => match args.mapM (frzA h) with
    | none => none
    | some args' => match call ⟨0, [], 0⟩ f args' [] with
      | some (r, h') =>
        if own h' 6 r then
          match frz h' 0 6 r with
          | some r' => some (r', h)
          | none => none
        else none
      | none => none
  | _ => call cfg f args h
def opEv (P : Program) (md : FuncId → Nat) (call : Callf) (cfg : Cfg) (fr : List V) (h : Heap) (op : Op) : Option (V × Heap) :=
  match op with
  | .call { callee := .value f, args, argTypes := _ } => match ev fr f, evAll fr args.toList with
    | some (.func (.func g) first captured), some vs => callM md call cfg g ((first ++ vs) ++ captured) h
    | _, _ => none
  | op => opV P cfg fr h op
def put (fr : List V) : Option Tmp → V → List V
  | some d, v => fr.set d v
  | none, _ => fr
def wantd (ops : Array Oper) (fr : List V) (o : Oper) : Option Bool :=
  match o.guard with
  | none => some true
  | some (j, want) => match ops[j]? with
    | some p => match p.dst with
      | some d => match fr[d]? with
        | some (.bool b) => some (b == want)
        | some .no => some false
        | _ => none
      | none => none
    | none => none
def stepOp (P : Program) (md : FuncId → Nat) (call : Callf) (cfg : Cfg) (ops : Array Oper) (o : Oper) (fr : List V) (h : Heap) : Option (List V × Heap) :=
  match wantd ops fr o with
  | some true => match opEv P md call cfg fr h o.op with
    | some (v, h') => some (put fr o.dst v, h')
    | none => none
  | some false => some (put fr o.dst .no, h)
  | none => none
def runOps (P : Program) (md : FuncId → Nat) (call : Callf) (cfg : Cfg) (ops : Array Oper) : List Oper → List V → Heap → Option (List V × Heap)
  | [], fr, h => some (fr, h)
  | o :: r, fr, h => match stepOp P md call cfg ops o fr h with
    | some (fr', h') => runOps P md call cfg ops r fr' h'
    | none => none
inductive Ex where
  | normal
  | exit (id : Nat)
  | ret
abbrev St := Ex × List V × Heap
def iter (body : List V → Heap → Option St) : Nat → List V → Heap → Option St
  | 0, _, _ => none
  | n + 1, fr, h => match body fr h with
    | some (.normal, fr', h') => iter body n fr' h'
    | r => r
abbrev Drawf := Cfg → Array Oper → List V → Heap → Option (List V × Heap)
def code (P : Program) (md : FuncId → Nat) (call : Callf) (draw : Drawf) (cfg : Cfg) (n : Nat) : Code → List V → Heap → Option St
  | .skip, fr, h => some (.normal, fr, h)
  | .region _ ops false, fr, h => match runOps P md call cfg ops ops.toList fr h with
    | some (fr', h') => some (.normal, fr', h')
    | none => none
  | .region _ ops true, fr, h => match draw cfg ops fr h with
    | some (fr', h') => some (.normal, fr', h')
    | none => none
  | .seq a b, fr, h => match code P md call draw cfg n a fr h with
    | some (.normal, fr', h') => code P md call draw cfg n b fr' h'
    | r => r
  | .cond c t e, fr, h => match ev fr c with
    | some (.bool true) => code P md call draw cfg n t fr h
    | some (.bool false) => code P md call draw cfg n e fr h
    | _ => none
  | .block id b, fr, h => match code P md call draw cfg n b fr h with
    | some (.exit i, fr', h') => some (if i = id then .normal else .exit i, fr', h')
    | r => r
  | .loop b, fr, h => iter (code P md call draw cfg n b) n fr h
  | .exit id, fr, h => some (.exit id, fr, h)
  | .ret, fr, h => some (.ret, fr, h)
  | _, _, _ => none
def resV (P : Program) (fr : List V) (h : Heap) : List ResultVar → Option (List V)
  | [] => some []
  | .tmp t :: r => match fr[t]? with
    | some v => match resV P fr h r with
      | some vs => some (v :: vs)
      | none => none
    | none => none
  | .cell a t :: r => match fr[a]? with
    | some p => match loadV P h t p with
      | some v => match resV P fr h r with
        | some vs => some (v :: vs)
        | none => none
      | none => none
    | none => none
def oneOf : List V → V
  | [v] => v
  | vs => .tup vs
def fnEv (P : Program) (md : FuncId → Nat) (call : Callf) (draw : Drawf) (n : Nat) (cfg : Cfg) (fn : Func) (args : List V) (h : Heap) : Option (V × Heap) :=
  match fn.body with
  | none => none
  | some c => match code P md call draw cfg n c (args ++ List.replicate (fn.ntmps - args.length) .no) h with
    | some (.exit _, _, _) => none
    | some (_, fr, h') => match resV P fr h' fn.results.toList with
      | some vs => some (oneOf vs, h')
      | none => none
    | none => none
end Go.Ab
namespace Go.Ab
def live (h : Heap) (b : Nat) : Prop := ∃ cs, h[b]? = some (some cs)
theorem live_lt {h : Heap} {b : Nat} (hl : live h b) : b < h.length := by
  obtain ⟨cs, hc⟩ := hl
  exact (List.getElem?_eq_some_iff.1 hc).1
theorem live_of_blockOf {h : Heap} {b : Nat} {cs : List V} (hb : blockOf h b = some cs) : h[b]? = some (some cs) := by
  unfold blockOf at hb
  split at hb
  · rename_i cs' hc
    split at hb
    · cases hb
    · cases hb; exact hc
  · cases hb
theorem notMap_of_blockOf {h : Heap} {b : Nat} {cs : List V} (hb : blockOf h b = some cs) : isMap cs = false := by
  unfold blockOf at hb
  split at hb
  · rename_i cs' hc
    split at hb
    · cases hb
    · rename_i hm; cases hb; simpa using hm
  · cases hb
theorem live_of_mapSOf {h : Heap} {b : Nat} {l : List (List V)} (hb : mapSOf h b = some l) : h[b]? = some (some [.mq l]) := by
  unfold mapSOf at hb
  split at hb
  · rename_i hc; cases hb; exact hc
  · cases hb
theorem live_of_mapOf {h : Heap} {b : Nat} {k e : IntKind} {l : List (Int × Int)} (hb : mapOf h b = some (k, e, l)) : h[b]? = some (some [.mp k e l]) := by
  unfold mapOf at hb
  split at hb
  · rename_i hc; cases hb; exact hc
  · cases hb
structure Mu where
  f : Nat → Option Nat
  z : Nat → Prop
instance : CoeFun Mu (fun _ => Nat → Option Nat) := ⟨Mu.f⟩
def rsz (w : World) (b : Nat) : Nat :=
  match w.heap[b]? with
  | some (.cells c _ _) => c.size
  | _ => 0
def Imm (m : Mu) (h : Heap) (w : World) (b : Nat) : Prop := b < w.heap.size ∧ ¬ m.z b ∧ ∀ x, live h x → m x ≠ some b
inductive R (m : Mu) (h : Heap) (w : World) : V → Value → Prop where
  | any (v : Value) : R m h w .any v
  | no : R m h w .no undef
  | bool (b : Bool) : R m h w (.bool b) (.bool b)
  | int (k : IntKind) (n : Int) : R m h w (.int k n) (.int k n)
  | str (s : ByteArray) : R m h w (.str s) (.string s)
  | nilp : R m h w .nilp (.pointer none)
  | ptr {x off : Nat} {a : Addr} (hlt : x < h.length) (hv : live h x → ∃ b, m x = some b ∧ a = ⟨b, off, none⟩) : R m h w (.ptr x off) (.pointer (some a))
  | lptr {cs : List V} {off b o : Nat} (rv : Nat → Value) (hi : Imm m h w b) (hc : ∀ (i : Nat) (c : V), cs[i]? = some c → w.cell? ⟨b, o + i, none⟩ = some (rv i))
      (hf : ∀ (i : Nat) (c : V), cs[i]? = some c → c.rf = true) (hr : ∀ (i : Nat) (c : V), cs[i]? = some c → R m h w c (rv i)) : R m h w (.lptr cs off) (.pointer (some ⟨b, o + off, none⟩))
  | nils : R m h w .nils (.slice none 0 0)
  | sl {x off len cap k rc : Nat} {a : Addr} (hlt : x < h.length) (hcap : cap ≤ rc) (hlen : len ≤ rc) (hv : live h x → ∃ b, m x = some b ∧ a = ⟨b, off, none⟩ ∧ off + rc * k ≤ rsz w b) :
      R m h w (.sl x off len cap k) (.slice (some a) len rc)
  | lst0 (a : Option Addr) (rc : Nat) (ha : a = none → rc = 0) : R m h w (.lst []) (.slice a 0 rc)
  | lst {xs : List (List V)} {b o k rc : Nat} (rv : Nat → Nat → Value) (hi : Imm m h w b) (hrc : xs.length ≤ rc) (hk : ∀ (i : Nat) (e : List V), xs[i]? = some e → e.length = k)
      (hc : ∀ (i : Nat) (e : List V) (j : Nat) (c : V), xs[i]? = some e → e[j]? = some c → w.cell? ⟨b, o + i * k + j, none⟩ = some (rv i j))
      (hf : ∀ (i : Nat) (e : List V) (j : Nat) (c : V), xs[i]? = some e → e[j]? = some c → c.rf = true)
      (hr : ∀ (i : Nat) (e : List V) (j : Nat) (c : V), xs[i]? = some e → e[j]? = some c → R m h w c (rv i j)) : R m h w (.lst xs) (.slice (some ⟨b, o, none⟩) xs.length rc)
  | agg {cs : List V} {vs : Array Value} (hl : vs.size = cs.length) (hr : ∀ (i : Nat) (c : V) (v : Value), cs[i]? = some c → vs[i]? = some v → R m h w c v) : R m h w (.agg cs) (.agg vs)
  | tup {cs : List V} {vs : Array Value} (hl : vs.size = cs.length) (hr : ∀ (i : Nat) (c : V) (v : Value), cs[i]? = some c → vs[i]? = some v → R m h w c v) : R m h w (.tup cs) (.tuple vs)
  | func {fn : Fn} {f c : List V} {fs cs : Array Value} (hl : fs.size = f.length) (hr : ∀ (i : Nat) (c : V) (v : Value), f[i]? = some c → fs[i]? = some v → R m h w c v)
      (hl' : cs.size = c.length) (hr' : ∀ (i : Nat) (x : V) (v : Value), c[i]? = some x → cs[i]? = some v → R m h w x v) : R m h w (.func fn f c) (.func fn fs cs)
  | nilf : R m h w .nilf .nilFunc
  | nili : R m h w .nili .nilIface
  | nilm : R m h w .nilm (.map none)
  | iface {t : TypeId} {x : V} {v : Value} (hr : R m h w x v) : R m h w (.iface t x) (.iface t v)
  | mref {x : Nat} {b : Nat} (hlt : x < h.length) (hv : live h x → m x = some b) : R m h w (.mref x) (.map (some b))
theorem R.same {m : Mu} {h : Heap} {w w2 : World} (hs : w2.heap.size = w.heap.size) (hz : ∀ b, rsz w2 b = rsz w b) (hc : ∀ p, w2.cell? p = w.cell? p) {x : V} {v : Value} (r : R m h w x v) : R m h w2 x v := by
  have hi : ∀ b, Imm m h w b → Imm m h w2 b := fun b ⟨h1, h2, h3⟩ => ⟨by omega, h2, h3⟩
  induction r with
  | any v => exact .any v
  | no => exact .no
  | bool b => exact .bool b
  | int k n => exact .int k n
  | str s => exact .str s
  | nilp => exact .nilp
  | ptr hlt hv => exact .ptr hlt hv
  | lptr rv h1 h2 h3 _ ih => exact .lptr rv (hi _ h1) (fun i c h => (hc _).trans (h2 i c h)) h3 ih
  | nils => exact .nils
  | sl hlt hcap hlen hv => exact .sl hlt hcap hlen (by simpa only [hz] using hv)
  | lst0 a rc ha => exact .lst0 a rc ha
  | lst rv h1 h2 h3 h4 h5 _ ih => exact .lst rv (hi _ h1) h2 h3 (fun i e j c h h' => (hc _).trans (h4 i e j c h h')) h5 ih
  | agg hl _ ih => exact .agg hl ih
  | tup hl _ ih => exact .tup hl ih
  | func hl _ hl' _ ih ih' => exact .func hl ih hl' ih'
  | nilf => exact .nilf
  | nili => exact .nili
  | nilm => exact .nilm
  | iface _ ih => exact .iface ih
  | mref hlt hv => exact .mref hlt hv
structure Evo (m : Mu) (h : Heap) (w : World) (m' : Mu) (h' : Heap) (w' : World) : Prop where
  zeq : m'.z = m.z
  len : h.length ≤ h'.length
  keep : ∀ x, x < h.length → live h' x → live h x ∧ m' x = m x
  own : ∀ (x b : Nat), live h' x → m' x = some b → (∃ y, live h y ∧ m y = some b) ∨ w.heap.size ≤ b
  frame : ∀ b, b < w.heap.size → (∀ x, live h x → m x ≠ some b) → w'.heap[b]? = w.heap[b]?
  size : w.heap.size ≤ w'.heap.size
  rs : ∀ b, b < w.heap.size → rsz w b ≤ rsz w' b
  os : w'.os = w.os
  tape : w'.tape = w.tape
  output : w'.output = w.output
theorem Evo.refl (m : Mu) (h : Heap) (w : World) : Evo m h w m h w :=
  ⟨rfl, Nat.le_refl _, fun _ _ hl => ⟨hl, rfl⟩, fun x _ hl hb => .inl ⟨x, hl, hb⟩, fun _ _ _ => rfl, Nat.le_refl _, fun _ _ => Nat.le_refl _, rfl, rfl, rfl⟩
theorem Evo.trans {m m' m'' : Mu} {h h' h'' : Heap} {w w' w'' : World} (e : Evo m h w m' h' w') (e' : Evo m' h' w' m'' h'' w'') : Evo m h w m'' h'' w'' where
  zeq := e'.zeq.trans e.zeq
  len := Nat.le_trans e.len e'.len
  keep := fun x hx hl => by
    obtain ⟨hl', he⟩ := e'.keep x (Nat.lt_of_lt_of_le hx e.len) hl
    obtain ⟨hl0, he0⟩ := e.keep x hx hl'
    exact ⟨hl0, he.trans he0⟩
  own := fun x b hl hb => by
    rcases e'.own x b hl hb with ⟨y, hy, hyb⟩ | hge
    · exact e.own y b hy hyb
    · exact .inr (Nat.le_trans e.size hge)
  frame := fun b hb hn => by
    refine (e'.frame b (Nat.lt_of_lt_of_le hb e.size) ?_).trans (e.frame b hb hn)
    intro x hl hx
    rcases e.own x b hl hx with ⟨y, hy, hyb⟩ | hge
    · exact hn y hy hyb
    · exact absurd hb (Nat.not_lt.2 hge)
  size := Nat.le_trans e.size e'.size
  rs := fun b hb => Nat.le_trans (e.rs b hb) (e'.rs b (Nat.lt_of_lt_of_le hb e.size))
  os := e'.os.trans e.os
  tape := e'.tape.trans e.tape
  output := e'.output.trans e.output
theorem Imm.evo {m m' : Mu} {h h' : Heap} {w w' : World} {b : Nat} (e : Evo m h w m' h' w') (hi : Imm m h w b) : Imm m' h' w' b := by
  refine ⟨Nat.lt_of_lt_of_le hi.1 e.size, by rw [e.zeq]; exact hi.2.1, fun x hl hx => ?_⟩
  rcases e.own x b hl hx with ⟨y, hy, hyb⟩ | hge
  · exact hi.2.2 y hy hyb
  · exact absurd hi.1 (Nat.not_lt.2 hge)
theorem cell?_of_block {w w' : World} {b : Nat} (hb : w'.heap[b]? = w.heap[b]?) (o : Nat) : w'.cell? ⟨b, o, none⟩ = w.cell? ⟨b, o, none⟩ := by
  simp [World.cell?, hb]
theorem rsz_of_block {w w' : World} {b : Nat} (hb : w'.heap[b]? = w.heap[b]?) : rsz w' b = rsz w b := by simp [rsz, hb]
theorem Imm.cell {m m' : Mu} {h h' : Heap} {w w' : World} {b : Nat} (e : Evo m h w m' h' w') (hi : Imm m h w b) (o : Nat) : w'.cell? ⟨b, o, none⟩ = w.cell? ⟨b, o, none⟩ :=
  cell?_of_block (e.frame b hi.1 hi.2.2) o
theorem R.evo {m m' : Mu} {h h' : Heap} {w w' : World} (e : Evo m h w m' h' w') (hown : ∀ (x b : Nat), live h x → m x = some b → b < w.heap.size) {x : V} {v : Value} (hr : R m h w x v) : R m' h' w' x v := by
  induction hr with
  | any v => exact .any v
  | no => exact .no
  | bool b => exact .bool b
  | int k n => exact .int k n
  | str s => exact .str s
  | nilp => exact .nilp
  | ptr hlt hv =>
    refine .ptr (Nat.lt_of_lt_of_le hlt e.len) fun hl => ?_
    obtain ⟨hl0, hm⟩ := e.keep _ hlt hl
    obtain ⟨b, hb, hvb⟩ := hv hl0
    exact ⟨b, hm.trans hb, hvb⟩
  | lptr rv hi hc hf _ ih => exact .lptr rv (hi.evo e) (fun i c hic => (hi.cell e _).trans (hc i c hic)) hf ih
  | nils => exact .nils
  | sl hlt hcap hlen hv =>
    refine .sl (Nat.lt_of_lt_of_le hlt e.len) hcap hlen fun hl => ?_
    obtain ⟨hl0, hm⟩ := e.keep _ hlt hl
    obtain ⟨b, hb, hvb, hs⟩ := hv hl0
    exact ⟨b, hm.trans hb, hvb, Nat.le_trans hs (e.rs b (hown _ _ hl0 hb))⟩
  | lst0 a rc ha => exact .lst0 a rc ha
  | lst rv hi hrc hk hc hf _ ih => exact .lst rv (hi.evo e) hrc hk (fun i x j c hx hj => (hi.cell e _).trans (hc i x j c hx hj)) hf ih
  | agg hl _ ih => exact .agg hl ih
  | tup hl _ ih => exact .tup hl ih
  | func hl _ hl' _ ih ih' => exact .func hl ih hl' ih'
  | nilf => exact .nilf
  | nili => exact .nili
  | nilm => exact .nilm
  | iface _ ih => exact .iface ih
  | mref hlt hv =>
    refine .mref (Nat.lt_of_lt_of_le hlt e.len) fun hl => ?_
    obtain ⟨hl0, hm⟩ := e.keep _ hlt hl
    exact hm.trans (hv hl0)
def MapR (k e : IntKind) (l : List (Int × Int)) (es : Array MapEntry) : Prop := es.toList.map (fun x => (x.key, x.val)) = l.map fun x => (Value.int k x.1, Value.int e x.2)
def leafOf : V → Value
  | .bool b => .bool b
  | .int k n => .int k n
  | .nilf => .nilFunc
  | .func fn [] [] => .func fn #[] #[]
  | _ => undef
def valOf : V → Value
  | .agg cs => .agg (cs.map leafOf).toArray
  | v => leafOf v
def MapS (l : List (List V)) (es : Array MapEntry) : Prop := es.toList.map (fun x => (x.key, x.val)) = l.map (fun e => (valOf (e.headD .no), valOf (e.getD 1 .no))) ∧ ∀ e ∈ l, ∃ k v, e = [k, v] ∧ flatV k = true ∧ flatV v = true
def BR (m : Mu) (h : Heap) (w : World) (cs : List V) (b : Nat) : Prop :=
  (∃ arr T, w.heap[b]? = some (.cells arr T (0, 0)) ∧ cs.length ≤ arr.size ∧ ∀ (i : Nat) (c : V), cs[i]? = some c → ∃ v, arr[i]? = some v ∧ R m h w c v) ∨
  (∃ k e l es clock, cs = [.mp k e l] ∧ w.heap[b]? = some (.map es clock) ∧ MapR k e l es) ∨
  (∃ l es clock, cs = [.mq l] ∧ w.heap[b]? = some (.map es clock) ∧ MapS l es)
theorem BR.cells {m : Mu} {h : Heap} {w : World} {cs : List V} {b : Nat} (hb : BR m h w cs b) (hn : isMap cs = false) :
    ∃ arr T, w.heap[b]? = some (.cells arr T (0, 0)) ∧ cs.length ≤ arr.size ∧ ∀ (i : Nat) (c : V), cs[i]? = some c → ∃ v, arr[i]? = some v ∧ R m h w c v := by
  rcases hb with h | ⟨k, e, l, es, clock, rfl, _⟩ | ⟨l, es, clock, rfl, _⟩
  · exact h
  · simp [isMap] at hn
  · simp [isMap] at hn
theorem BR.carry {m m' : Mu} {h h' : Heap} {w w' : World} {cs : List V} {b : Nat} (hb : BR m h w cs b) (hw : w'.heap[b]? = w.heap[b]?) (hr : ∀ (c : V) (v : Value), c ∈ cs → R m h w c v → R m' h' w' c v) : BR m' h' w' cs b := by
  rcases hb with ⟨arr, T, ha, hl, hc⟩ | ⟨k, e, l, es, clock, rfl, ha, hm⟩ | ⟨l, es, clock, rfl, ha, hm⟩
  · refine .inl ⟨arr, T, hw.trans ha, hl, fun i c hi => ?_⟩
    obtain ⟨v, hv, hvr⟩ := hc i c hi
    exact ⟨v, hv, hr c v (List.mem_of_getElem? hi) hvr⟩
  · exact .inr (.inl ⟨k, e, l, es, clock, rfl, hw.trans ha, hm⟩)
  · exact .inr (.inr ⟨l, es, clock, rfl, hw.trans ha, hm⟩)
theorem BR.lt {m : Mu} {h : Heap} {w : World} {cs : List V} {b : Nat} (hb : BR m h w cs b) : b < w.heap.size := by
  rcases Nat.lt_or_ge b w.heap.size with h | h
  · exact h
  · rcases hb with ⟨arr, T, ha, _⟩ | ⟨k, e, l, es, clock, _, ha, _⟩ | ⟨l, es, clock, _, ha, _⟩ <;> simp [Array.getElem?_eq_none h] at ha
structure Rel (m : Mu) (h : Heap) (w : World) : Prop where
  zo : ∀ (x b : Nat), live h x → m x = some b → ¬ m.z b
  zl : ∀ b, m.z b → b < w.heap.size
  inj : ∀ x y b, live h x → live h y → m x = some b → m y = some b → x = y
  blk : ∀ x cs b, h[x]? = some (some cs) → m x = some b → BR m h w cs b
theorem Rel.lt {m : Mu} {h : Heap} {w : World} (r : Rel m h w) : ∀ x b, live h x → m x = some b → b < w.heap.size := by
  rintro x b ⟨cs, hc⟩ hb
  exact (r.blk x cs b hc hb).lt
class Base where
  n : Nat
instance (priority := low) Base.zero : Base := ⟨0⟩
def mark (D : Nat) : Deferred := { target := .collected D, args := #[] }
def Mks (B : Nat) (w : World) (ds : List Deferred) : Prop := B ≤ w.heap.size ∧ ∃ Ds : List Nat, Ds.Nodup ∧ ds = Ds.map mark ∧ ∀ D ∈ Ds, B ≤ D ∧ w.heap[D]? = some (.deferred (some []))
theorem Mks.nil {B : Nat} {w : World} (h : B ≤ w.heap.size) : Mks B w [] := ⟨h, [], List.nodup_nil, rfl, fun _ h => by cases h⟩
theorem Mks.frame {B : Nat} {m : Mu} {h : Heap} {w w' : World} {ds : List Deferred} (r : Rel m h w) (hs : w.heap.size ≤ w'.heap.size) (hf : ∀ b, b < w.heap.size → (∀ x, live h x → m x ≠ some b) → w'.heap[b]? = w.heap[b]?) (k : Mks B w ds) : Mks B w' ds := by
  obtain ⟨h0, Ds, h1, h2, h3⟩ := k
  refine ⟨Nat.le_trans h0 hs, Ds, h1, h2, fun D hD => ?_⟩
  obtain ⟨hB, hd⟩ := h3 D hD
  refine ⟨hB, ?_⟩
  rw [hf D (Array.getElem?_eq_some_iff.1 hd).1 fun x ⟨cs, hx⟩ hm => ?_]
  · exact hd
  · rcases r.blk x cs D hx hm with ⟨arr, T, e, _⟩ | ⟨_, _, _, _, _, _, e, _⟩ | ⟨_, _, _, _, e, _⟩ <;> rw [hd] at e <;> cases e
structure FR [Base] (m : Mu) (h : Heap) (w : World) (fr : List V) (a : Act) : Prop where
  len : fr.length = a.tmps.size
  slot : ∀ (i : Nat) (x : V) (v : Value), fr[i]? = some x → a.tmps[i]? = some v → R m h w x v
  defers : Mks Base.n w a.defers
variable [Base]
theorem FR.evo {m m' : Mu} {h h' : Heap} {w w' : World} {fr : List V} {a : Act} (r : Rel m h w) (e : Evo m h w m' h' w') (f : FR m h w fr a) : FR m' h' w' fr a :=
  ⟨f.len, fun i x v hx hv => (f.slot i x v hx hv).evo e r.lt, f.defers.frame r e.size e.frame⟩
theorem FR.put {m : Mu} {h : Heap} {w : World} {fr : List V} {a : Act} {x : V} {v : Value} (f : FR m h w fr a) (hr : R m h w x v) (d : Option Tmp) : FR m h w (put fr d x) (a.put d v) := by
  cases d with
  | none => exact f
  | some d =>
    refine ⟨by simp [Ab.put, Act.put, f.len], fun i y u hy hu => ?_, f.defers⟩
    simp only [Ab.put, Act.put] at hy hu
    by_cases hid : d = i
    · subst hid
      have hlt : d < fr.length := by
        rcases Nat.lt_or_ge d fr.length with h | h
        · exact h
        · rw [List.set_eq_of_length_le h] at hy; simp [List.getElem?_eq_none h] at hy
      rw [List.getElem?_set_self hlt] at hy
      rw [Array.getElem?_setIfInBounds_self_of_lt (by rw [← f.len]; exact hlt)] at hu
      cases hy; cases hu; exact hr
    · rw [List.getElem?_set_ne hid] at hy
      rw [Array.getElem?_setIfInBounds_ne hid] at hu
      exact f.slot i y u hy hu
theorem ofLeaf_R {m : Mu} {h : Heap} {w : World} {v : Value} {x : V} (hv : ofLeaf v = some x) : R m h w x v := by
  unfold ofLeaf at hv
  split at hv <;> first | (cases hv; constructor) | cases hv
theorem mapM_ofLeaf {m : Mu} {h : Heap} {w : World} : ∀ {vs : List Value} {xs : List V}, vs.mapM ofLeaf = some xs → vs.length = xs.length ∧ ∀ (i : Nat) (c : V) (v : Value), xs[i]? = some c → vs[i]? = some v → R m h w c v
  | [], xs, hx => by simp at hx; subst hx; simp
  | v :: vs, xs, hx => by
    simp only [List.mapM_cons, Option.bind_eq_bind, Option.bind_eq_some_iff, Option.pure_def] at hx
    obtain ⟨x, hx1, xs', hx2, hx3⟩ := hx
    cases hx3
    obtain ⟨hl, ih⟩ := mapM_ofLeaf (m := m) (h := h) (w := w) hx2
    refine ⟨by simp [hl], fun i c u hc hu => ?_⟩
    cases i with
    | zero => simp at hc hu; subst hc hu; exact ofLeaf_R hx1
    | succ i => simp at hc hu; exact ih i c u hc hu
theorem ofVal_R {m : Mu} {h : Heap} {w : World} {v : Value} {x : V} (hv : ofVal v = some x) : R m h w x v := by
  unfold ofVal at hv
  split at hv
  · rename_i cs
    simp only [Option.map_eq_some_iff] at hv
    obtain ⟨xs, hx, rfl⟩ := hv
    obtain ⟨hl, hr⟩ := mapM_ofLeaf (m := m) (h := h) (w := w) hx
    exact .agg (by simpa using hl) (fun i c u hc hu => hr i c u hc (by simpa using hu))
  · rename_i fn f c
    split at hv
    · rename_i hz
      simp only [Bool.and_eq_true, decide_eq_true_eq] at hz
      cases hv
      exact .func (by simpa using hz.1) (by simp) (by simpa using hz.2) (by simp)
    · cases hv
  · exact ofLeaf_R hv
theorem ev_R {m : Mu} {h : Heap} {w : World} {fr : List V} {a : Act} (f : FR m h w fr a) {o : Operand} {x : V} (hx : ev fr o = some x) : R m h w x (a.eval o) := by
  cases o with
  | tmp t =>
    simp only [ev] at hx
    have hlt : t < a.tmps.size := by rw [← f.len]; exact (List.getElem?_eq_some_iff.1 hx).1
    have : a.eval (.tmp t) = a.tmps[t] := by simp [Act.eval, hlt]
    rw [this]
    exact f.slot t x _ hx (Array.getElem?_eq_getElem hlt)
  | const v => exact ofVal_R hx
  | global g => simp [ev] at hx
  | func g => simp only [ev] at hx; cases hx; exact .func rfl (by simp) rfl (by simp)
theorem evAll_R {m : Mu} {h : Heap} {w : World} {fr : List V} {a : Act} (f : FR m h w fr a) : ∀ {os : List Operand} {xs : List V}, evAll fr os = some xs →
    (os.map a.eval).length = xs.length ∧ ∀ (i : Nat) (c : V) (v : Value), xs[i]? = some c → (os.map a.eval)[i]? = some v → R m h w c v
  | [], xs, hx => by simp [evAll] at hx; subst hx; simp
  | o :: os, xs, hx => by
    simp only [evAll] at hx
    split at hx
    · rename_i x hx1
      split at hx
      · rename_i vs hx2
        cases hx
        obtain ⟨hl, ih⟩ := evAll_R f hx2
        refine ⟨by simpa using hl, fun i c u hc hu => ?_⟩
        cases i with
        | zero => simp at hc hu; subst hc hu; exact ev_R f hx1
        | succ i => simp only [List.getElem?_cons_succ, List.map_cons] at hc hu; exact ih i c u hc hu
      · cases hx
    · cases hx
end Go.Ab
namespace Go.Ab
section
variable {P : Program} {m : Mu} {h : Heap} {w : World}
theorem szOf_info {t : TypeId} {s : Nat} (hs : szOf P t = some s) : ∃ i, P.info? t = some i ∧ i.size = s := by
  unfold szOf at hs
  simpa [Option.map_eq_some_iff] using hs
theorem run_sizeOf' {t : TypeId} {s : Nat} (hs : szOf P t = some s) (w : World) : (sizeOf t).run P w = .ok s w := by
  obtain ⟨i, hi, rfl⟩ := szOf_info hs
  simp [sizeOf, typeInfo, hi]
theorem run_isAgg' {t : TypeId} {b : Bool} (hb : isAg P t = some b) (w : World) : (isAgg t).run P w = .ok b w := by
  unfold isAg at hb
  split at hb
  · rename_i d hd; cases hb; simp [isAgg, run_underlying hd]
  · rename_i d hd; cases hb; simp [isAgg, run_underlying hd]
  · rename_i d hn1 hn2 hd
    cases hb
    simp only [isAgg, Sem.run_bind, run_underlying hd, Result.andThen_ok]
    cases d <;> first | rfl | exact absurd rfl (hn1 _) | exact absurd rfl (hn2 _ _)
  · cases hb
theorem run_zeroValue' {t : TypeId} {z : V} (hz : zeroOf P t = some z) (w : World) : ∃ v, (zeroValue t).run P w = .ok v w ∧ ofVal v = some z ∧ (P.info? t).bind (·.zero) = some v := by
  unfold zeroOf at hz
  split at hz
  · rename_i i hi
    split at hz
    · rename_i v hv
      exact ⟨v, by simp [zeroValue, typeInfo, hi, hv], hz, by simp [hi, hv]⟩
    · cases hz
  · cases hz
def Pt (m : Mu) (h : Heap) (w : World) (b o : Nat) (cs : List V) : Prop := ∀ (i : Nat) (c : V), cs[i]? = some c → ∃ v, w.cell? ⟨b, o + i, none⟩ = some v ∧ R m h w c v
theorem add_lit (b o n : Nat) : (⟨b, o, none⟩ : Addr).add n = ⟨b, o + n, none⟩ := by unfold Addr.add; split <;> simp_all
theorem R.ptr_at {x off : Nat} {v : Value} {cs : List V} (r : Rel m h w) (hv : R m h w (.ptr x off) v) (hb : blockOf h x = some cs) :
    ∃ b arr T, m x = some b ∧ v = .pointer (some ⟨b, off, none⟩) ∧ w.heap[b]? = some (.cells arr T (0, 0)) ∧ cs.length ≤ arr.size ∧ Pt m h w b 0 cs := by
  have hc := live_of_blockOf hb
  cases hv with
  | ptr hlt hv =>
    obtain ⟨b, hmb, rfl⟩ := hv ⟨cs, hc⟩
    obtain ⟨arr, T, ha, hl, hr⟩ := (r.blk x cs b hc hmb).cells (notMap_of_blockOf hb)
    refine ⟨b, arr, T, hmb, rfl, ha, hl, fun i c hic => ?_⟩
    obtain ⟨u, hu, hru⟩ := hr i c hic
    exact ⟨u, by simp [World.cell?, ha, hu], hru⟩
theorem R.lptr_at {cs : List V} {off : Nat} {v : Value} (hv : R m h w (.lptr cs off) v) : ∃ b o, v = .pointer (some ⟨b, o + off, none⟩) ∧ Pt m h w b o cs := by
  cases hv with
  | lptr rv hi hc hf hr => exact ⟨_, _, rfl, fun i c hic => ⟨rv i, hc i c hic, hr i c hic⟩⟩
theorem part_load {b o off : Nat} {cs : List V} {t : TypeId} {x : V} (hp : Pt m h w b o cs) (hx : part P t cs off = some x) :
    ∃ v, (loadVar t ⟨b, o + off, none⟩).run P w = .ok v w ∧ R m h w x v := by
  unfold part at hx
  split at hx
  · rename_i hag
    split at hx
    · rename_i s hs
      split at hx
      · rename_i hle
        cases hx
        have hall : ∀ j, j < s → ∃ v, w.cell? (Addr.add ⟨b, o + off, none⟩ j) = some v ∧ ∀ c, cs[off + j]? = some c → R m h w c v := by
          intro j hj
          have hlt : off + j < cs.length := by omega
          obtain ⟨v, hv, hr⟩ := hp (off + j) cs[off + j] (List.getElem?_eq_getElem hlt)
          refine ⟨v, by rw [add_lit, Nat.add_assoc]; exact hv, fun c hc => ?_⟩
          rw [List.getElem?_eq_getElem hlt] at hc
          cases hc; exact hr
        let f : Nat → Value := fun j => if hj : j < s then Classical.choose (hall j hj) else undef
        have hf : ∀ j, j < s → w.cell? (Addr.add ⟨b, o + off, none⟩ j) = some (f j) := fun j hj => by
          simp only [f, hj, dite_true]; exact (Classical.choose_spec (hall j hj)).1
        have hf2 : ∀ j, j < s → ∀ c, cs[off + j]? = some c → R m h w c (f j) := fun j hj => by
          simp only [f, hj, dite_true]; exact (Classical.choose_spec (hall j hj)).2
        refine ⟨.agg ((List.range s).map f).toArray, ?_, .agg (by simp; omega) ?_⟩
        · simp [loadVar, run_isAgg' hag, run_sizeOf' hs, run_loadCells w _ s f hf]
        · intro i c v hc hv
          rw [List.getElem?_take] at hc
          split at hc
          · rename_i his
            rw [List.getElem?_drop] at hc
            simp [his] at hv
            subst hv
            exact hf2 i his c hc
          · cases hc
      · cases hx
    · cases hx
  · rename_i hag
    obtain ⟨v, hv, hr⟩ := hp off x hx
    refine ⟨v, ?_, hr⟩
    simp [loadVar, run_isAgg' hag, hv]
  · cases hx
theorem load_ok {t : TypeId} {p x : V} {pv : Value} (r : Rel m h w) (hp : R m h w p pv) (hx : loadV P h t p = some x) :
    ∃ v, (Instr.loadAt t pv).run P w = .ok v w ∧ R m h w x v := by
  unfold loadV at hx
  split at hx
  · rename_i y off
    split at hx
    · rename_i cs hb
      obtain ⟨b, arr, T, _, rfl, _, _, hpt⟩ := hp.ptr_at r hb
      obtain ⟨v, hv, hr⟩ := part_load hpt hx
      rw [Nat.zero_add] at hv
      exact ⟨v, by simp [Instr.loadAt, Instr.sureAddr, hv], hr⟩
    · cases hx
  · rename_i cs off
    obtain ⟨b, o, rfl, hpt⟩ := hp.lptr_at
    obtain ⟨v, hv, hr⟩ := part_load hpt hx
    exact ⟨v, by simp [Instr.loadAt, Instr.sureAddr, hv], hr⟩
  · cases hx
theorem R.lptr_off {cs : List V} {off : Nat} {v : Value} (d : Nat) (hv : R m h w (.lptr cs off) v) : ∃ a, v = .pointer (some a) ∧ R m h w (.lptr cs (off + d)) (.pointer (some (a.add d))) := by
  cases hv with
  | lptr rv hi hc hf hr => exact ⟨_, rfl, by rw [add_lit, Nat.add_assoc]; exact .lptr rv hi hc hf hr⟩
theorem add_add_lit {b off d : Nat} {a : Addr} (ha : a = ⟨b, off, none⟩) : a.add d = ⟨b, off + d, none⟩ := by subst ha; exact add_lit _ _ _
theorem R.ptr_off {x off : Nat} {v : Value} (d : Nat) (hv : R m h w (.ptr x off) v) : ∃ a, v = .pointer (some a) ∧ R m h w (.ptr x (off + d)) (.pointer (some (a.add d))) := by
  cases hv with
  | ptr hlt hv =>
    refine ⟨_, rfl, .ptr hlt fun hl => ?_⟩
    obtain ⟨b, hb, ha⟩ := hv hl
    exact ⟨b, hb, add_add_lit ha⟩
end
end Go.Ab
namespace Go.Ab
section
variable {P : Program} {m : Mu} {h : Heap} {w : World}
theorem fieldAddr_ok {s : TypeId} {f : Nat} {p x : V} {pv : Value} (hp : R m h w p pv) (hx : fieldAddrV P s p f = some x) :
    ∃ v, (Instr.fieldAt s pv f).run P w = .ok v w ∧ R m h w x v := by
  unfold fieldAddrV at hx
  split at hx
  · rename_i fields hu
    split at hx
    · rename_i fd hfd
      split at hx
      · rename_i n hs
        have hsz := run_sizeOf' hs w
        split at hx
        · rename_i y off
          cases hx
          obtain ⟨a, rfl, hr⟩ := hp.ptr_off fd.offset
          exact ⟨_, by simp [Instr.fieldAt, run_underlying hu, hfd, Instr.sureAddr, fieldPlace, hsz], hr⟩
        · rename_i cs off
          cases hx
          obtain ⟨a, rfl, hr⟩ := hp.lptr_off fd.offset
          exact ⟨_, by simp [Instr.fieldAt, run_underlying hu, hfd, Instr.sureAddr, fieldPlace, hsz], hr⟩
        · cases hx
      · cases hx
    · cases hx
  · cases hx
theorem agg_part {t : TypeId} {cs : List V} {vs : Array Value} {off : Nat} {x : V} (hl : vs.size = cs.length) (hr : ∀ (i : Nat) (c : V) (v : Value), cs[i]? = some c → vs[i]? = some v → R m h w c v)
    (hx : part P t cs off = some x) : ∃ v, (Go.part t vs off).run P w = .ok v w ∧ R m h w x v := by
  unfold part at hx
  split at hx
  · rename_i hag
    split at hx
    · rename_i s hs
      split at hx
      · rename_i hle
        cases hx
        refine ⟨.agg (vs.extract off (off + s)), by simp [Go.part, run_isAgg' hag, run_sizeOf' hs], .agg ?_ ?_⟩
        · simp; omega
        · intro i c v hc hv
          rw [List.getElem?_take] at hc
          split at hc
          · rename_i his
            rw [List.getElem?_drop] at hc
            rw [Array.getElem?_extract] at hv
            split at hv
            · exact hr (off + i) c v hc hv
            · cases hv
          · cases hc
      · cases hx
    · cases hx
  · rename_i hag
    have hlt : off < vs.size := by rw [hl]; exact (List.getElem?_eq_some_iff.1 hx).1
    refine ⟨vs[off], by simp [Go.part, run_isAgg' hag, hlt], hr off x _ hx (Array.getElem?_eq_getElem hlt)⟩
  · cases hx
theorem field_ok {t : TypeId} {f : Nat} {p x : V} {pv : Value} (hp : R m h w p pv) (hx : fieldV P t p f = some x) :
    ∃ v, (Instr.field t pv f).run P w = .ok v w ∧ R m h w x v := by
  unfold fieldV at hx
  split at hx
  · rename_i fields hu
    split at hx
    · rename_i fd hfd
      split at hx
      · cases hp with
        | agg hl hr =>
          obtain ⟨v, hv, hrv⟩ := agg_part hl hr hx
          exact ⟨v, by simp [Instr.field, run_underlying hu, hfd, asAgg, hv], hrv⟩
      · cases hx
    · cases hx
  · cases hx
theorem lt_of_toNat {n : Int} {len : Nat} (h0 : 0 ≤ n) (h1 : n.toNat < len) : n < (len : Int) := by omega
theorem indexAddr_ok {t : TypeId} {x i y : V} {xv iv : Value} (hx : R m h w x xv) (hi : R m h w i iv) (hy : indexAddrV P t x i = some y) :
    ∃ v, (Instr.indexAt t xv iv).run P w = .ok v w ∧ R m h w y v := by
  unfold indexAddrV at hy
  split at hy
  · rename_i k n
    cases hi
    split at hy
    · rename_i h0
      split at hy
      · rename_i elem hu
        split at hy
        · rename_i s b off len cap k' hs
          split at hy
          · rename_i hc
            simp only [Bool.and_eq_true, decide_eq_true_eq, beq_iff_eq] at hc
            obtain ⟨hlt, rfl⟩ := hc
            cases hy
            have hlt' := lt_of_toNat h0 hlt
            cases hx with
            | sl hlt hcap hlen hv =>
              rename_i rc a
              refine ⟨.pointer (some (a.add (n.toNat * s))), by simp [Instr.indexAt, asIntOf, run_underlying hu, h0, hlt', run_sizeOf' hs], .ptr hlt fun hl => ?_⟩
              obtain ⟨b, hb, ha, _⟩ := hv hl
              exact ⟨b, hb, add_add_lit ha⟩
          · cases hy
        · rename_i s xs hs
          split at hy
          · rename_i e he
            split at hy
            · rename_i hes
              cases hy
              have hlt : n.toNat < xs.length := (List.getElem?_eq_some_iff.1 he).1
              have hlt' := lt_of_toNat h0 hlt
              cases hx with
              | lst0 a rc _ => simp at hlt
              | lst rv him hrc hk hc hf hr =>
                rename_i b o k2 rc
                obtain rfl : s = k2 := by rw [← hes]; exact hk _ _ he
                refine ⟨.pointer (some (Addr.add ⟨b, o, none⟩ (n.toNat * s))), by simp [Instr.indexAt, asIntOf, run_underlying hu, h0, hlt', run_sizeOf' hs], ?_⟩
                rw [add_lit]
                exact .lptr (o := o + n.toNat * s) (off := 0) (rv n.toNat) him (fun j c hj => hc _ _ j c he hj) (fun j c hj => hf _ _ j c he hj) (fun j c hj => hr _ _ j c he hj)
            · cases hy
          · cases hy
        · cases hy
      · rename_i len elem hu
        split at hy
        · rename_i s b off hs
          split at hy
          · rename_i hlt
            cases hy
            have hlt' := lt_of_toNat h0 hlt
            obtain ⟨a, rfl, hr⟩ := hx.ptr_off (n.toNat * s)
            exact ⟨_, by simp [Instr.indexAt, asIntOf, run_underlying hu, h0, hlt', run_sizeOf' hs, Instr.sureAddr], hr⟩
          · cases hy
        · rename_i s cs off hs
          split at hy
          · rename_i hlt
            cases hy
            have hlt' := lt_of_toNat h0 hlt
            obtain ⟨a, rfl, hr⟩ := hx.lptr_off (n.toNat * s)
            exact ⟨_, by simp [Instr.indexAt, asIntOf, run_underlying hu, h0, hlt', run_sizeOf' hs, Instr.sureAddr], hr⟩
          · cases hy
        · cases hy
      · cases hy
    · cases hy
  · cases hy
end
end Go.Ab
namespace Go.Ab
section
variable {P : Program} {m : Mu} {h : Heap} {w : World}
theorem index_ok {t : TypeId} {x i y : V} {xv iv : Value} (hx : R m h w x xv) (hi : R m h w i iv) (hy : indexV P t x i = some y) :
    ∃ v, (Instr.index t xv iv).run P w = .ok v w ∧ R m h w y v := by
  unfold indexV at hy
  split at hy
  · rename_i k n
    cases hi
    split at hy
    · rename_i h0
      split at hy
      · rename_i len elem cs hu
        split at hy
        · rename_i s hs
          split at hy
          · rename_i hlt
            have hlt' := lt_of_toNat h0 hlt
            cases hx with
            | agg hl hr =>
              obtain ⟨v, hv, hrv⟩ := agg_part hl hr hy
              exact ⟨v, by simp [Instr.index, asIntOf, run_underlying hu, h0, hlt', run_sizeOf' hs, hv], hrv⟩
          · cases hy
        · cases hy
      · rename_i s hu
        split at hy
        · rename_i b hb
          cases hy
          cases hx
          exact ⟨.int .u8 b.toNat, by simp [Instr.index, asIntOf, run_underlying hu, h0, hb], .int _ _⟩
        · cases hy
      · cases hy
    · cases hy
  · cases hy
theorem bound_run {d y r : Nat} {c : BoundsCode} {o : Option (Option V)} {ov : Option Value} (hb : boundV d o = some r) (hr : ∀ x v, o = some (some x) → ov = some v → R m h w x v) (hs : o.isSome = ov.isSome) (hle : r ≤ y) :
    (o = none ∧ ov = none ∧ r = d) ∨ ∃ v, ov = some v ∧ (Instr.sliceBound v y c).run P w = .ok r w := by
  unfold boundV at hb
  split at hb
  · cases hb; cases ov with
    | none => exact .inl ⟨rfl, rfl, rfl⟩
    | some v => simp at hs
  · rename_i k n
    split at hb
    · rename_i h0
      cases hb
      cases ov with
      | none => simp at hs
      | some v =>
        refine .inr ⟨v, rfl, ?_⟩
        have := hr _ v rfl rfl
        cases this
        have h1 : n ≤ (y : Int) := by omega
        simp [Instr.sliceBound, asIntOf, h0, h1]
    · cases hb
  · cases hb
theorem bounds_run {isS : Bool} {len cap l r : Nat} {lo hi : Option (Option V)} {lov hiv : Option Value}
    (hl : boundV 0 lo = some l) (hh : boundV len hi = some r)
    (hrl : ∀ x v, lo = some (some x) → lov = some v → R m h w x v) (hrh : ∀ x v, hi = some (some x) → hiv = some v → R m h w x v)
    (hsl : lo.isSome = lov.isSome) (hsh : hi.isSome = hiv.isSome) (hlr : l ≤ r) (hrc : r ≤ cap) :
    (Instr.sliceBounds isS len cap lov hiv none).run P w = .ok (l, r, cap) w := by
  rcases bound_run (P := P) (w := w) (c := if isS then .sliceAcap else .sliceAlen) hh hrh hsh hrc with ⟨rfl, rfl, rfl⟩ | ⟨v, rfl, hv⟩
  · rcases bound_run (P := P) (w := w) (c := .sliceB) hl hrl hsl hlr with ⟨rfl, rfl, rfl⟩ | ⟨u, rfl, hu⟩
    · simp [Instr.sliceBounds]
    · simp [Instr.sliceBounds, hu]
  · rcases bound_run (P := P) (w := w) (c := .sliceB) hl hrl hsl hlr with ⟨rfl, rfl, rfl⟩ | ⟨u, rfl, hu⟩
    · simp [Instr.sliceBounds, hv]
    · simp [Instr.sliceBounds, hv, hu]
theorem R.lst_slice {xs : List (List V)} {v : Value} (hv : R m h w (.lst xs) v) (l r : Nat) (hlr : l ≤ r) (hr : r ≤ xs.length) (s : Nat) (hsz : l = r ∨ (xs[l]?).map List.length = some s) :
    ∃ a rc, v = .slice a xs.length rc ∧ r ≤ rc ∧ R m h w (.lst ((xs.take r).drop l)) (.slice (if rc = l then a else a.map (·.add (l * s))) (r - l) (rc - l)) := by
  by_cases hlr' : l = r
  · subst hlr'
    have : (xs.take l).drop l = [] := by simp
    rw [this, Nat.sub_self]
    cases hv with
    | lst0 a rc ha => exact ⟨a, rc, rfl, by simp at hr; omega, .lst0 _ _ (fun h => by cases a with | none => (have := ha rfl; omega) | some x => (split at h <;> cases h))⟩
    | lst rv him hrc hk hc hf hr' => exact ⟨_, _, rfl, by omega, .lst0 _ _ (fun h => by split at h <;> cases h)⟩
  · have hs := hsz.resolve_left hlr'
    cases hv with
    | lst0 a rc _ => simp at hs
    | lst rv him hrc hk hc hf hr' =>
      rename_i b o k rc
      refine ⟨_, _, rfl, by omega, ?_⟩
      have hne : ¬ rc = l := by omega
      simp only [Option.map_eq_some_iff] at hs
      obtain ⟨e, he, hel⟩ := hs
      obtain rfl : s = k := by rw [← hel]; exact hk _ _ he
      rw [if_neg hne]
      simp only [Option.map_some, add_lit]
      have hlen : ((xs.take r).drop l).length = r - l := by simp; omega
      have hget : ∀ (i : Nat) (e : List V), ((xs.take r).drop l)[i]? = some e → xs[l + i]? = some e := by
        intro i e he
        rw [List.getElem?_drop, List.getElem?_take] at he
        split at he
        · exact he
        · cases he
      rw [← hlen]
      refine .lst (k := s) (fun i j => rv (l + i) j) him (by omega) (fun i e he => hk _ _ (hget i e he)) ?_ (fun i e j c he hj => hf _ _ j c (hget i e he) hj) (fun i e j c he hj => hr' _ _ j c (hget i e he) hj)
      intro i e j c he hj
      have := hc _ _ j c (hget i e he) hj
      rw [show o + l * s + i * s + j = o + (l + i) * s + j by rw [Nat.add_mul]; omega]
      exact this
theorem slice_ok {t : TypeId} {x y : V} {xv : Value} {lo hi : Option (Option V)} {lov hiv : Option Value} (rel : Rel m h w) (hx : R m h w x xv)
    (hrl : ∀ x v, lo = some (some x) → lov = some v → R m h w x v) (hrh : ∀ x v, hi = some (some x) → hiv = some v → R m h w x v)
    (hsl : lo.isSome = lov.isSome) (hsh : hi.isSome = hiv.isSome) (hy : sliceV P h t x lo hi = some y) :
    ∃ v, (Instr.sliceAt t xv lov hiv none).run P w = .ok v w ∧ R m h w y v := by
  unfold sliceV at hy
  split at hy
  · rename_i elem b off len cap k hu
    split at hy
    · rename_i s l r hs hl hr
      split at hy
      · rename_i hc
        simp only [Bool.and_eq_true, decide_eq_true_eq] at hc
        obtain ⟨⟨⟨rfl, h1⟩, h2⟩, h3⟩ := hc
        cases hx with
        | sl hlt hcap hlen hv =>
          rename_i rc a
          have hbd := bounds_run (P := P) (isS := true) (cap := rc) hl hr hrl hrh hsl hsh h1 (by omega)
          have hrun : (Instr.sliceAt t (.slice (some a) len rc) lov hiv none).run P w = .ok (.slice (if rc = l then some a else some (a.add (l * s))) (r - l) (rc - l)) w := by
            simp [Instr.sliceAt, Instr.slice, run_underlying hu, hbd, run_sizeOf' hs]
          refine ⟨_, hrun, ?_⟩
          split at hy
          · rename_i hl0
            subst hl0
            cases hy
            have : (if rc = 0 then some a else some (a.add (0 * s))) = some a := by simp [Addr.add]
            rw [this]
            simp only [Nat.sub_zero]
            exact .sl hlt hcap (by omega) hv
          · rename_i hl0
            split at hy
            · rename_i hlr
              subst hlr
              cases hy
              rw [Nat.sub_self]
              exact .lst0 _ _ (fun h => by split at h <;> cases h)
            · rename_i hlr
              cases hy
              have hne : ¬ rc = l := by omega
              rw [if_neg hne]
              refine .sl hlt (by omega) (by omega) fun hlv => ?_
              obtain ⟨b', hb', ha, hsz⟩ := hv hlv
              refine ⟨b', hb', add_add_lit ha, ?_⟩
              have h4 : (rc - l) * s + l * s = rc * s := by rw [← Nat.add_mul]; congr 1; omega
              omega
      · cases hy
    · cases hy
  · rename_i elem xs hu
    split at hy
    · rename_i s l r hs hl hr
      split at hy
      · rename_i hc
        simp only [Bool.and_eq_true, decide_eq_true_eq, Bool.or_eq_true, beq_iff_eq] at hc
        obtain ⟨⟨h1, h2⟩, h3⟩ := hc
        cases hy
        obtain ⟨a, rc, rfl, hrc, hres⟩ := hx.lst_slice l r h1 h2 s h3
        have hbd := bounds_run (P := P) (isS := true) (cap := rc) hl hr hrl hrh hsl hsh h1 hrc
        exact ⟨_, by simp [Instr.sliceAt, Instr.slice, run_underlying hu, hbd, run_sizeOf' hs], hres⟩
      · cases hy
    · cases hy
  · rename_i elem hu
    split at hy
    · rename_i s hs hl hr
      cases hy
      cases hx
      have hbd := bounds_run (P := P) (isS := true) (cap := 0) hl hr hrl hrh hsl hsh (Nat.le_refl _) (Nat.le_refl _)
      exact ⟨.slice none 0 0, by simp [Instr.sliceAt, Instr.slice, run_underlying hu, hbd, run_sizeOf' hs], .nils⟩
    · cases hy
  · rename_i s hu
    split at hy
    · rename_i l r hl hr
      split at hy
      · rename_i hc
        simp only [Bool.and_eq_true, decide_eq_true_eq] at hc
        obtain ⟨h1, h2⟩ := hc
        cases hy
        cases hx
        have hbd := bounds_run (P := P) (isS := false) (cap := s.size) hl hr hrl hrh hsl hsh h1 h2
        exact ⟨.string (s.extract l r), by simp [Instr.sliceAt, Instr.slice, run_underlying hu, hbd], .str _⟩
      · cases hy
    · cases hy
  · rename_i n elem b off hu
    split at hy
    · rename_i s hs
      split at hy
      · rename_i cs hb
        split at hy
        · rename_i hle
          cases hy
          obtain ⟨b', arr, T, hmb, rfl, ha, hl, _⟩ := hx.ptr_at rel hb
          have hbd := bounds_run (P := P) (m := m) (h := h) (w := w) (isS := false) (cap := n) (len := n) (lo := none) (hi := none) (l := 0) (r := n) (lov := lov) (hiv := hiv) rfl rfl hrl hrh hsl hsh (Nat.zero_le _) (Nat.le_refl _)
          refine ⟨.slice (some ⟨b', off, none⟩) n n, ?_, .sl (live_lt ⟨cs, live_of_blockOf hb⟩) (Nat.le_refl _) (Nat.le_refl _) fun _ => ⟨b', hmb, rfl, ?_⟩⟩
          · simp [Instr.sliceAt, run_underlying hu, hbd, run_sizeOf' hs, Instr.sureAddr, Addr.add]
          · simp only [rsz, ha]; omega
        · cases hy
      · cases hy
    · cases hy
  · cases hy
theorem intBin_ok {op : BinOp} {k : IntKind} {a b : Int} {y : V} (hy : intBin op k a b = some y) (hop : op ≠ .shl ∧ op ≠ .shr) (t : TypeId) :
    ∃ v, (binOp op t (.int k a) (.int k b)).run P w = .ok v w ∧ R m h w y v := by
  cases op <;> simp only [intBin] at hy
  case shl => cases hy
  case shr => cases hy
  case quo =>
    split at hy
    · cases hy
    · rename_i hb; cases hy; exact ⟨_, by simp [binOp, Op.intDiv, hb], .int _ _⟩
  case rem =>
    split at hy
    · cases hy
    · rename_i hb; cases hy; exact ⟨_, by simp [binOp, Op.intDiv, hb], .int _ _⟩
  case and => cases hy; exact ⟨_, by simp only [binOp, ne_eq, not_true_eq_false, if_false]; rfl, .int _ _⟩
  case or => cases hy; exact ⟨_, by simp only [binOp, ne_eq, not_true_eq_false, if_false]; rfl, .int _ _⟩
  case xor => cases hy; exact ⟨_, by simp only [binOp, ne_eq, not_true_eq_false, if_false]; rfl, .int _ _⟩
  case andNot => cases hy; exact ⟨_, by simp only [binOp, ne_eq, not_true_eq_false, if_false]; rfl, .int _ _⟩
  case add => cases hy; exact ⟨_, by simp [binOp, Op.intArith], .int _ _⟩
  case sub => cases hy; exact ⟨_, by simp [binOp, Op.intArith], .int _ _⟩
  case mul => cases hy; exact ⟨_, by simp [binOp, Op.intArith], .int _ _⟩
  all_goals
    cases hy
    exact ⟨_, by simp [binOp, Op.intCmp], .bool _⟩
theorem strBin_ok {op : BinOp} {a b : ByteArray} {y : V} (hy : strBin op a b = some y) (t : TypeId) :
    ∃ v, (binOp op t (.string a) (.string b)).run P w = .ok v w ∧ R m h w y v := by
  cases op <;> simp only [strBin] at hy
  case add =>
    split at hy
    · cases hy
    · rename_i hb; cases hy; exact ⟨.string (a ++ b), by simp only [binOp, Op.stringOp, if_neg hb]; rfl, .str _⟩
  all_goals first
    | cases hy; done
    | (cases hy; exact ⟨_, by simp only [binOp, Op.stringOp]; rfl, .bool _⟩)
theorem un_ok {op : UnOp} {x y : V} {xv : Value} (hx : R m h w x xv) (hy : unV op x = some y) : ∃ v, (Op.unary op xv).run P w = .ok v w ∧ R m h w y v := by
  unfold unV at hy
  split at hy
  · cases hx; cases hy; exact ⟨_, by simp [Op.unary, Op.intArith], .int _ _⟩
  · cases hx; simp only [intBin] at hy; cases hy; exact ⟨_, by simp only [Op.unary]; rfl, .int _ _⟩
  · cases hx; cases hy; exact ⟨_, by simp [Op.unary], .bool _⟩
  · cases hy
theorem nilCheck_ok {x y : V} {xv : Value} (hx : R m h w x xv) (hy : nilCheckV x = some y) : y = x ∧ ((∃ a, xv = .pointer (some a)) ∨ ∃ f a c, xv = .func (.func f) a c) := by
  unfold nilCheckV at hy
  split at hy
  · cases hy; cases hx; exact ⟨rfl, .inl ⟨_, rfl⟩⟩
  · cases hy; cases hx; exact ⟨rfl, .inl ⟨_, rfl⟩⟩
  · cases hy; cases hx; exact ⟨rfl, .inr ⟨_, _, _, rfl⟩⟩
  · cases hy
theorem extract_ok {x y : V} {i : Nat} {xv : Value} (hx : R m h w x xv) (hy : extractV x i = some y) : ∃ v, (Instr.extract xv i).run P w = .ok v w ∧ R m h w y v := by
  unfold extractV at hy
  split at hy
  · cases hx with
    | tup hl hr =>
      have hlt := (List.getElem?_eq_some_iff.1 hy).1
      rw [← hl] at hlt
      exact ⟨_, by simp [Instr.extract, hlt], hr i y _ hy (Array.getElem?_eq_getElem hlt)⟩
  · cases hy
theorem len_ok {t ty : TypeId} {x y : V} {xv : Value} (hx : R m h w x xv) (hy : lenV P t x = some y) : ∃ v, (Builtin.len_ #[t] ty #[xv]).run P w = .ok v w ∧ R m h w y v := by
  unfold lenV at hy
  split at hy
  · rename_i s hu; cases hx; cases hy; exact ⟨_, by simp [Builtin.len_, run_underlying hu, goInt], .int _ _⟩
  · rename_i e b off len cap k hu; cases hx; cases hy; exact ⟨_, by simp [Builtin.len_, run_underlying hu, goInt], .int _ _⟩
  · rename_i e xs hu
    cases hy
    cases hx with
    | lst0 a rc _ => exact ⟨_, by simp [Builtin.len_, run_underlying hu, goInt], .int _ _⟩
    | lst rv him hrc hk hc hf hr => exact ⟨_, by simp [Builtin.len_, run_underlying hu, goInt], .int _ _⟩
  · rename_i e hu; cases hx; cases hy; exact ⟨_, by simp [Builtin.len_, run_underlying hu, goInt], .int _ _⟩
  · rename_i n e hu; cases hy; exact ⟨_, by simp [Builtin.len_, run_underlying hu, goInt], .int _ _⟩
  · cases hy
theorem min_ok {ts : Array TypeId} {ty : TypeId} {xs : List V} {vs : List Value} {y : V} (hl : vs.length = xs.length) (hr : ∀ (i : Nat) (c : V) (v : Value), xs[i]? = some c → vs[i]? = some v → R m h w c v) (hy : minV xs = some y) :
    ∃ v, (Builtin.min_ ts ty vs.toArray).run P w = .ok v w ∧ R m h w y v := by
  unfold minV at hy
  split at hy
  · rename_i k a k' b
    cases hy
    match vs, hl with
    | [v1, v2], _ =>
      have r1 := hr 0 _ v1 rfl rfl
      have r2 := hr 1 _ v2 rfl rfl
      cases r1; cases r2
      exact ⟨_, by simp [Builtin.min_, Builtin.min2], .int _ _⟩
  · rename_i k a k' b k'' c
    cases hy
    match vs, hl with
    | [v1, v2, v3], _ =>
      have r1 := hr 0 _ v1 rfl rfl
      have r2 := hr 1 _ v2 rfl rfl
      have r3 := hr 2 _ v3 rfl rfl
      cases r1; cases r2; cases r3
      exact ⟨_, by simp [Builtin.min_, Builtin.min2], .int _ _⟩
  · cases hy
theorem max_ok {ts : Array TypeId} {ty : TypeId} {xs : List V} {vs : List Value} {y : V} (hl : vs.length = xs.length) (hr : ∀ (i : Nat) (c : V) (v : Value), xs[i]? = some c → vs[i]? = some v → R m h w c v) (hy : maxV xs = some y) :
    ∃ v, (Builtin.max_ ts ty vs.toArray).run P w = .ok v w ∧ R m h w y v := by
  unfold maxV at hy
  split at hy
  · rename_i k a k' b
    cases hy
    match vs, hl with
    | [v1, v2], _ =>
      have r1 := hr 0 _ v1 rfl rfl
      have r2 := hr 1 _ v2 rfl rfl
      cases r1; cases r2
      exact ⟨_, by simp [Builtin.max_, Builtin.max2], .int _ _⟩
  · rename_i k a k' b k'' c
    cases hy
    match vs, hl with
    | [v1, v2, v3], _ =>
      have r1 := hr 0 _ v1 rfl rfl
      have r2 := hr 1 _ v2 rfl rfl
      have r3 := hr 2 _ v3 rfl rfl
      cases r1; cases r2; cases r3
      exact ⟨_, by simp [Builtin.max_, Builtin.max2], .int _ _⟩
  · cases hy
end
end Go.Ab
namespace Go.Ab
section
variable {P : Program} {m : Mu} {h : Heap} {w : World}
theorem leafEq_run {d : Nat} {t : TypeId} {x y : V} {xv yv : Value} {b : Bool} (hx : R m h w x xv) (hy : R m h w y yv) (hb : leafEq P t x y = some b) :
    (Op.equalIn (d + 1) t xv yv).run P w = .ok b w ∧ isAg P t = some false := by
  unfold leafEq at hb
  split at hb
  · rename_i k' k a k2 b2 hu
    cases hx; cases hy
    split at hb
    · rename_i hkk; subst hkk; cases hb
      exact ⟨run_equalIn_int w d t _ k' _ _ hu, by simp [isAg, hu]⟩
    · cases hb
  · rename_i a b2 hu; cases hx; cases hy; cases hb; exact ⟨run_equalIn_bool' w d t _ _ hu, by simp [isAg, hu]⟩
  · rename_i a b2 hu; cases hx; cases hy; cases hb; exact ⟨run_equalIn_string w d t _ _ hu, by simp [isAg, hu]⟩
  · cases hb
theorem flatEq_run {d : Nat} {X Y : Array Value} : ∀ (i : Nat) (fs : List Field) (xs ys : List V) (b : Bool),
    (∀ (j : Nat) (c : V), xs[j]? = some c → ∃ v, X[i + j]? = some v ∧ R m h w c v) → (∀ (j : Nat) (c : V), ys[j]? = some c → ∃ v, Y[i + j]? = some v ∧ R m h w c v) →
    flatEq P i fs xs ys = some b → (Op.eqFields (d + 1) X Y fs).run P w = .ok b w
  | i, [], [], [], b, _, _, hb => by simp [flatEq] at hb; subst hb; simp [Op.eqFields]
  | i, f :: fs, a :: x, c :: y, b, hX, hY, hb => by
    simp only [flatEq] at hb
    split at hb
    · rename_i hc
      simp only [Bool.and_eq_true, decide_eq_true_eq, Bool.not_eq_true', beq_eq_false_iff_ne] at hc
      obtain ⟨hoff, hname⟩ := hc
      obtain ⟨xv, hxv, hxr⟩ := hX 0 a rfl
      obtain ⟨yv, hyv, hyr⟩ := hY 0 c rfl
      rw [Nat.add_zero] at hxv hyv
      have step : ∀ r, leafEq P f.type a c = some r → (Op.eqFields (d + 1) X Y (f :: fs)).run P w = if (!r) = true then .ok false w else (Op.eqFields (d + 1) X Y fs).run P w := by
        intro r hr
        obtain ⟨h1, h2⟩ := leafEq_run (d := d) hxr hyr hr
        have p1 : (Go.part f.type X f.offset).run P w = .ok xv w := by simp [Go.part, run_isAgg' h2, hoff, hxv]
        have p2 : (Go.part f.type Y f.offset).run P w = .ok yv w := by simp [Go.part, run_isAgg' h2, hoff, hyv]
        simp [Op.eqFields, hname, p1, p2, h1]
      split at hb
      · rename_i hr
        rw [step true hr]
        simp only [Bool.not_true, Bool.false_eq_true, if_false]
        exact flatEq_run (i + 1) fs x y b (fun j c' hj => by have := hX (j + 1) c' (by simpa using hj); rwa [show i + 1 + j = i + (j + 1) by omega])
          (fun j c' hj => by have := hY (j + 1) c' (by simpa using hj); rwa [show i + 1 + j = i + (j + 1) by omega]) hb
      · rename_i hr
        cases hb
        rw [step false hr]
        simp
      · cases hb
    · cases hb
  | _, [], [], _ :: _, _, _, _, hb => by simp [flatEq] at hb
  | _, [], _ :: _, _, _, _, _, hb => by simp [flatEq] at hb
  | _, _ :: _, [], _, _, _, _, hb => by simp [flatEq] at hb
  | _, _ :: _, _ :: _, [], _, _, _, hb => by simp [flatEq] at hb
theorem agg_at {cs : List V} {vs : Array Value} (hl : vs.size = cs.length) (hr : ∀ (i : Nat) (c : V) (v : Value), cs[i]? = some c → vs[i]? = some v → R m h w c v) :
    ∀ (j : Nat) (c : V), cs[j]? = some c → ∃ v, vs[0 + j]? = some v ∧ R m h w c v := by
  intro j c hj
  have hlt : j < vs.size := by rw [hl]; exact (List.getElem?_eq_some_iff.1 hj).1
  rw [Nat.zero_add]
  exact ⟨vs[j], Array.getElem?_eq_getElem hlt, hr j c _ hj (Array.getElem?_eq_getElem hlt)⟩
theorem equalIn_nils {d : Nat} {t e : TypeId} (hu : P.underlying t = some (.slice e)) : (Op.equalIn (d + 1) t (.slice none 0 0) (.slice none 0 0)).run P w = .ok true w := by
  simp [Op.equalIn, run_underlying hu]
theorem equalIn_notnil {d : Nat} {t e : TypeId} {a : Addr} {n c : Nat} (hu : P.underlying t = some (.slice e)) : (Op.equalIn (d + 1) t (.slice (some a) n c) (.slice none 0 0)).run P w = .ok false w := by
  simp [Op.equalIn, run_underlying hu]
theorem equalIn_nilp {d : Nat} {t e : TypeId} (hu : P.underlying t = some (.pointer e)) : (Op.equalIn (d + 1) t (.pointer none) (.pointer none)).run P w = .ok true w := by
  simp [Op.equalIn, run_underlying hu]
theorem eqV_run {t : TypeId} {x y : V} {xv yv : Value} {b : Bool} (hx : R m h w x xv) (hy : R m h w y yv) (hb : eqV P t x y = some b) :
    (Op.equal t xv yv).run P w = .ok b w ∧ (∀ op ox oy, (eqGuard op t ox oy xv yv).run P w = .ok () w) ∧ (∀ k a, xv ≠ .int k a) ∧ (∀ k a, xv ≠ .float k a) ∧ (∀ k a c, xv ≠ .complex k a c) ∧ ∀ s, xv ≠ .string s := by
  unfold eqV at hb
  split at hb
  · rename_i xs ys
    split at hb
    · rename_i fields hu
      split at hb
      · rename_i hc
        simp only [Bool.and_eq_true, Bool.not_eq_true'] at hc
        cases hx with
        | agg hl hr => cases hy with
          | agg hl' hr' =>
            have hf : P.fieldsOf t = fields := by simp [Program.fieldsOf, hu]
            have := flatEq_run (d := 9998) (P := P) (w := w) 0 fields.toList xs ys b (agg_at hl hr) (agg_at hl' hr') hb
            refine ⟨?_, fun op ox oy => run_eqGuard_agg w op t ox oy _ _ hc.2, by simp, by simp, by simp, by simp⟩
            rw [Op.equal, Op.maxDepth, run_equalIn_struct w 9999 t _ _ (by rw [hf]; exact hu) hc.1, hf]
            exact this
      · cases hb
    · cases hb
  · cases hx; cases hy
    split at hb
    · rename_i hu; cases hb
      exact ⟨by rw [Op.equal, Op.maxDepth]; exact run_equalIn_bool' w 9999 t _ _ hu, fun op ox oy => by cases op <;> simp [eqGuard], by simp, by simp, by simp, by simp⟩
    · cases hb
  · cases hx; cases hy
    split at hb
    · rename_i e hu; cases hb
      exact ⟨by rw [Op.equal, Op.maxDepth]; exact equalIn_notnil (d := 9999) hu, fun op ox oy => by cases op <;> simp [eqGuard], by simp, by simp, by simp, by simp⟩
    · cases hb
  · cases hx; cases hy
    split at hb
    · rename_i e hu; cases hb
      exact ⟨by rw [Op.equal, Op.maxDepth]; exact equalIn_notnil (d := 9999) hu, fun op ox oy => by cases op <;> simp [eqGuard], by simp, by simp, by simp, by simp⟩
    · cases hb
  · cases hx; cases hy
    split at hb
    · rename_i e hu; cases hb
      exact ⟨by rw [Op.equal, Op.maxDepth]; exact equalIn_nils (d := 9999) hu, fun op ox oy => by cases op <;> simp [eqGuard], by simp, by simp, by simp, by simp⟩
    · cases hb
  · cases hx; cases hy
    split at hb
    · rename_i e hu; cases hb
      exact ⟨by rw [Op.equal, Op.maxDepth]; exact equalIn_nilp (d := 9999) hu, fun op ox oy => by cases op <;> simp [eqGuard], by simp, by simp, by simp, by simp⟩
    · cases hb
  · cases hb
theorem eqGuard_scalar {op : BinOp} {t : TypeId} {ox oy : Operand} {xv yv : Value} (hx : (∃ k a, xv = .int k a) ∨ ∃ s, xv = .string s) : (eqGuard op t ox oy xv yv).run P w = .ok () w := by
  rcases hx with ⟨k, a, rfl⟩ | ⟨s, rfl⟩ <;> cases op <;> simp [eqGuard]
theorem bin_ok {op : BinOp} {t : TypeId} {x y z : V} {xv yv : Value} {ox oy : Operand} (hx : R m h w x xv) (hy : R m h w y yv) (hz : binV P op t x y = some z) :
    ∃ v, (do eqGuard op t ox oy xv yv; binOp op t xv yv : Sem Value).run P w = .ok v w ∧ R m h w z v := by
  unfold binV at hz
  split at hz
  · cases hx; cases hy
    split at hz
    · cases hz
    · rename_i hb; cases hz
      exact ⟨_, by rw [Sem.run_bind, eqGuard_scalar (.inl ⟨_, _, rfl⟩)]; simp only [Result.andThen_ok, binOp, Op.shift, if_neg hb]; rfl, .int _ _⟩
  · cases hx; cases hy
    split at hz
    · cases hz
    · rename_i hb; cases hz
      exact ⟨_, by rw [Sem.run_bind, eqGuard_scalar (.inl ⟨_, _, rfl⟩)]; simp only [Result.andThen_ok, binOp, Op.shift, if_neg hb]; rfl, .int _ _⟩
  · rename_i k a k' b hn1 hn2
    cases hx; cases hy
    split at hz
    · rename_i hk; subst hk
      obtain ⟨v, hv, hr⟩ := intBin_ok (P := P) (m := m) (h := h) (w := w) hz ⟨hn1, hn2⟩ t
      exact ⟨v, by rw [Sem.run_bind, eqGuard_scalar (.inl ⟨_, _, rfl⟩)]; exact hv, hr⟩
    · cases hz
  · cases hx; cases hy
    obtain ⟨v, hv, hr⟩ := strBin_ok (P := P) (m := m) (h := h) (w := w) hz t
    exact ⟨v, by rw [Sem.run_bind, eqGuard_scalar (.inr ⟨_, rfl⟩)]; exact hv, hr⟩
  · split at hz
    · rename_i b hb
      cases hz
      obtain ⟨h1, h2, n1, n2, n3, n4⟩ := eqV_run hx hy hb
      refine ⟨.bool b, ?_, .bool _⟩
      rw [Sem.run_bind, h2]
      simp only [Result.andThen_ok]
      cases xv <;> first | exact absurd rfl (n1 _ _) | exact absurd rfl (n2 _ _) | exact absurd rfl (n3 _ _ _) | exact absurd rfl (n4 _) | simp [binOp, h1]
    · cases hz
  · split at hz
    · rename_i b hb
      cases hz
      obtain ⟨h1, h2, n1, n2, n3, n4⟩ := eqV_run hx hy hb
      refine ⟨.bool !b, ?_, .bool _⟩
      rw [Sem.run_bind, h2]
      simp only [Result.andThen_ok]
      cases xv <;> first | exact absurd rfl (n1 _ _) | exact absurd rfl (n2 _ _) | exact absurd rfl (n3 _ _ _) | exact absurd rfl (n4 _) | simp [binOp, h1]
    · cases hz
  · cases hz
end
end Go.Ab
namespace Go.Ab
variable [Base]
section
variable {P : Program} {m : Mu} {h : Heap} {w : World}
theorem leaf_one {v : V} {rv : Value} (hl : v.leaf = true) (hr : R m h w v rv) : rv.oneCell' = true := by
  cases hr <;> first | rfl | (simp [V.leaf] at hl)
theorem cells_one {rv : Value} (h1 : rv.oneCell' = true) : rv.cells = #[rv] := by
  cases rv <;> first | rfl | (simp [Value.oneCell'] at h1)
def PW (m : Mu) (h : Heap) (w : World) (cs : List V) (arr : Array Value) : Prop := arr.size = cs.length ∧ ∀ (i : Nat) (c : V) (v : Value), cs[i]? = some c → arr[i]? = some v → R m h w c v
theorem cellsOf_R {v : V} {rv : Value} {vs : List V} (hv : cellsOf v = some vs) (hr : R m h w v rv) : PW m h w vs rv.cells ∧ ∀ u ∈ rv.cells.toList, u.oneCell' = true := by
  unfold cellsOf at hv
  split at hv
  · rename_i cs
    split at hv
    · rename_i hall
      cases hv
      cases hr with
      | agg hl hr =>
        refine ⟨⟨hl, hr⟩, fun u hu => ?_⟩
        simp only [Value.cells] at hu
        obtain ⟨i, hi, rfl⟩ := List.getElem_of_mem hu
        have hi' : i < vs.length := by rw [← hl]; simpa using hi
        have hlf := List.all_eq_true.1 hall vs[i] (List.getElem_mem hi')
        exact leaf_one hlf (hr i vs[i] _ (List.getElem?_eq_getElem hi') (by simp))
    · cases hv
  · split at hv
    · rename_i hlf
      cases hv
      have h1 := leaf_one hlf hr
      rw [cells_one h1]
      refine ⟨⟨rfl, fun i c u hc hu => ?_⟩, by simpa using h1⟩
      cases i with
      | zero => simp at hc hu; subst hc hu; exact hr
      | succ i => simp at hc
    · cases hv
theorem putAt_length (cs : List V) (off : Nat) (vs : List V) : (putAt cs off vs).length = cs.length := by
  induction vs generalizing cs off with
  | nil => rfl
  | cons v r ih => simp [putAt, ih]
theorem putAt_get (cs : List V) (off : Nat) (vs : List V) (i : Nat) (hle : off + vs.length ≤ cs.length) : (putAt cs off vs)[i]? = if off ≤ i ∧ i < off + vs.length then vs[i - off]? else cs[i]? := by
  induction vs generalizing cs off with
  | nil => simp only [putAt, List.length_nil, Nat.add_zero]; rw [if_neg (by omega)]
  | cons v r ih =>
    simp only [List.length_cons] at hle ⊢
    rw [putAt, ih _ _ (by simp; omega)]
    by_cases hi : off = i
    · subst hi
      rw [if_neg (by omega), if_pos ⟨Nat.le_refl _, by omega⟩, List.getElem?_set_self (by omega)]
      simp
    · by_cases hin : off + 1 ≤ i ∧ i < off + 1 + r.length
      · rw [if_pos hin, if_pos (by omega), show i - off = (i - (off + 1)) + 1 by omega, List.getElem?_cons_succ]
      · rw [if_neg hin, if_neg (by omega)]
        simp [hi]
theorem fill_ok {place : Nat → Option (Nat × Nat)} : ∀ (ps : List (Nat × V)) (qs : List (Nat × Value)) (cs cs' : List V) (arr : Array Value),
    ps.length = qs.length → (∀ (i : Nat) (p : Nat × V) (q : Nat × Value), ps[i]? = some p → qs[i]? = some q → p.1 = q.1 ∧ R m h w p.2 q.2) → PW m h w cs arr → fillV place cs ps = some cs' →
    ∃ arr', Instr.fill place arr qs = some arr' ∧ PW m h w cs' arr'
  | [], [], cs, cs', arr, _, _, hp, hf => by simp [fillV] at hf; subst hf; exact ⟨arr, rfl, hp⟩
  | (i, v) :: ps, (j, u) :: qs, cs, cs', arr, hl, hr, hp, hf => by
    obtain ⟨hij, hru⟩ := hr 0 (i, v) (j, u) rfl rfl
    simp only at hij hru
    subst hij
    simp only [fillV] at hf
    split at hf
    · rename_i off s vs hpl hcv
      split at hf
      · rename_i hc
        simp only [Bool.and_eq_true, decide_eq_true_eq] at hc
        obtain ⟨h1, h2⟩ := hc
        obtain ⟨⟨hsz, hrv⟩, _⟩ := cellsOf_R hcv hru
        obtain ⟨g1, g2⟩ := Great.foldl_set off u.cells.toList 0 arr
        have hp' : PW m h w (putAt cs off vs) ((u.cells.toList.zipIdx 0).foldl (fun cs (x : Value × Nat) => cs.setIfInBounds (off + x.2) x.1) arr) := by
          refine ⟨by rw [g1, putAt_length, hp.1], fun k c x hk hx => ?_⟩
          rw [putAt_get cs off vs k (by omega)] at hk
          rw [g2 k] at hx
          simp only [Nat.add_zero, Array.length_toList] at hx
          by_cases hin : off ≤ k ∧ k < off + vs.length
          · rw [if_pos hin] at hk
            rw [if_pos ⟨hin.1, by rw [hsz]; exact hin.2, by rw [hp.1]; omega⟩] at hx
            exact hrv (k - off) c x hk (by simpa using hx)
          · rw [if_neg hin] at hk
            rw [if_neg (by rw [hsz]; omega)] at hx
            exact hp.2 k c x hk hx
        obtain ⟨arr', ha, hpa⟩ := fill_ok ps qs _ cs' _ (by simpa using hl) (fun k p q hp hq => hr (k + 1) p q (by simpa using hp) (by simpa using hq)) hp' hf
        refine ⟨arr', ?_, hpa⟩
        unfold Instr.fill
        simp only [hpl]
        rw [if_neg (by rw [hsz, hp.1]; simp; omega)]
        rw [← ha]
        congr 1
        rw [← Array.foldl_toList, Array.toList_zipIdx]
      · cases hf
    · cases hf
  | [], _ :: _, _, _, _, hl, _, _, _ => by simp at hl
  | _ :: _, [], _, _, _, hl, _, _, _ => by simp at hl
theorem evParts_R {fr : List V} {a : Act} (f : FR m h w fr a) : ∀ {ps : List (Nat × Operand)} {xs : List (Nat × V)}, evParts fr ps = some xs →
    xs.length = (ps.map fun (i, x) => (i, a.eval x)).length ∧ ∀ (i : Nat) (p : Nat × V) (q : Nat × Value), xs[i]? = some p → (ps.map fun (i, x) => (i, a.eval x))[i]? = some q → p.1 = q.1 ∧ R m h w p.2 q.2
  | [], xs, hx => by simp [evParts] at hx; subst hx; simp
  | (j, x) :: ps, xs, hx => by
    simp only [evParts] at hx
    split at hx
    · rename_i v hv
      split at hx
      · rename_i vs hvs
        cases hx
        obtain ⟨hl, ih⟩ := evParts_R f hvs
        refine ⟨by simpa using hl, fun i p q hp hq => ?_⟩
        cases i with
        | zero => simp at hp hq; subst hp hq; exact ⟨rfl, ev_R f hv⟩
        | succ i => exact ih i p q (by simpa using hp) (by simpa using hq)
      · cases hx
    · cases hx
theorem PW.single {z : V} {v : Value} (hr : R m h w z v) (hz : vcells z = [z]) (hv : v.cells = #[v]) : PW m h w (vcells z) v.cells := by
  rw [hz, hv]
  refine ⟨rfl, fun i c u hc hu => ?_⟩
  cases i with
  | zero => simp at hc hu; subst hc hu; exact hr
  | succ i => simp at hc
theorem zero_PW {z : V} {v : Value} (hz : ofVal v = some z) : PW m h w (vcells z) v.cells := by
  have hr : R m h w z v := ofVal_R hz
  unfold ofVal at hz
  split at hz
  · simp only [Option.map_eq_some_iff] at hz
    obtain ⟨xs, hx, rfl⟩ := hz
    cases hr with
    | agg hl hr => exact ⟨hl, hr⟩
  · split at hz
    · cases hz; exact .single hr rfl rfl
    · cases hz
  · unfold ofLeaf at hz
    split at hz <;> first | (cases hz; exact .single hr rfl rfl) | cases hz
theorem run_places_list : ∀ (l : List Field), (l.all fun f => (szOf P f.type).isSome) = true →
    ∃ pl : List (Nat × Nat), (l.mapM fun f => do pure (f.offset, ← sizeOf f.type) : Sem (List (Nat × Nat))).run P w = .ok pl w ∧
      ∀ i : Nat, pl[i]? = (l[i]?).bind fun (f : Field) => (szOf P f.type).map fun s => (f.offset, s)
  | [], _ => ⟨[], by simp, by simp⟩
  | f :: l, hall => by
    simp only [List.all_cons, Bool.and_eq_true, Option.isSome_iff_exists] at hall
    obtain ⟨⟨s, hs⟩, hrest⟩ := hall
    obtain ⟨pl, hpl, hget⟩ := run_places_list l hrest
    refine ⟨(f.offset, s) :: pl, ?_, fun i => ?_⟩
    · simp only [List.mapM_cons, Sem.run_bind, run_sizeOf' hs, Result.andThen_ok, Sem.run_pure, hpl]
    · cases i with
      | zero => simp [hs]
      | succ i => simpa using hget i
theorem run_places (fields : Array Field) (hall : allSized P fields = true) :
    ∃ pl : Array (Nat × Nat), (fields.mapM fun f => do pure (f.offset, ← sizeOf f.type) : Sem (Array (Nat × Nat))).run P w = .ok pl w ∧ (fun i => pl[i]?) = placesOf P fields := by
  obtain ⟨l⟩ := fields
  obtain ⟨pl, hpl, hget⟩ := run_places_list (P := P) (w := w) l hall
  refine ⟨pl.toArray, ?_, ?_⟩
  · rw [List.mapM_toArray, Sem.run_map, hpl]; rfl
  · funext i
    simp only [List.getElem?_toArray, hget i, placesOf]
    cases hl : l[i]? with
    | none => simp
    | some f => cases hs : szOf P f.type <;> simp [hs]
theorem build_ok {t : TypeId} {ps : List (Nat × V)} {qs : List (Nat × Value)} {y : V}
    (hl : ps.length = qs.length) (hr : ∀ (i : Nat) (p : Nat × V) (q : Nat × Value), ps[i]? = some p → qs[i]? = some q → p.1 = q.1 ∧ R m h w p.2 q.2) (hy : buildV P t ps = some y) :
    ∃ v, (Instr.build t qs.toArray).run P w = .ok v w ∧ R m h w y v := by
  unfold buildV at hy
  split at hy
  · rename_i z fields hz hu
    obtain ⟨zv, hzr, hzo, _⟩ := run_zeroValue' hz w
    have hzp : PW m h w z zv.cells := zero_PW hzo
    split at hy
    · rename_i hall
      simp only [Option.map_eq_some_iff] at hy
      obtain ⟨cs', hf, rfl⟩ := hy
      obtain ⟨pl, hpl, hple⟩ := run_places (P := P) (w := w) fields hall
      rw [← hple] at hf
      obtain ⟨arr', ha, hpa⟩ := fill_ok ps qs z cs' zv.cells hl hr hzp hf
      exact ⟨.agg arr', by simp only [Instr.build, Sem.run_bind, hzr, Result.andThen_ok, run_underlying hu, hpl, ha]; rfl, .agg hpa.1 hpa.2⟩
    · cases hy
  · rename_i z n elem hz hu
    obtain ⟨zv, hzr, hzo, _⟩ := run_zeroValue' hz w
    have hzp : PW m h w z zv.cells := zero_PW hzo
    split at hy
    · rename_i s hs
      simp only [Option.map_eq_some_iff] at hy
      obtain ⟨cs', hf, rfl⟩ := hy
      obtain ⟨arr', ha, hpa⟩ := fill_ok ps qs z cs' zv.cells hl hr hzp hf
      exact ⟨.agg arr', by simp only [Instr.build, Sem.run_bind, hzr, Result.andThen_ok, run_underlying hu, run_sizeOf' hs, ha]; rfl, .agg hpa.1 hpa.2⟩
    · cases hy
  · cases hy
end
end Go.Ab
