/- Several texts of this proof in one. -/
import Derived.Orders
import Derived.LoopN
import Derived.Below
import Derived.Laws.CopyRow
import Derived.Laws.Cells
import Derived.Laws.AppendOwn
import Derived.Laws.StructEq
import Derived.Great.FillDense
set_option linter.all false
/- An abstract evaluator over the model's code: values without addresses where they can be had. The definitions.
   Immutable slices are lists; what is written lies in a small heap of its own; nothing is drawn. -/
namespace Go.Ab
def K4:=@List.getElem?_eq_getElem
def K5:=@List.getElem?_eq_some_iff
def K6:=@List.mem_of_getElem?
def K7:=@Option.some.injEq
def K8:=@List.getElem?_append_left
def K9:=@List.getD_eq_getElem?_getD
def La:=@Nat.le_refl
def Lb:=@List.getElem?_set_ne
def Lc:=@List.mem_cons_of_mem
def Ld:=@Bool.and_eq_true
def Le:=@Decidable.imp_iff_not_or
def Lf:=@Array.getElem?_eq_getElem
def Lg:=@List.getElem?_append_right
def Lh:=@List.getElem?_map
def Li:=@List.take_of_length_le
def Lj:=@Prod.mk.injEq
def Lk:=@List.all_eq_true
def Ll:=@List.mem_cons_self
def Lm:=@List.getElem?_set_self
def Ln:=@List.length_append
def Lo:=@Array.getElem?_eq_some_iff
def Lp:=@List.length_cons
def Lq:=@List.drop_eq_getElem_cons
def Lr:=@Int.toNat_natCast
def Lt:=@List.mem_cons
def Lu:=@Nat.lt_of_lt_of_le
def Lv:=@Bool.false_eq_true
def Lw:=@Nat.mul_div_cancel
def Lx:=@Option.map_eq_some_iff
def Ly:=@List.append_assoc
def Lz:=@List.getElem?_eq_none
def LA:=@Nat.zero_le
def LB:=@List.mem_append
def LC:=@List.length_set
def LD:=@List.take_add_one
def LF:=@List.take_length
def LG:=@List.getElem?_cons_succ
def LH:=@List.length_eq_zero_iff
def LI:=@List.getElem?_take_of_lt
def LJ:=@List.ext_getElem?
def LL:=@Nat.ne_of_lt
def LM:=@List.cons_append
def LN:=@List.mem_singleton
def LO:=@List.set_append_right
def LP:=@Bool.or_eq_true
def LQ:=@List.mem_of_mem_take
def LR:=@List.map_append
def LS:=@Nat.lt_or_ge
def LU:=@Nat.zero_add
def LV:=@List.getElem_of_mem
def LW:=@List.length_pos_iff
def LX:=@Option.map_some
def LY:=@List.set_append_left
def LZ:=@List.length_singleton
def L3:=@List.length_nil
def L4:=@Array.getD_eq_getD_getElem?
def L5:=@Array.eq_empty_of_size_eq_zero
def L6:=@List.length_take
def L7:=@List.getElem?_take
def L8:=@List.pairwise_cons
def L9:=@Nat.le_trans
def Ma:=@List.take_append_drop
def Mb:=@List.take_append_of_le_length
def Mc:=@List.pairwise_iff_getElem
def Md:=@Option.bind_some
def Me:=@List.mem_map
def Mf:=@List.take_set_of_le
def Mg:=@List.append_nil
def Mh:=@Array.getElem?_append_left
def Mi:=@List.drop_length
def Mj:=@List.flatMap_cons
def Mk:=@List.map_cons
def Ml:=@List.eq_nil_of_length_eq_zero
def Mm:=@List.drop_of_length_le
def Mn:=@List.mapM_cons
def Mo:=@List.drop_zero
def Mp:=@List.nil_append
def Mq:=@Bool.not_eq_true'
def Mr:=@Nat.lt_trichotomy
def Ms:=@Array.getElem?_setIfInBounds_ne
def Mt:=@Iff.rfl
def Mv:=@List.mem_append_left
def Mw:=@Int.tmod_eq_emod_of_nonneg
def Mx:=@List.replicate_succ'
def My:=@List.perm_append_singleton
def Mz:=@List.take_left'
def MA:=@List.getElem_mem
def MB:=@List.not_mem_nil
def MC:=@Int.mul_le_mul_of_nonneg_right
def MD:=@Nat.min_eq_left
def ME:=@List.dropLast_concat_getLast
def MF:=@Option.getD_some
def MG:=@List.mem_of_mem_drop
def MH:=@List.drop_eq_nil_of_le
def MJ:=@List.Perm.cons
def MK:=@List.replicate_succ
def ML:=@List.length_map
def MM:=@List.mem_or_eq_of_mem_set
def MN:=@Nat.eq_zero_or_pos
def MP:=@List.eq_nil_iff_forall_not_mem
def MQ:=@Array.getElem?_replicate
def MR:=@Bool.or_eq_false_iff
def MS:=@List.size_toArray
def MT:=@List.getElem?_cons_zero
def MU:=@Nat.add_sub_cancel_left
def MV:=@Array.getElem?_push
def MX:=@List.mem_map_of_mem
def MY:=@Array.getElem?_append_right
def MZ:=@List.map_set
def M0:=@List.set_set
def M1:=@Bool.and_true
def M3:=@List.getElem?_drop
def M4:=@List.mem_iff_getElem?
def M5:=@List.mem_of_find?_eq_some
def M6:=@Option.map_none
def M7:=@Nat.add_mul
def M8:=@List.mem_flatMap
def M9:=@List.filter_cons
def Na:=@List.drop_append_of_le_length
def Nb:=@Nat.add_zero
def Nc:=@Option.toList_some
def Nd:=@List.foldl_cons
def Nf:=@Option.some.inj
def Ng:=@Array.getElem?_toList
def Nh:=@List.pairwise_flatten
def Ni:=@List.mem_iff_getElem
def Nj:=@Nat.mul_le_mul
def Nk:=@Int.fdiv_eq_ediv_of_nonneg
def Nl:=@List.Perm.swap
def Nn:=@Nat.mod_eq_of_lt
def Np:=@List.all_nil
def Nq:=@List.all_flatMap
def Nr:=@List.nil_sublist
def Ns:=@Option.isNone_iff_eq_none
def Nt:=@Option.bind_eq_bind
def Nu:=@List.drop_succ_cons
def Nv:=@List.all_cons
def Nw:=@List.set_eq_of_length_le
def Nx:=@List.take_set
def Ny:=@List.cons.injEq
def Nz:=@List.set_cons_zero
def NA:=@Option.bind_eq_some_iff
def NB:=@List.getElem?_replicate
def NC:=@List.getLast?_cons_cons
def ND:=@Int.eq_ofNat_of_zero_le
def NF:=@Nat.sub_self
def NG:=@List.take_zero
def NH:=@List.mem_range
def NI:=@List.foldl_append
def NJ:=@List.getElem?_set
def NK:=@List.take_take
def NL:=@Decidable.not_not
def NM:=@List.getElem?_toArray
def NN:=@List.eq_nil_or_concat
def NO:=@List.set_getElem_self
def NP:=@List.mem_flatten
def NQ:=@Nat.add_assoc
def NR:=@List.set_comm
def NS:=@Nat.mul_le_mul_right
def NT:=@List.pairwise_append
def NU:=@Int.mul_le_mul_of_nonneg_left
def NV:=@Option.pure_def
def NW:=@List.getD_cons_succ
def NX:=@List.getD_cons_zero
def NY:=@List.take_succ_cons
def NZ:=@Int.add_zero
def N0:=@Array.append_assoc
def N1:=@Int.tdiv_eq_ediv_of_nonneg
def N2:=@Int.tmod_lt_of_pos
def N3:=@Int.lt_tmod_of_pos
def N4:=@Nat.mod_two_eq_zero_or_one
def N5:=@Classical.byContradiction
def N6:=@List.sublist_append_right
def N7:=@List.getLast?_eq_getElem?
def N8:=@List.flatten_cons
def N9:=@Array.size_append
def Oa:=@Nat.mul_one
def Ob:=@Array.toList_push
def Oc:=@Nat.div_one
def Od:=@List.any_eq_false
def Oe:=@List.Perm.flatten
def Og:=@List.reverse_perm
def Oh:=@List.Sublist.refl
def Oi:=@List.mem_of_head?
def Oj:=@Int.le_refl
def Ol:=@Option.isSome_iff_exists
def Om:=@List.map_drop
def On:=@List.map_take
def Oo:=@Bool.and_self
def Oq:=@List.eq_of_mem_replicate
def Ot:=@List.any_eq_true
def Ou:=@List.map_map
def Ov:=@List.headD_cons
def Ow:=@List.mem_filter
def Ox:=@List.sum_append
def Oy:=@List.range_succ
def Oz:=@List.drop_drop
def OA:=@Option.map_map
def OB:=@List.sum_cons
inductive V where
 | any
 | no
 | bool (b:Bool)
 | int (k:IntKind) (n:Int)
 | str (s:ByteArray)
 | nilp
 | ptr (b off:Nat)
 | lptr (cs:List V) (off:Nat)
 | nils
 | sl (b off len cap k:Nat)
 | lst (xs:List (List V))
 | agg (cs:List V)
 | tup (vs:List V)
 | func (fn:Fn) (first captured:List V)
 | nilf
 | iface (t:TypeId) (v:V)
 | nili
 | nilm
 | mref (b:Nat)
 | mp (k e:IntKind) (l:List (Int×Int))
 | mq (l:List (List V))
def V.leaf:V->Bool
 | .any|.no|.agg _|.tup _|.mp ..|.mq _=>false
 | _=>true
def V.rf:V->Bool
 | .ptr ..|.sl ..|.func ..|.iface ..|.agg _|.tup _|.mref _=>false
 | _=>true
abbrev Heap:=List (Option (List V))
structure Cfg where
 lo:Nat
 ex:List Nat
 thr:Nat
def Cfg.wr(c:Cfg)(b:Nat):Bool:=decide (c.lo<=b)||c.ex.contains b
abbrev aF:=Cfg->FuncId->List V->Heap->Option (V×Heap)
def iP:Value->Option V
 | .bool b=>some (.bool b)
 | .int k n=>some (.int k n)
 | .string s=>some (.str s)
 | .pointer none=>some .nilp
 | .slice none 0 0=>some .nils
 | .nilFunc=>some .nilf
 | .nilIface=>some .nili
 | .map none=>some .nilm
 | _=>none
def jF:Value->Option V
 | .agg cs=>(cs.toList.mapM iP).map .agg
 | .func fn f c=>if f.size=0&&c.size=0 then some (.func fn [] []) else none
 | v=>iP v
def ev(fr:List V):Operand->Option V
 | .tmp t=>fr[t]?
 | .const v=>jF v
 | .func f=>some (.func (.func f) [] [])
 | .global _=>none
def cj(P:Program)(t:TypeId):Option Nat:=(P.info? t).map (·.size)
def oL(P:Program)(t:TypeId):Option Bool:=
 match P.underlying t with
 | some (.struct _)=>some true
 | some (.array _ _)=>some true
 | some _=>some false
 | none=>none
def zeroOf(P:Program)(t:TypeId):Option V:=
 match P.info? t with
 | some i=>match i.zero with
  | some v=>jF v
  | none=>none
 | none=>none
def part(P:Program)(t:TypeId)(cs:List V)(off:Nat):Option V:=
 match oL P t with
 | some true=>match cj P t with
  | some s=>if off+s<=cs.length then some (.agg ((cs.drop off).take s)) else none
  | none=>none
 | some false=>cs[off]?
 | none=>none
def isMap:List V->Bool
 | .mp ..::_=>true
 | .mq _::_=>true
 | _=>false
def ab(h:Heap)(b:Nat):Option (List V):=
 match h[b]? with
 | some (some cs)=>if isMap cs then none else some cs
 | _=>none
def mapsIn(h:Heap):List Nat:=(List.range h.length).filter fun b=>match h[b]? with
 | some (some cs)=>isMap cs
 | _=>false
def mapOf(h:Heap)(b:Nat):Option (IntKind×IntKind×List (Int×Int)):=
 match h[b]? with
 | some (some [.mp k e l])=>some (k,e,l)
 | _=>none
def oO:List (Int×Int)->Int->Option Int
 | [],_=>none
 | (a,v)::r,x=>if x==a then some v else oO r x
def lJ:List (Int×Int)->Int->Int->List (Int×Int)
 | [],x,y=>[(x,y)]
 | (a,v)::r,x,y=>if x==a then (x,y)::r else (a,v)::lJ r x y
def iL(h:Heap)(b:Nat):Option (List (List V)):=
 match h[b]? with
 | some (some [.mq l])=>some l
 | _=>none
def kQ:V->Bool
 | .bool _|.int ..|.nilf|.func _ [] []=>true
 | _=>false
def dq:V->Bool
 | .agg cs=>cs.all kQ
 | v=>kQ v
def gn(P:Program)(t:TypeId):Option (IntKind×IntKind):=
 match P.underlying t with
 | some (.map a b)=>match P.underlying a,P.underlying b,zeroOf P b with
  | some (.int k),some (.int e),some (.int e' 0)=>if e=e' then some (k,e) else none
  | _,_,_=>none
 | _=>none
def ej(P:Program)(h:Heap)(t:TypeId):V->Option V
 | .ptr b off=>match ab h b with
  | some cs=>part P t cs off
  | none=>none
 | .lptr cs off=>part P t cs off
 | _=>none
def cellsOf:V->Option (List V)
 | .agg cs=>if cs.all V.leaf then some cs else none
 | v=>if v.leaf then some [v] else none
def putAt(cs:List V):Nat->List V->List V
 | _,[]=>cs
 | off,v::r=>putAt (cs.set off v) (off+1) r
def aJ(cfg:Cfg)(h:Heap)(b off:Nat)(vs:List V):Option Heap:=
 match ab h b with
 | some cs =>
  if off+vs.length<=cs.length&&cfg.wr b&&(decide (cfg.thr<=b)||vs.all V.rf) then some (h.set b (some (putAt cs off vs))) else none
 | none=>none
def aN(P:Program)(cfg:Cfg)(h:Heap)(t:TypeId)(a v:V):Option Heap:=
 match a,cj P t,cellsOf v with
 | .ptr b off,some s,some vs=>if vs.length=s then aJ cfg h b off vs else none
 | _,_,_=>none
def ag(P:Program)(s:TypeId)(a:V)(f:Nat):Option V:=
 match P.underlying s with
 | some (.struct fields)=>match fields[f]? with
  | some fd=>match cj P fd.type with
   | some (_+1)=>match a with
    | .ptr b off=>some (.ptr b (off+fd.offset))
    | .lptr cs off=>some (.lptr cs (off+fd.offset))
    | _=>none
   | _=>none
  | none=>none
 | _=>none
def jx(P:Program)(t:TypeId)(x:V)(f:Nat):Option V:=
 match P.underlying t with
 | some (.struct fields)=>match fields[f]? with
  | some fd=>match x with
   | .agg cs=>part P fd.type cs fd.offset
   | _=>none
  | none=>none
 | _=>none
def ax(P:Program)(t:TypeId)(x i:V):Option V:=
 match i with
 | .int _ n =>
  if 0<=n then
   match P.underlying t with
   | some (.slice elem)=>match cj P elem,x with
    | some s,.sl b off len _ k=>if n.toNat<len&&s==k then some (.ptr b (off+n.toNat*k)) else none
    | some s,.lst xs=>match xs[n.toNat]? with
     | some e=>if e.length=s then some (.lptr e 0) else none
     | none=>none
    | _,_=>none
   | some (.array len elem)=>match cj P elem,x with
    | some s,.ptr b off=>if n.toNat<len then some (.ptr b (off+n.toNat*s)) else none
    | some s,.lptr cs off=>if n.toNat<len then some (.lptr cs (off+n.toNat*s)) else none
    | _,_=>none
   | _=>none
  else none
 | _=>none
def lC(P:Program)(t:TypeId)(x i:V):Option V:=
 match i with
 | .int _ n =>
  if 0<=n then
   match P.underlying t,x with
   | some (.array len elem),.agg cs=>match cj P elem with
    | some s=>if n.toNat<len then part P elem cs (n.toNat*s) else none
    | none=>none
   | some .string,.str s=>match s[n.toNat]? with
    | some b=>some (.int .u8 b.toNat)
    | none=>none
   | _,_=>none
  else none
 | _=>none
def bI(d:Nat):Option (Option V)->Option Nat
 | none=>some d
 | some (some (.int _ n))=>if 0<=n then some n.toNat else none
 | some _=>none
def cN(P:Program)(h:Heap)(t:TypeId)(x:V)(lo hi:Option (Option V)):Option V:=
 match P.underlying t,x with
 | some (.slice elem),.sl b off len cap k =>
  match cj P elem,bI 0 lo,bI len hi with
  | some s,some l,some r =>
   if s=k&&decide (l<=r)&&decide (r<=len)&&decide (len<=cap) then
    if l=0 then some (.sl b off r cap k)
    else if l=r then some (.lst [])
    else some (.sl b (off+l*k) (r-l) (cap-l) k)
   else none
  | _,_,_=>none
 | some (.slice elem),.lst xs =>
  match cj P elem,bI 0 lo,bI xs.length hi with
  | some s,some l,some r=>if decide (l<=r)&&decide (r<=xs.length)&&(l==r||(xs[l]?).map List.length==some s) then some (.lst ((xs.take r).drop l)) else none
  | _,_,_=>none
 | some (.slice elem),.nils =>
  match cj P elem,bI 0 lo,bI 0 hi with
  | some _,some 0,some 0=>some .nils
  | _,_,_=>none
 | some .string,.str s =>
  match bI 0 lo,bI s.size hi with
  | some l,some r=>if l<=r&&r<=s.size then some (.str (s.extract l r)) else none
  | _,_=>none
 | some (.array n elem),.ptr b off =>
  match cj P elem,lo,hi with
  | some s,none,none=>match ab h b with
   | some cs=>if off+n*s<=cs.length then some (.sl b off n n s) else none
   | none=>none
  | _,_,_=>none
 | _,_=>none
def roomy(n bytes:Nat):Bool:=decide (n*bytes<=2 ^ 40)&&decide (n<=2 ^ 40)
def bytesOf(P:Program)(t:TypeId):Option Nat:=(P.info? t).map (·.bytes)
def bj(z:List V):Nat->List V
 | 0=>[]
 | n+1=>z++bj z n
def cG:V->List V
 | .agg cs=>cs
 | v=>[v]
def cB(P:Program)(h:Heap)(t:TypeId)(l c:V):Option (V×Heap):=
 match P.underlying t,l,c with
 | some (.slice elem),.int .i64 n,.int .i64 m =>
  match cj P elem,bytesOf P elem,zeroOf P elem with
  | some s,some y,some z =>
   if 0<=n&&n<=m&&roomy m.toNat y&&((cG z).length==s)&&decide (0<s) then
    some (.sl h.length 0 n.toNat m.toNat s,h++[some (bj (cG z) m.toNat)])
   else none
  | _,_,_=>none
 | _,_,_=>none
def aV(fr:List V):Nat->List (Nat×Operand)->Option (List V)
 | _,[]=>some []
 | i,(j,x)::r =>
  if i=j then
   match ev fr x with
   | some v=>match aV fr (i+1) r with
    | some vs=>some (v::vs)
    | none=>none
   | none=>none
  else none
def bu(s:Nat):List V->Option (List V)
 | []=>some []
 | v::r=>match cellsOf v with
  | some cs=>if cs.length=s then match bu s r with
    | some rest=>some (cs++rest)
    | none=>none
   else none
  | none=>none
def aI(P:Program)(h:Heap)(t:TypeId)(len:Nat)(vs:List V):Option (V×Heap):=
 match P.underlying t with
 | some (.slice elem)=>match cj P elem with
  | some s=>match bu s vs with
   | some cs=>if vs.length=len&&decide (0<s)&&decide (len*s<=2 ^ 24)&&(zeroOf P elem).isSome then some (.sl h.length 0 len len s,h++[some cs]) else none
   | none=>none
  | none=>none
 | _=>none
def cD(place:Nat->Option (Nat×Nat))(cs:List V):List (Nat×V)->Option (List V)
 | []=>some cs
 | (i,v)::r=>match place i,cellsOf v with
  | some (off,s),some vs=>if vs.length=s&&decide (off+s<=cs.length) then cD place (putAt cs off vs) r else none
  | _,_=>none
def placesOf(P:Program)(fields:Array Field)(i:Nat):Option (Nat×Nat):=
 match fields[i]? with
 | some f=>match cj P f.type with
  | some s=>some (f.offset,s)
  | none=>none
 | none=>none
def cU(fr:List V):List (Nat×Operand)->Option (List (Nat×V))
 | []=>some []
 | (j,x)::r=>match ev fr x with
  | some v=>match cU fr r with
   | some vs=>some ((j,v)::vs)
   | none=>none
  | none=>none
def pJ(P:Program)(fields:Array Field):Bool:=fields.toList.all fun f=>(cj P f.type).isSome
def bW(P:Program)(t:TypeId)(ps:List (Nat×V)):Option V:=
 match zeroOf P t,P.underlying t with
 | some (.agg z),some (.struct fields)=>if pJ P fields then (cD (placesOf P fields) z ps).map .agg else none
 | some (.agg z),some (.array _ elem)=>match cj P elem with
  | some s=>(cD (fun i=>some (i*s,s)) z ps).map .agg
  | none=>none
 | _,_=>none
def cH(fr:List V):List Operand->Option (List V)
 | []=>some []
 | x::r=>match ev fr x with
  | some v=>match cH fr r with
   | some vs=>some (v::vs)
   | none=>none
  | none=>none
def bx(op:BinOp)(k:IntKind)(a b:Int):Option V:=
 match op with
 | .add=>some (.int k (k.wrap (a+b)))
 | .sub=>some (.int k (k.wrap (a-b)))
 | .mul=>some (.int k (k.wrap (a*b)))
 | .quo=>if b=0 then none else some (.int k (k.wrap (a.tdiv b)))
 | .rem=>if b=0 then none else some (.int k (a.tmod b))
 | .and=>some (.int k (k.wrap ((BitVec.ofInt k.bits a &&& BitVec.ofInt k.bits b).toNat:Int)))
 | .or=>some (.int k (k.wrap ((BitVec.ofInt k.bits a ||| BitVec.ofInt k.bits b).toNat:Int)))
 | .xor=>some (.int k (k.wrap ((BitVec.ofInt k.bits a ^^^ BitVec.ofInt k.bits b).toNat:Int)))
 | .andNot=>some (.int k (k.wrap ((BitVec.ofInt k.bits a &&& ~~~(BitVec.ofInt k.bits b)).toNat:Int)))
 | .eql=>some (.bool (a==b))
 | .neq=>some (.bool (a != b))
 | .lss=>some (.bool (decide (a<b)))
 | .leq=>some (.bool (decide (a<=b)))
 | .gtr=>some (.bool (decide (a > b)))
 | .geq=>some (.bool (decide (a >= b)))
 | _=>none
def uz(op:BinOp)(a b:ByteArray):Option V:=
 match op with
 | .add=>if ((a.size+b.size:Nat):Int) > IntKind.i64.max then none else some (.str (a++b))
 | .eql=>some (.bool (a.toList==b.toList))
 | .neq=>some (.bool !(a.toList==b.toList))
 | .lss=>some (.bool (Op.bytesLess a.toList b.toList))
 | .leq=>some (.bool (Op.bytesLess a.toList b.toList||a.toList==b.toList))
 | .gtr=>some (.bool !(Op.bytesLess a.toList b.toList||a.toList==b.toList))
 | .geq=>some (.bool !(Op.bytesLess a.toList b.toList))
 | _=>none
def qG(P:Program)(t:TypeId)(x y:V):Option Bool:=
 match P.underlying t,x,y with
 | some (.int _),.int k a,.int k' b=>if k=k' then some (a==b) else none
 | some .bool,.bool a,.bool b=>some (a==b)
 | some .string,.str a,.str b=>some (a.toList==b.toList)
 | _,_,_=>none
def gg(P:Program):Nat->List Field->List V->List V->Option Bool
 | _,[],[],[]=>some true
 | i,f::fs,a::x,b::y =>
  if f.offset = i && !(f.name == "_") then
   match qG P f.type a b with
   | some true=>gg P (i+1) fs x y
   | some false=>some false
   | none=>none
  else none
 | _,_,_,_=>none
def eqV(P:Program)(t:TypeId)(x y:V):Option Bool:=
 match x,y with
 | .agg xs,.agg ys=>match P.underlying t with
  | some (.struct fields)=>if !P.stoodInHeld t&&!P.eqGuardType P.depth t then gg P 0 fields.toList xs ys else none
  | _=>none
 | .bool a,.bool b=>match P.underlying t with
  | some .bool=>some (a==b)
  | _=>none
 | .sl ..,.nils=>match P.underlying t with
  | some (.slice _)=>some false
  | _=>none
 | .lst (_::_),.nils=>match P.underlying t with
  | some (.slice _)=>some false
  | _=>none
 | .nils,.nils=>match P.underlying t with
  | some (.slice _)=>some true
  | _=>none
 | .nilp,.nilp=>match P.underlying t with
  | some (.pointer _)=>some true
  | _=>none
 | _,_=>none
def eS(P:Program):Nat->List Field->Bool
 | _,[]=>true
 | i,f::fs=>decide (f.offset=i)&&(match P.underlying f.type with
  | some (.int _)=>true
  | some .bool=>true
  | _=>false)&&eS P (i+1) fs
def lH(P:Program)(t:TypeId):Option (TypeId×List Field×V):=
 match P.underlying t with
 | some (.map a b)=>match P.underlying a,zeroOf P b with
  | some (.struct fields),some z=>if eS P 0 fields.toList&&dq z then some (a,fields.toList,z) else none
  | _,_=>none
 | _=>none
def qK(P:Program)(t:TypeId):Option (TypeId×IntKind×V):=
 match P.underlying t with
 | some (.map a b)=>match P.underlying a,zeroOf P b with
  | some (.int k),some z=>if dq z then some (a,k,z) else none
  | _,_=>none
 | _=>none
def nV(k:IntKind)(x:Int):List (List V)->Option (Option V)
 | []=>some none
 | [.int k' y,v]::r=>if k'=k then (if x=y then some (some v) else nV k x r) else none
 | _=>none
def findS(P:Program)(a:TypeId)(key:V):List (List V)->Option (Option V)
 | []=>some none
 | [k,v]::r=>match eqV P a key k with
  | some true=>some (some v)
  | some false=>findS P a key r
  | none=>none
 | _=>none
def dA(P:Program)(h:Heap)(t:TypeId):Option (V×Heap):=
 match gn P t with
 | some (k,e)=>some (.mref h.length,h++[some [.mp k e []]])
 | none=>match lH P t with
  | some _=>some (.mref h.length,h++[some [.mq []]])
  | none=>match qK P t with
   | some _=>some (.mref h.length,h++[some [.mq []]])
   | none=>none
def mapUpdateS(P:Program)(cfg:Cfg)(h:Heap)(t:TypeId)(m key v:V):Option Heap:=
 match lH P t,m,key with
 | some (a,fs,_),.mref b,.agg ks=>match iL h b with
  | some l=>if dq (.agg ks)&&dq v&&decide (ks.length=fs.length)&&cfg.wr b then match findS P a (.agg ks) l with
    | some none=>some (h.set b (some [.mq (l++[[.agg ks,v]])]))
    | _=>none
   else none
  | none=>none
 | _,_,_=>none
def mapUpdateI(P:Program)(cfg:Cfg)(h:Heap)(t:TypeId)(m:V)(k1:IntKind)(x:Int)(v:V):Option Heap:=
 match qK P t,m with
 | some (_,k,_),.mref b=>match iL h b with
  | some l=>if k=k1&&dq v&&cfg.wr b then match nV k x l with
    | some none=>some (h.set b (some [.mq (l++[[.int k x,v]])]))
    | _=>none
   else none
  | none=>none
 | _,_=>none
def cr(P:Program)(cfg:Cfg)(h:Heap)(t:TypeId)(m key v:V):Option Heap:=
 match gn P t,m,key,v with
 | some (k,e),.mref b,.int k1 x,.int e1 y=>match mapOf h b with
  | some (k2,e2,l)=>if k=k1&&e=e1&&k=k2&&e=e2&&cfg.wr b then some (h.set b (some [.mp k e (lJ l x y)])) else none
  | none=>none
 | none,m,.int k x,v=>mapUpdateI P cfg h t m k x v
 | none,m,key,v=>mapUpdateS P cfg h t m key v
 | _,_,_,_=>none
def pn(P:Program)(h:Heap)(t:TypeId)(m key:V)(ok:Bool):Option V:=
 match lH P t,m,key with
 | some (a,fs,z),.mref b,.agg ks=>match iL h b with
  | some l=>if dq (.agg ks)&&decide (ks.length=fs.length) then match findS P a (.agg ks) l with
    | some (some y)=>some (if ok then .tup [y,.bool true] else y)
    | some none=>some (if ok then .tup [z,.bool false] else z)
    | none=>none
   else none
  | none=>none
 | _,_,_=>none
def tY(P:Program)(h:Heap)(t:TypeId)(m:V)(k1:IntKind)(x:Int)(ok:Bool):Option V:=
 match qK P t,m with
 | some (_,k,z),.mref b=>match iL h b with
  | some l=>if k=k1 then match nV k x l with
    | some (some y)=>some (if ok then .tup [y,.bool true] else y)
    | some none=>some (if ok then .tup [z,.bool false] else z)
    | none=>none
   else none
  | none=>none
 | _,_=>none
def fj(P:Program)(h:Heap)(t:TypeId)(m key:V)(ok:Bool):Option V:=
 match gn P t,m,key with
 | some (k,e),.mref b,.int k1 x=>match mapOf h b with
  | some (k2,e2,l)=>if k=k1&&k=k2&&e=e2 then
    match oO l x with
    | some y=>some (if ok then .tup [.int e y,.bool true] else .int e y)
    | none=>some (if ok then .tup [.int e 0,.bool false] else .int e 0)
   else none
  | none=>none
 | none,m,.int k x=>tY P h t m k x ok
 | none,m,key=>pn P h t m key ok
 | _,_,_=>none
def cw(P:Program)(op:BinOp)(t:TypeId)(x y:V):Option V:=
 match op,x,y with
 | .shl,.int k a,.int _ b=>if b<0 then none else some (.int k (k.wrap (a*2 ^ (min b.toNat k.bits))))
 | .shr,.int k a,.int _ b=>if b<0 then none else some (.int k (a.fdiv (2 ^ (min b.toNat k.bits))))
 | op,.int k a,.int k' b=>if k=k' then bx op k a b else none
 | op,.str a,.str b=>uz op a b
 | .eql,x,y=>match eqV P t x y with
  | some b=>some (.bool b)
  | none=>none
 | .neq,x,y=>match eqV P t x y with
  | some b=>some (.bool !b)
  | none=>none
 | _,_,_=>none
def unV(op:UnOp)(x:V):Option V:=
 match op,x with
 | .neg,.int k n=>some (.int k (k.wrap (0-n)))
 | .xor,.int k n=>bx .xor k (if k.signed then -1 else k.max) n
 | .not,.bool b=>some (.bool !b)
 | _,_=>none
def cO(s:ByteArray):(bound i:Nat)->List Int
 | 0,_=>[]
 | bound+1,i =>
  if i<s.size then
   let (r,width):=Utf8.decode s i
   Int.ofNat r::cO s bound (i+width)
  else []
def ff(h:Heap):V->Option (List V)
 | .sl b off len _ k=>match ab h b with
  | some cs=>if k=1&&decide (off+len<=cs.length) then some ((cs.drop off).take len) else none
  | none=>none
 | .lst xs=>xs.mapM fun e=>match e with
  | [c]=>some c
  | _=>none
 | .nils=>some []
 | _=>none
def lT:List V->Option (List UInt8)
 | []=>some []
 | .int .u8 n::r=>match lT r with
  | some bs=>some (UInt8.ofNat n.toNat::bs)
  | none=>none
 | _=>none
def fJ:List V->Option (List Int)
 | []=>some []
 | .int .i32 n::r=>match fJ r with
  | some ns=>some (n::ns)
  | none=>none
 | _=>none
def lA(ns:List Int):ByteArray:=ns.foldl (fun s n=>s++Utf8.encode n) ByteArray.empty
def eh(P:Program)(h:Heap)(src dst:TypeId)(x:V):Option (V×Heap):=
 match P.underlying src,P.underlying dst with
 | some (.slice e),some .string=>match P.underlying e with
  | some (.int .u8)=>match ff h x with
   | some cs=>match lT cs with
    | some bs=>some (.str ⟨bs.toArray⟩,h)
    | none=>none
   | none=>none
  | some (.int .i32)=>match ff h x with
   | some cs=>match fJ cs with
    | some ns=>some (.str (lA ns),h)
    | none=>none
   | none=>none
  | _=>none
 | some _,some (.int k)=>match x with
  | .int _ n=>some (.int k (k.wrap n),h)
  | _=>none
 | some _,some .string=>match x with
  | .str s=>some (.str s,h)
  | _=>none
 | some _,some (.slice e)=>match x with
  | .str s=>match P.underlying e with
   | some (.int .i32)=>some (.sl h.length 0 (cO s s.size 0).length (cO s s.size 0).length 1,h++[some ((cO s s.size 0).map (V.int .i32))])
   | _=>none
  | _=>none
 | _,_=>none
def dc(P:Program)(t:TypeId)(x:V):Option V:=
 match P.underlying t,x with
 | some .string,.str s=>some (.int .i64 s.size)
 | some (.slice _),.sl _ _ len _ _=>some (.int .i64 len)
 | some (.slice _),.lst xs=>some (.int .i64 xs.length)
 | some (.slice _),.nils=>some (.int .i64 0)
 | some (.array n _),_=>some (.int .i64 n)
 | _,_=>none
def bc(h:Heap)(s:Nat):V->Option (Nat×List V)
 | .sl b off len _ k=>match ab h b with
  | some cs=>if k=s&&decide (off+len*k<=cs.length) then some (len,(cs.drop off).take (len*k)) else none
  | none=>if len=0 then some (0,[]) else none
 | .lst xs=>if xs.all (fun e=>e.length==s) then some (xs.length,xs.flatten) else none
 | .nils=>some (0,[])
 | _=>none
def rJ(P:Program)(t:TypeId)(s:Nat):Bool:=
 match zeroOf P t with
 | some z=>(cG z).length==s
 | none=>false
def bV(P:Program)(cfg:Cfg)(h:Heap)(t u:TypeId)(d x:V):Option (V×Heap):=
 match P.underlying t with
 | some (.slice elem)=>match cj P elem,bytesOf P elem with
  | some s,some y=>match bc h s x with
   | some (n,new) =>
    if new.all V.leaf&&decide (0<s)&&decide (t=u)&&rJ P elem s then
     match d with
     | .nils=>if roomy n y then
       if n=0 then some (.nils,h) else some (.sl h.length 0 n n s,h++[some new])
      else none
     | .sl b off len cap k =>
      if k=s&&roomy (len+n) y then
       if len+n<=cap then
        match aJ cfg h b (off+len*s) new with
        | some h'=>some (.sl b off (len+n) cap k,h')
        | none=>none
       else match ab h b with
        | some cs=>if off=0&&cfg.wr b&&decide (len*s<=cs.length) then
          some (.sl h.length 0 (len+n) (len+n) k,(h.set b none)++[some (cs.take (len*s)++new)])
         else none
        | none=>none
      else none
     | _=>none
    else none
   | none=>none
  | _,_=>none
 | _=>none
def iD(P:Program)(cfg:Cfg)(h:Heap)(t:TypeId)(x:V):Option Heap:=
 match P.underlying t,x with
 | some (.slice _),.nils=>some h
 | some (.slice _),.lst []=>some h
 | some (.slice elem),.sl b off len _ k =>
  if len=0 then some h
  else match cj P elem,zeroOf P elem with
   | some s,some z=>if s=k&&((cG z).length==s)&&decide (0<s)&&(cG z).all V.leaf then aJ cfg h b off (bj (cG z) len) else none
   | _,_=>none
 | _,_=>none
def uc:List V->Option V
 | [.int k a,.int _ b]=>some (.int k (if b<a then b else a))
 | [.int k a,.int _ b,.int _ c]=>some (.int k (if c<(if b<a then b else a) then c else (if b<a then b else a)))
 | _=>none
def oN:List V->Option V
 | [.int k a,.int _ b]=>some (.int k (if b > a then b else a))
 | [.int k a,.int _ b,.int _ c]=>some (.int k (if c > (if b > a then b else a) then c else (if b > a then b else a)))
 | _=>none
def eV:V->Option V
 | .ptr b off=>some (.ptr b off)
 | .lptr cs off=>some (.lptr cs off)
 | .func (.func f) a c=>some (.func (.func f) a c)
 | _=>none
def gS:V->Nat->Option V
 | .tup vs,i=>vs[i]?
 | _,_=>none
def opV(P:Program)(cfg:Cfg)(fr:List V)(h:Heap):Op->Option (V×Heap)
 | .move x=>(ev fr x).map (·,h)
 | .assign x=>(ev fr x).map (·,h)
 | .pick c a b=>match ev fr c with
  | some (.bool true)=>(ev fr a).map (·,h)
  | some (.bool false)=>(ev fr b).map (·,h)
  | _=>none
 | .alloc t=>match zeroOf P t with
  | some z=>some (.ptr h.length 0,h++[some (cG z)])
  | none=>none
 | .box _ x=>match ev fr x with
  | some v=>match cellsOf v with
   | some cs=>some (.ptr h.length 0,h++[some cs])
   | none=>none
  | none=>none
 | .build t ps=>match cU fr ps.toList with
  | some vs=>(bW P t vs).map (·,h)
  | none=>none
 | .buildSlice t n ps=>match aV fr 0 ps.toList with
  | some vs=>aI P h t n vs
  | none=>none
 | .load t a=>match ev fr a with
  | some x=>(ej P h t x).map (·,h)
  | none=>none
 | .store t a x=>match ev fr a,ev fr x with
  | some p,some v=>match aN P cfg h t p v with
   | some h'=>some (.no,h')
   | none=>none
  | _,_=>none
 | .nilCheck x=>match ev fr x with
  | some v=>(eV v).map (·,h)
  | none=>none
 | .binOp op t x y _=>match ev fr x,ev fr y with
  | some a,some b=>(cw P op t a b).map (·,h)
  | _,_=>none
 | .unOp op _ x=>match ev fr x with
  | some a=>(unV op a).map (·,h)
  | none=>none
 | .convert s d x=>match ev fr x with
  | some a=>eh P h s d a
  | none=>none
 | .makeFunc fn first captured=>match cH fr first.toList,cH fr captured.toList with
  | some f,some c=>some (.func fn f c,h)
  | _,_=>none
 | .makeSlice t l c=>match ev fr l,ev fr c with
  | some a,some b=>cB P h t a b
  | _,_=>none
 | .slice t x lo hi none=>match ev fr x with
  | some a=>(cN P h t a (lo.map (ev fr)) (hi.map (ev fr))).map (·,h)
  | none=>none
 | .fieldAddr s x f=>match ev fr x with
  | some a=>(ag P s a f).map (·,h)
  | none=>none
 | .field t x f=>match ev fr x with
  | some a=>(jx P t a f).map (·,h)
  | none=>none
 | .indexAddr t x i=>match ev fr x,ev fr i with
  | some a,some b=>(ax P t a b).map (·,h)
  | _,_=>none
 | .index t x i=>match ev fr x,ev fr i with
  | some a,some b=>(lC P t a b).map (·,h)
  | _,_=>none
 | .extract x i=>match ev fr x with
  | some a=>(gS a i).map (·,h)
  | none=>none
 | .makeMap t none=>dA P h t
 | .mapUpdate t m k x=>match ev fr m,ev fr k,ev fr x with
  | some a,some b,some c=>match cr P cfg h t a b c with
   | some h'=>some (.no,h')
   | none=>none
  | _,_,_=>none
 | .insert t m k x=>match ev fr m,ev fr k,ev fr x with
  | some a,some b,some c=>match cr P cfg h t a b c with
   | some h'=>some (.no,h')
   | none=>none
  | _,_,_=>none
 | .lookup t m k ok=>match ev fr m,ev fr k with
  | some a,some b=>(fj P h t a b ok).map (·,h)
  | _,_=>none
 | .call { callee:=.builtin b,args,argTypes }=>match cH fr args.toList with
  | none=>none
  | some vs=>match b,argTypes.toList,vs with
   | .len,[t],[x]=>(dc P t x).map (·,h)
   | .append,[t,u],[d,x]=>bV P cfg h t u d x
   | .min,_,vs=>(uc vs).map (·,h)
   | .max,_,vs=>(oN vs).map (·,h)
   | .clear,[t],[x]=>match iD P cfg h t x with
    | some h'=>some (.tup [],h')
    | none=>none
   | _,_,_=>none
 | _=>none
def chunk(k:Nat):Nat->List V->List (List V)
 | 0,_=>[]
 | n+1,cs=>cs.take k::chunk k n (cs.drop k)
def frz(h:Heap)(n:Nat):Nat->V->Option V
 | 0,_=>none
 | d+1,v=>match v with
  | .sl b off len cap k =>
   if b<n then some (.sl b off len cap k)
   else match ab h b with
    | some cs=>if off+len*k<=cs.length then
      match ((cs.drop off).take (len*k)).mapM (frz h n d) with
      | some cs'=>if cs'.all V.rf then some (.lst (chunk k len cs')) else none
      | none=>none
     else none
    | none=>none
  | .ptr b off=>if b<n then some (.ptr b off) else none
  | .mref b=>if b<n then some (.mref b) else none
  | .nils=>some (.lst [])
  | .agg cs=>match cs.mapM (frz h n d) with
   | some cs'=>some (.agg cs')
   | none=>none
  | .tup cs=>match cs.mapM (frz h n d) with
   | some cs'=>some (.tup cs')
   | none=>none
  | .func fn [] []=>some (.func fn [] [])
  | .func _ _ _=>none
  | .iface _ _=>none
  | v=>some v
def V.noref:V->Bool
 | .agg cs=>cs.all V.rf
 | .tup cs=>cs.all V.rf
 | .func _ f c=>f.all V.rf&&c.all V.rf
 | v=>v.rf
def own(h:Heap):Nat->V->Bool
 | 0,_=>false
 | d+1,v=>match v with
  | .sl b off len _ k=>match ab h b with
   | some cs=>((cs.drop off).take (len*k)).all (own h d)
   | none=>false
  | .agg cs=>cs.all (own h d)
  | .tup cs=>cs.all (own h d)
  | .lst []=>true
  | .bool _|.int ..|.str _|.nilp|.nils|.nilf|.nili|.nilm|.no=>true
  | _=>false
def unnil:V->V
 | .nils=>.lst []
 | v=>v
def frzA(h:Heap)(v:V):Option V:=(frz h 0 6 v).map unnil
/-- How a function is called: 0: it writes nothing that was there, and what it hands back is frozen (over an empty heap, if what it takes leads to no block);
    1: it may write, and leaves nothing of its own behind; 3: what it takes is frozen for it, and what it hands back is new; 4: as 1 (where the order is drawn: it may write maps); else: as it is (5: where the order is drawn it may write maps). -/
def af(md:FuncId->Nat)(call:aF)(cfg:Cfg)(f:FuncId)(args:List V)(h:Heap):Option (V×Heap):=
 match md f with
 | 0 =>
  if args.all V.noref then
   match call ⟨0,[],0⟩ f args []with
   | some (r,h')=>match frz h' 0 6 r with
    | some r'=>some (r',h)
    | none=>none
   | none=>none
  else
   match call ⟨h.length,[],h.length⟩ f args h with
   | some (r,h')=>match frz h' h.length 6 r with
    | some r'=>some (r',h'.take h.length)
    | none=>none
   | none=>none
 | 1=>match call ⟨cfg.lo,cfg.ex,h.length⟩ f args h with
  | some (r,h')=>match frz h' h.length 6 r with
   | some r'=>some (r',h'.take h.length)
   | none=>none
  | none=>none
 | 4=>match call ⟨cfg.lo,cfg.ex,h.length⟩ f args h with
  | some (r,h')=>match frz h' h.length 6 r with
   | some r'=>some (r',h'.take h.length)
   | none=>none
  | none=>none
 | 3=>match args.mapM (frzA h) with
  | none=>none
  | some args'=>match call ⟨0,[],0⟩ f args' []with
   | some (r,h') =>
    if own h' 6 r then
     match frz h' 0 6 r with
     | some r'=>some (r',h)
     | none=>none
    else none
   | none=>none
 | _=>call cfg f args h
def aB(P:Program)(md:FuncId->Nat)(call:aF)(cfg:Cfg)(fr:List V)(h:Heap)(op:Op):Option (V×Heap):=
 match op with
 | .call { callee:=.value f,args,argTypes:=_ }=>match ev fr f,cH fr args.toList with
  | some (.func (.func g) first captured),some vs=>af md call cfg g ((first++vs)++captured) h
  | _,_=>none
 | op=>opV P cfg fr h op
def put(fr:List V):Option Tmp->V->List V
 | some d,v=>fr.set d v
 | none,_=>fr
def cy(ops:Array Oper)(fr:List V)(o:Oper):Option Bool:=
 match o.guard with
 | none=>some true
 | some (j,want)=>match ops[j]? with
  | some p=>match p.dst with
   | some d=>match fr[d]? with
    | some (.bool b)=>some (b==want)
    | some .no=>some false
    | _=>none
   | none=>none
  | none=>none
def cZ(P:Program)(md:FuncId->Nat)(call:aF)(cfg:Cfg)(ops:Array Oper)(o:Oper)(fr:List V)(h:Heap):Option (List V×Heap):=
 match cy ops fr o with
 | some true=>match aB P md call cfg fr h o.op with
  | some (v,h')=>some (put fr o.dst v,h')
  | none=>none
 | some false=>some (put fr o.dst .no,h)
 | none=>none
def cm(P:Program)(md:FuncId->Nat)(call:aF)(cfg:Cfg)(ops:Array Oper):List Oper->List V->Heap->Option (List V×Heap)
 | [],fr,h=>some (fr,h)
 | o::r,fr,h=>match cZ P md call cfg ops o fr h with
  | some (fr',h')=>cm P md call cfg ops r fr' h'
  | none=>none
inductive Ex where
 | normal
 | exit (id:Nat)
 | ret
abbrev St:=Ex×List V×Heap
def iter(body:List V->Heap->Option St):Nat->List V->Heap->Option St
 | 0,_,_=>none
 | n+1,fr,h=>match body fr h with
  | some (.normal,fr',h')=>iter body n fr' h'
  | r=>r
abbrev jq:=Cfg->Array Oper->List V->Heap->Option (List V×Heap)
def code(P:Program)(md:FuncId->Nat)(call:aF)(draw:jq)(cfg:Cfg)(n:Nat):Code->List V->Heap->Option St
 | .skip,fr,h=>some (.normal,fr,h)
 | .region _ ops false,fr,h=>match cm P md call cfg ops ops.toList fr h with
  | some (fr',h')=>some (.normal,fr',h')
  | none=>none
 | .region _ ops true,fr,h=>match draw cfg ops fr h with
  | some (fr',h')=>some (.normal,fr',h')
  | none=>none
 | .seq a b,fr,h=>match code P md call draw cfg n a fr h with
  | some (.normal,fr',h')=>code P md call draw cfg n b fr' h'
  | r=>r
 | .cond c t e,fr,h=>match ev fr c with
  | some (.bool true)=>code P md call draw cfg n t fr h
  | some (.bool false)=>code P md call draw cfg n e fr h
  | _=>none
 | .block id b,fr,h=>match code P md call draw cfg n b fr h with
  | some (.exit i,fr',h')=>some (if i=id then .normal else .exit i,fr',h')
  | r=>r
 | .loop b,fr,h=>iter (code P md call draw cfg n b) n fr h
 | .exit id,fr,h=>some (.exit id,fr,h)
 | .ret,fr,h=>some (.ret,fr,h)
 | _,_,_=>none
def gH(P:Program)(fr:List V)(h:Heap):List ResultVar->Option (List V)
 | []=>some []
 | .tmp t::r=>match fr[t]? with
  | some v=>match gH P fr h r with
   | some vs=>some (v::vs)
   | none=>none
  | none=>none
 | .cell a t::r=>match fr[a]? with
  | some p=>match ej P h t p with
   | some v=>match gH P fr h r with
    | some vs=>some (v::vs)
    | none=>none
   | none=>none
  | none=>none
def oneOf:List V->V
 | [v]=>v
 | vs=>.tup vs
def xZ(P:Program)(md:FuncId->Nat)(call:aF)(draw:jq)(n:Nat)(cfg:Cfg)(fn:Func)(args:List V)(h:Heap):Option (V×Heap):=
 match fn.body with
 | none=>none
 | some c=>match code P md call draw cfg n c (args++List.replicate (fn.ntmps-args.length) .no) h with
  | some (.exit _,_,_)=>none
  | some (_,fr,h')=>match gH P fr h' fn.results.toList with
   | some vs=>some (oneOf vs,h')
   | none=>none
  | none=>none
end Go.Ab
namespace Go.Ab
def live(h:Heap)(b:Nat):Prop:=∃ cs,h[b]?=some (some cs)
theorem fh{h:Heap}{b:Nat}(hl:live h b):b<h.length:=by
 obtain⟨cs,hc⟩:=hl
 grind
theorem aA{h:Heap}{b:Nat}{cs:List V}(hb:ab h b=some cs):h[b]?=some (some cs):=by
 grind[ab]
theorem cX{h:Heap}{b:Nat}{cs:List V}(hb:ab h b=some cs):isMap cs=false:=by
 grind[ab]
theorem dz{h:Heap}{b:Nat}{l:List (List V)}(hb:iL h b=some l):h[b]?=some (some [.mq l]):=by
 grind[iL]
theorem gF{h:Heap}{b:Nat}{k e:IntKind}{l:List (Int×Int)}(hb:mapOf h b=some (k,e,l)):h[b]?=some (some [.mp k e l]):=by
 grind[mapOf]
structure Mu where
 f:Nat->Option Nat
 z:Nat->Prop
instance:CoeFun Mu (fun _=>Nat->Option Nat):=⟨Mu.f⟩
def rsz(w:World)(b:Nat):Nat:=
 match w.heap[b]? with
 | some (.cells c _ _)=>c.size
 | _=>0
def Imm(m:Mu)(h:Heap)(w:World)(b:Nat):Prop:=b<w.heap.size/\¬ m.z b/\∀ x,live h x->m x≠some b
inductive R (m:Mu) (h:Heap) (w:World):V->Value->Prop where
 | any (v:Value):R m h w .any v
 | no:R m h w .no undef
 | bool (b:Bool):R m h w (.bool b) (.bool b)
 | int (k:IntKind) (n:Int):R m h w (.int k n) (.int k n)
 | str (s:ByteArray):R m h w (.str s) (.string s)
 | nilp:R m h w .nilp (.pointer none)
 | ptr {x off:Nat} {a:Addr} (hlt:x<h.length) (hv:live h x->∃ b,m x=some b/\a=⟨b,off,none⟩):R m h w (.ptr x off) (.pointer (some a))
 | lptr {cs:List V} {off b o:Nat} (rv:Nat->Value) (hi:Imm m h w b) (hc:∀ (i:Nat) (c:V),cs[i]?=some c->w.cell? ⟨b,o+i,none⟩=some (rv i))
   (hf:∀ (i:Nat) (c:V),cs[i]?=some c->c.rf=true) (hr:∀ (i:Nat) (c:V),cs[i]?=some c->R m h w c (rv i)):R m h w (.lptr cs off) (.pointer (some ⟨b,o+off,none⟩))
 | nils:R m h w .nils (.slice none 0 0)
 | sl {x off len cap k rc:Nat} {a:Addr} (hlt:x<h.length) (hcap:cap<=rc) (hlen:len<=rc) (hv:live h x->∃ b,m x=some b/\a=⟨b,off,none⟩/\off+rc*k<=rsz w b):
   R m h w (.sl x off len cap k) (.slice (some a) len rc)
 | lst0 (a:Option Addr) (rc:Nat) (ha:a=none->rc=0):R m h w (.lst []) (.slice a 0 rc)
 | lst {xs:List (List V)} {b o k rc:Nat} (rv:Nat->Nat->Value) (hi:Imm m h w b) (hrc:xs.length<=rc) (hk:∀ (i:Nat) (e:List V),xs[i]?=some e->e.length=k)
   (hc:∀ (i:Nat) (e:List V) (j:Nat) (c:V),xs[i]?=some e->e[j]?=some c->w.cell? ⟨b,o+i*k+j,none⟩=some (rv i j))
   (hf:∀ (i:Nat) (e:List V) (j:Nat) (c:V),xs[i]?=some e->e[j]?=some c->c.rf=true)
   (hr:∀ (i:Nat) (e:List V) (j:Nat) (c:V),xs[i]?=some e->e[j]?=some c->R m h w c (rv i j)):R m h w (.lst xs) (.slice (some ⟨b,o,none⟩) xs.length rc)
 | agg {cs:List V} {vs:Array Value} (hl:vs.size=cs.length) (hr:∀ (i:Nat) (c:V) (v:Value),cs[i]?=some c->vs[i]?=some v->R m h w c v):R m h w (.agg cs) (.agg vs)
 | tup {cs:List V} {vs:Array Value} (hl:vs.size=cs.length) (hr:∀ (i:Nat) (c:V) (v:Value),cs[i]?=some c->vs[i]?=some v->R m h w c v):R m h w (.tup cs) (.tuple vs)
 | func {fn:Fn} {f c:List V} {fs cs:Array Value} (hl:fs.size=f.length) (hr:∀ (i:Nat) (c:V) (v:Value),f[i]?=some c->fs[i]?=some v->R m h w c v)
   (hl':cs.size=c.length) (hr':∀ (i:Nat) (x:V) (v:Value),c[i]?=some x->cs[i]?=some v->R m h w x v):R m h w (.func fn f c) (.func fn fs cs)
 | nilf:R m h w .nilf .nilFunc
 | nili:R m h w .nili .nilIface
 | nilm:R m h w .nilm (.map none)
 | iface {t:TypeId} {x:V} {v:Value} (hr:R m h w x v):R m h w (.iface t x) (.iface t v)
 | mref {x:Nat} {b:Nat} (hlt:x<h.length) (hv:live h x->m x=some b):R m h w (.mref x) (.map (some b))
theorem R.same{m:Mu}{h:Heap}{w w2:World}(hs:w2.heap.size=w.heap.size)(hz:∀ b,rsz w2 b=rsz w b)(hc:∀ p,w2.cell? p=w.cell? p){x:V}{v:Value}(r:R m h w x v):R m h w2 x v:=by
 have hi:∀ b,Imm m h w b->Imm m h w2 b:=fun b ⟨h1,h2,h3⟩=>⟨by omega,h2,h3⟩
 induction r with
 | any v=>exact .any v
 | no=>exact .no
 | bool b=>exact .bool b
 | int k n=>exact .int k n
 | str s=>exact .str s
 | nilp=>exact .nilp
 | ptr h0 hv=>exact .ptr h0 hv
 | lptr rv h1 h2 h3 _ ih=>exact .lptr rv (hi _ h1) (fun i c h=>(hc _).trans (h2 i c h)) h3 ih
 | nils=>exact .nils
 | sl h0 h6 hlen hv=>exact .sl h0 h6 hlen (by simp_all)
 | lst0 a rc ha=>exact .lst0 a rc ha
 | lst rv h1 h2 h3 h4 h5 _ ih=>exact .lst rv (hi _ h1) h2 h3 (fun i e j c h h'=>(hc _).trans (h4 i e j c h h')) h5 ih
 | agg hl _ ih=>exact .agg hl ih
 | tup hl _ ih=>exact .tup hl ih
 | func hl _ h7 _ ih ih'=>exact .func hl ih h7 ih'
 | nilf=>exact .nilf
 | nili=>exact .nili
 | nilm=>exact .nilm
 | iface _ ih=>exact .iface ih
 | mref h0 hv=>exact .mref h0 hv
structure Evo(m:Mu)(h:Heap)(w:World)(m':Mu)(h':Heap)(w':World):Prop where
 zeq:m'.z=m.z
 len:h.length<=h'.length
 keep:∀ x,x<h.length->live h' x->live h x/\m' x=m x
 own:∀ (x b:Nat),live h' x->m' x=some b->(∃ y,live h y/\m y=some b)\/w.heap.size<=b
 frame:∀ b,b<w.heap.size->(∀ x,live h x->m x≠some b)->w'.heap[b]?=w.heap[b]?
 size:w.heap.size<=w'.heap.size
 rs:∀ b,b<w.heap.size->rsz w b<=rsz w' b
 os:w'.os=w.os
 tape:w'.tape=w.tape
 output:w'.output=w.output
theorem Evo.refl(m:Mu)(h:Heap)(w:World):Evo m h w m h w:=
 ⟨rfl,La _,fun _ _ hl=>⟨hl,rfl⟩,fun x _ hl hb=>.inl ⟨x,hl,hb⟩,fun _ _ _=>rfl,La _,fun _ _=>La _,rfl,rfl,rfl⟩
theorem Evo.trans{m m' m'':Mu}{h h' h0:Heap}{w w' w'':World}(e:Evo m h w m' h' w')(e':Evo m' h' w' m'' h0 w''):Evo m h w m'' h0 w'' where
 zeq:=e'.zeq.trans e.zeq
 len:=L9 e.len e'.len
 keep:=fun x hx hl=>by
  obtain⟨h6,he⟩:=e'.keep x (Lu hx e.len) hl;obtain⟨h7,h8⟩:=e.keep x hx h6;simp_all
 own:=fun x b hl hb=>by
  rcases e'.own x b hl hb with⟨y,hy,h3⟩|h4
  ·exact e.own y b hy h3
  ·exact .inr (L9 e.size h4)
 frame:=fun b hb hn=>by
  refine (e'.frame b (Lu hb e.size) ?_).trans (e.frame b hb hn);intro x hl hx;rcases e.own x b hl hx with⟨y,hy,h3⟩|h4<;>grind
 size:=L9 e.size e'.size
 rs:=fun b hb=>L9 (e.rs b hb) (e'.rs b (Lu hb e.size))
 os:=e'.os.trans e.os
 tape:=e'.tape.trans e.tape
 output:=e'.output.trans e.output
theorem Imm.evo{m m':Mu}{h h':Heap}{w w':World}{b:Nat}(e:Evo m h w m' h' w')(hi:Imm m h w b):Imm m' h' w' b:=by
 refine⟨Lu hi.1 e.size,by rw[e.zeq];exact hi.2.1,fun x hl hx=>?_⟩;rcases e.own x b hl hx with⟨y,hy,h0⟩|h3
 ·exact hi.2.2 y hy h0
 ·exact absurd hi.1 (Nat.not_lt.2 h3)
theorem cell?_of_block{w w':World}{b:Nat}(hb:w'.heap[b]?=w.heap[b]?)(o:Nat):w'.cell? ⟨b,o,none⟩=w.cell? ⟨b,o,none⟩:=by
 simp[World.cell?,hb]
theorem cF{w w':World}{b:Nat}(hb:w'.heap[b]?=w.heap[b]?):rsz w' b=rsz w b:=by simp[rsz,hb]
theorem Imm.cell{m m':Mu}{h h':Heap}{w w':World}{b:Nat}(e:Evo m h w m' h' w')(hi:Imm m h w b)(o:Nat):w'.cell? ⟨b,o,none⟩=w.cell? ⟨b,o,none⟩:=
 cell?_of_block (e.frame b hi.1 hi.2.2) o
theorem R.evo{m m':Mu}{h h':Heap}{w w':World}(e:Evo m h w m' h' w')(h4:∀ (x b:Nat),live h x->m x=some b->b<w.heap.size){x:V}{v:Value}(hr:R m h w x v):R m' h' w' x v:=by
 induction hr with
 | any v=>exact .any v
 | no=>exact .no
 | bool b=>exact .bool b
 | int k n=>exact .int k n
 | str s=>exact .str s
 | nilp=>exact .nilp
 | ptr h0 hv =>
  refine .ptr (Lu h0 e.len) fun hl=>?_;obtain⟨h3,hm⟩:=e.keep _ h0 hl;simp_all
 | lptr rv hi hc hf _ ih=>exact .lptr rv (hi.evo e) (fun i c h7=>(hi.cell e _).trans (hc i c h7)) hf ih
 | nils=>exact .nils
 | sl h0 h6 hlen hv =>
  refine .sl (Lu h0 e.len) h6 hlen fun hl=>?_;obtain⟨h3,hm⟩:=e.keep _ h0 hl;obtain⟨b,hb,h8,hs⟩:=hv h3;exact⟨b,hm.trans hb,h8,L9 hs (e.rs b (h4 _ _ h3 hb))⟩
 | lst0 a rc ha=>exact .lst0 a rc ha
 | lst rv hi h9 hk hc hf _ ih=>exact .lst rv (hi.evo e) h9 hk (fun i x j c hx hj=>(hi.cell e _).trans (hc i x j c hx hj)) hf ih
 | agg hl _ ih=>exact .agg hl ih
 | tup hl _ ih=>exact .tup hl ih
 | func hl _ hd _ ih ih'=>exact .func hl ih hd ih'
 | nilf=>exact .nilf
 | nili=>exact .nili
 | nilm=>exact .nilm
 | iface _ ih=>exact .iface ih
 | mref h0 hv =>
  refine .mref (Lu h0 e.len) fun hl=>?_;obtain⟨h3,hm⟩:=e.keep _ h0 hl;simp_all
def uH(k e:IntKind)(l:List (Int×Int))(es:Array MapEntry):Prop:=es.toList.map (fun x=>(x.key,x.val))=l.map fun x=>(Value.int k x.1,Value.int e x.2)
def tW:V->Value
 | .bool b=>.bool b
 | .int k n=>.int k n
 | .nilf=>.nilFunc
 | .func fn [] []=>.func fn #[] #[]
 | _=>undef
def valOf:V->Value
 | .agg cs=>.agg (cs.map tW).toArray
 | v=>tW v
def xz(l:List (List V))(es:Array MapEntry):Prop:=es.toList.map (fun x=>(x.key,x.val))=l.map (fun e=>(valOf (e.headD .no),valOf (e.getD 1 .no)))/\∀ e∈l,∃ k v,e=[k,v]/\dq k=true/\dq v=true
def BR(m:Mu)(h:Heap)(w:World)(cs:List V)(b:Nat):Prop:=
 (∃ arr T,w.heap[b]?=some (.cells arr T (0,0))/\cs.length<=arr.size/\∀ (i:Nat) (c:V),cs[i]?=some c->∃ v,arr[i]?=some v/\R m h w c v) \/
 (∃ k e l es clock,cs=[.mp k e l]/\w.heap[b]?=some (.map es clock)/\uH k e l es) \/
 (∃ l es clock,cs=[.mq l]/\w.heap[b]?=some (.map es clock)/\xz l es)
theorem BR.cells{m:Mu}{h:Heap}{w:World}{cs:List V}{b:Nat}(hb:BR m h w cs b)(hn:isMap cs=false):
  ∃ arr T,w.heap[b]?=some (.cells arr T (0,0))/\cs.length<=arr.size/\∀ (i:Nat) (c:V),cs[i]?=some c->∃ v,arr[i]?=some v/\R m h w c v:=by
 rcases hb with h|⟨k,e,l,es,clock,rfl,_⟩|⟨l,es,clock,rfl,_⟩<;>grind[isMap]
theorem BR.carry{m m':Mu}{h h':Heap}{w w':World}{cs:List V}{b:Nat}(hb:BR m h w cs b)(hw:w'.heap[b]?=w.heap[b]?)(hr:∀ (c:V) (v:Value),c∈cs->R m h w c v->R m' h' w' c v):BR m' h' w' cs b:=by
 rcases hb with⟨arr,T,ha,hl,hc⟩|⟨k,e,l,es,clock,rfl,ha,hm⟩|⟨l,es,clock,rfl,ha,hm⟩
 ·refine .inl ⟨arr,T,hw.trans ha,hl,fun i c hi=>?_⟩
  grind
 ·exact .inr (.inl ⟨k,e,l,es,clock,rfl,hw.trans ha,hm⟩)
 ·exact .inr (.inr ⟨l,es,clock,rfl,hw.trans ha,hm⟩)
theorem BR.lt{m:Mu}{h:Heap}{w:World}{cs:List V}{b:Nat}(hb:BR m h w cs b):b<w.heap.size:=by
 rcases LS b w.heap.size with h|h
 ·exact h
 ·rcases hb with⟨arr,T,ha,_⟩|⟨k,e,l,es,clock,_,ha,_⟩|⟨l,es,clock,_,ha,_⟩<;>simp[Array.getElem?_eq_none h]at ha
structure Rel(m:Mu)(h:Heap)(w:World):Prop where
 zo:∀ (x b:Nat),live h x->m x=some b->¬ m.z b
 zl:∀ b,m.z b->b<w.heap.size
 inj:∀ x y b,live h x->live h y->m x=some b->m y=some b->x=y
 blk:∀ x cs b,h[x]?=some (some cs)->m x=some b->BR m h w cs b
theorem Rel.lt{m:Mu}{h:Heap}{w:World}(r:Rel m h w):∀ x b,live h x->m x=some b->b<w.heap.size:=by
 rintro x b ⟨cs,hc⟩ hb;exact (r.blk x cs b hc hb).lt
class Base where
 n:Nat
instance (priority:=low) Base.zero:Base:=⟨0⟩
def mark(D:Nat):Deferred:={ target:=.collected D,args:=#[] }
def Mks(B:Nat)(w:World)(ds:List Deferred):Prop:=B<=w.heap.size/\∃ Ds:List Nat,Ds.Nodup/\ds=Ds.map mark/\∀ D∈Ds,B<=D/\w.heap[D]?=some (.deferred (some []))
theorem Mks.nil{B:Nat}{w:World}(h:B<=w.heap.size):Mks B w []:=⟨h,[],List.nodup_nil,rfl,fun _ h=>by cases h⟩
theorem Mks.frame{B:Nat}{m:Mu}{h:Heap}{w w':World}{ds:List Deferred}(r:Rel m h w)(hs:w.heap.size<=w'.heap.size)(hf:∀ b,b<w.heap.size->(∀ x,live h x->m x≠some b)->w'.heap[b]?=w.heap[b]?)(k:Mks B w ds):Mks B w' ds:=by
 obtain⟨h0,Ds,h1,h2,h3⟩:=k;refine⟨L9 h0 hs,Ds,h1,h2,fun D hD=>?_⟩;obtain⟨hB,hd⟩:=h3 D hD;refine⟨hB,?_⟩;rw[hf D (Lo.1 hd).1 fun x ⟨cs,hx⟩ hm=>?_]
 ·exact hd
 ·rcases r.blk x cs D hx hm with⟨arr,T,e,_⟩|⟨_,_,_,_,_,_,e,_⟩|⟨_,_,_,_,e,_⟩<;>rw[hd]at e<;>cases e
structure FR[Base](m:Mu)(h:Heap)(w:World)(fr:List V)(a:Act):Prop where
 len:fr.length=a.tmps.size
 slot:∀ (i:Nat) (x:V) (v:Value),fr[i]?=some x->a.tmps[i]?=some v->R m h w x v
 defers:Mks Base.n w a.defers
variable [Base]
theorem FR.evo{m m':Mu}{h h':Heap}{w w':World}{fr:List V}{a:Act}(r:Rel m h w)(e:Evo m h w m' h' w')(f:FR m h w fr a):FR m' h' w' fr a:=
 ⟨f.len,fun i x v hx hv=>(f.slot i x v hx hv).evo e r.lt,f.defers.frame r e.size e.frame⟩
theorem FR.put{m:Mu}{h:Heap}{w:World}{fr:List V}{a:Act}{x:V}{v:Value}(f:FR m h w fr a)(hr:R m h w x v)(d:Option Tmp):FR m h w (put fr d x) (a.put d v):=by
 cases d with
 | none=>exact f
 | some d =>
  refine⟨by simp[Ab.put,Act.put,f.len],fun i y u hy hu=>?_,f.defers⟩;simp only[Ab.put,Act.put]at hy hu;by_cases h0:d=i
  ·grind
  ·rw[Lb h0]at hy;rw[Ms h0]at hu;exact f.slot i y u hy hu
theorem wh{m:Mu}{h:Heap}{w:World}{v:Value}{x:V}(hv:iP v=some x):R m h w x v:=by
 unfold iP at hv;split at hv<;>first|(cases hv;constructor)|cases hv
theorem ow{m:Mu}{h:Heap}{w:World}:∀ {vs:List Value}{xs:List V},vs.mapM iP=some xs->vs.length=xs.length/\∀ (i:Nat) (c:V) (v:Value),xs[i]?=some c->vs[i]?=some v->R m h w c v
 | [],xs,hx=>by simp_all
 | v::vs,xs,hx=>by
  simp only[Mn,Nt,NA,NV]at hx;obtain⟨x,h4,xs',h0,h3⟩:=hx;cases h3;obtain⟨hl,ih⟩:=ow (m:=m) (h:=h) (w:=w) h0
  grind[wh]
theorem pq{m:Mu}{h:Heap}{w:World}{v:Value}{x:V}(hv:jF v=some x):R m h w x v:=by
 unfold jF at hv;split at hv
 ·rename_i cs;simp only[Lx]at hv;obtain⟨xs,hx,rfl⟩:=hv;obtain⟨hl,hr⟩:=ow (m:=m) (h:=h) (w:=w) hx;exact .agg (by omega) (fun i c u hc hu=>hr i c u hc (by simp_all))
 ·rename_i fn f c;split at hv
  ·rename_i hz;simp only[Ld,decide_eq_true_eq]at hz;cases hv;exact .func (by simp_all) (by simp) (by simp_all) (by simp)
  grind
 grind[wh]
theorem cq{m:Mu}{h:Heap}{w:World}{fr:List V}{a:Act}(f:FR m h w fr a){o:Operand}{x:V}(hx:ev fr o=some x):R m h w x (a.eval o):=by
 cases o with
 | tmp t =>
  simp only[ev]at hx;have h0:t<a.tmps.size:=by rw[<- f.len];grind
  have:a.eval (.tmp t)=a.tmps[t]:=by simp[Act.eval,h0]
  rw[this];exact f.slot t x _ hx (Lf h0)
 | const v=>exact pq hx
 | global g=>grind[ev]
 | func g=>simp only[ev]at hx;cases hx;exact .func rfl (by simp) rfl (by simp)
theorem fH{m:Mu}{h:Heap}{w:World}{fr:List V}{a:Act}(f:FR m h w fr a):∀ {os:List Operand}{xs:List V},cH fr os=some xs ->
  (os.map a.eval).length=xs.length/\∀ (i:Nat) (c:V) (v:Value),xs[i]?=some c->(os.map a.eval)[i]?=some v->R m h w c v
 | [],xs,hx=>by grind[cH]
 | o::os,xs,hx=>by
  simp only[cH]at hx;split at hx
  ·rename_i x h3;split at hx
   ·rename_i vs h0;cases hx;obtain⟨hl,ih⟩:=fH f h0
    grind[cq,List.getElem?_cons_succ]
   grind
  grind
end Go.Ab
namespace Go.Ab
section
variable {P:Program}{m:Mu}{h:Heap}{w:World}
theorem kA{t:TypeId}{s:Nat}(hs:cj P t=some s):∃ i,P.info? t=some i/\i.size=s:=by
 grind[cj,Option.map_eq_some_iff]
theorem bg{t:TypeId}{s:Nat}(hs:cj P t=some s)(w:World):(sizeOf t).run P w=.ok s w:=by
 obtain⟨i,hi,rfl⟩:=kA hs;simp[sizeOf,typeInfo,hi]
theorem eZ{t:TypeId}{b:Bool}(hb:oL P t=some b)(w:World):(isAgg t).run P w=.ok b w:=by
 unfold oL at hb;split at hb
 ·simp_all[isAgg,run_underlying]
 ·simp_all[isAgg,run_underlying]
 ·rename_i d h0 h3 hd;cases hb;simp only[isAgg,Sem.run_bind,run_underlying hd,Result.andThen_ok];cases d<;>first|rfl|exact absurd rfl (h0 _)|exact absurd rfl (h3 _ _)
 grind
theorem bO{t:TypeId}{z:V}(hz:zeroOf P t=some z)(w:World):∃ v,(zeroValue t).run P w=.ok v w/\jF v=some z/\(P.info? t).bind (·.zero)=some v:=by
 unfold zeroOf at hz;split at hz
 ·rename_i i hi;split at hz
  ·simp_all[zeroValue,typeInfo]
  grind
 grind
def Pt(m:Mu)(h:Heap)(w:World)(b o:Nat)(cs:List V):Prop:=∀ (i:Nat) (c:V),cs[i]?=some c->∃ v,w.cell? ⟨b,o+i,none⟩=some v/\R m h w c v
theorem add_lit(b o n:Nat):(⟨b,o,none⟩:Addr).add n=⟨b,o+n,none⟩:=by grind[Addr.add]
theorem R.ptr_at{x off:Nat}{v:Value}{cs:List V}(r:Rel m h w)(hv:R m h w (.ptr x off) v)(hb:ab h x=some cs):
  ∃ b arr T,m x=some b/\v=.pointer (some ⟨b,off,none⟩)/\w.heap[b]?=some (.cells arr T (0,0))/\cs.length<=arr.size/\Pt m h w b 0 cs:=by
 have hc:=aA hb;cases hv with
 | ptr h3 hv =>
  obtain⟨b,h0,rfl⟩:=hv ⟨cs,hc⟩;obtain⟨arr,T,ha,hl,hr⟩:=(r.blk x cs b hc h0).cells (cX hb);refine⟨b,arr,T,h0,rfl,ha,hl,fun i c h4=>?_⟩
  grind[World.cell?]
theorem R.lptr_at{cs:List V}{off:Nat}{v:Value}(hv:R m h w (.lptr cs off) v):∃ b o,v=.pointer (some ⟨b,o+off,none⟩)/\Pt m h w b o cs:=by
 cases hv with
 | lptr rv hi hc hf hr=>exact⟨_,_,rfl,fun i c h0=>⟨rv i,hc i c h0,hr i c h0⟩⟩
theorem sV{b o off:Nat}{cs:List V}{t:TypeId}{x:V}(hp:Pt m h w b o cs)(hx:part P t cs off=some x):
  ∃ v,(loadVar t ⟨b,o+off,none⟩).run P w=.ok v w/\R m h w x v:=by
 unfold part at hx;split at hx
 ·rename_i h3;split at hx
  ·rename_i s hs;split at hx
   ·rename_i hle;cases hx;have h0:∀ j,j<s->∃ v,w.cell? (Addr.add ⟨b,o+off,none⟩ j)=some v/\∀ c,cs[off+j]?=some c->R m h w c v:=by
     intro j hj;have h4:off+j<cs.length:=by omega
     obtain⟨v,hv,hr⟩:=hp (off+j) cs[off+j] (K4 h4)
     grind[add_lit,Nat.add_assoc,List.getElem?_eq_getElem]
    let f:Nat->Value:=fun j=>if hj:j<s then Classical.choose (h0 j hj) else undef
    have hf:∀ j,j<s->w.cell? (Addr.add ⟨b,o+off,none⟩ j)=some (f j):=fun j hj=>by
     grind
    have h6:∀ j,j<s->∀ c,cs[off+j]?=some c->R m h w c (f j):=fun j hj=>by
     grind
    refine⟨.agg ((List.range s).map f).toArray,?_,.agg (by grind) ?_⟩
    ·simp_all[loadVar,eZ,bg,run_loadCells]
    grind
   grind
  grind
 ·rename_i h3;obtain⟨v,hv,hr⟩:=hp off x hx;simp_all[loadVar,eZ]
 grind
theorem zS{t:TypeId}{p x:V}{pv:Value}(r:Rel m h w)(hp:R m h w p pv)(hx:ej P h t p=some x):
  ∃ v,(Instr.loadAt t pv).run P w=.ok v w/\R m h w x v:=by
 unfold ej at hx;split at hx
 ·rename_i y off;split at hx
  ·rename_i cs hb;obtain⟨b,arr,T,_,rfl,_,_,h0⟩:=hp.ptr_at r hb;obtain⟨v,hv,hr⟩:=sV h0 hx;simp_all[LU,Instr.loadAt,Instr.sureAddr]
  grind
 ·rename_i cs off;obtain⟨b,o,rfl,h0⟩:=hp.lptr_at
  grind[sV,Instr.loadAt,Instr.sureAddr]
 grind
theorem R.lptr_off{cs:List V}{off:Nat}{v:Value}(d:Nat)(hv:R m h w (.lptr cs off) v):∃ a,v=.pointer (some a)/\R m h w (.lptr cs (off+d)) (.pointer (some (a.add d))):=by
 cases hv with
 | lptr rv hi hc hf hr=>exact⟨_,rfl,by rw[add_lit,NQ];exact .lptr rv hi hc hf hr⟩
theorem jr{b off d:Nat}{a:Addr}(ha:a=⟨b,off,none⟩):a.add d=⟨b,off+d,none⟩:=by grind[add_lit]
theorem R.ptr_off{x off:Nat}{v:Value}(d:Nat)(hv:R m h w (.ptr x off) v):∃ a,v=.pointer (some a)/\R m h w (.ptr x (off+d)) (.pointer (some (a.add d))):=by
 cases hv with
 | ptr h0 hv =>
  refine⟨_,rfl,.ptr h0 fun hl=>?_⟩
  grind[jr]
end
end Go.Ab
namespace Go.Ab
section
variable {P:Program}{m:Mu}{h:Heap}{w:World}
theorem tK{s:TypeId}{f:Nat}{p x:V}{pv:Value}(hp:R m h w p pv)(hx:ag P s p f=some x):
  ∃ v,(Instr.fieldAt s pv f).run P w=.ok v w/\R m h w x v:=by
 unfold ag at hx;split at hx
 ·rename_i fields hu;split at hx
  ·rename_i fd h0;split at hx
   ·rename_i n hs;have h3:=bg hs w;split at hx
    ·rename_i y off;cases hx;obtain⟨a,rfl,hr⟩:=hp.ptr_off fd.offset;simp_all[Instr.fieldAt,run_underlying,Instr.sureAddr,fieldPlace]
    ·rename_i cs off;cases hx;obtain⟨a,rfl,hr⟩:=hp.lptr_off fd.offset;simp_all[Instr.fieldAt,run_underlying,Instr.sureAddr,fieldPlace]
    grind
   grind
  grind
 grind
theorem uK{t:TypeId}{cs:List V}{vs:Array Value}{off:Nat}{x:V}(hl:vs.size=cs.length)(hr:∀ (i:Nat) (c:V) (v:Value),cs[i]?=some c->vs[i]?=some v->R m h w c v)
  (hx:part P t cs off=some x):∃ v,(Go.part t vs off).run P w=.ok v w/\R m h w x v:=by
 unfold part at hx;split at hx
 ·rename_i h0;split at hx
  ·rename_i s hs;split at hx
   ·rename_i hle;cases hx;refine⟨.agg (vs.extract off (off+s)),by simp[Go.part,eZ h0,bg hs],.agg ?_ ?_⟩<;>grind
   grind
  grind
 ·rename_i h0;have h3:off<vs.size:=by grind
  refine⟨vs[off],by simp[Go.part,eZ h0,h3],hr off x _ hx (Lf h3)⟩
 grind
theorem CZ{t:TypeId}{f:Nat}{p x:V}{pv:Value}(hp:R m h w p pv)(hx:jx P t p f=some x):
  ∃ v,(Instr.field t pv f).run P w=.ok v w/\R m h w x v:=by
 unfold jx at hx;split at hx
 ·rename_i fields hu;split at hx
  ·rename_i fd h0;split at hx
   ·cases hp with
    | agg hl hr =>
     obtain⟨v,hv,h3⟩:=uK hl hr hx;simp_all[Instr.field,run_underlying,asAgg]
   grind
  grind
 grind
theorem fw{n:Int}{len:Nat}(h0:0<=n)(h1:n.toNat<len):n<(len:Int):=by omega
theorem tS{t:TypeId}{x i y:V}{xv iv:Value}(hx:R m h w x xv)(hi:R m h w i iv)(hy:ax P t x i=some y):
  ∃ v,(Instr.indexAt t xv iv).run P w=.ok v w/\R m h w y v:=by
 unfold ax at hy;split at hy
 ·rename_i k n;cases hi;split at hy
  ·rename_i h0;split at hy
   ·rename_i elem hu;split at hy
    ·rename_i s b off len cap k' hs;split at hy
     ·rename_i hc;simp only[Ld,decide_eq_true_eq,beq_iff_eq]at hc;obtain⟨h4,rfl⟩:=hc;cases hy;have h3:=fw h0 h4;cases hx with
      | sl h4 h6 hlen hv =>
       rename_i rc a;refine⟨.pointer (some (a.add (n.toNat*s))),by simp[Instr.indexAt,asIntOf,run_underlying hu,h0,h3,bg hs],.ptr h4 fun hl=>?_⟩;obtain⟨b,hb,ha,_⟩:=hv hl;exact⟨b,hb,jr ha⟩
     ·cases hy
    ·rename_i s xs hs;split at hy
     ·rename_i e he;split at hy
      ·rename_i h7;cases hy;have h4:n.toNat<xs.length:=(K5.1 he).1;have h3:=fw h0 h4;cases hx with
       | lst0 a rc _=>simp at h4
       | lst rv h8 h9 hk hc hf hr =>
        rename_i b o k2 rc;obtain rfl:s=k2:=by rw[<- h7];exact hk _ _ he
        refine⟨.pointer (some (Addr.add ⟨b,o,none⟩ (n.toNat*s))),by simp[Instr.indexAt,asIntOf,run_underlying hu,h0,h3,bg hs],?_⟩;rw[add_lit];exact .lptr (o:=o+n.toNat*s) (off:=0) (rv n.toNat) h8 (fun j c hj=>hc _ _ j c he hj) (fun j c hj=>hf _ _ j c he hj) (fun j c hj=>hr _ _ j c he hj)
      ·cases hy
     ·cases hy
    ·cases hy
   ·rename_i len elem hu;split at hy
    ·rename_i s b off hs;split at hy
     ·rename_i h4;cases hy;have h3:=fw h0 h4;obtain⟨a,rfl,hr⟩:=hx.ptr_off (n.toNat*s);exact⟨_,by simp[Instr.indexAt,asIntOf,run_underlying hu,h0,h3,bg hs,Instr.sureAddr],hr⟩
     ·cases hy
    ·rename_i s cs off hs;split at hy
     ·rename_i h4;cases hy;have h3:=fw h0 h4;obtain⟨a,rfl,hr⟩:=hx.lptr_off (n.toNat*s);exact⟨_,by simp[Instr.indexAt,asIntOf,run_underlying hu,h0,h3,bg hs,Instr.sureAddr],hr⟩
     ·cases hy
    ·cases hy
   grind
  grind
 grind
end
end Go.Ab
namespace Go.Ab
section
variable {P:Program}{m:Mu}{h:Heap}{w:World}
theorem Dq{t:TypeId}{x i y:V}{xv iv:Value}(hx:R m h w x xv)(hi:R m h w i iv)(hy:lC P t x i=some y):
  ∃ v,(Instr.index t xv iv).run P w=.ok v w/\R m h w y v:=by
 unfold lC at hy;split at hy
 ·rename_i k n;cases hi;split at hy
  ·rename_i h0;split at hy
   ·rename_i len elem cs hu;split at hy
    ·rename_i s hs;split at hy
     ·rename_i h4;have h3:=fw h0 h4;cases hx with
      | agg hl hr =>
       obtain⟨v,hv,h6⟩:=uK hl hr hy;exact⟨v,by simp[Instr.index,asIntOf,run_underlying hu,h0,h3,bg hs,hv],h6⟩
     ·cases hy
    ·cases hy
   ·rename_i s hu;split at hy
    ·rename_i b hb;cases hy;cases hx;exact⟨.int .u8 b.toNat,by simp[Instr.index,asIntOf,run_underlying hu,h0,hb],.int _ _⟩
    ·cases hy
   ·cases hy
  grind
 grind
theorem nh{d y r:Nat}{c:BoundsCode}{o:Option (Option V)}{ov:Option Value}(hb:bI d o=some r)(hr:∀ x v,o=some (some x)->ov=some v->R m h w x v)(hs:o.isSome=ov.isSome)(hle:r<=y):
  (o=none/\ov=none/\r=d)\/∃ v,ov=some v/\(Instr.sliceBound v y c).run P w=.ok r w:=by
 unfold bI at hb;split at hb
 ·simp_all
 ·rename_i k n;split at hb
  ·rename_i h0;cases hb;cases ov with
   | none=>grind
   | some v =>
    refine .inr ⟨v,rfl,?_⟩;have:=hr _ v rfl rfl;cases this;simp_all[Instr.sliceBound,asIntOf]
  grind
 grind
theorem ga{isS:Bool}{len cap l r:Nat}{lo hi:Option (Option V)}{lov hiv:Option Value}
  (hl:bI 0 lo=some l) (hh:bI len hi=some r)
  (h0:∀ x v,lo=some (some x)->lov=some v->R m h w x v) (h6:∀ x v,hi=some (some x)->hiv=some v->R m h w x v)
  (h3:lo.isSome=lov.isSome) (h7:hi.isSome=hiv.isSome) (h4:l<=r) (h8:r<=cap):
  (Instr.sliceBounds isS len cap lov hiv none).run P w=.ok (l,r,cap) w:=by
 rcases nh (P:=P) (w:=w) (c:=if isS then .sliceAcap else .sliceAlen) hh h6 h7 h8 with⟨rfl,rfl,rfl⟩|⟨v,rfl,hv⟩
 ·rcases nh (P:=P) (w:=w) (c:=.sliceB) hl h0 h3 h4 with⟨rfl,rfl,rfl⟩|⟨u,rfl,hu⟩
  ·rfl
  ·simp[Instr.sliceBounds,hu]
 ·rcases nh (P:=P) (w:=w) (c:=.sliceB) hl h0 h3 h4 with⟨rfl,rfl,rfl⟩|⟨u,rfl,hu⟩
  ·simp[Instr.sliceBounds,hv]
  simp_all[Instr.sliceBounds]
theorem R.lst_slice{xs:List (List V)}{v:Value}(hv:R m h w (.lst xs) v)(l r:Nat)(h9:l<=r)(hr:r<=xs.length)(s:Nat)(h7:l=r\/(xs[l]?).map List.length=some s):
  ∃ a rc,v=.slice a xs.length rc/\r<=rc/\R m h w (.lst ((xs.take r).drop l)) (.slice (if rc=l then a else a.map (·.add (l*s))) (r-l) (rc-l)):=by
 by_cases h3:l=r
 ·subst h3;have:(xs.take l).drop l=[]:=by simp
  rw[this,NF];cases hv with
  | lst0 a rc ha=>exact⟨a,rc,rfl,by simp_all,.lst0 _ _ (fun h=>by cases a with|none=>simp_all|some x=>grind)⟩
  | lst rv h4 h8 hk hc hf h6=>exact⟨_,_,rfl,by omega,.lst0 _ _ (fun h=>by split at h<;>cases h)⟩
 ·have hs:=h7.resolve_left h3;cases hv with
  | lst0 a rc _=>grind
  | lst rv h4 h8 hk hc hf h6 =>
   rename_i b o k rc;refine⟨_,_,rfl,by omega,?_⟩;have hne:¬ rc=l:=by omega
   simp only[Lx]at hs;obtain⟨e,he,hd⟩:=hs;obtain rfl:s=k:=by grind
   rw[if_neg hne];simp only[LX,add_lit];have hlen:((xs.take r).drop l).length=r-l:=by grind
   have h0:∀ (i:Nat) (e:List V),((xs.take r).drop l)[i]?=some e->xs[l+i]?=some e:=by
    grind
   rw[<- hlen];refine .lst (k:=s) (fun i j=>rv (l+i) j) h4 (by omega) (fun i e he=>hk _ _ (h0 i e he)) ?_ (fun i e j c he hj=>hf _ _ j c (h0 i e he) hj) (fun i e j c he hj=>h6 _ _ j c (h0 i e he) hj)
   grind
theorem Ek{t:TypeId}{x y:V}{xv:Value}{lo hi:Option (Option V)}{lov hiv:Option Value}(rel:Rel m h w)(hx:R m h w x xv)
  (h6:∀ x v,lo=some (some x)->lov=some v->R m h w x v) (h7:∀ x v,hi=some (some x)->hiv=some v->R m h w x v)
  (h8:lo.isSome=lov.isSome) (h9:hi.isSome=hiv.isSome) (hy:cN P h t x lo hi=some y):
  ∃ v,(Instr.sliceAt t xv lov hiv none).run P w=.ok v w/\R m h w y v:=by
 unfold cN at hy;split at hy
 ·rename_i elem b off len cap k hu;split at hy
  ·rename_i s l r hs hl hr;split at hy
   ·rename_i hc;simp only[Ld,decide_eq_true_eq]at hc;obtain⟨⟨⟨rfl,h1⟩,h2⟩,h3⟩:=hc;cases hx with
    | sl hg hd hlen hv =>
     rename_i rc a;have h0:=ga (P:=P) (isS:=true) (cap:=rc) hl hr h6 h7 h8 h9 h1 (by omega);have he:(Instr.sliceAt t (.slice (some a) len rc) lov hiv none).run P w=.ok (.slice (if rc=l then some a else some (a.add (l*s))) (r-l) (rc-l)) w:=by
      simp[Instr.sliceAt,Instr.slice,run_underlying hu,h0,bg hs]
     refine⟨_,he,?_⟩;split at hy
     ·rename_i hh;subst hh;cases hy;have:(if rc=0 then some a else some (a.add (0*s)))=some a:=by simp[Addr.add]
      rw[this];simp only[Nat.sub_zero];exact .sl hg hd (by omega) hv
     ·rename_i hh;split at hy
      ·rename_i hj;subst hj;cases hy;rw[NF];exact .lst0 _ _ (fun h=>by split at h<;>cases h)
      ·rename_i hj;cases hy;have hne:¬ rc=l:=by omega
       rw[if_neg hne];refine .sl hg (by omega) (by omega) fun hm=>?_;obtain⟨b',hn,ha,hw⟩:=hv hm;refine⟨b',hn,jr ha,?_⟩;have h4:(rc-l)*s+l*s=rc*s:=by rw[<- Nat.add_mul];congr 1;omega
       omega
   ·cases hy
  ·cases hy
 ·rename_i elem xs hu;split at hy
  ·rename_i s l r hs hl hr;split at hy
   ·rename_i hc;simp only[Ld,decide_eq_true_eq,LP,beq_iff_eq]at hc;obtain⟨⟨h1,h2⟩,h3⟩:=hc;cases hy;obtain⟨a,rc,rfl,hq,hf⟩:=hx.lst_slice l r h1 h2 s h3;have h0:=ga (P:=P) (isS:=true) (cap:=rc) hl hr h6 h7 h8 h9 h1 hq;exact⟨_,by simp[Instr.sliceAt,Instr.slice,run_underlying hu,h0,bg hs],hf⟩
   ·cases hy
  ·cases hy
 ·rename_i elem hu;split at hy
  ·rename_i s hs hl hr;cases hy;cases hx;have h0:=ga (P:=P) (isS:=true) (cap:=0) hl hr h6 h7 h8 h9 (La _) (La _);exact⟨.slice none 0 0,by simp[Instr.sliceAt,Instr.slice,run_underlying hu,h0,bg hs],.nils⟩
  ·cases hy
 ·rename_i s hu;split at hy
  ·rename_i l r hl hr;split at hy
   ·rename_i hc;simp only[Ld,decide_eq_true_eq]at hc;obtain⟨h1,h2⟩:=hc;cases hy;cases hx;have h0:=ga (P:=P) (isS:=false) (cap:=s.size) hl hr h6 h7 h8 h9 h1 h2;exact⟨.string (s.extract l r),by simp[Instr.sliceAt,Instr.slice,run_underlying hu,h0],.str _⟩
   ·cases hy
  ·cases hy
 ·rename_i n elem b off hu;split at hy
  ·rename_i s hs;split at hy
   ·rename_i cs hb;split at hy
    ·rename_i hle;cases hy;obtain⟨b',arr,T,ht,rfl,ha,hl,_⟩:=hx.ptr_at rel hb;have h0:=ga (P:=P) (m:=m) (h:=h) (w:=w) (isS:=false) (cap:=n) (len:=n) (lo:=none) (hi:=none) (l:=0) (r:=n) (lov:=lov) (hiv:=hiv) rfl rfl h6 h7 h8 h9 (LA _) (La _);refine⟨.slice (some ⟨b',off,none⟩) n n,?_,.sl (fh ⟨cs,aA hb⟩) (La _) (La _) fun _=>⟨b',ht,rfl,?_⟩⟩
     ·simp[Instr.sliceAt,run_underlying hu,h0,bg hs,Instr.sureAddr,Addr.add]
     ·simp only[rsz,ha];omega
    ·cases hy
   ·cases hy
  ·cases hy
 ·cases hy
theorem Bn{op:BinOp}{k:IntKind}{a b:Int}{y:V}(hy:bx op k a b=some y)(h0:op≠.shl/\op≠.shr)(t:TypeId):
  ∃ v,(binOp op t (.int k a) (.int k b)).run P w=.ok v w/\R m h w y v:=by
 cases op<;>simp only[bx]at hy
 case shl=>cases hy
 case shr=>cases hy
 case quo =>
  split at hy
  ·cases hy
  ·rename_i hb;cases hy;exact⟨_,by simp[binOp,Op.intDiv,hb],.int _ _⟩
 case rem =>
  split at hy
  ·cases hy
  ·rename_i hb;cases hy;exact⟨_,by simp[binOp,Op.intDiv,hb],.int _ _⟩
 case and=>cases hy;exact⟨_,by simp only[binOp,ne_eq,not_true_eq_false,if_false];rfl,.int _ _⟩
 case or=>cases hy;exact⟨_,by simp only[binOp,ne_eq,not_true_eq_false,if_false];rfl,.int _ _⟩
 case xor=>cases hy;exact⟨_,by simp only[binOp,ne_eq,not_true_eq_false,if_false];rfl,.int _ _⟩
 case andNot=>cases hy;exact⟨_,by simp only[binOp,ne_eq,not_true_eq_false,if_false];rfl,.int _ _⟩
 case add=>cases hy;exact⟨_,by simp[binOp,Op.intArith],.int _ _⟩
 case sub=>cases hy;exact⟨_,by simp[binOp,Op.intArith],.int _ _⟩
 case mul=>cases hy;exact⟨_,by simp[binOp,Op.intArith],.int _ _⟩
 all_goals
  cases hy;exact⟨_,by simp[binOp,Op.intCmp],.bool _⟩
theorem B5{op:BinOp}{a b:ByteArray}{y:V}(hy:uz op a b=some y)(t:TypeId):
  ∃ v,(binOp op t (.string a) (.string b)).run P w=.ok v w/\R m h w y v:=by
 cases op<;>simp only[uz]at hy
 case add =>
  split at hy
  ·cases hy
  ·rename_i hb;cases hy;exact⟨.string (a++b),by simp_all[binOp,Op.stringOp,if_neg],.str _⟩
 all_goals first
  | cases hy;done
  | (cases hy;exact⟨_,by simp only[binOp,Op.stringOp];rfl,.bool _⟩)
theorem EJ{op:UnOp}{x y:V}{xv:Value}(hx:R m h w x xv)(hy:unV op x=some y):∃ v,(Op.unary op xv).run P w=.ok v w/\R m h w y v:=by
 unfold unV at hy;split at hy
 ·cases hx;cases hy;exact⟨_,by simp[Op.unary,Op.intArith],.int _ _⟩
 ·cases hx;simp only[bx]at hy;cases hy;exact⟨_,by simp only[Op.unary];rfl,.int _ _⟩
 ·cases hx;cases hy;exact⟨_,by simp[Op.unary],.bool _⟩
 ·cases hy
theorem we{x y:V}{xv:Value}(hx:R m h w x xv)(hy:eV x=some y):y=x/\((∃ a,xv=.pointer (some a))\/∃ f a c,xv=.func (.func f) a c):=by
 unfold eV at hy;split at hy
 ·cases hy;cases hx;simp
 ·cases hy;cases hx;simp
 ·cases hy;cases hx;simp
 grind
theorem xV{x y:V}{i:Nat}{xv:Value}(hx:R m h w x xv)(hy:gS x i=some y):∃ v,(Instr.extract xv i).run P w=.ok v w/\R m h w y v:=by
 unfold gS at hy;split at hy
 ·cases hx with
  | tup hl hr =>
   have h0:=(K5.1 hy).1;rw[<- hl]at h0;exact⟨_,by simp[Instr.extract,h0],hr i y _ hy (Lf h0)⟩
 grind
theorem Jf{t ty:TypeId}{x y:V}{xv:Value}(hx:R m h w x xv)(hy:dc P t x=some y):∃ v,(Builtin.len_ #[t] ty #[xv]).run P w=.ok v w/\R m h w y v:=by
 unfold dc at hy;split at hy
 ·rename_i s hu;cases hx;cases hy;exact⟨_,by simp[Builtin.len_,run_underlying hu,goInt],.int _ _⟩
 ·rename_i e b off len cap k hu;cases hx;cases hy;exact⟨_,by simp[Builtin.len_,run_underlying hu,goInt],.int _ _⟩
 ·rename_i e xs hu;cases hy;cases hx with
  | lst0 a rc _=>exact⟨_,by simp[Builtin.len_,run_underlying hu,goInt],.int _ _⟩
  | lst rv h0 h3 hk hc hf hr=>exact⟨_,by simp[Builtin.len_,run_underlying hu,goInt],.int _ _⟩
 ·rename_i e hu;cases hx;cases hy;exact⟨_,by simp[Builtin.len_,run_underlying hu,goInt],.int _ _⟩
 ·rename_i n e hu;cases hy;exact⟨_,by simp[Builtin.len_,run_underlying hu,goInt],.int _ _⟩
 grind
theorem yq{ts:Array TypeId}{ty:TypeId}{xs:List V}{vs:List Value}{y:V}(hl:vs.length=xs.length)(hr:∀ (i:Nat) (c:V) (v:Value),xs[i]?=some c->vs[i]?=some v->R m h w c v)(hy:uc xs=some y):
  ∃ v,(Builtin.min_ ts ty vs.toArray).run P w=.ok v w/\R m h w y v:=by
 unfold uc at hy;split at hy
 ·rename_i k a k' b;cases hy
  match vs,hl with
  | [v1,v2],_ =>
   have r1:=hr 0 _ v1 rfl rfl;have r2:=hr 1 _ v2 rfl rfl;cases r1;cases r2;exact⟨_,by rfl,.int _ _⟩
 ·rename_i k a k' b k'' c;cases hy
  match vs,hl with
  | [v1,v2,v3],_ =>
   have r1:=hr 0 _ v1 rfl rfl;have r2:=hr 1 _ v2 rfl rfl;have r3:=hr 2 _ v3 rfl rfl;cases r1;cases r2;cases r3;exact⟨_,by rfl,.int _ _⟩
 grind
theorem yo{ts:Array TypeId}{ty:TypeId}{xs:List V}{vs:List Value}{y:V}(hl:vs.length=xs.length)(hr:∀ (i:Nat) (c:V) (v:Value),xs[i]?=some c->vs[i]?=some v->R m h w c v)(hy:oN xs=some y):
  ∃ v,(Builtin.max_ ts ty vs.toArray).run P w=.ok v w/\R m h w y v:=by
 unfold oN at hy;split at hy
 ·rename_i k a k' b;cases hy
  match vs,hl with
  | [v1,v2],_ =>
   have r1:=hr 0 _ v1 rfl rfl;have r2:=hr 1 _ v2 rfl rfl;cases r1;cases r2;exact⟨_,by rfl,.int _ _⟩
 ·rename_i k a k' b k'' c;cases hy
  match vs,hl with
  | [v1,v2,v3],_ =>
   have r1:=hr 0 _ v1 rfl rfl;have r2:=hr 1 _ v2 rfl rfl;have r3:=hr 2 _ v3 rfl rfl;cases r1;cases r2;cases r3;exact⟨_,by rfl,.int _ _⟩
 grind
end
end Go.Ab
namespace Go.Ab
section
variable {P:Program}{m:Mu}{h:Heap}{w:World}
theorem yj{d:Nat}{t:TypeId}{x y:V}{xv yv:Value}{b:Bool}(hx:R m h w x xv)(hy:R m h w y yv)(hb:qG P t x y=some b):
  (Op.equalIn (d+1) t xv yv).run P w=.ok b w/\oL P t=some false:=by
 unfold qG at hb;split at hb
 ·rename_i k' k a k2 b2 hu;cases hx;cases hy
  grind[run_equalIn_int,oL]
 ·rename_i a b2 hu;cases hx;cases hy;grind[run_equalIn_bool',oL]
 ·rename_i a b2 hu;cases hx;cases hy;grind[run_equalIn_string,oL]
 grind
theorem qq{d:Nat}{X Y:Array Value}:∀ (i:Nat) (fs:List Field) (xs ys:List V) (b:Bool),
  (∀ (j:Nat) (c:V),xs[j]?=some c->∃ v,X[i+j]?=some v/\R m h w c v)->(∀ (j:Nat) (c:V),ys[j]?=some c->∃ v,Y[i+j]?=some v/\R m h w c v) ->
  gg P i fs xs ys=some b->(Op.eqFields (d+1) X Y fs).run P w=.ok b w
 | i,[],[],[],b,_,_,hb=>by simp_all[gg,Op.eqFields]
 | i,f::fs,a::x,c::y,b,hX,hY,hb=>by
  simp only[gg]at hb;split at hb
  ·rename_i hc;simp only[Ld,decide_eq_true_eq,Mq,beq_eq_false_iff_ne]at hc;obtain⟨h3,h0⟩:=hc;obtain⟨xv,h4,h6⟩:=hX 0 a rfl;obtain⟨yv,h7,h8⟩:=hY 0 c rfl;rw[Nb]at h4 h7;have step:∀ r,qG P f.type a c=some r->(Op.eqFields (d+1) X Y (f::fs)).run P w=if (!r)=true then .ok false w else (Op.eqFields (d+1) X Y fs).run P w:=by
    intro r hr;obtain⟨h1,h2⟩:=yj (d:=d) h6 h8 hr;simp_all[Go.part,eZ,Op.eqFields]
   split at hb
   ·rename_i hr;rw[step true hr];simp only[Bool.not_true,Lv,if_false];exact qq (i+1) fs x y b (fun j c' hj=>by have:=hX (j+1) c' (by simp_all);grind)
     (fun j c' hj=>by have:=hY (j+1) c' (by simp_all);grind) hb
   ·simp_all
   grind
  grind
 | _,[],[],_::_,_,_,_,hb=>by grind[gg]
 | _,[],_::_,_,_,_,_,hb=>by grind[gg]
 | _,_::_,[],_,_,_,_,hb=>by grind[gg]
 | _,_::_,_::_,[],_,_,_,hb=>by grind[gg]
theorem Cm{cs:List V}{vs:Array Value}(hl:vs.size=cs.length)(hr:∀ (i:Nat) (c:V) (v:Value),cs[i]?=some c->vs[i]?=some v->R m h w c v):
  ∀ (j:Nat) (c:V),cs[j]?=some c->∃ v,vs[0+j]?=some v/\R m h w c v:=by
 simp_all[K5,LU,Lf]
theorem tJ{d:Nat}{t e:TypeId}(hu:P.underlying t=some (.slice e)):(Op.equalIn (d+1) t (.slice none 0 0) (.slice none 0 0)).run P w=.ok true w:=by
 simp[Op.equalIn,run_underlying hu]
theorem jt{d:Nat}{t e:TypeId}{a:Addr}{n c:Nat}(hu:P.underlying t=some (.slice e)):(Op.equalIn (d+1) t (.slice (some a) n c) (.slice none 0 0)).run P w=.ok false w:=by
 simp[Op.equalIn,run_underlying hu]
theorem tI{d:Nat}{t e:TypeId}(hu:P.underlying t=some (.pointer e)):(Op.equalIn (d+1) t (.pointer none) (.pointer none)).run P w=.ok true w:=by
 simp[Op.equalIn,run_underlying hu]
theorem oY{t:TypeId}{x y:V}{xv yv:Value}{b:Bool}(hx:R m h w x xv)(hy:R m h w y yv)(hb:eqV P t x y=some b):
  (Op.equal t xv yv).run P w=.ok b w/\(∀ op ox oy,(eqGuard op t ox oy xv yv).run P w=.ok () w)/\(∀ k a,xv≠.int k a)/\(∀ k a,xv≠.float k a)/\(∀ k a c,xv≠.complex k a c)/\∀ s,xv≠.string s:=by
 unfold eqV at hb;split at hb
 ·rename_i xs ys;split at hb
  ·rename_i fields hu;split at hb
   ·rename_i hc;simp only[Ld,Mq]at hc;cases hx with
    | agg hl hr=>cases hy with
     | agg h0 h3 =>
      have hf:P.fieldsOf t=fields:=by simp[Program.fieldsOf,hu]
      have:=qq (d:=9998) (P:=P) (w:=w) 0 fields.toList xs ys b (Cm hl hr) (Cm h0 h3) hb
      grind[run_eqGuard_agg,Op.equal,Op.maxDepth,run_equalIn_struct]
   grind
  grind
 ·cases hx;cases hy;split at hb
  ·simp_all[Op.equal,Op.maxDepth,run_equalIn_bool',eqGuard]
  grind
 ·cases hx;cases hy;split at hb
  ·simp_all[Op.equal,Op.maxDepth,jt,eqGuard]
  grind
 ·cases hx;cases hy;split at hb
  ·simp_all[Op.equal,Op.maxDepth,jt,eqGuard]
  grind
 ·cases hx;cases hy;split at hb
  ·simp_all[Op.equal,Op.maxDepth,tJ,eqGuard]
  grind
 ·cases hx;cases hy;split at hb
  ·simp_all[Op.equal,Op.maxDepth,tI,eqGuard]
  grind
 grind
theorem eE{op:BinOp}{t:TypeId}{ox oy:Operand}{xv yv:Value}(hx:(∃ k a,xv=.int k a)\/∃ s,xv=.string s):(eqGuard op t ox oy xv yv).run P w=.ok () w:=by
 rcases hx with⟨k,a,rfl⟩|⟨s,rfl⟩<;>cases op<;>simp[eqGuard]
theorem xE{op:BinOp}{t:TypeId}{x y z:V}{xv yv:Value}{ox oy:Operand}(hx:R m h w x xv)(hy:R m h w y yv)(hz:cw P op t x y=some z):
  ∃ v,(do eqGuard op t ox oy xv yv;binOp op t xv yv:Sem Value).run P w=.ok v w/\R m h w z v:=by
 unfold cw at hz;split at hz
 ·cases hx;cases hy;split at hz
  ·cases hz
  ·rename_i hb;cases hz;exact⟨_,by rw[Sem.run_bind,eE (.inl ⟨_,_,rfl⟩)];simp only[Result.andThen_ok,binOp,Op.shift,if_neg hb];rfl,.int _ _⟩
 ·cases hx;cases hy;split at hz
  ·cases hz
  ·rename_i hb;cases hz;exact⟨_,by rw[Sem.run_bind,eE (.inl ⟨_,_,rfl⟩)];simp only[Result.andThen_ok,binOp,Op.shift,if_neg hb];rfl,.int _ _⟩
 ·rename_i k a k' b h0 h3;cases hx;cases hy;split at hz
  ·rename_i hk;subst hk;obtain⟨v,hv,hr⟩:=Bn (P:=P) (m:=m) (h:=h) (w:=w) hz ⟨h0,h3⟩ t;exact⟨v,by rw[Sem.run_bind,eE (.inl ⟨_,_,rfl⟩)];exact hv,hr⟩
  ·cases hz
 ·cases hx;cases hy;obtain⟨v,hv,hr⟩:=B5 (P:=P) (m:=m) (h:=h) (w:=w) hz t;exact⟨v,by rw[Sem.run_bind,eE (.inr ⟨_,rfl⟩)];exact hv,hr⟩
 ·split at hz
  ·rename_i b hb;cases hz;obtain⟨h1,h2,n1,n2,n3,n4⟩:=oY hx hy hb;refine⟨.bool b,?_,.bool _⟩;rw[Sem.run_bind,h2];simp only[Result.andThen_ok];cases xv<;>first|exact absurd rfl (n1 _ _)|exact absurd rfl (n2 _ _)|exact absurd rfl (n3 _ _ _)|exact absurd rfl (n4 _)|simp[binOp,h1]
  ·cases hz
 ·split at hz
  ·rename_i b hb;cases hz;obtain⟨h1,h2,n1,n2,n3,n4⟩:=oY hx hy hb;refine⟨.bool !b,?_,.bool _⟩;rw[Sem.run_bind,h2];simp only[Result.andThen_ok];cases xv<;>first|exact absurd rfl (n1 _ _)|exact absurd rfl (n2 _ _)|exact absurd rfl (n3 _ _ _)|exact absurd rfl (n4 _)|simp[binOp,h1]
  ·cases hz
 grind
end
end Go.Ab
namespace Go.Ab
variable [Base]
section
variable {P:Program}{m:Mu}{h:Heap}{w:World}
theorem qH{v:V}{rv:Value}(hl:v.leaf=true)(hr:R m h w v rv):rv.oneCell'=true:=by
 cases hr<;>first|rfl|(simp[V.leaf]at hl)
theorem cells_one{rv:Value}(h1:rv.oneCell'=true):rv.cells=#[rv]:=by
 cases rv<;>first|rfl|grind[Value.oneCell']
def PW(m:Mu)(h:Heap)(w:World)(cs:List V)(arr:Array Value):Prop:=arr.size=cs.length/\∀ (i:Nat) (c:V) (v:Value),cs[i]?=some c->arr[i]?=some v->R m h w c v
theorem jT{v:V}{rv:Value}{vs:List V}(hv:cellsOf v=some vs)(hr:R m h w v rv):PW m h w vs rv.cells/\∀ u∈rv.cells.toList,u.oneCell'=true:=by
 unfold cellsOf at hv;split at hv
 ·rename_i cs;split at hv
  ·rename_i h0;cases hv;cases hr with
   | agg hl hr =>
    refine⟨⟨hl,hr⟩,fun u hu=>?_⟩;simp only[Value.cells]at hu;obtain⟨i,hi,rfl⟩:=LV hu;have h4:i<vs.length:=by grind
    have h3:=Lk.1 h0 vs[i] (MA h4);exact qH h3 (hr i vs[i] _ (K4 h4) (by simp))
  grind
 ·split at hv
  ·rename_i h3;cases hv;have h1:=qH h3 hr;rw[cells_one h1];refine⟨⟨rfl,fun i c u hc hu=>?_⟩,by simp_all⟩
   grind
  grind
theorem iX(cs:List V)(off:Nat)(vs:List V):(putAt cs off vs).length=cs.length:=by
 induction vs generalizing cs off with
 | nil=>rfl
 | cons v r ih=>simp[putAt,ih]
theorem nE(cs:List V)(off:Nat)(vs:List V)(i:Nat)(hle:off+vs.length<=cs.length):(putAt cs off vs)[i]?=if off<=i/\i<off+vs.length then vs[i-off]? else cs[i]?:=by
 induction vs generalizing cs off with
 | nil=>simp_all[putAt,L3,Nb,if_neg]
 | cons v r ih =>
  simp only[Lp]at hle ⊢;rw[putAt,ih _ _ (by grind)]
  grind
theorem tL{place:Nat->Option (Nat×Nat)}:∀ (ps:List (Nat×V)) (qs:List (Nat×Value)) (cs cs':List V) (arr:Array Value),
  ps.length=qs.length->(∀ (i:Nat) (p:Nat×V) (q:Nat×Value),ps[i]?=some p->qs[i]?=some q->p.1=q.1/\R m h w p.2 q.2)->PW m h w cs arr->cD place cs ps=some cs' ->
  ∃ arr',Instr.fill place arr qs=some arr'/\PW m h w cs' arr'
 | [],[],cs,cs',arr,_,_,hp,hf=>by simp[cD]at hf;subst hf;exact⟨arr,rfl,hp⟩
 | (i,v)::ps,(j,u)::qs,cs,cs',arr,hl,hr,hp,hf=>by
  obtain⟨h0,h3⟩:=hr 0 (i,v) (j,u) rfl rfl;simp only at h0 h3;subst h0;simp only[cD]at hf;split at hf
  ·rename_i off s vs h4 h6;split at hf
   ·rename_i hc;simp only[Ld,decide_eq_true_eq]at hc;obtain⟨h1,h2⟩:=hc;obtain⟨⟨h7,he⟩,_⟩:=jT h6 h3;obtain⟨g1,g2⟩:=Great.foldl_set off u.cells.toList 0 arr;have h8:PW m h w (putAt cs off vs) ((u.cells.toList.zipIdx 0).foldl (fun cs (x:Value×Nat)=>cs.setIfInBounds (off+x.2) x.1) arr):=by
     refine⟨by rw[g1,iX,hp.1],fun k c x hk hx=>?_⟩;rw[nE cs off vs k (by omega)]at hk;rw[g2 k]at hx;simp only[Nb,Array.length_toList]at hx;by_cases h9:off<=k/\k<off+vs.length
     ·grind
     ·rw[if_neg h9]at hk;rw[if_neg (by omega)]at hx;exact hp.2 k c x hk hx
    obtain⟨arr',ha,hd⟩:=tL ps qs _ cs' _ (by grind) (fun k p q hp hq=>hr (k+1) p q (by grind) (by grind)) h8 hf;refine⟨arr',?_,hd⟩;unfold Instr.fill;simp only[h4];rw[if_neg (by rw[h7,hp.1];grind)]
    grind[Array.toList_zipIdx]
   grind
  grind
 | [],_::_,_,_,_,hl,_,_,_=>by grind
 | _::_,[],_,_,_,hl,_,_,_=>by grind
theorem sw{fr:List V}{a:Act}(f:FR m h w fr a):∀ {ps:List (Nat×Operand)}{xs:List (Nat×V)},cU fr ps=some xs ->
  xs.length=(ps.map fun (i,x)=>(i,a.eval x)).length/\∀ (i:Nat) (p:Nat×V) (q:Nat×Value),xs[i]?=some p->(ps.map fun (i,x)=>(i,a.eval x))[i]?=some q->p.1=q.1/\R m h w p.2 q.2
 | [],xs,hx=>by grind[cU]
 | (j,x)::ps,xs,hx=>by
  simp only[cU]at hx;split at hx
  ·rename_i v hv;split at hx
   ·rename_i vs h0;cases hx;obtain⟨hl,ih⟩:=sw f h0;refine⟨by simp_all,fun i p q hp hq=>?_⟩;cases i with
    | zero=>simp at hp hq;subst hp hq;exact⟨rfl,cq f hv⟩
    | succ i=>grind
   grind
  grind
theorem PW.single{z:V}{v:Value}(hr:R m h w z v)(hz:cG z=[z])(hv:v.cells=#[v]):PW m h w (cG z) v.cells:=by
 rw[hz,hv];refine⟨rfl,fun i c u hc hu=>?_⟩
 grind
theorem kC{z:V}{v:Value}(hz:jF v=some z):PW m h w (cG z) v.cells:=by
 have hr:R m h w z v:=pq hz;unfold jF at hz;split at hz
 ·simp only[Lx]at hz;obtain⟨xs,hx,rfl⟩:=hz;cases hr with
  | agg hl hr=>exact⟨hl,hr⟩
 ·split at hz
  ·cases hz;exact .single hr rfl rfl
  grind
 ·unfold iP at hz;split at hz<;>first|(cases hz;exact .single hr rfl rfl)|cases hz
theorem jk:∀ (l:List Field),(l.all fun f=>(cj P f.type).isSome)=true ->
  ∃ pl:List (Nat×Nat),(l.mapM fun f=>do pure (f.offset,<- sizeOf f.type):Sem (List (Nat×Nat))).run P w=.ok pl w /\
   ∀ i:Nat,pl[i]?=(l[i]?).bind fun (f:Field)=>(cj P f.type).map fun s=>(f.offset,s)
 | [],_=>⟨[],by simp,by simp⟩
 | f::l,h0=>by
  simp only[Nv,Ld,Ol]at h0;obtain⟨⟨s,hs⟩,h3⟩:=h0;obtain⟨pl,h6,h4⟩:=jk l h3;refine⟨(f.offset,s)::pl,?_,fun i=>?_⟩
  ·simp_all[Mn,Sem.run_bind,bg,Result.andThen_ok,Sem.run_pure]
  grind
theorem run_places(fields:Array Field)(h0:pJ P fields=true):
  ∃ pl:Array (Nat×Nat),(fields.mapM fun f=>do pure (f.offset,<- sizeOf f.type):Sem (Array (Nat×Nat))).run P w=.ok pl w/\(fun i=>pl[i]?)=placesOf P fields:=by
 obtain⟨l⟩:=fields;obtain⟨pl,h4,h3⟩:=jk (P:=P) (w:=w) l h0;refine⟨pl.toArray,?_,?_⟩
 ·simp_all
 grind[placesOf,cj]
theorem Cy{t:TypeId}{ps:List (Nat×V)}{qs:List (Nat×Value)}{y:V}
  (hl:ps.length=qs.length) (hr:∀ (i:Nat) (p:Nat×V) (q:Nat×Value),ps[i]?=some p->qs[i]?=some q->p.1=q.1/\R m h w p.2 q.2) (hy:bW P t ps=some y):
  ∃ v,(Instr.build t qs.toArray).run P w=.ok v w/\R m h w y v:=by
 unfold bW at hy;split at hy
 ·rename_i z fields hz hu;obtain⟨zv,h3,h4,_⟩:=bO hz w;have h6:PW m h w z zv.cells:=kC h4;split at hy
  ·rename_i h7;simp only[Lx]at hy;obtain⟨cs',hf,rfl⟩:=hy;obtain⟨pl,h9,h8⟩:=run_places (P:=P) (w:=w) fields h7;rw[<- h8]at hf;obtain⟨arr',ha,h0⟩:=tL ps qs z cs' zv.cells hl hr h6 hf;exact⟨.agg arr',by simp only[Instr.build,Sem.run_bind,h3,Result.andThen_ok,run_underlying hu,h9,ha];rfl,.agg h0.1 h0.2⟩
  grind
 ·rename_i z n elem hz hu;obtain⟨zv,h3,h4,_⟩:=bO hz w;have h6:PW m h w z zv.cells:=kC h4;split at hy
  ·rename_i s hs;simp only[Lx]at hy;obtain⟨cs',hf,rfl⟩:=hy;obtain⟨arr',ha,h0⟩:=tL ps qs z cs' zv.cells hl hr h6 hf;exact⟨.agg arr',by simp only[Instr.build,Sem.run_bind,h3,Result.andThen_ok,run_underlying hu,bg hs,ha];rfl,.agg h0.1 h0.2⟩
  grind
 grind
end
end Go.Ab
namespace Go.Ab
section
variable {P:Program}{m:Mu}{h:Heap}{w:World}
def upd(m:Mu)(x b:Nat):Mu:={ m with f:=fun y=>if y=x then some b else m y }
theorem bf{h:Heap}{o:Option (List V)}{x:Nat}(h0:x<h.length):live (h++[o]) x↔live h x:=by
 grind[live,List.getElem?_append_left]
theorem aK{h:Heap}{o:Option (List V)}{x:Nat}(hl:live (h++[o]) x):x<h.length\/x=h.length:=by
 have:=fh hl
 grind
theorem eY{o:Obj}{b:Nat}(hb:b<w.heap.size):(w.alloc o).heap[b]?=w.heap[b]?:=heap_alloc_old w o b hb
theorem gv{o:Obj}:(w.alloc o).heap[w.heap.size]?=some o:=heap_alloc_new w o
theorem cR(cs:List V)(o:Obj):Evo m h w (upd m h.length w.heap.size) (h++[some cs]) (w.alloc o) where
 zeq:=rfl
 len:=by simp
 keep:=fun x hx hl=>⟨(bf hx).1 hl,by simp[upd,LL hx]⟩
 own:=fun x b hl hb=>by
  rcases aK hl with hx|rfl<;>grind[bf,upd,Nat.ne_of_lt]
 frame:=fun b hb _=>eY hb
 size:=by simp
 rs:=fun b hb=>by rw[cF (eY hb)];omega
 os:=rfl
 tape:=rfl
 output:=rfl
theorem fQ(r:Rel m h w){cs:List V}{arr:Array Value}{T:TypeId}(hl:cs.length<=arr.size)(hr:∀ (i:Nat) (c:V),cs[i]?=some c->∃ v,arr[i]?=some v/\R m h w c v):
  Rel (upd m h.length w.heap.size) (h++[some cs]) (w.alloc (.cells arr T (0,0))):=by
 have e:=cR (m:=m) (h:=h) (w:=w) cs (.cells arr T (0,0));refine⟨fun x b hl hb hz=>?_,fun b hb=>Lu (r.zl b hb) e.size,fun x y b hx hy h0 h3=>?_,fun x cs' b hx hb=>?_⟩
 ·rcases aK hl with h1|rfl
  ·simp only[upd,LL h1,if_false]at hb;exact r.zo x b ((bf h1).1 hl) hb hz
  ·simp only[upd,if_true,K7]at hb;have:=r.zl b hz;omega
 ·rcases aK hx with h1|rfl
  ·rcases aK hy with h2|rfl
   ·simp only[upd,LL h1,LL h2,if_false]at h0 h3;exact r.inj x y b ((bf h1).1 hx) ((bf h2).1 hy) h0 h3
   ·simp only[upd,LL h1,if_false,if_true,K7]at h0 h3;have:=r.lt x b ((bf h1).1 hx) h0;omega
  ·rcases aK hy with h2|rfl
   ·simp only[upd,LL h2,if_false,if_true,K7]at h0 h3;have:=r.lt y b ((bf h2).1 hy) h3;omega
   ·rfl
 ·rcases aK ⟨cs',hx⟩ with h1|rfl
  ·rw[K8 h1]at hx;simp only[upd,LL h1,if_false]at hb;exact (r.blk x cs' b hx hb).carry (eY (r.lt x b ⟨cs',hx⟩ hb)) fun c v _ h4=>h4.evo e r.lt
  ·simp only[upd,if_true,K7]at hb;subst hb;simp at hx;subst hx;refine .inl ⟨arr,T,gv,hl,fun i c hc=>?_⟩;obtain⟨v,hv,h4⟩:=hr i c hc;exact⟨v,hv,h4.evo e r.lt⟩
theorem Gl{cs:List V}{w':World}:R (upd m h.length w.heap.size) (h++[some cs]) w' (.ptr h.length 0) (.pointer (some ⟨w.heap.size,0,none⟩)):=
 .ptr (by simp) fun _=>⟨w.heap.size,by simp[upd],rfl⟩
theorem bT{h:Heap}{x y:Nat}{cs:List V}(hx:live h x):live (h.set x (some cs)) y↔live h y:=by
 grind[List.getElem?_set_self,fh,live,List.getElem?_set_ne]
theorem zA{x b:Nat}{cs:List V}(hx:live h x)(hb:m x=some b){arr arr':Array Value}{T:TypeId}(ha:w.heap[b]?=some (.cells arr T (0,0)))(h3:arr.size<=arr'.size):
  Evo m h w m (h.set x (some cs)) (w.setRow b arr') where
 zeq:=rfl
 len:=by simp
 keep:=fun y _ hl=>⟨(bT hx).1 hl,rfl⟩
 own:=fun y c hl hc=>.inl ⟨y,(bT hx).1 hl,hc⟩
 frame:=fun c _ hn=>setRow_other w b c arr' fun h0=>hn x hx (h0 ▸ hb)
 size:=by simp
 rs:=fun c _=>by
  by_cases h0:c=b
  ·subst h0;simp only[rsz,ha,setRow_heap w c arr arr' T (0,0) ha];exact h3
  ·rw[cF (setRow_other w b c arr' h0)];omega
 os:=rfl
 tape:=rfl
 output:=rfl
theorem GG(r:Rel m h w){x b:Nat}{cs:List V}(hx:live h x)(hb:m x=some b){arr arr':Array Value}{T:TypeId}(ha:w.heap[b]?=some (.cells arr T (0,0)))(h4:arr.size<=arr'.size)
  (hl:cs.length<=arr'.size) (hr:∀ (i:Nat) (c:V),cs[i]?=some c->∃ v,arr'[i]?=some v/\R m h w c v):Rel m (h.set x (some cs)) (w.setRow b arr'):=by
 have e:=zA (cs:=cs) hx hb ha h4;refine⟨fun y c hy hc=>r.zo y c ((bT hx).1 hy) hc,fun c hc=>Lu (r.zl c hc) e.size,fun y z c hy hz h6 h7=>r.inj y z c ((bT hx).1 hy) ((bT hx).1 hz) h6 h7,fun y cs' c hy hc=>?_⟩;by_cases h0:x=y
 ·subst h0;rw[Lm (fh hx)]at hy;cases hy;rw[hb]at hc;cases hc;refine .inl ⟨arr',T,setRow_heap w b arr arr' T (0,0) ha,hl,fun i c hc=>?_⟩;obtain⟨v,hv,h3⟩:=hr i c hc;exact⟨v,hv,h3.evo e r.lt⟩
 ·rw[Lb h0]at hy;have h8:c≠b:=fun e=>h0 (r.inj x y b hx ⟨cs',hy⟩ hb (e ▸ hc));exact (r.blk y cs' c hy hc).carry (setRow_other w b c arr' h8) fun d v _ h3=>h3.evo e r.lt
theorem gJ(r:Rel m h w){cfg:Cfg}{x off b:Nat}{vs:List V}{us:List Value}{h':Heap}{cs:List V}(hb:m x=some b)(h0:ab h x=some cs)
  (hs:aJ cfg h x off vs=some h') (hlen:us.length=vs.length) (hr:∀ (i:Nat) (c:V) (u:Value),vs[i]?=some c->us[i]?=some u->R m h w c u) (h1:∀ u∈us,u.oneCell'=true):
  ∃ w',(storeCells ⟨b,off,none⟩ us).run P w=.ok () w'/\Evo m h w m h' w'/\Rel m h' w':=by
 unfold aJ at hs;rw[h0]at hs;simp only at hs;split at hs
 ·rename_i hc;simp only[Ld,decide_eq_true_eq]at hc;obtain⟨⟨hle,_⟩,_⟩:=hc;cases hs;have hc:=aA h0;obtain⟨arr,T,ha,hl,h7⟩:=(r.blk x cs b hc hb).cells (cX h0);have h3:=run_storeCells_at P b off T us 0 arr w ha (by omega) h1;simp only[Nb]at h3;have h4:arr.size<=(arr.toList.take off++us++arr.toList.drop (off+us.length)).toArray.size:=by grind
  refine⟨_,h3,zA ⟨cs,hc⟩ hb ha h4,GG r ⟨cs,hc⟩ hb ha h4 (by grind[iX,Nat.le_trans]) ?_⟩;intro i c hi;rw[nE cs off vs i hle]at hi;have h6:(arr.toList.take off++us++arr.toList.drop (off+us.length)).toArray[i]?=if off<=i/\i<off+us.length then us[i-off]? else arr[i]?:=by
   simp only[NM]
   grind
  grind
 grind
end
end Go.Ab
