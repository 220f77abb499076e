/- Several texts of this proof in one. -/
import Derived.Test.YtldfgkjmficliaaGreatAbDraw3
set_option linter.unusedSimpArgs false
set_option linter.unusedVariables false
namespace Go.Ab
def only(Q:Exit→Act→World→Prop):Exit→Act→World→Prop
 | .normal,a,w=>Q .normal a w
 | _,_,_=>False
section
variable {P:Program}{ops:Array Oper}{Q:Exit→Act→World→Prop}
theorem uW:¬ LetsOut (only Q):=fun ⟨_,_,h⟩=>h
def Ap(ops:Array Oper)(x y:Oper):Prop:=(∀ d,x.dst=some d→d ∉ y.looksAt ops)∧(∀ d,x.dst=some d→y.dst≠some d)∧(∀ d,y.dst=some d→d ∉ x.looksAt ops)
theorem Ap.of{x y:Oper}(h:x.apart ops y=true):Ap ops x y:=Oper.apart_spec h
theorem Ap.symm{x y:Oper}(h:Ap ops x y):Ap ops y x:=⟨h.2.2,fun d hd hx=>h.2.1 d hx hd,h.1⟩
def Blind(P:Program)(ops:Array Oper)(o:Oper)(a:Act)(u:Value):Prop:=
 (Region.wanted o (yielded ops a.tmps)=true∧∀ w,(execOp a.eval o).run P w=.ok (.value u) w)∨(Region.wanted o (yielded ops a.tmps)=false∧u=undef)
theorem Blind.put{o oj:Oper}{a:Act}{u z:Value}(hs:∀ cs b,o.op≠.select cs b)(hb:Blind P ops o a u)(h:∀ d,oj.dst=some d→d ∉ o.looksAt ops):Blind P ops o (a.put oj.dst z) u:=by
 unfold Blind
 rw[wanted_put o a oj.dst z h,execOp_put o hs a oj.dst z h]
 exact hb
theorem tU{a:Act}{ds:List Deferred}:({ a with defers:=ds }:Act).eval=a.eval:=by
 funext x;cases x<;>rfl
theorem Blind.defers{o:Oper}{a:Act}{u:Value}{ds:List Deferred}(hb:Blind P ops o a u):Blind P ops o { a with defers:=ds } u:=by
 unfold Blind at *
 rw[tU]
 exact hb
theorem qw{i:Nat}{o:Oper}(ho:ops[i]?=some o){a:Act}{u:Value}(hb:Blind P ops o a u){K:Act→World→Prop}{w:World}(hK:K (a.put o.dst u) w):wpOp P ops Q i K a w:=by
 unfold wpOp
 rw[ho]
 simp only
 rcases hb with⟨h1,h2⟩|⟨h1,rfl⟩
 ·rw[h1]
  simp only[if_true]
  refine .inl ?_
  unfold Oper.wp
  rw[h2 w]
  exact hK
 ·rw[h1]
  simp only[Bool.false_eq_true,if_false]
  exact hK
theorem wpOp_put{j:Nat}{oi oj:Oper}(hj:ops[j]?=some oj)(hap:Ap ops oi oj)(hsi:∀ cs b,oi.op≠.select cs b)(hsj:∀ cs b,oj.op≠.select cs b){a:Act}{u:Value}(hb:Blind P ops oi a u)
  {K K':Act→World→Prop} {w:World} (h:wpOp P ops (only Q) j K (a.put oi.dst u) w) (hK:∀ a' w',Blind P ops oi a' u→K (a'.put oi.dst u) w'→K' a' w'):wpOp P ops (only Q) j K' a w:=by
 obtain⟨h1,h2,h3⟩:=hap
 have hcomm:∀ (b:Act) (z:Value),(b.put oi.dst u).put oj.dst z=(b.put oj.dst z).put oi.dst u:=fun b z=>Act.put_comm b u z h2
 have fin:∀ z w',K ((a.put oi.dst u).put oj.dst z) w'→K' (a.put oj.dst z) w':=fun z w' hk=>hK _ _ (hb.put hsi h3) (by rw[← hcomm];exact hk)
 unfold wpOp at *
 rw[hj]at h ⊢
 simp only at h ⊢
 rw[wanted_put oj a oi.dst u h1]at h
 split
 ·rename_i hw
  rw[hw]at h
  simp only[if_true]at h
  rcases h with h|⟨_,h⟩
  ·refine .inl ?_
   unfold Oper.wp at h ⊢
   rw[execOp_put oj hsj a oi.dst u h1]at h
   generalize (execOp a.eval oj).run P w=r at h ⊢
   cases r with
   | ok nx w' =>
    cases nx<;>simp only[Oper.upon]at h ⊢<;>try exact h
    case value z=>exact fin z w' h
    case skip=>exact fin undef w' h
    case defer d =>
     have e:({ a.put oi.dst u with defers:=d::(a.put oi.dst u).defers }:Act)=({ a with defers:=d::a.defers }:Act).put oi.dst u:=by cases oi.dst<;>rfl
     rw[e,hcomm]at h
     exact hK _ _ (hb.defers.put hsi h3) h
    case enter f args =>
     refine h.mono ?_
     rintro (v|c|_) w'' he
     ·exact fin v w'' he
     ·exact he
     ·exact he
    case row f args =>
     exact Rows.mono h fun z w'' hz=>fin z w'' hz
   | halt x w' =>
    cases x<;>simp only[Oper.upon]at h ⊢<;>exact h
  ·exact absurd h uW
 ·rename_i hw
  have hw':Region.wanted oj (yielded ops a.tmps)=false:=by simpa using hw
  rw[hw']at h
  simp only[Bool.false_eq_true,if_false]at h
  exact fin undef w h
theorem wpAny_first(hsel:∀ (j:Nat) (o:Oper) cs b,ops[j]?=some o→o.op≠.select cs b){i:Nat}{oi:Oper}(hi:ops[i]?=some oi){u:Value}:∀ (fuel:Nat) (listed:Array Bool) (a:Act) (w:World),listed.size=ops.size→setOf listed i=false→Ready (setOf listed) oi →
  (∀ j oj,ops[j]?=some oj→j≠i→setOf listed j=false→(∀ S:Nat→Bool,(∀ q,setOf listed q=true→S q=true)→S i=false→Closed ops S→Ready S oj→Ap ops oi oj))→Closed ops (setOf listed) →
  Blind P ops oi a u→wpAny P .any ops (only Q) fuel (listed.setIfInBounds i true) (a.put oi.dst u) w→wpAny P .any ops (only Q) (fuel+1) listed a w:=by
 intro fuel
 induction fuel with
 | zero =>
  intro listed a w hs hf hr hap hcl hb h
  have hil:i<listed.size:=by rw[hs];exact (Array.getElem?_eq_some_iff.1 hi).1
  refine⟨fun hn=>?_,fun j hj=>?_⟩
  ·have:i∈Region.ready .any ops listed:=(mem_ready hs).2 ⟨oi,hi,hf,hr⟩
   rw[hn]at this;cases this
  ·obtain⟨oj,hoj,hjf,hjr⟩:=(mem_ready hs).1 hj
   by_cases hji:j=i
   ·subst hji
    rw[hi]at hoj;cases hoj
    exact qw hi hb h
   ·exfalso
    have:j∈Region.ready .any ops (listed.setIfInBounds i true):=(mem_ready (by simp[hs])).2 ⟨oj,hoj,by rw[dg hil,bO];simp[hji,hjf],by rw[dg hil];exact hjr.add⟩
    rw[h.1]at this;cases this
 | succ fuel ih =>
  intro listed a w hs hf hr hap hcl hb h
  have hil:i<listed.size:=by rw[hs];exact (Array.getElem?_eq_some_iff.1 hi).1
  refine⟨fun hn=>?_,fun j hj=>?_⟩
  ·have:i∈Region.ready .any ops listed:=(mem_ready hs).2 ⟨oi,hi,hf,hr⟩
   rw[hn]at this;cases this
  ·obtain⟨oj,hoj,hjf,hjr⟩:=(mem_ready hs).1 hj
   by_cases hji:j=i
   ·subst hji
    rw[hi]at hoj;cases hoj
    exact qw hi hb h
   ·have hjl:j<listed.size:=by rw[hs];exact (Array.getElem?_eq_some_iff.1 hoj).1
    have hij:i≠j:=fun e=>hji e.symm
    have hmem:j∈Region.ready .any ops (listed.setIfInBounds i true):=(mem_ready (by simp[hs])).2 ⟨oj,hoj,by rw[dg hil,bO];simp[hji,hjf],by rw[dg hil];exact hjr.add⟩
    have hapj:=hap j oj hoj hji hjf (setOf listed) (fun q hq=>hq) hf hcl hjr
    refine wpOp_put hoj hapj (fun cs b=>hsel i oi cs b hi) (fun cs b=>hsel j oj cs b hoj) hb (h.2 j hmem) fun a' w' hb' hk=>?_
    have hsw:(listed.setIfInBounds i true).setIfInBounds j true=(listed.setIfInBounds j true).setIfInBounds i true:=by
     apply Array.ext_getElem?
     intro q
     simp only[Array.getElem?_setIfInBounds]
     by_cases hqi:i=q
     ·subst hqi;simp[hji,hil]
     ·by_cases hqj:j=q
      ·subst hqj;simp[hqi,hjl]
      ·simp[hqi,hqj]
    rw[hsw]at hk
    refine ih (listed.setIfInBounds j true) a' w' (by simp[hs]) ?_ ?_ ?_ ?_ hb' hk
    ·rw[dg hjl];simp[bO,hij,hf]
    ·rw[dg hjl];exact hr.add
    ·intro q oq hoq hqi hqf S hsub hSi hSc hSr
     refine hap q oq hoq hqi ?_ S (fun z hz=>hsub z (by rw[dg hjl,bO];split<;>simp_all)) hSi hSc hSr
     rw[dg hjl,bO]at hqf
     split at hqf
     ·cases hqf
     ·exact hqf
    ·rw[dg hjl];exact hcl.add hoj hjr
end
end Go.Ab
namespace Go.Ab
def aY(o:Oper):Bool:=
 match o.op with
 | .call { callee:=.value _,.. }=>true
 | .store ..=>true
 | _=>false
def ny(ld:List Nat)(x:List Nat):Bool:=x.all fun b=>!ld.contains b
def de(P:Program)(md:FuncId→Nat)(call:aR)(cfg:Cfg)(n0:Nat)(ops:Array Oper)(o:Oper)(fr:List V)(h:Heap)(x:List Nat)(ld:List Nat):Option (V×Heap×List Nat×List Nat):=
 match cY ops fr o with
 | none=>none
 | some false=>some (.no,h,x,ld)
 | some true =>
  match o.op with
  | .call { callee:=.value f,args,argTypes:=_ }=>match ev fr f,cK fr args.toList with
   | some (.func (.func g) first captured),some vs =>
    match md g with
    | 0=>match af md call ⟨h.length,[],h.length⟩ g ((first++vs)++captured) h with
     | some (v,h')=>some (v,h',x,ld)
     | none=>none
    | 3=>match af md call ⟨h.length,[],h.length⟩ g ((first++vs)++captured) h with
     | some (v,h')=>some (v,h',x,ld)
     | none=>none
    | 1=>match (first++vs)++captured with
     | .ptr b _::_ =>
      if cfg.wr b&&decide (b<n0) then
       match af md call ⟨h.length,[b],h.length⟩ g ((first++vs)++captured) h with
       | some (v,h')=>some (v,h',b::x,ld)
       | none=>none
      else none
     | _=>none
    | 2=>match af md call ⟨h.length,[],h.length⟩ g ((first++vs)++captured) h with
     | some (v,h')=>some (v,h',x,ld)
     | none=>none
    | m =>
     if (decide (m=4)||decide (m=5))&&((mapsIn h).all fun b=>cfg.wr b&&decide (b<n0)) then
      match af md call ⟨h.length,mapsIn h,h.length⟩ g ((first++vs)++captured) h with
      | some (v,h')=>some (v,h',mapsIn h++x,ld)
      | none=>none
     else none
   | _,_=>none
  | .store t p y=>match ev fr p with
   | some (.ptr b _) =>
    if cfg.wr b then
     match opV P ⟨h.length,[b],h.length⟩ fr h (.store t p y) with
     | some (v,h')=>some (v,h',b::x,ld)
     | none=>none
    else none
   | _=>none
  | op=>if eG P op then
    match opV P cfg fr h op with
    | some (v,h')=>some (v,h',x,match er fr op with
     | some b=>b::ld
     | none=>ld)
    | none=>none
   else none
def dw(P:Program)(md:FuncId→Nat)(call:aR)(cfg:Cfg)(n0:Nat)(ops:Array Oper):List Oper→List V→Heap→List Nat→List Nat→Option (List V×Heap×List Nat×List Nat)
 | [],fr,h,x,ld=>some (fr,h,x,ld)
 | o::r,fr,h,x,ld=>match de P md call cfg n0 ops o fr h x ld with
  | some (v,h',x',ld')=>dw P md call cfg n0 ops r (put fr o.dst v) h' x' ld'
  | none=>none
def Co(P:Program)(ts:Array TypeId):Bool:=
 match ts.toList with
 | [t]=>match P.underlying t with
  | some (.slice e)=>match P.underlying e with
   | some (.slice _)=>true
   | _=>false
  | _=>false
 | _=>false
theorem rA{P:Program}{ts:Array TypeId}(h:Co P ts=true):∃ t,ts=#[t]:=by
 obtain⟨l⟩:=ts
 unfold Co at h
 split at h
 ·rename_i t ht
  exact⟨t,by simp at ht;rw[ht]⟩
 ·cases h
def cS(P:Program)(o:Oper):Bool:=
 match o.op with
 | .move _|.extract ..|.unOp ..=>true
 | .binOp _ t _ _ _=>match P.underlying t with
  | some (.int _)=>true
  | _=>false
 | .call { callee:=.builtin .max,.. }=>true
 | .call { callee:=.builtin .min,.. }=>true
 | .call { callee:=.builtin .len,args:=_,argTypes:=ts }=>Co P ts
 | _=>false
def eE(P:Program):Nat→List Oper→Nat
 | _,[]=>0
 | i,o::r=>(if cS P o then 2 ^ i else 0) ||| eE P (i+1) r
def jx(fm:Nat)(ms:List Nat)(n:Nat):Nat:=(List.range n).foldl (fun acc j=>if (ms.getD j 0 ||| fm)%2 ^ j==2 ^ j-1 then acc else j+1) 0
def zL(o:Oper)(j:Nat):Bool:=o.after.toList.all fun e=>!Region.binds .any e||decide (e.on<j)
def oa(ops:Array Oper)(mj:Nat)(oj:Oper):Nat→List Oper→Bool
 | _,[]=>true
 | i,oi::r=>(mj.testBit i||(oi.apart ops oj&&!(aY oi&&aY oj)))&&oa ops mj oj (i+1) r
def nW(ops:Array Oper)(ms:List Nat):List Oper→Nat→List Oper→Bool
 | _,_,[]=>true
 | before,j,o::r=>oa ops (ms.getD j 0) o 0 before&&nW ops ms (before++[o]) (j+1) r
def sW(P:Program)(ops:Array Oper)(mj:Nat)(oj:Oper):Nat→List Oper→Bool
 | _,[]=>true
 | i,oi::r=>(mj.testBit i||(cS P oi&&oi.apart ops oj))&&sW P ops mj oj (i+1) r
def om(P:Program)(ops:Array Oper)(ms:List Nat):List Oper→Nat→List Oper→Bool
 | _,_,[]=>true
 | before,j,o::r=>(ms.getD j 0==2 ^ j-1||sW P ops (ms.getD j 0) o 0 before)&&om P ops ms (before++[o]) (j+1) r
def GF(o:Oper):Bool:=
 match o.op with
 | .select ..=>false
 | _=>true
def sh:Nat→List Oper→Bool
 | _,[]=>true
 | j,o::r=>zL o j&&sh (j+1) r
def yR(P:Program)(ops:Array Oper)(ms:List Nat)(N:Nat):Bool:=
 decide (N≤ops.size)&&om P ops ms (ops.toList.take N) N (ops.toList.drop N)&&sh 0 ops.toList&&nW ops ms [] 0 (ops.toList.take N)&&ops.toList.all GF
def ef(P:Program)(md:FuncId→Nat)(call:aR)(cfg:Cfg)(ops:Array Oper)(fr:List V)(h:Heap):Option (List V×Heap):=
 let ms:=jN [] ops.toList
 let N:=jx (eE P 0 ops.toList) ms ops.size
 if yR P ops ms N then
  match dw P md call cfg h.length ops (ops.toList.take N) fr h [] []with
  | some (fr1,h1,x,ld) =>
   if ny ld x then cT P md call cfg ops (ops.toList.drop N) fr1 h1 else none
  | none=>none
 else none
section
variable {P:Program}{ops:Array Oper}
theorem oE:∀ (l:List Oper) (j:Nat),sh j l=true→∀ i o,l[i]?=some o→∀ e∈o.after.toList,Region.binds .any e=true→e.on<j+i
 | [],_,_,i,o,h=>by simp at h
 | p::l,j,hb,i,o,h=>by
  simp only[sh,Bool.and_eq_true]at hb
  cases i with
  | zero =>
   simp at h
   subst h
   intro e he hbind
   have:=List.all_eq_true.1 hb.1 e he
   simpa[hbind]using this
  | succ i =>
   have:=oE l (j+1) hb.2 i o (by simpa using h)
   intro e he hbind
   have:=this e he hbind
   omega
theorem nm{mj:Nat}{oj:Oper}:∀ (l:List Oper) (i0:Nat),oa ops mj oj i0 l=true→∀ i oi,l[i]?=some oi→mj.testBit (i0+i)=true∨(oi.apart ops oj=true∧¬ (aY oi=true∧aY oj=true))
 | [],_,_,i,oi,h=>by simp at h
 | p::l,i0,hb,i,oi,h=>by
  simp only[oa,Bool.and_eq_true,Bool.or_eq_true,Bool.not_eq_true']at hb
  cases i with
  | zero =>
   simp at h
   subst h
   rcases hb.1 with h1|⟨h1,h2⟩
   ·exact .inl h1
   ·exact .inr ⟨h1,by simpa using h2⟩
  | succ i =>
   have:=nm l (i0+1) hb.2 i oi (by simpa using h)
   rwa [show i0+1+i=i0+(i+1) by omega]at this
theorem nf{ms:List Nat}:∀ (l before:List Oper) (j0:Nat),j0=before.length→nW ops ms before j0 l=true →
  ∀ i j oi oj,i<j→(before++l)[i]?=some oi→(before++l)[j]?=some oj→j0≤j→(ms.getD j 0).testBit i=true∨(oi.apart ops oj=true∧¬ (aY oi=true∧aY oj=true))
 | [],before,j0,hj0,_,i,j,oi,oj,hij,hi,hj,hge=>by
  rw[List.getElem?_eq_none (by simp;omega)]at hj
  cases hj
 | o::l,before,j0,hj0,hb,i,j,oi,oj,hij,hi,hj,hge=>by
  simp only[nW,Bool.and_eq_true]at hb
  by_cases hje:j=j0
  ·subst hje
   rw[hj0,List.getElem?_append_right (by omega),Nat.sub_self]at hj
   simp at hj
   subst hj
   rw[List.getElem?_append_left (by omega)]at hi
   have:=nm before 0 hb.1 i oi hi
   simpa using this
  ·exact nf l (before++[o]) (j0+1) (by simp;omega) hb.2 i j oi oj hij (by simpa using hi) (by simpa using hj) (by omega)
theorem lJ{mj:Nat}{oj:Oper}:∀ (l:List Oper) (i0:Nat),sW P ops mj oj i0 l=true→∀ i oi,l[i]?=some oi→mj.testBit (i0+i)=true∨(cS P oi=true∧oi.apart ops oj=true)
 | [],_,_,i,oi,h=>by simp at h
 | p::l,i0,hb,i,oi,h=>by
  simp only[sW,Bool.and_eq_true,Bool.or_eq_true]at hb
  cases i with
  | zero =>
   simp at h
   subst h
   exact hb.1
  | succ i =>
   have:=lJ l (i0+1) hb.2 i oi (by simpa using h)
   rwa [show i0+1+i=i0+(i+1) by omega]at this
theorem nt{ms:List Nat}:∀ (l before:List Oper) (j0:Nat),j0=before.length→om P ops ms before j0 l=true →
  ∀ i j oi oj,i<j→(before++l)[i]?=some oi→(before++l)[j]?=some oj→j0≤j→(ms.getD j 0).testBit i=true∨(cS P oi=true∧oi.apart ops oj=true)
 | [],before,j0,hj0,_,i,j,oi,oj,hij,hi,hj,hge=>by
  rw[List.getElem?_eq_none (by simp;omega)]at hj
  cases hj
 | o::l,before,j0,hj0,hb,i,j,oi,oj,hij,hi,hj,hge=>by
  simp only[om,Bool.and_eq_true,Bool.or_eq_true,beq_iff_eq]at hb
  by_cases hje:j=j0
  ·subst hje
   rw[hj0,List.getElem?_append_right (by omega),Nat.sub_self]at hj
   simp at hj
   subst hj
   rw[List.getElem?_append_left (by omega)]at hi
   rcases hb.1 with h|h
   ·left
    rw[h,Nat.testBit_two_pow_sub_one]
    simpa using hij
   ·have:=lJ before 0 h i oi hi
    simpa using this
  ·exact nt l (before++[o]) (j0+1) (by simp;omega) hb.2 i j oi oj hij (by simpa using hi) (by simpa using hj) (by omega)
structure Static(P:Program)(ops:Array Oper)(N:Nat):Prop where
 le:N≤ops.size
 back:Back ops
 tail:∀ i j oi oj,N≤j→i<j→ops[i]?=some oi→ops[j]?=some oj→ord ops i j=true∨(cS P oi=true∧oi.apart ops oj=true)
 head:∀ i j oi oj,i<j→j<N→ops[i]?=some oi→ops[j]?=some oj→ord ops i j=true∨(oi.apart ops oj=true∧¬ (aY oi=true∧aY oj=true))
 nosel:∀ (j:Nat) (o:Oper) cs b,ops[j]?=some o→o.op≠.select cs b
theorem tn{N:Nat}(h:yR P ops (jN [] ops.toList) N=true):Static P ops N:=by
 simp only[yR,Bool.and_eq_true,decide_eq_true_eq]at h
 obtain⟨⟨⟨⟨h1,h2⟩,h3⟩,h4⟩,h5⟩:=h
 refine⟨h1,fun i o ho e he hb=>?_,fun i j oi oj hN hij hi hj=>?_,fun i j oi oj hij hjN hi hj=>?_,fun j o cs b ho he=>?_⟩
 ·have:=oE ops.toList 0 h3 i o (by simpa using ho) e he hb
  omega
 ·have:=nt (P:=P) (ops.toList.drop N) (ops.toList.take N) N (by simp;omega) h2 i j oi oj hij (by rw[List.take_append_drop];simpa using hi) (by rw[List.take_append_drop];simpa using hj) hN
  exact this
 ·have:=nf (ops.toList.take N) [] 0 rfl h4 i j oi oj hij (by rw[List.nil_append,List.getElem?_take,if_pos (by omega)];simpa using hi) (by rw[List.nil_append,List.getElem?_take,if_pos hjN];simpa using hj) (by omega)
  exact this
 ·have hm:o∈ops.toList:=List.mem_of_getElem? (by simpa using ho)
  have:=List.all_eq_true.1 h5 o hm
  simp[GF,he]at this
/-! ### The trace of the first operations -/
theorem pA{md:FuncId→Nat}{call:aR}{cfg:Cfg}{n0:Nat}:∀ (l:List Oper) (fr:List V) (h:Heap) (x:List Nat) (ld:List Nat) {fr':List V}{h':Heap}{x':List Nat}{ld':List Nat},
  dw P md call cfg n0 ops l fr h x ld=some (fr',h',x',ld') →
  ∃ (F:Nat→List V) (H:Nat→Heap) (X:Nat→List Nat) (D:Nat→List Nat) (v:Nat→V),F 0=fr∧H 0=h∧X 0=x∧D 0=ld∧F l.length=fr'∧H l.length=h'∧X l.length=x'∧D l.length=ld' ∧
   ∀ i o,l[i]?=some o→de P md call cfg n0 ops o (F i) (H i) (X i) (D i)=some (v i,H (i+1),X (i+1),D (i+1))∧F (i+1)=put (F i) o.dst (v i)
 | [],fr,h,x,ld,fr',h',x',ld',hr=>by
  simp only[dw,Option.some.injEq,Prod.mk.injEq]at hr
  obtain⟨rfl,rfl,rfl,rfl⟩:=hr
  exact⟨fun _=>fr,fun _=>h,fun _=>x,fun _=>ld,fun _=>.no,rfl,rfl,rfl,rfl,rfl,rfl,rfl,rfl,fun i o hi=>by simp at hi⟩
 | o::l,fr,h,x,ld,fr',h',x',ld',hr=>by
  simp only[dw]at hr
  split at hr
  ·rename_i v h1 x1 ld1 hs
   obtain⟨F,H,X,D,vs,e1,e2,e3,e4,e5,e6,e7,e8,hst⟩:=pA l _ _ _ _ hr
   refine⟨fun i=>match i with|0=>fr|i+1=>F i,fun i=>match i with|0=>h|i+1=>H i,fun i=>match i with|0=>x|i+1=>X i,fun i=>match i with|0=>ld|i+1=>D i,
    fun i=>match i with|0=>v|i+1=>vs i,rfl,rfl,rfl,rfl,e5,e6,e7,e8,fun i oi hi=>?_⟩
   cases i with
   | zero =>
    simp at hi
    subst hi
    simp only[e1,e2,e3,e4]
    exact⟨hs,trivial⟩
   | succ i=>exact hst i oi (by simpa using hi)
  ·cases hr
def frS(ops:Array Oper)(v:Nat→V)(S:Nat→Bool)(fr:List V):Nat→List V
 | 0=>fr
 | i+1=>match ops[i]? with
  | some o=>if S i then put (frS ops v S fr i) o.dst (v i) else frS ops v S fr i
  | none=>frS ops v S fr i
theorem yZ{fr:List V}{d:Option Tmp}{v:V}{s:Nat}(hne:d≠some s):(put fr d v)[s]?=fr[s]?:=by
 cases d with
 | none=>rfl
 | some d=>simp only[put];rw[List.getElem?_set_ne (fun e=>hne (by rw[e]))]
theorem xy(fr:List V)(d:Option Tmp)(v:V):(put fr d v).length=fr.length:=by cases d<;>simp[put]
theorem pw{v:Nat→V}{S:Nat→Bool}{fr:List V}(n:Nat):(frS ops v S fr n).length=fr.length:=by
 induction n with
 | zero=>rfl
 | succ n ih =>
  simp only[frS]
  split
  ·split
   ·rw[xy,ih]
   ·exact ih
  ·exact ih
theorem BV{v:Nat→V}{S S':Nat→Bool}{fr:List V}{s:Nat}(n:Nat)(h:∀ j o,j<n→ops[j]?=some o→S j=S' j∨o.dst≠some s):(frS ops v S fr n)[s]?=(frS ops v S' fr n)[s]?:=by
 induction n with
 | zero=>rfl
 | succ n ih =>
  have ih:=ih fun j o hj ho=>h j o (by omega) ho
  simp only[frS]
  split
  ·rename_i o ho
   rcases h n o (by omega) ho with he|hne
   ·rw[he]
    split
    ·cases hd:o.dst with
     | none=>exact ih
     | some d =>
      simp only[put]
      by_cases hds:d=s
      ·subst hds
       rw[List.getElem?_set,List.getElem?_set,pw,pw]
       simp
      ·rw[List.getElem?_set_ne hds,List.getElem?_set_ne hds];exact ih
    ·exact ih
   ·split<;>split<;>simp only[yZ hne,ih]
  ·exact ih
theorem zS{v:Nat→V}{fr:List V}{i:Nat}(n:Nat)(hi:i≤n):frS ops v (fun j=>decide (j<i)) fr n=frS ops v (fun _=>true) fr i:=by
 have step:∀ k,k≤i→frS ops v (fun j=>decide (j<i)) fr k=frS ops v (fun _=>true) fr k:=by
  intro k hk
  induction k with
  | zero=>rfl
  | succ k ih=>simp only[frS,ih (by omega),show k<i by omega,decide_true]
 induction n with
 | zero =>
  obtain rfl:i=0:=by omega
  rfl
 | succ n ih =>
  by_cases hin:i=n+1
  ·rw[hin]at step ⊢;exact step (n+1) (Nat.le_refl _)
  ·have h1:=ih (by omega)
   simp only[frS,show ¬ n<i by omega,decide_false,Bool.false_eq_true,if_false]
   split<;>exact h1
theorem put_comm{fr:List V}{d d':Option Tmp}{u v:V}(hne:∀ s,d=some s→d'≠some s):put (put fr d u) d' v=put (put fr d' v) d u:=by
 cases d with
 | none=>rfl
 | some d=>cases d' with
  | none=>rfl
  | some d' =>
   have:d≠d':=fun e=>hne d rfl (by rw[e])
   simp only[put]
   rw[List.set_comm _ _ this]
theorem yp{v:Nat→V}{S:Nat→Bool}{fr:List V}{i:Nat}{o:Oper}(ho:ops[i]?=some o)(hS:S i=false)(n:Nat)(hi:i<n)
  (hlate:∀ j oj,i<j→j<n→ops[j]?=some oj→S j=true→∀ s,o.dst=some s→oj.dst≠some s):frS ops v (bO S i) fr n=put (frS ops v S fr n) o.dst (v i):=by
 have low:∀ k,k≤i→frS ops v (bO S i) fr k=frS ops v S fr k:=by
  intro k hk
  induction k with
  | zero=>rfl
  | succ k ih =>
   have:bO S i k=S k:=by simp[bO,show k≠i by omega]
   simp only[frS,ih (by omega),this]
 induction n with
 | zero=>omega
 | succ n ih =>
  by_cases hin:n=i
  ·subst hin
   have h1:bO S n n=true:=by simp[bO]
   simp only[frS,ho,h1,hS,if_true,Bool.false_eq_true,if_false,low n (Nat.le_refl _)]
  ·have ih:=ih (by omega) fun j oj h1 h2 h3 h4=>hlate j oj h1 (by omega) h3 h4
   have h1:bO S i n=S n:=by simp[bO,hin]
   simp only[frS,h1]
   split
   ·rename_i on hon
    split
    ·rename_i hSn
     rw[ih,put_comm (hlate n on (by omega) (by omega) hon hSn)]
    ·exact ih
   ·exact ih
end
end Go.Ab
namespace Go.Ab
section
variable {P:Program}{ops:Array Oper}
theorem jZ{cfg : Cfg}{fr : List V}{h h' : Heap}{op : Op}{v : V}(hop : eG P op = true)(hv : opV P cfg fr h op = some (v, h')): h' = h ∨ ∃ n, h' = h ++ [n] := by
  cases op<;>simp only[eG, Bool.false_eq_true]at hop
  case call c =>
    obtain⟨callee, args, tys⟩ := c
    cases callee with
    | value f => simp at hop
    | invoke r n => simp at hop
    | builtin b =>
      simp only[opV]at hv
      split at hv
      · cases hv
      · split at hv
        · exact .inl (aG hv).2
        · simp at hop
        · exact .inl (aG hv).2
        · exact .inl (aG hv).2
        · simp at hop
        · cases hv
  case convert s d y =>
    simp only[opV]at hv
    split at hv
    · split at hop
      · rename_i k hd
        unfold fc at hv
        rw[hd]at hv
        split at hv
        · rename_i h1 h2;cases h2
        · split at hv
          · cases hv;exact .inl rfl
          · cases hv
        · rename_i h1 h2;cases h2
        · rename_i h1 h2;cases h2
        · cases hv
      · cases hop
    · cases hv
  case makeMap t r =>
    cases r with
    | some o => simp[opV]at hv
    | none =>
      simp only[opV]at hv
      unfold dB at hv
      repeat' split at hv
      all_goals first|(cases hv;done)|(cases hv;exact .inr ⟨_, rfl⟩)
  case slice t y l hh mx =>
    cases mx with
    | none =>
      simp only[opV]at hv
      split at hv
      · exact .inl (aG hv).2
      · cases hv
    | some o => simp[opV]at hv
  all_goals
    simp only[opV]at hv
    repeat' split at hv
    all_goals first
      | (cases hv;done)
      | exact .inl (aG hv).2
      | (cases hv;first|exact .inl rfl|exact .inr ⟨_, rfl⟩)
      | (unfold aM at hv;repeat' split at hv
         all_goals first|(cases hv;done)|(cases hv;exact .inr ⟨_, rfl⟩))
      | (unfold cE at hv;repeat' split at hv
         all_goals first|(cases hv;done)|(cases hv;exact .inr ⟨_, rfl⟩))
theorem qK{c : Cfg}{fr : List V}{h h' : Heap}{t : TypeId}{p y : Operand}{v : V}(hv : opV P c fr h (.store t p y) = some (v, h')): h'.length = h.length := by
  simp only[opV]at hv
  split at hv
  · split at hv
    · rename_i h1 hs
      cases hv
      unfold bf at hs
      repeat' split at hs
      all_goals first
        | (cases hs;done)
        | (unfold aO at hs;repeat' split at hs
           all_goals first|(cases hs;done)|(cases hs;simp))
    · cases hv
  · cases hv
theorem pU{c:Cfg}{fr:List V}{h h':Heap}{t:TypeId}{p y:Operand}{v:V}{b off:Nat}(hp:ev fr p=some (.ptr b off))(hv:opV P c fr h (.store t p y)=some (v,h')):∃ cs,ab h b=some cs:=by
 simp only[opV,hp]at hv
 split at hv
 ·rename_i q z hq hz
  cases hq
  split at hv
  ·rename_i h1 hs
   unfold bf at hs
   split at hs
   ·rename_i heq _ _
    cases heq
    split at hs
    ·unfold aO at hs
     split at hs
     ·rename_i cs hcs
      exact⟨cs,hcs⟩
     ·cases hs
    ·cases hs
   ·cases hs
  ·cases hv
 ·cases hv
def Kind(P:Program)(md:FuncId→Nat)(call:aR)(cfg:Cfg)(n0:Nat)(ops:Array Oper)(o:Oper)(fr:List V)(h:Heap)(v:V)(h':Heap)(x:List Nat):Prop:=
 (cY ops fr o=some false∧v=.no∧h'=h) ∨
 (cY ops fr o=some true∧aY o=false∧eG P o.op=true∧opV P cfg fr h o.op=some (v,h')∧∀ b∈x,er fr o.op≠some b) ∨
 (cY ops fr o=some true∧aY o=true∧h.length≤h'.length∧∃ c:Cfg,c.thr=h.length∧aF P md call c fr h o.op=some (v,h')∧(∀ b,b<h.length→¬ b∈x→c.wr b=false) ∧
  (∀ b,n0≤b→b<h.length→c.wr b=true→∃ t p y off cs,o.op=.store t p y∧ev fr p=some (.ptr b off)∧ab h b=some cs))
theorem Aa(_hN:di P){md:FuncId→Nat}{call:aR}(hcall:dc P call){cfg:Cfg}{n0:Nat}{o:Oper}{fr:List V}{h h':Heap}{x x':List Nat}{ld ld':List Nat}{v:V}
  (hs:de P md call cfg n0 ops o fr h x ld=some (v,h',x',ld')):
  (∀ b∈x,b∈x')∧(∀ b∈x',b∈x∨cfg.wr b=true)∧(∀ b∈ld,b∈ld') ∧
   ∀ y:List Nat,(∀ b∈x',b∈y)→(∀ b∈y,¬ b∈ld')→Kind P md call cfg n0 ops o fr h v h' y:=by
 unfold de at hs
 split at hs
 ·cases hs
 ·rename_i hw
  simp only[Option.some.injEq,Prod.mk.injEq]at hs
  obtain⟨rfl,rfl,rfl,rfl⟩:=hs
  exact⟨fun b h=>h,fun b h=>.inl h,fun b h=>h,fun y _ _=>.inl ⟨hw,rfl,rfl⟩⟩
 ·rename_i hw
  split at hs
  ·rename_i f args tys hop
   have hic:aY o=true:=by simp[aY,hop]
   split at hs
   ·rename_i g first captured vs hf hvs
    split at hs
    ·rename_i hm
     split at hs
     ·rename_i v1 h1 hc
      simp only[Option.some.injEq,Prod.mk.injEq]at hs
      obtain⟨rfl,rfl,rfl,rfl⟩:=hs
      obtain⟨hhs,_⟩:=fN hcall hc
      refine⟨fun b h=>h,fun b h=>.inl h,fun b h=>h,fun y _ _=>.inr (.inr ⟨hw,hic,hhs.len,⟨h.length,[],h.length⟩,rfl,?_,fun b hb _=>?_,fun b _ hb hwb=>?_⟩)⟩
      ·simp only[aF,hop,hf,hvs];exact hc
      ·simp[Cfg.wr];omega
      ·simp[Cfg.wr]at hwb;omega
     ·cases hs
    ·rename_i hm
     split at hs
     ·rename_i v1 h1 hc
      simp only[Option.some.injEq,Prod.mk.injEq]at hs
      obtain⟨rfl,rfl,rfl,rfl⟩:=hs
      obtain⟨hhs,_⟩:=fN hcall hc
      refine⟨fun b h=>h,fun b h=>.inl h,fun b h=>h,fun y _ _=>.inr (.inr ⟨hw,hic,hhs.len,⟨h.length,[],h.length⟩,rfl,?_,fun b hb _=>?_,fun b _ hb hwb=>?_⟩)⟩
      ·simp only[aF,hop,hf,hvs];exact hc
      ·simp[Cfg.wr];omega
      ·simp[Cfg.wr]at hwb;omega
     ·cases hs
    ·rename_i hm
     split at hs
     ·rename_i b off rest has
      split at hs
      ·rename_i hcond
       simp only[Bool.and_eq_true,decide_eq_true_eq]at hcond
       split at hs
       ·rename_i v1 h1 hc
        simp only[Option.some.injEq,Prod.mk.injEq]at hs
        obtain⟨rfl,rfl,rfl,rfl⟩:=hs
        rw[has]at hc
        obtain⟨hhs,_⟩:=fN hcall hc
        refine⟨fun c hc'=>List.mem_cons_of_mem _ hc',fun c hc'=>?_,fun b h=>h,fun y hy _=>.inr (.inr ⟨hw,hic,hhs.len,⟨h.length,[b],h.length⟩,rfl,?_,fun c hcl hcy=>?_,fun c hc0 hcl hwb=>?_⟩)⟩
        ·rcases List.mem_cons.1 hc' with rfl|h
         ·exact .inr hcond.1
         ·exact .inl h
        ·simp only[aF,hop,hf,hvs,has];exact hc
        ·have hne:c≠b:=fun e=>hcy (by rw[e];exact hy b List.mem_cons_self)
         simp[Cfg.wr,hne];omega
        ·simp[Cfg.wr]at hwb;have:=hcond.2;omega
       ·cases hs
      ·cases hs
     ·cases hs
    ·rename_i hm
     split at hs
     ·rename_i v1 h1 hc
      simp only[Option.some.injEq,Prod.mk.injEq]at hs
      obtain⟨rfl,rfl,rfl,rfl⟩:=hs
      obtain⟨hhs,_⟩:=fN hcall hc
      refine⟨fun b h=>h,fun b h=>.inl h,fun b h=>h,fun y _ _=>.inr (.inr ⟨hw,hic,hhs.len,⟨h.length,[],h.length⟩,rfl,?_,fun b hb _=>?_,fun b _ hb hwb=>?_⟩)⟩
      ·simp only[aF,hop,hf,hvs];exact hc
      ·simp[Cfg.wr];omega
      ·simp[Cfg.wr]at hwb;omega
     ·cases hs
    ·split at hs
     ·rename_i hcond
      simp only[Bool.and_eq_true,List.all_eq_true,decide_eq_true_eq]at hcond
      split at hs
      ·rename_i v1 h1 hc
       simp only[Option.some.injEq,Prod.mk.injEq]at hs
       obtain⟨rfl,rfl,rfl,rfl⟩:=hs
       obtain⟨hhs,_⟩:=fN hcall hc
       refine⟨fun c hc'=>List.mem_append_right _ hc',fun c hc'=>?_,fun b h=>h,fun y hy _=>.inr (.inr ⟨hw,hic,hhs.len,⟨h.length,mapsIn h,h.length⟩,rfl,?_,fun c hcl hcy=>?_,fun c hc0 hcl hwb=>?_⟩)⟩
       ·rcases List.mem_append.1 hc' with h|h
        ·exact .inr (hcond.2 c h).1
        ·exact .inl h
       ·simp only[aF,hop,hf,hvs];exact hc
       ·have hne:¬ c∈mapsIn h:=fun e=>hcy (hy c (List.mem_append_left _ e))
        simp[Cfg.wr,hne];omega
       ·simp[Cfg.wr]at hwb
        rcases hwb with hwb|hwb
        ·omega
        ·have:=(hcond.2 c hwb).2;omega
      ·cases hs
     ·cases hs
   ·cases hs
  ·rename_i t p y hop
   have hic:aY o=true:=by simp[aY,hop]
   split at hs
   ·rename_i b off hp
    split at hs
    ·rename_i hcond
     split at hs
     ·rename_i v1 h1 hv
      simp only[Option.some.injEq,Prod.mk.injEq]at hs
      obtain⟨rfl,rfl,rfl,rfl⟩:=hs
      refine⟨fun c hc'=>List.mem_cons_of_mem _ hc',fun c hc'=>?_,fun b h=>h,fun y' hy _=>.inr (.inr ⟨hw,hic,by rw[qK hv];exact Nat.le_refl _,⟨h.length,[b],h.length⟩,rfl,?_,fun c hcl hcy=>?_,fun c hc0 hcl hwb=>?_⟩)⟩
      ·rcases List.mem_cons.1 hc' with rfl|h
       ·exact .inr hcond
       ·exact .inl h
      ·rw[hop];exact hv
      ·have hne:c≠b:=fun e=>hcy (by rw[e];exact hy b List.mem_cons_self)
       simp[Cfg.wr,hne];omega
      ·have hcb:c=b:=by
        simp[Cfg.wr]at hwb
        rcases hwb with hwb|hwb
        ·omega
        ·exact hwb
       subst hcb
       obtain⟨cs,hcs⟩:=pU hp hv
       exact⟨t,p,y,off,cs,hop,hp,hcs⟩
     ·cases hs
    ·cases hs
   ·cases hs
  ·rename_i hnc hns
   have hic:aY o=false:=by
    unfold aY
    split
    ·rename_i f args tys hop;exact absurd hop (hnc f args tys)
    ·rename_i t p y hop;exact absurd hop (hns t p y)
    ·rfl
   split at hs
   ·rename_i hh
    split at hs
    ·rename_i v1 h1 hv
     simp only[Option.some.injEq,Prod.mk.injEq]at hs
     obtain⟨rfl,rfl,rfl,rfl⟩:=hs
     refine⟨fun b h=>h,fun b h=>.inl h,fun b h=>?_,fun y hy hld=>.inr (.inl ⟨hw,hic,hh,hv,fun b hb hr=>?_⟩)⟩
     ·split
      ·exact List.mem_cons_of_mem _ h
      ·exact h
     ·refine hld b hb ?_
      rw[hr]
      exact List.mem_cons_self
    ·cases hs
   ·cases hs
structure Tr(P:Program)(md:FuncId→Nat)(call:aR)(cfg:Cfg)(ops:Array Oper)(N:Nat)(x:List Nat)(F:Nat→List V)(H:Nat→Heap)(v:Nat→V):Prop where
 xwr:∀ b∈x,cfg.wr b=true
 step:∀ i o,i<N→ops[i]?=some o→F (i+1)=put (F i) o.dst (v i)∧Kind P md call cfg (H 0).length ops o (F i) (H i) (v i) (H (i+1)) x
theorem DH{p:Nat→Prop}{N:Nat}(hs:∀ i,i<N→p i→p (i+1)){i:Nat}(hi:p i):∀ (j:Nat),i≤j→j≤N→p j:=by
 intro j hij
 induction hij with
 | refl=>intro _;exact hi
 | step _ ih=>intro hj;exact hs _ (by omega) (ih (by omega))
theorem AU(hN:di P){md:FuncId→Nat}{call:aR}(hcall:dc P call){cfg:Cfg}{N:Nat}(hle:N≤ops.size){fr fr1:List V}{h h1:Heap}{x:List Nat}{ld:List Nat}
  (hr:dw P md call cfg h.length ops (ops.toList.take N) fr h [] []=some (fr1,h1,x,ld)) (hx:ny ld x=true):
  ∃ F H v,F 0=fr∧H 0=h∧F N=fr1∧H N=h1∧Tr P md call cfg ops N x F H v:=by
 obtain⟨F,H,X,D,v,e1,e2,e3,e4,e5,e6,e7,e8,hst⟩:=pA _ _ _ _ _ hr
 have hlen:(ops.toList.take N).length=N:=by simp;omega
 rw[hlen]at e5 e6 e7 e8
 have hget:∀ i o,i<N→ops[i]?=some o→(ops.toList.take N)[i]?=some o:=fun i o hi ho=>by rw[List.getElem?_take,if_pos hi];simpa using ho
 have info:=fun i o (hi:i<N) (ho:ops[i]?=some o)=>Aa hN hcall (hst i o (hget i o hi ho)).1
 -- x and ld only grow
 have hXup:∀ i,i≤N→∀ b∈X i,b∈x:=by
  intro i hi b hb
  rw[← e7]
  exact DH (p:=fun j=>b∈X j) (N:=N) (fun j hj hjb=>(info j ops[j] hj (Array.getElem?_eq_getElem (by omega))).1 b hjb) hb N hi (Nat.le_refl _)
 have hDup:∀ i,i≤N→∀ b∈D i,b∈ld:=by
  intro i hi b hb
  rw[← e8]
  exact DH (p:=fun j=>b∈D j) (N:=N) (fun j hj hjb=>(info j ops[j] hj (Array.getElem?_eq_getElem (by omega))).2.2.1 b hjb) hb N hi (Nat.le_refl _)
 have hld:∀ b∈x,¬ b∈ld:=by
  intro b hb
  have h1:=List.all_eq_true.1 hx b hb
  simpa using h1
 refine⟨F,H,v,e1,e2,e5,e6,fun b hb=>?_,fun i o hi ho=>?_⟩
 ·have key:∀ i,i≤N→∀ b∈X i,cfg.wr b=true:=by
   intro i
   induction i with
   | zero=>intro _ b hb;rw[e3]at hb;cases hb
   | succ i ih =>
    intro hi b hb
    rcases (info i ops[i] (by omega) (Array.getElem?_eq_getElem (by omega))).2.1 b hb with h1|h1
    ·exact ih (by omega) b h1
    ·exact h1
  exact key N (Nat.le_refl _) b (by rw[e7];exact hb)
 ·rw[e2]
  exact⟨(hst i o (hget i o hi ho)).2,(info i o hi ho).2.2.2 x (fun b hb=>hXup (i+1) (by omega) b hb) fun b hb hmem=>hld b hb (hDup (i+1) (by omega) b hmem)⟩
end
end Go.Ab
namespace Go.Ab
theorem Bel.mono{s t:Nat}(hst:s≤t){v:V}(h:Bel s v):Bel t v:=by
 induction h with
 | rf h=>exact .rf h
 | ptr h=>exact .ptr (by omega)
 | sl h=>exact .sl (by omega)
 | mref h=>exact .mref (by omega)
 | func _ _ ih ih'=>exact .func ih ih'
 | agg _ ih=>exact .agg ih
 | tup _ ih=>exact .tup ih
 | iface _ ih=>exact .iface ih
section
variable {P:Program}{md:FuncId→Nat}{call:aR}{cfg:Cfg}{ops:Array Oper}{N:Nat}{x:List Nat}{F:Nat→List V}{H:Nat→Heap}{v:Nat→V}
theorem Tr.len1(tr:Tr P md call cfg ops N x F H v)(hle:N≤ops.size){i:Nat}(hi:i<N):(H i).length≤(H (i+1)).length:=by
 obtain⟨_,hk⟩:=tr.step i ops[i] hi (Array.getElem?_eq_getElem (by omega))
 rcases hk with⟨_,_,h⟩|⟨_,_,h1,h2,_⟩|⟨_,_,h,_⟩
 ·rw[h];exact Nat.le_refl _
 ·rcases jZ h1 h2 with h|⟨n,h⟩<;>rw[h]<;>simp
 ·omega
theorem Tr.len(tr:Tr P md call cfg ops N x F H v)(hle:N≤ops.size){i j:Nat}(hij:i≤j)(hj:j≤N):(H i).length≤(H j).length:=
 DH (p:=fun j=>(H i).length≤(H j).length) (N:=N) (fun _ hk h=>Nat.le_trans h (tr.len1 hle hk)) (Nat.le_refl _) j hij hj
theorem Tr.hs(hN:di P)(hcall:dc P call)(tr:Tr P md call cfg ops N x F H v)(hle:N≤ops.size){i:Nat}(hi:i<N):
  (∀ b,b<(H i).length→¬ b∈x→(H (i+1))[b]?=(H i)[b]?)∧(aY ops[i]=false→∀ b,b<(H i).length→(H (i+1))[b]?=(H i)[b]?)∧(∀ (D:Nat→Prop) (t:Nat),t≤(H i).length→Inv D (H i) t→Inv D (H (i+1)) t):=by
 obtain⟨_,hk⟩:=tr.step i ops[i] hi (Array.getElem?_eq_getElem (by omega))
 rcases hk with⟨_,_,h⟩|⟨_,hic,h1,h2,_⟩|⟨_,hic,_,c,hthr,hev,hwr,_⟩
 ·rw[h];exact⟨fun _ _ _=>rfl,fun _ _ _=>rfl,fun _ _ _ h=>h⟩
 ·have key:∀ b,b<(H i).length→(H (i+1))[b]?=(H i)[b]?:=by
   intro b hb
   rcases jZ h1 h2 with h|⟨n,h⟩
   ·rw[h]
   ·rw[h,List.getElem?_append_left hb]
  refine⟨fun b hb _=>key b hb,fun _ b hb=>key b hb,fun D t ht hinv b cs hb hD hc c hcc=>?_⟩
  rw[key b (by omega)]at hc
  exact hinv b cs hb hD hc c hcc
 ·obtain⟨_,hhs⟩:=lD hN hcall hev
  refine⟨fun b hb hx=>hhs.prot b hb (hwr b hb hx),(fun h=>by rw[hic]at h;cases h),fun D t ht hinv=>hhs.inv D t (by rw[hthr];exact ht) ht hinv⟩
theorem Tr.same(hN:di P)(hcall:dc P call)(tr:Tr P md call cfg ops N x F H v)(hle:N≤ops.size){i j b:Nat}(hij:i≤j)(hj:j≤N)(hb:b<(H i).length)(hx:¬ b∈x):(H j)[b]?=(H i)[b]?:=by
 have:=DH (p:=fun j=>b<(H j).length∧(H j)[b]?=(H i)[b]?) (N:=N) (fun k hk h=>⟨Nat.lt_of_lt_of_le h.1 (tr.len1 hle hk),((tr.hs hN hcall hle hk).1 b h.1 hx).trans h.2⟩) ⟨hb,rfl⟩ j hij hj
 exact this.2
theorem Tr.xsame(hN:di P)(hcall:dc P call)(tr:Tr P md call cfg ops N x F H v)(hle:N≤ops.size){i j b:Nat}(hij:i≤j)(hj:j≤N)(hb:b<(H i).length)(hnc:∀ k (hk:k<ops.size),i≤k→k<j→aY ops[k]=false):(H j)[b]?=(H i)[b]?:=by
 have:=DH (p:=fun q=>b<(H q).length∧(H q)[b]?=(H i)[b]?∧i≤q) (N:=j) (fun k hk h=>⟨Nat.lt_of_lt_of_le h.1 (tr.len1 hle (by omega)),((tr.hs hN hcall hle (by omega)).2.1 (hnc k (by omega) h.2.2 hk) b h.1).trans h.2.1,by omega⟩) ⟨hb,rfl,Nat.le_refl _⟩ j hij (Nat.le_refl _)
 exact this.2.1
def eR(h:Heap)(src:Nat→Option (List V)):List Nat→Heap
 | []=>h
 | b::r=>(eR h src r).set b (src b)
theorem dD(h:Heap)(src:Nat→Option (List V)):∀ x,(eR h src x).length=h.length
 | []=>rfl
 | b::r=>by rw[eR,List.length_set,dD h src r]
theorem ga{h:Heap}{src:Nat→Option (List V)}{b:Nat}:∀ {x:List Nat},¬ b∈x→(eR h src x)[b]?=h[b]?
 | [],_=>rfl
 | c::r,hb=>by
  rw[eR,List.getElem?_set_ne (fun e=>hb (by rw[e];exact List.mem_cons_self)),ga fun h=>hb (List.mem_cons_of_mem _ h)]
theorem fJ{h:Heap}{src:Nat→Option (List V)}{b:Nat}(h1:b<h.length):∀ {x:List Nat},b∈x→(eR h src x)[b]?=some (src b)
 | c::r,hb=>by
  rw[eR]
  by_cases hcb:c=b
  ·subst hcb
   rw[List.getElem?_set_self (by rw[dD];exact h1)]
  ·rw[List.getElem?_set_ne hcb]
   rcases List.mem_cons.1 hb with h|h
   ·exact absurd h.symm hcb
   ·exact fJ h1 h
theorem bI{h:Heap}{b:Nat}{o:Option (List V)}(hb:h[b]?=some o):h.set b o=h:=by
 apply List.ext_getElem?
 intro c
 by_cases hcb:b=c
 ·subst hcb
  rw[List.getElem?_set_self (List.getElem?_eq_some_iff.1 hb).1,hb]
 ·rw[List.getElem?_set_ne hcb]
theorem pT{cfg:Cfg}{fr:List V}{h h':Heap}{src:Nat→Option (List V)}{op:Op}{v:V}(hop:eG P op=true)(hv:opV P cfg fr h op=some (v,h'))(hle:h.length≤h'.length):∀ {x:List Nat},(∀ b∈x,er fr op≠some b)→(∀ b∈x,h.length≤b→b<h'.length→h'[b]?=some (src b)) →
  opV P cfg fr (eR h src x) op=some (v,eR h' src x)
 | [],_,_=>hv
 | b::r,hr,hx=>by
  have ih:=pT (src:=src) hop hv hle (x:=r) (fun c hc=>hr c (List.mem_cons_of_mem _ hc)) fun c hc=>hx c (List.mem_cons_of_mem _ hc)
  by_cases hb:b<h.length
  ·exact Fs _ hop (hr b List.mem_cons_self) (by rw[dD];exact hb) ih
  ·rw[eR,eR,List.set_eq_of_length_le (by rw[dD];omega)]
   by_cases hb':b<h'.length
   ·rw[bI]
    ·exact ih
    ·by_cases hbr:b∈r
     ·exact fJ hb' hbr
     ·rw[ga hbr]
      exact hx b List.mem_cons_self (by omega) hb'
   ·rw[List.set_eq_of_length_le (by rw[dD];omega)]
    exact ih
def bi(H:Nat→Heap)(b:Nat):Nat→Nat
 | 0=>0
 | n+1=>if b<(H (bi H b n)).length then bi H b n else n+1
theorem kS(H:Nat→Heap)(b:Nat):∀ n,(∀ j,j<bi H b n→¬ b<(H j).length)∧bi H b n≤n∧∀ j,j≤n→b<(H j).length→b<(H (bi H b n)).length
 | 0=>⟨fun j hj=>by simp[bi]at hj,Nat.le_refl _,fun j hj h=>by
   obtain rfl:j=0:=by omega
   exact h⟩
 | n+1=>by
  obtain⟨h1,h2,h3⟩:=kS H b n
  unfold bi
  split
  ·rename_i hb
   exact⟨h1,by omega,fun _ _ _=>hb⟩
  ·rename_i hb
   refine⟨fun j hj hbj=>hb (h3 j (by omega) hbj),Nat.le_refl _,fun j hj hbj=>?_⟩
   by_cases hjn:j=n+1
   ·rw[← hjn];exact hbj
   ·exact absurd (h3 j (by omega) hbj) hb
theorem tH{H:Nat→Heap}{b N i:Nat}(hb:b<(H i).length):bi H b N≤i:=by
 rcases Nat.lt_or_ge i (bi H b N) with h|h
 ·exact absurd hb ((kS H b N).1 i h)
 ·exact h
theorem qY{H:Nat→Heap}{b N i:Nat}(hi:i≤N)(hb:b<(H i).length):b<(H (bi H b N)).length:=(kS H b N).2.2 i hi hb
theorem bi_at{H:Nat→Heap}{b N a:Nat}(hm:∀ j,j≤a→(H j).length≤(H a).length)(ha:a+1≤N)(h1:(H a).length≤b)(h2:b<(H (a+1)).length):bi H b N=a+1:=by
 have h3:=tH (N:=N) h2
 have h4:=qY ha h2
 rcases Nat.lt_or_ge (bi H b N) (a+1) with h|h
 ·have:=hm (bi H b N) (by omega);omega
 ·omega
def src(H:Nat→Heap)(N k b:Nat):Option (List V):=(H (max k (bi H b N))).getD b none
def G(H:Nat→Heap)(N:Nat)(x:List Nat)(k:Nat):Heap:=eR (H N) (src H N k) x
theorem kP(k:Nat):(G H N x k).length=(H N).length:=dD _ _ _
theorem ie{k b:Nat}(hx:¬ b∈x):(G H N x k)[b]?=(H N)[b]?:=ga hx
theorem xJ(tr:Tr P md call cfg ops N x F H v)(hle:N≤ops.size){k b i:Nat}(hk:k≤N)(hi:i≤N)(hb:b<(H i).length):(H (max k (bi H b N)))[b]?=some (src H N k b):=by
 have h1:=qY hi hb
 have h2:=(kS H b N).2.1
 have h3:b<(H (max k (bi H b N))).length:=Nat.lt_of_lt_of_le h1 (tr.len hle (by omega) (by omega))
 unfold src
 rw[List.getD_eq_getElem?_getD,List.getElem?_eq_getElem h3]
 rfl
theorem G_x(tr:Tr P md call cfg ops N x F H v)(hle:N≤ops.size){k b:Nat}(hk:k≤N)(hx:b∈x)(h1:b<(H N).length):(G H N x k)[b]?=(H (max k (bi H b N)))[b]?:=by
 unfold G
 rw[fJ h1 hx,xJ tr hle hk (Nat.le_refl _) h1]
def Hx(H:Nat→Heap)(N:Nat)(x:List Nat)(k i:Nat):Heap:=eR (H i) (src H N k) x
theorem ou(hN:di P)(hcall:dc P call)(tr:Tr P md call cfg ops N x F H v)(hle:N≤ops.size){i k:Nat}(hi:i≤N):(G H N x k).take (H i).length=Hx H N x k i:=by
 have hl:=tr.len hle hi (Nat.le_refl _)
 apply List.ext_getElem?
 intro b
 rw[List.getElem?_take]
 split
 ·rename_i hb
  by_cases hx:b∈x
  ·unfold G Hx
   rw[fJ (by omega) hx,fJ hb hx]
  ·rw[ie hx,tr.same hN hcall hle hi (Nat.le_refl _) hb hx]
   unfold Hx
   rw[ga hx]
 ·rename_i hb
  unfold Hx
  rw[List.getElem?_eq_none (by rw[dD];omega)]
theorem nI(tr:Tr P md call cfg ops N x F H v)(hle:N≤ops.size){i k:Nat}(hi:i≤N)(hk:k≤N)(hsame:∀ b∈x,b<(H i).length→(H i)[b]?=(H (max k (bi H b N)))[b]?):Hx H N x k i=H i:=by
 unfold Hx
 apply List.ext_getElem?
 intro c
 by_cases hcx:c∈x
 ·by_cases hc:c<(H i).length
  ·rw[fJ hc hcx,hsame c hcx hc,xJ tr hle hk hi hc]
  ·rw[List.getElem?_eq_none (by rw[dD];omega),List.getElem?_eq_none (by omega)]
 ·rw[ga hcx]
structure JH(ops:Array Oper)(N:Nat)(x:List Nat)(F:Nat→List V)(H:Nat→Heap)(v:Nat→V)(m0:Mu)(w0:World)(S:Nat→Bool)(a:Act)(w:World)(m:Mu)(k:Nat):Prop where
 kle:k≤N
 kcall:∀ i (hi:i<ops.size),i<N→aY ops[i]=true→(S i=true↔i<k)
 tail:∀ i,N≤i→S i=false
 born:∀ b∈x,∀ c,c<N→(H c).length≤b→b<(H (c+1)).length→S c=false→(H (max k (c+1)))[b]?=(H (c+1))[b]?
 evo:Evo m0 (H 0) w0 m (G H N x k) w
 rel:Rel m (G H N x k) w
 fR:FR m (G H N x k) w (frS ops v S (F 0) N) a
 dom:∀ b c,live (G H N x k) b→m b=some c→b<(H 0).length∨∃ i,S i=true∧i<N∧(H i).length≤b∧b<(H (i+1)).length
 bel:∀ b c cs,(G H N x k)[b]?=some (some cs)→m b=some c→∀ j,j≤N→b<(H j).length→∀ e∈cs,Bel (H j).length e
 vb:∀ i,S i=true→i<N→Bel (H (i+1)).length (v i)
theorem F4(tr:Tr P md call cfg ops N x F H v)(hle:N≤ops.size){i:Nat}(hi:i≤N):F i=frS ops v (fun _=>true) (F 0) i:=by
 induction i with
 | zero=>rfl
 | succ i ih =>
  have ho:ops[i]?=some ops[i]:=Array.getElem?_eq_getElem (by omega)
  rw[(tr.step i ops[i] (by omega) ho).1,ih (by omega)]
  simp[frS,ho]
theorem ze(st:Static P ops N)(tr:Tr P md call cfg ops N x F H v){S:Nat→Bool}(hcl:Closed ops S){i:Nat}{o:Oper}(hi:i<N)(ho:ops[i]?=some o)(hS:S i=false)(hr:Ready S o){s:Nat}(hs:s∈o.looksAt ops):
  (frS ops v S (F 0) N)[s]?=(F i)[s]?:=by
 rw[F4 tr st.le (by omega:i≤N),← zS (ops:=ops) (v:=v) (fr:=F 0) N (by omega:i≤N)]
 refine BV N fun j oj hj hoj=>?_
 by_cases hji:j<i
 ·simp only[hji,decide_true]
  by_cases hSj:S j=true
  ·exact .inl hSj
  ·right
   rcases st.head j i oj o hji hi hoj ho with h|⟨h,_⟩
   ·exact absurd (cZ st.back hcl i o ho hr h) hSj
   ·exact fun hd=>(Oper.apart_spec h).1 s hd hs
 ·simp only[hji,decide_false]
  by_cases hSj:S j=true
  ·right
   have hji':i<j:=by
    rcases Nat.lt_or_ge i j with h|h
    ·exact h
    ·have:i=j:=by omega
     subst this
     rw[hS]at hSj;cases hSj
   rcases st.head i j o oj hji' hj ho hoj with h|⟨h,_⟩
   ·have:=cZ st.back hcl j oj hoj (hcl j oj hoj hSj) h
    rw[hS]at this;cases this
   ·exact fun hd=>(Oper.apart_spec h).2.2 s hd hs
  ·exact .inl (by simpa using hSj)
theorem uQ(st:Static P ops N){S:Nat→Bool}(hcl:Closed ops S){i:Nat}{o:Oper}(ho:ops[i]?=some o)(hS:S i=false):
  ∀ j oj,i<j→j<N→ops[j]?=some oj→S j=true→∀ s,o.dst=some s→oj.dst≠some s:=by
 intro j oj hij hj hoj hSj s hs
 rcases st.head i j o oj hij hj ho hoj with h|⟨h,_⟩
 ·have:=cZ st.back hcl j oj hoj (hcl j oj hoj hSj) h
  rw[hS]at this;cases this
 ·exact (Oper.apart_spec h).2.1 s hs
theorem vI(tr:Tr P md call cfg ops N x F H v)(hle:N≤ops.size){s:Nat}(h0:∀ c,(F 0)[s]?=some c→Bel (H 0).length c):∀ (i:Nat),i≤N→(∀ j o,j<i→ops[j]?=some o→o.dst=some s→Bel (H (j+1)).length (v j)) →
  ∀ c,(F i)[s]?=some c→Bel (H i).length c:=by
 intro i
 induction i with
 | zero=>intro _ _ c hc;exact h0 c hc
 | succ i ih =>
  intro hi hw c hc
  have ho:ops[i]?=some ops[i]:=Array.getElem?_eq_getElem (by omega)
  rw[(tr.step i ops[i] (by omega) ho).1]at hc
  by_cases hd:ops[i].dst=some s
  ·rw[hd]at hc
   simp only[put]at hc
   by_cases hlt:s<(F i).length
   ·rw[List.getElem?_set_self hlt]at hc
    cases hc
    exact hw i ops[i] (by omega) ho hd
   ·rw[List.set_eq_of_length_le (by omega),List.getElem?_eq_none (by omega)]at hc
    cases hc
  ·rw[yZ hd]at hc
   exact (ih (by omega) (fun j o hj=>hw j o (by omega)) c hc).mono (tr.len1 hle (by omega))
end
end Go.Ab
namespace Go.Ab
section
variable {P:Program}{md:FuncId→Nat}{call:aR}{cfg:Cfg}{ops:Array Oper}{N:Nat}{x:List Nat}{F:Nat→List V}{H:Nat→Heap}{v:Nat→V}{m0:Mu}{w0:World}
theorem ig(S:Nat→Bool)(i:Nat):bO S i i=true:=by simp[bO]
theorem ow{S:Nat→Bool}{i j:Nat}(h:S j=true):bO S i j=true:=by simp only[bO];split<;>simp_all
theorem dR{S:Nat→Bool}{i j:Nat}(h:j≠i):bO S i j=S j:=by simp[bO,h]
theorem oL(st:Static P ops N){S:Nat→Bool}{k:Nat}(hk:∀ i (hi:i<ops.size),i<N→aY ops[i]=true→(S i=true↔i<k))(hcl:Closed ops S){i:Nat}{o:Oper}(hi:i<N)(ho:ops[i]?=some o)(hS:S i=false)(hr:Ready S o)(hc:aY o=true):
  k≤i∧(∀ j (hj:j<ops.size),k≤j→j<i→aY ops[j]=false)∧∀ j (hj:j<ops.size),j<N→aY ops[j]=true→(bO S i j=true↔j<i+1):=by
 have hio:i<ops.size:=(Array.getElem?_eq_some_iff.1 ho).1
 have hoe:ops[i]=o:=(Array.getElem?_eq_some_iff.1 ho).2
 have hki:k≤i:=by
  rcases Nat.lt_or_ge i k with h|h
  ·have:=(hk i hio hi (by rw[hoe];exact hc)).2 h
   rw[hS]at this;cases this
  ·exact h
 have hlow:∀ j (hj:j<ops.size),j<i→aY ops[j]=true→S j=true:=by
  intro j hj hji hcj
  rcases st.head j i ops[j] o hji hi (Array.getElem?_eq_getElem hj) ho with h|⟨_,h⟩
  ·exact cZ st.back hcl i o ho hr h
  ·exact absurd ⟨hcj,hc⟩ h
 refine⟨hki,fun j hj hkj hji=>?_,fun j hj hjN hcj=>?_⟩
 ·cases hcj:aY ops[j]with
  | false=>rfl
  | true =>
   have h1:=(hk j hj (by omega) hcj).1 (hlow j hj hji hcj)
   omega
 ·by_cases hji:j=i
  ·subst hji;simp[ig]
  ·rw[dR hji]
   constructor
   ·intro hSj
    rcases Nat.lt_or_ge j i with h|h
    ·omega
    ·exfalso
     have hij:i<j:=by omega
     rcases st.head i j o ops[j] hij hjN ho (Array.getElem?_eq_getElem hj) with h2|⟨_,h2⟩
     ·have:=cZ st.back hcl j _ (Array.getElem?_eq_getElem hj) (hcl j _ (Array.getElem?_eq_getElem hj) hSj) h2
      rw[hS]at this;cases this
     ·exact h2 ⟨hc,hcj⟩
   ·intro hlt
    exact hlow j hj (by omega) hcj
theorem kk{S:Nat→Bool}{k:Nat}(hk:∀ i (hi:i<ops.size),i<N→aY ops[i]=true→(S i=true↔i<k)){i:Nat}{o:Oper}(ho:ops[i]?=some o)(hc:aY o=false):
  ∀ j (hj:j<ops.size),j<N→aY ops[j]=true→(bO S i j=true↔j<k):=by
 intro j hj hjN hcj
 have hji:j≠i:=by
  rintro rfl
  have hoe:ops[j]=o:=(Array.getElem?_eq_some_iff.1 ho).2
  rw[hoe,hc]at hcj;cases hcj
 rw[dR hji]
 exact hk j hj hjN hcj
theorem wT(st:Static P ops N)(_hN:di P)(_hcall:dc P call)(tr:Tr P md call cfg ops N x F H v){S:Nat→Bool}{a:Act}{w:World}{m:Mu}{k:Nat}(J:JH ops N x F H v m0 w0 S a w m k)(hcl:Closed ops S)
  {i:Nat} {o:Oper} (hi:i<N) (ho:ops[i]?=some o) (hS:S i=false) {k':Nat} (hk':k'≤N) (hkk:k'=k∨k≤i∧k'=i+1) (hborn:∀ b∈x,∀ c,c<N→(H c).length≤b→b<(H (c+1)).length→bO S i c=false→(H (max k' (c+1)))[b]?=(H (c+1))[b]?) (hkc:∀ j (hj:j<ops.size),j<N→aY ops[j]=true→(bO S i j=true↔j<k'))
  {m':Mu} {w':World} {u:Value} (e:Evo (m.cut (G H N x k) (H i).length) ((G H N x k).take (H i).length) w m' ((G H N x k').take (H (i+1)).length) w') (r':Rel m' ((G H N x k').take (H (i+1)).length) w')
  (hru:R m' ((G H N x k').take (H (i+1)).length) w' (v i) u)
  (hbx:∀ b c cs,b<(H i).length→b∈x→(G H N x k')[b]?=some (some cs)→m' b=some c→∀ j,j≤N→b<(H j).length→∀ e∈cs,Bel (H j).length e):
  JH ops N x F H v m0 w0 (bO S i) (a.put o.dst u) w' (m.glue m' (H (i+1)).length) k':=by
 have hle:=st.le
 have hnn:=tr.len1 hle hi
 have hn0:=tr.len hle (Nat.zero_le i) (by omega:i≤N)
 have hn'N:=tr.len hle (by omega:i+1≤N) (Nat.le_refl N)
 have hgl:∀ q,(G H N x q).length=(H N).length:=kP
 have hsame:∀ b,(H i).length≤b→(G H N x k')[b]?=(G H N x k)[b]?:=by
  intro b hb
  rcases hkk with h|⟨h1,h2⟩
  ·rw[h]
  ·by_cases hbx:b∈x
   ·by_cases hbN:b<(H N).length
    ·have hbi:i<bi H b N:=by
      rcases Nat.lt_or_ge i (bi H b N) with h|h
      ·exact h
      ·have h3:=qY (Nat.le_refl _) hbN
       have h4:=tr.len hle h (by omega:i≤N)
       omega
     rw[G_x tr hle hk' hbx hbN,G_x tr hle J.kle hbx hbN,h2,show max (i+1) (bi H b N)=max k (bi H b N) by omega]
    ·rw[List.getElem?_eq_none (by rw[hgl];omega),List.getElem?_eq_none (by rw[hgl];omega)]
   ·rw[ie hbx,ie hbx]
 have hsame':∀ b,(H (i+1)).length≤b→(G H N x k')[b]?=(G H N x k)[b]?:=fun b hb=>hsame b (by omega)
 have hnew:∀ b,(H i).length≤b→b<(H (i+1)).length→live (G H N x k') b→live (G H N x k) b∧m b=none:=by
  intro b h1 h2 hl
  have hlk:live (G H N x k) b:=by
   obtain⟨cs,hc⟩:=hl
   exact⟨cs,by rw[← hsame b h1];exact hc⟩
  refine⟨hlk,?_⟩
  cases hm:m b with
  | none=>rfl
  | some c =>
   exfalso
   rcases J.dom b c hlk hm with h|⟨j,hSj,hjN,hj1,hj2⟩
   ·omega
   ·rcases Nat.lt_trichotomy j i with h|h|h
    ·have:=tr.len hle (by omega:j+1≤i) (by omega);omega
    ·subst h;rw[hS]at hSj;cases hSj
    ·have:=tr.len hle (by omega:i+1≤j) (by omega);omega
 have hzz:=e.zeq
 have ew:=tW (n:=(H i).length) (n':=(H (i+1)).length) J.rel (by rw[hgl];omega) hnn (by rw[hgl,hgl]) hsame' hnew e
 have rg:=C5 (n:=(H i).length) (n':=(H (i+1)).length) J.rel (by rw[hgl];omega) hnn (by rw[hgl,hgl]) (by rw[hgl];omega) hsame' hnew e r'
 have rglue:∀ {y:V} {z:Value},R m' ((G H N x k').take (H (i+1)).length) w' y z→R (m.glue m' (H (i+1)).length) (G H N x k') w' y z:=fun h=>h.glue (n:=(H i).length) hzz hnn hsame' (by rw[hgl];omega)
 have htk:((G H N x k').take (H (i+1)).length).length=(H (i+1)).length:=by rw[List.length_take,hgl];omega
 have htk0:((G H N x k).take (H i).length).length=(H i).length:=by rw[List.length_take,hgl];omega
 have hkeep:∀ b c,b<(H i).length→live (G H N x k') b→m' b=some c→live (G H N x k) b∧m b=some c:=by
  intro b c hb hl hm
  obtain⟨h1,h2⟩:=e.keep b (by rw[htk0];exact hb) ((cO (by omega)).2 hl)
  refine⟨(aV h1).2,?_⟩
  rw[h2]at hm
  simpa[Mu.cut,hb]using hm
 refine⟨hk',hkc,fun j hj=>?_,hborn,?_,rg,?_,fun b c hl hm=>?_,fun b c cs hc hm j hj hbj f hf=>?_,fun j hSj hj=>?_⟩
 ·rw[dR (by omega)];exact J.tail j hj
 ·have E:=J.evo
  refine⟨E.zeq,by rw[hgl];have:=E.len;rw[hgl]at this;exact this,fun b hb hl=>?_,fun b c hl hb=>?_,fun b hb hno=>?_,Nat.le_trans E.size e.size,fun b hb=>Nat.le_trans (E.rs b hb) (e.rs b (Nat.lt_of_lt_of_le hb E.size)),e.os.trans E.os,e.tape.trans E.tape,e.output.trans E.output⟩
  ·obtain⟨h1,h2⟩:=e.keep b (by rw[htk0];omega) ((cO (by omega)).2 hl)
   obtain⟨h3,h4⟩:=E.keep b hb (aV h1).2
   refine⟨h3,?_⟩
   simp only[Mu.glue,show b<(H (i+1)).length by omega,if_true,h2]
   simpa[Mu.cut,show b<(H i).length by omega]using h4
  ·rcases ew.own b c hl hb with⟨y,hy,hyb⟩|hge
   ·exact E.own y c hy hyb
   ·exact .inr (Nat.le_trans E.size hge)
  ·refine (ew.frame b (Nat.lt_of_lt_of_le hb E.size) fun y hy hyb=>?_).trans (E.frame b hb hno)
   rcases E.own y b hy hyb with⟨z,hz,hzb⟩|hge
   ·exact hno z hz hzb
   ·omega
 ·rw[yp ho hS N hi (uQ st hcl ho hS)]
  have f1:FR (m.glue m' (H (i+1)).length) (G H N x k') w' (frS ops v S (F 0) N) a:=⟨J.fR.len,fun s y z hy hz=>(J.fR.slot s y z hy hz).evw ew J.rel.lt,J.fR.defers⟩
  exact f1.put (rglue hru) o.dst
 ·by_cases hb1:b<(H i).length
  ·simp only[Mu.glue,show b<(H (i+1)).length by omega,if_true]at hm
   obtain⟨h1,h2⟩:=hkeep b c hb1 hl hm
   rcases J.dom b c h1 h2 with h|⟨j,hSj,hjN,hj1,hj2⟩
   ·exact .inl h
   ·exact .inr ⟨j,ow hSj,hjN,hj1,hj2⟩
  ·by_cases hb2:b<(H (i+1)).length
   ·exact .inr ⟨i,ig S i,hi,by omega,hb2⟩
   ·simp only[Mu.glue,hb2,if_false]at hm
    obtain⟨cs,hc⟩:=hl
    rw[hsame' b (by omega)]at hc
    rcases J.dom b c ⟨cs,hc⟩ hm with h|⟨j,hSj,hjN,hj1,hj2⟩
    ·exact .inl h
    ·exact .inr ⟨j,ow hSj,hjN,hj1,hj2⟩
 ·by_cases hb1:b<(H i).length
  ·simp only[Mu.glue,show b<(H (i+1)).length by omega,if_true]at hm
   by_cases hx:b∈x
   ·exact hbx b c cs hb1 hx hc hm j hj hbj f hf
   ·obtain⟨h1,h2⟩:=hkeep b c hb1 ⟨cs,hc⟩ hm
    rw[ie hx,← ie (k:=k) hx]at hc
    exact J.bel b c cs hc h2 j hj hbj f hf
  ·by_cases hb2:b<(H (i+1)).length
   ·simp only[Mu.glue,hb2,if_true]at hm
    have hbl:=(r'.blk b cs c (by rw[List.getElem?_take,if_pos hb2];exact hc) hm).bel hf
    rw[htk]at hbl
    have hij:i+1≤j:=by
     rcases Nat.lt_or_ge i j with h|h
     ·omega
     ·have:=tr.len hle h (by omega);omega
    exact hbl.mono (tr.len hle hij hj)
   ·simp only[Mu.glue,hb2,if_false]at hm
    rw[hsame' b (by omega)]at hc
    exact J.bel b c cs hc hm j hj hbj f hf
 ·by_cases hji:j=i
  ·subst hji
   have:=hru.bel
   rwa [htk]at this
  ·rw[dR hji]at hSj
   exact J.vb j hSj hj
end
end Go.Ab
namespace Go.Ab
def eO(looks:List Nat)(fr:List V):List V:=fr.mapIdx fun s c=>if looks.contains s then c else .any
theorem jY(looks:List Nat)(fr:List V):(eO looks fr).length=fr.length:=by simp[eO]
theorem jC{looks:List Nat}{fr:List V}{s:Nat}(hs:s∈looks):(eO looks fr)[s]?=fr[s]?:=by
 simp only[eO,List.getElem?_mapIdx]
 cases fr[s]?<;>simp[hs]
theorem pR{looks:List Nat}{fr:List V}{s:Nat}(hs:¬ s∈looks){c:V}(hc:(eO looks fr)[s]?=some c):c=.any:=by
 simp only[eO,List.getElem?_mapIdx]at hc
 cases h:fr[s]? with
 | none=>simp[h]at hc
 | some d=>simp[h,hs]at hc;exact hc.symm
theorem nu{ops:Array Oper}{o:Oper}{fr fr':List V}(h:∀ s∈o.looksAt ops,fr[s]?=fr'[s]?):cY ops fr o=cY ops fr' o:=by
 unfold cY
 cases hg:o.guard with
 | none=>rfl
 | some g =>
  obtain⟨j,want⟩:=g
  simp only
  cases hp:ops[j]? with
  | none=>rfl
  | some p =>
   simp only
   cases hd:p.dst with
   | none=>rfl
   | some d =>
    simp only
    rw[h d (by simp[Oper.looksAt,hg,hp,hd])]
theorem oZ{ops:Array Oper}{o:Oper}{fr fr':List V}(h:∀ s∈o.looksAt ops,fr[s]?=fr'[s]?):∀ p∈o.op.operands.toList,ev fr p=ev fr' p:=by
 intro p hp
 cases p with
 | tmp t =>
  simp only[ev]
  refine h t ?_
  simp only[Oper.looksAt,List.mem_append,List.mem_filterMap]
  exact .inl ⟨.tmp t,hp,rfl⟩
 | const v=>rfl
 | global g=>rfl
 | func f=>rfl
theorem gr{P:Program}{md:FuncId→Nat}{call:aR}{c:Cfg}{fr:List V}{h:Heap}{o:Oper}(hc:aY o=false):aF P md call c fr h o.op=opV P c fr h o.op:=by
 unfold aY at hc
 unfold aF
 split at hc
 ·cases hc
 ·cases hc
 ·rename_i hn _
  split
  ·rename_i f args tys hop;exact absurd hop (hn f args tys)
  ·rfl
theorem Ax{v:Value}{b off:Nat}:¬ jg v=some (.ptr b off):=by
 intro h
 unfold jg at h
 split at h
 ·rename_i cs
  cases hc:cs.toList.mapM gA<;>rw[hc]at h<;>simp at h
 ·split at h<;>cases h
 ·unfold gA at h
  split at h<;>cases h
section
variable {P:Program}{md:FuncId→Nat}{call:aR}{cfg:Cfg}{ops:Array Oper}{N:Nat}{x:List Nat}{F:Nat→List V}{H:Nat→Heap}{v:Nat→V}{m0:Mu}{w0:World}
theorem E4(st:Static P ops N)(hN:di P)(hcall:dc P call)(tr:Tr P md call cfg ops N x F H v)(hF0:∀ (s:Nat) (c:V),(F 0)[s]?=some c→Bel (H 0).length c){S:Nat→Bool}{a:Act}{w:World}{m:Mu}{k:Nat}
  (J:JH ops N x F H v m0 w0 S a w m k) (hcl:Closed ops S) {i:Nat} {o:Oper} (hi:i<N) (ho:ops[i]?=some o) (hS:S i=false) (hr:Ready S o) (Q:Exit→Act→World→Prop):
  wpOp P ops Q i (fun a' w'=>∃ m' k',JH ops N x F H v m0 w0 (bO S i) a' w' m' k') a w:=by
 have hle:=st.le
 have hio:i<ops.size:=(Array.getElem?_eq_some_iff.1 ho).1
 have hoe:ops[i]=o:=(Array.getElem?_eq_some_iff.1 ho).2
 have hslot:∀ s∈o.looksAt ops,(frS ops v S (F 0) N)[s]?=(F i)[s]?:=fun s hs=>ze st tr hcl hi ho hS hr hs
 have hgl:∀ q,(G H N x q).length=(H N).length:=kP
 have hiN:=tr.len hle (by omega:i≤N) (Nat.le_refl N)
 have hn0:=tr.len hle (Nat.zero_le i) (by omega:i≤N)
 obtain⟨hFs,hkind⟩:=tr.step i o hi ho
 have hwd:∀ b,cY ops (F i) o=some b→Region.wanted o (yielded ops a.tmps)=b:=fun b hb=>ib J.fR (by rw[nu hslot];exact hb)
 -- the slots that are looked at, cut to what was there
 have hbelslot:∀ s∈o.looksAt ops,∀ c,(F i)[s]?=some c→Bel (H i).length c:=by
  intro s hs
  refine vI tr hle (hF0 s) i (by omega) fun j oj hj hoj hd=>?_
  have hSj:S j=true:=by
   rcases st.head j i oj o hj hi hoj ho with h|⟨h,_⟩
   ·exact cZ st.back hcl i o ho hr h
   ·exact absurd hs ((Oper.apart_spec h).1 s hd)
  exact J.vb j hSj (by omega)
 have hrelcut:Rel (m.cut (G H N x k) (H i).length) ((G H N x k).take (H i).length) w:=J.rel.cut (by rw[hgl];exact hiN) fun b cs c hb hc hm e he=>J.bel b c cs hc hm i (by omega) hb e he
 have hfrcut:FR (m.cut (G H N x k) (H i).length) ((G H N x k).take (H i).length) w (eO (o.looksAt ops) (frS ops v S (F 0) N)) a:=by
  refine⟨by rw[jY];exact J.fR.len,fun s y z hy hz=>?_,J.fR.defers⟩
  by_cases hs:s∈o.looksAt ops
  ·rw[jC hs]at hy
   exact (J.fR.slot s y z hy hz).cut (by rw[hgl];exact hiN) (hbelslot s hs y (by rw[← hslot s hs];exact hy))
  ·rw[pR hs hy];exact .any _
 have hcong:∀ s∈o.looksAt ops,(F i)[s]?=(eO (o.looksAt ops) (frS ops v S (F 0) N))[s]?:=fun s hs=>by rw[jC hs,hslot s hs]
 -- calls in their one order
 -- a block of x, from where the calls below k have been carried out up to here
 have hxs:(∀ j (hj:j<ops.size),k≤j→j<i→aY ops[j]=false)→k≤i→∀ b,b<(H i).length→(H i)[b]?=(H (max k (bi H b N)))[b]?:=by
  intro hno hki b hb
  have h1:=tH (N:=N) hb
  have h2:=qY (N:=N) (by omega:i≤N) hb
  have h3:b<(H (max k (bi H b N))).length:=Nat.lt_of_lt_of_le h2 (tr.len hle (by omega) (by omega))
  exact tr.xsame hN hcall hle (by omega) (by omega) h3 fun q hq h4 h5=>hno q hq (by omega) h5
 have hbornk:∀ b∈x,∀ c,c<N→(H c).length≤b→b<(H (c+1)).length→bO S i c=false→(H (max k (c+1)))[b]?=(H (c+1))[b]?:=by
  intro b hb c hc h1 h2 h3
  refine J.born b hb c hc h1 h2 ?_
  by_cases hci:c=i
  ·rw[hci];exact hS
  ·rwa [dR hci]at h3
 -- and one call further, where it does not write a block that is to come
 have hborni:(∀ j (hj:j<ops.size),k≤j→j<i→aY ops[j]=false)→k≤i→(∀ b∈x,∀ c,c<i→(H c).length≤b→b<(H (c+1)).length→S c=false→(H (i+1))[b]?=(H i)[b]?) →
   ∀ b∈x,∀ c,c<N→(H c).length≤b→b<(H (c+1)).length→bO S i c=false→(H (max (i+1) (c+1)))[b]?=(H (c+1))[b]?:=by
  intro hno hki hw b hb c hc h1 h2 h3
  by_cases hci:c=i
  ·rw[hci,ig]at h3;cases h3
  ·rw[dR hci]at h3
   rcases Nat.lt_or_ge i c with h|h
   ·rw[show max (i+1) (c+1)=c+1 by omega]
   ·have h4:=J.born b hb c hc h1 h2 h3
    have h5:b<(H (max k (c+1))).length:=Nat.lt_of_lt_of_le h2 (tr.len hle (by omega) (by have:=J.kle;omega))
    rw[show max (i+1) (c+1)=i+1 by omega,hw b hb c (by omega) h1 h2 h3,← h4]
    exact tr.xsame hN hcall hle (by omega) (by omega) h5 fun q hq h6 h7=>hno q hq (by omega) h7
 unfold wpOp
 rw[ho]
 simp only
 rcases hkind with⟨hw,hv,hH⟩|⟨hw,hic,hh,hop,hrd⟩|⟨hw,hic,hlen,c,hthr,hev,hwr,hst⟩
 · -- it is not carried out
  rw[hwd false hw]
  simp only[Bool.false_eq_true,if_false]
  have fin:∀ k',k'≤N→(∀ b∈x,∀ c,c<N→(H c).length≤b→b<(H (c+1)).length→bO S i c=false→(H (max k' (c+1)))[b]?=(H (c+1))[b]?)→G H N x k'=G H N x k→(∀ j (hj:j<ops.size),j<N→aY ops[j]=true→(bO S i j=true↔j<k'))→JH ops N x F H v m0 w0 (bO S i) (a.put o.dst undef) w m k':=by
   intro k' hk' hb' hG hkc
   refine⟨hk',hkc,fun j hj=>?_,hb',by rw[hG];exact J.evo,by rw[hG];exact J.rel,?_,fun b c hl hm=>?_,fun b c cs hc=>?_,fun j hSj hj=>?_⟩
   ·rw[dR (by omega)];exact J.tail j hj
   ·rw[yp ho hS N hi (uQ st hcl ho hS),hv,hG]
    exact J.fR.put .no o.dst
   ·rw[hG]at hl
    rcases J.dom b c hl hm with h|⟨j,hSj,h⟩
    ·exact .inl h
    ·exact .inr ⟨j,ow hSj,h⟩
   ·rw[hG]at hc
    exact J.bel b c cs hc
   ·by_cases hji:j=i
    ·subst hji;rw[hv];exact .rf rfl
    ·rw[dR hji]at hSj;exact J.vb j hSj hj
  cases hic:aY o with
  | false=>exact⟨m,k,fin k J.kle hbornk rfl (kk J.kcall ho hic)⟩
  | true =>
   obtain⟨hki,hno,hkc⟩:=oL st J.kcall hcl hi ho hS hr hic
   refine⟨m,i+1,fin (i+1) (by omega) (hborni hno hki fun b _ c _ _ _ _=>by rw[hH]) ?_ hkc⟩
   refine List.ext_getElem? fun b=>?_
   by_cases hbx:b∈x
   ·by_cases hbN:b<(H N).length
    ·rw[G_x tr hle (by omega) hbx hbN,G_x tr hle J.kle hbx hbN]
     rcases Nat.lt_or_ge i (bi H b N) with h|h
     ·rw[show max (i+1) (bi H b N)=max k (bi H b N) by omega]
     ·have h1:=qY (Nat.le_refl _) hbN
      have h2:b<(H i).length:=Nat.lt_of_lt_of_le h1 (tr.len hle h (by omega))
      rw[show max (i+1) (bi H b N)=i+1 by omega,hH,hxs hno hki b h2]
    ·rw[List.getElem?_eq_none (by rw[hgl];omega),List.getElem?_eq_none (by rw[hgl];omega)]
   ·rw[ie hbx,ie hbx]
 · -- it reads, computes or makes memory
  rw[hwd true hw]
  simp only[if_true]
  have hgt:=ou (k:=k) hN hcall tr hle (by omega:i≤N)
  have hgt':=ou (k:=k) hN hcall tr hle (by omega:i+1≤N)
  have hop2:opV P cfg (F i) (Hx H N x k i) o.op=some (v i,Hx H N x k (i+1)):=by
   unfold Hx
   refine pT hh hop (tr.len1 hle hi) hrd fun b hb h1 h2=>?_
   have h3:=bi_at (N:=N) (fun j hj=>tr.len hle hj (by omega)) (by omega) h1 h2
   rw[← J.born b hb i hi h1 h2 hS,← h3]
   exact xJ tr hle J.kle (by omega) h2
  have hev:aF P md call cfg (eO (o.looksAt ops) (frS ops v S (F 0) N)) ((G H N x k).take (H i).length) o.op=some (v i,(G H N x k).take (H (i+1)).length):=by
   rw[← kJ (oZ hcong),gr hic,hgt,hgt']
   exact hop2
  refine .inl ((lD hN hcall hev).1 _ w a hrelcut hfrcut _ Q fun u w' ⟨m',e,r',hru⟩=>⟨_,k,wT st hN hcall tr J hcl hi ho hS J.kle (.inl rfl) hbornk (kk J.kcall ho hic) e r' hru ?_⟩)
  intro b cc cs hb hx hc hm j hj hbj f hf
  have htk0:((G H N x k).take (H i).length).length=(H i).length:=by rw[List.length_take,hgl];omega
  have hnn:=tr.len1 hle hi
  obtain⟨_,h2⟩:=e.keep b (by rw[htk0];exact hb) ((cO (by omega)).2 ⟨cs,hc⟩)
  rw[h2]at hm
  exact J.bel b cc cs hc (by simpa[Mu.cut,hb]using hm) j hj hbj f hf
 · -- it is a call
  rw[hwd true hw]
  simp only[if_true]
  obtain⟨hki,hno,hkc⟩:=oL st J.kcall hcl hi ho hS hr hic
  have hgt:=ou (k:=k) hN hcall tr hle (by omega:i≤N)
  rw[nI tr hle (by omega) J.kle fun b _ hb=>hxs hno hki b hb]at hgt
  have hgt':=ou (k:=i+1) hN hcall tr hle (by omega:i+1≤N)
  rw[nI tr hle (by omega) (by omega) fun b _ hb=>by rw[show max (i+1) (bi H b N)=i+1 by have:=tH (N:=N) hb;omega]]at hgt'
  have hev2:aF P md call c (eO (o.looksAt ops) (frS ops v S (F 0) N)) ((G H N x k).take (H i).length) o.op=some (v i,(G H N x (i+1)).take (H (i+1)).length):=by
   rw[← kJ (oZ hcong),hgt,hgt']
   exact hev
  -- it writes no block that is to come
  have hnw:∀ b∈x,∀ q,q<i→(H q).length≤b→b<(H (q+1)).length→S q=false→(H (i+1))[b]?=(H i)[b]?:=by
   intro b hbx q hq h1 h2 h3
   have hbi:b<(H i).length:=Nat.lt_of_lt_of_le h2 (tr.len hle (by omega) (by omega))
   cases hcw:c.wr b with
   | false=>exact (lD hN hcall hev).2.prot b hbi hcw
   | true =>
    exfalso
    have h0q:=tr.len hle (Nat.zero_le q) (by omega)
    obtain⟨t,p,y,off,cs,hop,hp,hcs⟩:=hst b (by omega) hbi hcw
    cases p with
    | tmp s =>
     have hp':(F i)[s]?=some (.ptr b off):=hp
     have hs:s∈o.looksAt ops:=by
      simp only[Oper.looksAt,List.mem_append,List.mem_filterMap]
      exact .inl ⟨.tmp s,by simp[hop,Op.operands],rfl⟩
     have hg:=hslot s hs
     rw[hp']at hg
     have hlt:s<a.tmps.size:=by rw[← J.fR.len];exact (List.getElem?_eq_some_iff.1 hg).1
     have hR:=J.fR.slot s _ _ hg (Array.getElem?_eq_getElem hlt)
     have hlive:live (G H N x k) b:=by
      have h5:((G H N x k).take (H i).length)[b]?=some (some cs):=by rw[hgt];exact aA hcs
      rw[List.getElem?_take,if_pos hbi]at h5
      exact⟨cs,h5⟩
     generalize a.tmps[s]=z at hR
     cases hR with
     | ptr hlt hv =>
      obtain⟨d,hd,_⟩:=hv hlive
      rcases J.dom b d hlive hd with h6|⟨q',hq1,hq2,hq3,hq4⟩
      ·omega
      ·have:q'=q:=by
        rcases Nat.lt_trichotomy q' q with h|h|h
        ·have:=tr.len hle (by omega:q'+1≤q) (by omega);omega
        ·exact h
        ·have:=tr.len hle (by omega:q+1≤q') (by omega);omega
       rw[this,h3]at hq1
       cases hq1
    | const v=>exact absurd hp (by simp only[ev];exact Ax)
    | global g=>simp[ev]at hp
    | func f=>simp[ev]at hp
  refine .inl ((lD hN hcall hev2).1 _ w a hrelcut hfrcut _ Q fun u w' ⟨m',e,r',hru⟩=>⟨_,i+1,wT st hN hcall tr J hcl hi ho hS (by omega) (.inr ⟨hki,rfl⟩) (hborni hno hki hnw) hkc e r' hru ?_⟩)
  intro b cc cs hb hx hc hm j hj hbj f hf
  have htk0:((G H N x k).take (H i).length).length=(H i).length:=by rw[List.length_take,hgl];omega
  have hbN:b<(H N).length:=by omega
  have hi1N:=tr.len hle (by omega:i+1≤N) (Nat.le_refl N)
  have hc2:(H (i+1))[b]?=some (some cs):=by
   rw[G_x tr hle (by omega) hx hbN,show max (i+1) (bi H b N)=i+1 by have:=tH (N:=N) hb;omega]at hc
   exact hc
  rcases Nat.lt_or_ge i j with hij|hij
  ·have htk:((G H N x (i+1)).take (H (i+1)).length).length=(H (i+1)).length:=by rw[List.length_take,hgl];omega
   have hbl:=(r'.blk b cs cc (by rw[List.getElem?_take,if_pos (by omega)];exact hc) hm).bel hf
   rw[htk]at hbl
   exact hbl.mono (tr.len hle hij hj)
  ·have hjl:=tr.len hle hij (by omega)
   have hinv:Inv (fun q=>∃ d,m q=some d) (H i) (H j).length:=by
    rintro q cs' hq ⟨d,hd⟩ hcq g hg
    have hqi:q<(H i).length:=by omega
    have hqc:(G H N x k)[q]?=some (some cs'):=by
     have h3:((G H N x k).take (H i).length)[q]?=some (some cs'):=by rw[hgt];exact hcq
     rwa [List.getElem?_take,if_pos hqi]at h3
    exact J.bel q d cs' hqc hd j hj hq g hg
   have hinv2:=(tr.hs hN hcall hle hi).2.2 _ _ hjl hinv
   obtain⟨_,h2⟩:=e.keep b (by rw[htk0];exact hb) ((cO (by omega)).2 ⟨cs,hc⟩)
   rw[h2]at hm
   exact hinv2 b cs hbj ⟨cc,by simpa[Mu.cut,hb]using hm⟩ hc2 f hf
end
end Go.Ab
namespace Go.Ab
theorem wH{p:Nat→Prop}(h:∃ i,p i):∃ i,p i∧∀ j,j<i→¬ p j:=by
 obtain⟨i,hi⟩:=h
 induction i using Nat.strongRecOn with
 | _ i ih =>
  by_cases hj:∃ j,j<i∧p j
  ·obtain⟨j,hlt,hpj⟩:=hj
   exact ih j hlt hpj
  ·exact⟨i,hi,fun j hlt hpj=>hj ⟨j,hlt,hpj⟩⟩
section
variable {P:Program}{ops:Array Oper}{N:Nat}{Q:Exit→Act→World→Prop}
theorem uq(st:Static P ops N){L:Nat→Bool}(hL:Closed ops L){i:Nat}{oi:Oper}(hi:ops[i]?=some oi)(hr:Ready L oi){j:Nat}{oj:Oper}(hj:ops[j]?=some oj)(hji:j≠i)(hjf:L j=false)
  {S:Nat→Bool} (hSi:S i=false) (hSc:Closed ops S) (hSr:Ready S oj):Ap ops oi oj:=by
 rcases Nat.lt_or_ge j i with hlt|hge
 ·have h:ord ops j i=true∨oj.apart ops oi=true:=by
   rcases Nat.lt_or_ge i N with hiN|hiN
   ·rcases st.head j i oj oi hlt hiN hj hi with h|h
    ·exact .inl h
    ·exact .inr h.1
   ·rcases st.tail j i oj oi hiN hlt hj hi with h|h
    ·exact .inl h
    ·exact .inr h.2
  rcases h with h|h
  ·have:=cZ st.back hL i oi hi hr h
   rw[hjf]at this;cases this
  ·exact (Ap.of h).symm
 ·have hlt:i<j:=by omega
  have h:ord ops i j=true∨oi.apart ops oj=true:=by
   rcases Nat.lt_or_ge j N with hjN|hjN
   ·rcases st.head i j oi oj hlt hjN hi hj with h|h
    ·exact .inl h
    ·exact .inr h.1
   ·rcases st.tail i j oi oj hjN hlt hi hj with h|h
    ·exact .inl h
    ·exact .inr h.2
  rcases h with h|h
  ·have:=cZ st.back hSc j oj hj hSr h
   rw[hSi]at this;cases this
  ·exact Ap.of h
theorem jr(st:Static P ops N)(J:(Nat→Bool)→Act→World→Prop)
  (hfloat:∀ S a w,J S a w→Closed ops S→∀ i o,ops[i]?=some o→S i=false→Ready S o→cS P o=true→(∀ p q,p<i→ops[p]?=some q→S p=false→cS P q=true→¬ Ready S q)→∃ u,Blind P ops o a u∧J (bO S i) (a.put o.dst u) w)
  (hstep:∀ S a w,J S a w→Closed ops S→(∀ p q,ops[p]?=some q→S p=false→cS P q=true→¬ Ready S q)→∀ i o,ops[i]?=some o→S i=false→Ready S o→wpOp P ops (only Q) i (J (bO S i)) a w)
  (hend:∀ S a w,J S a w→(∀ i,i<ops.size→S i=true)→Q .normal a w):∀ (fuel:Nat) (listed:Array Bool) (a:Act) (w:World),listed.size=ops.size→ky listed=fuel→Closed ops (setOf listed)→J (setOf listed) a w →
  wpAny P .any ops (only Q) fuel listed a w
 | 0,listed,a,w,hs,hc,_,hj=>by
  have hall:∀ i,i<ops.size→setOf listed i=true:=fun i hi=>tP hc (by omega)
  refine⟨?_,hend _ a w hj hall⟩
  apply List.eq_nil_iff_forall_not_mem.2
  intro i hi
  obtain⟨o,ho,hf,_⟩:=(mem_ready hs).1 hi
  rw[hall i (Array.getElem?_eq_some_iff.1 ho).1]at hf
  cases hf
 | fuel+1,listed,a,w,hs,hc,hcl,hj=>by
  by_cases hex:∃ i,∃ o,ops[i]?=some o∧setOf listed i=false∧cS P o=true∧Ready (setOf listed) o
  ·obtain⟨i,⟨o,ho,hf,hfl,hr⟩,hmin⟩:=wH hex
   obtain⟨u,hb,hJ⟩:=hfloat _ a w hj hcl i o ho hf hr hfl fun p q hp hq hpf hqf hqr=>hmin p hp ⟨q,hq,hpf,hqf,hqr⟩
   have hil:i<listed.size:=by rw[hs];exact (Array.getElem?_eq_some_iff.1 ho).1
   refine wpAny_first st.nosel ho fuel listed a w hs hf hr (fun j oj hoj hji hjf S _ hSi hSc hSr=>uq st hcl ho hr hoj hji hjf hSi hSc hSr) hcl hb ?_
   have hset:=dg hil
   refine jr st J hfloat hstep hend fuel _ _ w (by simp[hs]) ?_ ?_ (by rw[hset];exact hJ)
   ·have:=oW hil hf;omega
   ·rw[hset];exact hcl.add ho hr
  ·refine⟨fun hr=>hend _ a w hj (lY st.back hs hr),fun i hi=>?_⟩
   obtain⟨o,ho,hf,hready⟩:=(mem_ready hs).1 hi
   have hil:i<listed.size:=by rw[hs];exact (Array.getElem?_eq_some_iff.1 ho).1
   refine wpOp_mono (fun a' w' hj'=>?_) (hstep _ a w hj hcl (fun p q hq hpf hqf hqr=>hex ⟨p,q,hq,hpf,hqf,hqr⟩) i o ho hf hready)
   have hset:=dg hil
   refine jr st J hfloat hstep hend fuel _ a' w' (by simp[hs]) ?_ ?_ (by rw[hset];exact hj')
   ·have:=oW hil hf;omega
   ·rw[hset];exact hcl.add ho hready
theorem nE(hm:P.follows .mixedOrders=true)(st:Static P ops N)(J:(Nat→Bool)→Act→World→Prop)
  (hfloat:∀ S a w,J S a w→Closed ops S→∀ i o,ops[i]?=some o→S i=false→Ready S o→cS P o=true→(∀ p q,p<i→ops[p]?=some q→S p=false→cS P q=true→¬ Ready S q)→∃ u,Blind P ops o a u∧J (bO S i) (a.put o.dst u) w)
  (hstep:∀ S a w,J S a w→Closed ops S→(∀ p q,ops[p]?=some q→S p=false→cS P q=true→¬ Ready S q)→∀ i o,ops[i]?=some o→S i=false→Ready S o→wpOp P ops (only Q) i (J (bO S i)) a w)
  (hend:∀ S a w,J S a w→(∀ i,i<ops.size→S i=true)→Q .normal a w) {id:Nat} {a:Act} {w:World} (h0:J (fun _=>false) a { w with drawn:=w.drawn+1 }):(Code.region id ops true).wp P Q a w:=by
 have hset:setOf (Array.replicate ops.size false)=fun _=>false:=by
  funext i;simp[setOf,Array.getD_eq_getD_getElem?,Array.getElem?_replicate]
  split<;>rfl
 refine Code.wp_mono (Q:=only Q) ?_ (wp_region_any hm (jr st J hfloat hstep hend ops.size _ a _ (by simp) ?_ ?_ ?_))
 ·intro e a w h
  cases e<;>first|exact h|exact h.elim
 ·simp[ky]
 ·rw[hset];intro i o _ h;cases h
 ·rw[hset];exact h0
theorem oH(st:Static P ops N){S:Nat→Bool}(hcl:Closed ops S){i:Nat}{o:Oper}(hi:N≤i)(ho:ops[i]?=some o)(hr:Ready S o)
  (hsat:∀ p q,p<i→ops[p]?=some q→S p=false→cS P q=true→¬ Ready S q):∀ p,p<i→S p=true:=by
 intro p
 induction p using Nat.strongRecOn with
 | _ p ih =>
  intro hp
  have hio:i<ops.size:=(Array.getElem?_eq_some_iff.1 ho).1
  have hop:ops[p]?=some ops[p]:=Array.getElem?_eq_getElem (by omega)
  rcases st.tail p i ops[p] o hi hp hop ho with h|⟨h,_⟩
  ·exact cZ st.back hcl i o ho hr h
  ·cases hS:S p with
   | true=>rfl
   | false =>
    refine absurd ?_ (hsat p _ hp hop hS h)
    intro e he hb
    have hlt:=st.back p _ hop e he hb
    exact ih e.on hlt (by omega)
/-! ### What cS -/
def eP:V→Bool
 | .bool _|.int ..|.str _=>true
 | _=>false
theorem R.plain{m m':Mu}{h h':Heap}{w w':World}{x:V}{v:Value}(hp:eP x=true)(hr:R m h w x v):R m' h' w' x v:=by
 cases hr<;>simp only[eP,Bool.false_eq_true]at hp
 ·exact .bool _
 ·exact .int _ _
 ·exact .str _
theorem R.plain_eq{m m':Mu}{h h':Heap}{w w':World}{x:V}{v v':Value}(hp:eP x=true)(hr:R m h w x v)(hr':R m' h' w' x v'):v=v':=by
 cases hr<;>simp only[eP,Bool.false_eq_true]at hp<;>cases hr'<;>rfl
theorem we{op:BinOp}{t:TypeId}{k:IntKind}{x y z:V}(ht:P.underlying t=some (.int k))(hz:cz P op t x y=some z):eP x=true∧eP y=true∧eP z=true:=by
 have heq:∀ x y,eqV P t x y=none:=by
  intro x y
  unfold eqV
  split<;>simp[ht]
 unfold cz at hz
 split at hz
 ·split at hz
  ·cases hz
  ·cases hz;exact⟨rfl,rfl,rfl⟩
 ·split at hz
  ·cases hz
  ·cases hz;exact⟨rfl,rfl,rfl⟩
 ·split at hz
  ·refine⟨rfl,rfl,?_⟩
   unfold bz at hz
   split at hz
   all_goals first
    | (cases hz;done)
    | (cases hz;rfl)
    | (split at hz<;>first|(cases hz;done)|(cases hz;rfl))
  ·cases hz
 ·refine⟨rfl,rfl,?_⟩
  unfold tp at hz
  split at hz
  all_goals first
   | (cases hz;done)
   | (cases hz;rfl)
   | (split at hz<;>first|(cases hz;done)|(cases hz;rfl))
 ·rw[heq]at hz;cases hz
 ·rw[heq]at hz;cases hz
 ·cases hz
theorem AV{op:UnOp}{x z:V}(hz:unV op x=some z):eP x=true∧eP z=true:=by
 unfold unV at hz
 split at hz
 ·cases hz;exact⟨rfl,rfl⟩
 ·simp only[bz]at hz;cases hz;exact⟨rfl,rfl⟩
 ·cases hz;exact⟨rfl,rfl⟩
 ·cases hz
theorem xg{xs:List V}{y:V}(hy:nz xs=some y):(∀ c∈xs,eP c=true)∧eP y=true:=by
 unfold nz at hy
 split at hy
 ·cases hy;exact⟨fun c hc=>by simp at hc;rcases hc with rfl|rfl<;>rfl,rfl⟩
 ·cases hy;exact⟨fun c hc=>by simp at hc;rcases hc with rfl|rfl|rfl<;>rfl,rfl⟩
 ·cases hy
theorem xi{xs:List V}{y:V}(hy:sS xs=some y):(∀ c∈xs,eP c=true)∧eP y=true:=by
 unfold sS at hy
 split at hy
 ·cases hy;exact⟨fun c hc=>by simp at hc;rcases hc with rfl|rfl<;>rfl,rfl⟩
 ·cases hy;exact⟨fun c hc=>by simp at hc;rcases hc with rfl|rfl|rfl<;>rfl,rfl⟩
 ·cases hy
theorem Fc{m:Mu}{h:Heap}{w:World}{t ty:TypeId}{x y:V}{xv:Value}(hx:R m h w x xv)(hy:dk P t x=some y):∃ v,(∀ w':World,(Builtin.len_ #[t] ty #[xv]).run P w'=.ok v w')∧R m h w y v:=by
 unfold dk at hy
 split at hy
 ·rename_i s hu;cases hx;cases hy;exact⟨_,fun w'=>by simp[Builtin.len_,run_underlying hu,goInt],.int _ _⟩
 ·rename_i e b off len cap k hu;cases hx;cases hy;exact⟨_,fun w'=>by simp[Builtin.len_,run_underlying hu,goInt],.int _ _⟩
 ·rename_i e xs hu
  cases hy
  cases hx with
  | lst0 a rc _=>exact⟨_,fun w'=>by simp[Builtin.len_,run_underlying hu,goInt],.int _ _⟩
  | lst rv him hrc hk hc hf hr=>exact⟨_,fun w'=>by simp[Builtin.len_,run_underlying hu,goInt],.int _ _⟩
 ·rename_i e hu;cases hx;cases hy;exact⟨_,fun w'=>by simp[Builtin.len_,run_underlying hu,goInt],.int _ _⟩
 ·rename_i n e hu;cases hy;exact⟨_,fun w'=>by simp[Builtin.len_,run_underlying hu,goInt],.int _ _⟩
 ·cases hy
theorem pt{o:Oper}(hf:cS P o=true){cfg:Cfg}{fr:List V}{h h':Heap}{v:V}(hv:opV P cfg fr h o.op=some (v,h')):h'=h∧∀ g,opV P cfg fr g o.op=some (v,g):=by
 unfold cS at hf
 split at hf
 ·rename_i hop
  rw[hop]at hv ⊢
  simp only[opV]at hv ⊢
  obtain⟨h1,h2⟩:=aG hv
  exact⟨h2,fun g=>by rw[h1];rfl⟩
 ·rename_i hop
  rw[hop]at hv ⊢
  simp only[opV]at hv ⊢
  split at hv
  ·obtain⟨h1,h2⟩:=aG hv
   exact⟨h2,fun g=>by rw[h1];rfl⟩
  ·cases hv
 ·rename_i hop
  rw[hop]at hv ⊢
  simp only[opV]at hv ⊢
  split at hv
  ·obtain⟨h1,h2⟩:=aG hv
   exact⟨h2,fun g=>by rw[h1];rfl⟩
  ·cases hv
 ·rename_i hop
  rw[hop]at hv ⊢
  simp only[opV]at hv ⊢
  split at hv
  ·obtain⟨h1,h2⟩:=aG hv
   exact⟨h2,fun g=>by rw[h1];rfl⟩
  ·cases hv
 ·rename_i hop
  rw[hop]at hv ⊢
  simp only[opV]at hv ⊢
  split at hv
  ·cases hv
  ·obtain⟨h1,h2⟩:=aG hv
   exact⟨h2,fun g=>by rw[h1];rfl⟩
 ·rename_i hop
  rw[hop]at hv ⊢
  simp only[opV]at hv ⊢
  split at hv
  ·cases hv
  ·obtain⟨h1,h2⟩:=aG hv
   exact⟨h2,fun g=>by rw[h1];rfl⟩
 ·rename_i args tys hop
  obtain⟨t,rfl⟩:=rA hf
  rw[hop]at hv ⊢
  simp only[opV]at hv ⊢
  split at hv
  ·cases hv
  ·rename_i vs hvs
   match vs,hv with
   | [x],hv =>
    obtain⟨h1,h2⟩:=aG hv
    exact⟨h2,fun g=>by simp[h1]⟩
   | [],hv=>cases hv
   | _::_::_,hv=>cases hv
 ·cases hf
theorem ur{o:Oper}(hf:cS P o=true){cfg:Cfg}{fr:List V}{h h':Heap}{v:V}(hv:opV P cfg fr h o.op=some (v,h')){m:Mu}{g:Heap}{w:World}{a:Act}(f:FR m g w fr a):
  ∃ u,(∀ w',(execOp a.eval o).run P w'=.ok (.value u) w')∧R m g w v u:=by
 unfold cS at hf
 split at hf
 ·rename_i y hop
  rw[hop]at hv
  simp only[opV]at hv
  obtain⟨h1,_⟩:=aG hv
  exact⟨a.eval y,fun w'=>by simp only[execOp,hop,Sem.run_pure],cR f h1⟩
 ·rename_i y i hop
  rw[hop]at hv
  simp only[opV]at hv
  split at hv
  ·rename_i b hb
   obtain⟨h1,_⟩:=aG hv
   have hx:=cR f hb
   unfold gI at h1
   split at h1
   ·generalize hvy:a.eval y=vy at hx
    cases hx with
    | tup hl hr =>
     have hlt:=(List.getElem?_eq_some_iff.1 h1).1
     rw[← hl]at hlt
     exact⟨_,fun w'=>by simp[execOp,hop,hvy,Instr.extract,hlt],hr i v _ h1 (Array.getElem?_eq_getElem hlt)⟩
   ·cases h1
  ·cases hv
 ·rename_i op t y hop
  rw[hop]at hv
  simp only[opV]at hv
  split at hv
  ·rename_i b hb
   obtain⟨h1,_⟩:=aG hv
   have hx:=cR f hb
   obtain⟨p1,p2⟩:=AV h1
   obtain⟨u,hu,hru⟩:=DE (P:=P) hx h1
   refine⟨u,fun w'=>?_,hru⟩
   obtain⟨u',hu',hru'⟩:=DE (P:=P) (w:=w') (hx.plain (m':=m) (h':=g) (w':=w') p1) h1
   rw[hru.plain_eq p2 hru']
   simp only[execOp,hop,Sem.run_bind,hu',Result.andThen_ok,Sem.run_pure]
  ·cases hv
 ·rename_i op t y z c hop
  split at hf
  ·rename_i k ht
   rw[hop]at hv
   simp only[opV]at hv
   split at hv
   ·rename_i b d hb hd
    obtain⟨h1,_⟩:=aG hv
    have hx:=cR f hb
    have hy:=cR f hd
    obtain⟨p1,p2,p3⟩:=we ht h1
    obtain⟨u,hu,hru⟩:=wg (P:=P) (ox:=y) (oy:=z) hx hy h1
    refine⟨u,fun w'=>?_,hru⟩
    obtain⟨u',hu',hru'⟩:=wg (P:=P) (ox:=y) (oy:=z) (w:=w') (hx.plain (m':=m) (h':=g) (w':=w') p1) (hy.plain p2) h1
    rw[hru.plain_eq p3 hru']
    have:(execOp a.eval o)=(do let v ← (do eqGuard op t y z (a.eval y) (a.eval z);binOp op t (a.eval y) (a.eval z):Sem Value);pure (.value v)):=by simp only[execOp,hop]
    rw[this,Sem.run_bind,hu']
    rfl
   ·cases hv
  ·cases hf
 ·rename_i args tys hop
  rw[hop]at hv
  simp only[opV]at hv
  split at hv
  ·cases hv
  ·rename_i vs hvs
   obtain⟨h1,_⟩:=aG hv
   obtain⟨hl,hr⟩:=gm f hvs
   obtain⟨hpl,hpy⟩:=xg h1
   have hres:∀ (d:Sem Next),(execOp a.eval o)=(do let d ← resolve a.eval { callee:=.builtin .max,args:=args,argTypes:=tys } o.type;invoke d.target d.args):=fun _=>by simp only[execOp,hop]
   have hex:(execOp a.eval o)=(do let v ← Builtin.max_ tys o.type (args.map a.eval);pure (.value v)):=by
    rw[hres (pure .skip)];rfl
   have ha:(args.toList.map a.eval).toArray=args.map a.eval:=by apply Array.ext';simp
   obtain⟨u,hu,hru⟩:=xh (P:=P) (ts:=tys) (ty:=o.type) (by simpa using hl) hr h1
   refine⟨u,fun w'=>?_,hru⟩
   obtain⟨u',hu',hru'⟩:=xh (P:=P) (ts:=tys) (ty:=o.type) (w:=w') (m:=m) (h:=g) (by simpa using hl) (fun i c v hc hv=>(hr i c v hc hv).plain (hpl c (List.mem_of_getElem? hc))) h1
   rw[hru.plain_eq hpy hru',hex,Sem.run_bind,← ha,hu']
   rfl
 ·rename_i args tys hop
  rw[hop]at hv
  simp only[opV]at hv
  split at hv
  ·cases hv
  ·rename_i vs hvs
   obtain⟨h1,_⟩:=aG hv
   obtain⟨hl,hr⟩:=gm f hvs
   obtain⟨hpl,hpy⟩:=xi h1
   have hres:∀ (d:Sem Next),(execOp a.eval o)=(do let d ← resolve a.eval { callee:=.builtin .min,args:=args,argTypes:=tys } o.type;invoke d.target d.args):=fun _=>by simp only[execOp,hop]
   have hex:(execOp a.eval o)=(do let v ← Builtin.min_ tys o.type (args.map a.eval);pure (.value v)):=by
    rw[hres (pure .skip)];rfl
   have ha:(args.toList.map a.eval).toArray=args.map a.eval:=by apply Array.ext';simp
   obtain⟨u,hu,hru⟩:=xj (P:=P) (ts:=tys) (ty:=o.type) (by simpa using hl) hr h1
   refine⟨u,fun w'=>?_,hru⟩
   obtain⟨u',hu',hru'⟩:=xj (P:=P) (ts:=tys) (ty:=o.type) (w:=w') (m:=m) (h:=g) (by simpa using hl) (fun i c v hc hv=>(hr i c v hc hv).plain (hpl c (List.mem_of_getElem? hc))) h1
   rw[hru.plain_eq hpy hru',hex,Sem.run_bind,← ha,hu']
   rfl
 ·rename_i args tys hop
  obtain⟨t,rfl⟩:=rA hf
  rw[hop]at hv
  simp only[opV]at hv
  split at hv
  ·cases hv
  ·rename_i vs hvs
   match vs,hvs,hv with
   | [x],hvs,hv =>
    obtain⟨h1,_⟩:=aG hv
    obtain⟨hl,hr⟩:=gm f hvs
    have hres:∀ (d:Sem Next),(execOp a.eval o)=(do let d ← resolve a.eval { callee:=.builtin .len,args:=args,argTypes:=#[t] } o.type;invoke d.target d.args):=fun _=>by simp only[execOp,hop]
    have hex:(execOp a.eval o)=(do let v ← Builtin.len_ #[t] o.type (args.map a.eval);pure (.value v)):=by
     rw[hres (pure .skip)];rfl
    have ha:(args.toList.map a.eval).toArray=args.map a.eval:=by apply Array.ext';simp
    obtain⟨xv,hxv⟩:∃ xv,args.toList.map a.eval=[xv]:=by
     generalize args.toList.map a.eval=l at hl
     match l,hl with
     | [xv],_=>exact⟨xv,rfl⟩
    rw[hxv]at ha hr
    obtain⟨u,hu,hru⟩:=Fc (P:=P) (ty:=o.type) (hr 0 x xv rfl rfl) h1
    exact⟨u,fun w'=>by rw[hex,Sem.run_bind,← ha,hu w'];rfl,hru⟩
   | [],_,hv=>cases hv
   | _::_::_,_,hv=>cases hv
 ·cases hf
end
end Go.Ab
