/- Several texts of this proof in one. -/
import Derived.Test.YtldfgkjmficliaaGreatAbDraw3
set_option linter.all false
namespace Go.Ab
def only(Q:Exit->Act->World->Prop):Exit->Act->World->Prop
 | .normal,a,w=>Q .normal a w
 | _,_,_=>False
section
variable {P:Program}{ops:Array Oper}{Q:Exit->Act->World->Prop}
theorem vV:¬ LetsOut (only Q):=fun ⟨_,_,h⟩=>h
def Ap(ops:Array Oper)(x y:Oper):Prop:=(∀ d,x.dst=some d->d ∉ y.looksAt ops)/\(∀ d,x.dst=some d->y.dst≠some d)/\(∀ d,y.dst=some d->d ∉ x.looksAt ops)
theorem Ap.of{x y:Oper}(h:x.apart ops y=true):Ap ops x y:=Oper.apart_spec h
theorem Ap.symm{x y:Oper}(h:Ap ops x y):Ap ops y x:=⟨h.2.2,fun d hd hx=>h.2.1 d hx hd,h.1⟩
def Blind(P:Program)(ops:Array Oper)(o:Oper)(a:Act)(u:Value):Prop:=
 (Region.wanted o (yielded ops a.tmps)=true/\∀ w,(execOp a.eval o).run P w=.ok (.value u) w)\/(Region.wanted o (yielded ops a.tmps)=false/\u=undef)
theorem Blind.put{o oj:Oper}{a:Act}{u z:Value}(hs:∀ cs b,o.op≠.select cs b)(hb:Blind P ops o a u)(h:∀ d,oj.dst=some d->d ∉ o.looksAt ops):Blind P ops o (a.put oj.dst z) u:=by
 unfold Blind;rw[wanted_put o a oj.dst z h,execOp_put o hs a oj.dst z h];exact hb
theorem uM{a:Act}{ds:List Deferred}:({ a with defers:=ds }:Act).eval=a.eval:=by
 funext x;cases x<;>rfl
theorem Blind.defers{o:Oper}{a:Act}{u:Value}{ds:List Deferred}(hb:Blind P ops o a u):Blind P ops o { a with defers:=ds } u:=by
 unfold Blind at *;rw[uM];exact hb
theorem rn{i:Nat}{o:Oper}(ho:ops[i]?=some o){a:Act}{u:Value}(hb:Blind P ops o a u){K:Act->World->Prop}{w:World}(hK:K (a.put o.dst u) w):wpOp P ops Q i K a w:=by
 unfold wpOp;rw[ho];simp only;rcases hb with⟨h1,h2⟩|⟨h1,rfl⟩
 ·rw[h1];simp only[if_true];refine .inl ?_;unfold Oper.wp;rw[h2 w];exact hK
 ·rw[h1];simp only[LH,if_false];exact hK
theorem wpOp_put{j:Nat}{oi oj:Oper}(hj:ops[j]?=some oj)(h6:Ap ops oi oj)(h4:∀ cs b,oi.op≠.select cs b)(h7:∀ cs b,oj.op≠.select cs b){a:Act}{u:Value}(hb:Blind P ops oi a u)
  {K K':Act->World->Prop} {w:World} (h:wpOp P ops (only Q) j K (a.put oi.dst u) w) (hK:∀ a' w',Blind P ops oi a' u->K (a'.put oi.dst u) w'->K' a' w'):wpOp P ops (only Q) j K' a w:=by
 obtain⟨h1,h2,h3⟩:=h6;have h0:∀ (b:Act) (z:Value),(b.put oi.dst u).put oj.dst z=(b.put oj.dst z).put oi.dst u:=fun b z=>Act.put_comm b u z h2;have fin:∀ z w',K ((a.put oi.dst u).put oj.dst z) w'->K' (a.put oj.dst z) w':=fun z w' hk=>hK _ _ (hb.put h4 h3) (by rw[<- h0];exact hk);unfold wpOp at *;rw[hj]at h ⊢;simp only at h ⊢;rw[wanted_put oj a oi.dst u h1]at h;split
 ·rename_i hw;rw[hw]at h;simp only[if_true]at h;rcases h with h|⟨_,h⟩
  ·refine .inl ?_;unfold Oper.wp at h ⊢;rw[execOp_put oj h7 a oi.dst u h1]at h;generalize (execOp a.eval oj).run P w=r at h ⊢;cases r with
   | ok nx w' =>
    cases nx<;>simp only[Oper.upon]at h ⊢<;>try exact h
    case value z=>exact fin z w' h
    case skip=>exact fin undef w' h
    case defer d =>
     have e:({ a.put oi.dst u with defers:=d::(a.put oi.dst u).defers }:Act)=({ a with defers:=d::a.defers }:Act).put oi.dst u:=by cases oi.dst<;>rfl
     rw[e,h0]at h;exact hK _ _ (hb.defers.put h4 h3) h
    case enter f args =>
     refine h.mono ?_;rintro (v|c|_) w'' he
     ·exact fin v w'' he
     ·exact he
     ·exact he
    case row f args =>
     exact Rows.mono h fun z w'' hz=>fin z w'' hz
   | halt x w' =>
    cases x<;>simp only[Oper.upon]at h ⊢<;>exact h
  ·exact absurd h vV
 ·rename_i hw;have h8:Region.wanted oj (yielded ops a.tmps)=false:=by simpa using hw
  rw[h8]at h;simp only[LH,if_false]at h;exact fin undef w h
theorem wpAny_first(h7:∀ (j:Nat) (o:Oper) cs b,ops[j]?=some o->o.op≠.select cs b){i:Nat}{oi:Oper}(hi:ops[i]?=some oi){u:Value}:∀ (fuel:Nat) (listed:Array Bool) (a:Act) (w:World),listed.size=ops.size->setOf listed i=false->Ready (setOf listed) oi ->
  (∀ j oj,ops[j]?=some oj->j≠i->setOf listed j=false->(∀ S:Nat->Bool,(∀ q,setOf listed q=true->S q=true)->S i=false->Closed ops S->Ready S oj->Ap ops oi oj))->Closed ops (setOf listed) ->
  Blind P ops oi a u->wpAny P .any ops (only Q) fuel (listed.setIfInBounds i true) (a.put oi.dst u) w->wpAny P .any ops (only Q) (fuel+1) listed a w:=by
 intro fuel
 induction fuel with
 | zero =>
  intro listed a w hs hf hr hd he hb h;have h4:i<listed.size:=by rw[hs];exact (Lz.1 hi).1
  refine⟨fun hn=>?_,fun j hj=>?_⟩
  ·have:i∈Region.ready .any ops listed:=(mem_ready hs).2 ⟨oi,hi,hf,hr⟩;rw[hn]at this;cases this
  ·obtain⟨oj,h0,ha,h8⟩:=(mem_ready hs).1 hj;by_cases h3:j=i
   ·subst h3;rw[hi]at h0;cases h0;exact rn hi hb h
   ·exfalso;have:j∈Region.ready .any ops (listed.setIfInBounds i true):=(mem_ready (by simp[hs])).2 ⟨oj,h0,by rw[de h4,bI];simp[h3,ha],by rw[de h4];exact h8.add⟩;rw[h.1]at this;cases this
 | succ fuel ih =>
  intro listed a w hs hf hr hd he hb h;have h4:i<listed.size:=by rw[hs];exact (Lz.1 hi).1
  refine⟨fun hn=>?_,fun j hj=>?_⟩
  ·have:i∈Region.ready .any ops listed:=(mem_ready hs).2 ⟨oi,hi,hf,hr⟩;rw[hn]at this;cases this
  ·obtain⟨oj,h0,ha,h8⟩:=(mem_ready hs).1 hj;by_cases h3:j=i
   ·subst h3;rw[hi]at h0;cases h0;exact rn hi hb h
   ·have h6:j<listed.size:=by rw[hs];exact (Lz.1 h0).1
    have ht:i≠j:=fun e=>h3 e.symm;have hg:j∈Region.ready .any ops (listed.setIfInBounds i true):=(mem_ready (by simp[hs])).2 ⟨oj,h0,by rw[de h4,bI];simp[h3,ha],by rw[de h4];exact h8.add⟩;have hh:=hd j oj h0 h3 ha (setOf listed) (fun q hq=>hq) hf he h8;refine wpOp_put h0 hh (fun cs b=>h7 i oi cs b hi) (fun cs b=>h7 j oj cs b h0) hb (h.2 j hg) fun a' w' hu hk=>?_;have hv:(listed.setIfInBounds i true).setIfInBounds j true=(listed.setIfInBounds j true).setIfInBounds i true:=by
     apply NQ;intro q;simp only[Nz];by_cases h9:i=q
     ·subst h9;simp[h3,h4]
     ·by_cases hm:j=q
      ·subst hm;simp[h9,h6]
      ·simp[h9,hm]
    rw[hv]at hk;refine ih (listed.setIfInBounds j true) a' w' (by simp[hs]) ?_ ?_ ?_ ?_ hu hk
    ·rw[de h6];simp[bI,ht,hf]
    ·rw[de h6];exact hr.add
    ·intro q oq hw h9 hc S hl hy hA hD;refine hd q oq hw h9 ?_ S (fun z hz=>hl z (by rw[de h6,bI];split<;>simp_all)) hy hA hD;rw[de h6,bI]at hc;split at hc
     ·cases hc
     ·exact hc
    ·rw[de h6];exact he.add h0 h8
end
end Go.Ab
namespace Go.Ab
def bg(o:Oper):Bool:=
 match o.op with
 | .call { callee:=.value _,.. }=>true
 | .store ..=>true
 | _=>false
def oE(ld:List Nat)(x:List Nat):Bool:=x.all fun b=>!ld.contains b
def ei(P:Program)(md:FuncId->Nat)(call:aW)(cfg:Cfg)(n0:Nat)(ops:Array Oper)(o:Oper)(fr:List V)(h:Heap)(x:List Nat)(ld:List Nat):Option (V×Heap×List Nat×List Nat):=
 match cY ops fr o with
 | none=>none
 | some false=>some (.no,h,x,ld)
 | some true =>
  match o.op with
  | .call { callee:=.value f,args,argTypes:=_ }=>match ev fr f,cS fr args.toList with
   | some (.func (.func g) first captured),some vs =>
    match md g with
    | 0=>match af md call ⟨h.length,[],h.length⟩ g ((first++vs)++captured) h with
     | some (v,h')=>some (v,h',x,ld)
     | none=>none
    | 3=>match af md call ⟨h.length,[],h.length⟩ g ((first++vs)++captured) h with
     | some (v,h')=>some (v,h',x,ld)
     | none=>none
    | 1=>match (first++vs)++captured with
     | .ptr b _::_ =>
      if cfg.wr b&&decide (b<n0) then
       match af md call ⟨h.length,[b],h.length⟩ g ((first++vs)++captured) h with
       | some (v,h')=>some (v,h',b::x,ld)
       | none=>none
      else none
     | _=>none
    | 2=>match af md call ⟨h.length,[],h.length⟩ g ((first++vs)++captured) h with
     | some (v,h')=>some (v,h',x,ld)
     | none=>none
    | m =>
     if (decide (m=4)||decide (m=5))&&((mapsIn h).all fun b=>cfg.wr b&&decide (b<n0)) then
      match af md call ⟨h.length,mapsIn h,h.length⟩ g ((first++vs)++captured) h with
      | some (v,h')=>some (v,h',mapsIn h++x,ld)
      | none=>none
     else none
   | _,_=>none
  | .store t p y=>match ev fr p with
   | some (.ptr b _) =>
    if cfg.wr b then
     match opV P ⟨h.length,[b],h.length⟩ fr h (.store t p y) with
     | some (v,h')=>some (v,h',b::x,ld)
     | none=>none
    else none
   | _=>none
  | op=>if eY P op then
    match opV P cfg fr h op with
    | some (v,h')=>some (v,h',x,match eQ fr op with
     | some b=>b::ld
     | none=>ld)
    | none=>none
   else none
def eO(P:Program)(md:FuncId->Nat)(call:aW)(cfg:Cfg)(n0:Nat)(ops:Array Oper):List Oper->List V->Heap->List Nat->List Nat->Option (List V×Heap×List Nat×List Nat)
 | [],fr,h,x,ld=>some (fr,h,x,ld)
 | o::r,fr,h,x,ld=>match ei P md call cfg n0 ops o fr h x ld with
  | some (v,h',x',ld')=>eO P md call cfg n0 ops r (put fr o.dst v) h' x' ld'
  | none=>none
def Dh(P:Program)(ts:Array TypeId):Bool:=
 match ts.toList with
 | [t]=>match P.underlying t with
  | some (.slice e)=>match P.underlying e with
   | some (.slice _)=>true
   | _=>false
  | _=>false
 | _=>false
theorem sr{P:Program}{ts:Array TypeId}(h:Dh P ts=true):∃ t,ts=#[t]:=by
 obtain⟨l⟩:=ts;unfold Dh at h;split at h
 ·rename_i t ht;exact⟨t,by simp at ht;rw[ht]⟩
 ·cases h
def cU(P:Program)(o:Oper):Bool:=
 match o.op with
 | .move _|.extract ..|.unOp ..=>true
 | .binOp _ t _ _ _=>match P.underlying t with
  | some (.int _)=>true
  | _=>false
 | .call { callee:=.builtin .max,.. }=>true
 | .call { callee:=.builtin .min,.. }=>true
 | .call { callee:=.builtin .len,args:=_,argTypes:=ts }=>Dh P ts
 | _=>false
def eW(P:Program):Nat->List Oper->Nat
 | _,[]=>0
 | i,o::r=>(if cU P o then 2 ^ i else 0) ||| eW P (i+1) r
def jY(fm:Nat)(ms:List Nat)(n:Nat):Nat:=(List.range n).foldl (fun acc j=>if (ms.getD j 0 ||| fm)%2 ^ j==2 ^ j-1 then acc else j+1) 0
def AM(o:Oper)(j:Nat):Bool:=o.after.toList.all fun e=>!Region.binds .any e||decide (e.on<j)
def ph(ops:Array Oper)(mj:Nat)(oj:Oper):Nat->List Oper->Bool
 | _,[]=>true
 | i,oi::r=>(mj.testBit i||(oi.apart ops oj&&!(bg oi&&bg oj)))&&ph ops mj oj (i+1) r
def oZ(ops:Array Oper)(ms:List Nat):List Oper->Nat->List Oper->Bool
 | _,_,[]=>true
 | before,j,o::r=>ph ops (ms.getD j 0) o 0 before&&oZ ops ms (before++[o]) (j+1) r
def tQ(P:Program)(ops:Array Oper)(mj:Nat)(oj:Oper):Nat->List Oper->Bool
 | _,[]=>true
 | i,oi::r=>(mj.testBit i||(cU P oi&&oi.apart ops oj))&&tQ P ops mj oj (i+1) r
def pr(P:Program)(ops:Array Oper)(ms:List Nat):List Oper->Nat->List Oper->Bool
 | _,_,[]=>true
 | before,j,o::r=>(ms.getD j 0==2 ^ j-1||tQ P ops (ms.getD j 0) o 0 before)&&pr P ops ms (before++[o]) (j+1) r
def Hw(o:Oper):Bool:=
 match o.op with
 | .select ..=>false
 | _=>true
def sX:Nat->List Oper->Bool
 | _,[]=>true
 | j,o::r=>AM o j&&sX (j+1) r
def vX(P:Program)(ops:Array Oper)(ms:List Nat)(N:Nat):Bool:=
 decide (N<=ops.size)&&pr P ops ms (ops.toList.take N) N (ops.toList.drop N)&&sX 0 ops.toList&&oZ ops ms [] 0 (ops.toList.take N)&&ops.toList.all Hw
def appB(o:Oper):Bool:=
 match o.op with
 | .call { callee:=.builtin .append,.. }=>true
 | _=>false
def Ha(o:Oper):Bool:=
 match o.op with
 | .move (.const _)=>o.after.isEmpty
 | _=>false
def sN(ops:Array Oper):Bool:=
 match ops.toList.getLast? with
 | some o=>Ha o&&ops.toList.all (fun q=>q.guard.isNone)&&ops.toList.any appB&&ops.toList.dropLast.all fun q=>o.apart ops q
 | none=>false
def pX(P:Program)(md:FuncId->Nat)(call:aW)(cfg:Cfg)(ops:Array Oper)(fr:List V)(h:Heap):Option (List V×Heap):=
 let ms:=ju [] ops.toList
 let N:=jY (eW P 0 ops.toList) ms ops.size
 if vX P ops ms N then
  match eO P md call cfg h.length ops (ops.toList.take N) fr h [] []with
  | some (fr1,h1,x,ld) =>
   if oE ld x then dE P md call cfg ops (ops.toList.drop N) fr1 h1 else none
  | none=>none
 else none
/-! Regions of loads and stores of single cells, in whatever order -/
def sOp(o:Oper):Bool:=
 match o.op with
 | .move _|.fieldAddr ..|.indexAddr ..|.load ..|.store ..|.binOp ..=>true
 | _=>false
def th:List Oper->Bool
 | []=>true
 | o::r=>r.all (fun q=>o.dst.isNone||q.dst != o.dst)&&th r
def sOK(P:Program)(ops:Array Oper):Bool:=
 ops.toList.all sOp&&ops.toList.all (fun q=>q.guard.isNone)&&th ops.toList&&(ops.toList.dropWhile fun o=>!bg o).any (fun o=>match o.op with|.fieldAddr ..=>true|_=>false)&&vX P ops (ju [] ops.toList) ops.size
def gV(fr:List V)(o:Oper):Option (Bool×Nat×Nat):=
 match o.op with
 | .load _ a=>match ev fr a with
  | some (.ptr b k)=>some (false,b,k)
  | _=>none
 | .store _ a _=>match ev fr a with
  | some (.ptr b k)=>some (true,b,k)
  | _=>none
 | _=>none
abbrev Eff:=Option Tmp×V×Option (Nat×Nat×V)
def gR(h:Heap)(b k:Nat)(u:V):Heap:=
 match ab h b with
 | some cs=>h.set b (some (cs.set k u))
 | none=>h
def dM(st:List V×Heap)(e:Eff):List V×Heap:=(put st.1 e.1 e.2.1,match e.2.2 with
 | some (b,k,u)=>gR st.2 b k u
 | none=>st.2)
def jx(fr:List V)(o:Oper)(v:V):Option Eff:=
 match o.op with
 | .store _ a x=>match ev fr a,ev fr x with
  | some (.ptr b k),some u=>if u.leaf then some (o.dst,v,some (b,k,u)) else none
  | _,_=>none
 | .load ..=>if v.leaf then some (o.dst,v,none) else none
 | _=>some (o.dst,v,none)
def jG(x:Option (Bool×Nat×Nat))(l:List (Option (Bool×Nat×Nat))):Bool:=l.all fun y=>match x,y with
 | some (w,c),some (w',c')=>!(w||w')||decide (c≠c')
 | _,_=>true
def runS(P:Program)(cfg:Cfg):List Oper->List V×Heap->List (Option (Bool×Nat×Nat))->Option (List Eff)
 | [],_,_=>some []
 | o::r,st,l=>match opV P cfg st.1 st.2 o.op with
  | some (v,_)=>match jx st.1 o v with
   | some e=>if jG (gV st.1 o) l then (runS P cfg r (dM st e) (l++[gV st.1 o])).map (e::·) else none
   | none=>none
  | none=>none
def Cy(P:Program)(cfg:Cfg)(ops:Array Oper)(fr:List V)(h:Heap):Option (List V×Heap):=
 (runS P cfg ops.toList (fr,h) []).map fun E=>E.foldl dM (fr,h)
def fC(P:Program)(md:FuncId->Nat)(call:aW)(cfg:Cfg)(ops:Array Oper)(fr:List V)(h:Heap):Option (List V×Heap):=
 if sN ops then
  match ops.toList.getLast? with
  | some o=>match o.op with
   | .move x=>match ev fr x with
    | some v=>pX P md call cfg ops.toList.dropLast.toArray (put fr o.dst v) h
    | none=>none
   | _=>none
  | none=>none
 else if sOK P ops then Cy P cfg ops fr h
 else pX P md call cfg ops fr h
section
variable {P:Program}{ops:Array Oper}
theorem pC:∀ (l:List Oper) (j:Nat),sX j l=true->∀ i o,l[i]?=some o->∀ e∈o.after.toList,Region.binds .any e=true->e.on<j+i
 | [],_,_,i,o,h=>by simp at h
 | p::l,j,hb,i,o,h=>by
  simp only[sX,Lq]at hb;cases i with
  | zero =>
   simp at h;subst h;intro e he h0;have:=Lp.1 hb.1 e he;simpa[h0]using this
  | succ i =>
   have:=pC l (j+1) hb.2 i o (by simpa using h);intro e he h0;have:=this e he h0;omega
theorem om{mj:Nat}{oj:Oper}:∀ (l:List Oper) (i0:Nat),ph ops mj oj i0 l=true->∀ i oi,l[i]?=some oi->mj.testBit (i0+i)=true\/(oi.apart ops oj=true/\¬ (bg oi=true/\bg oj=true))
 | [],_,_,i,oi,h=>by simp at h
 | p::l,i0,hb,i,oi,h=>by
  simp only[ph,Lq,Md,Mx]at hb;cases i with
  | zero =>
   simp at h;subst h;rcases hb.1 with h1|⟨h1,h2⟩
   ·exact .inl h1
   ·exact .inr ⟨h1,by simpa using h2⟩
  | succ i =>
   have:=om l (i0+1) hb.2 i oi (by simpa using h);rwa [show i0+1+i=i0+(i+1) by omega]at this
theorem nW{ms:List Nat}:∀ (l before:List Oper) (j0:Nat),j0=before.length->oZ ops ms before j0 l=true ->
  ∀ i j oi oj,i<j->(before++l)[i]?=some oi->(before++l)[j]?=some oj->j0<=j->(ms.getD j 0).testBit i=true\/(oi.apart ops oj=true/\¬ (bg oi=true/\bg oj=true))
 | [],before,j0,h0,_,i,j,oi,oj,h3,hi,hj,h4=>by
  rw[Lw (by simp;omega)]at hj;cases hj
 | o::l,before,j0,h0,hb,i,j,oi,oj,h3,hi,hj,h4=>by
  simp only[oZ,Lq]at hb;by_cases h6:j=j0
  ·subst h6;rw[h0,Lk (by omega),Nx]at hj;simp at hj;subst hj;rw[Lf (by omega)]at hi;have:=om before 0 hb.1 i oi hi;simpa using this
  ·exact nW l (before++[o]) (j0+1) (by simp;omega) hb.2 i j oi oj h3 (by simpa using hi) (by simpa using hj) (by omega)
theorem mM{mj:Nat}{oj:Oper}:∀ (l:List Oper) (i0:Nat),tQ P ops mj oj i0 l=true->∀ i oi,l[i]?=some oi->mj.testBit (i0+i)=true\/(cU P oi=true/\oi.apart ops oj=true)
 | [],_,_,i,oi,h=>by simp at h
 | p::l,i0,hb,i,oi,h=>by
  simp only[tQ,Lq,Md]at hb;cases i with
  | zero =>
   simp at h;subst h;exact hb.1
  | succ i =>
   have:=mM l (i0+1) hb.2 i oi (by simpa using h);rwa [show i0+1+i=i0+(i+1) by omega]at this
theorem ow{ms:List Nat}:∀ (l before:List Oper) (j0:Nat),j0=before.length->pr P ops ms before j0 l=true ->
  ∀ i j oi oj,i<j->(before++l)[i]?=some oi->(before++l)[j]?=some oj->j0<=j->(ms.getD j 0).testBit i=true\/(cU P oi=true/\oi.apart ops oj=true)
 | [],before,j0,h3,_,i,j,oi,oj,h0,hi,hj,h4=>by
  rw[Lw (by simp;omega)]at hj;cases hj
 | o::l,before,j0,h3,hb,i,j,oi,oj,h0,hi,hj,h4=>by
  simp only[pr,Lq,Md,beq_iff_eq]at hb;by_cases h6:j=j0
  ·subst h6;rw[h3,Lk (by omega),Nx]at hj;simp at hj;subst hj;rw[Lf (by omega)]at hi;rcases hb.1 with h|h
   ·left;rw[h,Nat.testBit_two_pow_sub_one];simpa using h0
   ·have:=mM before 0 h i oi hi;simpa using this
  ·exact ow l (before++[o]) (j0+1) (by simp;omega) hb.2 i j oi oj h0 (by simpa using hi) (by simpa using hj) (by omega)
structure Static(P:Program)(ops:Array Oper)(N:Nat):Prop where
 le:N<=ops.size
 back:xi ops
 tail:∀ i j oi oj,N<=j->i<j->ops[i]?=some oi->ops[j]?=some oj->ord ops i j=true\/(cU P oi=true/\oi.apart ops oj=true)
 head:∀ i j oi oj,i<j->j<N->ops[i]?=some oi->ops[j]?=some oj->ord ops i j=true\/(oi.apart ops oj=true/\¬ (bg oi=true/\bg oj=true))
 nosel:∀ (j:Nat) (o:Oper) cs b,ops[j]?=some o->o.op≠.select cs b
theorem nh{N:Nat}(h:vX P ops (ju [] ops.toList) N=true):Static P ops N:=by
 simp only[vX,Lq,decide_eq_true_eq]at h;obtain⟨⟨⟨⟨h1,h2⟩,h3⟩,h4⟩,h5⟩:=h;refine⟨h1,fun i o ho e he hb=>?_,fun i j oi oj hN h0 hi hj=>?_,fun i j oi oj h0 h6 hi hj=>?_,fun j o cs b ho he=>?_⟩
 ·have:=pC ops.toList 0 h3 i o (by simpa using ho) e he hb;omega
 ·have:=ow (P:=P) (ops.toList.drop N) (ops.toList.take N) N (by simp;omega) h2 i j oi oj h0 (by rw[Mt];simpa using hi) (by rw[Mt];simpa using hj) hN;exact this
 ·have:=nW (ops.toList.take N) [] 0 rfl h4 i j oi oj h0 (by rw[Mf,LN,if_pos (by omega)];simpa using hi) (by rw[Mf,LN,if_pos h6];simpa using hj) (by omega);exact this
 ·have hm:o∈ops.toList:=Le (by simpa using ho);have:=Lp.1 h5 o hm;simp[Hw,he]at this
/-! ### The trace of the first operations -/
theorem qx{md:FuncId->Nat}{call:aW}{cfg:Cfg}{n0:Nat}:∀ (l:List Oper) (fr:List V) (h:Heap) (x:List Nat) (ld:List Nat) {fr':List V}{h':Heap}{x':List Nat}{ld':List Nat},
  eO P md call cfg n0 ops l fr h x ld=some (fr',h',x',ld') ->
  ∃ (F:Nat->List V) (H:Nat->Heap) (X:Nat->List Nat) (D:Nat->List Nat) (v:Nat->V),F 0=fr/\H 0=h/\X 0=x/\D 0=ld/\F l.length=fr'/\H l.length=h'/\X l.length=x'/\D l.length=ld' /\
   ∀ i o,l[i]?=some o->ei P md call cfg n0 ops o (F i) (H i) (X i) (D i)=some (v i,H (i+1),X (i+1),D (i+1))/\F (i+1)=put (F i) o.dst (v i)
 | [],fr,h,x,ld,fr',h',x',ld',hr=>by
  simp only[eO,Ll,LL]at hr;obtain⟨rfl,rfl,rfl,rfl⟩:=hr;exact⟨fun _=>fr,fun _=>h,fun _=>x,fun _=>ld,fun _=>.no,rfl,rfl,rfl,rfl,rfl,rfl,rfl,rfl,fun i o hi=>by simp at hi⟩
 | o::l,fr,h,x,ld,fr',h',x',ld',hr=>by
  simp only[eO]at hr;split at hr
  ·rename_i v h1 x1 ld1 hs;obtain⟨F,H,X,D,vs,e1,e2,e3,e4,e5,e6,e7,e8,h0⟩:=qx l _ _ _ _ hr;refine⟨fun i=>match i with|0=>fr|i+1=>F i,fun i=>match i with|0=>h|i+1=>H i,fun i=>match i with|0=>x|i+1=>X i,fun i=>match i with|0=>ld|i+1=>D i,
    fun i=>match i with|0=>v|i+1=>vs i,rfl,rfl,rfl,rfl,e5,e6,e7,e8,fun i oi hi=>?_⟩
   cases i with
   | zero =>
    simp at hi;subst hi;simp only[e1,e2,e3,e4];exact⟨hs,trivial⟩
   | succ i=>exact h0 i oi (by simpa using hi)
  ·cases hr
def frS(ops:Array Oper)(v:Nat->V)(S:Nat->Bool)(fr:List V):Nat->List V
 | 0=>fr
 | i+1=>match ops[i]? with
  | some o=>if S i then put (frS ops v S fr i) o.dst (v i) else frS ops v S fr i
  | none=>frS ops v S fr i
theorem zQ{fr:List V}{d:Option Tmp}{v:V}{s:Nat}(hne:d≠some s):(put fr d v)[s]?=fr[s]?:=by
 cases d with
 | none=>rfl
 | some d=>simp only[put];rw[Li (fun e=>hne (by rw[e]))]
theorem ym(fr:List V)(d:Option Tmp)(v:V):(put fr d v).length=fr.length:=by cases d<;>simp[put]
theorem qt{v:Nat->V}{S:Nat->Bool}{fr:List V}(n:Nat):(frS ops v S fr n).length=fr.length:=by
 induction n with
 | zero=>rfl
 | succ n ih =>
  simp only[frS];split
  ·split
   ·rw[ym,ih]
   ·exact ih
  ·exact ih
theorem CN{v:Nat->V}{S S':Nat->Bool}{fr:List V}{s:Nat}(n:Nat)(h:∀ j o,j<n->ops[j]?=some o->S j=S' j\/o.dst≠some s):(frS ops v S fr n)[s]?=(frS ops v S' fr n)[s]?:=by
 induction n with
 | zero=>rfl
 | succ n ih =>
  have ih:=ih fun j o hj ho=>h j o (by omega) ho;simp only[frS];split
  ·rename_i o ho;rcases h n o (by omega) ho with he|hne
   ·rw[he];split
    ·cases hd:o.dst with
     | none=>exact ih
     | some d =>
      simp only[put];by_cases h0:d=s
      ·subst h0;rw[Np,Np,qt,qt];simp
      ·rw[Li h0,Li h0];exact ih
    ·exact ih
   ·split<;>split<;>simp only[zQ hne,ih]
  ·exact ih
theorem AU{v:Nat->V}{fr:List V}{i:Nat}(n:Nat)(hi:i<=n):frS ops v (fun j=>decide (j<i)) fr n=frS ops v (fun _=>true) fr i:=by
 have step:∀ k,k<=i->frS ops v (fun j=>decide (j<i)) fr k=frS ops v (fun _=>true) fr k:=by
  intro k hk
  induction k with
  | zero=>rfl
  | succ k ih=>simp only[frS,ih (by omega),show k<i by omega,decide_true]
 induction n with
 | zero =>
  obtain rfl:i=0:=by omega
  rfl
 | succ n ih =>
  by_cases h0:i=n+1
  ·rw[h0]at step ⊢;exact step (n+1) (Lh _)
  ·have h1:=ih (by omega);simp only[frS,show ¬ n<i by omega,decide_false,LH,if_false];split<;>exact h1
theorem put_comm{fr:List V}{d d':Option Tmp}{u v:V}(hne:∀ s,d=some s->d'≠some s):put (put fr d u) d' v=put (put fr d' v) d u:=by
 cases d with
 | none=>rfl
 | some d=>cases d' with
  | none=>rfl
  | some d' =>
   have:d≠d':=fun e=>hne d rfl (by rw[e]);simp only[put];rw[N5 _ _ this]
theorem ze{v:Nat->V}{S:Nat->Bool}{fr:List V}{i:Nat}{o:Oper}(ho:ops[i]?=some o)(hS:S i=false)(n:Nat)(hi:i<n)
  (h0:∀ j oj,i<j->j<n->ops[j]?=some oj->S j=true->∀ s,o.dst=some s->oj.dst≠some s):frS ops v (bI S i) fr n=put (frS ops v S fr n) o.dst (v i):=by
 have low:∀ k,k<=i->frS ops v (bI S i) fr k=frS ops v S fr k:=by
  intro k hk
  induction k with
  | zero=>rfl
  | succ k ih =>
   have:bI S i k=S k:=by simp[bI,show k≠i by omega]
   simp only[frS,ih (by omega),this]
 induction n with
 | zero=>omega
 | succ n ih =>
  by_cases h6:n=i
  ·subst h6;have h1:bI S n n=true:=by simp[bI]
   simp only[frS,ho,h1,hS,if_true,LH,if_false,low n (Lh _)]
  ·have ih:=ih (by omega) fun j oj h1 h2 h3 h4=>h0 j oj h1 (by omega) h3 h4;have h1:bI S i n=S n:=by simp[bI,h6]
   simp only[frS,h1];split
   ·rename_i on h7;split
    ·rename_i h8;rw[ih,put_comm (h0 n on (by omega) (by omega) h7 h8)]
    ·exact ih
   ·exact ih
end
end Go.Ab
namespace Go.Ab
section
variable {P:Program}{ops:Array Oper}
theorem kY{cfg : Cfg}{fr : List V}{h h' : Heap}{op : Op}{v : V}(h0 : eY P op = true)(hv : opV P cfg fr h op = some (v, h')): h' = h \/ ∃ n, h' = h ++ [n] := by
  cases op<;>simp only[eY, LH]at h0
  case call c =>
    obtain⟨callee, args, tys⟩ := c;cases callee with
    | value f => simp at h0
    | invoke r n => simp at h0
    | builtin b =>
      simp only[opV]at hv;split at hv
      · cases hv
      · split at hv
        · exact .inl (aF hv).2
        · simp at h0
        · exact .inl (aF hv).2
        · exact .inl (aF hv).2
        · simp at h0
        · cases hv
  case convert s d y =>
    simp only[opV]at hv;split at hv
    · split at h0
      · rename_i k hd
        unfold fB at hv;rw[hd]at hv;split at hv
        · rename_i h1 h2;cases h2
        · split at hv
          · cases hv;exact .inl rfl
          · cases hv
        · rename_i h1 h2;cases h2
        · rename_i h1 h2;cases h2
        · cases hv
      · cases h0
    · cases hv
  case makeMap t r =>
    cases r with
    | some o => simp[opV]at hv
    | none =>
      simp only[opV]at hv;unfold dQ at hv
      repeat' split at hv
      all_goals first|(cases hv;done)|(cases hv;exact .inr ⟨_, rfl⟩)
  case slice t y l hh mx =>
    cases mx with
    | none =>
      simp only[opV]at hv;split at hv
      · exact .inl (aF hv).2
      · cases hv
    | some o => simp[opV]at hv
  all_goals
    simp only[opV]at hv
    repeat' split at hv
    all_goals first
      | (cases hv;done)
      | exact .inl (aF hv).2
      | (cases hv;first|exact .inl rfl|exact .inr ⟨_, rfl⟩)
      | (unfold aI at hv;repeat' split at hv
         all_goals first|(cases hv;done)|(cases hv;exact .inr ⟨_, rfl⟩))
      | (unfold cE at hv;repeat' split at hv
         all_goals first|(cases hv;done)|(cases hv;exact .inr ⟨_, rfl⟩))
theorem rG{c : Cfg}{fr : List V}{h h' : Heap}{t : TypeId}{p y : Operand}{v : V}(hv : opV P c fr h (.store t p y) = some (v, h')): h'.length = h.length := by
  simp only[opV]at hv;split at hv
  · split at hv
    · rename_i h1 hs
      cases hv;unfold aQ at hs
      repeat' split at hs
      all_goals first
        | (cases hs;done)
        | (unfold aP at hs;repeat' split at hs
           all_goals first|(cases hs;done)|(cases hs;simp))
    · cases hv
  · cases hv
theorem qN{c:Cfg}{fr:List V}{h h':Heap}{t:TypeId}{p y:Operand}{v:V}{b off:Nat}(hp:ev fr p=some (.ptr b off))(hv:opV P c fr h (.store t p y)=some (v,h')):∃ cs,ab h b=some cs:=by
 simp only[opV,hp]at hv;split at hv
 ·rename_i q z hq hz;cases hq;split at hv
  ·rename_i h1 hs;unfold aQ at hs;split at hs
   ·rename_i heq _ _;cases heq;split at hs
    ·unfold aP at hs;split at hs
     ·rename_i cs h0;exact⟨cs,h0⟩
     ·cases hs
    ·cases hs
   ·cases hs
  ·cases hv
 ·cases hv
def Kind(P:Program)(md:FuncId->Nat)(call:aW)(cfg:Cfg)(n0:Nat)(ops:Array Oper)(o:Oper)(fr:List V)(h:Heap)(v:V)(h':Heap)(x:List Nat):Prop:=
 (cY ops fr o=some false/\v=.no/\h'=h) \/
 (cY ops fr o=some true/\bg o=false/\eY P o.op=true/\opV P cfg fr h o.op=some (v,h')/\∀ b∈x,eQ fr o.op≠some b) \/
 (cY ops fr o=some true/\bg o=true/\h.length<=h'.length/\∃ c:Cfg,c.thr=h.length/\aH P md call c fr h o.op=some (v,h')/\(∀ b,b<h.length->¬ b∈x->c.wr b=false) /\
  (∀ b,n0<=b->b<h.length->c.wr b=true->∃ t p y off cs,o.op=.store t p y/\ev fr p=some (.ptr b off)/\ab h b=some cs))
theorem A2(_hN:dG P){md:FuncId->Nat}{call:aW}(h4:cZ P call){cfg:Cfg}{n0:Nat}{o:Oper}{fr:List V}{h h':Heap}{x x':List Nat}{ld ld':List Nat}{v:V}
  (hs:ei P md call cfg n0 ops o fr h x ld=some (v,h',x',ld')):
  (∀ b∈x,b∈x')/\(∀ b∈x',b∈x\/cfg.wr b=true)/\(∀ b∈ld,b∈ld') /\
   ∀ y:List Nat,(∀ b∈x',b∈y)->(∀ b∈y,¬ b∈ld')->Kind P md call cfg n0 ops o fr h v h' y:=by
 unfold ei at hs;split at hs
 ·cases hs
 ·rename_i hw;simp only[Ll,LL]at hs;obtain⟨rfl,rfl,rfl,rfl⟩:=hs;exact⟨fun b h=>h,fun b h=>.inl h,fun b h=>h,fun y _ _=>.inl ⟨hw,rfl,rfl⟩⟩
 ·rename_i hw;split at hs
  ·rename_i f args tys h6;have h8:bg o=true:=by simp[bg,h6]
   split at hs
   ·rename_i g first captured vs hf ha
    split at hs
    ·rename_i hm;split at hs
     ·rename_i v1 h1 hc;simp only[Ll,LL]at hs;obtain⟨rfl,rfl,rfl,rfl⟩:=hs;obtain⟨h9,_⟩:=gY h4 hc;refine⟨fun b h=>h,fun b h=>.inl h,fun b h=>h,fun y _ _=>.inr (.inr ⟨hw,h8,h9.len,⟨h.length,[],h.length⟩,rfl,?_,fun b hb _=>?_,fun b _ hb h3=>?_⟩)⟩
      ·simp only[aH,h6,hf,ha];exact hc
      ·simp[Cfg.wr];omega
      ·simp[Cfg.wr]at h3;omega
     ·cases hs
    ·rename_i hm;split at hs
     ·rename_i v1 h1 hc;simp only[Ll,LL]at hs;obtain⟨rfl,rfl,rfl,rfl⟩:=hs;obtain⟨h9,_⟩:=gY h4 hc;refine⟨fun b h=>h,fun b h=>.inl h,fun b h=>h,fun y _ _=>.inr (.inr ⟨hw,h8,h9.len,⟨h.length,[],h.length⟩,rfl,?_,fun b hb _=>?_,fun b _ hb h3=>?_⟩)⟩
      ·simp only[aH,h6,hf,ha];exact hc
      ·simp[Cfg.wr];omega
      ·simp[Cfg.wr]at h3;omega
     ·cases hs
    ·rename_i hm;split at hs
     ·rename_i b off rest has;split at hs
      ·rename_i h0;simp only[Lq,decide_eq_true_eq]at h0;split at hs
       ·rename_i v1 h1 hc;simp only[Ll,LL]at hs;obtain⟨rfl,rfl,rfl,rfl⟩:=hs;rw[has]at hc;obtain⟨h9,_⟩:=gY h4 hc;refine⟨fun c h7=>Lm _ h7,fun c h7=>?_,fun b h=>h,fun y hy _=>.inr (.inr ⟨hw,h8,h9.len,⟨h.length,[b],h.length⟩,rfl,?_,fun c hd he=>?_,fun c hg hd h3=>?_⟩)⟩
        ·rcases Ly.1 h7 with rfl|h
         ·exact .inr h0.1
         ·exact .inl h
        ·simp only[aH,h6,hf,ha,has];exact hc
        ·have hne:c≠b:=fun e=>he (by rw[e];exact hy b Lv);simp[Cfg.wr,hne];omega
        ·simp[Cfg.wr]at h3;have:=h0.2;omega
       ·cases hs
      ·cases hs
     ·cases hs
    ·rename_i hm;split at hs
     ·rename_i v1 h1 hc;simp only[Ll,LL]at hs;obtain⟨rfl,rfl,rfl,rfl⟩:=hs;obtain⟨h9,_⟩:=gY h4 hc;refine⟨fun b h=>h,fun b h=>.inl h,fun b h=>h,fun y _ _=>.inr (.inr ⟨hw,h8,h9.len,⟨h.length,[],h.length⟩,rfl,?_,fun b hb _=>?_,fun b _ hb h3=>?_⟩)⟩
      ·simp only[aH,h6,hf,ha];exact hc
      ·simp[Cfg.wr];omega
      ·simp[Cfg.wr]at h3;omega
     ·cases hs
    ·split at hs
     ·rename_i h0;simp only[Lq,Lp,decide_eq_true_eq]at h0;split at hs
      ·rename_i v1 h1 hc;simp only[Ll,LL]at hs;obtain⟨rfl,rfl,rfl,rfl⟩:=hs;obtain⟨h9,_⟩:=gY h4 hc;refine⟨fun c h7=>List.mem_append_right _ h7,fun c h7=>?_,fun b h=>h,fun y hy _=>.inr (.inr ⟨hw,h8,h9.len,⟨h.length,mapsIn h,h.length⟩,rfl,?_,fun c hd he=>?_,fun c hg hd h3=>?_⟩)⟩
       ·rcases LA.1 h7 with h|h
        ·exact .inr (h0.2 c h).1
        ·exact .inl h
       ·simp only[aH,h6,hf,ha];exact hc
       ·have hne:¬ c∈mapsIn h:=fun e=>he (hy c (Nb _ e));simp[Cfg.wr,hne];omega
       ·simp[Cfg.wr]at h3;rcases h3 with h3|h3
        ·omega
        ·have:=(h0.2 c h3).2;omega
      ·cases hs
     ·cases hs
   ·cases hs
  ·rename_i t p y h6;have h8:bg o=true:=by simp[bg,h6]
   split at hs
   ·rename_i b off hp;split at hs
    ·rename_i h0;split at hs
     ·rename_i v1 h1 hv;simp only[Ll,LL]at hs;obtain⟨rfl,rfl,rfl,rfl⟩:=hs;refine⟨fun c h7=>Lm _ h7,fun c h7=>?_,fun b h=>h,fun y' hy _=>.inr (.inr ⟨hw,h8,by rw[rG hv];exact Lh _,⟨h.length,[b],h.length⟩,rfl,?_,fun c hd he=>?_,fun c hg hd h3=>?_⟩)⟩
      ·rcases Ly.1 h7 with rfl|h
       ·exact .inr h0
       ·exact .inl h
      ·rw[h6];exact hv
      ·have hne:c≠b:=fun e=>he (by rw[e];exact hy b Lv);simp[Cfg.wr,hne];omega
      ·have hj:c=b:=by
        simp[Cfg.wr]at h3;rcases h3 with h3|h3
        ·omega
        ·exact h3
       subst hj;obtain⟨cs,hl⟩:=qN hp hv;exact⟨t,p,y,off,cs,h6,hp,hl⟩
     ·cases hs
    ·cases hs
   ·cases hs
  ·rename_i hn hq;have h8:bg o=false:=by
    unfold bg;split
    ·rename_i f args tys h6;exact absurd h6 (hn f args tys)
    ·rename_i t p y h6;exact absurd h6 (hq t p y)
    ·rfl
   split at hs
   ·rename_i hh;split at hs
    ·rename_i v1 h1 hv;simp only[Ll,LL]at hs;obtain⟨rfl,rfl,rfl,rfl⟩:=hs;refine⟨fun b h=>h,fun b h=>.inl h,fun b h=>?_,fun y hy ht=>.inr (.inl ⟨hw,h8,hh,hv,fun b hb hr=>?_⟩)⟩
     ·split
      ·exact Lm _ h
      ·exact h
     ·refine ht b hb ?_;rw[hr];exact Lv
    ·cases hs
   ·cases hs
structure Tr(P:Program)(md:FuncId->Nat)(call:aW)(cfg:Cfg)(ops:Array Oper)(N:Nat)(x:List Nat)(F:Nat->List V)(H:Nat->Heap)(v:Nat->V):Prop where
 xwr:∀ b∈x,cfg.wr b=true
 step:∀ i o,i<N->ops[i]?=some o->F (i+1)=put (F i) o.dst (v i)/\Kind P md call cfg (H 0).length ops o (F i) (H i) (v i) (H (i+1)) x
theorem Eo{p:Nat->Prop}{N:Nat}(hs:∀ i,i<N->p i->p (i+1)){i:Nat}(hi:p i):∀ (j:Nat),i<=j->j<=N->p j:=by
 intro j h0
 induction h0 with
 | refl=>intro _;exact hi
 | step _ ih=>intro hj;exact hs _ (by omega) (ih (by omega))
theorem BE(hN:dG P){md:FuncId->Nat}{call:aW}(h0:cZ P call){cfg:Cfg}{N:Nat}(hle:N<=ops.size){fr fr1:List V}{h h1:Heap}{x:List Nat}{ld:List Nat}
  (hr:eO P md call cfg h.length ops (ops.toList.take N) fr h [] []=some (fr1,h1,x,ld)) (hx:oE ld x=true):
  ∃ F H v,F 0=fr/\H 0=h/\F N=fr1/\H N=h1/\Tr P md call cfg ops N x F H v:=by
 obtain⟨F,H,X,D,v,e1,e2,e3,e4,e5,e6,e7,e8,h9⟩:=qx _ _ _ _ _ hr;have hlen:(ops.toList.take N).length=N:=by simp;omega
 rw[hlen]at e5 e6 e7 e8;have h3:∀ i o,i<N->ops[i]?=some o->(ops.toList.take N)[i]?=some o:=fun i o hi ho=>by rw[LN,if_pos hi];simpa using ho
 have info:=fun i o (hi:i<N) (ho:ops[i]?=some o)=>A2 hN h0 (h9 i o (h3 i o hi ho)).1
 -- x and ld only grow
 have h4:∀ i,i<=N->∀ b∈X i,b∈x:=by
  intro i hi b hb;rw[<- e7];exact Eo (p:=fun j=>b∈X j) (N:=N) (fun j hj h6=>(info j ops[j] hj (Lr (by omega))).1 b h6) hb N hi (Lh _)
 have h7:∀ i,i<=N->∀ b∈D i,b∈ld:=by
  intro i hi b hb;rw[<- e8];exact Eo (p:=fun j=>b∈D j) (N:=N) (fun j hj h6=>(info j ops[j] hj (Lr (by omega))).2.2.1 b h6) hb N hi (Lh _)
 have ha:∀ b∈x,¬ b∈ld:=by
  intro b hb;have h1:=Lp.1 hx b hb;simpa using h1
 refine⟨F,H,v,e1,e2,e5,e6,fun b hb=>?_,fun i o hi ho=>?_⟩
 ·have key:∀ i,i<=N->∀ b∈X i,cfg.wr b=true:=by
   intro i
   induction i with
   | zero=>intro _ b hb;rw[e3]at hb;cases hb
   | succ i ih =>
    intro hi b hb;rcases (info i ops[i] (by omega) (Lr (by omega))).2.1 b hb with h1|h1
    ·exact ih (by omega) b h1
    ·exact h1
  exact key N (Lh _) b (by rw[e7];exact hb)
 ·rw[e2];exact⟨(h9 i o (h3 i o hi ho)).2,(info i o hi ho).2.2.2 x (fun b hb=>h4 (i+1) (by omega) b hb) fun b hb h8=>ha b hb (h7 (i+1) (by omega) b h8)⟩
end
end Go.Ab
namespace Go.Ab
theorem Bel.mono{s t:Nat}(h0:s<=t){v:V}(h:Bel s v):Bel t v:=by
 induction h with
 | rf h=>exact .rf h
 | ptr h=>exact .ptr (by omega)
 | sl h=>exact .sl (by omega)
 | mref h=>exact .mref (by omega)
 | func _ _ ih ih'=>exact .func ih ih'
 | agg _ ih=>exact .agg ih
 | tup _ ih=>exact .tup ih
 | iface _ ih=>exact .iface ih
section
variable {P:Program}{md:FuncId->Nat}{call:aW}{cfg:Cfg}{ops:Array Oper}{N:Nat}{x:List Nat}{F:Nat->List V}{H:Nat->Heap}{v:Nat->V}
theorem Tr.len1(tr:Tr P md call cfg ops N x F H v)(hle:N<=ops.size){i:Nat}(hi:i<N):(H i).length<=(H (i+1)).length:=by
 obtain⟨_,hk⟩:=tr.step i ops[i] hi (Lr (by omega));rcases hk with⟨_,_,h⟩|⟨_,_,h1,h2,_⟩|⟨_,_,h,_⟩
 ·rw[h];exact Lh _
 ·rcases kY h1 h2 with h|⟨n,h⟩<;>rw[h]<;>simp
 ·omega
theorem Tr.len(tr:Tr P md call cfg ops N x F H v)(hle:N<=ops.size){i j:Nat}(h0:i<=j)(hj:j<=N):(H i).length<=(H j).length:=
 Eo (p:=fun j=>(H i).length<=(H j).length) (N:=N) (fun _ hk h=>Mv h (tr.len1 hle hk)) (Lh _) j h0 hj
theorem Tr.hs(hN:dG P)(h0:cZ P call)(tr:Tr P md call cfg ops N x F H v)(hle:N<=ops.size){i:Nat}(hi:i<N):
  (∀ b,b<(H i).length->¬ b∈x->(H (i+1))[b]?=(H i)[b]?)/\(bg ops[i]=false->∀ b,b<(H i).length->(H (i+1))[b]?=(H i)[b]?)/\(∀ (D:Nat->Prop) (t:Nat),t<=(H i).length->Inv D (H i) t->Inv D (H (i+1)) t):=by
 obtain⟨_,hk⟩:=tr.step i ops[i] hi (Lr (by omega));rcases hk with⟨_,_,h⟩|⟨_,h4,h1,h2,_⟩|⟨_,h4,_,c,h3,h7,h8,_⟩
 ·rw[h];exact⟨fun _ _ _=>rfl,fun _ _ _=>rfl,fun _ _ _ h=>h⟩
 ·have key:∀ b,b<(H i).length->(H (i+1))[b]?=(H i)[b]?:=by
   intro b hb;rcases kY h1 h2 with h|⟨n,h⟩
   ·rw[h]
   ·rw[h,Lf hb]
  refine⟨fun b hb _=>key b hb,fun _ b hb=>key b hb,fun D t ht hinv b cs hb hD hc c h9=>?_⟩;rw[key b (by omega)]at hc;exact hinv b cs hb hD hc c h9
 ·obtain⟨_,h6⟩:=my hN h0 h7;refine⟨fun b hb hx=>h6.prot b hb (h8 b hb hx),(fun h=>by rw[h4]at h;cases h),fun D t ht hinv=>h6.inv D t (by rw[h3];exact ht) ht hinv⟩
theorem Tr.same(hN:dG P)(h0:cZ P call)(tr:Tr P md call cfg ops N x F H v)(hle:N<=ops.size){i j b:Nat}(h3:i<=j)(hj:j<=N)(hb:b<(H i).length)(hx:¬ b∈x):(H j)[b]?=(H i)[b]?:=by
 have:=Eo (p:=fun j=>b<(H j).length/\(H j)[b]?=(H i)[b]?) (N:=N) (fun k hk h=>⟨LF h.1 (tr.len1 hle hk),((tr.hs hN h0 hle hk).1 b h.1 hx).trans h.2⟩) ⟨hb,rfl⟩ j h3 hj;exact this.2
theorem Tr.xsame(hN:dG P)(h0:cZ P call)(tr:Tr P md call cfg ops N x F H v)(hle:N<=ops.size){i j b:Nat}(h3:i<=j)(hj:j<=N)(hb:b<(H i).length)(h4:∀ k (hk:k<ops.size),i<=k->k<j->bg ops[k]=false):(H j)[b]?=(H i)[b]?:=by
 have:=Eo (p:=fun q=>b<(H q).length/\(H q)[b]?=(H i)[b]?/\i<=q) (N:=j) (fun k hk h=>⟨LF h.1 (tr.len1 hle (by omega)),((tr.hs hN h0 hle (by omega)).2.1 (h4 k (by omega) h.2.2 hk) b h.1).trans h.2.1,by omega⟩) ⟨hb,rfl,Lh _⟩ j h3 (Lh _);exact this.2.1
def fq(h:Heap)(src:Nat->Option (List V)):List Nat->Heap
 | []=>h
 | b::r=>(fq h src r).set b (src b)
theorem dS(h:Heap)(src:Nat->Option (List V)):∀ x,(fq h src x).length=h.length
 | []=>rfl
 | b::r=>by rw[fq,LS,dS h src r]
theorem gE{h:Heap}{src:Nat->Option (List V)}{b:Nat}:∀ {x:List Nat},¬ b∈x->(fq h src x)[b]?=h[b]?
 | [],_=>rfl
 | c::r,hb=>by
  rw[fq,Li (fun e=>hb (by rw[e];exact Lv)),gE fun h=>hb (Lm _ h)]
theorem gg{h:Heap}{src:Nat->Option (List V)}{b:Nat}(h1:b<h.length):∀ {x:List Nat},b∈x->(fq h src x)[b]?=some (src b)
 | c::r,hb=>by
  rw[fq];by_cases h0:c=b
  ·subst h0;rw[Lo (by rw[dS];exact h1)]
  ·rw[Li h0];rcases Ly.1 hb with h|h
   ·exact absurd h.symm h0
   ·exact gg h1 h
theorem bV{h:Heap}{b:Nat}{o:Option (List V)}(hb:h[b]?=some o):h.set b o=h:=by
 apply LY;intro c;by_cases h0:b=c
 ·subst h0;rw[Lo (Ld.1 hb).1,hb]
 ·rw[Li h0]
theorem qM{cfg:Cfg}{fr:List V}{h h':Heap}{src:Nat->Option (List V)}{op:Op}{v:V}(h0:eY P op=true)(hv:opV P cfg fr h op=some (v,h'))(hle:h.length<=h'.length):∀ {x:List Nat},(∀ b∈x,eQ fr op≠some b)->(∀ b∈x,h.length<=b->b<h'.length->h'[b]?=some (src b)) ->
  opV P cfg fr (fq h src x) op=some (v,fq h' src x)
 | [],_,_=>hv
 | b::r,hr,hx=>by
  have ih:=qM (src:=src) h0 hv hle (x:=r) (fun c hc=>hr c (Lm _ hc)) fun c hc=>hx c (Lm _ hc);by_cases hb:b<h.length
  ·exact Gc _ h0 (hr b Lv) (by rw[dS];exact hb) ih
  ·rw[fq,fq,Nq (by rw[dS];omega)];by_cases h3:b<h'.length
   ·rw[bV]
    ·exact ih
    ·by_cases h4:b∈r
     ·exact gg h3 h4
     ·rw[gE h4];exact hx b Lv (by omega) h3
   ·rw[Nq (by rw[dS];omega)];exact ih
def bi(H:Nat->Heap)(b:Nat):Nat->Nat
 | 0=>0
 | n+1=>if b<(H (bi H b n)).length then bi H b n else n+1
theorem lQ(H:Nat->Heap)(b:Nat):∀ n,(∀ j,j<bi H b n->¬ b<(H j).length)/\bi H b n<=n/\∀ j,j<=n->b<(H j).length->b<(H (bi H b n)).length
 | 0=>⟨fun j hj=>by simp[bi]at hj,Lh _,fun j hj h=>by
   obtain rfl:j=0:=by omega
   exact h⟩
 | n+1=>by
  obtain⟨h1,h2,h3⟩:=lQ H b n;unfold bi;split
  ·rename_i hb;exact⟨h1,by omega,fun _ _ _=>hb⟩
  ·rename_i hb;refine⟨fun j hj h0=>hb (h3 j (by omega) h0),Lh _,fun j hj h0=>?_⟩;by_cases h4:j=n+1
   ·rw[<- h4];exact h0
   ·exact absurd (h3 j (by omega) h0) hb
theorem uD{H:Nat->Heap}{b N i:Nat}(hb:b<(H i).length):bi H b N<=i:=by
 rcases LX i (bi H b N) with h|h
 ·exact absurd hb ((lQ H b N).1 i h)
 ·exact h
theorem rU{H:Nat->Heap}{b N i:Nat}(hi:i<=N)(hb:b<(H i).length):b<(H (bi H b N)).length:=(lQ H b N).2.2 i hi hb
theorem bi_at{H:Nat->Heap}{b N a:Nat}(hm:∀ j,j<=a->(H j).length<=(H a).length)(ha:a+1<=N)(h1:(H a).length<=b)(h2:b<(H (a+1)).length):bi H b N=a+1:=by
 have h3:=uD (N:=N) h2;have h4:=rU ha h2;rcases LX (bi H b N) (a+1) with h|h
 ·have:=hm (bi H b N) (by omega);omega
 ·omega
def src(H:Nat->Heap)(N k b:Nat):Option (List V):=(H (max k (bi H b N))).getD b none
def G(H:Nat->Heap)(N:Nat)(x:List Nat)(k:Nat):Heap:=fq (H N) (src H N k) x
theorem lO(k:Nat):(G H N x k).length=(H N).length:=dS _ _ _
theorem iI{k b:Nat}(hx:¬ b∈x):(G H N x k)[b]?=(H N)[b]?:=gE hx
theorem yy(tr:Tr P md call cfg ops N x F H v)(hle:N<=ops.size){k b i:Nat}(hk:k<=N)(hi:i<=N)(hb:b<(H i).length):(H (max k (bi H b N)))[b]?=some (src H N k b):=by
 have h1:=rU hi hb;have h2:=(lQ H b N).2.1;have h3:b<(H (max k (bi H b N))).length:=LF h1 (tr.len hle (by omega) (by omega));unfold src;rw[Lg,Lc h3];rfl
theorem G_x(tr:Tr P md call cfg ops N x F H v)(hle:N<=ops.size){k b:Nat}(hk:k<=N)(hx:b∈x)(h1:b<(H N).length):(G H N x k)[b]?=(H (max k (bi H b N)))[b]?:=by
 unfold G;rw[gg h1 hx,yy tr hle hk (Lh _) h1]
def Hx(H:Nat->Heap)(N:Nat)(x:List Nat)(k i:Nat):Heap:=fq (H i) (src H N k) x
theorem px(hN:dG P)(h0:cZ P call)(tr:Tr P md call cfg ops N x F H v)(hle:N<=ops.size){i k:Nat}(hi:i<=N):(G H N x k).take (H i).length=Hx H N x k i:=by
 have hl:=tr.len hle hi (Lh _);apply LY;intro b;rw[LN];split
 ·rename_i hb;by_cases hx:b∈x
  ·unfold G Hx;rw[gg (by omega) hx,gg hb hx]
  ·rw[iI hx,tr.same hN h0 hle hi (Lh _) hb hx];unfold Hx;rw[gE hx]
 ·rename_i hb;unfold Hx;rw[Lw (by rw[dS];omega)]
theorem oN(tr:Tr P md call cfg ops N x F H v)(hle:N<=ops.size){i k:Nat}(hi:i<=N)(hk:k<=N)(h0:∀ b∈x,b<(H i).length->(H i)[b]?=(H (max k (bi H b N)))[b]?):Hx H N x k i=H i:=by
 unfold Hx;apply LY;intro c;by_cases h3:c∈x
 ·by_cases hc:c<(H i).length
  ·rw[gg hc h3,h0 c h3 hc,yy tr hle hk hi hc]
  ·rw[Lw (by rw[dS];omega),Lw (by omega)]
 ·rw[gE h3]
structure JH(ops:Array Oper)(N:Nat)(x:List Nat)(F:Nat->List V)(H:Nat->Heap)(v:Nat->V)(m0:Mu)(w0:World)(S:Nat->Bool)(a:Act)(w:World)(m:Mu)(k:Nat):Prop where
 kle:k<=N
 kcall:∀ i (hi:i<ops.size),i<N->bg ops[i]=true->(S i=true↔i<k)
 tail:∀ i,N<=i->S i=false
 born:∀ b∈x,∀ c,c<N->(H c).length<=b->b<(H (c+1)).length->S c=false->(H (max k (c+1)))[b]?=(H (c+1))[b]?
 evo:Evo m0 (H 0) w0 m (G H N x k) w
 rel:Rel m (G H N x k) w
 fR:FR m (G H N x k) w (frS ops v S (F 0) N) a
 dom:∀ b c,live (G H N x k) b->m b=some c->b<(H 0).length\/∃ i,S i=true/\i<N/\(H i).length<=b/\b<(H (i+1)).length
 bel:∀ b c cs,(G H N x k)[b]?=some (some cs)->m b=some c->∀ j,j<=N->b<(H j).length->∀ e∈cs,Bel (H j).length e
 vb:∀ i,S i=true->i<N->Bel (H (i+1)).length (v i)
theorem GR(tr:Tr P md call cfg ops N x F H v)(hle:N<=ops.size){i:Nat}(hi:i<=N):F i=frS ops v (fun _=>true) (F 0) i:=by
 induction i with
 | zero=>rfl
 | succ i ih =>
  have ho:ops[i]?=some ops[i]:=Lr (by omega);rw[(tr.step i ops[i] (by omega) ho).1,ih (by omega)];simp[frS,ho]
theorem zY(st:Static P ops N)(tr:Tr P md call cfg ops N x F H v){S:Nat->Bool}(h4:Closed ops S){i:Nat}{o:Oper}(hi:i<N)(ho:ops[i]?=some o)(hS:S i=false)(hr:Ready S o){s:Nat}(hs:s∈o.looksAt ops):
  (frS ops v S (F 0) N)[s]?=(F i)[s]?:=by
 rw[GR tr st.le (by omega:i<=N),<- AU (ops:=ops) (v:=v) (fr:=F 0) N (by omega:i<=N)];refine CN N fun j oj hj h3=>?_;by_cases h6:j<i
 ·simp only[h6,decide_true];by_cases h0:S j=true
  ·exact .inl h0
  ·right;rcases st.head j i oj o h6 hi h3 ho with h|⟨h,_⟩
   ·exact absurd (cN st.back h4 i o ho hr h) h0
   ·exact fun hd=>(Oper.apart_spec h).1 s hd hs
 ·simp only[h6,decide_false];by_cases h0:S j=true
  ·right;have h7:i<j:=by
    rcases LX i j with h|h
    ·exact h
    ·have:i=j:=by omega
     subst this;rw[hS]at h0;cases h0
   rcases st.head i j o oj h7 hj ho h3 with h|⟨h,_⟩
   ·have:=cN st.back h4 j oj h3 (h4 j oj h3 h0) h;rw[hS]at this;cases this
   ·exact fun hd=>(Oper.apart_spec h).2.2 s hd hs
  ·exact .inl (by simpa using h0)
theorem vO(st:Static P ops N){S:Nat->Bool}(h3:Closed ops S){i:Nat}{o:Oper}(ho:ops[i]?=some o)(hS:S i=false):
  ∀ j oj,i<j->j<N->ops[j]?=some oj->S j=true->∀ s,o.dst=some s->oj.dst≠some s:=by
 intro j oj h4 hj h0 h6 s hs;rcases st.head i j o oj h4 hj ho h0 with h|⟨h,_⟩
 ·have:=cN st.back h3 j oj h0 (h3 j oj h0 h6) h;rw[hS]at this;cases this
 ·exact (Oper.apart_spec h).2.1 s hs
theorem wK(tr:Tr P md call cfg ops N x F H v)(hle:N<=ops.size){s:Nat}(h0:∀ c,(F 0)[s]?=some c->Bel (H 0).length c):∀ (i:Nat),i<=N->(∀ j o,j<i->ops[j]?=some o->o.dst=some s->Bel (H (j+1)).length (v j)) ->
  ∀ c,(F i)[s]?=some c->Bel (H i).length c:=by
 intro i
 induction i with
 | zero=>intro _ _ c hc;exact h0 c hc
 | succ i ih =>
  intro hi hw c hc;have ho:ops[i]?=some ops[i]:=Lr (by omega);rw[(tr.step i ops[i] (by omega) ho).1]at hc;by_cases hd:ops[i].dst=some s
  ·rw[hd]at hc;simp only[put]at hc;by_cases h3:s<(F i).length
   ·rw[Lo h3]at hc;cases hc;exact hw i ops[i] (by omega) ho hd
   ·rw[Nq (by omega),Lw (by omega)]at hc;cases hc
  ·rw[zQ hd]at hc;exact (ih (by omega) (fun j o hj=>hw j o (by omega)) c hc).mono (tr.len1 hle (by omega))
end
end Go.Ab
namespace Go.Ab
section
variable {P:Program}{md:FuncId->Nat}{call:aW}{cfg:Cfg}{ops:Array Oper}{N:Nat}{x:List Nat}{F:Nat->List V}{H:Nat->Heap}{v:Nat->V}{m0:Mu}{w0:World}
theorem gj(S:Nat->Bool)(i:Nat):bI S i i=true:=by simp[bI]
theorem pz{S:Nat->Bool}{i j:Nat}(h:S j=true):bI S i j=true:=by simp only[bI];split<;>simp_all
theorem dH{S:Nat->Bool}{i j:Nat}(h:j≠i):bI S i j=S j:=by simp[bI,h]
theorem pH(st:Static P ops N){S:Nat->Bool}{k:Nat}(hk:∀ i (hi:i<ops.size),i<N->bg ops[i]=true->(S i=true↔i<k))(h6:Closed ops S){i:Nat}{o:Oper}(hi:i<N)(ho:ops[i]?=some o)(hS:S i=false)(hr:Ready S o)(hc:bg o=true):
  k<=i/\(∀ j (hj:j<ops.size),k<=j->j<i->bg ops[j]=false)/\∀ j (hj:j<ops.size),j<N->bg ops[j]=true->(bI S i j=true↔j<i+1):=by
 have h7:i<ops.size:=(Lz.1 ho).1;have h8:ops[i]=o:=(Lz.1 ho).2;have h9:k<=i:=by
  rcases LX i k with h|h
  ·have:=(hk i h7 hi (by rw[h8];exact hc)).2 h;rw[hS]at this;cases this
  ·exact h
 have h4:∀ j (hj:j<ops.size),j<i->bg ops[j]=true->S j=true:=by
  intro j hj h3 h0;rcases st.head j i ops[j] o h3 hi (Lr hj) ho with h|⟨_,h⟩
  ·exact cN st.back h6 i o ho hr h
  ·exact absurd ⟨h0,hc⟩ h
 refine⟨h9,fun j hj hf h3=>?_,fun j hj ha h0=>?_⟩
 ·cases h0:bg ops[j]with
  | false=>rfl
  | true =>
   have h1:=(hk j hj (by omega) h0).1 (h4 j hj h3 h0);omega
 ·by_cases h3:j=i
  ·subst h3;simp[gj]
  ·rw[dH h3];constructor
   ·intro hd;rcases LX j i with h|h
    ·omega
    ·exfalso;have he:i<j:=by omega
     rcases st.head i j o ops[j] he ha ho (Lr hj) with h2|⟨_,h2⟩
     ·have:=cN st.back h6 j _ (Lr hj) (h6 j _ (Lr hj) hd) h2;rw[hS]at this;cases this
     ·exact h2 ⟨hc,h0⟩
   ·intro hg;exact h4 j hj (by omega) h0
theorem lk{S:Nat->Bool}{k:Nat}(hk:∀ i (hi:i<ops.size),i<N->bg ops[i]=true->(S i=true↔i<k)){i:Nat}{o:Oper}(ho:ops[i]?=some o)(hc:bg o=false):
  ∀ j (hj:j<ops.size),j<N->bg ops[j]=true->(bI S i j=true↔j<k):=by
 intro j hj h3 h0;have h4:j≠i:=by
  rintro rfl;have h6:ops[j]=o:=(Lz.1 ho).2;rw[h6,hc]at h0;cases h0
 rw[dH h4];exact hk j hj h3 h0
theorem xN(st:Static P ops N)(_hN:dG P)(_hcall:cZ P call)(tr:Tr P md call cfg ops N x F H v){S:Nat->Bool}{a:Act}{w:World}{m:Mu}{k:Nat}(J:JH ops N x F H v m0 w0 S a w m k)(hM:Closed ops S)
  {i:Nat} {o:Oper} (hi:i<N) (ho:ops[i]?=some o) (hS:S i=false) {k':Nat} (hD:k'<=N) (hN:k'=k\/k<=i/\k'=i+1) (he:∀ b∈x,∀ c,c<N->(H c).length<=b->b<(H (c+1)).length->bI S i c=false->(H (max k' (c+1)))[b]?=(H (c+1))[b]?) (hO:∀ j (hj:j<ops.size),j<N->bg ops[j]=true->(bI S i j=true↔j<k'))
  {m':Mu} {w':World} {u:Value} (e:Evo (m.cut (G H N x k) (H i).length) ((G H N x k).take (H i).length) w m' ((G H N x k').take (H (i+1)).length) w') (r':Rel m' ((G H N x k').take (H (i+1)).length) w')
  (hE:R m' ((G H N x k').take (H (i+1)).length) w' (v i) u)
  (ha:∀ b c cs,b<(H i).length->b∈x->(G H N x k')[b]?=some (some cs)->m' b=some c->∀ j,j<=N->b<(H j).length->∀ e∈cs,Bel (H j).length e):
  JH ops N x F H v m0 w0 (bI S i) (a.put o.dst u) w' (m.glue m' (H (i+1)).length) k':=by
 have hle:=st.le;have hu:=tr.len1 hle hi;have hT:=tr.len hle (LJ i) (by omega:i<=N);have hn'N:=tr.len hle (by omega:i+1<=N) (Lh N);have h6:∀ q,(G H N x q).length=(H N).length:=lO;have h8:∀ b,(H i).length<=b->(G H N x k')[b]?=(G H N x k)[b]?:=by
  intro b hb;rcases hN with h|⟨h1,h2⟩
  ·rw[h]
  ·by_cases ha:b∈x
   ·by_cases hv:b<(H N).length
    ·have hX:i<bi H b N:=by
      rcases LX i (bi H b N) with h|h
      ·exact h
      ·have h3:=rU (Lh _) hv;have h4:=tr.len hle h (by omega:i<=N);omega
     rw[G_x tr hle hD ha hv,G_x tr hle J.kle ha hv,h2,show max (i+1) (bi H b N)=max k (bi H b N) by omega]
    ·rw[Lw (by rw[h6];omega),Lw (by rw[h6];omega)]
   ·rw[iI ha,iI ha]
 have h0:∀ b,(H (i+1)).length<=b->(G H N x k')[b]?=(G H N x k)[b]?:=fun b hb=>h8 b (by omega);have hg:∀ b,(H i).length<=b->b<(H (i+1)).length->live (G H N x k') b->live (G H N x k) b/\m b=none:=by
  intro b h1 h2 hl;have hF:live (G H N x k) b:=by
   obtain⟨cs,hc⟩:=hl;exact⟨cs,by rw[<- h8 b h1];exact hc⟩
  refine⟨hF,?_⟩;cases hm:m b with
  | none=>rfl
  | some c =>
   exfalso;rcases J.dom b c hF hm with h|⟨j,h7,hn,hq,hr⟩
   ·omega
   ·rcases Mk j i with h|h|h
    ·have:=tr.len hle (by omega:j+1<=i) (by omega);omega
    ·subst h;rw[hS]at h7;cases h7
    ·have:=tr.len hle (by omega:i+1<=j) (by omega);omega
 have hP:=e.zeq;have ew:=uO (n:=(H i).length) (n':=(H (i+1)).length) J.rel (by rw[h6];omega) hu (by rw[h6,h6]) h0 hg e;have rg:=DQ (n:=(H i).length) (n':=(H (i+1)).length) J.rel (by rw[h6];omega) hu (by rw[h6,h6]) (by rw[h6];omega) h0 hg e r';have rglue:∀ {y:V} {z:Value},R m' ((G H N x k').take (H (i+1)).length) w' y z->R (m.glue m' (H (i+1)).length) (G H N x k') w' y z:=fun h=>h.glue (n:=(H i).length) hP hu h0 (by rw[h6];omega);have hH:((G H N x k').take (H (i+1)).length).length=(H (i+1)).length:=by rw[Mi,h6];omega
 have hh:((G H N x k).take (H i).length).length=(H i).length:=by rw[Mi,h6];omega
 have h9:∀ b c,b<(H i).length->live (G H N x k') b->m' b=some c->live (G H N x k) b/\m b=some c:=by
  intro b c hb hl hm;obtain⟨h1,h2⟩:=e.keep b (by rw[hh];exact hb) ((cV (by omega)).2 hl);refine⟨(bm h1).2,?_⟩;rw[h2]at hm;simpa[Mu.cut,hb]using hm
 refine⟨hD,hO,fun j hj=>?_,he,?_,rg,?_,fun b c hl hm=>?_,fun b c cs hc hm j hj hw f hf=>?_,fun j h7 hj=>?_⟩
 ·rw[dH (by omega)];exact J.tail j hj
 ·have E:=J.evo;refine⟨E.zeq,by rw[h6];have:=E.len;rw[h6]at this;exact this,fun b hb hl=>?_,fun b c hl hb=>?_,fun b hb hI=>?_,Mv E.size e.size,fun b hb=>Mv (E.rs b hb) (e.rs b (LF hb E.size)),e.os.trans E.os,e.tape.trans E.tape,e.output.trans E.output⟩
  ·obtain⟨h1,h2⟩:=e.keep b (by rw[hh];omega) ((cV (by omega)).2 hl);obtain⟨h3,h4⟩:=E.keep b hb (bm h1).2;refine⟨h3,?_⟩;simp only[Mu.glue,show b<(H (i+1)).length by omega,if_true,h2];simpa[Mu.cut,show b<(H i).length by omega]using h4
  ·rcases ew.own b c hl hb with⟨y,hy,hA⟩|hJ
   ·exact E.own y c hy hA
   ·exact .inr (Mv E.size hJ)
  ·refine (ew.frame b (LF hb E.size) fun y hy hA=>?_).trans (E.frame b hb hI);rcases E.own y b hy hA with⟨z,hz,hQ⟩|hJ
   ·exact hI z hz hQ
   ·omega
 ·rw[ze ho hS N hi (vO st hM ho hS)];have f1:FR (m.glue m' (H (i+1)).length) (G H N x k') w' (frS ops v S (F 0) N) a:=⟨J.fR.len,fun s y z hy hz=>(J.fR.slot s y z hy hz).evw ew J.rel.lt,J.fR.defers⟩;exact f1.put (rglue hE) o.dst
 ·by_cases ht:b<(H i).length
  ·simp only[Mu.glue,show b<(H (i+1)).length by omega,if_true]at hm;obtain⟨h1,h2⟩:=h9 b c ht hl hm;rcases J.dom b c h1 h2 with h|⟨j,h7,hn,hq,hr⟩
   ·exact .inl h
   ·exact .inr ⟨j,pz h7,hn,hq,hr⟩
  ·by_cases hd:b<(H (i+1)).length
   ·exact .inr ⟨i,gj S i,hi,by omega,hd⟩
   ·simp only[Mu.glue,hd,if_false]at hm;obtain⟨cs,hc⟩:=hl;rw[h0 b (by omega)]at hc;rcases J.dom b c ⟨cs,hc⟩ hm with h|⟨j,h7,hn,hq,hr⟩
    ·exact .inl h
    ·exact .inr ⟨j,pz h7,hn,hq,hr⟩
 ·by_cases ht:b<(H i).length
  ·simp only[Mu.glue,show b<(H (i+1)).length by omega,if_true]at hm;by_cases hx:b∈x
   ·exact ha b c cs ht hx hc hm j hj hw f hf
   ·obtain⟨h1,h2⟩:=h9 b c ht ⟨cs,hc⟩ hm;rw[iI hx,<- iI (k:=k) hx]at hc;exact J.bel b c cs hc h2 j hj hw f hf
  ·by_cases hd:b<(H (i+1)).length
   ·simp only[Mu.glue,hd,if_true]at hm;have hK:=(r'.blk b cs c (by rw[LN,if_pos hd];exact hc) hm).bel hf;rw[hH]at hK;have hR:i+1<=j:=by
     rcases LX i j with h|h
     ·omega
     ·have:=tr.len hle h (by omega);omega
    exact hK.mono (tr.len hle hR hj)
   ·simp only[Mu.glue,hd,if_false]at hm;rw[h0 b (by omega)]at hc;exact J.bel b c cs hc hm j hj hw f hf
 ·by_cases hL:j=i
  ·subst hL;have:=hE.bel;rwa [hH]at this
  ·rw[dH hL]at h7;exact J.vb j h7 hj
end
end Go.Ab
namespace Go.Ab
def fj(looks:List Nat)(fr:List V):List V:=fr.mapIdx fun s c=>if looks.contains s then c else .any
theorem kX(looks:List Nat)(fr:List V):(fj looks fr).length=fr.length:=by simp[fj]
theorem kj{looks:List Nat}{fr:List V}{s:Nat}(hs:s∈looks):(fj looks fr)[s]?=fr[s]?:=by
 simp only[fj,List.getElem?_mapIdx];cases fr[s]?<;>simp[hs]
theorem qL{looks:List Nat}{fr:List V}{s:Nat}(hs:¬ s∈looks){c:V}(hc:(fj looks fr)[s]?=some c):c=.any:=by
 simp only[fj,List.getElem?_mapIdx]at hc;cases h:fr[s]? with
 | none=>simp[h]at hc
 | some d=>simp[h,hs]at hc;exact hc.symm
theorem oA{ops:Array Oper}{o:Oper}{fr fr':List V}(h:∀ s∈o.looksAt ops,fr[s]?=fr'[s]?):cY ops fr o=cY ops fr' o:=by
 unfold cY;cases hg:o.guard with
 | none=>rfl
 | some g =>
  obtain⟨j,want⟩:=g;simp only;cases hp:ops[j]? with
  | none=>rfl
  | some p =>
   simp only;cases hd:p.dst with
   | none=>rfl
   | some d =>
    simp only;rw[h d (by simp[Oper.looksAt,hg,hp,hd])]
theorem mc{ops:Array Oper}{o:Oper}{fr fr':List V}(h:∀ s∈o.looksAt ops,fr[s]?=fr'[s]?):∀ p∈o.op.operands.toList,ev fr p=ev fr' p:=by
 intro p hp;cases p with
 | tmp t =>
  simp only[ev];refine h t ?_;simp only[Oper.looksAt,LA,List.mem_filterMap];exact .inl ⟨.tmp t,hp,rfl⟩
 | const v=>rfl
 | global g=>rfl
 | func f=>rfl
theorem fH{P:Program}{md:FuncId->Nat}{call:aW}{c:Cfg}{fr:List V}{h:Heap}{o:Oper}(hc:bg o=false):aH P md call c fr h o.op=opV P c fr h o.op:=by
 unfold bg at hc;unfold aH;split at hc
 ·cases hc
 ·cases hc
 ·rename_i hn _;split
  ·rename_i f args tys h0;exact absurd h0 (hn f args tys)
  ·rfl
theorem Bj{v:Value}{b off:Nat}:¬ jF v=some (.ptr b off):=by
 intro h;unfold jF at h;split at h
 ·rename_i cs;cases hc:cs.toList.mapM gQ<;>rw[hc]at h<;>simp at h
 ·split at h<;>cases h
 ·unfold gQ at h;split at h<;>cases h
section
variable {P:Program}{md:FuncId->Nat}{call:aW}{cfg:Cfg}{ops:Array Oper}{N:Nat}{x:List Nat}{F:Nat->List V}{H:Nat->Heap}{v:Nat->V}{m0:Mu}{w0:World}
theorem FP(st:Static P ops N)(hN:dG P)(h0:cZ P call)(tr:Tr P md call cfg ops N x F H v)(k6:∀ (s:Nat) (c:V),(F 0)[s]?=some c->Bel (H 0).length c){S:Nat->Bool}{a:Act}{w:World}{m:Mu}{k:Nat}
  (J:JH ops N x F H v m0 w0 S a w m k) (hJ:Closed ops S) {i:Nat} {o:Oper} (hi:i<N) (ho:ops[i]?=some o) (hS:S i=false) (hr:Ready S o) (Q:Exit->Act->World->Prop):
  wpOp P ops Q i (fun a' w'=>∃ m' k',JH ops N x F H v m0 w0 (bI S i) a' w' m' k') a w:=by
 have hle:=st.le;have hio:i<ops.size:=(Lz.1 ho).1;have hoe:ops[i]=o:=(Lz.1 ho).2;have h8:∀ s∈o.looksAt ops,(frS ops v S (F 0) N)[s]?=(F i)[s]?:=fun s hs=>zY st tr hJ hi ho hS hr hs;have hK:∀ q,(G H N x q).length=(H N).length:=lO;have g9:=tr.len hle (by omega:i<=N) (Lh N);have hn0:=tr.len hle (LJ i) (by omega:i<=N);obtain⟨hFs,hP⟩:=tr.step i o hi ho;have g1:∀ b,cY ops (F i) o=some b->Region.wanted o (yielded ops a.tmps)=b:=fun b hb=>iG J.fR (by rw[oA h8];exact hb)
 -- the slots that are looked at, cut to what was there
 have ha:∀ s∈o.looksAt ops,∀ c,(F i)[s]?=some c->Bel (H i).length c:=by
  intro s hs;refine wK tr hle (k6 s) i (by omega) fun j oj hj k7 hd=>?_;have hO:S j=true:=by
   rcases st.head j i oj o hj hi k7 ho with h|⟨h,_⟩
   ·exact cN st.back hJ i o ho hr h
   ·exact absurd hs ((Oper.apart_spec h).1 s hd)
  exact J.vb j hO (by omega)
 have h9:Rel (m.cut (G H N x k) (H i).length) ((G H N x k).take (H i).length) w:=J.rel.cut (by rw[hK];exact g9) fun b cs c hb hc hm e he=>J.bel b c cs hc hm i (by omega) hb e he;have hn:FR (m.cut (G H N x k) (H i).length) ((G H N x k).take (H i).length) w (fj (o.looksAt ops) (frS ops v S (F 0) N)) a:=by
  refine⟨by rw[kX];exact J.fR.len,fun s y z hy hz=>?_,J.fR.defers⟩;by_cases hs:s∈o.looksAt ops
  ·rw[kj hs]at hy;exact (J.fR.slot s y z hy hz).cut (by rw[hK];exact g9) (ha s hs y (by rw[<- h8 s hs];exact hy))
  ·rw[qL hs hy];exact .any _
 have hE:∀ s∈o.looksAt ops,(F i)[s]?=(fj (o.looksAt ops) (frS ops v S (F 0) N))[s]?:=fun s hs=>by rw[kj hs,h8 s hs]
 -- calls in their one order
 -- a block of x, from where the calls below k have been carried out up to here
 have k0:(∀ j (hj:j<ops.size),k<=j->j<i->bg ops[j]=false)->k<=i->∀ b,b<(H i).length->(H i)[b]?=(H (max k (bi H b N)))[b]?:=by
  intro hA hF b hb;have h1:=uD (N:=N) hb;have h2:=rU (N:=N) (by omega:i<=N) hb;have h3:b<(H (max k (bi H b N))).length:=LF h2 (tr.len hle (by omega) (by omega));exact tr.xsame hN h0 hle (by omega) (by omega) h3 fun q hq h4 h5=>hA q hq (by omega) h5
 have ht:∀ b∈x,∀ c,c<N->(H c).length<=b->b<(H (c+1)).length->bI S i c=false->(H (max k (c+1)))[b]?=(H (c+1))[b]?:=by
  intro b hb c hc h1 h2 h3;refine J.born b hb c hc h1 h2 ?_;by_cases hQ:c=i
  ·rw[hQ];exact hS
  ·rwa [dH hQ]at h3
 -- and one call further, where it does not write a block that is to come
 have hu:(∀ j (hj:j<ops.size),k<=j->j<i->bg ops[j]=false)->k<=i->(∀ b∈x,∀ c,c<i->(H c).length<=b->b<(H (c+1)).length->S c=false->(H (i+1))[b]?=(H i)[b]?) ->
   ∀ b∈x,∀ c,c<N->(H c).length<=b->b<(H (c+1)).length->bI S i c=false->(H (max (i+1) (c+1)))[b]?=(H (c+1))[b]?:=by
  intro hA hF hw b hb c hc h1 h2 h3;by_cases hQ:c=i
  ·rw[hQ,gj]at h3;cases h3
  ·rw[dH hQ]at h3;rcases LX i c with h|h
   ·rw[show max (i+1) (c+1)=c+1 by omega]
   ·have h4:=J.born b hb c hc h1 h2 h3;have h5:b<(H (max k (c+1))).length:=LF h2 (tr.len hle (by omega) (by have:=J.kle;omega));rw[show max (i+1) (c+1)=i+1 by omega,hw b hb c (by omega) h1 h2 h3,<- h4];exact tr.xsame hN h0 hle (by omega) (by omega) h5 fun q hq h6 h7=>hA q hq (by omega) h7
 unfold wpOp;rw[ho];simp only;rcases hP with⟨hw,hv,hH⟩|⟨hw,hL,hh,g2,k8⟩|⟨hw,hL,hlen,c,k9,g0,hwr,w7⟩
 · -- it is not carried out
  rw[g1 false hw];simp only[LH,if_false];have fin:∀ k',k'<=N->(∀ b∈x,∀ c,c<N->(H c).length<=b->b<(H (c+1)).length->bI S i c=false->(H (max k' (c+1)))[b]?=(H (c+1))[b]?)->G H N x k'=G H N x k->(∀ j (hj:j<ops.size),j<N->bg ops[j]=true->(bI S i j=true↔j<k'))->JH ops N x F H v m0 w0 (bI S i) (a.put o.dst undef) w m k':=by
   intro k' w8 w9 hG hT;refine⟨w8,hT,fun j hj=>?_,w9,by rw[hG];exact J.evo,by rw[hG];exact J.rel,?_,fun b c hl hm=>?_,fun b c cs hc=>?_,fun j hO hj=>?_⟩
   ·rw[dH (by omega)];exact J.tail j hj
   ·rw[ze ho hS N hi (vO st hJ ho hS),hv,hG];exact J.fR.put .no o.dst
   ·rw[hG]at hl;rcases J.dom b c hl hm with h|⟨j,hO,h⟩
    ·exact .inl h
    ·exact .inr ⟨j,pz hO,h⟩
   ·rw[hG]at hc;exact J.bel b c cs hc
   ·by_cases k1:j=i
    ·subst k1;rw[hv];exact .rf rfl
    ·rw[dH k1]at hO;exact J.vb j hO hj
  cases hL:bg o with
  | false=>exact⟨m,k,fin k J.kle ht rfl (lk J.kcall ho hL)⟩
  | true =>
   obtain⟨hF,hA,hT⟩:=pH st J.kcall hJ hi ho hS hr hL;refine⟨m,i+1,fin (i+1) (by omega) (hu hA hF fun b _ c _ _ _ _=>by rw[hH]) ?_ hT⟩;refine LY fun b=>?_;by_cases hX:b∈x
   ·by_cases hY:b<(H N).length
    ·rw[G_x tr hle (by omega) hX hY,G_x tr hle J.kle hX hY];rcases LX i (bi H b N) with h|h
     ·rw[show max (i+1) (bi H b N)=max k (bi H b N) by omega]
     ·have h1:=rU (Lh _) hY;have h2:b<(H i).length:=LF h1 (tr.len hle h (by omega));rw[show max (i+1) (bi H b N)=i+1 by omega,hH,k0 hA hF b h2]
    ·rw[Lw (by rw[hK];omega),Lw (by rw[hK];omega)]
   ·rw[iI hX,iI hX]
 · -- it reads, computes or makes memory
  rw[g1 true hw];simp only[if_true];have hgt:=px (k:=k) hN h0 tr hle (by omega:i<=N);have hD:=px (k:=k) hN h0 tr hle (by omega:i+1<=N);have g3:opV P cfg (F i) (Hx H N x k i) o.op=some (v i,Hx H N x k (i+1)):=by
   unfold Hx;refine qM hh g2 (tr.len1 hle hi) k8 fun b hb h1 h2=>?_;have h3:=bi_at (N:=N) (fun j hj=>tr.len hle hj (by omega)) (by omega) h1 h2;rw[<- J.born b hb i hi h1 h2 hS,<- h3];exact yy tr hle J.kle (by omega) h2
  have g0:aH P md call cfg (fj (o.looksAt ops) (frS ops v S (F 0) N)) ((G H N x k).take (H i).length) o.op=some (v i,(G H N x k).take (H (i+1)).length):=by
   rw[<- lK (mc hE),fH hL,hgt,hD];exact g3
  refine .inl ((my hN h0 g0).1 _ w a h9 hn _ Q fun u w' ⟨m',e,r',g4⟩=>⟨_,k,xN st hN h0 tr J hJ hi ho hS J.kle (.inl rfl) ht (lk J.kcall ho hL) e r' g4 ?_⟩);intro b cc cs hb hx hc hm j hj g5 f hf;have hM:((G H N x k).take (H i).length).length=(H i).length:=by rw[Mi,hK];omega
  have hnn:=tr.len1 hle hi;obtain⟨_,h2⟩:=e.keep b (by rw[hM];exact hb) ((cV (by omega)).2 ⟨cs,hc⟩);rw[h2]at hm;exact J.bel b cc cs hc (by simpa[Mu.cut,hb]using hm) j hj g5 f hf
 · -- it is a call
  rw[g1 true hw];simp only[if_true];obtain⟨hF,hA,hT⟩:=pH st J.kcall hJ hi ho hS hr hL;have hgt:=px (k:=k) hN h0 tr hle (by omega:i<=N);rw[oN tr hle (by omega) J.kle fun b _ hb=>k0 hA hF b hb]at hgt;have hD:=px (k:=i+1) hN h0 tr hle (by omega:i+1<=N);rw[oN tr hle (by omega) (by omega) fun b _ hb=>by rw[show max (i+1) (bi H b N)=i+1 by have:=uD (N:=N) hb;omega]]at hD;have g6:aH P md call c (fj (o.looksAt ops) (frS ops v S (F 0) N)) ((G H N x k).take (H i).length) o.op=some (v i,(G H N x (i+1)).take (H (i+1)).length):=by
   rw[<- lK (mc hE),hgt,hD];exact g0
  -- it writes no block that is to come
  have z0:∀ b∈x,∀ q,q<i->(H q).length<=b->b<(H (q+1)).length->S q=false->(H (i+1))[b]?=(H i)[b]?:=by
   intro b hX q hq h1 h2 h3;have g7:b<(H i).length:=LF h2 (tr.len hle (by omega) (by omega));cases k2:c.wr b with
   | false=>exact (my hN h0 g0).2.prot b g7 k2
   | true =>
    exfalso;have h0q:=tr.len hle (LJ q) (by omega);obtain⟨t,p,y,off,cs,g2,hp,z1⟩:=w7 b (by omega) g7 k2;cases p with
    | tmp s =>
     have z2:(F i)[s]?=some (.ptr b off):=hp;have hs:s∈o.looksAt ops:=by
      simp only[Oper.looksAt,LA,List.mem_filterMap];exact .inl ⟨.tmp s,by simp[g2,Op.operands],rfl⟩
     have hg:=h8 s hs;rw[z2]at hg;have k3:s<a.tmps.size:=by rw[<- J.fR.len];exact (Ld.1 hg).1
     have hR:=J.fR.slot s _ _ hg (Lr k3);have hI:live (G H N x k) b:=by
      have h5:((G H N x k).take (H i).length)[b]?=some (some cs):=by rw[hgt];exact aB z1
      rw[LN,if_pos g7]at h5;exact⟨cs,h5⟩
     generalize a.tmps[s]=z at hR;cases hR with
     | ptr k3 hv =>
      obtain⟨d,hd,_⟩:=hv hI;rcases J.dom b d hI hd with h6|⟨q',k4,hq2,hq3,hq4⟩
      ·omega
      ·have:q'=q:=by
        rcases Mk q' q with h|h|h
        ·have:=tr.len hle (by omega:q'+1<=q) (by omega);omega
        ·exact h
        ·have:=tr.len hle (by omega:q+1<=q') (by omega);omega
       rw[this,h3]at k4;cases k4
    | const v=>exact absurd hp (by simp only[ev];exact Bj)
    | global g=>simp[ev]at hp
    | func f=>simp[ev]at hp
  refine .inl ((my hN h0 g6).1 _ w a h9 hn _ Q fun u w' ⟨m',e,r',g4⟩=>⟨_,i+1,xN st hN h0 tr J hJ hi ho hS (by omega) (.inr ⟨hF,rfl⟩) (hu hA hF z0) hT e r' g4 ?_⟩);intro b cc cs hb hx hc hm j hj g5 f hf;have hM:((G H N x k).take (H i).length).length=(H i).length:=by rw[Mi,hK];omega
  have hY:b<(H N).length:=by omega
  have z3:=tr.len hle (by omega:i+1<=N) (Lh N);have z4:(H (i+1))[b]?=some (some cs):=by
   rw[G_x tr hle (by omega) hx hY,show max (i+1) (bi H b N)=i+1 by have:=uD (N:=N) hb;omega]at hc;exact hc
  rcases LX i j with g8|g8
  ·have z5:((G H N x (i+1)).take (H (i+1)).length).length=(H (i+1)).length:=by rw[Mi,hK];omega
   have k5:=(r'.blk b cs cc (by rw[LN,if_pos (by omega)];exact hc) hm).bel hf;rw[z5]at k5;exact k5.mono (tr.len hle g8 hj)
  ·have z6:=tr.len hle g8 (by omega);have hinv:Inv (fun q=>∃ d,m q=some d) (H i) (H j).length:=by
    rintro q cs' hq ⟨d,hd⟩ z7 g hg;have z8:q<(H i).length:=by omega
    have z9:(G H N x k)[q]?=some (some cs'):=by
     have h3:((G H N x k).take (H i).length)[q]?=some (some cs'):=by rw[hgt];exact z7
     rwa [LN,if_pos z8]at h3
    exact J.bel q d cs' z9 hd j hj hq g hg
   have hZ:=(tr.hs hN h0 hle hi).2.2 _ _ z6 hinv;obtain⟨_,h2⟩:=e.keep b (by rw[hM];exact hb) ((cV (by omega)).2 ⟨cs,hc⟩);rw[h2]at hm;exact hZ b cs g5 ⟨cc,by simpa[Mu.cut,hb]using hm⟩ z4 f hf
end
end Go.Ab
namespace Go.Ab
theorem xG{p:Nat->Prop}(h:∃ i,p i):∃ i,p i/\∀ j,j<i->¬ p j:=by
 obtain⟨i,hi⟩:=h
 induction i using Nat.strongRecOn with
 | _ i ih =>
  by_cases hj:∃ j,j<i/\p j
  ·obtain⟨j,h0,h3⟩:=hj;exact ih j h0 h3
  ·exact⟨i,hi,fun j h0 h3=>hj ⟨j,h0,h3⟩⟩
section
variable {P:Program}{ops:Array Oper}{N:Nat}{Q:Exit->Act->World->Prop}
theorem vm(st:Static P ops N){L:Nat->Bool}(hL:Closed ops L){i:Nat}{oi:Oper}(hi:ops[i]?=some oi)(hr:Ready L oi){j:Nat}{oj:Oper}(hj:ops[j]?=some oj)(ha:j≠i)(h6:L j=false)
  {S:Nat->Bool} (h7:S i=false) (h8:Closed ops S) (h9:Ready S oj):Ap ops oi oj:=by
 rcases LX j i with h0|hc
 ·have h:ord ops j i=true\/oj.apart ops oi=true:=by
   rcases LX i N with h3|h3
   ·rcases st.head j i oj oi h0 h3 hj hi with h|h
    ·exact .inl h
    ·exact .inr h.1
   ·rcases st.tail j i oj oi h3 h0 hj hi with h|h
    ·exact .inl h
    ·exact .inr h.2
  rcases h with h|h
  ·have:=cN st.back hL i oi hi hr h;rw[h6]at this;cases this
  ·exact (Ap.of h).symm
 ·have h0:i<j:=by omega
  have h:ord ops i j=true\/oi.apart ops oj=true:=by
   rcases LX j N with h4|h4
   ·rcases st.head i j oi oj h0 h4 hi hj with h|h
    ·exact .inl h
    ·exact .inr h.1
   ·rcases st.tail i j oi oj h4 h0 hi hj with h|h
    ·exact .inl h
    ·exact .inr h.2
  rcases h with h|h
  ·have:=cN st.back h8 j oj hj h9 h;rw[h7]at this;cases this
  ·exact Ap.of h
theorem jR(st:Static P ops N)(J:(Nat->Bool)->Act->World->Prop)
  (h0:∀ S a w,J S a w->Closed ops S->∀ i o,ops[i]?=some o->S i=false->Ready S o->cU P o=true->(∀ p q,p<i->ops[p]?=some q->S p=false->cU P q=true->¬ Ready S q)->∃ u,Blind P ops o a u/\J (bI S i) (a.put o.dst u) w)
  (h3:∀ S a w,J S a w->Closed ops S->(∀ p q,ops[p]?=some q->S p=false->cU P q=true->¬ Ready S q)->∀ i o,ops[i]?=some o->S i=false->Ready S o->wpOp P ops (only Q) i (J (bI S i)) a w)
  (h7:∀ S a w,J S a w->(∀ i,i<ops.size->S i=true)->Q .normal a w):∀ (fuel:Nat) (listed:Array Bool) (a:Act) (w:World),listed.size=ops.size->iQ listed=fuel->Closed ops (setOf listed)->J (setOf listed) a w ->
  wpAny P .any ops (only Q) fuel listed a w
 | 0,listed,a,w,hs,hc,_,hj=>by
  have h9:∀ i,i<ops.size->setOf listed i=true:=fun i hi=>nR hc (by omega);refine⟨?_,h7 _ a w hj h9⟩;apply M9.2;intro i hi;obtain⟨o,ho,hf,_⟩:=(mem_ready hs).1 hi;rw[h9 i (Lz.1 ho).1]at hf;cases hf
 | fuel+1,listed,a,w,hs,hc,h8,hj=>by
  by_cases hex:∃ i,∃ o,ops[i]?=some o/\setOf listed i=false/\cU P o=true/\Ready (setOf listed) o
  ·obtain⟨i,⟨o,ho,hf,hl,hr⟩,hd⟩:=xG hex;obtain⟨u,hb,hJ⟩:=h0 _ a w hj h8 i o ho hf hr hl fun p q hp hq he hg hh=>hd p hp ⟨q,hq,he,hg,hh⟩;have ha:i<listed.size:=by rw[hs];exact (Lz.1 ho).1
   refine wpAny_first st.nosel ho fuel listed a w hs hf hr (fun j oj hm hn ht S _ hu hv hw=>vm st h8 ho hr hm hn ht hu hv hw) h8 hb ?_;have h4:=de ha;refine jR st J h0 h3 h7 fuel _ _ w (by simp[hs]) ?_ ?_ (by rw[h4];exact hJ)
   ·have:=lu ha hf;omega
   ·rw[h4];exact h8.add ho hr
  ·refine⟨fun hr=>h7 _ a w hj (gW st.back hs hr),fun i hi=>?_⟩;obtain⟨o,ho,hf,h6⟩:=(mem_ready hs).1 hi;have ha:i<listed.size:=by rw[hs];exact (Lz.1 ho).1
   refine wpOp_mono (fun a' w' hy=>?_) (h3 _ a w hj h8 (fun p q hq he hg hh=>hex ⟨p,q,hq,he,hg,hh⟩) i o ho hf h6);have h4:=de ha;refine jR st J h0 h3 h7 fuel _ a' w' (by simp[hs]) ?_ ?_ (by rw[h4];exact hy)
   ·have:=lu ha hf;omega
   ·rw[h4];exact h8.add ho h6
theorem sW(st:Static P ops N)(J:(Nat->Bool)->Act->World->Prop)
  (h3:∀ S a w,J S a w->Closed ops S->∀ i o,ops[i]?=some o->S i=false->Ready S o->cU P o=true->(∀ p q,p<i->ops[p]?=some q->S p=false->cU P q=true->¬ Ready S q)->∃ u,Blind P ops o a u/\J (bI S i) (a.put o.dst u) w)
  (h4:∀ S a w,J S a w->Closed ops S->(∀ p q,ops[p]?=some q->S p=false->cU P q=true->¬ Ready S q)->∀ i o,ops[i]?=some o->S i=false->Ready S o->wpOp P ops (only Q) i (J (bI S i)) a w)
  (h7:∀ S a w,J S a w->(∀ i,i<ops.size->S i=true)->Q .normal a w) {a:Act} {w:World} (h0:J (fun _=>false) a w):wpAny P .any ops (only Q) ops.size (Array.replicate ops.size false) a w:=by
 have h6:setOf (Array.replicate ops.size false)=fun _=>false:=by
  funext i;simp[setOf,Mg,Na];split<;>rfl
 refine jR st J h3 h4 h7 ops.size _ a _ (by simp) ?_ ?_ ?_
 ·simp[iQ]
 ·rw[h6];intro i o _ h;cases h
 ·rw[h6];exact h0
theorem kZ(hm:P.follows .mixedOrders=true){id:Nat}{a:Act}{w:World}(h:wpAny P .any ops (only Q) ops.size (Array.replicate ops.size false) a { w with drawn:=w.drawn+1 }):(Code.region id ops true).wp P Q a w:=by
 refine Code.wp_mono (Q:=only Q) ?_ (wp_region_any hm h);intro e a w h;cases e<;>first|exact h|exact h.elim
theorem yH{o:Oper}(hg:∀ (i:Nat) (q:Oper),ops[i]?=some q->q.guard=none)(hb:xi ops):∀ (fuel:Nat) (listed:Array Bool) (a:Act) (w:World),listed.size=ops.size->wpAny P .any ops (only Q) fuel listed a w->wpAny P .any (ops.push o) (only Q) fuel (listed.push true) a w:=by
 have h4:∀ (listed:Array Bool),listed.size=ops.size->∀ i,i<ops.size->setOf (listed.push true) i=setOf listed i:=fun listed hs i hi=>by
  simp[setOf,Mg,MY,hs,show ¬ i=ops.size by omega]
 have h6:∀ (listed:Array Bool),listed.size=ops.size->∀ i,i∈Region.ready .any (ops.push o) (listed.push true)->i∈Region.ready .any ops listed:=fun listed hs i hi=>by
  obtain⟨q,hq,hf,hr⟩:=(mem_ready (by simp[hs])).1 hi;rw[MY]at hq;split at hq
  ·rename_i e;subst e;have h9:setOf (listed.push true) ops.size=true:=by rw[<- hs];simp[setOf]
   rw[h9]at hf;cases hf
  ·have h0:=(Lz.1 hq).1;refine (mem_ready hs).2 ⟨q,hq,by rw[<- h4 listed hs i h0];exact hf,fun e he h3=>?_⟩;rw[<- h4 listed hs e.on (by have:=hb i q hq e he h3;omega)];exact hr e he h3
 have h8:∀ (listed:Array Bool),listed.size=ops.size->∀ i,i∈Region.ready .any ops listed->i∈Region.ready .any (ops.push o) (listed.push true):=fun listed hs i hi=>by
  obtain⟨q,hq,hf,hr⟩:=(mem_ready hs).1 hi;have h0:=(Lz.1 hq).1;refine (mem_ready (by simp[hs])).2 ⟨q,by rw[MY,if_neg (by omega)];exact hq,by rw[h4 listed hs i h0];exact hf,fun e he h3=>?_⟩;rw[h4 listed hs e.on (by have:=hb i q hq e he h3;omega)];exact hr e he h3
 intro fuel
 induction fuel with
 | zero =>
  intro listed a w hs h;refine⟨?_,h.2⟩;apply M9.2;intro i hi;have:=h6 listed hs i hi;rw[h.1]at this;cases this
 | succ fuel ih =>
  intro listed a w hs h;refine⟨fun hn=>h.1 ?_,fun i hi=>?_⟩
  ·apply M9.2;intro i hi;have:=h8 listed hs i hi;rw[hn]at this;cases this
  ·have h7:=h6 listed hs i hi;obtain⟨q,hq,_,_⟩:=(mem_ready hs).1 h7;have h0:=(Lz.1 hq).1;have ha:(listed.push true).setIfInBounds i true=(listed.setIfInBounds i true).push true:=by
    apply NQ;intro z;simp only[Nz,MY,Array.size_push,Array.size_setIfInBounds];by_cases hz:i=z
    ·subst hz;simp[hs,h0,show ¬ i=ops.size by omega];omega
    ·simp[hz]
   have h2:=wpOp_mono (fun a w hk=>ih (listed.setIfInBounds i true) a w (by simp[hs]) hk) (h.2 i h7);rw[ha];have hc:(ops.push o)[i]?=some q:=by rw[MY,if_neg (by omega)];exact hq
   have hd:=hg i q hq;unfold wpOp at h2 ⊢;rw[hq]at h2;rw[hc];simp only[Region.wanted,hd]at h2 ⊢;exact h2
theorem pE(st:Static P ops N){S:Nat->Bool}(h4:Closed ops S){i:Nat}{o:Oper}(hi:N<=i)(ho:ops[i]?=some o)(hr:Ready S o)
  (h0:∀ p q,p<i->ops[p]?=some q->S p=false->cU P q=true->¬ Ready S q):∀ p,p<i->S p=true:=by
 intro p
 induction p using Nat.strongRecOn with
 | _ p ih =>
  intro hp;have h7:i<ops.size:=(Lz.1 ho).1;have h3:ops[p]?=some ops[p]:=Lr (by omega);rcases st.tail p i ops[p] o hi hp h3 ho with h|⟨h,_⟩
  ·exact cN st.back h4 i o ho hr h
  ·cases hS:S p with
   | true=>rfl
   | false =>
    refine absurd ?_ (h0 p _ hp h3 hS h);intro e he hb;have h6:=st.back p _ h3 e he hb;exact ih e.on h6 (by omega)
/-! ### What cU -/
def fk:V->Bool
 | .bool _|.int ..|.str _=>true
 | _=>false
theorem R.plain{m m':Mu}{h h':Heap}{w w':World}{x:V}{v:Value}(hp:fk x=true)(hr:R m h w x v):R m' h' w' x v:=by
 cases hr<;>simp only[fk,LH]at hp
 ·exact .bool _
 ·exact .int _ _
 ·exact .str _
theorem R.plain_eq{m m':Mu}{h h':Heap}{w w':World}{x:V}{v v':Value}(hp:fk x=true)(hr:R m h w x v)(h0:R m' h' w' x v'):v=v':=by
 cases hr<;>simp only[fk,LH]at hp<;>cases h0<;>rfl
theorem xo{op:BinOp}{t:TypeId}{k:IntKind}{x y z:V}(ht:P.underlying t=some (.int k))(hz:cJ P op t x y=some z):fk x=true/\fk y=true/\fk z=true:=by
 have heq:∀ x y,eqV P t x y=none:=by
  intro x y;unfold eqV;split<;>simp[ht]
 unfold cJ at hz;split at hz
 ·split at hz
  ·cases hz
  ·cases hz;exact⟨rfl,rfl,rfl⟩
 ·split at hz
  ·cases hz
  ·cases hz;exact⟨rfl,rfl,rfl⟩
 ·split at hz
  ·refine⟨rfl,rfl,?_⟩;unfold bO at hz;split at hz
   all_goals first
    | (cases hz;done)
    | (cases hz;rfl)
    | (split at hz<;>first|(cases hz;done)|(cases hz;rfl))
  ·cases hz
 ·refine⟨rfl,rfl,?_⟩;unfold uf at hz;split at hz
  all_goals first
   | (cases hz;done)
   | (cases hz;rfl)
   | (split at hz<;>first|(cases hz;done)|(cases hz;rfl))
 ·rw[heq]at hz;cases hz
 ·rw[heq]at hz;cases hz
 ·cases hz
theorem BG{op:UnOp}{x z:V}(hz:unV op x=some z):fk x=true/\fk z=true:=by
 unfold unV at hz;split at hz
 ·cases hz;exact⟨rfl,rfl⟩
 ·simp only[bO]at hz;cases hz;exact⟨rfl,rfl⟩
 ·cases hz;exact⟨rfl,rfl⟩
 ·cases hz
theorem xW{xs:List V}{y:V}(hy:oG xs=some y):(∀ c∈xs,fk c=true)/\fk y=true:=by
 unfold oG at hy;split at hy
 ·cases hy;exact⟨fun c hc=>by simp at hc;rcases hc with rfl|rfl<;>rfl,rfl⟩
 ·cases hy;exact⟨fun c hc=>by simp at hc;rcases hc with rfl|rfl|rfl<;>rfl,rfl⟩
 ·cases hy
theorem xY{xs:List V}{y:V}(hy:rF xs=some y):(∀ c∈xs,fk c=true)/\fk y=true:=by
 unfold rF at hy;split at hy
 ·cases hy;exact⟨fun c hc=>by simp at hc;rcases hc with rfl|rfl<;>rfl,rfl⟩
 ·cases hy;exact⟨fun c hc=>by simp at hc;rcases hc with rfl|rfl|rfl<;>rfl,rfl⟩
 ·cases hy
theorem FZ{m:Mu}{h:Heap}{w:World}{t ty:TypeId}{x y:V}{xv:Value}(hx:R m h w x xv)(hy:dy P t x=some y):∃ v,(∀ w':World,(Builtin.len_ #[t] ty #[xv]).run P w'=.ok v w')/\R m h w y v:=by
 unfold dy at hy;split at hy
 ·rename_i s hu;cases hx;cases hy;exact⟨_,fun w'=>by simp[Builtin.len_,run_underlying hu,goInt],.int _ _⟩
 ·rename_i e b off len cap k hu;cases hx;cases hy;exact⟨_,fun w'=>by simp[Builtin.len_,run_underlying hu,goInt],.int _ _⟩
 ·rename_i e xs hu;cases hy;cases hx with
  | lst0 a rc _=>exact⟨_,fun w'=>by simp[Builtin.len_,run_underlying hu,goInt],.int _ _⟩
  | lst rv h0 h3 hk hc hf hr=>exact⟨_,fun w'=>by simp[Builtin.len_,run_underlying hu,goInt],.int _ _⟩
 ·rename_i e hu;cases hx;cases hy;exact⟨_,fun w'=>by simp[Builtin.len_,run_underlying hu,goInt],.int _ _⟩
 ·rename_i n e hu;cases hy;exact⟨_,fun w'=>by simp[Builtin.len_,run_underlying hu,goInt],.int _ _⟩
 ·cases hy
theorem qp{o:Oper}(hf:cU P o=true){cfg:Cfg}{fr:List V}{h h':Heap}{v:V}(hv:opV P cfg fr h o.op=some (v,h')):h'=h/\∀ g,opV P cfg fr g o.op=some (v,g):=by
 unfold cU at hf;split at hf
 ·rename_i h0;rw[h0]at hv ⊢;simp only[opV]at hv ⊢;obtain⟨h1,h2⟩:=aF hv;exact⟨h2,fun g=>by rw[h1];rfl⟩
 ·rename_i h0;rw[h0]at hv ⊢;simp only[opV]at hv ⊢;split at hv
  ·obtain⟨h1,h2⟩:=aF hv;exact⟨h2,fun g=>by rw[h1];rfl⟩
  ·cases hv
 ·rename_i h0;rw[h0]at hv ⊢;simp only[opV]at hv ⊢;split at hv
  ·obtain⟨h1,h2⟩:=aF hv;exact⟨h2,fun g=>by rw[h1];rfl⟩
  ·cases hv
 ·rename_i h0;rw[h0]at hv ⊢;simp only[opV]at hv ⊢;split at hv
  ·obtain⟨h1,h2⟩:=aF hv;exact⟨h2,fun g=>by rw[h1];rfl⟩
  ·cases hv
 ·rename_i h0;rw[h0]at hv ⊢;simp only[opV]at hv ⊢;split at hv
  ·cases hv
  ·obtain⟨h1,h2⟩:=aF hv;exact⟨h2,fun g=>by rw[h1];rfl⟩
 ·rename_i h0;rw[h0]at hv ⊢;simp only[opV]at hv ⊢;split at hv
  ·cases hv
  ·obtain⟨h1,h2⟩:=aF hv;exact⟨h2,fun g=>by rw[h1];rfl⟩
 ·rename_i args tys h0;obtain⟨t,rfl⟩:=sr hf;rw[h0]at hv ⊢;simp only[opV]at hv ⊢;split at hv
  ·cases hv
  ·rename_i vs h3
   match vs,hv with
   | [x],hv =>
    obtain⟨h1,h2⟩:=aF hv;exact⟨h2,fun g=>by simp[h1]⟩
   | [],hv=>cases hv
   | _::_::_,hv=>cases hv
 ·cases hf
theorem qq{o:Oper}(hf:cU P o=true){cfg:Cfg}{fr:List V}{h h':Heap}{v:V}(hv:opV P cfg fr h o.op=some (v,h')){m:Mu}{g:Heap}{w:World}{a:Act}(f:FR m g w fr a):
  ∃ u,(∀ w',(execOp a.eval o).run P w'=.ok (.value u) w')/\R m g w v u:=by
 unfold cU at hf;split at hf
 ·rename_i y h0;rw[h0]at hv;simp only[opV]at hv;obtain⟨h1,_⟩:=aF hv;exact⟨a.eval y,fun w'=>by simp only[execOp,h0,Sem.run_pure],dc f h1⟩
 ·rename_i y i h0;rw[h0]at hv;simp only[opV]at hv;split at hv
  ·rename_i b hb;obtain⟨h1,_⟩:=aF hv;have hx:=dc f hb;unfold ie at h1;split at h1
   ·generalize hh:a.eval y=vy at hx;cases hx with
    | tup hl hr =>
     have h9:=(Ld.1 h1).1;rw[<- hl]at h9;exact⟨_,fun w'=>by simp[execOp,h0,hh,Instr.extract,h9],hr i v _ h1 (Lr h9)⟩
   ·cases h1
  ·cases hv
 ·rename_i op t y h0;rw[h0]at hv;simp only[opV]at hv;split at hv
  ·rename_i b hb;obtain⟨h1,_⟩:=aF hv;have hx:=dc f hb;obtain⟨p1,p2⟩:=BG h1;obtain⟨u,hu,h4⟩:=Ej (P:=P) hx h1;refine⟨u,fun w'=>?_,h4⟩;obtain⟨u',h7,h3⟩:=Ej (P:=P) (w:=w') (hx.plain (m':=m) (h':=g) (w':=w') p1) h1;rw[h4.plain_eq p2 h3];simp only[execOp,h0,Sem.run_bind,h7,Result.andThen_ok,Sem.run_pure]
  ·cases hv
 ·rename_i op t y z c h0;split at hf
  ·rename_i k ht;rw[h0]at hv;simp only[opV]at hv;split at hv
   ·rename_i b d hb hd;obtain⟨h1,_⟩:=aF hv;have hx:=dc f hb;have hy:=dc f hd;obtain⟨p1,p2,p3⟩:=xo ht h1;obtain⟨u,hu,h4⟩:=xq (P:=P) (ox:=y) (oy:=z) hx hy h1;refine⟨u,fun w'=>?_,h4⟩;obtain⟨u',h7,h3⟩:=xq (P:=P) (ox:=y) (oy:=z) (w:=w') (hx.plain (m':=m) (h':=g) (w':=w') p1) (hy.plain p2) h1;rw[h4.plain_eq p3 h3];have:(execOp a.eval o)=(do let v <- (do eqGuard op t y z (a.eval y) (a.eval z);binOp op t (a.eval y) (a.eval z):Sem Value);pure (.value v)):=by simp only[execOp,h0]
    rw[this,Sem.run_bind,h7];rfl
   ·cases hv
  ·cases hf
 ·rename_i args tys h0;rw[h0]at hv;simp only[opV]at hv;split at hv
  ·cases hv
  ·rename_i vs h8;obtain⟨h1,_⟩:=aF hv;obtain⟨hl,hr⟩:=gJ f h8;obtain⟨he,hg⟩:=xW h1;have h6:∀ (d:Sem Next),(execOp a.eval o)=(do let d <- resolve a.eval { callee:=.builtin .max,args:=args,argTypes:=tys } o.type;invoke d.target d.args):=fun _=>by simp only[execOp,h0]
   have hex:(execOp a.eval o)=(do let v <- Builtin.max_ tys o.type (args.map a.eval);pure (.value v)):=by
    rw[h6 (pure .skip)];rfl
   have ha:(args.toList.map a.eval).toArray=args.map a.eval:=by apply MZ;simp
   obtain⟨u,hu,h4⟩:=xX (P:=P) (ts:=tys) (ty:=o.type) (by simpa using hl) hr h1;refine⟨u,fun w'=>?_,h4⟩;obtain⟨u',h7,h3⟩:=xX (P:=P) (ts:=tys) (ty:=o.type) (w:=w') (m:=m) (h:=g) (by simpa using hl) (fun i c v hc hv=>(hr i c v hc hv).plain (he c (Le hc))) h1;rw[h4.plain_eq hg h3,hex,Sem.run_bind,<- ha,h7];rfl
 ·rename_i args tys h0;rw[h0]at hv;simp only[opV]at hv;split at hv
  ·cases hv
  ·rename_i vs h8;obtain⟨h1,_⟩:=aF hv;obtain⟨hl,hr⟩:=gJ f h8;obtain⟨he,hg⟩:=xY h1;have h6:∀ (d:Sem Next),(execOp a.eval o)=(do let d <- resolve a.eval { callee:=.builtin .min,args:=args,argTypes:=tys } o.type;invoke d.target d.args):=fun _=>by simp only[execOp,h0]
   have hex:(execOp a.eval o)=(do let v <- Builtin.min_ tys o.type (args.map a.eval);pure (.value v)):=by
    rw[h6 (pure .skip)];rfl
   have ha:(args.toList.map a.eval).toArray=args.map a.eval:=by apply MZ;simp
   obtain⟨u,hu,h4⟩:=xZ (P:=P) (ts:=tys) (ty:=o.type) (by simpa using hl) hr h1;refine⟨u,fun w'=>?_,h4⟩;obtain⟨u',h7,h3⟩:=xZ (P:=P) (ts:=tys) (ty:=o.type) (w:=w') (m:=m) (h:=g) (by simpa using hl) (fun i c v hc hv=>(hr i c v hc hv).plain (he c (Le hc))) h1;rw[h4.plain_eq hg h3,hex,Sem.run_bind,<- ha,h7];rfl
 ·rename_i args tys h0;obtain⟨t,rfl⟩:=sr hf;rw[h0]at hv;simp only[opV]at hv;split at hv
  ·cases hv
  ·rename_i vs h8
   match vs,h8,hv with
   | [x],h8,hv =>
    obtain⟨h1,_⟩:=aF hv;obtain⟨hl,hr⟩:=gJ f h8;have h6:∀ (d:Sem Next),(execOp a.eval o)=(do let d <- resolve a.eval { callee:=.builtin .len,args:=args,argTypes:=#[t] } o.type;invoke d.target d.args):=fun _=>by simp only[execOp,h0]
    have hex:(execOp a.eval o)=(do let v <- Builtin.len_ #[t] o.type (args.map a.eval);pure (.value v)):=by
     rw[h6 (pure .skip)];rfl
    have ha:(args.toList.map a.eval).toArray=args.map a.eval:=by apply MZ;simp
    obtain⟨xv,hj⟩:∃ xv,args.toList.map a.eval=[xv]:=by
     generalize args.toList.map a.eval=l at hl
     match l,hl with
     | [xv],_=>exact⟨xv,rfl⟩
    rw[hj]at ha hr;obtain⟨u,hu,h4⟩:=FZ (P:=P) (ty:=o.type) (hr 0 x xv rfl rfl) h1;exact⟨u,fun w'=>by rw[hex,Sem.run_bind,<- ha,hu w'];rfl,h4⟩
   | [],_,hv=>cases hv
   | _::_::_,_,hv=>cases hv
 ·cases hf
end
end Go.Ab
