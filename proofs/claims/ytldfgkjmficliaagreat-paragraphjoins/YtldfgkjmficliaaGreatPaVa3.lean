/- Several texts of this proof in one. -/
import Derived.Test.YtldfgkjmficliaaGreatPaRe
import Derived.Test.YtldfgkjmficliaaGreatAbW7
import Derived.Test.YtldfgkjmficliaaGreatPaVa2
set_option linter.unusedSimpArgs false
set_option linter.unusedVariables false
namespace Go.Proofs
open Go.Shelf Go.RowKit Go.Lib
def Tryz.growL_ren:Ren:=⟨fun|4=>174|n=>n,fun|0=>0|3=>3|4=>4|9=>9|20=>20|22=>39|25=>97|n=>n,fun|n=>n⟩
theorem Tryz.growL:Lays8.n4 Tryz.prog Tryz.growL_ren:={
 mixed:=by kernel_rfl
 f4:=⟨Tryz.f174.name,by kernel_rfl,Tryz.func174.trans (congrArg some (by kernel_rfl))⟩
 t0:=Tryz.underlying0
 a0:=Tryz.isAgg0
 z0:=Tryz.sizeOf0
 v0:=Tryz.zeroValue0
 t3:=Tryz.underlying3
 a3:=Tryz.isAgg3
 z3:=Tryz.sizeOf3
 v3:=Tryz.zeroValue3
 t4:=Tryz.underlying4
 a4:=Tryz.isAgg4
 z4:=Tryz.sizeOf4
 v4:=Tryz.zeroValue4
 t9:=Tryz.underlying9
 a9:=Tryz.isAgg9
 z9:=Tryz.sizeOf9
 v9:=Tryz.zeroValue9
 t20:=Tryz.underlying20
 a20:=Tryz.isAgg20
 z20:=Tryz.sizeOf20
 v20:=Tryz.zeroValue20
 t22:=Tryz.underlying39
 a22:=Tryz.isAgg39
 z22:=Tryz.sizeOf39
 v22:=Tryz.zeroValue39 }
end Go.Proofs
namespace Go.Ab
open Go.Proofs
namespace Bi
theorem yq:Tryz.growL_ren.f 4=174:=by kernel_rfl
theorem uC:cj Tryz.prog 174 (fQ 8 64):=by
 have h1:(Tryz.prog.info? (Tryz.growL_ren.t 25)).map (fun i=>(i.size,i.bytes,i.zero.map fun z=>z.cells.size))=some (8,64,some 8):=by kernel_rfl
 cases hi:Tryz.prog.info? (Tryz.growL_ren.t 25) with
 | none=>rw[hi]at h1;cases h1
 | some i0 =>
  rw[hi]at h1
  simp only[Option.map_some,Option.some.injEq,Prod.mk.injEq]at h1
  obtain⟨hs,hb,hz⟩:=h1
  cases hz0:i0.zero with
  | none=>rw[hz0]at hz;cases hz
  | some z =>
   rw[hz0]at hz
   have hzs:z.cells.size=8:=by simpa using hz
   have h:=B5 Tryz.growL hi hz0 (by omega) (by omega) (by rw[yq];exact⟨_,Tryz.func174,rfl⟩)
   rw[yq,hs,hb]at h
   exact h
end Bi
end Go.Ab
namespace Go.Ab
open Go.Proofs
namespace Bi
attribute [local congr] az
def oX(l:List Spn)(n:Int):Prop:=if n=0 then ∃ s,l=[s]∧s.f=0∧s.t=0 else Cov 0 n l
theorem wz(l:List Spn):oX l 0↔∃ s,l=[s]∧s.f=0∧s.t=0:=by unfold oX;rw[if_pos rfl]
theorem BD{l:List Spn}{n:Int}(h:n≠0):oX l n↔Cov 0 n l:=by unfold oX;rw[if_neg h]
theorem A3{a n:Int}{s:Spn}{l:List Spn}:Cov a n (s::l)↔s.f=a∧a<s.t∧Cov s.t n l:=Iff.rfl
noncomputable def kz:List Fnt→Int
 | []=>0
 | f::r=>if bJ f=0 then kz r else bJ f
theorem D6{a n:Int}:Cov a n []↔a=n:=Iff.rfl
theorem spsl(s:Spn):(cb s).all V.leaf=true∧isMap (cb s)=false∧(cb s).length=4∧(cb s).take 4=cb s∧putAt [V.int .i64 0,.int .i64 0,.int .i64 0,.int .i64 0] 0 (cb s)=cb s ∧
  slot (cb s) 0=some (.int .i64 s.f)∧slot (cb s) 1=some (.int .i64 s.t)∧slot (cb s) 2=some (.int .i64 s.n)∧slot (cb s) 3=some (.int .i64 s.z):=⟨rfl,rfl,rfl,rfl,rfl,rfl,rfl,rfl,rfl⟩
theorem rh(f:Fnt)(r:List Fnt):kz (f::r)=if bJ f=0 then kz r else bJ f:=rfl
def oG(n:Nat)(s:Spn):Prop:=s.n<0∨(n:Int)≤s.n∨s.z<1∨1000<s.z
def qA(p:Par):Prop:=p.b < -1∨1<p.b∨p.a<0∨2<p.a∨p.w<0∨1048576<p.w
noncomputable def nH(p:Par)(fs:List Fnt):Int:=by
 classical
 exact if 2000<p.t.length∨100<p.s.length∨8<fs.length then 2 else if qA p∨∃ s∈p.s,oG fs.length s then 1 else if kz fs≠0 then kz fs else if oX p.s p.t.length then 0 else 10
theorem AX{p:Par}{fs:List Fnt}(h:2000<p.t.length∨100<p.s.length∨8<fs.length):nH p fs=2:=by unfold nH;rw[if_pos h]
theorem vR{p:Par}{fs:List Fnt}(h:¬ (2000<p.t.length∨100<p.s.length∨8<fs.length))(h1:qA p∨∃ s∈p.s,oG fs.length s):nH p fs=1:=by unfold nH;rw[if_neg h,if_pos h1]
theorem DP{p:Par}{fs:List Fnt}(h:¬ (2000<p.t.length∨100<p.s.length∨8<fs.length))(h1:¬ (qA p∨∃ s∈p.s,oG fs.length s))(h2:kz fs≠0):nH p fs=kz fs:=by unfold nH;rw[if_neg h,if_neg h1,if_pos h2]
theorem DN{p:Par}{fs:List Fnt}(h:¬ (2000<p.t.length∨100<p.s.length∨8<fs.length))(h1:¬ (qA p∨∃ s∈p.s,oG fs.length s))(h2:kz fs=0)(h3:¬ oX p.s p.t.length):nH p fs=10:=by
 unfold nH;rw[if_neg h,if_neg h1,if_neg (by simp[h2]),if_neg h3]
theorem zn{p:Par}{fs:List Fnt}(h:¬ (2000<p.t.length∨100<p.s.length∨8<fs.length))(h1:¬ (qA p∨∃ s∈p.s,oG fs.length s))(h2:kz fs=0)(h3:oX p.s p.t.length):nH p fs=0:=by
 unfold nH;rw[if_neg h,if_neg h1,if_neg (by simp[h2]),if_pos h3]
theorem zN{fs:List Fnt}{i:Nat}{f:Fnt}(hx:fs[i]?=some f):kz (fs.drop i)=if bJ f=0 then kz (fs.drop (i+1)) else bJ f:=by
 rw[List.drop_eq_getElem_cons (List.getElem?_eq_some_iff.1 hx).1,(List.getElem?_eq_some_iff.1 hx).2,rh]
theorem parsl(p:Par):(cF p).all V.leaf=true∧isMap (cF p)=false∧slot (cF p) 0=some (rl p.t)∧slot (cF p) 1=some (.lst (p.s.map cb))∧slot (cF p) 2=some (.int .i64 p.b)∧slot (cF p) 3=some (.int .i64 p.a)∧slot (cF p) 4=some (.int .i64 p.w) ∧
  (cF p).length=5∧(cF p).take 5=cF p:=⟨rfl,rfl,rfl,rfl,rfl,rfl,rfl,rfl,rfl⟩
section
variable {prim:FuncId→Option Prim}(d:Nat) (cfg:Cfg) (h:Heap)
set_option maxHeartbeats 4000000 in
theorem wA(hp:∀ f,Np5 f→prim f=none)(l:List Spn)(hl:l.length≤2000)(n:Int):
  ∃ r,(∃ b:Bool,r=.bool b∧(b=true↔oX l n))∧∀ cfg h,af md (K prim (d+1)) cfg 49 [.lst (l.map cb),.int .i64 n] h=some (r,h):=by
 refine ik rfl (hp 49 (by decide)) Tryz.func49 rfl rfl rfl (by simp) ?_
 by_cases hn:n=0
 ·subst hn
  rcases l with _|⟨s,_|⟨s2,l⟩⟩
  ·simp[wz]
  ·simp +contextual (disch:=first|omega|(simp;done)|(simp[Decidable.imp_iff_not_or];done)|fail) [-ao,bM,aq,ax,bh,cb,wz]
   omega
  ·have h1:¬ (l.length:Int)+1+1=1:=by omega
   simp +contextual (disch:=first|omega|(simp;done)|(simp[Decidable.imp_iff_not_or];done)|fail) [-ao,bM,aq,cC,cn,cb,wz,h1]
 ·simp(disch:=omega)[hn]
  refine aj (fun m fr H=>∃ (i:Nat) (a:Int),i≤l.length∧m=l.length-i∧(Cov 0 n l↔Cov a n (l.drop i))∧Slots 50 [(1,.int .i64 n),(5,.int .i64 a),(27,.lst (l.map cb)),(28,.int .i64 l.length),(29,.int .i64 i)] fr) (m:=l.length) (by omega) ⟨0,0,by omega,by omega,by simp,by simp⟩ ?_
  rintro m fr H ⟨i,a,hi,rfl,hc,hs⟩
  obtain⟨j,rfl⟩:=hs.ex
  clear hs
  by_cases hlt:i<l.length
  ·have hI:(i:Int)<l.length:=by omega
   obtain⟨s,hx⟩:∃ s,l[i]?=some s:=⟨_,List.getElem?_eq_getElem hlt⟩
   rw[List.drop_eq_getElem_cons hlt,(List.getElem?_eq_some_iff.1 hx).2,A3]at hc
   obtain⟨q1,q2,q3,q4,q5,u0,u1,u2,u3⟩:=spsl s
   simp +contextual (disch:=first|omega|(simp;done)|(simp[Decidable.imp_iff_not_or];done)|fail) [-ao,bM,aq,ax,bC,-getElem?_pos,q1,q2,q3,q4,q5,u0,u1,hI,hx]
   refine ak (fun hb=>?_) (fun hb=>?_)
   ·have hf:¬ oX l n:=by rw[BD hn,hc];simp at hb;omega
    simp[hf]
   ·simp(disch:=omega)[q2,u1,wrap64,-getElem?_pos]
    refine ae (m':=l.length-(i+1)) (by omega) ⟨i+1,s.t,by omega,by omega,?_,by simp(disch:=omega)⟩
    rw[hc]
    simp at hb
    constructor
    ·exact fun g=>g.2.2
    ·exact fun g=>⟨by omega,by omega,g⟩
  ·obtain rfl:i=l.length:=by omega
   rw[List.drop_length]at hc
   simp(disch:=omega)[BD hn,hc,D6]
   try omega
end
end Bi
end Go.Ab
