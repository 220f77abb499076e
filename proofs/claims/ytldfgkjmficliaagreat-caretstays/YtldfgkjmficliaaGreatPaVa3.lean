/- Several texts of this proof in one. -/
import Derived.Test.YtldfgkjmficliaaGreatPaRe
set_option linter.all false
set_option maxHeartbeats 4000000
namespace Go.Proofs
open Go.Shelf Go.RowKit Go.Lib
def Tryz.growL_ren:Ren:=⟨fun|4=>174|n=>n,fun|0=>0|3=>3|4=>4|9=>9|20=>20|22=>39|25=>97|n=>n,fun|n=>n⟩
theorem Tryz.growL:Lays8.n4 Tryz.prog Tryz.growL_ren:={
 mixed:=by kernel_rfl
 f4:=⟨Tryz.f174.name,by kernel_rfl,Tryz.func174.trans (congrArg some (by kernel_rfl))⟩
 t0:=Tryz.underlying0
 a0:=Tryz.isAgg0
 z0:=Tryz.sizeOf0
 v0:=Tryz.zeroValue0
 t3:=Tryz.underlying3
 a3:=Tryz.isAgg3
 z3:=Tryz.sizeOf3
 v3:=Tryz.zeroValue3
 t4:=Tryz.underlying4
 a4:=Tryz.isAgg4
 z4:=Tryz.sizeOf4
 v4:=Tryz.zeroValue4
 t9:=Tryz.underlying9
 a9:=Tryz.isAgg9
 z9:=Tryz.sizeOf9
 v9:=Tryz.zeroValue9
 t20:=Tryz.underlying20
 a20:=Tryz.isAgg20
 z20:=Tryz.sizeOf20
 v20:=Tryz.zeroValue20
 t22:=Tryz.underlying39
 a22:=Tryz.isAgg39
 z22:=Tryz.sizeOf39
 v22:=Tryz.zeroValue39 }
end Go.Proofs
namespace Go.Ab
open Go.Proofs
namespace Bi
theorem zg:Tryz.growL_ren.f 4=174:=by kernel_rfl
theorem vA:cM Tryz.prog 174 (gw 8 64):=by
 have h1:(Tryz.prog.info? (Tryz.growL_ren.t 25)).map (fun i=>(i.size,i.bytes,i.zero.map fun z=>z.cells.size))=some (8,64,some 8):=by kernel_rfl
 cases hi:Tryz.prog.info? (Tryz.growL_ren.t 25) with
 | none=>rw[hi]at h1;cases h1
 | some i0 =>
  rw[hi]at h1;simp only[LW,Ll,LL]at h1;obtain⟨hs,hb,hz⟩:=h1;cases h0:i0.zero with
  | none=>rw[h0]at hz;cases hz
  | some z =>
   rw[h0]at hz;have h3:z.cells.size=8:=by simpa using hz
   have h:=CU Tryz.growL hi h0 (by omega) (by omega) (by rw[zg];exact⟨_,Tryz.func174,rfl⟩);rw[zg,hs,hb]at h;exact h
attribute [local congr] aw
def pW(l:List Spn)(n:Int):Prop:=if n=0 then ∃ s,l=[s]/\s.f=0/\s.t=0 else Cov 0 n l
theorem xC(l:List Spn):pW l 0↔∃ s,l=[s]/\s.f=0/\s.t=0:=by unfold pW;rw[if_pos rfl]
theorem Cv{l:List Spn}{n:Int}(h:n≠0):pW l n↔Cov 0 n l:=by unfold pW;rw[if_neg h]
theorem BP{a n:Int}{s:Spn}{l:List Spn}:Cov a n (s::l)↔s.f=a/\a<s.t/\Cov s.t n l:=ME
noncomputable def ly:List Fnt->Int
 | []=>0
 | f::r=>if ck f=0 then ly r else ck f
theorem ER{a n:Int}:Cov a n []↔a=n:=ME
theorem spsl(s:Spn):(cg s).all V.leaf=true/\isMap (cg s)=false/\(cg s).length=4/\(cg s).take 4=cg s/\putAt [V.int .i64 0,.int .i64 0,.int .i64 0,.int .i64 0] 0 (cg s)=cg s /\
  slot (cg s) 0=some (.int .i64 s.f)/\slot (cg s) 1=some (.int .i64 s.t)/\slot (cg s) 2=some (.int .i64 s.n)/\slot (cg s) 3=some (.int .i64 s.z):=⟨rfl,rfl,rfl,rfl,rfl,rfl,rfl,rfl,rfl⟩
theorem rZ(f:Fnt)(r:List Fnt):ly (f::r)=if ck f=0 then ly r else ck f:=rfl
def pD(n:Nat)(s:Spn):Prop:=s.n<0\/(n:Int)<=s.n\/s.z<1\/1000<s.z
def rz(p:Par):Prop:=p.b < -1\/1<p.b\/p.a<0\/2<p.a\/p.w<0\/1048576<p.w
noncomputable def oM(p:Par)(fs:List Fnt):Int:=by
 classical
 exact if 2000<p.t.length\/100<p.s.length\/8<fs.length then 2 else if rz p\/∃ s∈p.s,pD fs.length s then 1 else if ly fs≠0 then ly fs else if pW p.s p.t.length then 0 else 10
theorem BI{p:Par}{fs:List Fnt}(h:2000<p.t.length\/100<p.s.length\/8<fs.length):oM p fs=2:=by unfold oM;rw[if_pos h]
theorem wX{p:Par}{fs:List Fnt}(h:¬ (2000<p.t.length\/100<p.s.length\/8<fs.length))(h1:rz p\/∃ s∈p.s,pD fs.length s):oM p fs=1:=by unfold oM;rw[if_neg h,if_pos h1]
theorem Ew{p:Par}{fs:List Fnt}(h:¬ (2000<p.t.length\/100<p.s.length\/8<fs.length))(h1:¬ (rz p\/∃ s∈p.s,pD fs.length s))(h2:ly fs≠0):oM p fs=ly fs:=by unfold oM;rw[if_neg h,if_neg h1,if_pos h2]
theorem Ev{p:Par}{fs:List Fnt}(h:¬ (2000<p.t.length\/100<p.s.length\/8<fs.length))(h1:¬ (rz p\/∃ s∈p.s,pD fs.length s))(h2:ly fs=0)(h3:¬ pW p.s p.t.length):oM p fs=10:=by
 unfold oM;rw[if_neg h,if_neg h1,if_neg (by simp[h2]),if_neg h3]
theorem Ak{p:Par}{fs:List Fnt}(h:¬ (2000<p.t.length\/100<p.s.length\/8<fs.length))(h1:¬ (rz p\/∃ s∈p.s,pD fs.length s))(h2:ly fs=0)(h3:pW p.s p.t.length):oM p fs=0:=by
 unfold oM;rw[if_neg h,if_neg h1,if_neg (by simp[h2]),if_pos h3]
theorem AO{fs:List Fnt}{i:Nat}{f:Fnt}(hx:fs[i]?=some f):ly (fs.drop i)=if ck f=0 then ly (fs.drop (i+1)) else ck f:=by
 rw[LC (Ld.1 hx).1,(Ld.1 hx).2,rZ]
theorem parsl(p:Par):(aO p).all V.leaf=true/\isMap (aO p)=false/\slot (aO p) 0=some (rl p.t)/\slot (aO p) 1=some (.lst (p.s.map cg))/\slot (aO p) 2=some (.int .i64 p.b)/\slot (aO p) 3=some (.int .i64 p.a)/\slot (aO p) 4=some (.int .i64 p.w) /\
  (aO p).length=5/\(aO p).take 5=aO p:=⟨rfl,rfl,rfl,rfl,rfl,rfl,rfl,rfl,rfl⟩
section
variable {prim:FuncId->Option Prim}(d:Nat) (cfg:Cfg) (h:Heap)
theorem xD(hp:∀ f,Np5 f->prim f=none)(l:List Spn)(hl:l.length<=2000)(n:Int):
  ∃ r,(∃ b:Bool,r=.bool b/\(b=true↔pW l n))/\∀ cfg h,af md (K prim (d+1)) cfg 49 [.lst (l.map cg),.int .i64 n] h=some (r,h):=by
 refine gn rfl (hp 49 (by decide)) Tryz.func49 rfl rfl rfl (by simp) ?_;by_cases hn:n=0
 ·subst hn;rcases l with _|⟨s,_|⟨s2,l⟩⟩
  ·simp[xC]
  ·simp +contextual (disch:=first|omega|(simp;done)|(simp[Lj];done)|fail) [-ar,cC,ax,aG,cx,cg,xC];omega
  ·have h1:¬ (l.length:Int)+1+1=1:=by omega
   simp +contextual (disch:=first|omega|(simp;done)|(simp[Lj];done)|fail) [-ar,cC,ax,cL,cP,cg,xC,h1]
 ·simp(disch:=omega)[hn];refine ai (fun m fr H=>∃ (i:Nat) (a:Int),i<=l.length/\m=l.length-i/\(Cov 0 n l↔Cov a n (l.drop i))/\Slots 50 [(1,.int .i64 n),(5,.int .i64 a),(27,.lst (l.map cg)),(28,.int .i64 l.length),(29,.int .i64 i)] fr) (m:=l.length) (by omega) ⟨0,0,by omega,by omega,by simp,by simp⟩ ?_;rintro m fr H ⟨i,a,hi,rfl,hc,hs⟩;obtain⟨j,rfl⟩:=hs.ex;clear hs;by_cases h0:i<l.length
  ·have hI:(i:Int)<l.length:=by omega
   obtain⟨s,hx⟩:∃ s,l[i]?=some s:=⟨_,Lc h0⟩;rw[LC h0,(Ld.1 hx).2,BP]at hc;obtain⟨q1,q2,q3,q4,q5,u0,u1,u2,u3⟩:=spsl s;simp +contextual (disch:=first|omega|(simp;done)|(simp[Lj];done)|fail) [-ar,cC,ax,aG,cr,-getElem?_pos,q1,q2,q3,q4,q5,u0,u1,hI,hx];refine aq (fun hb=>?_) (fun hb=>?_)
   ·have hf:¬ pW l n:=by rw[Cv hn,hc];simp at hb;omega
    simp[hf]
   ·simp(disch:=omega)[q2,u1,wrap64,-getElem?_pos];refine ae (m':=l.length-(i+1)) (by omega) ⟨i+1,s.t,by omega,by omega,?_,by simp(disch:=omega)⟩;rw[hc];simp at hb;constructor
    ·exact fun g=>g.2.2
    ·exact fun g=>⟨by omega,by omega,g⟩
  ·obtain rfl:i=l.length:=by omega
   rw[Mr]at hc;simp(disch:=omega)[Cv hn,hc,ER]
   try omega
end
end Bi
end Go.Ab
