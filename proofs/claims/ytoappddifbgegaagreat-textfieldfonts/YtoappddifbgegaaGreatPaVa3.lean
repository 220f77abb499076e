/- Several texts of this proof in one. -/
import Derived.Test.YtoappddifbgegaaGreatPaMi
set_option linter.all false
set_option maxHeartbeats 4000000
namespace Go.Proofs
open Go.Shelf Go.RowKit Go.Lib
def Tryz.growL_ren:Ren:=⟨fun|4=>329|n=>n,fun|0=>0|3=>3|4=>4|9=>9|20=>20|22=>160|25=>225|n=>n,fun|n=>n⟩
theorem Tryz.growL:Lays8.n4 Tryz.prog Tryz.growL_ren:={
 mixed:=by kernel_rfl
 f4:=⟨Tryz.f329.name,by kernel_rfl,Tryz.func329.trans (congrArg some (by kernel_rfl))⟩
 t0:=Tryz.underlying0
 a0:=Tryz.isAgg0
 z0:=Tryz.sizeOf0
 v0:=Tryz.zeroValue0
 t3:=Tryz.underlying3
 a3:=Tryz.isAgg3
 z3:=Tryz.sizeOf3
 v3:=Tryz.zeroValue3
 t4:=Tryz.underlying4
 a4:=Tryz.isAgg4
 z4:=Tryz.sizeOf4
 v4:=Tryz.zeroValue4
 t9:=Tryz.underlying9
 a9:=Tryz.isAgg9
 z9:=Tryz.sizeOf9
 v9:=Tryz.zeroValue9
 t20:=Tryz.underlying20
 a20:=Tryz.isAgg20
 z20:=Tryz.sizeOf20
 v20:=Tryz.zeroValue20
 t22:=Tryz.underlying160
 a22:=Tryz.isAgg160
 z22:=Tryz.sizeOf160
 v22:=Tryz.zeroValue160 }
end Go.Proofs
namespace Go.Ab
open Go.Proofs
namespace Bi
theorem zG:Tryz.growL_ren.f 4=329:=by kernel_rfl
theorem vI:bw Tryz.prog 329 (gj 8 64):=by
 have h1:(Tryz.prog.info? (Tryz.growL_ren.t 25)).map (fun i=>(i.size,i.bytes,i.zero.map fun z=>z.cells.size))=some (8,64,some 8):=by kernel_rfl
 cases hi:Tryz.prog.info? (Tryz.growL_ren.t 25) with
 | none=>rw[hi]at h1;cases h1
 | some i0 =>
  rw[hi]at h1;simp only[LX,K7,Lj]at h1;obtain⟨hs,hb,hz⟩:=h1;cases h0:i0.zero with
  | none=>rw[h0]at hz;cases hz
  | some z =>
   rw[h0]at hz;have h3:z.cells.size=8:=by simpa using hz
   have h:=De Tryz.growL hi h0 (by omega) (by omega) (by rw[zG];exact⟨_,Tryz.func329,rfl⟩);rw[zG,hs,hb]at h;exact h
attribute [local congr] az
def qa(l:List Spn)(n:Int):Prop:=if n=0 then ∃ s,l=[s]/\s.f=0/\s.t=0 else Cov 0 n l
theorem xM(l:List Spn):qa l 0↔∃ s,l=[s]/\s.f=0/\s.t=0:=by unfold qa;rw[if_pos rfl]
theorem CR{l:List Spn}{n:Int}(h:n≠0):qa l n↔Cov 0 n l:=by unfold qa;rw[if_neg h]
theorem Ch{a n:Int}{s:Spn}{l:List Spn}:Cov a n (s::l)↔s.f=a/\a<s.t/\Cov s.t n l:=Mt
noncomputable def lB:List Fnt->Int
 | []=>0
 | f::r=>if bQ f=0 then lB r else bQ f
theorem Ff{a n:Int}:Cov a n []↔a=n:=Mt
theorem spsl(s:Spn):(aR s).all V.leaf=true/\isMap (aR s)=false/\(aR s).length=4/\(aR s).take 4=aR s/\putAt [V.int .i64 0,.int .i64 0,.int .i64 0,.int .i64 0] 0 (aR s)=aR s /\
  slot (aR s) 0=some (.int .i64 s.f)/\slot (aR s) 1=some (.int .i64 s.t)/\slot (aR s) 2=some (.int .i64 s.n)/\slot (aR s) 3=some (.int .i64 s.z):=⟨rfl,rfl,rfl,rfl,rfl,rfl,rfl,rfl,rfl⟩
theorem su(f:Fnt)(r:List Fnt):lB (f::r)=if bQ f=0 then lB r else bQ f:=rfl
def pM(n:Nat)(s:Spn):Prop:=s.n<0\/(n:Int)<=s.n\/s.z<1\/1000<s.z
def rM(p:Par):Prop:=p.b < -1\/1<p.b\/p.a<0\/2<p.a\/p.w<0\/1048576<p.w
noncomputable def oT(p:Par)(fs:List Fnt):Int:=by
 classical
 exact if 2000<p.t.length\/100<p.s.length\/8<fs.length then 2 else if rM p\/∃ s∈p.s,pM fs.length s then 1 else if lB fs≠0 then lB fs else if qa p.s p.t.length then 0 else 10
theorem Cb{p:Par}{fs:List Fnt}(h:2000<p.t.length\/100<p.s.length\/8<fs.length):oT p fs=2:=by unfold oT;rw[if_pos h]
theorem xj{p:Par}{fs:List Fnt}(h:¬ (2000<p.t.length\/100<p.s.length\/8<fs.length))(h1:rM p\/∃ s∈p.s,pM fs.length s):oT p fs=1:=by unfold oT;rw[if_neg h,if_pos h1]
theorem EV{p:Par}{fs:List Fnt}(h:¬ (2000<p.t.length\/100<p.s.length\/8<fs.length))(h1:¬ (rM p\/∃ s∈p.s,pM fs.length s))(h2:lB fs≠0):oT p fs=lB fs:=by unfold oT;rw[if_neg h,if_neg h1,if_pos h2]
theorem EU{p:Par}{fs:List Fnt}(h:¬ (2000<p.t.length\/100<p.s.length\/8<fs.length))(h1:¬ (rM p\/∃ s∈p.s,pM fs.length s))(h2:lB fs=0)(h3:¬ qa p.s p.t.length):oT p fs=10:=by
 unfold oT;rw[if_neg h,if_neg h1,if_neg (by simp[h2]),if_neg h3]
theorem AG{p:Par}{fs:List Fnt}(h:¬ (2000<p.t.length\/100<p.s.length\/8<fs.length))(h1:¬ (rM p\/∃ s∈p.s,pM fs.length s))(h2:lB fs=0)(h3:qa p.s p.t.length):oT p fs=0:=by
 unfold oT;rw[if_neg h,if_neg h1,if_neg (by simp[h2]),if_pos h3]
theorem A7{fs:List Fnt}{i:Nat}{f:Fnt}(hx:fs[i]?=some f):lB (fs.drop i)=if bQ f=0 then lB (fs.drop (i+1)) else bQ f:=by
 rw[Lq (K5.1 hx).1,(K5.1 hx).2,su]
theorem parsl(p:Par):(cY p).all V.leaf=true/\isMap (cY p)=false/\slot (cY p) 0=some (rl p.t)/\slot (cY p) 1=some (.lst (p.s.map aR))/\slot (cY p) 2=some (.int .i64 p.b)/\slot (cY p) 3=some (.int .i64 p.a)/\slot (cY p) 4=some (.int .i64 p.w) /\
  (cY p).length=5/\(cY p).take 5=cY p:=⟨rfl,rfl,rfl,rfl,rfl,rfl,rfl,rfl,rfl⟩
section
variable {prim:FuncId->Option Prim}(d:Nat) (cfg:Cfg) (h:Heap)
theorem xN(hp:∀ f,Np5 f->prim f=none)(l:List Spn)(hl:l.length<=2000)(n:Int):
  ∃ r,(∃ b:Bool,r=.bool b/\(b=true↔qa l n))/\∀ cfg h,af md (K prim (d+1)) cfg 166 [.lst (l.map aR),.int .i64 n] h=some (r,h):=by
 refine iB rfl (hp 166 (by decide)) Tryz.func166 rfl rfl rfl (by simp) ?_;by_cases hn:n=0
 ·subst hn;rcases l with _|⟨s,_|⟨s2,l⟩⟩
  ·simp[xM]
  ·simp +contextual (disch:=first|omega|(simp;done)|(simp[Le];done)|fail) [-au,cu,aw,aD,bU,aR,xM];omega
  ·have h1:¬ (l.length:Int)+1+1=1:=by omega
   simp +contextual (disch:=first|omega|(simp;done)|(simp[Le];done)|fail) [-au,cu,aw,cT,cV,aR,xM,h1]
 ·simp(disch:=omega)[hn];refine ah (fun m fr H=>∃ (i:Nat) (a:Int),i<=l.length/\m=l.length-i/\(Cov 0 n l↔Cov a n (l.drop i))/\Slots 50 [(1,.int .i64 n),(5,.int .i64 a),(27,.lst (l.map aR)),(28,.int .i64 l.length),(29,.int .i64 i)] fr) (m:=l.length) (by omega) ⟨0,0,by omega,by omega,by simp,by simp⟩ ?_;rintro m fr H ⟨i,a,hi,rfl,hc,hs⟩;obtain⟨j,rfl⟩:=hs.ex;clear hs;by_cases h0:i<l.length
  ·have hI:(i:Int)<l.length:=by omega
   obtain⟨s,hx⟩:∃ s,l[i]?=some s:=⟨_,K4 h0⟩;rw[Lq h0,(K5.1 hx).2,Ch]at hc;obtain⟨q1,q2,q3,q4,q5,u0,u1,u2,u3⟩:=spsl s;simp +contextual (disch:=first|omega|(simp;done)|(simp[Le];done)|fail) [-au,cu,aw,aD,cp,-getElem?_pos,q1,q2,q3,q4,q5,u0,u1,hI,hx];refine ar (fun hb=>?_) (fun hb=>?_)
   ·have hf:¬ qa l n:=by rw[CR hn,hc];simp at hb;omega
    simp[hf]
   ·simp(disch:=omega)[q2,u1,wrap64,-getElem?_pos];refine ae (m':=l.length-(i+1)) (by omega) ⟨i+1,s.t,by omega,by omega,?_,by simp(disch:=omega)⟩;rw[hc];simp at hb;constructor
    ·exact fun g=>g.2.2
    ·exact fun g=>⟨by omega,by omega,g⟩
  ·obtain rfl:i=l.length:=by omega
   rw[Mi]at hc;simp(disch:=omega)[CR hn,hc,Ff]
   try omega
end
end Bi
end Go.Ab
