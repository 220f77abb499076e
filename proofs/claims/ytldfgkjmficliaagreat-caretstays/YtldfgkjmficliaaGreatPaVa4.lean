/- The check of a paragraph: the program and the reference compute one plain function (Validate). -/
import Derived.Test.YtldfgkjmficliaaGreatPaVa3
set_option linter.all false
set_option maxHeartbeats 8000000
namespace Go.Ab
open Go.Proofs
namespace Bi
attribute [local congr] aw
section
variable {prim:FuncId->Option Prim}(d:Nat) (cfg:Cfg) (h:Heap)
theorem BJ(hp:∀ f,Np5 f->prim f=none)(p:Par)(hl:p.s.length<=2000)(ht:p.t.length<=4000)(fs:List Fnt)(hf:fs.length<=100)(hF:∀ f∈fs,f.adv.length<=1000/\f.ker.length<=1000/\f.lig.length<=1000):
  ∃ r,r=.int .i64 (oM p fs)/\(md 24=0->∀ cfg h,af md (K prim (d+6)) cfg 24 [.agg (aO p),.lst (fs.map aJ)] h=some (r,h)) /\
   (md 24=3->∀ cfg h args,args.mapM (frzA h)=some [.agg (aO p),.lst (fs.map aJ)]->af md (K prim (d+6)) cfg 24 args h=some (r,h)):=by
 refine callE (hp 24 (by decide)) Tryz.func24 rfl rfl rfl (by simp[aO]) ?_;obtain⟨hc,h3,s0,s1,s2,s3,s4,l5,t5⟩:=parsl p;simp +contextual (disch:=first|omega|(simp;done)|(simp[Lj];done)|fail) [-ar,cC,ax,aG,cr,-getElem?_pos,hc,h3,s0,s1];refine aq (fun hb=>?_) (fun ha=>?_)
 ·rw[BI (by simp at hb;omega)];simp
 have h0:¬ (2000<p.t.length\/100<p.s.length\/8<fs.length):=by simp at ha;omega
 clear ha;simp +contextual (disch:=first|omega|(simp;done)|(simp[Lj];done)|fail) [-ar,cC,ax,aG,cr,-getElem?_pos,h3,s2,s3,s4];refine aq (fun hb=>?_) (fun hb=>?_)
 ·rw[wX h0 (.inl (by unfold rz;simp at hb;omega))];simp
 have h6:¬ rz p:=by unfold rz;simp at hb;omega
 clear hb;simp(disch:=omega)[h3,s1];refine ai (fun m fr H=>∃ (i:Nat) (T:Heap),i<=p.s.length/\m=p.s.length-i/\(∀ s∈p.s.take i,¬ pD fs.length s)/\H=some (aO p)::T/\Slots 100 [(1,.lst (fs.map aJ)),(2,.ptr 0 0),(54,.lst (p.s.map cg)),(55,.int .i64 p.s.length),(56,.int .i64 i)] fr) (m:=p.s.length) (by omega) ⟨0,[],by omega,by omega,by simp,rfl,by simp⟩ ?_;rintro m fr H ⟨i,T,hi,rfl,hg,rfl,hs⟩;obtain⟨j,rfl⟩:=hs.ex;clear hs;by_cases h4:i<p.s.length
 ·have hI:(i:Int)<p.s.length:=by omega
  obtain⟨s,hx⟩:∃ s,p.s[i]?=some s:=⟨_,Lc h4⟩;obtain⟨q1,q2,q3,q4,q5,u0,u1,u2,u3⟩:=spsl s;simp +contextual (disch:=first|omega|(simp;done)|(simp[Lj];done)|fail) [-ar,cC,ax,aG,cr,-getElem?_pos,hI,hx,q1,q2,q3,q4,q5,u2,u3];refine aq (fun hb=>?_) (fun hb=>?_)
  ·rw[wX h0 (.inr ⟨s,Le hx,by unfold pD;simp at hb;omega⟩)];simp
  ·have hd:¬ pD fs.length s:=by unfold pD;simp at hb;omega
   simp(disch:=omega)[wrap64,-getElem?_pos];exact ae (m':=p.s.length-(i+1)) (by omega) ⟨i+1,_,by omega,by omega,pt hg hx hd,rfl,by simp(disch:=omega)⟩
 obtain rfl:i=p.s.length:=by omega
 rw[LQ]at hg;have h7:¬ (rz p\/∃ s∈p.s,pD fs.length s):=by
  rintro (h|⟨s,hs,hb⟩)
  ·exact h6 h
  ·exact hg s hs hb
 clear hg hi h4;simp(disch:=omega)[-getElem?_pos];refine ai (fun m fr H=>∃ (i:Nat) (T:Heap),i<=fs.length/\m=fs.length-i/\ly fs=ly (fs.drop i)/\H=some (aO p)::T/\Slots 100 [(2,.ptr 0 0),(81,.lst (fs.map aJ)),(82,.int .i64 fs.length),(83,.int .i64 i)] fr) (m:=fs.length) (by omega) ⟨0,_,by omega,by omega,rfl,rfl,by simp⟩ ?_;rintro m fr H ⟨i,T2,hi,rfl,he,rfl,hs⟩;obtain⟨j2,rfl⟩:=hs.ex;clear hs;by_cases h4:i<fs.length
 ·have hI:(i:Int)<fs.length:=by omega
  obtain⟨f,hx⟩:∃ f,fs[i]?=some f:=⟨_,Lc h4⟩;obtain⟨g1,g2,g3⟩:=hF f (Le hx);obtain⟨h8,h9,l8,t8,w0,w1,w2,w3,w4,w5,w6,w7⟩:=fsl f;have hh:putAt [V.int .i64 0,.int .i64 0,.int .i64 0,.int .i64 0,.int .i64 0,.nils,.nils,.nils] 0 (aJ f)=aJ f:=rfl;obtain⟨_,rfl,hV⟩:=uh (prim:=prim) (d+0) hp f g1 g2 g3;rw[AO hx]at he;simp(disch:=omega)[hI,hx,hV,l8,t8,h8,h9,hh,-getElem?_pos];by_cases hz:ck f=0
  ·rw[if_pos hz]at he;simp(disch:=omega)[hz,wrap64,-getElem?_pos];exact ae (m':=fs.length-(i+1)) (by omega) ⟨i+1,_,by omega,by omega,he,rfl,by simp(disch:=omega)⟩
  ·rw[if_neg hz]at he;rw[Ew h0 h7 (by rw[he];exact hz),he];simp[hz]
 obtain rfl:i=fs.length:=by omega
 rw[Mr]at he;replace he:ly fs=0:=he;obtain⟨_,⟨b,rfl,hb⟩,hC⟩:=xD (prim:=prim) (d+4) hp p.s hl p.t.length;cases b with
 | false =>
  rw[Ev h0 h7 he (fun g=>by simpa using hb.2 g)];simp(disch:=omega)[h3,s0,s1,hC,-getElem?_pos]
 | true =>
  rw[Ak h0 h7 he (hb.1 rfl)];simp(disch:=omega)[h3,s0,s1,hC,-getElem?_pos]
end
end Bi
end Go.Ab
