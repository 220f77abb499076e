/- The check of a paragraph: the program and the reference compute one plain function (Validate). -/
import Derived.Test.YtoappddifbgegaaGreatPaVa3
set_option linter.all false
set_option maxHeartbeats 8000000
namespace Go.Ab
open Go.Proofs
namespace Bi
attribute [local congr] az
section
variable {prim:FuncId->Option Prim}(d:Nat) (cfg:Cfg) (h:Heap)
theorem Cc(hp:∀ f,Np5 f->prim f=none)(p:Par)(hl:p.s.length<=2000)(ht:p.t.length<=4000)(fs:List Fnt)(hf:fs.length<=100)(hF:∀ f∈fs,f.adv.length<=1000/\f.ker.length<=1000/\f.lig.length<=1000):
  ∃ r,r=.int .i64 (oT p fs)/\(md 105=0->∀ cfg h,af md (K prim (d+6)) cfg 105 [.agg (cY p),.lst (fs.map aG)] h=some (r,h)) /\
   (md 105=3->∀ cfg h args,args.mapM (frzA h)=some [.agg (cY p),.lst (fs.map aG)]->af md (K prim (d+6)) cfg 105 args h=some (r,h)):=by
 refine callE (hp 105 (by decide)) Tryz.func105 rfl rfl rfl (by simp[cY]) ?_;obtain⟨hc,h3,s0,s1,s2,s3,s4,l5,t5⟩:=parsl p;simp +contextual (disch:=first|omega|(simp;done)|(simp[Le];done)|fail) [-au,cu,aw,aD,cp,-getElem?_pos,hc,h3,s0,s1];refine ar (fun hb=>?_) (fun ha=>?_)
 ·rw[Cb (by simp at hb;omega)];simp
 have h0:¬ (2000<p.t.length\/100<p.s.length\/8<fs.length):=by simp at ha;omega
 clear ha;simp +contextual (disch:=first|omega|(simp;done)|(simp[Le];done)|fail) [-au,cu,aw,aD,cp,-getElem?_pos,h3,s2,s3,s4];refine ar (fun hb=>?_) (fun hb=>?_)
 ·rw[xj h0 (.inl (by unfold rM;simp at hb;omega))];simp
 have h6:¬ rM p:=by unfold rM;simp at hb;omega
 clear hb;simp(disch:=omega)[h3,s1];refine ah (fun m fr H=>∃ (i:Nat) (T:Heap),i<=p.s.length/\m=p.s.length-i/\(∀ s∈p.s.take i,¬ pM fs.length s)/\H=some (cY p)::T/\Slots 100 [(1,.lst (fs.map aG)),(2,.ptr 0 0),(54,.lst (p.s.map aR)),(55,.int .i64 p.s.length),(56,.int .i64 i)] fr) (m:=p.s.length) (by omega) ⟨0,[],by omega,by omega,by simp,rfl,by simp⟩ ?_;rintro m fr H ⟨i,T,hi,rfl,hg,rfl,hs⟩;obtain⟨j,rfl⟩:=hs.ex;clear hs;by_cases h4:i<p.s.length
 ·have hI:(i:Int)<p.s.length:=by omega
  obtain⟨s,hx⟩:∃ s,p.s[i]?=some s:=⟨_,K4 h4⟩;obtain⟨q1,q2,q3,q4,q5,u0,u1,u2,u3⟩:=spsl s;simp +contextual (disch:=first|omega|(simp;done)|(simp[Le];done)|fail) [-au,cu,aw,aD,cp,-getElem?_pos,hI,hx,q1,q2,q3,q4,q5,u2,u3];refine ar (fun hb=>?_) (fun hb=>?_)
  ·rw[xj h0 (.inr ⟨s,K6 hx,by unfold pM;simp at hb;omega⟩)];simp
  ·have hd:¬ pM fs.length s:=by unfold pM;simp at hb;omega
   simp(disch:=omega)[wrap64,-getElem?_pos];exact ae (m':=p.s.length-(i+1)) (by omega) ⟨i+1,_,by omega,by omega,pA hg hx hd,rfl,by simp(disch:=omega)⟩
 obtain rfl:i=p.s.length:=by omega
 rw[LF]at hg;have h7:¬ (rM p\/∃ s∈p.s,pM fs.length s):=by
  rintro (h|⟨s,hs,hb⟩)
  ·exact h6 h
  ·exact hg s hs hb
 clear hg hi h4;simp(disch:=omega)[-getElem?_pos];refine ah (fun m fr H=>∃ (i:Nat) (T:Heap),i<=fs.length/\m=fs.length-i/\lB fs=lB (fs.drop i)/\H=some (cY p)::T/\Slots 100 [(2,.ptr 0 0),(81,.lst (fs.map aG)),(82,.int .i64 fs.length),(83,.int .i64 i)] fr) (m:=fs.length) (by omega) ⟨0,_,by omega,by omega,rfl,rfl,by simp⟩ ?_;rintro m fr H ⟨i,T2,hi,rfl,he,rfl,hs⟩;obtain⟨j2,rfl⟩:=hs.ex;clear hs;by_cases h4:i<fs.length
 ·have hI:(i:Int)<fs.length:=by omega
  obtain⟨f,hx⟩:∃ f,fs[i]?=some f:=⟨_,K4 h4⟩;obtain⟨g1,g2,g3⟩:=hF f (K6 hx);obtain⟨h8,h9,l8,t8,w0,w1,w2,w3,w4,w5,w6,w7⟩:=fsl f;have hh:putAt [V.int .i64 0,.int .i64 0,.int .i64 0,.int .i64 0,.int .i64 0,.nils,.nils,.nils] 0 (aG f)=aG f:=rfl;obtain⟨_,rfl,hV⟩:=uC (prim:=prim) (d+0) hp f g1 g2 g3;rw[A7 hx]at he;simp(disch:=omega)[hI,hx,hV,l8,t8,h8,h9,hh,-getElem?_pos];by_cases hz:bQ f=0
  ·rw[if_pos hz]at he;simp(disch:=omega)[hz,wrap64,-getElem?_pos];exact ae (m':=fs.length-(i+1)) (by omega) ⟨i+1,_,by omega,by omega,he,rfl,by simp(disch:=omega)⟩
  ·rw[if_neg hz]at he;rw[EV h0 h7 (by rw[he];exact hz),he];simp[hz]
 obtain rfl:i=fs.length:=by omega
 rw[Mi]at he;replace he:lB fs=0:=he;obtain⟨_,⟨b,rfl,hb⟩,hC⟩:=xN (prim:=prim) (d+4) hp p.s hl p.t.length;cases b with
 | false =>
  rw[EU h0 h7 he (fun g=>by simpa using hb.2 g)];simp(disch:=omega)[h3,s0,s1,hC,-getElem?_pos]
 | true =>
  rw[AG h0 h7 he (hb.1 rfl)];simp(disch:=omega)[h3,s0,s1,hC,-getElem?_pos]
end
end Bi
end Go.Ab
