/- The check of a paragraph: the program and the reference compute one plain function (Validate). -/
import Derived.Test.YtldfgkjmficliaaGreatPaVa3
set_option linter.unusedSimpArgs false
set_option linter.unusedVariables false
namespace Go.Ab
open Go.Proofs
namespace Bi
attribute [local congr] az
section
variable {prim:FuncId→Option Prim}(d:Nat) (cfg:Cfg) (h:Heap)
set_option maxHeartbeats 8000000 in
theorem AY(hp:∀ f,Np5 f→prim f=none)(p:Par)(hl:p.s.length≤2000)(ht:p.t.length≤4000)(fs:List Fnt)(hf:fs.length≤100)(hF:∀ f∈fs,f.adv.length≤1000∧f.ker.length≤1000∧f.lig.length≤1000):
  ∃ r,r=.int .i64 (nH p fs)∧(md 24=0→∀ cfg h,af md (K prim (d+6)) cfg 24 [.agg (cF p),.lst (fs.map aH)] h=some (r,h)) ∧
   (md 24=3→∀ cfg h args,args.mapM (frzA h)=some [.agg (cF p),.lst (fs.map aH)]→af md (K prim (d+6)) cfg 24 args h=some (r,h)):=by
 refine callE (hp 24 (by decide)) Tryz.func24 rfl rfl rfl (by simp[cF]) ?_
 obtain⟨hlf,hmp,s0,s1,s2,s3,s4,l5,t5⟩:=parsl p
 simp +contextual (disch:=first|omega|(simp;done)|(simp[Decidable.imp_iff_not_or];done)|fail) [-ao,bM,aq,ax,bC,-getElem?_pos,hlf,hmp,s0,s1]
 refine ak (fun hb=>?_) (fun hb1=>?_)
 ·rw[AX (by simp at hb;omega)]
  simp
 have hlong:¬ (2000<p.t.length∨100<p.s.length∨8<fs.length):=by simp at hb1;omega
 clear hb1
 simp +contextual (disch:=first|omega|(simp;done)|(simp[Decidable.imp_iff_not_or];done)|fail) [-ao,bM,aq,ax,bC,-getElem?_pos,hmp,s2,s3,s4]
 refine ak (fun hb=>?_) (fun hb=>?_)
 ·rw[vR hlong (.inl (by unfold qA;simp at hb;omega))]
  simp
 have hnum:¬ qA p:=by unfold qA;simp at hb;omega
 clear hb
 simp(disch:=omega)[hmp,s1]
 refine aj (fun m fr H=>∃ (i:Nat) (T:Heap),i≤p.s.length∧m=p.s.length-i∧(∀ s∈p.s.take i,¬ oG fs.length s)∧H=some (cF p)::T∧Slots 100 [(1,.lst (fs.map aH)),(2,.ptr 0 0),(54,.lst (p.s.map cb)),(55,.int .i64 p.s.length),(56,.int .i64 i)] fr) (m:=p.s.length) (by omega) ⟨0,[],by omega,by omega,by simp,rfl,by simp⟩ ?_
 rintro m fr H ⟨i,T,hi,rfl,hg,rfl,hs⟩
 obtain⟨j,rfl⟩:=hs.ex
 clear hs
 by_cases hlt:i<p.s.length
 ·have hI:(i:Int)<p.s.length:=by omega
  obtain⟨s,hx⟩:∃ s,p.s[i]?=some s:=⟨_,List.getElem?_eq_getElem hlt⟩
  obtain⟨q1,q2,q3,q4,q5,u0,u1,u2,u3⟩:=spsl s
  simp +contextual (disch:=first|omega|(simp;done)|(simp[Decidable.imp_iff_not_or];done)|fail) [-ao,bM,aq,ax,bC,-getElem?_pos,hI,hx,q1,q2,q3,q4,q5,u2,u3]
  refine ak (fun hb=>?_) (fun hb=>?_)
  ·rw[vR hlong (.inr ⟨s,List.mem_of_getElem? hx,by unfold oG;simp at hb;omega⟩)]
   simp
  ·have hok:¬ oG fs.length s:=by unfold oG;simp at hb;omega
   simp(disch:=omega)[wrap64,-getElem?_pos]
   exact ae (m':=p.s.length-(i+1)) (by omega) ⟨i+1,_,by omega,by omega,oo hg hx hok,rfl,by simp(disch:=omega)⟩
 obtain rfl:i=p.s.length:=by omega
 rw[List.take_length]at hg
 have hsp:¬ (qA p∨∃ s∈p.s,oG fs.length s):=by
  rintro (h|⟨s,hs,hb⟩)
  ·exact hnum h
  ·exact hg s hs hb
 clear hg hi hlt
 simp(disch:=omega)[-getElem?_pos]
 refine aj (fun m fr H=>∃ (i:Nat) (T:Heap),i≤fs.length∧m=fs.length-i∧kz fs=kz (fs.drop i)∧H=some (cF p)::T∧Slots 100 [(2,.ptr 0 0),(81,.lst (fs.map aH)),(82,.int .i64 fs.length),(83,.int .i64 i)] fr) (m:=fs.length) (by omega) ⟨0,_,by omega,by omega,rfl,rfl,by simp⟩ ?_
 rintro m fr H ⟨i,T2,hi,rfl,he,rfl,hs⟩
 obtain⟨j2,rfl⟩:=hs.ex
 clear hs
 by_cases hlt:i<fs.length
 ·have hI:(i:Int)<fs.length:=by omega
  obtain⟨f,hx⟩:∃ f,fs[i]?=some f:=⟨_,List.getElem?_eq_getElem hlt⟩
  obtain⟨g1,g2,g3⟩:=hF f (List.mem_of_getElem? hx)
  obtain⟨hlf8,hmp8,l8,t8,w0,w1,w2,w3,w4,w5,w6,w7⟩:=fsl f
  have hp8:putAt [V.int .i64 0,.int .i64 0,.int .i64 0,.int .i64 0,.int .i64 0,.nils,.nils,.nils] 0 (aH f)=aH f:=rfl
  obtain⟨_,rfl,hV⟩:=tt (prim:=prim) (d+0) hp f g1 g2 g3
  rw[zN hx]at he
  simp(disch:=omega)[hI,hx,hV,l8,t8,hlf8,hmp8,hp8,-getElem?_pos]
  by_cases hz:bJ f=0
  ·rw[if_pos hz]at he
   simp(disch:=omega)[hz,wrap64,-getElem?_pos]
   exact ae (m':=fs.length-(i+1)) (by omega) ⟨i+1,_,by omega,by omega,he,rfl,by simp(disch:=omega)⟩
  ·rw[if_neg hz]at he
   rw[DP hlong hsp (by rw[he];exact hz),he]
   simp[hz]
 obtain rfl:i=fs.length:=by omega
 rw[List.drop_length]at he
 replace he:kz fs=0:=he
 obtain⟨_,⟨b,rfl,hb⟩,hC⟩:=wA (prim:=prim) (d+4) hp p.s hl p.t.length
 cases b with
 | false =>
  rw[DN hlong hsp he (fun g=>by simpa using hb.2 g)]
  simp(disch:=omega)[hmp,s0,s1,hC,-getElem?_pos]
 | true =>
  rw[zn hlong hsp he (hb.1 rfl)]
  simp(disch:=omega)[hmp,s0,s1,hC,-getElem?_pos]
end
end Bi
end Go.Ab
