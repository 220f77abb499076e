/- The law CaretStays: walked. -/
import Derived.Test.YtldfgkjmficliaaGreatPaQm
set_option linter.all false
set_option maxHeartbeats 16000000
set_option maxRecDepth 100000
namespace Go.Ab
open Go.Proofs
namespace Bi
attribute [local congr] aw
theorem stays_ok(d:Nat)(l:List Int)(xx:Int):∃ v h',aN Tryz.prog md pR 10000 (d+8) ⟨0,[],0⟩ 5 [il l,.int .i64 xx] []=some (v,h')/\v=.bool true:=by
 obtain⟨X,C0,ha,hc,hd,he,h4⟩:=Ce l;obtain⟨cs,C⟩:=cc_ex C0 ha hd he;have hf:=fun cfg h=>toR (f:=11) (d+6) (by rfl) rfl (by simp) h4 cfg h;have hA:=fun cfg h=>toR (f:=17) (d+6) (by rfl) rfl rfl (fun cfg h=>HU 39 cfg h) cfg h;have hM:=C.ln;generalize X.linA X.secs 0=Ls at *;refine cw (R:=fun r _=>r=.bool true) rfl Tryz.func5 rfl rfl rfl ?_;obtain⟨hg,h0,s0,s1,s2,s3,s4,l5,t5⟩:=oJ X.p;have h6:=eq_true (Lp.1 hg);have hh:putAt [V.nils,.nils,.int .i64 0,.int .i64 0,.int .i64 0] 0 (aO X.p)=aO X.p:=rfl;have mFq:md 15=0:=rfl;have mH:md 18=0:=rfl;have mE:md 19=0:=rfl;have mL:md 20=0:=rfl;have mR:md 14=0:=rfl;have mU:md 21=0:=rfl;simp(disch:=omega)[hf,h6,l5,hh];refine ai (fun m fr H=>∃ (o:Nat) (Z:Heap),o<=X.p.t.length+1/\m=X.p.t.length+1-o/\H=some (aO X.p)::Z /\
  Slots 143 [(1,.int .i64 xx),(5,.ptr 0 0),(6,.lst (Ls.map az)),(7,.int .i64 o)] fr) (m:=X.p.t.length+1) (by omega) ⟨0,[],by omega,by omega,rfl,by simp⟩ ?_
 rintro m fr H ⟨o,Z,ho,rfl,rfl,hs⟩;obtain⟨j,rfl⟩:=hs.ex;clear hs;by_cases hN:o<=X.p.t.length
 ·have hI:(o:Int)<=X.p.t.length:=by omega
  simp(disch:=omega)[h0,s0,hI];refine ai (fun m fr H=>∃ (k:Nat) (Z:Heap),k<=2/\m=2-k/\H=some (aO X.p)::Z /\
   Slots 143 [(1,.int .i64 xx),(5,.ptr 0 0),(6,.lst (Ls.map az)),(7,.int .i64 o),(8,.int .i64 k)] fr) (m:=2) (by omega) ⟨0,Z,by omega,by omega,rfl,by simp⟩ ?_
  clear Z;rintro m fr H ⟨k,Z,hk,rfl,rfl,hs⟩;obtain⟨j2,rfl⟩:=hs.ex;clear hs;by_cases hO:k<2
  ·have hK:(k:Int)<2:=by omega
   obtain⟨b,hb⟩:∃ b,decide ((k:Int)=1)=b:=⟨_,rfl⟩;obtain⟨r,hr,h3⟩:=PG C o b;rcases hr with rfl|⟨i,g,x',hi,h8,h9,rfl⟩
   ·have hF:=fun cfg h=>OV (d+2) (OQ o b) (fun cfg h=>h3 (d+2) cfg h) cfg h;simp(disch:=omega)[hK,h0,l5,t5,hb,hF,wrap64,-getElem?_pos];exact ae (m':=2-(k+1)) (by omega) ⟨k+1,_,by omega,rfl,rfl,by simp(disch:=omega)⟩
   obtain⟨x,hx⟩:=atG hi;have hF:=fun cfg h=>OV (d+2) (OQ o b) (fun cfg h=>h3 (d+2) cfg h) cfg h;have hj:Fnd X Ls [.int .i64 o,.bool b] i:=⟨_,fun d cfg h=>OV d (OQ o b) (fun cfg h=>h3 d cfg h) cfg h⟩;have hH:=fun cfg h=>homeM C (OQ o b) hx h3 (d+2) cfg h;obtain⟨x1,hl⟩:=O1 C hx;obtain⟨F2q,hm,hn⟩:=endM C (OQ o b) hx h3;obtain⟨x2,hq⟩:Fnd X Ls F2q i:=by
    rcases hm with rfl|⟨z,hz,rfl⟩
    ·exact O1 C hx
    ·exact Py C hx hz
   have h7:∀ F,F=[.int .i64 o,.bool b]\/MvC X Ls F->∃ i,Fnd X Ls F i:=fun F h=>by
    rcases h with rfl|h
    ·exact⟨i,hj⟩
    ·exact h.2
   obtain⟨F3q,ht,hu⟩:=leftM C (OQ o b) hx h3 ⟨h8,h9⟩;obtain⟨i3,x3,hv⟩:=h7 F3q ht;obtain⟨F4q,hw,hy⟩:=PH C (OQ o b) hx h3 ⟨h8,h9⟩;obtain⟨i4,x4,hD⟩:=h7 F4q hw;obtain⟨F5q,hE,hJ⟩:=upM C (OQ o b) hx h3 xx;obtain⟨i5,x5,hL⟩:=h7 F5q hE;simp(disch:=omega)[hK,h0,l5,t5,hb,hF,-getElem?_pos];refine ah 6 (by kernel_rfl) ?_;simp(disch:=omega)[h0,l5,t5,mH,hH,hl,-getElem?_pos];refine ah 6 (by kernel_rfl) ?_;simp(disch:=omega)[h0,l5,t5,mE,hn,hq,-getElem?_pos];refine ah 6 (by kernel_rfl) ?_;simp(disch:=omega)[h0,l5,t5,mL,hu,hv,-getElem?_pos];refine ah 6 (by kernel_rfl) ?_;simp(disch:=omega)[h0,l5,t5,mR,hy,hD,-getElem?_pos];refine ah 7 (by kernel_rfl) ?_;simp(disch:=omega)[h0,l5,t5,mU,hJ,hL,wrap64,-getElem?_pos];exact ae (m':=2-(k+1)) (by omega) ⟨k+1,_,by omega,rfl,rfl,by simp(disch:=omega)⟩
  ·obtain rfl:k=2:=by omega
   simp(disch:=omega);exact ae (m':=X.p.t.length+1-(o+1)) (by omega) ⟨o+1,Z,by omega,rfl,rfl,by simp(disch:=omega)[wrap64]⟩
 ·obtain rfl:o=X.p.t.length+1:=by omega
  have hI:¬ ((X.p.t.length:Int)+1<=X.p.t.length):=by omega
  simp(disch:=omega)[h0,s0,hI,hA]
end Bi
end Go.Ab
