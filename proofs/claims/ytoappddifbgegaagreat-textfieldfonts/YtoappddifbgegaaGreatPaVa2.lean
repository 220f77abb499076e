/- The check of a font, of the program. -/
import Derived.Test.YtoappddifbgegaaGreatPaVal
set_option linter.all false
set_option maxHeartbeats 8000000
set_option maxRecDepth 100000
namespace Go.Ab
open Go.Proofs
namespace Bi
attribute [local congr] az
theorem fsl(f:Fnt):(aG f).all V.leaf=true/\isMap (aG f)=false/\(aG f).length=8/\(aG f).take 8=aG f/\slot (aG f) 0=some (.int .i64 f.u)/\slot (aG f) 1=some (.int .i64 f.a)/\slot (aG f) 2=some (.int .i64 f.d) /\
  slot (aG f) 3=some (.int .i64 f.g)/\slot (aG f) 4=some (.int .i64 f.df)/\slot (aG f) 5=some (.lst (f.adv.map dV))/\slot (aG f) 6=some (.lst (f.ker.map dV))/\slot (aG f) 7=some (.lst (f.lig.map ee)):=⟨rfl,rfl,rfl,rfl,rfl,rfl,rfl,rfl,rfl,rfl,rfl,rfl⟩
section
variable {prim:FuncId->Option Prim}(d:Nat) (cfg:Cfg) (h:Heap)
theorem BM(hp:∀ f,Np5 f->prim f=none)(f:Fnt)(h1:f.adv.length<=1000)(h2:f.ker.length<=1000)(h3:f.lig.length<=1000):
  ∃ r,(∃ b:Bool,r=.bool b/\(b=true↔jM f))/\∀ cfg h,af md (K prim (d+2)) cfg 65 [.agg (aG f)] h=some (r,h):=by
 refine iB rfl (hp 65 (by decide)) Tryz.func65 rfl rfl rfl (by simp[aG]) ?_;have hM:=fun cfg h x a b=>tu (prim:=prim) d cfg h hp x a b;have hV:=fun cfg h x=>I9 (prim:=prim) d cfg h hp x;obtain⟨hd,ha,l8,t8,s0,s1,s2,s3,s4,s5,s6,s7⟩:=fsl f;have hc:∀ Y:Heap,ab (some (aG f)::Y) 0=some (aG f):=fun Y=>rfl;simp +contextual (disch:=first|omega|(simp;done)|(simp[Le];done)|fail) [-au,cu,aw,aD,cp,hd,ha,hM,s0,s1,s2,s3,s4];refine ar (fun hb=>?_) (fun hb=>?_)
 ·have hn:¬ jM f:=fun g=>by have:=g.1;unfold gp at this;simp at hb;omega
  simp[hn]
 have h6:gp f:=by unfold gp;simp at hb;omega
 clear hb;simp +contextual (disch:=first|omega|(simp;done)|(simp[Le];done)|fail) [-au,ha,s5];refine ah (fun m fr H=>∃ (i:Nat) (Y:Heap),i<=f.adv.length/\m=f.adv.length-i/\(∀ x∈f.adv.take i,okA x)/\H=some (aG f)::Y/\Slots 123 [(1,.ptr 0 0),(46,.lst (f.adv.map dV)),(47,.int .i64 f.adv.length),(48,.int .i64 i)] fr) (m:=f.adv.length) (by omega) ⟨0,_,by omega,by omega,by simp,rfl,by simp⟩ ?_;rintro m fr H ⟨i,Y,hi,rfl,hg,rfl,hs⟩;obtain⟨j,rfl⟩:=hs.ex;clear hs;by_cases h0:i<f.adv.length
 ·have hI:(i:Int)<f.adv.length:=by omega
  obtain⟨x,hx⟩:∃ x,f.adv[i]?=some x:=⟨_,K4 h0⟩;simp +contextual (disch:=first|omega|(simp;done)|(simp[Le];done)|fail) [-au,cu,aw,aD,cp,-getElem?_pos,dV,hI,hx,hV,hM];refine ar (fun hb=>?_) (fun hb=>?_)
  ·have hn:¬ jM f:=fun g=>by have:=g.2.1 x (K6 hx);unfold okA at this;simp at hb;omega
   simp[hn]
  ·have h4:okA x:=by unfold okA;simp at hb;omega
   simp(disch:=omega)[wrap64];exact ae (m':=f.adv.length-(i+1)) (by omega) ⟨i+1,_,by omega,by omega,pA hg hx h4,rfl,by simp(disch:=omega)⟩
 obtain rfl:i=f.adv.length:=by omega
 rw[LF]at hg;have h7:=hg;clear hg hi h0;simp +contextual (disch:=first|omega|(simp;done)|(simp[Le];done)|fail) [-au,hc,s6];refine ah (fun m fr H=>∃ (i:Nat) (Y:Heap),i<=f.ker.length/\m=f.ker.length-i/\(∀ x∈f.ker.take i,okK x)/\H=some (aG f)::Y/\Slots 123 [(1,.ptr 0 0),(70,.lst (f.ker.map dV)),(71,.int .i64 f.ker.length),(72,.int .i64 i)] fr) (m:=f.ker.length) (by omega) ⟨0,_,by omega,by omega,by simp,rfl,by simp⟩ ?_;rintro m fr H ⟨i,Y,hi,rfl,hg,rfl,hs⟩;obtain⟨j,rfl⟩:=hs.ex;clear hs;by_cases h0:i<f.ker.length
 ·have hI:(i:Int)<f.ker.length:=by omega
  obtain⟨x,hx⟩:∃ x,f.ker[i]?=some x:=⟨_,K4 h0⟩;simp +contextual (disch:=first|omega|(simp;done)|(simp[Le];done)|fail) [-au,cu,aw,aD,cp,-getElem?_pos,dV,hI,hx,hV,hM];refine ar (fun hb=>?_) (fun hb=>?_)
  ·have hn:¬ jM f:=fun g=>by have:=g.2.2.1 x (K6 hx);unfold okK at this;simp at hb;omega
   simp[hn]
  ·have h4:okK x:=by unfold okK;simp at hb;omega
   simp(disch:=omega)[wrap64];exact ae (m':=f.ker.length-(i+1)) (by omega) ⟨i+1,_,by omega,by omega,pA hg hx h4,rfl,by simp(disch:=omega)⟩
 obtain rfl:i=f.ker.length:=by omega
 rw[LF]at hg;have h8:=hg;clear hg hi h0;simp +contextual (disch:=first|omega|(simp;done)|(simp[Le];done)|fail) [-au,hc,s7];refine ah (fun m fr H=>∃ (i:Nat) (Y:Heap),i<=f.lig.length/\m=f.lig.length-i/\(∀ x∈f.lig.take i,okG x)/\H=some (aG f)::Y/\Slots 123 [(94,.lst (f.lig.map ee)),(95,.int .i64 f.lig.length),(96,.int .i64 i)] fr) (m:=f.lig.length) (by omega) ⟨0,_,by omega,by omega,by simp,rfl,by simp⟩ ?_;rintro m fr H ⟨i,Y,hi,rfl,hg,rfl,hs⟩;obtain⟨j,rfl⟩:=hs.ex;clear hs;by_cases h0:i<f.lig.length
 ·have hI:(i:Int)<f.lig.length:=by omega
  obtain⟨x,hx⟩:∃ x,f.lig[i]?=some x:=⟨_,K4 h0⟩;simp +contextual (disch:=first|omega|(simp;done)|(simp[Le];done)|fail) [-au,cu,aw,aD,cp,-getElem?_pos,ee,hI,hx,hV,hM];refine ar (fun hb=>?_) (fun hb=>?_)
  ·have hn:¬ jM f:=fun g=>by have:=g.2.2.2 x (K6 hx);unfold okG at this;simp at hb;omega
   simp[hn]
  ·have h4:okG x:=by unfold okG;simp at hb;omega
   simp(disch:=omega)[wrap64];exact ae (m':=f.lig.length-(i+1)) (by omega) ⟨i+1,_,by omega,by omega,pA hg hx h4,rfl,by simp(disch:=omega)⟩
 obtain rfl:i=f.lig.length:=by omega
 rw[LF]at hg;have h9:=hg;clear hg hi h0;have hr:jM f:=⟨h6,h7,h8,h9⟩;simp[hr]
theorem Gi:md 111=0:=rfl
theorem yu(hp:∀ f,Np5 f->prim f=none)(f:Fnt)(hr:∀ x∈f.adv,0<=x.1)(h1:f.adv.length<=1000)(h2:f.ker.length<=1000)(h3:f.lig.length<=1000):
  ∃ r,(∃ b:Bool,r=.bool b/\(b=true↔ordOK f))/\∀ cfg h,af md (K prim (d+4)) cfg 66 [.agg (aG f)] h=some (r,h):=by
 refine iB rfl (hp 66 (by decide)) Tryz.func66 rfl rfl rfl (by simp[aG]) ?_;have hA:=fun cfg h a b c e=>ue (prim:=prim) d cfg h hp a b c e;obtain⟨hl,h8,l8,t8,s0,s1,s2,s3,s4,s5,s6,s7⟩:=fsl f;have hD:∀ Y:Heap,ab (some (aG f)::Y) 0=some (aG f):=fun Y=>rfl;have hm:=Gi;simp(disch:=omega)[hl,h8,s5];refine ah (fun m fr H=>∃ (i:Nat) (Y:Heap) (last:Int),i<=f.adv.length/\m=f.adv.length-i/\(∀ (q:Nat) x,q<i->f.adv[q]?=some x->x.1<=x.2.1/\∀ y,0<q->f.adv[q-1]?=some y->y.2.1<x.1)/\(i=0->last=-1)/\(∀ y,0<i->f.adv[i-1]?=some y->last=y.2.1)/\H=some (aG f)::Y /\
  Slots 99 [(1,.ptr 0 0),(3,.int .i32 last),(9,.lst (f.adv.map dV)),(10,.int .i64 f.adv.length),(11,.int .i64 i)] fr) (m:=f.adv.length) (by omega) ⟨0,_,-1,by omega,by omega,fun q x h=>by omega,fun _=>rfl,fun y h=>by omega,rfl,by simp⟩ ?_
 rintro m fr H ⟨i,Y,last,hi,rfl,hg,hj,he,rfl,hs⟩;obtain⟨j,rfl⟩:=hs.ex;clear hs;by_cases h9:i<f.adv.length
 ·have hI:(i:Int)<f.adv.length:=by omega
  obtain⟨x,hx⟩:∃ x,f.adv[i]?=some x:=⟨_,K4 h9⟩;have hE:=hr x (K6 hx);simp +contextual (disch:=first|omega|(simp;done)|(simp[Le];done)|fail) [-au,cu,aw,aD,cp,-getElem?_pos,dV,hI,hx];refine ar (fun hb=>?_) (fun hb=>?_)
  ·have hn:¬ ordOK f:=fun g=>by
    have h4:=g.1 i x hx;rcases i with _|i
    ·have:=hj rfl;simp at hb;omega
    ·obtain⟨y,hy⟩:∃ y,f.adv[i]?=some y:=⟨_,K4 (by omega)⟩;have h5:=h4.2 y (by omega) hy;have h6:=he y (by omega) hy;simp at hb;omega
   simp[hn]
  ·simp(disch:=omega)[wrap64];refine ae (m':=f.adv.length-(i+1)) (by omega) ⟨i+1,_,x.2.1,by omega,by omega,fun q z hq hz=>?_,fun h=>by omega,fun y _ hy=>by simp[hx]at hy;rw[hy],rfl,by simp(disch:=omega)⟩;by_cases ha:q=i
   ·subst ha;rw[hx]at hz;cases hz;refine⟨by simp at hb;omega,fun y ht hy=>?_⟩;have h6:=he y ht hy;simp at hb;omega
   ·exact hg q z (by omega) hz
 obtain rfl:i=f.adv.length:=by omega
 have hc:ordA f.adv:=fun q x hq=>hg q x (K5.1 hq).1 hq;clear hg hi hj he h9;simp +contextual (disch:=first|omega|(simp;done)|(simp[Le];done)|fail) [-au];refine ah (fun m fr H=>∃ (i:Nat) (Y:Heap),m=f.ker.length-i/\(∀ (q:Nat) x y,q<i->f.ker[q]?=some x->f.ker[q+1]?=some y->x.1<y.1\/x.1=y.1/\x.2.1<y.2.1)/\H=some (aG f)::Y/\i<=f.ker.length/\Slots 99 [(1,.ptr 0 0),(6,.int .i64 ((i:Int)+1))] fr) (m:=f.ker.length) (by omega) ⟨0,_,by omega,fun q x y h=>by omega,rfl,by omega,by simp⟩ ?_;rintro m fr H ⟨i,Y,rfl,hg,rfl,hi,hs⟩;obtain⟨j,rfl⟩:=hs.ex;clear hs;by_cases h9:i+1<f.ker.length
 ·have hI:(i:Int)+1<f.ker.length:=by omega
  obtain⟨x,hx⟩:∃ x,f.ker[i]?=some x:=⟨_,K4 (by omega)⟩;obtain⟨y,hy⟩:∃ y,f.ker[i+1]?=some y:=⟨_,K4 h9⟩;have hf:((i:Int)+1).toNat=i+1:=by omega
  simp(disch:=omega)[hI,h8,s6];refine ai 26 (by kernel_rfl) ?_;simp(disch:=omega)[dV,hA,hx,hy,hf,wrap64,-getElem?_pos,h8,s6];refine ar (fun hw=>?_) (fun hw=>?_)
  ·have hb:¬ (x.1<y.1\/x.1=y.1/\x.2.1<y.2.1):=pairS_neg.1 (by simpa using hw);have hn:¬ ordOK f:=fun g=>hb (g.2.1 i (x.1,x.2.1) (y.1,y.2.1) (by rw[Lh,hx];rfl) (by rw[Lh,hy];rfl));simp[hn]
  ·have hb:x.1<y.1\/x.1=y.1/\x.2.1<y.2.1:=by
    have h4:¬ 0<=ib x.1 x.2.1 y.1 y.2.1:=by simpa using hw
    rw[pairS_neg]at h4;exact NL.1 h4
   simp(disch:=omega)[wrap64];refine ae (m':=f.ker.length-(i+1)) (by omega) ⟨i+1,_,rfl,fun q u v hq hu hv=>?_,rfl,by omega,by simp(disch:=omega)⟩;by_cases ha:q=i
   ·subst ha;rw[hx]at hu;rw[hy]at hv;cases hu;cases hv;exact hb
   ·exact hg q u v (by omega) hu hv
 have hI:¬ (i:Int)+1<f.ker.length:=by omega
 have h0:wi (f.ker.map fun x=>(x.1,x.2.1)):=fun q u v hu hv=>by
  rw[Lh,Lx]at hu hv;obtain⟨u',hh,rfl⟩:=hu;obtain⟨v',hd,rfl⟩:=hv;have:=(K5.1 hd).1;exact hg q u' v' (by omega) hh hd
 clear hg;simp(disch:=omega)[hI,s6,h8];refine ah (fun m fr H=>∃ (i:Nat) (Y:Heap),m=f.lig.length-i/\(∀ (q:Nat) x y,q<i->f.lig[q]?=some x->f.lig[q+1]?=some y->x.1<y.1\/x.1=y.1/\x.2.1<y.2.1)/\H=some (aG f)::Y/\i<=f.lig.length/\Slots 99 [(1,.ptr 0 0),(7,.int .i64 ((i:Int)+1))] fr) (m:=f.lig.length) (by omega) ⟨0,_,by omega,fun q x y h=>by omega,rfl,by omega,by simp⟩ ?_;rintro m fr H ⟨i,Y,rfl,hg,rfl,hi,hs⟩;obtain⟨j,rfl⟩:=hs.ex;clear hs;by_cases h9:i+1<f.lig.length
 ·have hI:(i:Int)+1<f.lig.length:=by omega
  obtain⟨x,hx⟩:∃ x,f.lig[i]?=some x:=⟨_,K4 (by omega)⟩;obtain⟨y,hy⟩:∃ y,f.lig[i+1]?=some y:=⟨_,K4 h9⟩;have hf:((i:Int)+1).toNat=i+1:=by omega
  simp(disch:=omega)[hI,h8,s7];refine ai 26 (by kernel_rfl) ?_;simp(disch:=omega)[ee,hA,hx,hy,hf,wrap64,-getElem?_pos,h8,s7];refine ar (fun hw=>?_) (fun hw=>?_)
  ·have hb:¬ (x.1<y.1\/x.1=y.1/\x.2.1<y.2.1):=pairS_neg.1 (by simpa using hw);have hn:¬ ordOK f:=fun g=>hb (g.2.2 i (x.1,x.2.1) (y.1,y.2.1) (by rw[Lh,hx];rfl) (by rw[Lh,hy];rfl));simp[hn]
  ·have hb:x.1<y.1\/x.1=y.1/\x.2.1<y.2.1:=by
    have h4:¬ 0<=ib x.1 x.2.1 y.1 y.2.1:=by simpa using hw
    rw[pairS_neg]at h4;exact NL.1 h4
   simp(disch:=omega)[wrap64];refine ae (m':=f.lig.length-(i+1)) (by omega) ⟨i+1,_,rfl,fun q u v hq hu hv=>?_,rfl,by omega,by simp(disch:=omega)⟩;by_cases ha:q=i
   ·subst ha;rw[hx]at hu;rw[hy]at hv;cases hu;cases hv;exact hb
   ·exact hg q u v (by omega) hu hv
 have hI:¬ (i:Int)+1<f.lig.length:=by omega
 have h7:wi (f.lig.map fun x=>(x.1,x.2.1)):=fun q u v hu hv=>by
  rw[Lh,Lx]at hu hv;obtain⟨u',hh,rfl⟩:=hu;obtain⟨v',hd,rfl⟩:=hv;have:=(K5.1 hd).1;exact hg q u' v' (by omega) hh hd
 clear hg;have ho:ordOK f:=⟨hc,h0,h7⟩;simp(disch:=omega)[hI,s7,h8,ho]
theorem uC(hp:∀ f,Np5 f->prim f=none)(f:Fnt)(h1:f.adv.length<=1000)(h2:f.ker.length<=1000)(h3:f.lig.length<=1000):
  ∃ r,r=.int .i64 (bQ f)/\∀ cfg h,af md (K prim (d+5)) cfg 28 [.agg (aG f)] h=some (r,h):=by
 refine iB rfl (hp 28 (by decide)) Tryz.func28 rfl rfl rfl (by simp[aG]) ?_;obtain⟨_,⟨b,rfl,hb⟩,hR⟩:=BM (prim:=prim) (d+2) hp f h1 h2 h3;obtain⟨h8,h6,l8,t8,s0,s1,s2,s3,s4,s5,s6,s7⟩:=fsl f;simp +contextual (disch:=first|omega|(simp;done)|(simp[Le];done)|fail) [-au,cu,aw,aD,cp,h8,h6,s5,s6,s7];refine ar (fun hc=>?_) (fun hc=>?_)
 ·rw[Ca (by simp at hc;omega)];simp
 have h0:¬ (100<f.adv.length\/100<f.ker.length\/100<f.lig.length):=by simp at hc;omega
 cases b with
 | false =>
  rw[ET h0 (fun g=>by simpa using hb.2 g)];simp[h6,l8,t8,hR]
 | true =>
  have h4:=hb.1 rfl;obtain⟨_,⟨b2,rfl,h7⟩,hO⟩:=yu (prim:=prim) d hp f (fun x hx=>(h4.2.1 x hx).1) h1 h2 h3;cases b2 with
  | false =>
   rw[ER h0 h4 (fun g=>by simpa using h7.2 g)];simp[h6,l8,t8,hR,hO]
  | true =>
   rw[AE h0 h4 (h7.1 rfl)];simp[h6,l8,t8,hR,hO]
end
end Bi
end Go.Ab
