/- The check of a font, of the program. -/
import Derived.Test.YtldfgkjmficliaaGreatPaVal
set_option linter.all false
set_option maxHeartbeats 8000000
set_option maxRecDepth 100000
namespace Go.Ab
open Go.Proofs
namespace Bi
attribute [local congr] aw
theorem fsl(f:Fnt):(aJ f).all V.leaf=true/\isMap (aJ f)=false/\(aJ f).length=8/\(aJ f).take 8=aJ f/\slot (aJ f) 0=some (.int .i64 f.u)/\slot (aJ f) 1=some (.int .i64 f.a)/\slot (aJ f) 2=some (.int .i64 f.d) /\
  slot (aJ f) 3=some (.int .i64 f.g)/\slot (aJ f) 4=some (.int .i64 f.df)/\slot (aJ f) 5=some (.lst (f.adv.map da))/\slot (aJ f) 6=some (.lst (f.ker.map da))/\slot (aJ f) 7=some (.lst (f.lig.map dL)):=⟨rfl,rfl,rfl,rfl,rfl,rfl,rfl,rfl,rfl,rfl,rfl,rfl⟩
section
variable {prim:FuncId->Option Prim}(d:Nat) (cfg:Cfg) (h:Heap)
theorem Bt(hp:∀ f,Np5 f->prim f=none)(f:Fnt)(h1:f.adv.length<=1000)(h2:f.ker.length<=1000)(h3:f.lig.length<=1000):
  ∃ r,(∃ b:Bool,r=.bool b/\(b=true↔jN f))/\∀ cfg h,af md (K prim (d+2)) cfg 86 [.agg (aJ f)] h=some (r,h):=by
 refine gn rfl (hp 86 (by decide)) Tryz.func86 rfl rfl rfl (by simp[aJ]) ?_;have hM:=fun cfg h x a b=>sV (prim:=prim) d cfg h hp x a b;have hV:=fun cfg h x=>IX (prim:=prim) d cfg h hp x;obtain⟨hd,ha,l8,t8,s0,s1,s2,s3,s4,s5,s6,s7⟩:=fsl f;have hc:∀ Y:Heap,ab (some (aJ f)::Y) 0=some (aJ f):=fun Y=>rfl;simp +contextual (disch:=first|omega|(simp;done)|(simp[Lj];done)|fail) [-ar,cC,ax,aG,cr,hd,ha,hM,s0,s1,s2,s3,s4];refine aq (fun hb=>?_) (fun hb=>?_)
 ·have hn:¬ jN f:=fun g=>by have:=g.1;unfold gA at this;simp at hb;omega
  simp[hn]
 have h6:gA f:=by unfold gA;simp at hb;omega
 clear hb;simp +contextual (disch:=first|omega|(simp;done)|(simp[Lj];done)|fail) [-ar,ha,s5];refine ai (fun m fr H=>∃ (i:Nat) (Y:Heap),i<=f.adv.length/\m=f.adv.length-i/\(∀ x∈f.adv.take i,okA x)/\H=some (aJ f)::Y/\Slots 123 [(1,.ptr 0 0),(46,.lst (f.adv.map da)),(47,.int .i64 f.adv.length),(48,.int .i64 i)] fr) (m:=f.adv.length) (by omega) ⟨0,_,by omega,by omega,by simp,rfl,by simp⟩ ?_;rintro m fr H ⟨i,Y,hi,rfl,hg,rfl,hs⟩;obtain⟨j,rfl⟩:=hs.ex;clear hs;by_cases h0:i<f.adv.length
 ·have hI:(i:Int)<f.adv.length:=by omega
  obtain⟨x,hx⟩:∃ x,f.adv[i]?=some x:=⟨_,Lc h0⟩;simp +contextual (disch:=first|omega|(simp;done)|(simp[Lj];done)|fail) [-ar,cC,ax,aG,cr,-getElem?_pos,da,hI,hx,hV,hM];refine aq (fun hb=>?_) (fun hb=>?_)
  ·have hn:¬ jN f:=fun g=>by have:=g.2.1 x (Le hx);unfold okA at this;simp at hb;omega
   simp[hn]
  ·have h4:okA x:=by unfold okA;simp at hb;omega
   simp(disch:=omega)[wrap64];exact ae (m':=f.adv.length-(i+1)) (by omega) ⟨i+1,_,by omega,by omega,pt hg hx h4,rfl,by simp(disch:=omega)⟩
 obtain rfl:i=f.adv.length:=by omega
 rw[LQ]at hg;have h7:=hg;clear hg hi h0;simp +contextual (disch:=first|omega|(simp;done)|(simp[Lj];done)|fail) [-ar,hc,s6];refine ai (fun m fr H=>∃ (i:Nat) (Y:Heap),i<=f.ker.length/\m=f.ker.length-i/\(∀ x∈f.ker.take i,okK x)/\H=some (aJ f)::Y/\Slots 123 [(1,.ptr 0 0),(70,.lst (f.ker.map da)),(71,.int .i64 f.ker.length),(72,.int .i64 i)] fr) (m:=f.ker.length) (by omega) ⟨0,_,by omega,by omega,by simp,rfl,by simp⟩ ?_;rintro m fr H ⟨i,Y,hi,rfl,hg,rfl,hs⟩;obtain⟨j,rfl⟩:=hs.ex;clear hs;by_cases h0:i<f.ker.length
 ·have hI:(i:Int)<f.ker.length:=by omega
  obtain⟨x,hx⟩:∃ x,f.ker[i]?=some x:=⟨_,Lc h0⟩;simp +contextual (disch:=first|omega|(simp;done)|(simp[Lj];done)|fail) [-ar,cC,ax,aG,cr,-getElem?_pos,da,hI,hx,hV,hM];refine aq (fun hb=>?_) (fun hb=>?_)
  ·have hn:¬ jN f:=fun g=>by have:=g.2.2.1 x (Le hx);unfold okK at this;simp at hb;omega
   simp[hn]
  ·have h4:okK x:=by unfold okK;simp at hb;omega
   simp(disch:=omega)[wrap64];exact ae (m':=f.ker.length-(i+1)) (by omega) ⟨i+1,_,by omega,by omega,pt hg hx h4,rfl,by simp(disch:=omega)⟩
 obtain rfl:i=f.ker.length:=by omega
 rw[LQ]at hg;have h8:=hg;clear hg hi h0;simp +contextual (disch:=first|omega|(simp;done)|(simp[Lj];done)|fail) [-ar,hc,s7];refine ai (fun m fr H=>∃ (i:Nat) (Y:Heap),i<=f.lig.length/\m=f.lig.length-i/\(∀ x∈f.lig.take i,okG x)/\H=some (aJ f)::Y/\Slots 123 [(94,.lst (f.lig.map dL)),(95,.int .i64 f.lig.length),(96,.int .i64 i)] fr) (m:=f.lig.length) (by omega) ⟨0,_,by omega,by omega,by simp,rfl,by simp⟩ ?_;rintro m fr H ⟨i,Y,hi,rfl,hg,rfl,hs⟩;obtain⟨j,rfl⟩:=hs.ex;clear hs;by_cases h0:i<f.lig.length
 ·have hI:(i:Int)<f.lig.length:=by omega
  obtain⟨x,hx⟩:∃ x,f.lig[i]?=some x:=⟨_,Lc h0⟩;simp +contextual (disch:=first|omega|(simp;done)|(simp[Lj];done)|fail) [-ar,cC,ax,aG,cr,-getElem?_pos,dL,hI,hx,hV,hM];refine aq (fun hb=>?_) (fun hb=>?_)
  ·have hn:¬ jN f:=fun g=>by have:=g.2.2.2 x (Le hx);unfold okG at this;simp at hb;omega
   simp[hn]
  ·have h4:okG x:=by unfold okG;simp at hb;omega
   simp(disch:=omega)[wrap64];exact ae (m':=f.lig.length-(i+1)) (by omega) ⟨i+1,_,by omega,by omega,pt hg hx h4,rfl,by simp(disch:=omega)⟩
 obtain rfl:i=f.lig.length:=by omega
 rw[LQ]at hg;have h9:=hg;clear hg hi h0;have hr:jN f:=⟨h6,h7,h8,h9⟩;simp[hr]
theorem F2:md 120=0:=rfl
theorem ye(hp:∀ f,Np5 f->prim f=none)(f:Fnt)(hr:∀ x∈f.adv,0<=x.1)(h1:f.adv.length<=1000)(h2:f.ker.length<=1000)(h3:f.lig.length<=1000):
  ∃ r,(∃ b:Bool,r=.bool b/\(b=true↔mG f))/\∀ cfg h,af md (K prim (d+4)) cfg 87 [.agg (aJ f)] h=some (r,h):=by
 refine gn rfl (hp 87 (by decide)) Tryz.func87 rfl rfl rfl (by simp[aJ]) ?_;have hA:=fun cfg h a b c e=>tP (prim:=prim) d cfg h hp a b c e;obtain⟨hl,h8,l8,t8,s0,s1,s2,s3,s4,s5,s6,s7⟩:=fsl f;have hD:∀ Y:Heap,ab (some (aJ f)::Y) 0=some (aJ f):=fun Y=>rfl;have hm:=F2;simp(disch:=omega)[hl,h8,s5];refine ai (fun m fr H=>∃ (i:Nat) (Y:Heap) (last:Int),i<=f.adv.length/\m=f.adv.length-i/\(∀ (q:Nat) x,q<i->f.adv[q]?=some x->x.1<=x.2.1/\∀ y,0<q->f.adv[q-1]?=some y->y.2.1<x.1)/\(i=0->last=-1)/\(∀ y,0<i->f.adv[i-1]?=some y->last=y.2.1)/\H=some (aJ f)::Y /\
  Slots 99 [(1,.ptr 0 0),(3,.int .i32 last),(9,.lst (f.adv.map da)),(10,.int .i64 f.adv.length),(11,.int .i64 i)] fr) (m:=f.adv.length) (by omega) ⟨0,_,-1,by omega,by omega,fun q x h=>by omega,fun _=>rfl,fun y h=>by omega,rfl,by simp⟩ ?_
 rintro m fr H ⟨i,Y,last,hi,rfl,hg,hj,he,rfl,hs⟩;obtain⟨j,rfl⟩:=hs.ex;clear hs;by_cases h9:i<f.adv.length
 ·have hI:(i:Int)<f.adv.length:=by omega
  obtain⟨x,hx⟩:∃ x,f.adv[i]?=some x:=⟨_,Lc h9⟩;have hE:=hr x (Le hx);simp +contextual (disch:=first|omega|(simp;done)|(simp[Lj];done)|fail) [-ar,cC,ax,aG,cr,-getElem?_pos,da,hI,hx];refine aq (fun hb=>?_) (fun hb=>?_)
  ·have hn:¬ mG f:=fun g=>by
    have h4:=g.1 i x hx;rcases i with _|i
    ·have:=hj rfl;simp at hb;omega
    ·obtain⟨y,hy⟩:∃ y,f.adv[i]?=some y:=⟨_,Lc (by omega)⟩;have h5:=h4.2 y (by omega) hy;have h6:=he y (by omega) hy;simp at hb;omega
   simp[hn]
  ·simp(disch:=omega)[wrap64];refine ae (m':=f.adv.length-(i+1)) (by omega) ⟨i+1,_,x.2.1,by omega,by omega,fun q z hq hz=>?_,fun h=>by omega,fun y _ hy=>by simp[hx]at hy;rw[hy],rfl,by simp(disch:=omega)⟩;by_cases ha:q=i
   ·subst ha;rw[hx]at hz;cases hz;refine⟨by simp at hb;omega,fun y ht hy=>?_⟩;have h6:=he y ht hy;simp at hb;omega
   ·exact hg q z (by omega) hz
 obtain rfl:i=f.adv.length:=by omega
 have hc:ordA f.adv:=fun q x hq=>hg q x (Ld.1 hq).1 hq;clear hg hi hj he h9;simp +contextual (disch:=first|omega|(simp;done)|(simp[Lj];done)|fail) [-ar];refine ai (fun m fr H=>∃ (i:Nat) (Y:Heap),m=f.ker.length-i/\(∀ (q:Nat) x y,q<i->f.ker[q]?=some x->f.ker[q+1]?=some y->x.1<y.1\/x.1=y.1/\x.2.1<y.2.1)/\H=some (aJ f)::Y/\i<=f.ker.length/\Slots 99 [(1,.ptr 0 0),(6,.int .i64 ((i:Int)+1))] fr) (m:=f.ker.length) (by omega) ⟨0,_,by omega,fun q x y h=>by omega,rfl,by omega,by simp⟩ ?_;rintro m fr H ⟨i,Y,rfl,hg,rfl,hi,hs⟩;obtain⟨j,rfl⟩:=hs.ex;clear hs;by_cases h9:i+1<f.ker.length
 ·have hI:(i:Int)+1<f.ker.length:=by omega
  obtain⟨x,hx⟩:∃ x,f.ker[i]?=some x:=⟨_,Lc (by omega)⟩;obtain⟨y,hy⟩:∃ y,f.ker[i+1]?=some y:=⟨_,Lc h9⟩;have hf:((i:Int)+1).toNat=i+1:=by omega
  simp(disch:=omega)[hI,h8,s6];refine ah 26 (by kernel_rfl) ?_;simp(disch:=omega)[da,hA,hx,hy,hf,wrap64,-getElem?_pos,h8,s6];refine aq (fun hw=>?_) (fun hw=>?_)
  ·have hb:¬ (x.1<y.1\/x.1=y.1/\x.2.1<y.2.1):=pairS_neg.1 (by simpa using hw);have hn:¬ mG f:=fun g=>hb (g.2.1 i (x.1,x.2.1) (y.1,y.2.1) (by rw[Ln,hx];rfl) (by rw[Ln,hy];rfl));simp[hn]
  ·have hb:x.1<y.1\/x.1=y.1/\x.2.1<y.2.1:=by
    have h4:¬ 0<=ix x.1 x.2.1 y.1 y.2.1:=by simpa using hw
    rw[pairS_neg]at h4;exact N0.1 h4
   simp(disch:=omega)[wrap64];refine ae (m':=f.ker.length-(i+1)) (by omega) ⟨i+1,_,rfl,fun q u v hq hu hv=>?_,rfl,by omega,by simp(disch:=omega)⟩;by_cases ha:q=i
   ·subst ha;rw[hx]at hu;rw[hy]at hv;cases hu;cases hv;exact hb
   ·exact hg q u v (by omega) hu hv
 have hI:¬ (i:Int)+1<f.ker.length:=by omega
 have h0:vY (f.ker.map fun x=>(x.1,x.2.1)):=fun q u v hu hv=>by
  rw[Ln,LG]at hu hv;obtain⟨u',hh,rfl⟩:=hu;obtain⟨v',hd,rfl⟩:=hv;have:=(Ld.1 hd).1;exact hg q u' v' (by omega) hh hd
 clear hg;simp(disch:=omega)[hI,s6,h8];refine ai (fun m fr H=>∃ (i:Nat) (Y:Heap),m=f.lig.length-i/\(∀ (q:Nat) x y,q<i->f.lig[q]?=some x->f.lig[q+1]?=some y->x.1<y.1\/x.1=y.1/\x.2.1<y.2.1)/\H=some (aJ f)::Y/\i<=f.lig.length/\Slots 99 [(1,.ptr 0 0),(7,.int .i64 ((i:Int)+1))] fr) (m:=f.lig.length) (by omega) ⟨0,_,by omega,fun q x y h=>by omega,rfl,by omega,by simp⟩ ?_;rintro m fr H ⟨i,Y,rfl,hg,rfl,hi,hs⟩;obtain⟨j,rfl⟩:=hs.ex;clear hs;by_cases h9:i+1<f.lig.length
 ·have hI:(i:Int)+1<f.lig.length:=by omega
  obtain⟨x,hx⟩:∃ x,f.lig[i]?=some x:=⟨_,Lc (by omega)⟩;obtain⟨y,hy⟩:∃ y,f.lig[i+1]?=some y:=⟨_,Lc h9⟩;have hf:((i:Int)+1).toNat=i+1:=by omega
  simp(disch:=omega)[hI,h8,s7];refine ah 26 (by kernel_rfl) ?_;simp(disch:=omega)[dL,hA,hx,hy,hf,wrap64,-getElem?_pos,h8,s7];refine aq (fun hw=>?_) (fun hw=>?_)
  ·have hb:¬ (x.1<y.1\/x.1=y.1/\x.2.1<y.2.1):=pairS_neg.1 (by simpa using hw);have hn:¬ mG f:=fun g=>hb (g.2.2 i (x.1,x.2.1) (y.1,y.2.1) (by rw[Ln,hx];rfl) (by rw[Ln,hy];rfl));simp[hn]
  ·have hb:x.1<y.1\/x.1=y.1/\x.2.1<y.2.1:=by
    have h4:¬ 0<=ix x.1 x.2.1 y.1 y.2.1:=by simpa using hw
    rw[pairS_neg]at h4;exact N0.1 h4
   simp(disch:=omega)[wrap64];refine ae (m':=f.lig.length-(i+1)) (by omega) ⟨i+1,_,rfl,fun q u v hq hu hv=>?_,rfl,by omega,by simp(disch:=omega)⟩;by_cases ha:q=i
   ·subst ha;rw[hx]at hu;rw[hy]at hv;cases hu;cases hv;exact hb
   ·exact hg q u v (by omega) hu hv
 have hI:¬ (i:Int)+1<f.lig.length:=by omega
 have h7:vY (f.lig.map fun x=>(x.1,x.2.1)):=fun q u v hu hv=>by
  rw[Ln,LG]at hu hv;obtain⟨u',hh,rfl⟩:=hu;obtain⟨v',hd,rfl⟩:=hv;have:=(Ld.1 hd).1;exact hg q u' v' (by omega) hh hd
 clear hg;have ho:mG f:=⟨hc,h0,h7⟩;simp(disch:=omega)[hI,s7,h8,ho]
theorem uh(hp:∀ f,Np5 f->prim f=none)(f:Fnt)(h1:f.adv.length<=1000)(h2:f.ker.length<=1000)(h3:f.lig.length<=1000):
  ∃ r,r=.int .i64 (ck f)/\∀ cfg h,af md (K prim (d+5)) cfg 48 [.agg (aJ f)] h=some (r,h):=by
 refine gn rfl (hp 48 (by decide)) Tryz.func48 rfl rfl rfl (by simp[aJ]) ?_;obtain⟨_,⟨b,rfl,hb⟩,hR⟩:=Bt (prim:=prim) (d+2) hp f h1 h2 h3;obtain⟨h8,h6,l8,t8,s0,s1,s2,s3,s4,s5,s6,s7⟩:=fsl f;simp +contextual (disch:=first|omega|(simp;done)|(simp[Lj];done)|fail) [-ar,cC,ax,aG,cr,h8,h6,s5,s6,s7];refine aq (fun hc=>?_) (fun hc=>?_)
 ·rw[BH (by simp at hc;omega)];simp
 have h0:¬ (100<f.adv.length\/100<f.ker.length\/100<f.lig.length):=by simp at hc;omega
 cases b with
 | false =>
  rw[Eu h0 (fun g=>by simpa using hb.2 g)];simp[h6,l8,t8,hR]
 | true =>
  have h4:=hb.1 rfl;obtain⟨_,⟨b2,rfl,h7⟩,hO⟩:=ye (prim:=prim) d hp f (fun x hx=>(h4.2.1 x hx).1) h1 h2 h3;cases b2 with
  | false =>
   rw[Et h0 h4 (fun g=>by simpa using h7.2 g)];simp[h6,l8,t8,hR,hO]
  | true =>
   rw[Aj h0 h4 (h7.1 rfl)];simp[h6,l8,t8,hR,hO]
end
end Bi
end Go.Ab
