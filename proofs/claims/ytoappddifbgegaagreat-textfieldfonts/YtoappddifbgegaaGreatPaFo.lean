/- The program: where a line ends. -/
import Derived.Test.YtoappddifbgegaaGreatPaGf
set_option linter.all false
set_option maxHeartbeats 16000000
set_option maxRecDepth 100000
namespace Go.Ab
open Go.Proofs
namespace Bi
attribute [local congr] az
structure CtxP(prim:FuncId->Option Prim)(X:Txt):Prop where
 hp:∀ f,Np5 f->prim f=none
 hG:prim 329=some (gj 8 64)
 hV:TxV X
 hXr:X.rs=mN
 hpR:prim 237=none
 hCl:∀ (d:Nat) (cfg:Cfg) (H:Heap) (l:List Int),cfg.lo<=H.length->l≠[]->l.length<=2000->af md (K prim (d+1)) cfg 279 [il l] H=some (.sl (H.length+1) 0 l.length l.length 1,H++[none,some (l.map (V.int .i64))])
 hCn:∀ (d:Nat) (cfg:Cfg) (H:Heap),af md (K prim (d+1)) cfg 279 [.lst []] H=some (.lst [],H)
 h5:X.p.t.length<=90
section
variable {prim:FuncId->Option Prim}
theorem CtxP.fit{X:Txt}(C:CtxP prim X)(d:Nat){H:Heap}{xb bb pb mw mu:Nat}{sv kv:V}{es:fG}{eu:fV}(hT:TxH X H xb bb pb mw mu sv kv es eu){k:Nat×Nat}{a b:Nat}(h1:k.1<=a)(h2:a<=b)(h3:b<=k.2)(h4:k.2<=X.p.t.length)(cfg:Cfg)(hM:MW cfg H)(h0:cfg.lo<=H.length):
  ∃ es' eu',WOK X.fs es'/\UOK X.fs eu'/\af md (K prim (d+13)) cfg 171 [.ptr xb 0,.agg (X.sec k),.int .i64 a,.int .i64 b] H=some (.int .i64 (X.fit k a b),(H.set mw (wB es')).set mu (uB eu')):=by
 obtain⟨r,h2,h3,rfl,es',eu',h4,h5,rfl⟩:=II d C.hp C.hG X C.hV C.hXr C.hpR (C.hCl (d+9)) (C.hCn (d+9)) H xb bb pb mw mu sv kv es eu hT k a b h1 h2 h3 h4 C.h5 cfg hM h0;exact⟨es',eu',h4,h5,h3⟩
theorem TxV.fit{X:Txt}(hV:TxV X){k:Nat×Nat}{a b:Nat}(h1:k.1<=a)(h2:a<=b)(h3:b<=k.2)(h4:k.2<=X.p.t.length)(h5:X.p.t.length<=90):0<=X.fit k a b/\X.fit k a b<=81000000000:=by
 obtain⟨h6,h0⟩:=hV.gls h1 h2 h3 h4 h5;have h:=qp (w:=(X.wht a b:Int)) h0;have e:X.fit k a b=qo (X.wht a b) (X.gls k a b):=rfl;rw[e];omega
theorem CtxP.frc{X:Txt}(C:CtxP prim X)(d:Nat){H:Heap}{xb bb pb mw mu:Nat}{sv kv:V}{es:fG}{eu:fV}(hT:TxH X H xb bb pb mw mu sv kv es eu){k:Nat×Nat}{s t:Nat}(h1:k.1<=s)(h2:s<t)(h3:t<=k.2)(h4:k.2<=X.p.t.length)(cfg:Cfg)(hM:MW cfg H)(hz:cfg.lo<=H.length):
  ∃ r h2,af md (K prim (d+14)) cfg 172 [.ptr xb 0,.agg (X.sec k),.int .i64 s,.int .i64 t] H=some (r,h2) /\
   (r=.int .i64 (X.frc k s t t X.C)/\∃ es' eu',WOK X.fs es'/\UOK X.fs eu'/\h2=(H.set mw (wB es')).set mu (uB eu')):=by
 have hV:=C.hV;have h5:=C.h5;refine lp (Post:=fun r h2=>r=.int .i64 (X.frc k s t t X.C)/\∃ es' eu',WOK X.fs es'/\UOK X.fs eu'/\h2=(H.set mw (wB es')).set mu (uB eu')) rfl (C.hp 172 (by decide)) Tryz.func172 rfl rfl rfl ?_;have hA:MW ⟨cfg.lo,cfg.ex,H.length⟩ H:=fun b cs h1 h2=>hM b cs h1 h2;generalize hD:(⟨cfg.lo,cfg.ex,H.length⟩:Cfg)=cf at *;have hd:cf.lo<=H.length:=by rw[<- hD];exact hz
 have kl:(X.sec k).length=4:=rfl;have km:isMap (X.sec k)=false:=rfl;have kt:(X.sec k).take 4=X.sec k:=rfl;have kf:(∀ x∈X.sec k,x.leaf=true)=True:=eq_true (by simp[Txt.sec]);have hL:=hV.cl.1;have he:mw<H.length:=(K5.1 hT.hmw).1;have hmul:mu<H.length:=(K5.1 hT.hmu).1;obtain⟨x0,x1,x2,x3,x4,x5,x6,x7,x8,x9,x15,xl,xm⟩:=da X (.sl bb 0 (X.p.t.length+1) (X.p.t.length+1) 1) sv kv pb mw mu;have hr:=hT.hx;have hN:=ao hr;simp(disch:=omega)[kf,hr,x7];refine ah (fun m fr Hc=>∃ (i:Nat) (best:Nat) (es':fG) (eu':fV),i<=X.C.length/\m=X.C.length-i/\s<best/\best<=t/\WOK X.fs es'/\UOK X.fs eu'/\X.frc k s t t X.C=X.frc k s t best (X.C.drop i)/\Hc=(H.set mw (wB es')).set mu (uB eu')++[some (X.sec k)] /\
  Slots 47 [(0,.ptr xb 0),(2,.int .i64 s),(3,.int .i64 t),(5,.ptr H.length 0),(9,.int .i64 best),(16,il X.C),(17,.int .i64 X.C.length),(18,.int .i64 i)] fr) (m:=X.C.length) (by have:=hV.cl;omega)
  ⟨0,t,es,eu,by omega,by omega,h2,La _,hT.hW,hT.hU,by simp,by rw[bE hT.hmw,bE hT.hmu],by simp⟩ ?_
 rintro m fr Hc ⟨i,best,es',eu',hi,rfl,hE,hH,hf,hg,h0,h7,hs⟩;obtain⟨j,rfl⟩:=hs.ex;clear hs;have hh:Hp Hc ((H.set mw (wB es')).set mu (uB eu')++[some (X.sec k)]) []:=by rw[h7];exact Hp.start
 have ha:=hT.ext hh hf hg;have hJ:=hT.mw hA hd hh;have h6:=ha.hx;have ht:ab Hc H.length=some (X.sec k):=by rw[h7];simp[ab,km]
 have hO:Hc.length=H.length+1:=by rw[h7];simp
 by_cases hj:i<X.C.length
 ·have hI:(i:Int)<X.C.length:=by omega
  obtain⟨c0,hc⟩:=atG hj;have hP:=hV.cl.2 c0 (K6 hc);have h8:X.C.drop i=c0::X.C.drop (i+1):=by
   rw[Lq hj];rw[K4 hj]at hc;rw[Nf hc]
  rw[h8,Txt.frc]at h0;obtain⟨c,rfl⟩:∃ c:Nat,c0=c:=⟨c0.toNat,by omega⟩;simp +contextual (disch:=first|omega|(simp;done)|(simp[Le];done)|fail) [-au,cu,aw,aD,cp,-getElem?_pos,hI,hc];refine ar (fun hb=>?_) (fun hb=>?_)
  ·have hl:(c:Int)<=s\/(t:Int)<=c:=by simp at hb;omega
   rw[if_pos hl]at h0;simp(disch:=omega)[wrap64,-getElem?_pos];exact ae (m':=X.C.length-(i+1)) (by omega) ⟨i+1,best,es',eu',by omega,rfl,hE,hH,hf,hg,h0,h7,by simp(disch:=omega)⟩
  ·have hl:¬ ((c:Int)<=s\/(t:Int)<=c):=by simp at hb;omega
   rw[if_neg hl,Lr]at h0;have hu:s<=c/\c<=k.2:=by omega
   obtain⟨es2,eu2,hv,hy,hF⟩:=C.fit d ha (k:=k) (a:=s) (b:=c) h1 hu.1 hu.2 h4 ⟨Hc.length,mapsIn Hc,Hc.length⟩ MW.self (La _);have h9:=eq_true (Lk.1 hJ.all);simp only[Ld,decide_eq_true_eq]at h9;have m4:md 171=4:=rfl;have hm:ab ((Hc.set mw (wB es2)).set mu (uB eu2)) xb=some (txC X (.sl bb 0 (X.p.t.length+1) (X.p.t.length+1) 1) sv kv pb mw mu):=by
    rw[ak (tA h6 ha.hmu),ak (tB h6 ha.hmw)];exact h6
   simp only[AI,om,dp];refine ai 10 (by kernel_rfl) ?_;simp(disch:=omega)[ht,kl,kt,hm,x4,m4,h9,hF,-getElem?_pos];refine⟨iK fun q hq=>?_,?_⟩
   ·simp only[Lt,MB,or_false]at hq;rcases hq with rfl|rfl
    ·exact⟨_,h6⟩
    ·exact⟨_,ht⟩
   have hK:(Hc.set mw (wB es2)).set mu (uB eu2)=(H.set mw (wB es2)).set mu (uB eu2)++[some (X.sec k)]:=by rw[h7];exact fS he hmul
   rw[hK];refine ar (fun hw=>?_) (fun hw=>?_)
   ·have hn:X.p.w<X.fit k s c:=by simpa using hw
    rw[if_pos hn]at h0;simp(disch:=omega);exact⟨by rw[h0],es2,hv,eu2,hy,by rw[Mz (by simp)]⟩
   ·have hn:¬ X.p.w<X.fit k s c:=by simpa using hw
    rw[if_neg hn]at h0;simp(disch:=omega)[wrap64,-getElem?_pos];exact ae (m':=X.C.length-(i+1)) (by omega) ⟨i+1,c,es2,eu2,by omega,rfl,by omega,by omega,hv,hy,h0,rfl,by simp(disch:=omega)⟩
 ·obtain rfl:i=X.C.length:=by omega
  have hI:¬ ((X.C.length:Int)<X.C.length):=by omega
  rw[Mi,Txt.frc]at h0;simp(disch:=omega)[hI];refine⟨h0.symm,es',hf,eu',hg,?_⟩;have:=zJ hh;simpa using this
theorem pd{X:Txt}{k:Nat×Nat}{s t:Nat}:∀ (l:List Int) (b:Int),(s:Int)<b->b<=t->(s:Int)<X.frc k s t b l/\X.frc k s t b l<=t
 | [],b,h1,h2=>⟨h1,h2⟩
 | c::l,b,h1,h2=>by
  rw[Txt.frc];split
  ·exact pd l b h1 h2
  ·rename_i hc;split
   ·omega
   ·exact pd l c (by omega) (by omega)
def tsL(s n:Nat):List Nat:=(List.range n).map fun i=>s+1+i
theorem AB{s n:Nat}:(tsL s n).length=n:=by simp[tsL]
theorem EF{s n j:Nat}(h:j<n):(tsL s n).drop j=(s+1+j)::(tsL s n).drop (j+1):=by
 rw[Lq (by rw[AB];exact h)];simp[tsL]
theorem CtxP.fin{X:Txt}(C:CtxP prim X)(d:Nat){H:Heap}{xb bb pb mw mu:Nat}{sv kv:V}{es:fG}{eu:fV}(hT:TxH X H xb bb pb mw mu sv kv es eu){k:Nat×Nat}{s:Nat}(h1:k.1<=s)(h2:s<=k.2)(h4:k.2<=X.p.t.length)(cfg:Cfg)(hM:MW cfg H)(hz:cfg.lo<=H.length):
  ∃ r h2,af md (K prim (d+15)) cfg 107 [.ptr xb 0,.agg (X.sec k),.int .i64 s] H=some (r,h2) /\
   (r=.int .i64 (X.fin k s)/\∃ es' eu',WOK X.fs es'/\UOK X.fs eu'/\h2=(H.set mw (wB es')).set mu (uB eu')):=by
 have hV:=C.hV;have h5:=C.h5;refine lp (Post:=fun r h2=>r=.int .i64 (X.fin k s)/\∃ es' eu',WOK X.fs es'/\UOK X.fs eu'/\h2=(H.set mw (wB es')).set mu (uB eu')) rfl (C.hp 107 (by decide)) Tryz.func107 rfl rfl rfl ?_;have hy:MW ⟨cfg.lo,cfg.ex,H.length⟩ H:=fun b cs h1 h2=>hM b cs h1 h2;generalize hA:(⟨cfg.lo,cfg.ex,H.length⟩:Cfg)=cf at *;have h6:cf.lo<=H.length:=by rw[<- hA];exact hz
 have kl:(X.sec k).length=4:=rfl;have km:isMap (X.sec k)=false:=rfl;have kt:(X.sec k).take 4=X.sec k:=rfl;have kf:(∀ x∈X.sec k,x.leaf=true)=True:=eq_true (by simp[Txt.sec]);have k1:slot (X.sec k) 1=some (.int .i64 k.2):=rfl;have h7:mw<H.length:=(K5.1 hT.hmw).1;have hmul:mu<H.length:=(K5.1 hT.hmu).1;obtain⟨x0,x1,x2,x3,x4,x5,x6,x7,x8,x9,x15,xl,xm⟩:=da X (.sl bb 0 (X.p.t.length+1) (X.p.t.length+1) 1) sv kv pb mw mu;have h8:X.fin k s=X.endL k s s ((tsL s (k.2-s)).drop 0):=rfl;simp(disch:=omega)[kf,wrap64,-getElem?_pos];refine ah (fun m fr Hc=>∃ (i:Nat) (best:Nat) (es':fG) (eu':fV),i<=k.2-s/\m=k.2-s-i/\s<=best/\best<=k.2/\WOK X.fs es'/\UOK X.fs eu'/\X.fin k s=X.endL k s best ((tsL s (k.2-s)).drop i)/\Hc=(H.set mw (wB es')).set mu (uB eu')++[some (X.sec k)] /\
  Slots 49 [(0,.ptr xb 0),(2,.int .i64 s),(4,.ptr H.length 0),(7,.int .i64 best),(8,.int .i64 ((s:Int)+1+i))] fr) (m:=k.2-s) (by omega)
  ⟨0,s,es,eu,by omega,by omega,La _,h2,hT.hW,hT.hU,h8,by rw[bE hT.hmw,bE hT.hmu],by simp⟩ ?_
 rintro m fr Hc ⟨i,best,es',eu',hi,rfl,hD,hE,hg,hh,h0,h9,hs⟩;obtain⟨j,rfl⟩:=hs.ex;clear hs;have hj:Hp Hc ((H.set mw (wB es')).set mu (uB eu')++[some (X.sec k)]) []:=by rw[h9];exact Hp.start
 have hd:=hT.ext hj hg hh;have hH:=hT.mw hy h6 hj;have h3:=hd.hx;have he:ab Hc H.length=some (X.sec k):=by rw[h9];simp[ab,km]
 have hS:Hc.length=H.length+1:=by rw[h9];simp
 by_cases hJ:i<k.2-s
 ·have hI:(s:Int)+1+i<=k.2:=by omega
  rw[EF hJ,Txt.endL]at h0;have e1:(s:Int)+1+i-1=((s+i:Nat):Int):=by omega
  have e2:s+1+i-1=s+i:=by omega
  rw[e2]at h0;have hX:=hV.bl;have hB:=atI (l:=X.B) (i:=s+i) (by omega);simp(disch:=omega)[hI,he,k1,h3,x6,e1,hB,wrap64,-getElem?_pos];refine ar (fun hb=>?_) (fun hb=>?_)
  ·rw[if_pos (by simpa using hb)]at h0;simp(disch:=omega)[wrap64,-getElem?_pos];exact ae (m':=k.2-s-(i+1)) (by omega) ⟨i+1,best,es',eu',by omega,rfl,hD,hE,hg,hh,h0,h9,by simp(disch:=omega);omega⟩
  ·rw[if_neg (by simpa using hb)]at h0;have hl:s<=s+1+i/\s+1+i<=k.2:=by omega
   have eT:(((s+1+i:Nat)):Int)=(s:Int)+1+i:=by omega
   obtain⟨es2,eu2,hm,hn,hF⟩:=C.fit (d+1) hd (k:=k) (a:=s) (b:=s+1+i) h1 hl.1 hl.2 h4 ⟨Hc.length,mapsIn Hc,Hc.length⟩ MW.self (La _);rw[eT]at hF;have ha:=eq_true (Lk.1 hH.all);simp only[Ld,decide_eq_true_eq]at ha;have m4:md 171=4:=rfl;have hr:ab ((Hc.set mw (wB es2)).set mu (uB eu2)) xb=some (txC X (.sl bb 0 (X.p.t.length+1) (X.p.t.length+1) 1) sv kv pb mw mu):=by
    rw[ak (tA h3 hd.hmu),ak (tB h3 hd.hmw)];exact h3
   simp only[AI,om,dp];refine ai 10 (by kernel_rfl) ?_;simp(disch:=omega)[he,kl,kt,hr,x4,m4,ha,hF,-getElem?_pos];refine⟨iK fun q hq=>?_,?_⟩
   ·simp only[Lt,MB,or_false]at hq;rcases hq with rfl|rfl
    ·exact⟨_,h3⟩
    ·exact⟨_,he⟩
   have hK:(Hc.set mw (wB es2)).set mu (uB eu2)=(H.set mw (wB es2)).set mu (uB eu2)++[some (X.sec k)]:=by rw[h9];exact fS h7 hmul
   rw[hK];refine ar (fun hw=>?_) (fun hw=>?_)
   ·have ht:X.fit k s (s+1+i)<=X.p.w:=by simpa using hw
    rw[if_pos ht]at h0;simp(disch:=omega)[wrap64,-getElem?_pos];exact ae (m':=k.2-s-(i+1)) (by omega) ⟨i+1,s+1+i,es2,eu2,by omega,rfl,by omega,by omega,hm,hn,h0,rfl,by simp(disch:=omega);omega⟩
   ·have ht:¬ X.fit k s (s+1+i)<=X.p.w:=by simpa using hw
    rw[if_neg ht]at h0;simp(disch:=omega);by_cases hf:s<best
    ·rw[if_pos hf]at h0;simp(disch:=omega)[hf];exact⟨by rw[h0],es2,hm,eu2,hn,by rw[Mz (by simp)]⟩
    ·rw[if_neg hf]at h0;obtain⟨hL,hN⟩:=pd (X:=X) (k:=k) (s:=s) (t:=s+1+i) X.C ((s+1+i:Nat):Int) (by omega) (by omega);have hc:Hp ((H.set mw (wB es2)).set mu (uB eu2)++[some (X.sec k)]) ((H.set mw (wB es2)).set mu (uB eu2)++[some (X.sec k)]) []:=Hp.start;have hO:=hT.ext hc hm hn;have hP:=hT.mw hy h6 hc;obtain⟨_,_,hu,rfl,es3,eu3,hQ,hR,rfl⟩:=C.frc d hO (k:=k) (s:=s) (t:=s+1+i) h1 (by omega) hl.2 h4 cf hP (by simp;omega);rw[eT]at hu;have hv:ab ((H.set mw (wB es2)).set mu (uB eu2)++[some (X.sec k)]) H.length=some (X.sec k):=by simp[ab,km]
     rw[fS h7 hmul]at hu;rw[eT]at h0 hL hN;simp(disch:=omega)[hf,hv,kl,kt,hu];exact⟨by rw[h0];omega,es3,hQ,eu3,hR,by rw[Mz (by simp)]⟩
 ·obtain rfl:i=k.2-s:=by omega
  have hI:¬ ((s:Int)+1+((k.2-s:Nat):Int)<=k.2):=by omega
  rw[Mm (by rw[AB];omega),Txt.endL]at h0;simp(disch:=omega)[hI,he,k1]
  trace_state
  refine⟨by rw[h0],es',hg,eu',hh,?_⟩;have:=zJ hj;simpa using this
end
end Bi
end Go.Ab
