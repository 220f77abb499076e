/- The program: a line. -/
import Derived.Test.YtoappddifbgegaaGreatPaFo
set_option linter.all false
set_option maxHeartbeats 16000000
set_option maxRecDepth 100000
namespace Go.Ab
open Go.Proofs
namespace Bi
attribute [local congr] az
theorem ud{f:Int->Int}{l:List Int}{i:Nat}{x:Int}(h:l[i]?=some x):mx f (l.take (i+1))=max (mx f (l.take i)) (f x):=by
 unfold mx;rw[LD,h,NI];rfl
theorem iM{f:Int->Int}{M:Int}(hM:0<=M):∀ {l:List Int},(∀ x∈l,f x<=M)->0<=mx f l/\mx f l<=M:=by
 intro l h;unfold mx;have:∀ (l:List Int) (a:Int),(∀ x∈l,f x<=M)->0<=a->a<=M->0<=l.foldl (fun a i=>max a (f i)) a/\l.foldl (fun a i=>max a (f i)) a<=M:=by
  intro l
  induction l with
  | nil=>intro a _ h1 h2;exact⟨h1,h2⟩
  | cons x l ih =>
   intro a h h1 h2;have:=h x (by simp);exact ih _ (fun y hy=>h y (by simp[hy])) (by show 0<=max a (f x);omega) (by show max a (f x)<=M;omega)
 exact this l 0 h (Oj _) hM
theorem TxV.at{X:Txt}(hV:TxV X){q:Nat}(hq:q<X.p.s.length):∃ sp f,X.p.s[q]?=some sp/\X.fs[sp.n.toNat]?=some f/\0<=sp.n/\sp.n<X.fs.length/\1<=sp.z/\sp.z<=1000/\bQ f=0/\X.asc q=pK f sp.z/\X.des q=nk f sp.z/\X.hei q=vK f sp.z:=by
 obtain⟨sp,h0⟩:=atG hq;have hg:X.p.s.getD q ⟨0,0,0,0⟩=sp:=by rw[K9,h0];rfl
 have h7:=hV.sf sp (K6 h0);obtain⟨f,hf⟩:=atG (show sp.n.toNat<X.fs.length by omega);have h3:X.fs.getD sp.n.toNat ⟨0,0,0,0,0,[],[],[]⟩=f:=by rw[K9,hf];rfl
 refine⟨sp,f,h0,hf,h7.1,h7.2.1,h7.2.2.1,h7.2.2.2,hV.fv f (K6 hf),?_,?_,?_⟩
 ·unfold Txt.asc;rw[Lr,hg,h3]
 ·unfold Txt.des;rw[Lr,hg,h3]
 ·unfold Txt.hei;rw[Lr,hg,h3]
section
variable {prim:FuncId->Option Prim}(d:Nat)
theorem JR(hp:∀ f,Np5 f->prim f=none)(cfg:Cfg)(H:Heap)(lo:Nat)(v:V)(gs:List Gly)(ho:OwnC H lo 8 v (gs.flatMap aq))(hl:gs.length<=8100)(hr:∀ g∈gs,0<=g.a/\g.a<=10000000):
  af md (K prim (d+1)) cfg 178 [v] H=some (.int .i64 (cx gs),H):=by
 have hu:Tryz.prog.underlying 160=some (.slice 225):=by kernel_rfl
 have h0:(v=.nils/\gs=[])\/∃ b n,v=.sl b 0 n n 8:=by
  rcases ho with⟨rfl,h⟩|⟨b,n,rfl,_⟩
  ·refine .inl ⟨rfl,?_⟩;have:=bq gs;rw[h]at this;simp at this;exact Ml (by omega)
  ·exact .inr ⟨b,n,rfl⟩
 rcases h0 with⟨rfl,rfl⟩|⟨vb0,vn0,h3⟩
 ·refine aP rfl (hp 178 (by decide)) Tryz.func178 rfl rfl rfl (by simp) ?_;simp(disch:=omega);refine ah (fun m fr H'=>Slots 18 [(3,.int .i64 0),(6,.nils),(7,.int .i64 0),(8,.int .i64 0)] fr) (m:=0) (by omega) (by simp) ?_;rintro m fr H' hs;obtain⟨j,rfl⟩:=hs.ex;clear hs;simp(disch:=omega)[cx]
 suffices HH:∃ r h2,(∀ cfg,af md (K prim (d+1)) cfg 178 [v] H=some (r,h2))/\(r=.int .i64 (cx gs)/\h2=H) by
  obtain⟨_,_,h,rfl,rfl⟩:=HH;exact h cfg
 refine gB (Post:=fun r h2=>r=.int .i64 (cx gs)/\h2=H) rfl (hp 178 (by decide)) Tryz.func178 rfl rfl rfl (by rw[h3];simp) ?_;clear h3;have hlen:=ho.lenF aO (by omega) hu;simp(disch:=omega)[hlen];refine ah (fun m fr Hc=>∃ (i:Nat) (Z:Heap),i<=gs.length/\m=gs.length-i/\Hc=H++Z /\
  Slots 18 [(3,.int .i64 (cx (gs.take i))),(6,v),(7,.int .i64 gs.length),(8,.int .i64 i)] fr) (m:=gs.length) (by omega) ⟨0,[],by omega,by omega,by simp,by simp[cx]⟩ ?_
 rintro m fr Hc ⟨i,Z,hi,rfl,rfl,hs⟩;obtain⟨j,rfl⟩:=hs.ex;clear hs;by_cases h4:i<gs.length
 ·have hI:(i:Int)<gs.length:=by omega
  obtain⟨vb,rfl,hh,hj,h6⟩:=ho.posF aO (by omega) (by omega);obtain⟨g,hg⟩:=atG h4;have h7:=hr g (K6 hg);have hN:=iz hg;have hm:=gy hr i (by omega);have h8:=fN (f:=aq) (n:=8) aO hg;have h9:=bq gs;have q8:i*8+8<=gs.length*8:=by omega
  have ha:isMap (aq g)=false:=rfl;have hc:(aq g).length=8:=rfl;have hn:(aq g).take 8=aq g:=rfl;have hd:(∀ x∈aq g,x.leaf=true)=True:=eq_true (Lk.1 rfl);have hq:(∀ x∈aq g,x.rf=true)=True:=eq_true (Lk.1 rfl);have he:putAt [V.int .i64 0,.int .i64 0,.int .i64 0,.int .i64 0,.int .i64 0,.int .i64 0,.int .i64 0,.int .i64 0] 0 (aq g)=aq g:=rfl;have g5:slot (aq g) 5=some (.int .i64 g.a):=rfl;have hf:Cfg.wr ⟨H.length,[],H.length⟩ (H.length+Z.length)=true:=by simp[Cfg.wr]
  simp(disch:=omega)[hI,h6,h8,h9,q8,ha,hc,hd,hf,he,g5,wrap64,-getElem?_pos];refine ae (m':=gs.length-(i+1)) (by omega) ⟨i+1,Z++[some (aq g)],by omega,rfl,by simp,by rw[hN];simp(disch:=omega)⟩
 ·obtain rfl:i=gs.length:=by omega
  have hI:¬ ((gs.length:Int)<gs.length):=by omega
  simp(disch:=omega)[hI]
theorem CtxP.lin{X:Txt}(C:CtxP prim X){H:Heap}{xb bb pb mw mu:Nat}{sv kv:V}{es:fG}{eu:fV}(hT:TxH X H xb bb pb mw mu sv kv es eu){k:Nat×Nat}{s t:Nat}(h1:k.1<=s)(h2:s<=t)(h3:t<=k.2)(h4:k.2<=X.p.t.length)(y:Int)(hy:0<=y/\y<=1000000000000)(cfg:Cfg)(hM:MW cfg H)(hlo:cfg.lo<=H.length):
  ∃ r h2,af md (K prim (d+14)) cfg 108 [.ptr xb 0,.agg (X.sec k),.int .i64 s,.int .i64 t,.int .i64 y] H=some (r,h2) /\
   (r=.agg (linG (X.lin k s t y))/\∃ es' eu',WOK X.fs es'/\UOK X.fs eu'/\h2=(H.set mw (wB es')).set mu (uB eu')):=by
 have hV:=C.hV;have h5:=C.h5;have hp:=C.hp;refine lp (Post:=fun r h2=>r=.agg (linG (X.lin k s t y))/\∃ es' eu',WOK X.fs es'/\UOK X.fs eu'/\h2=(H.set mw (wB es')).set mu (uB eu')) rfl (C.hp 108 (by decide)) Tryz.func108 rfl rfl rfl ?_;have hM':MW ⟨cfg.lo,cfg.ex,H.length⟩ H:=fun b cs h1 h2=>hM b cs h1 h2;generalize hcf:(⟨cfg.lo,cfg.ex,H.length⟩:Cfg)=cf at *;have z7:cf.lo<=H.length:=by rw[<- hcf];exact hlo
 have hthr:cf.thr=H.length:=by rw[<- hcf]
 have kl:(X.sec k).length=4:=rfl;have km:isMap (X.sec k)=false:=rfl;have kt:(X.sec k).take 4=X.sec k:=rfl;have kf:(∀ x∈X.sec k,x.leaf=true)=True:=eq_true (by simp[Txt.sec]);have k1:slot (X.sec k) 1=some (.int .i64 k.2):=rfl;have k2:slot (X.sec k) 2=some (.int .i64 (X.base k)):=rfl;have z8:mw<H.length:=(K5.1 hT.hmw).1;have hmul:mu<H.length:=(K5.1 hT.hmu).1;obtain⟨x0,x1,x2,x3,x4,x5,x6,x7,x8,x9,x15,xl,xm⟩:=da X (.sl bb 0 (X.p.t.length+1) (X.p.t.length+1) 1) sv kv pb mw mu;have hu:Tryz.prog.underlying 160=some (.slice 225):=by kernel_rfl
 obtain⟨hgl,hgr⟩:=hV.gls h1 h2 h3 h4 h5;obtain⟨S2,hQ⟩:∃ S2:Heap,[some (X.sec k),some [V.int .i64 0,.int .i64 0,.int .i64 0,.int .i64 0,.int .i64 0,.int .i64 0,.int .i64 0,.int .i64 0,.int .i64 0,.nils]]=S2:=⟨_,rfl⟩;have hd:S2.length=2:=by rw[<- hQ];rfl
 have z9:Hp (H++S2) ((H.set mw (wB es)).set mu (uB eu)++S2) []:=by rw[bE hT.hmw,bE hT.hmu];exact Hp.start
 have hT0:=hT.ext z9 hT.hW hT.hU;have hM0:=hT.mw hM' z7 z9;obtain⟨v,H2,hGl,es2,eu2,hR,hS,hh⟩:=Db (prim:=prim) (d+1) C.hp C.hG X C.hV C.hXr C.hpR (C.hCl (d+10)) (C.hCn (d+10)) (H++S2) xb bb pb mw mu sv kv es eu hT0 k s t h1 h2 h3 h4 ⟨(H++S2).length,mapsIn (H++S2),(H++S2).length⟩ MW.self (La _);rw[LY _ _ z8,LY _ _ (by simpa using hmul)]at hh;have w7:ab (H++S2) H.length=some (X.sec k):=by rw[<- hQ];simp[ab,km]
 have hv:=eq_true (Lk.1 hM0.all);simp only[Ld,decide_eq_true_eq,Ln]at hv hGl;have m5:md 173=5:=rfl;obtain⟨hv1,hv2⟩:=ia hh.head;simp(disch:=omega)[kf,hQ];refine ai 12 (by kernel_rfl) ?_;simp(disch:=omega)[w7,kl,kt,k2,m5,hv,hGl,hv1,hv2];refine⟨iK fun q hq=>?_,?_⟩
 ·simp only[Lt,MB,or_false]at hq;rcases hq with rfl|rfl
  ·exact⟨_,w7⟩
  ·exact⟨_,w7⟩
 have hle:=hh.le;simp only[Ln,LC,hd]at hle;have hwH:cf.wr H2.length=true:=bH (by omega);have hth:cf.thr<=H2.length:=by omega
 have hln0:[V.int .i64 s,.int .i64 t,.int .i64 (X.base k),.int .i64 0,.int .i64 y,.int .i64 0,.int .i64 0,.int .i64 0,.int .i64 0,v]=bK ⟨s,t,X.base k,0,y,0,0,0,0⟩ v:=rfl;rw[hln0];have g1:=hh.new (cs:=bK ⟨s,t,X.base k,0,y,0,0,0,0⟩ v) (n:=1) (k:=10) rfl rfl [];have hj:=hT.ext g1 hR hS;have hW0:=fun cfg=>E3 (prim:=prim) (d+8) hp X hV.n cfg (H2++[some (bK ⟨s,t,X.base k,0,y,0,0,0,0⟩ v)]) xb pb mw mu _ sv kv hj.hx s t h2 (by omega);have hX:∀ {Hc:Heap} {os:List Own},Hp Hc ((H.set mw (wB es2)).set mu (uB eu2)++S2) os->ab Hc H.length=some (X.sec k):=fun h=>by
  rw[h.block (by simp;omega),<- hQ];simp[ab,km]
 clear hGl hh hv;simp(disch:=omega)[hwH,hth,-dp];rw[dp];have he:X.lgl k s t=if t<k.2 then (X.gls k s t).map fun g=>if (X.wht s t:Int)<=g.f then { g with a:=0 } else g else X.gls k s t:=rfl;generalize hwv:X.wht s t=wv at *;generalize H2.length=lb at *;generalize hH3:H2++[some (bK ⟨s,t,X.base k,0,y,0,0,0,0⟩ v)]=H3 at *;generalize X.gls k s t=gs at *;refine jf (fun fr' Hc=>Hp Hc ((H.set mw (wB es2)).set mu (uB eu2)++S2) [(10,.sl lb 0 1 1 10,bK ⟨s,t,X.base k,0,y,0,0,0,0⟩ v),(8,v,(X.lgl k s t).flatMap aq)] /\
  Slots 200 [(0,.ptr xb 0),(2,.int .i64 s),(3,.int .i64 t),(6,.ptr H.length 0),(10,.ptr (H.length+1) 0),(11,.ptr lb 0)] fr') ?_ ?_
 · --A<
  have hk3:=hX g1;simp(disch:=omega)[hW0,hk3,k1];by_cases w8:t<k.2
  ·rw[if_pos w8]at he;have h7:=g1.head.at.2.2.1;have l9:slot (bK ⟨s,t,X.base k,0,y,0,0,0,0⟩ v) 9=some v:=rfl;have ll:(bK ⟨s,t,X.base k,0,y,0,0,0,0⟩ v).length=10:=rfl;have hlen:=g1.snd.lenF aO (by omega) hu;generalize hL0:bK ⟨s,t,X.base k,0,y,0,0,0,0⟩ v=L0 at *;simp(disch:=omega)[w8,h7,l9,hlen];generalize hgA:(gs.map fun g=>if (wv:Int)<=g.f then { g with a:=0 } else g)=gsA at *;have hH:gsA.length=gs.length:=by rw[<- hgA];simp
   have hAg:∀ (i:Nat) (g:Gly),gs[i]?=some g->gsA[i]?=some (if (wv:Int)<=g.f then { g with a:=0 } else g):=fun i g h=>by rw[<- hgA,Lh,h];rfl
   refine ah (fun m fr Hc=>∃ i:Nat,i<=gs.length/\m=gs.length-i/\Hp Hc ((H.set mw (wB es2)).set mu (uB eu2)++S2) [(10,.sl lb 0 1 1 10,L0),(8,v,(gsA.take i++gs.drop i).flatMap aq)] /\
    Slots 200 [(0,.ptr xb 0),(2,.int .i64 s),(3,.int .i64 t),(6,.ptr H.length 0),(10,.ptr (H.length+1) 0),(11,.ptr lb 0),(12,.int .i64 wv),(43,.int .i64 gs.length),(44,.int .i64 i)] fr) (m:=gs.length) (by omega) ⟨0,by omega,by omega,by simpa using g1,by simp⟩ ?_
   clear g1 h7 hk3 hlen;rintro m fr Hc ⟨i,hi,rfl,h0,hs⟩;obtain⟨j,rfl⟩:=hs.ex;clear hs;by_cases hY:i<gs.length
   ·have hI:(i:Int)<gs.length:=by omega
    obtain⟨g,hg⟩:=atG hY;have hA:=hAg i g hg;have hl:=@bh _ _ _ hH i;have hJ:=yY hH (La i);rw[hg]at hJ;have hZ:=dG hH hA;have hsm:=fun h=>iw hH hA h;have g0:=@bh _ _ _ hH (i+1);generalize w9:gsA.take (i+1)++gs.drop (i+1)=st1 at *;generalize gsA.take i++gs.drop i=st at *;obtain⟨vb,rfl,hb1,hb2,z0⟩:=h0.snd.posF aO (by omega) (by omega);simp only[Ln,LC,hd]at hb1;have h7:=h0.head.at.2.2.1;have w2:slot (st.flatMap aq) (i*8+2)=some (.int .i64 g.f):=by rw[dN aO (by omega) hJ];rfl
    have w5:bR (st.flatMap aq) (i*8+5) (.int .i64 0)=(st.set i { g with a:=0 }).flatMap aq:=gh aO (by omega) hJ rfl;have hfl:=bq st;have q8:i*8+8<=gs.length*8:=by omega
    have q9:i*8+5+1<=gs.length*8:=by omega
    have hwb:cf.wr vb=true:=bH (by omega);simp(disch:=omega)[hI,h7,l9,z0,w2,hl,-getElem?_pos];refine ar (fun hw=>?_) (fun hw=>?_)
    ·have hw2:(wv:Int)<=g.f:=by simpa using hw
     rw[if_pos hw2]at hZ;have hK:=(h0.swap.setO (cs':=(st.set i { g with a:=0 }).flatMap aq) (fI _) (by rw[bq,bq,LC])).swap;simp(disch:=omega)[h7,l9,z0,hl,hfl,hwb,w5,q9,wrap64,-getElem?_pos];exact ae (m':=gs.length-(i+1)) (by omega) ⟨i+1,by omega,rfl,by rw[w9,<- hZ];exact hK,by simp(disch:=omega)⟩
    ·have hw2:¬ (wv:Int)<=g.f:=by simpa using hw
     rw[if_neg hw2]at hsm;simp(disch:=omega)[wrap64,-getElem?_pos];exact ae (m':=gs.length-(i+1)) (by omega) ⟨i+1,by omega,rfl,by rw[w9,<- hsm hg];exact h0,by simp(disch:=omega)⟩
   ·obtain rfl:i=gs.length:=by omega
    have hI:¬ ((gs.length:Int)<gs.length):=by omega
    rw[dF hH (La _)]at h0;simp(disch:=omega)[hI];exact bz ⟨by rw[he];exact h0,by simp⟩
  ·rw[if_neg w8]at he;simp(disch:=omega)[w8];exact bz ⟨by rw[he];exact g1,by simp⟩
  --A>
 clear hW0 hj g1 hH3 w7 z9 hT0 hM0 hgl hgr;obtain⟨L,z1⟩:∃ L,X.spans s t=L:=⟨_,rfl⟩;have hsn:=hV.sn;have hLl:0<L.length/\L.length<=90/\∀ x∈L,0<=x/\x<X.p.s.length:=by
  have hsl:=hV.sp;rw[<- z1];unfold Txt.spans;split
  ·refine⟨by simp;omega,by simp;omega,fun x hx=>?_⟩;exact hV.spm x (LQ (MG hx))
  ·refine⟨by simp,by simp,fun x hx=>?_⟩;simp at hx;omega
 rintro _ Hc ⟨h0,hs⟩;obtain⟨j,rfl⟩:=hs.ex;clear hs;have hj:=hT.ext h0 hR hS;have h6:=hj.hx;have k0:=ao h6;have hn:=h0.le;simp only[Ln,LC,hd]at hn;rw[dp];simp(disch:=omega)[h6,x1,-dp];rw[dp];refine jf (fun fr' Hd=>∃ b off cap cells,b≠lb/\Hp Hd ((H.set mw (wB es2)).set mu (uB eu2)++S2) [(10,.sl lb 0 1 1 10,bK ⟨s,t,X.base k,0,y,0,0,0,0⟩ v),(8,v,(X.lgl k s t).flatMap aq)]/\ab Hd b=some cells/\(∀ i x,L[i]?=some x->slot cells (off+i)=some (.int .i64 x))/\off+L.length<=cells.length /\
  Slots 200 [(0,.ptr xb 0),(6,.ptr H.length 0),(10,.ptr (H.length+1) 0),(11,.ptr lb 0),(14,.sl b off L.length cap 1)] fr') ?_ ?_
 ·by_cases hl:s<t
  ·have hL:L=(X.sp.take t).drop s:=by rw[<- z1];unfold Txt.spans;rw[if_pos hl]
   have k3:=hV.sp;obtain⟨sb,ns,z2,hns,hsb1,hsb2,_⟩:=hT.hs.pos (by intro e;have:=congrArg List.length e;simp at this;rw[this]at k3;simp at k3;omega);have hsb3:ab Hc sb=some (X.sp.map (V.int .i64)):=by
    have:=hj.hs;rw[z2]at this;exact this.at.2.2.1
   have hnsE:ns=X.p.t.length:=by simp at hns;omega
   rw[z2]at x9;rw[<- z2]at x9;have x9':slot (txC X (.sl bb 0 (X.p.t.length+1) (X.p.t.length+1) 1) sv kv pb mw mu) 9=some (.sl sb 0 ns ns 1):=by rw[x9,z2]
   have hlbH:=h0.head.at.1;simp only[Ln,LC,hd]at hlbH;have hLl2:L.length=t-s:=by rw[hL];simp;omega
   have g0:s<=t:=by omega
   have hst3:t<=ns:=by omega
   simp(disch:=omega)[hl,h6,x9',wrap64,-getElem?_pos];have hsle:(if s=0 then some (V.sl sb 0 t ns 1) else if s=t then some (V.lst []) else some (V.sl sb s (t-s) (ns-s) 1))=some (V.sl sb s (t-s) (ns-s) 1):=by
    by_cases hs0:s=0
    ·rw[if_pos hs0,hs0];rfl
    ·rw[if_neg hs0,if_neg (by omega)]
   rw[hsle];simp(disch:=omega);refine bz ⟨sb,s,ns-s,_,by omega,h0.push _,by rw[aj (by omega)];exact hsb3,fun i x hx=>?_,by simp;omega,?_⟩
   ·have hi:=(K5.1 hx).1;rw[hL,M3,LI (by omega)]at hx;rw[slot,Lh,hx];rfl
   ·rw[hLl2];simp
  ·have hL:L=[(X.p.s.length:Int)-1]:=by rw[<- z1];unfold Txt.spans;rw[if_neg hl]
   have hlb2:=h0.head.at.2.1;simp(disch:=omega)[hl];refine bz ⟨Hc.length,0,1,_,by omega,h0.push _,by simp[ab,isMap];rfl,fun i x hx=>?_,by rw[hL];simp,?_⟩
   ·rw[hL]at hx;rcases i with _|i
    ·simp at hx;rw[wrap64 (by omega) (by omega)];simp[slot,hx]
    ·simp at hx
   ·rw[hL];simp
 clear h6 k0 hn hj h0;rintro _ Hc2 ⟨b,off,cap,cells,hbl,h0,hz,hr,hoff,hs⟩;obtain⟨j2,rfl⟩:=hs.ex;clear hs;have hO:∀ x∈L,X.asc x<=5000000/\0<=X.asc x/\X.des x<=5000000/\0<=X.des x/\X.hei x<=15000000/\0<=X.hei x:=fun x hx=>by
  have hx2:=hLl.2.2 x hx;obtain⟨q,rfl⟩:∃ q:Nat,x=q:=⟨x.toNat,by omega⟩;obtain⟨sp,f,g1,g2,g3,g4,g5,g6,g7,g8,g9,g10⟩:=hV.at (q:=q) (by omega);have h8:=lQ g7 g5 g6;rw[g8,g9,g10];omega
 rw[dp];refine jf (fun fr' Hd=>Hp Hd ((H.set mw (wB es2)).set mu (uB eu2)++S2) [(10,.sl lb 0 1 1 10,bK ⟨s,t,X.base k,0,y,0,mx X.asc L,mx X.des L,mx X.hei L⟩ v),(8,v,(X.lgl k s t).flatMap aq)] /\
  Slots 200 [(0,.ptr xb 0),(6,.ptr H.length 0),(10,.ptr (H.length+1) 0),(11,.ptr lb 0)] fr') ?_ ?_
 · --B<
  simp(disch:=omega);refine ah (fun m fr Hc=>∃ i:Nat,i<=L.length/\m=L.length-i/\Hp Hc ((H.set mw (wB es2)).set mu (uB eu2)++S2) [(10,.sl lb 0 1 1 10,bK ⟨s,t,X.base k,0,y,0,mx X.asc (L.take i),mx X.des (L.take i),mx X.hei (L.take i)⟩ v),(8,v,(X.lgl k s t).flatMap aq)]/\ab Hc b=some cells /\
   Slots 200 [(0,.ptr xb 0),(6,.ptr H.length 0),(10,.ptr (H.length+1) 0),(11,.ptr lb 0),(79,.sl b off L.length cap 1),(80,.int .i64 L.length),(81,.int .i64 i)] fr) (m:=L.length) (by omega) ⟨0,by omega,by omega,by simpa[mx]using h0,hz,by simp⟩ ?_
  clear h0 hz;rintro m fr Hc ⟨i,hi,rfl,h0,hz,hs⟩;obtain⟨j3,rfl⟩:=hs.ex;clear hs;by_cases hY:i<L.length
  ·have hI:(i:Int)<L.length:=by omega
   have hx:=atI hY;have hc0:=hr i _ hx;have hxr:=hLl.2.2 _ (K6 hx);have hma:=ud (f:=X.asc) hx;have hmd:=ud (f:=X.des) hx;have hmh:=ud (f:=X.hei) hx;have hra:=iM (f:=X.asc) (M:=5000000) (by omega) (l:=L.take i) fun x hx=>(hO x (LQ hx)).1;have hrd:=iM (f:=X.des) (M:=5000000) (by omega) (l:=L.take i) fun x hx=>(hO x (LQ hx)).2.2.1;have hrh:=iM (f:=X.hei) (M:=15000000) (by omega) (l:=L.take i) fun x hx=>(hO x (LQ hx)).2.2.2.2.1;generalize lgI L i=x at *;obtain⟨q,rfl⟩:∃ q:Nat,x=q:=⟨x.toNat,by omega⟩;obtain⟨sp,f,hq,hf,h71,h72,z3,z4,z5,hAE,hDE,hHE⟩:=hV.at (q:=q) (by omega);rw[hAE]at hma;rw[hDE]at hmd;rw[hHE]at hmh;obtain⟨fi,hfi⟩:∃ x:Nat,sp.n=x:=⟨sp.n.toNat,by omega⟩;rw[hfi,Lr]at hf;have hj:=hT.ext h0 hR hS;have h6:=hj.hx;have k0:=ao h6;have hsl4:(aR sp).length=4:=rfl;have u2:slot (aR sp) 2=some (.int .i64 fi):=by rw[<- hfi];rfl
   have u3:slot (aR sp) 3=some (.int .i64 sp.z):=rfl;have k4:(aG f).length=8:=rfl;have k5:List.take 8 (aG f)=aG f:=rfl;have hff4:(∀ x∈aG f,x.leaf=true)=True:=eq_true (by simp[aG]);have hfm:isMap (aG f)=false:=rfl;have q1:off+i+1<=cells.length:=by omega
   have hfr:(∀ x∈aG f,x.rf=true)=True:=eq_true (by simp[aG]);have hpa:putAt [V.int .i64 0,.int .i64 0,.int .i64 0,.int .i64 0,.int .i64 0,.nils,.nils,.nils] 0 (aG f)=aG f:=rfl;have hn:=h0.le;simp only[Ln,LC,hd]at hn;have hwH:cf.wr Hc.length=true:=bH (by omega);have hwH2:Cfg.wr ⟨Hc.length+1,[Hc.length],Hc.length+1⟩ Hc.length=true:=by simp[Cfg.wr]
   simp(disch:=omega)[hI,hz,hc0];refine ai 26 (by kernel_rfl) ?_;simp (maxSteps:=1000000) (disch:=omega)[h6,x1,x5,hq,hsl4,u2,u3,hf,k4,k5,hff4,hfr,hpa,hwH,hwH2,-getElem?_pos];refine⟨by omega,?_⟩;have hA:=fun cfg h=>zC (prim:=prim) (d+5) cfg h hp f z5 sp.z z3 z4;have hD:=fun cfg h=>qh (prim:=prim) (d+6) cfg h hp f z5 sp.z z3 z4;have hHh:=fun cfg h=>FA (prim:=prim) (d+4) cfg h hp f z5 sp.z z3 z4;have hrz:=lQ z5 z3 z4;have g1:=h0.push [some (aG f)];have hbc2:ab (Hc++[some (aG f)]) b=some cells:=by rw[aj (ao hz)];exact hz
   have hft2:ab (Hc++[some (aG f)]) Hc.length=some (aG f):=by simp[ab,hfm]
   have h7:=g1.head.at.2.2.1;have hm:=h0.head.at;simp only[Ln,LC,hd]at hm;have hP:cf.wr lb=true:=bH (by omega);have hln5:(Hc++[some (aG f)]).length=Hc.length+1:=by simp
   generalize hHd:Hc++[some (aG f)]=Hd at *;generalize hft:Hc.length=ft at *;have mA:md 175=0:=rfl;have mD:md 176=0:=rfl;have mH:md 177=0:=rfl;obtain⟨va,hva⟩:∃ x,mx X.asc (L.take i)=x:=⟨_,rfl⟩;obtain⟨vd,hvd⟩:∃ x,mx X.des (L.take i)=x:=⟨_,rfl⟩;obtain⟨vh,hvh⟩:∃ x,mx X.hei (L.take i)=x:=⟨_,rfl⟩;rw[hva]at h7 hma hra;rw[hvd]at h7 hmd hrd;rw[hvh]at h7 hmh hrh;rw[hva,hvd,hvh]at g1;have l6:slot (bK ⟨s,t,X.base k,0,y,0,va,vd,vh⟩ v) 6=some (.int .i64 va):=rfl;have l7:slot (bK ⟨s,t,X.base k,0,y,0,va,vd,vh⟩ v) 7=some (.int .i64 vd):=rfl;have l8:slot (bK ⟨s,t,X.base k,0,y,0,va,vd,vh⟩ v) 8=some (.int .i64 vh):=rfl;have ll:(bK ⟨s,t,X.base k,0,y,0,va,vd,vh⟩ v).length=10:=rfl;refine ai 19 (by kernel_rfl) ?_;have hmx:∀ a b:Int,(if a<b then b else a)=max a b:=fun a b=>by split<;>omega
   have hs6:∀ a d h z,bR (bK ⟨s,t,X.base k,0,y,0,a,d,h⟩ v) 6 (.int .i64 z)=bK ⟨s,t,X.base k,0,y,0,z,d,h⟩ v:=fun _ _ _ _=>rfl;have hs7:∀ a d h z,bR (bK ⟨s,t,X.base k,0,y,0,a,d,h⟩ v) 7 (.int .i64 z)=bK ⟨s,t,X.base k,0,y,0,a,z,h⟩ v:=fun _ _ _ _=>rfl;have hs8:∀ a d h z,bR (bK ⟨s,t,X.base k,0,y,0,a,d,h⟩ v) 8 (.int .i64 z)=bK ⟨s,t,X.base k,0,y,0,a,d,z⟩ v:=fun _ _ _ _=>rfl;have hlm:∀ a d h,isMap (bK ⟨s,t,X.base k,0,y,0,a,d,h⟩ v)=false:=fun _ _ _=>rfl;have ht:∀ a d h,(bK ⟨s,t,X.base k,0,y,0,a,d,h⟩ v).length=10:=fun _ _ _=>rfl;have hE:lb<Hd.length:=by omega
   have g2:=g1.setO (cs':=bK ⟨s,t,X.base k,0,y,0,max va (pK f sp.z),max vd (nk f sp.z),max vh (vK f sp.z)⟩ v) rfl rfl;simp (maxSteps:=1000000) (disch:=omega)[h7,l6,l7,l8,ht,hlm,hft2,k4,k5,mA,mD,mH,hA,hD,hHh,oN,hmx,hs6,hs7,hs8,hP,wrap64,-getElem?_pos];exact ae (m':=L.length-(i+1)) (by omega) ⟨i+1,by omega,rfl,by rw[hma,hmd,hmh];exact g2,by rw[ak (Ne.symm hbl)];exact hbc2,by simp(disch:=omega)⟩
  ·obtain rfl:i=L.length:=by omega
   have hI:¬ ((L.length:Int)<L.length):=by omega
   rw[LF]at h0;simp(disch:=omega)[hI];exact bz ⟨h0,by simp⟩
  --B>
 clear hz hr hoff h0;have hra:=iM (f:=X.asc) (M:=5000000) (by omega) (l:=L) fun x hx=>(hO x hx).1;have hrd:=iM (f:=X.des) (M:=5000000) (by omega) (l:=L) fun x hx=>(hO x hx).2.2.1;have hrh:=iM (f:=X.hei) (M:=15000000) (by omega) (l:=L) fun x hx=>(hO x hx).2.2.2.2.1;have k6:(X.lgl k s t).length<=8100/\∀ g∈X.lgl k s t,0<=g.a/\g.a<=10000000:=by
  obtain⟨h8,h9⟩:=hV.gls h1 h2 h3 h4 h5;unfold Txt.lgl;split
  ·refine⟨by simpa using h8,fun g hg=>?_⟩;obtain⟨g',hg',rfl⟩:=Me.1 hg;have:=h9 g' hg';split
   ·simp
   ·exact this
  ·exact⟨h8,h9⟩
 have k7:X.lin k s t y=⟨⟨s,t,X.base k,X.lx k s t,y,cx (X.lgl k s t),mx X.asc L,mx X.des L,max (mx X.hei L) (mx X.asc L+mx X.des L)⟩,.lst ((ek (X.lx k s t) (X.lgl k s t)).map aq),ek (X.lx k s t) (X.lgl k s t)⟩:=by
  rw[<- z1];rfl
 have ha:X.lx k s t=if X.p.a=2 then (X.p.w-cx (X.lgl k s t)) / 2 else if X.p.a=1↔(X.base k).tmod 2=0 then X.p.w-cx (X.lgl k s t) else 0:=rfl;have hwsr:=gy k6.2 _ (La _);rw[LF]at hwsr;generalize X.lx k s t=lxv at *;generalize mx X.asc L=va at *;generalize mx X.des L=vd at *;generalize mx X.hei L=vh at *;generalize X.lgl k s t=gl at *;rintro _ Hc ⟨h0,hs⟩;obtain⟨j,rfl⟩:=hs.ex;clear hs;have ht:∀ l,(bK l v).length=10:=fun _=>rfl;have hlm:∀ l,isMap (bK l v)=false:=fun _=>rfl;have l6:∀ l,slot (bK l v) 6=some (.int .i64 l.a):=fun _=>rfl;have l7:∀ l,slot (bK l v) 7=some (.int .i64 l.d):=fun _=>rfl;have l8:∀ l,slot (bK l v) 8=some (.int .i64 l.h):=fun _=>rfl;have l5:∀ l,slot (bK l v) 5=some (.int .i64 l.w):=fun _=>rfl;have l3:∀ l,slot (bK l v) 3=some (.int .i64 l.x):=fun _=>rfl;have l9:∀ l,slot (bK l v) 9=some v:=fun _=>rfl;have hs8:∀ l z,bR (bK l v) 8 (.int .i64 z)=bK { l with h:=z } v:=fun _ _=>rfl;have hs5:∀ l z,bR (bK l v) 5 (.int .i64 z)=bK { l with w:=z } v:=fun _ _=>rfl;have hs3:∀ l z,bR (bK l v) 3 (.int .i64 z)=bK { l with x:=z } v:=fun _ _=>rfl;have hmx:∀ a b:Int,(if a<b then b else a)=max a b:=fun a b=>by split<;>omega
 have h7:=h0.head.at.2.2.1;have hm:=h0.head.at;simp only[Ln,LC,hd]at hm;have hP:cf.wr lb=true:=bH (by omega);have hE:lb<Hc.length:=hm.2.1;rw[dp];simp(disch:=omega)[h7,l6,l7,l8,ht,oN,hmx,hs8,hP,wrap64,-getElem?_pos,-dp];have g1:=h0.setO (cs':=bK ⟨s,t,X.base k,0,y,0,va,vd,max vh (va+vd)⟩ v) rfl rfl;have k8:lb<(Hc.set lb (some (bK ⟨s,t,X.base k,0,y,0,va,vd,max vh (va+vd)⟩ v))).length:=by simpa using hE
 clear h0 h7;generalize Hc.set lb (some (bK ⟨s,t,X.base k,0,y,0,va,vd,max vh (va+vd)⟩ v))=Hd at *;have h7:=g1.head.at.2.2.1;have hWd:=fun cfg=>JR (prim:=prim) (d+12) hp cfg Hd _ v gl g1.snd k6.1 k6.2;rw[dp];simp(disch:=omega)[h7,l9,ht,hWd,hs5,hP,-getElem?_pos,-dp];have g2:=g1.setO (cs':=bK ⟨s,t,X.base k,0,y,cx gl,va,vd,max vh (va+vd)⟩ v) rfl rfl;have hbl5:lb<(Hd.set lb (some (bK ⟨s,t,X.base k,0,y,cx gl,va,vd,max vh (va+vd)⟩ v))).length:=by simpa using k8
 clear g1 h7 hWd;generalize Hd.set lb (some (bK ⟨s,t,X.base k,0,y,cx gl,va,vd,max vh (va+vd)⟩ v))=He at *;have h7:=g2.head.at.2.2.1;have hj:=hT.ext g2 hR hS;have h6:=hj.hx;have hF:=hX g2;have hw5:=hV.w;rw[dp];refine ai 7 (by kernel_rfl) ?_;simp(disch:=omega)[h7,l5,h6,x4,wrap64,-getElem?_pos,-dp];rw[dp];have hlr:-100000000000<=lxv/\lxv<=100000000000:=by
  rw[ha];split
  ·omega
  ·split<;>omega
 refine jf (fun fr' Hf=>Hp Hf ((H.set mw (wB es2)).set mu (uB eu2)++S2) [(10,.sl lb 0 1 1 10,bK ⟨s,t,X.base k,lxv,y,cx gl,va,vd,max vh (va+vd)⟩ v),(8,v,gl.flatMap aq)] /\
  Slots 200 [(10,.ptr (H.length+1) 0),(11,.ptr lb 0)] fr') ?_ ?_
 · --C<
  have hFl:=fun cfg h=>xW (prim:=prim) (d+11) cfg h hp (X.p.w-cx gl) (by omega) (by omega);by_cases z6:X.p.a=2
  ·rw[if_pos z6]at ha;have g3:=g2.setO (cs':=bK ⟨s,t,X.base k,lxv,y,cx gl,va,vd,max vh (va+vd)⟩ v) rfl rfl;rw[ha]at g3 ⊢;simp(disch:=omega)[h6,x3,z6,hFl,h7,ht,hs3,hP];exact bz ⟨g3,by simp⟩
  ·rw[if_neg z6]at ha;simp(disch:=omega)[h6,x3,z6];refine ai 10 (by kernel_rfl) ?_;by_cases hcb:X.p.a=1↔(X.base k).tmod 2=0
   ·rw[if_pos hcb]at ha;have g3:=g2.setO (cs':=bK ⟨s,t,X.base k,lxv,y,cx gl,va,vd,max vh (va+vd)⟩ v) rfl rfl;have hdd:(decide (X.p.a=1)==decide ((X.base k).tmod 2=0))=true:=by by_cases h:X.p.a=1<;>simp_all
    rw[ha]at g3 ⊢;simp(disch:=omega)[h6,x3,hF,k2,hdd,h7,ht,hs3,hP];exact bz ⟨g3,by simp⟩
   ·rw[if_neg hcb]at ha;have hdd:(decide (X.p.a=1)==decide ((X.base k).tmod 2=0))=false:=by by_cases h:X.p.a=1<;>simp_all
    simp(disch:=omega)[h6,x3,hF,k2,hdd];exact bz ⟨by rw[ha];exact g2,by simp⟩
  --C>
 clear ha h6 hF hj h7 g2 hbl5 hm hE k8;rintro _ Hf ⟨h0,hs⟩;obtain⟨j2,rfl⟩:=hs.ex;clear hs;have h7:=h0.head.at.2.2.1;have hlen:=h0.snd.lenF aO (by omega) hu;have k9:=@jK gl lxv;simp(disch:=omega)[h7,l3,l9,hlen];refine ah (fun m fr Hc=>∃ i:Nat,i<=gl.length/\m=gl.length-i/\Hp Hc ((H.set mw (wB es2)).set mu (uB eu2)++S2) [(10,.sl lb 0 1 1 10,bK ⟨s,t,X.base k,lxv,y,cx gl,va,vd,max vh (va+vd)⟩ v),(8,v,((ek lxv gl).take i++gl.drop i).flatMap aq)] /\
  Slots 200 [(10,.ptr (H.length+1) 0),(11,.ptr lb 0),(20,.int .i64 (lxv+cx (gl.take i))),(180,.int .i64 gl.length),(181,.int .i64 i)] fr) (m:=gl.length) (by omega) ⟨0,by omega,by omega,by simpa using h0,by simp[cx]⟩ ?_
 clear h0 h7 hlen;rintro m fr Hc ⟨i,hi,rfl,h0,hs⟩;obtain⟨j3,rfl⟩:=hs.ex;clear hs;have h7:=h0.head.at.2.2.1;by_cases hY:i<gl.length
 · --D<
  have hI:(i:Int)<gl.length:=by omega
  obtain⟨g,hg⟩:=atG hY;have hA:=mK (x:=lxv) hg;have hl:=@bh _ _ _ k9 i;have hJ:=yY k9 (La i);rw[hg]at hJ;have hZ:=dG k9 hA;have g0:=@bh _ _ _ k9 (i+1);have hN:=iz hg;have hgr2:=k6.2 g (K6 hg);have hNr:=gy k6.2 i (by omega);generalize w9:(ek lxv gl).take (i+1)++gl.drop (i+1)=st1 at *;generalize (ek lxv gl).take i++gl.drop i=st at *;obtain⟨vb,rfl,hb1,hb2,z0⟩:=h0.snd.posF aO (by omega) (by omega);simp only[Ln,LC,hd]at hb1;have w4:bR (st.flatMap aq) (i*8+4) (.int .i64 (lxv+cx (gl.take i)))=st1.flatMap aq:=by rw[gh aO (by omega) hJ (x':={ g with x:=lxv+cx (gl.take i) }) rfl,hZ]
  have hfl:=bq st;have hfl1:=bq st1;have w5:slot (st1.flatMap aq) (i*8+5)=some (.int .i64 g.a):=by rw[dN aO (by omega) (show st1[i]?=some { g with x:=lxv+cx (gl.take i) } by rw[<- hZ,Lm (by omega)])];rfl
  have q8:i*8+8<=gl.length*8:=by omega
  have q9:i*8+4+1<=gl.length*8:=by omega
  have hwb:cf.wr vb=true:=bH (by omega);have hne:lb≠vb:=fun e=>(L8.1 h0.dj).1 _ (Ll ..) lb rfl (by rw[e];rfl);have hK:=(h0.swap.setO (cs':=st1.flatMap aq) (fI _) (by rw[bq,bq];omega)).swap;have hl4:=hK.head.at.2.2.1;have hb4:ab (Hc.set vb (some (st1.flatMap aq))) vb=some (st1.flatMap aq):=hK.snd.at.2.2.1;simp only[hl]at l9 h7 hl4 hb4 ht hK;simp(disch:=omega)[hI,h7,l9,z0,hl,hfl,q9,hwb,w4,hl4,hb4,w5,wrap64,-getElem?_pos];exact ae (m':=gl.length-(i+1)) (by omega) ⟨i+1,by omega,rfl,by rw[w9,hl];exact hK,by rw[hN,<- Int.add_assoc];simp(disch:=omega)⟩
  --D>
 ·obtain rfl:i=gl.length:=by omega
  have hI:¬ ((gl.length:Int)<gl.length):=by omega
  rw[dF k9 (La _)]at h0;have ht10:∀ l,List.take 10 (bK l v)=bK l v:=fun _=>rfl;have hlf:∀ l,(∀ x∈bK l v,x.leaf=true)=True:=fun l=>eq_true (by simp[bK,hv2]);have hpa:∀ l,putAt [V.int .i64 0,.int .i64 0,.int .i64 0,.int .i64 0,.int .i64 0,.int .i64 0,.int .i64 0,.int .i64 0,.int .i64 0,.nils] 0 (bK l v)=bK l v:=fun _=>rfl;have hz1:ab Hc (H.length+1)=some [V.int .i64 0,.int .i64 0,.int .i64 0,.int .i64 0,.int .i64 0,.int .i64 0,.int .i64 0,.int .i64 0,.int .i64 0,.nils]:=by
   rw[h0.block (by simp;omega),<- hQ];simp[ab,isMap]
  have hwz:cf.wr (H.length+1)=true:=bH (by omega);have hth1:cf.thr<=H.length+1:=by omega
  have hz2:H.length+1<Hc.length:=ao hz1;have hset:ab (Hc.set (H.length+1) (some (bK ⟨s,t,X.base k,lxv,y,cx gl,va,vd,max vh (va+vd)⟩ v))) (H.length+1)=some (bK ⟨s,t,X.base k,lxv,y,cx gl,va,vd,max vh (va+vd)⟩ v):=by
   simp[ab,hz2,hlm]
  simp(disch:=omega)[hI,h7,ht,ht10,hlf,hpa,hz1,hwz,hth1,hset];have hh3:=h0.set (b:=H.length+1) (by simp;omega) (some (bK ⟨s,t,X.base k,lxv,y,cx gl,va,vd,max vh (va+vd)⟩ v));have hfz:frz (Hc.set (H.length+1) (some (bK ⟨s,t,X.base k,lxv,y,cx gl,va,vd,max vh (va+vd)⟩ v))) H.length 5 v=some (.lst ((ek lxv gl).map aq)):=
   OwnC.frzF (d:=3) aO (by omega) hh3.snd (by simp) (fun _=>rfl) (fun g c hc=>by simp[aq]at hc;rcases hc with rfl|rfl|rfl|rfl|rfl|rfl|rfl|rfl<;>simp)
  refine⟨.agg (bK ⟨s,t,X.base k,lxv,y,cx gl,va,vd,max vh (va+vd)⟩ (.lst ((ek lxv gl).map aq))),⟨_,?_,rfl⟩,?_,es2,hR,eu2,hS,?_⟩
  ·generalize Hc.set (H.length+1) (some (bK ⟨s,t,X.base k,lxv,y,cx gl,va,vd,max vh (va+vd)⟩ v))=HH at *;simp[bK,hfz]
  ·rw[k7];rfl
  ·have:=zJ h0;rw[Mf (by omega)];simpa using this
end
end Bi
end Go.Ab
