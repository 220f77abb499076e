/- The program: a text with everything that does not depend on its width. -/
import Derived.Test.YtoappddifbgegaaGreatPaTq
set_option linter.all false
set_option maxHeartbeats 16000000
set_option maxRecDepth 100000
namespace Go.Ab
open Go.Proofs
namespace Bi
attribute [local congr] az
theorem JW(X:Txt)(bv sv kv sv':V)(pb mw mu:Nat):bR (txC X bv sv kv pb mw mu) 9 sv'=txC X bv sv' kv pb mw mu:=rfl
theorem zb(X:Txt)(bv sv kv kv':V)(pb mw mu:Nat):bR (txC X bv sv kv pb mw mu) 15 kv'=txC X bv sv kv' pb mw mu:=rfl
theorem kx{B:Heap}{a b c:Option (List V)}:(B++[a,b]).set (B.length+1) c=B++[a,c]:=by simp
theorem xc:∀ {l:List Spn}{i j:Nat}{s:Spn},l[i]?=some s->(spI j (l.take i)).length+(s.t-s.f).toNat<=(spI j l).length
 | [],_,_,_,h=>by simp at h
 | x::l,0,j,s,h=>by
  simp at h;subst h;simp[spI]
 | x::l,i+1,j,s,h=>by
  have:=xc (l:=l) (i:=i) (j:=j+1) (s:=s) (by simpa using h);rw[NY,spI,spI,Ln,Ln];omega
theorem ia{h:Heap}{lo k:Nat}{v:V}{cs:List V}(ho:OwnC h lo k v cs):cellsOf v=some [v]/\v.leaf=true:=by
 rcases ho with⟨rfl,rfl⟩|⟨b,n,rfl,_⟩<;>exact⟨rfl,rfl⟩
section
variable {prim:FuncId->Option Prim}(d:Nat)
theorem Ik(hp:∀ f,Np5 f->prim f=none)(X:Txt)(hX:X.B=kE X.p.t X.C)(ht:X.p.t.length<=2000)(hu:X.C.length<=4000/\∀ x∈X.C,0<=x/\x<=X.p.t.length)(hC:∀ cfg h,af md (K prim (d+4)) cfg 72 [rl X.p.t] h=some (il X.C,h))(k6:∀ cfg h,af md (K prim (d+5)) cfg 72 [rl X.p.t] h=some (il X.C,h))(k7:∀ cfg h,af md (K prim (d+6)) cfg 72 [rl X.p.t] h=some (il X.C,h))
  (g9:X.p.s.length<=2000) (z7:X.sp.length<=4000) (hsb:∀ s∈X.p.s,0<=s.f/\s.f<=2000/\0<=s.t/\s.t<=2000) (hLv:∀ cfg h (t:List Int),t.length<=2000->af md (K prim (d+5)) cfg 236 [rl t,.int .i64 X.p.b] h=some (il (X.lv t X.p.b),h)) (H:Heap) (cfg:Cfg) (k0:cfg.lo<=H.length) (hm:cfg.thr<=H.length):
  ∃ r h2,af md (K prim (d+7)) cfg 106 [.agg (cY X.p),.lst (X.fs.map aG)] H=some (r,h2) /\
   ∃ B0 sv kv,r=.ptr (B0.length+1) 0/\Hp h2 (B0++[some (X.bd.map V.bool),some (txC X (.sl B0.length 0 (X.p.t.length+1) (X.p.t.length+1) 1) sv kv (H.length+2) (H.length+3) (H.length+4))]) [(4,kv,X.secs.flatMap X.sec),(1,sv,X.sp.map (V.int .i64))] /\
    B0.length=H.length+6/\B0.take H.length=H/\ab B0 (H.length+2)=some (X.bd.map V.bool)/\B0[H.length+3]?=some (wB [])/\B0[H.length+4]?=some (uB []):=by
 refine tD rfl (hp 106 (by decide)) Tryz.func106 rfl rfl rfl ?_;have hB:=fun cfg h=>Ir (prim:=prim) d hp X.p.t ht X.C hu.2 hu.1 hC cfg h;have hP:=fun H cfg k0 hm=>GD (prim:=prim) d hp X.p.t ht X.C hu.2 hu.1 k6 H cfg k0 hm;obtain⟨k8,k1,s0,s1,s2,s3,s4,l5,t5⟩:=pslP X.p;simp(disch:=omega)[k8,k1,s0];have k9:∃ B0:Heap,af md (K prim (d+6)) ⟨H.length+1,[],H.length+1⟩ 168 [rl X.p.t] (H++[some (cY X.p)])=some (.agg (prC X.p.t (eM X.p.t) (.sl (H.length+2) 0 (X.p.t.length+1) (X.p.t.length+1) 1) (H.length+3) (H.length+4)),B0) /\
   B0.length=H.length+6/\B0.take H.length=H/\ab B0 H.length=some (cY X.p)/\ab B0 (H.length+2)=some (X.bd.map V.bool)/\B0[H.length+3]?=some (wB [])/\B0[H.length+4]?=some (uB []):=by
  have h1:=hP (H++[some (cY X.p)]) ⟨H.length+1,[],H.length+1⟩ (by simp) (by simp);rw[Ln,LZ]at h1;have w7:isMap (List.map V.bool (mkS (X.p.t.length+1) X.C))=false:=fL;exact⟨_,h1,by simp,by simp,by simp[ab,k1],by simp[ab,w7,Txt.bd],by simp,by simp⟩
 clear hP;obtain⟨B0,hP,hF,hH,w8,hK,hL,hM⟩:=k9;refine ai 12 (by kernel_rfl) ?_;have mB:md 167=0:=rfl;have mC:md 72=0:=rfl;have mP:md 168=2:=rfl;have z8:=hm;have w9:∀ b,(V.mref b).leaf=true:=fun _=>rfl;simp only[cY,prC]at hP;simp(disch:=omega)[hB,k7,hP,mB,mC,mP,nP,wrap64,cY,w9,-List.map_replicate];have hO:∀ l:List Bool,isMap (l.map V.bool)=false:=fun l=>fL;refine ah (fun m fr Hc=>∃ (i:Nat),i<=X.C.length/\m=X.C.length-i/\Hc=B0++[some ((mkS (X.p.t.length+1) (X.C.take i)).map V.bool),some (txC X (.sl B0.length 0 (X.p.t.length+1) (X.p.t.length+1) 1) .nils .nils (H.length+2) (H.length+3) (H.length+4))] /\
  Slots 131 [(2,.ptr H.length 0),(5,rl X.p.t),(6,.ptr (B0.length+1) 0),(34,il X.C),(35,.int .i64 X.C.length),(36,.int .i64 i)] fr) (m:=X.C.length) (by omega) ⟨0,by omega,by omega,by simp[txC,cY,prC,hX,mkS],by simp⟩ ?_
 rintro m fr Hc ⟨i,hi,rfl,rfl,hs⟩;obtain⟨j,rfl⟩:=hs.ex;clear hs;have k2:=mo (n:=X.p.t.length+1) (X.C.take i);have hE:∀ k,(Cfg.wr cfg (B0.length+k))=true:=fun k=>bH (by omega);have hQ:(Cfg.wr cfg B0.length)=true:=bH (by omega);by_cases hn:i<X.C.length
 ·have hI:(i:Int)<X.C.length:=by omega
  obtain⟨x,hx⟩:=atG hn;have z9:=hu.2 x (K6 hx);have g9:mkS (X.p.t.length+1) (X.C.take (i+1))=(mkS (X.p.t.length+1) (X.C.take i)).set x.toNat true:=by rw[LD,hx];exact qL
  obtain⟨q,rfl⟩:∃ q:Nat,x=q:=⟨x.toNat,by omega⟩;have q1:q+1<=X.p.t.length+1:=by omega
  obtain⟨x0,x1,x2,x3,x4,x5,x6,x7,x8,x9,x15,xl,xm⟩:=da X (.sl B0.length 0 (X.p.t.length+1) (X.p.t.length+1) 1) .nils .nils (H.length+2) (H.length+3) (H.length+4);generalize txC X (.sl B0.length 0 (X.p.t.length+1) (X.p.t.length+1) 1) .nils .nils (H.length+2) (H.length+3) (H.length+4)=T at *;generalize mkS (X.p.t.length+1) (X.C.take i)=bd1 at *;simp(disch:=omega)[hI,hx,x8,xm,q1,hQ,k2,setB,hO,wrap64,-getElem?_pos,-List.map_set];refine ae (m':=X.C.length-(i+1)) (by omega) ⟨i+1,by omega,by omega,by rw[g9];simp,by simp(disch:=omega)⟩
 obtain rfl:i=X.C.length:=by omega
 rw[LF];clear k2;have z0:∀ {Hc Z:Heap} {os:List Own},Hp Hc (B0++Z) os->ab Hc H.length=some (cY X.p):=fun h=>by rw[h.block (by simp;omega),aj (by omega)];exact w8
 have g0:Hp (B0++[some ((mkS (X.p.t.length+1) X.C).map V.bool),some (txC X (.sl B0.length 0 (X.p.t.length+1) (X.p.t.length+1) 1) .nils .nils (H.length+2) (H.length+3) (H.length+4))]) _ []:=Hp.start;have g1:=g0.nil 1;have hv:=z0 g0;clear g0;simp(disch:=omega)[hv,s1];refine ah (fun m fr Hc=>∃ (i:Nat) (sv:V),i<=X.p.s.length/\m=X.p.s.length-i/\Hp Hc (B0++[some ((mkS (X.p.t.length+1) X.C).map V.bool),some (txC X (.sl B0.length 0 (X.p.t.length+1) (X.p.t.length+1) 1) sv .nils (H.length+2) (H.length+3) (H.length+4))]) [(1,sv,(spI 0 (X.p.s.take i)).map (V.int .i64))] /\
  Slots 131 [(5,rl X.p.t),(6,.ptr (B0.length+1) 0),(48,.lst (X.p.s.map aR)),(49,.int .i64 X.p.s.length),(50,.int .i64 i)] fr) (m:=X.p.s.length) (by omega) ⟨0,.nils,by omega,by omega,g1,by simp⟩ ?_
 clear g1 hv;rintro m fr Hc ⟨i,sv,hi,rfl,h4,hs⟩;obtain⟨j,rfl⟩:=hs.ex;clear hs;by_cases hn:i<X.p.s.length
 ·have hI:(i:Int)<X.p.s.length:=by omega
  obtain⟨s,hs⟩:=atG hn;have z1:=hsb s (K6 hs);have hR:spI 0 (X.p.s.take (i+1))=spI 0 (X.p.s.take i)++List.replicate (s.t-s.f).toNat (i:Int):=by
   rw[LD,hs];have:=xe (l:=X.p.s.take i) (i:=0) (s:=s);rw[L6,MD (by omega),LU]at this;exact this
  have hy:(aR s).length=4:=rfl;have hT:List.take 4 (aR s)=aR s:=rfl;have hY:(∀ x∈aR s,x.leaf=true)=True:=eq_true (by simp[aR]);have hz:isMap (aR s)=false:=rfl;have hle:=h4.le;simp only[Ln,Lp,L3]at hle;have k3:cfg.wr Hc.length=true:=bH (by omega);have k4:cfg.thr<=Hc.length:=by omega
  have z2:putAt [V.int .i64 0,.int .i64 0,.int .i64 0,.int .i64 0] 0 (aR s)=aR s:=rfl;have q0:slot (aR s) 0=some (.int .i64 s.f):=rfl;have q1:slot (aR s) 1=some (.int .i64 s.t):=rfl;simp(disch:=omega)[hI,hs,hy,hT,hY,hz,k3,k4,z2,q0,-getElem?_pos];have g1:=(h4.new (cs:=aR s) (n:=1) (k:=4) hz hy []).swap;generalize hZ:Hc.length=sb at *;generalize Hc++[some (aR s)]=Hd at *;have g5:=xc (l:=X.p.s) (s:=s) (i:=i) (j:=0) hs;rw[show (spI 0 X.p.s).length=X.sp.length from rfl]at g5;refine ah (fun m fr Hc=>∃ (c:Nat) (sv:V),c<=(s.t-s.f).toNat/\m=(s.t-s.f).toNat-c/\Hp Hc (B0++[some ((mkS (X.p.t.length+1) X.C).map V.bool),some (txC X (.sl B0.length 0 (X.p.t.length+1) (X.p.t.length+1) 1) sv .nils (H.length+2) (H.length+3) (H.length+4))]) [(1,sv,(spI 0 (X.p.s.take i)++List.replicate c (i:Int)).map (V.int .i64)),(4,.sl sb 0 1 1 4,aR s)] /\
   Slots 131 [(5,rl X.p.t),(6,.ptr (B0.length+1) 0),(9,.int .i64 i),(10,.ptr sb 0),(11,.int .i64 (s.f+c)),(48,.lst (X.p.s.map aR)),(49,.int .i64 X.p.s.length),(50,.int .i64 i)] fr) (m:=(s.t-s.f).toNat) (by omega) ⟨0,sv,by omega,by omega,by simpa using g1,by simp⟩ ?_
  clear g1 k3 k4 hle hZ;rintro m fr Hc ⟨c,sv,hc,rfl,h4,k5⟩;obtain⟨j,rfl⟩:=k5.ex;clear k5;obtain⟨g1,g2,g3,g4⟩:=h4.snd.at;have hA:ab Hc sb=some (aR s):=g3;by_cases hlc:c<(s.t-s.f).toNat
  ·have hJ:s.f+(c:Int)<s.t:=by omega
   obtain⟨x0,x1,x2,x3,x4,x5,x6,x7,x8,x9,x15,xl,xm⟩:=da X (.sl B0.length 0 (X.p.t.length+1) (X.p.t.length+1) 1) sv .nils (H.length+2) (H.length+3) (H.length+4);have hj:ab Hc (B0.length+1)=some (txC X (.sl B0.length 0 (X.p.t.length+1) (X.p.t.length+1) 1) sv .nils (H.length+2) (H.length+3) (H.length+4)):=by rw[h4.block (by simp)];simp[ab,xm]
   simp(disch:=omega)[hJ,hA,q1,hj,x9,-getElem?_pos];refine cg (m:=1) (h4.push _) (by simp;omega) rfl rfl (by omega) (by omega) (by simp;omega) (by simp;omega) ?_;intro sv' H' hh;have h9:ab H' (B0.length+1)=some (txC X (.sl B0.length 0 (X.p.t.length+1) (X.p.t.length+1) 1) sv .nils (H.length+2) (H.length+3) (H.length+4)):=by rw[hh.block (by simp)];simp[ab,xm]
   obtain⟨hq,g6⟩:=ia hh.head;have ha:cfg.thr<=B0.length+1:=by omega
   simp(disch:=omega)[h9,xl,hE,JW,hq,ha];have hd:=hh.set (b:=B0.length+1) (by simp) (some (txC X (.sl B0.length 0 (X.p.t.length+1) (X.p.t.length+1) 1) sv' .nils (H.length+2) (H.length+3) (H.length+4)));rw[kx]at hd;have hw:IntKind.i64.wrap (s.f+(c:Int)+1)=s.f+((c+1:Nat):Int):=by rw[wrap64 (by omega) (by omega)];omega
   rw[hw];exact ae (m':=(s.t-s.f).toNat-(c+1)) (by omega) ⟨c+1,sv',by omega,by omega,by simpa[Mx]using hd,by simp(disch:=omega)⟩
  ·have hJ:¬ (s.f+(c:Int)<s.t):=by omega
   have z3:c=(s.t-s.f).toNat:=by omega
   simp(disch:=omega)[hJ,hA,q1,wrap64,-getElem?_pos];exact ae (m':=X.p.s.length-(i+1)) (by omega) ⟨i+1,sv,by omega,by omega,by rw[hR,<- z3];exact h4.drop ((Nr _).cons_cons _),by simp(disch:=omega)⟩
 obtain rfl:i=X.p.s.length:=by omega
 have hI:¬ ((X.p.s.length:Int)<X.p.s.length):=by omega
 rw[LF]at h4;obtain⟨x0,x1,x2,x3,x4,x5,x6,x7,x8,x9,x15,xl,xm⟩:=da X (.sl B0.length 0 (X.p.t.length+1) (X.p.t.length+1) 1) sv .nils (H.length+2) (H.length+3) (H.length+4);have hj:ab Hc (B0.length+1)=some (txC X (.sl B0.length 0 (X.p.t.length+1) (X.p.t.length+1) 1) sv .nils (H.length+2) (H.length+3) (H.length+4)):=by rw[h4.block (by simp)];simp[ab,xm]
 have g7:X.B.length=X.p.t.length:=by rw[hX,pP]
 simp(disch:=omega)[hI,hj,x6];refine ah (fun m fr Hc=>∃ (i f:Nat) (kv:V) (sc:List (Nat×Nat)),i<=X.B.length/\m=X.B.length-i/\f<=i/\sc.length<=i/\mT 0 0 X.B=sc++mT f i (X.B.drop i)/\Hp Hc (B0++[some ((mkS (X.p.t.length+1) X.C).map V.bool),some (txC X (.sl B0.length 0 (X.p.t.length+1) (X.p.t.length+1) 1) sv kv (H.length+2) (H.length+3) (H.length+4))]) [(4,kv,sc.flatMap X.sec),(1,sv,X.sp.map (V.int .i64))] /\
  Slots 131 [(5,rl X.p.t),(6,.ptr (B0.length+1) 0),(12,.int .i64 f),(77,il X.B),(78,.int .i64 X.B.length),(79,.int .i64 i)] fr) (m:=X.B.length) (by omega) ⟨0,0,.nils,[],by omega,by omega,by omega,by simp,by simp,h4.nil 4,by simp⟩ ?_
 clear h4 hj x0 x1 x2 x3 x4 x5 x6 x7 x8 x9 x15 xl xm;rintro m fr Hc ⟨i,f,kv,sc,hi2,rfl,hfi,z4,h6,h4,hs⟩;obtain⟨j,rfl⟩:=hs.ex;clear hs;obtain⟨x0,x1,x2,x3,x4,x5,x6,x7,x8,x9,x15,xl,xm⟩:=da X (.sl B0.length 0 (X.p.t.length+1) (X.p.t.length+1) 1) sv kv (H.length+2) (H.length+3) (H.length+4);have hj:ab Hc (B0.length+1)=some (txC X (.sl B0.length 0 (X.p.t.length+1) (X.p.t.length+1) 1) sv kv (H.length+2) (H.length+3) (H.length+4)):=by rw[h4.block (by simp)];simp[ab,xm]
 have hu:B0.length+2<=Hc.length:=by have:=h4.le;simpa using this
 have mS:md 169=0:=rfl;by_cases hn:i<X.B.length
 ·have hI:(i:Int)<X.B.length:=by omega
  have hb:=atI hn;rw[Lq hn,mT,show X.B[i]=lgI X.B i by rw[K4 hn]at hb;exact Nf hb]at h6;simp(disch:=omega)[hI,hb,-getElem?_pos];refine ar (fun h2=>?_) (fun h2=>?_)
  ·have h3:lgI X.B i=2:=by simpa using h2
   rw[if_pos h3]at h6;have hS:=fun cfg H2 hD=>yK (prim:=prim) d hp X ht hLv cfg H2 (B0.length+1) (H.length+2) (H.length+3) (H.length+4) (.sl B0.length 0 (X.p.t.length+1) (X.p.t.length+1) 1) sv kv hD (f,i+1) (by simp;omega) (by simp;omega);have eI:(((i+1:Nat)):Int)=(i:Int)+1:=by omega
   simp only[eI]at hS;have h7:(X.sec (f,i+1)).length=4:=rfl;have h8:isMap (X.sec (f,i+1))=false:=rfl;have he:(∀ x∈X.sec (f,i+1),x.leaf=true)=True:=eq_true (by simp[Txt.sec]);rw[dp];refine ai 11 (by kernel_rfl) ?_;have hf:List.take 4 (X.sec (f,i+1))=X.sec (f,i+1):=rfl;have hl:(sc.flatMap X.sec).length=sc.length*4:=cE (f:=X.sec) (n:=4) (fun _=>rfl) sc;simp(disch:=omega)[hj,x15,hS,mS,wrap64,-getElem?_pos,h7,h8,he,hf];refine cg (m:=1) (h4.push _) (by simp;omega) (by rw[h7]) h8 (by omega) (by omega) (by rw[hl];omega) (by rw[hl];omega) ?_;intro kv' H' hh;have h9:ab H' (B0.length+1)=some (txC X (.sl B0.length 0 (X.p.t.length+1) (X.p.t.length+1) 1) sv kv (H.length+2) (H.length+3) (H.length+4)):=by rw[hh.block (by simp)];simp[ab,xm]
   obtain⟨hq,g6⟩:=ia hh.head;have ha:cfg.thr<=B0.length+1:=by omega
   simp(disch:=omega)[h9,xl,hE,zb,hq,ha,wrap64,-getElem?_pos];have hd:=hh.set (b:=B0.length+1) (by simp) (some (txC X (.sl B0.length 0 (X.p.t.length+1) (X.p.t.length+1) 1) sv kv' (H.length+2) (H.length+3) (H.length+4)));rw[kx]at hd;exact ae (m':=X.B.length-(i+1)) (by omega) ⟨i+1,i+1,kv',sc++[(f,i+1)],by omega,by omega,by omega,by simp;omega,by rw[h6];simp,by simpa using hd,by simp(disch:=omega)⟩
  ·have h3:¬ lgI X.B i=2:=by simpa using h2
   rw[if_neg h3]at h6;simp(disch:=omega)[wrap64,-getElem?_pos];exact ae (m':=X.B.length-(i+1)) (by omega) ⟨i+1,f,kv,sc,by omega,by omega,by omega,by omega,h6,h4,by simp(disch:=omega)⟩
 obtain rfl:i=X.B.length:=by omega
 have hI:¬ ((X.B.length:Int)<X.B.length):=by omega
 rw[Mi,mT,Mg]at h6;have hN:=fun cfg h r=>HQ (prim:=prim) (d+2) hp cfg h r;by_cases h0:X.p.t=[]
 ·have hr:X.p.t.length=0\/nlS (lgI X.p.t (X.p.t.length-1))=true:=.inl (by rw[h0];rfl);have hIl:X.B.length=0:=by rw[g7,h0];rfl
  have g8:(X.p.t=[])=True:=eq_true h0;simp(disch:=omega)[hI,g8];have hS:=fun cfg H2 hD=>yK (prim:=prim) d hp X ht hLv cfg H2 (B0.length+1) (H.length+2) (H.length+3) (H.length+4) (.sl B0.length 0 (X.p.t.length+1) (X.p.t.length+1) 1) sv kv hD (X.p.t.length,X.p.t.length) (by simp) (by simp);have h7:(X.sec (X.p.t.length,X.p.t.length)).length=4:=rfl;have h8:isMap (X.sec (X.p.t.length,X.p.t.length))=false:=rfl;have he:(∀ x∈X.sec (X.p.t.length,X.p.t.length),x.leaf=true)=True:=eq_true (by simp[Txt.sec]);have hf:List.take 4 (X.sec (X.p.t.length,X.p.t.length))=X.sec (X.p.t.length,X.p.t.length):=rfl;have hl:(sc.flatMap X.sec).length=sc.length*4:=cE (f:=X.sec) (n:=4) (fun _=>rfl) sc;refine ai 12 (by kernel_rfl) ?_;simp(disch:=omega)[hj,x15,hS,mS,-getElem?_pos,h7,h8,he,hf];refine cg (m:=1) (h4.push _) (by simp;omega) (by rw[h7]) h8 (by omega) (by omega) (by rw[hl];omega) (by rw[hl];omega) ?_;intro kv' H' hh;have h9:ab H' (B0.length+1)=some (txC X (.sl B0.length 0 (X.p.t.length+1) (X.p.t.length+1) 1) sv kv (H.length+2) (H.length+3) (H.length+4)):=by rw[hh.block (by simp)];simp[ab,xm]
  obtain⟨hq,g6⟩:=ia hh.head;have ha:cfg.thr<=B0.length+1:=by omega
  have hd:=hh.set (b:=B0.length+1) (by simp) (some (txC X (.sl B0.length 0 (X.p.t.length+1) (X.p.t.length+1) 1) sv kv' (H.length+2) (H.length+3) (H.length+4)));rw[kx]at hd;have hg:X.secs=sc++[(X.p.t.length,X.p.t.length)]:=by
   unfold Txt.secs;rw[if_pos hr,h6]
  simp(disch:=omega)[h9,xl,hE,zb,hq,ha,-getElem?_pos];exact⟨B0,rfl,⟨sv,kv',by rw[hg];simpa[Txt.bd]using hd⟩,hF,hH,hK,hL,hM⟩
 obtain⟨w,hw⟩:∃ w,X.p.t.length=w+1:=⟨X.p.t.length-1,by have:=LW.2 h0;omega⟩;have z5:(X.p.t.length:Int)-1=w:=by omega
 have z6:X.p.t[w]?=some (lgI X.p.t (X.p.t.length-1)):=by rw[hw];exact atI (by omega)
 simp(disch:=omega)[hI,h0,hN,z5,z6,wrap64,-getElem?_pos];refine ar (fun hb=>?_) (fun hb=>?_)
 ·have hr:X.p.t.length=0\/nlS (lgI X.p.t (X.p.t.length-1))=true:=.inr hb;have hS:=fun cfg H2 hD=>yK (prim:=prim) d hp X ht hLv cfg H2 (B0.length+1) (H.length+2) (H.length+3) (H.length+4) (.sl B0.length 0 (X.p.t.length+1) (X.p.t.length+1) 1) sv kv hD (X.p.t.length,X.p.t.length) (by simp) (by simp);have h7:(X.sec (X.p.t.length,X.p.t.length)).length=4:=rfl;have h8:isMap (X.sec (X.p.t.length,X.p.t.length))=false:=rfl;have he:(∀ x∈X.sec (X.p.t.length,X.p.t.length),x.leaf=true)=True:=eq_true (by simp[Txt.sec]);have hf:List.take 4 (X.sec (X.p.t.length,X.p.t.length))=X.sec (X.p.t.length,X.p.t.length):=rfl;have hl:(sc.flatMap X.sec).length=sc.length*4:=cE (f:=X.sec) (n:=4) (fun _=>rfl) sc;refine ai 12 (by kernel_rfl) ?_;simp(disch:=omega)[hj,x15,hS,mS,-getElem?_pos,h7,h8,he,hf];refine cg (m:=1) (h4.push _) (by simp;omega) (by rw[h7]) h8 (by omega) (by omega) (by rw[hl];omega) (by rw[hl];omega) ?_;intro kv' H' hh;have h9:ab H' (B0.length+1)=some (txC X (.sl B0.length 0 (X.p.t.length+1) (X.p.t.length+1) 1) sv kv (H.length+2) (H.length+3) (H.length+4)):=by rw[hh.block (by simp)];simp[ab,xm]
  obtain⟨hq,g6⟩:=ia hh.head;have ha:cfg.thr<=B0.length+1:=by omega
  have hd:=hh.set (b:=B0.length+1) (by simp) (some (txC X (.sl B0.length 0 (X.p.t.length+1) (X.p.t.length+1) 1) sv kv' (H.length+2) (H.length+3) (H.length+4)));rw[kx]at hd;have hg:X.secs=sc++[(X.p.t.length,X.p.t.length)]:=by
   unfold Txt.secs;rw[if_pos hr,h6]
  simp(disch:=omega)[h9,xl,hE,zb,hq,ha,-getElem?_pos];exact⟨B0,rfl,⟨sv,kv',by rw[hg];simpa[Txt.bd]using hd⟩,hF,hH,hK,hL,hM⟩
 ·have hg:X.secs=sc:=by
   unfold Txt.secs;rw[if_neg (by rintro (h|h);omega;rw[hb]at h;cases h),h6,Mg]
  simp(disch:=omega);exact⟨B0,rfl,⟨sv,kv,by rw[hg];exact h4⟩,hF,hH,hK,hL,hM⟩
end
end Bi
end Go.Ab
