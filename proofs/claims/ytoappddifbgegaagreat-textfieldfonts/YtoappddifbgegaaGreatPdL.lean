/- The law TextfieldFonts: its own modes and parts; Layout of a valid buffer; the law walked. -/
import Derived.Test.YtoappddifbgegaaGreatPbE
set_option linter.all false
set_option maxHeartbeats 16000000
set_option maxRecDepth 100000
namespace Go.Ab
open Go.Proofs
open Aw (hfol hnam)
namespace Bi
attribute [local congr] az
def mdF(f:FuncId):Nat:=if f=61 then 0 else md f
noncomputable def kF(f:FuncId):Prim:=fun cfg args h=>aH Tryz.prog md pZ 10000 60 cfg f args h
def lawF:List FuncId:=[14,15,19,22,23,6,29,61,62,63,25,26,20,13]
noncomputable def pF(f:FuncId):Option Prim:=if lawF.contains f then some (kF f) else none
theorem pF_ok:∀ f p,pF f=some p->bw Tryz.prog f p:=by
 intro f p h;unfold pF at h;split at h
 ·cases h;exact fun _ _ _ _ _ hx=>dx hfol hnam pZ_ok 60 _ _ _ _ _ _ hx
 ·cases h
noncomputable abbrev KF(d:Nat):aF:=aH Tryz.prog mdF pF 10000 d
theorem Hb{f:FuncId}(hf:lawF.contains f=true)(d:Nat)(cfg:Cfg)(args:List V)(h:Heap):KF (d+1) cfg f args h=K pZ 60 cfg f args h:=by
 have:pF f=some (kF f):=by simp only[pF,hf,if_true]
 exact gb this cfg args h
theorem toF{f:FuncId}(hf:lawF.contains f=true)(hm:mdF f=md f)(d:Nat)(cfg:Cfg)(args:List V)(h:Heap):af mdF (KF (d+1)) cfg f args h=af md (K pZ 60) cfg f args h:=by
 simp only[af,hm,Hb hf]
theorem clnF(d:Nat)(t:List Int)(ht:t.length<=2000)(cfg:Cfg)(h:Heap):af mdF (KF (d+1)) cfg 61 [rl t] h=some (rl t,h):=by
 have h1:=A1 (prim:=pZ) 59 JA t ht ⟨0,[],0⟩ [] (La _);have hm:md 61=2:=rfl;have h3:mdF 61=0:=rfl;simp only[af,hm]at h1;have hn:[rl t].all V.noref=true:=by simp
 simp only[af,h3,hn,if_true,Hb (f:=61) rfl,h1];by_cases h0:t=[]
 ·subst h0;rfl
 ·rw[if_neg h0];simp only[];rw[cK (n:=0) (d:=4) (k:=.i32) (l:=t) (by simp[ab,gk]) (LA _) rfl]
def fs2:List Fnt:=[⟨16,12,4,0,16,[],[],[]⟩,⟨16,12,4,0,20,[],[],[]⟩]
def edB(t:List Int)(r:List (Int×Int)):List V:=[rl t,ml r,.int .i64 0,.int .i64 0,.bool false,.bool false,.int .i64 0,.int .i64 0,.nils,.nils,.int .i64 0,.int .i64 0,.nils,.nils,.nils,.bool false,.int .i64 0,.int .i64 0,.int .i64 0]
structure SpO(t:List Int)(r:List (Int×Int))(s:List Spn):Prop where
 c:(t.length=0/\∃ x,s=[x]/\x.f=0/\x.t=0)\/(t.length≠0/\Cov 0 t.length s)
 p:∀ x∈s,(x.n=0\/x.n=1)/\x.z=10/\0<=x.f/\x.t<=t.length/\∀ k:Nat,x.f<=k->k<x.t->∃ m,(iq r)[k]?=some m/\x.n=m%2
 n:s.length<=t.length+1
theorem Er{r:List (Int×Int)}(hR:uJ r){k:Nat}{q:Int}(h:(iq r)[k]?=some q):0<=q/\q<=15:=by
 obtain⟨x,hx,hq⟩:=M8.1 (K6 h);rw[Oq hq];exact (hR x hx).2
theorem Ea{m:List Int}(hm:∀ x∈m,0<=x/\x<=15):uJ (du m):=fun x hx=>by
 have g:=gok m;have:=hm _ (g.mem x hx);exact⟨g.pos x hx,by omega,by omega⟩
theorem EX{t m:List Int}(ht:t.length<=16)(h0:t.all fy=true)(h3:m.length=t.length)(hm:∀ x∈m,0<=x/\x<=15):iy t (du m)=0:=by
 have g:=gok m;have hb:=Im (Ea hm) (by rw[g.sum];omega);unfold iy;rw[if_neg (by omega),if_neg (by rw[h0];simp),if_neg (by rw[hb];simp),if_neg (by rw[g.sum];omega),if_neg (by rw[g.al];simp)]
theorem JS(d:Nat)(cfg:Cfg)(h:Heap):af md (K pZ (d+1)) cfg 62 [.agg [rl [],ml []],.agg cfP] h=some (.lst ([⟨0,0,0,10⟩].map aR),h):=by kernel_rfl
theorem JT{t m:List Int}(ht:t.length<=16)(h4:m.length=t.length)(hm:∀ x∈m,0<=x/\x<=15):
  ∃ s,SpO t (du m) s/\∀ cfg h,af md (K pZ 60) cfg 62 [.agg [rl t,ml (du m)],.agg cfP] h=some (.lst (s.map aR),h):=by
 by_cases h0:t=[]
 ·subst h0;obtain rfl:=LH.1 h4;exact⟨[⟨0,0,0,10⟩],⟨.inl ⟨rfl,_,rfl,rfl,rfl⟩,fun x hx=>by
   obtain rfl:=LN.1 hx;exact⟨.inl rfl,rfl,Oj _,Oj _,fun k h1 h2=>by have h3:(k:Int)<0:=h2;omega⟩,by simp⟩,JS 59⟩
 ·have g:=gok m;have hlen:t.length≠0:=fun e=>h0 (LH.1 e);have h7:=g.len;have h6:=g.sum;obtain⟨v,⟨s,l,rfl,hS⟩,hc⟩:=Ep (prim:=pZ) 59 dS t (du m) h0 (Ea hm) (by omega) (by omega);rw[h6,h4]at hS;refine⟨s,⟨.inr ⟨hlen,hS.c⟩,hS.p,by have:=hS.n;omega⟩,hc⟩
theorem Je{t m:List Int}(ht:t.length<=16)(h3:t.all fy=true)(h0:m.length=t.length)(hm:∀ x∈m,0<=x/\x<=15):
  ∃ (s:List Spn) (Ls:List jl),SpO t (du m) s/\Ls≠[]/\∀ d cfg h,af mdF (KF (d+2)) cfg 24 [.agg (edB t (du m)),.agg cfP,.lst (fs2.map aG)] h=some (.tup [.agg (cY ⟨t,s,0,0,1000⟩),.lst (Ls.map fu),.int .i64 0],h):=by
 obtain⟨s,hS,h4⟩:=JT ht h0 hm;have hP:Cl ⟨t,s,0,0,1000⟩ 16 fs2.length:=by
  refine⟨ht,by simp,by simp,by simp,fun x hx=>?_,?_,by have:=hS.n;show s.length<=_;omega⟩
  ·obtain⟨q1,q2,_⟩:=hS.p x hx;show 0<=x.n/\x.n<2/\_;omega
  ·rcases hS.c with⟨h1,h2⟩|⟨h1,h2⟩
   ·exact .inl ⟨LH.1 h1,h2⟩
   ·exact .inr ⟨fun e=>h1 (by rw[show t=[] from e];rfl),h2⟩
 have hF:∀ f∈fs2,zf f:=by
  intro f hf;simp only[fs2,Lt,MB,or_false]at hf;rcases hf with rfl|rfl<;>exact⟨by decide,by decide,by decide,by decide,by decide,by simp,by simp,by simp,by simp,by simp,by simp,by simp,by simp,by simp⟩
 obtain⟨X,h6,h7,C⟩:=IB hP (by omega) (by decide) (by decide) hF;refine⟨s,X.linA X.secs 0,hS,(C.hV.chn C.h5).2,fun d cfg h=>?_⟩;have hL:=fun (cfg:Cfg) (h:Heap)=>(toF (f:=63) rfl rfl d cfg [.agg (cY X.p),.lst (X.fs.map aG)] h).trans (C.lines 43 cfg h);rw[h6,h7]at hL;have hV:∀ cfg h,af mdF (KF (d+1)) cfg 6 [.agg cfP,.lst (fs2.map aG)] h=some (.int .i64 0,h):=fun cfg h=>(toF (f:=6) rfl rfl d _ _ _).trans (by kernel_rfl);have hB:∀ cfg h,af mdF (KF (d+1)) cfg 29 [.agg [rl t,ml (du m)]] h=some (.int .i64 0,h):=fun cfg h=>(toF (f:=29) rfl rfl d _ _ _).trans (by
  have:=xk (prim:=pZ) 57 cfg h (dS _ (by decide)) (dS _ (by decide)) (dS _ (by decide)) (dS _ (by decide)) t (du m) (by omega) (by have:=(gok m).len;omega);rw[EX ht h3 h0 hm]at this;exact this)
 have hC:=fun (cfg:Cfg) (h:Heap)=>clnF d t (by omega) cfg h;have hQ:∀ cfg h,af mdF (KF (d+1)) cfg 62 [.agg [rl t,ml (du m)],.agg cfP] h=some (.lst (s.map aR),h):=fun cfg h=>(toF (f:=62) rfl rfl d _ _ _).trans (h4 cfg h);have h8:mdF 61=0:=rfl;have h9:mdF 62=0:=rfl;refine aP rfl rfl Tryz.func24 rfl rfl rfl (by simp[edB,cfP,fs2,aG]) ?_;generalize fs2.map aG=F at *;simp only[cfP,cY]at hV hQ hL;simp[edB,cfP,hV,hB];refine ai 16 (by kernel_rfl) ?_;simp[h8,h9,hC,hQ,hL];rfl
theorem fonts_law(d:Nat)(l:List Int):∃ v h',aH Tryz.prog mdF pF 10000 (d+4) ⟨0,[],0⟩ 5 [il l] []=some (v,h')/\v=.bool true:=by
 refine cn (R:=fun r _=>r=.bool true) rfl Tryz.func5 rfl rfl rfl ?_;have hN:∀ cfg h l,af mdF (KF (d+3)) cfg 14 [il l] h=some (.ptr h.length 0,h++[some [il (l.take 4000),.int .i64 0]]):=fun cfg h l =>
  (toF (f:=14) rfl rfl _ _ _ _).trans (Jk (prim:=pZ) (d:=59) (cfg:=cfg) (h:=h) (dS _ (by decide)) l)
 have h9:∀ cfg h,af mdF (KF (d+3)) cfg 15 [] h=some (.agg cfP,h):=fun cfg h =>
  (toF (f:=15) rfl rfl _ _ _ _).trans (by kernel_rfl)
 have ha:∀ cfg h,af mdF (KF (d+3)) cfg 19 [] h=some (.lst (fs2.map aG),h):=fun cfg h =>
  (toF (f:=19) rfl rfl _ _ _ _).trans (by kernel_rfl)
 have hc:∀ cfg h,af mdF (KF (d+3)) cfg 23 [.agg (aG ⟨16,12,4,0,16,[],[],[]⟩)] h=some (.int .i64 0,h):=fun cfg h =>
  (toF (f:=23) rfl rfl _ _ _ _).trans (by kernel_rfl)
 have hA:∀ cfg h,af mdF (KF (d+3)) cfg 13 [] h=some (.bool true,h):=fun cfg h =>
  (toF (f:=13) rfl rfl _ _ _ _).trans (Il 59 cfg h)
 have hL:(l.take 4000).length<=4000:=by simp;omega
 simp(disch:=omega)[hN,h9,ha,cfP];generalize l.take 4000=L at *;have r0:Rd [some [il L,.int .i64 0],some cfP] 0 L 0:=⟨rfl,by omega⟩;obtain⟨t,m,k1,ht,hd,he,h3,hj,hf⟩:=It (prim:=pZ) 54 ⟨0,[],0⟩ _ dS L 0 hL 0 r0 (bH (by simp)) (by simp) 16 (by omega);have hB:=(toF (f:=22) rfl rfl (d+2) _ _ _).trans hf;have e16:((16:Nat):Int)=16:=rfl;rw[e16]at hB;simp only[hk,Nz,cfP]at hB;obtain⟨s,Ls,hS,hg,h0⟩:=Je ht hd he h3;have h0:=fun cfg h=>h0 (d+1) cfg h;simp only[edB,cfP,cY]at h0;have h4:(fs2.map aG)[0]?=some (aG ⟨16,12,4,0,16,[],[],[]⟩):=rfl;have hm:(aG ⟨16,12,4,0,16,[],[],[]⟩).length=8:=rfl;have hq:(aG ⟨16,12,4,0,16,[],[],[]⟩).take 8=aG ⟨16,12,4,0,16,[],[],[]⟩:=rfl;generalize aG ⟨16,12,4,0,16,[],[],[]⟩=F0 at *;generalize fs2.map aG=F at *;have hn:=hS.n;have hr:∀ cfg h,af mdF (KF (d+3)) cfg 25 [.lst (s.map aR),.int .i64 t.length] h=some (.bool true,h):=fun cfg h =>
  (toF (f:=25) rfl rfl _ _ _ _).trans (IA (prim:=pZ) 59 cfg h dS s (by omega) t.length (by omega) hS.c)
 have hu:∀ cfg h,af mdF (KF (d+3)) cfg 20 [rl t,rl t] h=some (.bool true,h):=fun cfg h =>
  (toF (f:=20) rfl rfl _ _ _ _).trans (GO (prim:=pZ) 59 dS t (by omega) cfg h)
 have hD:=LW.2 hg;simp(disch:=omega)[hB,h4,hm,hq,hc,h0,hg,hr];clear hB h0 hc hN h9 ha hf;have hR:=Ea h3;have g:=gok m;have hE:=g.sum;have hF:=g.len;have hv:∀ (k:Nat) (q:Int),k<t.length->(iq (du m))[k]?=some q->∀ cfg h,af mdF (KF (d+3)) cfg 26 [.agg [rl t,ml (du m)],.int .i64 k] h=some (.int .i64 q,h):=fun k q h1 h2 cfg h =>
  (toF (f:=26) rfl rfl _ _ _ _).trans (DG (prim:=pZ) 56 cfg h dS t (du m) (by omega) (by omega) hR (by omega) (EX ht hd he h3) k h1 h2)
 generalize du m=r at *;refine ah (fun mm fr H=>∃ i:Nat,i<=s.length/\mm=s.length-i/\H=[some [il L,V.int .i64 k1],some [.bool false,.bool false,.int .i64 100,.int .i64 0,.int .i64 1,.int .i64 10,.int .i64 1000,.int .i64 0,.int .i64 0],some [rl t,ml r],some [rl t,.lst (s.map aR),.int .i64 0,.int .i64 0,.int .i64 1000]] /\
  Slots 114 [(4,.ptr 1 0),(6,.ptr 2 0),(7,.ptr 3 0),(10,.int .i64 i)] fr) (m:=s.length) (by omega) ⟨0,by omega,by omega,rfl,by simp⟩ ?_
 rintro mm fr H ⟨i,hi,rfl,rfl,hs⟩;obtain⟨j,rfl⟩:=hs.ex;clear hs;by_cases hw:i<s.length
 ·have hI:(i:Int)<s.length:=by omega
  obtain⟨x,hx⟩:∃ x,s[i]?=some x:=⟨_,K4 hw⟩;obtain⟨q1,q2,q3,q4,q5⟩:=hS.p x (K6 hx);obtain⟨f0,h4⟩:=ND q3;simp(disch:=omega)[hI,hx,aR,h4,-getElem?_pos];refine ah (fun mm fr H=>∃ k:Nat,f0<=k/\((k:Int)<=x.t\/k=f0)/\mm=x.t.toNat-k/\H=[some [il L,V.int .i64 k1],some [.bool false,.bool false,.int .i64 100,.int .i64 0,.int .i64 1,.int .i64 10,.int .i64 1000,.int .i64 0,.int .i64 0],some [rl t,ml r],some [rl t,.lst (s.map aR),.int .i64 0,.int .i64 0,.int .i64 1000]] /\
   Slots 114 [(4,.ptr 1 0),(6,.ptr 2 0),(7,.ptr 3 0),(10,.int .i64 i),(11,.int .i64 k)] fr) (m:=x.t.toNat-f0) (by omega) ⟨f0,by omega,.inr rfl,rfl,rfl,by simp⟩ ?_
  rintro mm fr H ⟨k,hj,hH,rfl,rfl,hs⟩;obtain⟨j,rfl⟩:=hs.ex;clear hs;by_cases h6:(k:Int)<x.t
  ·obtain⟨mk,hh,hJ⟩:=q5 k (by omega) h6;have hy:k<t.length:=by omega
   have h7:(k:Int)<t.length:=by omega
   have hz:=hv k mk hy hh;obtain⟨b1,b2⟩:=Er hR hh;have hand:=and1 b1 b2;simp(disch:=omega)[hx,aR,h6,h7,hz,hand,-getElem?_pos];refine ai 20 (by kernel_rfl) ?_;rcases q1 with q1|q1
   ·have h8:mk%2=0:=by omega
    simp(disch:=omega)[hx,aR,q1,q2,h8,-getElem?_pos];exact ae (m':=x.t.toNat-(k+1)) (by omega) ⟨k+1,by omega,.inl (by omega),rfl,rfl,by simp(disch:=omega)[wrap64]⟩
   ·have h8:mk%2=1:=by omega
    simp(disch:=omega)[hx,aR,q1,q2,h8,-getElem?_pos];exact ae (m':=x.t.toNat-(k+1)) (by omega) ⟨k+1,by omega,.inl (by omega),rfl,rfl,by simp(disch:=omega)[wrap64]⟩
  ·simp(disch:=omega)[hx,aR,h6,-getElem?_pos];exact ae (m':=s.length-(i+1)) (by omega) ⟨i+1,by omega,rfl,rfl,by simp(disch:=omega)[wrap64]⟩
 ·obtain rfl:i=s.length:=by omega
  have hI:¬ ((s.length:Int)<s.length):=by omega
  simp(disch:=omega)[hI,hu,hA]
end Bi
end Go.Ab
