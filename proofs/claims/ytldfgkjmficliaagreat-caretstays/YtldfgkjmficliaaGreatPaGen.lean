/- The generator: fonts and paragraphs. -/
import Derived.Test.YtldfgkjmficliaaGreatPiGen
set_option linter.all false
set_option maxHeartbeats 8000000
set_option maxRecDepth 100000
namespace Go.Ab
open Go.Proofs
namespace Bi
structure Fnt where
 u:Int
 a:Int
 d:Int
 g:Int
 df:Int
 adv:List (Int×Int×Int)
 ker:List (Int×Int×Int)
 lig:List (Int×Int×Int×Int)
def da(x:Int×Int×Int):List V:=[.int .i32 x.1,.int .i32 x.2.1,.int .i64 x.2.2]
def dL(x:Int×Int×Int×Int):List V:=[.int .i32 x.1,.int .i32 x.2.1,.int .i64 x.2.2.1,.int .i64 x.2.2.2]
def aJ(f:Fnt):List V:=[.int .i64 f.u,.int .i64 f.a,.int .i64 f.d,.int .i64 f.g,.int .i64 f.df,.lst (f.adv.map da),.lst (f.ker.map da),.lst (f.lig.map dL)]
structure pw(f:Fnt):Prop where
 u:16<=f.u/\f.u<=200
 a:1<=f.a/\f.a<=100
 d:0<=f.d/\f.d<40
 g:0<=f.g/\f.g<30
 df:0<=f.df/\f.df<120
 adv:∀ x∈f.adv,0<=x.1/\x.1<=x.2.1/\x.2.1<=1114111/\0<=x.2.2/\x.2.2<200
 advA:f.adv.Pairwise fun x y=>x.2.1<y.1
 advL:f.adv.length<=4
 ker:∀ x∈f.ker,0<=x.1/\x.1<=1114111/\0<=x.2.1/\x.2.1<=1114111/\-60<=x.2.2/\x.2.2<=60
 kerA:f.ker.Pairwise fun x y=>x.1<y.1\/x.1=y.1/\x.2.1<y.2.1
 kerL:f.ker.length<=5
 lig:∀ x∈f.lig,0<=x.1/\x.1<=1114111/\0<=x.2.1/\x.2.1<=1114111/\1114112<=x.2.2.1/\x.2.2.1<=1114120/\0<=x.2.2.2/\x.2.2.2<200
 ligA:f.lig.Pairwise fun x y=>x.1<y.1\/x.1=y.1/\x.2.1<y.2.1
 ligL:f.lig.length<=4
section
variable {prim:FuncId->Option Prim}(d:Nat) (cfg:Cfg) (h:Heap)
theorem BU(hp:∀ f,Np5 f->prim f=none)(L:List Int)(k:Nat)(hL:L.length<=4000)(hk:k<=L.length)(n:Int)(hn:1<=n)(h8:n<=4000000000):
  ∃ v k':Nat,(v:Int)<n/\k'<=L.length/\∀ (cfg:Cfg) (h:Heap) (b:Nat),ab h b=some [il L,.int .i64 k]->cfg.wr b=true->af md (K prim (d+1)) cfg 23 [.ptr b 0,.int .i64 n] h=some (.int .i64 v,h.set b (some [il L,.int .i64 k'])):=by
 have h0:=hp 23 (by decide);by_cases h9:k<L.length
 ·obtain⟨x,hx⟩:∃ x,L[k]=x:=⟨_,rfl⟩;have hr:=Oj x (b:=n) (by omega);have ha:=Ol x (b:=n) (by omega);refine⟨(if x.tmod n<0 then x.tmod n+n else x.tmod n).toNat,k+1,by split<;>omega,by omega,fun cfg h b hb hw=>call1 rfl h0 Tryz.func23 rfl rfl rfl ?_⟩;have h6:(Cfg.wr ⟨cfg.lo,cfg.ex,h.length⟩ b)=true:=hw;have hc:=al hb;simp;refine ah 9 (by kernel_rfl) ?_;have h4:¬ L.length<=k:=by omega
  have h7:¬ n<1:=by omega
  have hd:¬ n=0:=by omega
  simp[hb,h4,h7];refine ah 11 (by kernel_rfl) ?_;simp(disch:=first|omega|(simp;done)|(simp;omega)) [hb,hx,h6,wrap64];by_cases h3:x.tmod n<0
  ·simp(disch:=first|omega|(simp;done)|(simp;omega)) [h3,wrap64];exact⟨by omega,Lu (by simp)⟩
  ·simp(disch:=first|omega|(simp;done)|(simp;omega)) [h3];exact⟨by omega,Lu (by simp)⟩
 ·refine⟨0,k,by omega,hk,fun cfg h b hb hw=>?_⟩;rw[eR hb];refine call1 rfl h0 Tryz.func23 rfl rfl rfl ?_;have h4:L.length<=k:=by omega
  simp;refine ah 9 (by kernel_rfl) ?_;simp[hb,h4]
theorem GS(hp:∀ f,Np5 f->prim f=none)(L:List Int)(k:Nat)(hL:L.length<=4000)(hk:k<=L.length)(lo hi:Int)(h1:lo<=hi)(h2:-1000000<=lo)(h3:hi<=1000000):
  ∃ (v:Int) (k':Nat),lo<=v/\v<=hi/\k'<=L.length/\∀ (cfg:Cfg) (h:Heap) (b:Nat),ab h b=some [il L,.int .i64 k]->cfg.wr b=true->af md (K prim (d+2)) cfg 64 [.ptr b 0,.int .i64 lo,.int .i64 hi] h=some (.int .i64 v,h.set b (some [il L,.int .i64 k'])):=by
 obtain⟨v,k',hv,h0,hN⟩:=BU (prim:=prim) d hp L k hL hk (hi-lo+1) (by omega) (by omega);refine⟨lo+v,k',by omega,by omega,h0,fun cfg h b hb hw=>call1 rfl (hp 64 (by decide)) Tryz.func64 rfl rfl rfl ?_⟩;have h4:=hN ⟨cfg.lo,cfg.ex,h.length⟩ h b hb hw;simp(disch:=omega)[h4,wrap64];exact Lu (by simp)
theorem B3:∀ x∈alph,0<=x/\x<=1114111:=by decide
theorem uy(hp:prim 98=none):∀ cfg h,af md (K prim (d+1)) cfg 98 [] h=some (rl alph,h):=by
 intro cfg h;refine aU rfl hp Tryz.func98 rfl rfl rfl (by simp) ?_;simp;exact dx (d:=4) (k:=.i32) (l:=alph) rfl (LJ _) rfl
theorem md_N:md 23=1:=rfl
theorem md_R:md 64=1:=rfl
theorem bAt{H:Heap}{b:Nat}{X:Option (List V)}{Y:List V}(hY:isMap Y=false):ab (H.set b X++[some Y]) H.length=some Y:=by
 have:=bx (h:=H.set b X) (r:=[some Y]) (k:=0);simp only[LS,MT]at this;rw[this];simp[hY]
structure Rd(H:Heap)(b:Nat)(L:List Int)(k:Nat):Prop where
 blk:ab H b=some [il L,.int .i64 k]
 le:k<=L.length
theorem Rd.lt{H:Heap}{b:Nat}{L:List Int}{k:Nat}(r:Rd H b L k):b<H.length:=al r.blk
theorem Rd.set{H:Heap}{b:Nat}{L:List Int}{k k':Nat}(r:Rd H b L k)(h:k'<=L.length):Rd (H.set b (some [il L,.int .i64 k'])) b L k':=⟨by have:=r.lt;simp[this],h⟩
theorem Rd.push{H:Heap}{b:Nat}{L:List Int}{k:Nat}(r:Rd H b L k)(x:Heap):Rd (H++x) b L k:=⟨by rw[aj r.lt];exact r.blk,r.le⟩
abbrev hk(h:Heap)(b:Nat)(L:List Int)(k:Nat):Heap:=h.set b (some [il L,.int .i64 k])
theorem Rd.nx(hp:∀ f,Np5 f->prim f=none){h:Heap}{b:Nat}{L:List Int}{k0:Nat}(r:Rd h b L k0)(hL:L.length<=4000){k:Nat}(h0:k<=L.length)(n:Int)(h1:1<=n)(h2:n<=4000000000):
  ∃ v k':Nat,(v:Int)<n/\k'<=L.length/\∀ (cfg:Cfg) (x:Heap),cfg.wr b=true->af md (K prim (d+1)) cfg 23 [.ptr b 0,.int .i64 n] (hk h b L k++x)=some (.int .i64 v,hk h b L k'++x):=by
 obtain⟨v,k',g1,g2,g3⟩:=BU (prim:=prim) d hp L k hL h0 n h1 h2;refine⟨v,k',g1,g2,fun cfg x hw=>?_⟩;rw[g3 cfg _ b ((r.set h0).push x).blk hw,L5 _ _ (by simpa using r.lt),L6]
theorem Rd.rx(hp:∀ f,Np5 f->prim f=none){h:Heap}{b:Nat}{L:List Int}{k0:Nat}(r:Rd h b L k0)(hL:L.length<=4000){k:Nat}(h0:k<=L.length)(lo hi:Int)(h1:lo<=hi)(h2:-1000000<=lo)(h3:hi<=1000000):
  ∃ (v:Int) (k':Nat),lo<=v/\v<=hi/\k'<=L.length/\∀ (cfg:Cfg) (x:Heap),cfg.wr b=true->af md (K prim (d+2)) cfg 64 [.ptr b 0,.int .i64 lo,.int .i64 hi] (hk h b L k++x)=some (.int .i64 v,hk h b L k'++x):=by
 obtain⟨v,k',g1,g2,g4,g3⟩:=GS (prim:=prim) d hp L k hL h0 lo hi h1 h2 h3;refine⟨v,k',g1,g2,g4,fun cfg x hw=>?_⟩;rw[g3 cfg _ b ((r.set h0).push x).blk hw,L5 _ _ (by simpa using r.lt),L6]
theorem Rd.same{h:Heap}{b:Nat}{L:List Int}{k:Nat}(r:Rd h b L k):h=hk h b L k:=(eR r.blk).symm
theorem qy{h:Heap}{b:Nat}{L:List Int}{k:Nat}:(hk h b L k).length=h.length:=by simp
structure Gn(h:Heap)(b:Nat)(L:List Int)(k:Nat)(X H:Heap)(os:List Own):Prop where
 le:k<=L.length
 hp:Hp H (hk h b L k++X) os
theorem Gn.start{h:Heap}{b:Nat}{L:List Int}{k:Nat}(h0:k<=L.length)(X:Heap):Gn h b L k X (hk h b L k++X) []:=⟨h0,Hp.start⟩
theorem Gn.at{h:Heap}{b:Nat}{L:List Int}{k:Nat}{X H:Heap}{os:List Own}(g:Gn h b L k X H os)(i:Nat){Y:List V}(hX:X[i]?=some (some Y))(hm:isMap Y=false):ab H (h.length+i)=some Y:=by
 have hl:=(Ld.1 hX).1;rw[g.hp.block (by simp;omega),ab,Lk (by simp),qy,MJ,hX];simp[hm]
theorem Gn.put{h:Heap}{b:Nat}{L:List Int}{k:Nat}{X H:Heap}{os:List Own}(g:Gn h b L k X H os)(i:Nat)(hi:i<X.length)(Y:Option (List V)):Gn h b L k (X.set i Y) (H.set (h.length+i) Y) os:=by
 refine⟨g.le,?_⟩;have:=g.hp.set (b:=h.length+i) (by simp;omega) Y;rwa [LU _ _ (by simp),qy,MJ]at this
theorem Gn.len{h:Heap}{b:Nat}{L:List Int}{k:Nat}{X H:Heap}{os:List Own}(g:Gn h b L k X H os):h.length+X.length<=H.length:=by
 have:=g.hp.le;simpa using this
theorem Gn.take{h:Heap}{b:Nat}{L:List Int}{k:Nat}{X H:Heap}{os:List Own}(g:Gn h b L k X H os):H.take h.length=hk h b L k:=by
 have h1:=congrArg (List.take h.length) g.hp.take;rw[Nt,MR (by simp),LM (by simp)]at h1;rw[h1,<- qy (h:=h) (b:=b) (L:=L) (k:=k),LQ]
theorem Gn.rd{h:Heap}{b:Nat}{L:List Int}{k k0:Nat}{X H:Heap}{os:List Own}(g:Gn h b L k X H os)(r:Rd h b L k0):Rd H b L k:=by
 refine⟨?_,g.le⟩;have hl:=r.lt;rw[g.hp.block (by simp;omega),aj (by simpa using hl)];simp[hl]
theorem Gn.step{h:Heap}{b:Nat}{L:List Int}{k k0 k':Nat}{X H:Heap}{os:List Own}(g:Gn h b L k X H os)(r:Rd h b L k0)(h0:k'<=L.length):Gn h b L k' X (H.set b (some [il L,.int .i64 k'])) os:=by
 have hl:=r.lt;refine⟨h0,?_⟩;have:=g.hp.set (b:=b) (by simp;omega) (some [il L,.int .i64 k']);rwa [L5 _ _ (by simpa using hl),L6]at this
theorem Gn.push{h:Heap}{b:Nat}{L:List Int}{k:Nat}{X H:Heap}{os:List Own}(g:Gn h b L k X H os)(Y:Heap):Gn h b L k X (H++Y) os:=⟨g.le,g.hp.push Y⟩
theorem Gn.n(hp:∀ f,Np5 f->prim f=none){h:Heap}{b:Nat}{L:List Int}{k k0:Nat}{X H:Heap}{os:List Own}(g:Gn h b L k X H os)(r:Rd h b L k0)(hL:L.length<=4000)(n:Int)(h1:1<=n)(h2:n<=4000000000):
  ∃ v k':Nat,(v:Int)<n/\Gn h b L k' X (H.set b (some [il L,.int .i64 k'])) os/\∀ cfg:Cfg,cfg.wr b=true->af md (K prim (d+1)) cfg 23 [.ptr b 0,.int .i64 n] H=some (.int .i64 v,H.set b (some [il L,.int .i64 k'])):=by
 obtain⟨v,k',g1,g2,g3⟩:=BU (prim:=prim) d hp L k hL g.le n h1 h2;exact⟨v,k',g1,g.step r g2,fun cfg hw=>g3 cfg H b (g.rd r).blk hw⟩
theorem Gn.r(hp:∀ f,Np5 f->prim f=none){h:Heap}{b:Nat}{L:List Int}{k k0:Nat}{X H:Heap}{os:List Own}(g:Gn h b L k X H os)(r:Rd h b L k0)(hL:L.length<=4000)(lo hi:Int)(h1:lo<=hi)(h2:-1000000<=lo)(h3:hi<=1000000):
  ∃ (v:Int) (k':Nat),lo<=v/\v<=hi/\Gn h b L k' X (H.set b (some [il L,.int .i64 k'])) os/\∀ cfg:Cfg,cfg.wr b=true->af md (K prim (d+2)) cfg 64 [.ptr b 0,.int .i64 lo,.int .i64 hi] H=some (.int .i64 v,H.set b (some [il L,.int .i64 k'])):=by
 obtain⟨v,k',g1,g2,g4,g3⟩:=GS (prim:=prim) d hp L k hL g.le lo hi h1 h2 h3;exact⟨v,k',g1,g2,g.step r g4,fun cfg hw=>g3 cfg H b (g.rd r).blk hw⟩
attribute [local congr] GM
theorem Ft(hp:∀ f,Np5 f->prim f=none)(L:List Int)(k:Nat)(hL:L.length<=4000)(b:Nat)(r:Rd h b L k)(hw:cfg.wr b=true)(g9:cfg.lo<=h.length):
  ∃ (f:Fnt) (k':Nat),pw f/\k'<=L.length/\af md (K prim (d+3)) cfg 65 [.ptr b 0] h=some (.agg (aJ f),hk h b L k'):=by
 have h6:(Cfg.wr ⟨cfg.lo,cfg.ex,h.length⟩ b)=true:=hw;have hbl:=r.lt;suffices HH:∃ r h2,af md (K prim (d+3)) cfg 65 [.ptr b 0] h=some (r,h2)/\∃ f k',pw f/\k'<=L.length/\r=.agg (aJ f)/\h2=hk h b L k' by
  obtain⟨r,h2,h3,f,k',h4,h5,rfl,rfl⟩:=HH;exact⟨f,k',h4,h5,h3⟩
 refine iL rfl (hp 65 (by decide)) Tryz.func65 rfl rfl rfl ?_;have k0:=uy (prim:=prim) (d+1) (hp 98 (by decide));have hN:=fun {k:Nat} (hj:k<=L.length) (n:Int) h1 h2=>r.nx (d+1) hp hL hj n h1 h2;have hR:=fun {k:Nat} (hj:k<=L.length) (lo hi:Int) h1 h2 h3=>r.rx d hp hL hj lo hi h1 h2 h3;obtain⟨Z,hZ⟩:∃ Z:List V,Z=[.int .i64 0,.int .i64 0,.int .i64 0,.int .i64 0,.int .i64 0,.nils,.nils,.nils]:=⟨_,rfl⟩;obtain⟨u1,k1,k6,hH,hj,c1⟩:=hR r.le 16 200 (by omega) (by omega) (by omega);obtain⟨u2,k2,k7,hJ,k8,c2⟩:=hR hj 1 100 (by omega) (by omega) (by omega);obtain⟨u3,k3,hu3,k9,c3⟩:=hN k8 40 (by omega) (by omega);obtain⟨u4,k4,hu4,w7,c4⟩:=hN k9 30 (by omega) (by omega);obtain⟨u5,k5,hu5,w8,c5⟩:=hN w7 120 (by omega) (by omega);replace c1:=fun x=>c1 ⟨cfg.lo,cfg.ex,h.length⟩ x h6;replace c2:=fun x=>c2 ⟨cfg.lo,cfg.ex,h.length⟩ x h6;replace c3:=fun x=>c3 ⟨cfg.lo,cfg.ex,h.length⟩ x h6;replace c4:=fun x=>c4 ⟨cfg.lo,cfg.ex,h.length⟩ x h6;replace c5:=fun x=>c5 ⟨cfg.lo,cfg.ex,h.length⟩ x h6;rw[<- r.same]at c1;have kl:∀ k,(hk h b L k).length=h.length:=fun k=>by simp
 have bF:∀ (k:Nat) (z:Option (List V)) (x:Int) (F:List V) (Y:Heap),ab (hk h b L k++z::some (.int .i64 x::F)::Y) (h.length+1)=some (.int .i64 x::F):=fun k z x F Y=>by
  have:=bx (h:=hk h b L k) (r:=z::some (.int .i64 x::F)::Y) (k:=1);rw[kl]at this;rw[this];rfl
 have sF:∀ (k:Nat) (z:Option (List V)) (F X:Option (List V)) (Y:Heap),(hk h b L k++z::F::Y).set (h.length+1) X=hk h b L k++z::X::Y:=fun k z F X Y=>by
  rw[LU _ _ (by rw[kl];omega),kl];have:h.length+1-h.length=1:=by omega
  rw[this];rfl
 have wF:(Cfg.wr ⟨cfg.lo,cfg.ex,h.length⟩ (h.length+1))=true:=bq (by omega);unfold hk at *;simp(disch:=omega)[c1,c2,c3,c4,c5,k0,bF,sF,wF];rw[<- hZ];clear c1 c2 c3 c4 c5 bF sF hN hR;have g2:alph.length=89:=rfl;have hf:=B3;generalize alph=A at g2 hf;refine ai (fun m fr H=>∃ (i k:Nat) (at_:Int) (va:V) (xs:List (Int×Int×Int)),i<=4/\m=4-i/\xs.length<=i/\-1<=at_/\at_<=1114111/\(∀ x∈xs,0<=x.1/\x.1<=x.2.1/\x.2.1<=at_/\0<=x.2.2/\x.2.2<200)/\(xs.Pairwise fun x y=>x.2.1<y.1) /\
  Gn h b L k [some Z,some [.int .i64 u1,.int .i64 u2,.int .i64 u3,.int .i64 u4,.int .i64 u5,va,.nils,.nils]] H [(3,va,xs.flatMap da)] /\
  Slots 142 [(0,.ptr b 0),(2,.ptr h.length 0),(3,.ptr (h.length+1) 0),(4,rl A),(5,.int .i32 at_),(6,.int .i64 i)] fr) (m:=4) (by omega) ⟨0,k5,-1,.nils,[],by omega,by omega,by simp,by omega,by omega,by simp,by simp,⟨w8,Hp.start.nil 3⟩,by simp⟩ ?_
 rintro m fr H ⟨i,k,at_,va,xs,hi,rfl,w9,z0,z1,hF,hK,hg,hs⟩;obtain⟨j,rfl⟩:=hs.ex;clear hs;by_cases g3:i<4
 ·have hI:(i:Int)<4:=by omega
  obtain⟨v1,k1',g4,hh,e1⟩:=hg.n (d+1) hp r hL 89 (by omega) (by omega);obtain⟨x,hx⟩:∃ x,A[v1]?=some x:=⟨_,Lc (by omega)⟩;have hxr:=hf x (Le hx);simp(disch:=omega)[hI,g2,e1,hx,-getElem?_pos];by_cases hgt:at_<x
  ·obtain⟨v2,k2',g5,h8,e2⟩:=hh.n (d+1) hp r hL 3 (by omega) (by omega);simp only[L6]at h8 e2;have z2:IntKind.i32.wrap (v2:Int)=v2:=wrap32 (by omega) (by omega);have z3:IntKind.i32.wrap (x+v2)=x+v2:=wrap32 (by omega) (by omega);obtain⟨tv,z4,ht1,ht2⟩:∃ tv:Int,rF [V.int .i32 (x+v2),V.int .i32 1114111]=some (.int .i32 tv)/\x<=tv/\tv<=1114111:=by
    refine⟨if 1114111<x+v2 then 1114111 else x+v2,rfl,?_,?_⟩<;>split<;>omega
   obtain⟨v3,k3',g6,h9,e3⟩:=h8.n (d+1) hp r hL 200 (by omega) (by omega);simp only[L6]at h9 e3;have hd:=hg.at 1 rfl rfl;have wF:(Cfg.wr ⟨cfg.lo,cfg.ex,h.length⟩ (h.length+1))=true:=bq (by omega);have hne:¬ b=h.length+1:=by omega
   simp(disch:=omega)[hgt,e2,z2,z3,z4];refine ah 8 (by kernel_rfl) ?_;have hm:=md_N;have e3':=fun lo thr=>e3 ⟨lo,[b],thr⟩ jn;have he:=(hg.rd r).lt;have hn:ab (H.set b (some [il L,.int .i64 k3'])++[some [V.int .i32 x,V.int .i32 tv,V.int .i64 v3]]) H.length=some [V.int .i32 x,V.int .i32 tv,V.int .i64 v3]:=bAt rfl;simp(disch:=omega)[hd,hm,h6,e3',hne,he,hn];have hq:=(h9.push [some [V.int .i32 x,V.int .i32 tv,V.int .i64 v3]]);have ha:=bJ (f:=da) (n:=3) (fun _=>rfl) xs;refine bH (m:=1) hq.hp (by simp;omega) rfl rfl (by omega) (by omega) (by rw[ha];omega) (by rw[ha];omega) ?_;intro va' H' h0;have h7:Gn h b L k3' _ H' _:=⟨h9.le,h0⟩;have hr:=h7.at 1 rfl rfl;have g7:=h7.len;have ht:=h0.head.cells;have z5:=h0.head.leaf;simp(disch:=omega)[hr,wF,ht,wrap64];have hv:=h7.put 1 (by simp) (some [.int .i64 u1,.int .i64 u2,.int .i64 u3,.int .i64 u4,.int .i64 u5,va',.nils,.nils]);refine ae (m':=4-(i+1)) (by omega) ⟨i+1,k3',tv,va',xs++[(x,tv,(v3:Int))],by omega,by omega,by simp;omega,by omega,by omega,?_,?_,?_,by simp(disch:=omega)⟩
   ·intro y hy;rcases LA.1 hy with hy|hy
    ·have:=hF y hy;omega
    ·simp at hy;subst hy;simp;omega
   ·refine Ms.2 ⟨hK,by simp,fun y hy z hz=>?_⟩;simp at hz;subst hz;have:=hF y hy;simp;omega
   ·simpa[da]using hv
  ·simp(disch:=omega)[hgt,wrap64];exact ae (m':=4-(i+1)) (by omega) ⟨i+1,k1',at_,va,xs,by omega,by omega,by omega,by omega,by omega,hF,hK,hh,by simp(disch:=omega)⟩
 ·obtain rfl:i=4:=by omega
  simp(disch:=omega);refine ai (fun m fr H=>∃ (i k:Nat) (x y:Int) (vk:V) (ys:List (Int×Int×Int)),i<=5/\m=5-i/\ys.length<=i/\(∀ z∈ys,z.1<x\/z.1=x/\z.2.1<=y)/\(∀ z∈ys,0<=z.1/\z.1<=1114111/\0<=z.2.1/\z.2.1<=1114111/\-60<=z.2.2/\z.2.2<=60)/\(ys.Pairwise fun x y=>x.1<y.1\/x.1=y.1/\x.2.1<y.2.1) /\
   Gn h b L k [some Z,some [.int .i64 u1,.int .i64 u2,.int .i64 u3,.int .i64 u4,.int .i64 u5,va,vk,.nils]] H [(3,vk,ys.flatMap da),(3,va,xs.flatMap da)] /\
   Slots 142 [(0,.ptr b 0),(2,.ptr h.length 0),(3,.ptr (h.length+1) 0),(4,rl A),(9,.int .i32 x),(10,.int .i32 y),(11,.int .i64 i)] fr) (m:=5) (by omega) ⟨0,k,-1,-1,.nils,[],by omega,by omega,by simp,by simp,by simp,by simp,⟨hg.le,hg.hp.nil 3⟩,by simp⟩ ?_
  clear hg;rintro m fr H ⟨i,k,x,y,vk,ys,hi,rfl,z6,hM,hO,hyp,hg,hs⟩;obtain⟨j2,rfl⟩:=hs.ex;clear hs;by_cases g3:i<5
  ·have hI:(i:Int)<5:=by omega
   obtain⟨v1,k1',g4,hh,e1⟩:=hg.n (d+1) hp r hL 12 (by omega) (by omega);obtain⟨p,hA⟩:∃ p,A[v1]?=some p:=⟨_,Lc (by omega)⟩;have z7:=hf p (Le hA);obtain⟨v2,k2',g5,h8,e2⟩:=hh.n (d+1) hp r hL 12 (by omega) (by omega);simp only[L6]at h8 e2;obtain⟨q,hD⟩:∃ q,A[v2]?=some q:=⟨_,Lc (by omega)⟩;have z8:=hf q (Le hD);have hm:=md_N;have e1':=fun lo thr=>e1 ⟨lo,[b],thr⟩ jn;have e2':=fun lo thr=>e2 ⟨lo,[b],thr⟩ jn;have z9:=h6;simp(disch:=omega)[hI];refine ah 11 (by kernel_rfl) ?_;have he:=(hg.rd r).lt;simp +contextual (disch:=omega)[-ar,EB,EC,rk,tz,nG,sJ,hm,h6,e1',e2',he,hA,hD,-getElem?_pos];refine aq (fun hb=>?_) (fun hb=>?_)
   ·have hP:x<p\/p=x/\y<q:=by simpa using hb
    obtain⟨v3,k3',g6,hv3',h9,e3⟩:=h8.r d hp r hL (-60) 60 (by omega) (by omega) (by omega);simp only[L6]at h9 e3;have e3':=fun lo thr=>e3 ⟨lo,[b],thr⟩ jn;have hd:=hg.at 1 rfl rfl;have wF:(Cfg.wr ⟨cfg.lo,cfg.ex,h.length⟩ (h.length+1))=true:=bq (by omega);have hne:¬ b=h.length+1:=by omega
    have hmR:=md_R;simp(disch:=omega);refine ah 8 (by kernel_rfl) ?_;have hn:ab (H.set b (some [il L,.int .i64 k3'])++[some [V.int .i32 p,V.int .i32 q,V.int .i64 v3]]) H.length=some [V.int .i32 p,V.int .i32 q,V.int .i64 v3]:=bAt rfl;simp(disch:=omega)[hd,hmR,h6,e3',hne,he,hn];have hq:=(h9.push [some [V.int .i32 p,V.int .i32 q,V.int .i64 v3]]);have ha:=bJ (f:=da) (n:=3) (fun _=>rfl) ys;refine bH (m:=1) hq.hp (by simp;omega) rfl rfl (by omega) (by omega) (by rw[ha];omega) (by rw[ha];omega) ?_;intro vk' H' h0;have h7:Gn h b L k3' _ H' _:=⟨h9.le,h0⟩;have hr:=h7.at 1 rfl rfl;have g7:=h7.len;have ht:=h0.head.cells;simp(disch:=omega)[hr,wF,ht,wrap64];have hv:=h7.put 1 (by simp) (some [.int .i64 u1,.int .i64 u2,.int .i64 u3,.int .i64 u4,.int .i64 u5,va,vk',.nils]);refine ae (m':=5-(i+1)) (by omega) ⟨i+1,k3',p,q,vk',ys++[(p,q,v3)],by omega,by omega,by simp;omega,?_,?_,?_,?_,by simp(disch:=omega)⟩
    ·intro z hz;rcases LA.1 hz with hz|hz
     ·have:=hM z hz;omega
     ·simp at hz;subst hz;simp
    ·intro z hz;rcases LA.1 hz with hz|hz
     ·exact hO z hz
     ·simp at hz;subst hz;simp;omega
    ·refine Ms.2 ⟨hyp,by simp,fun u hu z hz=>?_⟩;simp at hz;subst hz;have:=hM u hu;simp;omega
    ·simpa[da]using hv
   ·simp(disch:=omega)[wrap64];exact ae (m':=5-(i+1)) (by omega) ⟨i+1,k2',x,y,vk,ys,by omega,by omega,by omega,hM,hO,hyp,h8,by simp(disch:=omega)⟩
  ·obtain rfl:i=5:=by omega
   simp(disch:=omega);refine ai (fun m fr H=>∃ (i k:Nat) (x y:Int) (vl:V) (ls:List (Int×Int×Int×Int)),i<=4/\m=4-i/\ls.length<=i/\(∀ z∈ls,z.1<x\/z.1=x/\z.2.1<=y)/\(∀ z∈ls,0<=z.1/\z.1<=1114111/\0<=z.2.1/\z.2.1<=1114111/\1114112<=z.2.2.1/\z.2.2.1<=1114120/\0<=z.2.2.2/\z.2.2.2<200)/\(ls.Pairwise fun x y=>x.1<y.1\/x.1=y.1/\x.2.1<y.2.1) /\
    Gn h b L k [some Z,some [.int .i64 u1,.int .i64 u2,.int .i64 u3,.int .i64 u4,.int .i64 u5,va,vk,vl]] H [(4,vl,ls.flatMap dL),(3,vk,ys.flatMap da),(3,va,xs.flatMap da)] /\
    Slots 142 [(0,.ptr b 0),(2,.ptr h.length 0),(3,.ptr (h.length+1) 0),(4,rl A),(9,.int .i32 x),(10,.int .i32 y),(14,.int .i64 i)] fr) (m:=4) (by omega) ⟨0,k,-1,-1,.nils,[],by omega,by omega,by simp,by simp,by simp,by simp,⟨hg.le,hg.hp.nil 4⟩,by simp⟩ ?_
   clear hg;rintro m fr H ⟨i,k,x,y,vl,ls,hi,rfl,hll,hQ,hS,hT,hg,hs⟩;obtain⟨j3,rfl⟩:=hs.ex;clear hs;by_cases g3:i<4
   ·have hI:(i:Int)<4:=by omega
    obtain⟨v1,k1',g4,hh,e1⟩:=hg.n (d+1) hp r hL 48 (by omega) (by omega);obtain⟨p,hA⟩:∃ p,A[v1]?=some p:=⟨_,Lc (by omega)⟩;have z7:=hf p (Le hA);obtain⟨v2,k2',g5,h8,e2⟩:=hh.n (d+1) hp r hL 48 (by omega) (by omega);simp only[L6]at h8 e2;obtain⟨q,hD⟩:∃ q,A[v2]?=some q:=⟨_,Lc (by omega)⟩;have z8:=hf q (Le hD);have hm:=md_N;have e1':=fun lo thr=>e1 ⟨lo,[b],thr⟩ jn;have e2':=fun lo thr=>e2 ⟨lo,[b],thr⟩ jn;have z9:=h6;simp(disch:=omega)[hI];refine ah 11 (by kernel_rfl) ?_;have he:=(hg.rd r).lt;simp +contextual (disch:=omega)[-ar,EB,EC,rk,tz,nG,sJ,hm,h6,e1',e2',he,hA,hD,-getElem?_pos];refine aq (fun hb=>?_) (fun hb=>?_)
    ·have hP:x<p\/p=x/\y<q:=by simpa using hb
     obtain⟨v3,k3',g6,h9,e3⟩:=h8.n (d+1) hp r hL 9 (by omega) (by omega);simp only[L6]at h9 e3;have e3':=fun lo thr=>e3 ⟨lo,[b],thr⟩ jn;obtain⟨v4,k4',hv4,hX,e4⟩:=h9.n (d+1) hp r hL 200 (by omega) (by omega);simp only[L6]at hX e4;have e4':=fun lo thr=>e4 ⟨lo,[b],thr⟩ jn;have hd:=hg.at 1 rfl rfl;have wF:(Cfg.wr ⟨cfg.lo,cfg.ex,h.length⟩ (h.length+1))=true:=bq (by omega);have hne:¬ b=h.length+1:=by omega
     simp(disch:=omega);refine ah 11 (by kernel_rfl) ?_;have hn:ab (H.set b (some [il L,.int .i64 k4'])++[some [V.int .i32 p,V.int .i32 q,V.int .i64 (1114112+v3),V.int .i64 v4]]) H.length=some [V.int .i32 p,V.int .i32 q,V.int .i64 (1114112+v3),V.int .i64 v4]:=bAt rfl;simp(disch:=omega)[hd,hm,h6,e3',e4',hne,he,hn,wrap64];have hq:=(hX.push [some [V.int .i32 p,V.int .i32 q,V.int .i64 (1114112+v3),V.int .i64 v4]]);have ha:=bJ (f:=dL) (n:=4) (fun _=>rfl) ls;refine bH (m:=1) hq.hp (by simp;omega) rfl rfl (by omega) (by omega) (by rw[ha];omega) (by rw[ha];omega) ?_;intro vl' H' h0;have h7:Gn h b L k4' _ H' _:=⟨hX.le,h0⟩;have hr:=h7.at 1 rfl rfl;have g7:=h7.len;have ht:=h0.head.cells;simp(disch:=omega)[hr,wF,ht,wrap64];have hv:=h7.put 1 (by simp) (some [.int .i64 u1,.int .i64 u2,.int .i64 u3,.int .i64 u4,.int .i64 u5,va,vk,vl']);refine ae (m':=4-(i+1)) (by omega) ⟨i+1,k4',p,q,vl',ls++[(p,q,(1114112+v3:Int),(v4:Int))],by omega,by omega,by simp;omega,?_,?_,?_,?_,by simp(disch:=omega)⟩
     ·intro z hz;rcases LA.1 hz with hz|hz
      ·have:=hQ z hz;omega
      ·simp at hz;subst hz;simp
     ·intro z hz;rcases LA.1 hz with hz|hz
      ·exact hS z hz
      ·simp at hz;subst hz;simp;omega
     ·refine Ms.2 ⟨hT,by simp,fun u hu z hz=>?_⟩;simp at hz;subst hz;have:=hQ u hu;simp;omega
     ·simpa[dL]using hv
    ·simp(disch:=omega)[wrap64];exact ae (m':=4-(i+1)) (by omega) ⟨i+1,k2',x,y,vl,ls,by omega,by omega,by omega,hQ,hS,hT,h8,by simp(disch:=omega)⟩
   ·obtain rfl:i=4:=by omega
    have hd:=hg.at 1 rfl rfl;have g8:=hg.at 0 (Y:=Z) rfl (by rw[hZ];rfl);have hl:=hg.len;rw[MT]at g8;have hY:=hg.hp.head.leaf;have g0:=hg.hp.snd.leaf;have g1:=hg.hp.thd.leaf;have hHl:h.length<H.length:=by simp at hl;omega
    have wZ:(Cfg.wr ⟨cfg.lo,cfg.ex,h.length⟩ h.length)=true:=bq g9;subst hZ;simp(disch:=omega)[hd,g8,hY,g0,g1,wZ];have hE:=hg.put 0 (by simp) (some [.int .i64 u1,.int .i64 u2,.int .i64 u3,.int .i64 u4,.int .i64 u5,va,vk,vl]);rw[MT]at hE;have f1:=OwnC.frzF (ho:=hE.hp.head) (f:=dL) (n:=4) (m:=h.length) (d:=3) (fun _=>rfl) (by omega) (by simp) (fun _=>rfl) (fun x c hc=>by simp[dL]at hc;rcases hc with rfl|rfl|rfl|rfl<;>simp);have f2:=OwnC.frzF (ho:=hE.hp.snd) (f:=da) (n:=3) (m:=h.length) (d:=3) (fun _=>rfl) (by omega) (by simp) (fun _=>rfl) (fun x c hc=>by simp[da]at hc;rcases hc with rfl|rfl|rfl<;>simp);have f3:=OwnC.frzF (ho:=hE.hp.thd) (f:=da) (n:=3) (m:=h.length) (d:=3) (fun _=>rfl) (by omega) (by simp) (fun _=>rfl) (fun x c hc=>by simp[da]at hc;rcases hc with rfl|rfl|rfl<;>simp);simp only[f1,f2,f3,Mb,Function.comp,LW];refine⟨_,rfl,⟨u1,u2,u3,u4,u5,xs,ys,ls⟩,⟨⟨k6,hH⟩,⟨k7,hJ⟩,by simp;omega,by simp;omega,by simp;omega,fun x hx=>?_,hK,w9,hO,hyp,z6,hS,hT,hll⟩,k,hg.le,rfl,hE.take⟩;have:=hF x hx;omega
end
end Bi
end Go.Ab
