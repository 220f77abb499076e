/- The program: a line. -/
import Derived.Test.YtldfgkjmficliaaGreatPaFo
set_option linter.unusedSimpArgs false
set_option linter.unusedVariables false
namespace Go.Ab
open Go.Proofs
namespace Bi
attribute [local congr] az
theorem sT{f:Int→Int}{l:List Int}{i:Nat}{x:Int}(h:l[i]?=some x):mx f (l.take (i+1))=max (mx f (l.take i)) (f x):=by
 unfold mx
 rw[List.take_add_one,h,List.foldl_append]
 rfl
theorem gy{f:Int→Int}{M:Int}(hM:0≤M):∀ {l:List Int},(∀ x∈l,f x≤M)→0≤mx f l∧mx f l≤M:=by
 intro l h
 unfold mx
 have:∀ (l:List Int) (a:Int),(∀ x∈l,f x≤M)→0≤a→a≤M→0≤l.foldl (fun a i=>max a (f i)) a∧l.foldl (fun a i=>max a (f i)) a≤M:=by
  intro l
  induction l with
  | nil=>intro a _ h1 h2;exact⟨h1,h2⟩
  | cons x l ih =>
   intro a h h1 h2
   have:=h x (by simp)
   exact ih _ (fun y hy=>h y (by simp[hy])) (by show 0≤max a (f x);omega) (by show max a (f x)≤M;omega)
 exact this l 0 h (Int.le_refl _) hM
theorem TxV.at{X:Txt}(hV:TxV X){q:Nat}(hq:q<X.p.s.length):∃ sp f,X.p.s[q]?=some sp∧X.fs[sp.n.toNat]?=some f∧0≤sp.n∧sp.n<X.fs.length∧1≤sp.z∧sp.z≤1000∧bJ f=0∧X.asc q=oD f sp.z∧X.des q=mg f sp.z∧X.hei q=uE f sp.z:=by
 obtain⟨sp,hsp⟩:=atG hq
 have hg:X.p.s.getD q ⟨0,0,0,0⟩=sp:=by rw[List.getD_eq_getElem?_getD,hsp];rfl
 have h7:=hV.sf sp (List.mem_of_getElem? hsp)
 obtain⟨f,hf⟩:=atG (show sp.n.toNat<X.fs.length by omega)
 have hg2:X.fs.getD sp.n.toNat ⟨0,0,0,0,0,[],[],[]⟩=f:=by rw[List.getD_eq_getElem?_getD,hf];rfl
 refine⟨sp,f,hsp,hf,h7.1,h7.2.1,h7.2.2.1,h7.2.2.2,hV.fv f (List.mem_of_getElem? hf),?_,?_,?_⟩
 ·unfold Txt.asc;rw[Int.toNat_natCast,hg,hg2]
 ·unfold Txt.des;rw[Int.toNat_natCast,hg,hg2]
 ·unfold Txt.hei;rw[Int.toNat_natCast,hg,hg2]
section
variable {prim:FuncId→Option Prim}(d:Nat)
set_option maxHeartbeats 8000000 in
theorem I4(hp:∀ f,Np5 f→prim f=none)(cfg:Cfg)(H:Heap)(lo:Nat)(v:V)(gs:List Gly)(ho:OwnC H lo 8 v (gs.flatMap au))(hl:gs.length≤8100)(hr:∀ g∈gs,0≤g.a∧g.a≤10000000):
  af md (K prim (d+1)) cfg 62 [v] H=some (.int .i64 (cw gs),H):=by
 have hu:Tryz.prog.underlying 39=some (.slice 97):=by kernel_rfl
 have hcase:(v=.nils∧gs=[])∨∃ b n,v=.sl b 0 n n 8:=by
  rcases ho with⟨rfl,h⟩|⟨b,n,rfl,_⟩
  ·refine .inl ⟨rfl,?_⟩
   have:=br gs
   rw[h]at this
   simp at this
   exact List.eq_nil_of_length_eq_zero (by omega)
  ·exact .inr ⟨b,n,rfl⟩
 rcases hcase with⟨rfl,rfl⟩|⟨vb0,vn0,hv0⟩
 ·refine bo rfl (hp 62 (by decide)) Tryz.func62 rfl rfl rfl (by simp) ?_
  simp(disch:=omega)
  refine aj (fun m fr H'=>Slots 18 [(3,.int .i64 0),(6,.nils),(7,.int .i64 0),(8,.int .i64 0)] fr) (m:=0) (by omega) (by simp) ?_
  rintro m fr H' hs
  obtain⟨j,rfl⟩:=hs.ex
  clear hs
  simp(disch:=omega)[cw]
 suffices HH:∃ r h2,(∀ cfg,af md (K prim (d+1)) cfg 62 [v] H=some (r,h2))∧(r=.int .i64 (cw gs)∧h2=H) by
  obtain⟨_,_,h,rfl,rfl⟩:=HH
  exact h cfg
 refine eU (Post:=fun r h2=>r=.int .i64 (cw gs)∧h2=H) rfl (hp 62 (by decide)) Tryz.func62 rfl rfl rfl (by rw[hv0];simp) ?_
 clear hv0
 have hlen:=ho.lenF aP (by omega) hu
 simp(disch:=omega)[hlen]
 refine aj (fun m fr Hc=>∃ (i:Nat) (Z:Heap),i≤gs.length∧m=gs.length-i∧Hc=H++Z ∧
  Slots 18 [(3,.int .i64 (cw (gs.take i))),(6,v),(7,.int .i64 gs.length),(8,.int .i64 i)] fr) (m:=gs.length) (by omega) ⟨0,[],by omega,by omega,by simp,by simp[cw]⟩ ?_
 rintro m fr Hc ⟨i,Z,hi,rfl,rfl,hs⟩
 obtain⟨j,rfl⟩:=hs.ex
 clear hs
 by_cases hlt:i<gs.length
 ·have hI:(i:Int)<gs.length:=by omega
  obtain⟨vb,rfl,hb1,hb2,hb3⟩:=ho.posF aP (by omega) (by omega)
  obtain⟨g,hg⟩:=atG hlt
  have hgr2:=hr g (List.mem_of_getElem? hg)
  have hN:=ic hg
  have hNr:=gh hr i (by omega)
  have hft:=fE (f:=au) (n:=8) aP hg
  have hfl:=br gs
  have q8:i*8+8≤gs.length*8:=by omega
  have hmG:isMap (au g)=false:=rfl
  have hlG:(au g).length=8:=rfl
  have htG:(au g).take 8=au g:=rfl
  have hfG:(∀ x∈au g,x.leaf=true)=True:=eq_true (List.all_eq_true.1 rfl)
  have hrG:(∀ x∈au g,x.rf=true)=True:=eq_true (List.all_eq_true.1 rfl)
  have hpa:putAt [V.int .i64 0,.int .i64 0,.int .i64 0,.int .i64 0,.int .i64 0,.int .i64 0,.int .i64 0,.int .i64 0] 0 (au g)=au g:=rfl
  have g5:slot (au g) 5=some (.int .i64 g.a):=rfl
  have hwr:Cfg.wr ⟨H.length,[],H.length⟩ (H.length+Z.length)=true:=by simp[Cfg.wr]
  simp(disch:=omega)[hI,hb3,hft,hfl,q8,hmG,hlG,hfG,hwr,hpa,g5,wrap64,-getElem?_pos]
  refine ae (m':=gs.length-(i+1)) (by omega) ⟨i+1,Z++[some (au g)],by omega,rfl,by simp,by rw[hN];simp(disch:=omega)⟩
 ·obtain rfl:i=gs.length:=by omega
  have hI:¬ ((gs.length:Int)<gs.length):=by omega
  simp(disch:=omega)[hI]
set_option maxRecDepth 100000 in
set_option maxHeartbeats 16000000 in
theorem CtxP.lin{X:Txt}(C:CtxP prim X){H:Heap}{xb bb pb mw mu:Nat}{sv kv:V}{es:fx}{eu:fL}(hT:TxH X H xb bb pb mw mu sv kv es eu){k:Nat×Nat}{s t:Nat}(h1:k.1≤s)(h2:s≤t)(h3:t≤k.2)(h4:k.2≤X.p.t.length)(y:Int)(hy:0≤y∧y≤1000000000000)(cfg:Cfg)(hM:MW cfg H)(hlo:cfg.lo≤H.length):
  ∃ r h2,af md (K prim (d+14)) cfg 27 [.ptr xb 0,.agg (X.sec k),.int .i64 s,.int .i64 t,.int .i64 y] H=some (r,h2) ∧
   (r=.agg (linG (X.lin k s t y))∧∃ es' eu',WOK X.fs es'∧UOK X.fs eu'∧h2=(H.set mw (wB es')).set mu (uB eu')):=by
 have hV:=C.hV
 have h5:=C.h5
 have hp:=C.hp
 refine kj (Post:=fun r h2=>r=.agg (linG (X.lin k s t y))∧∃ es' eu',WOK X.fs es'∧UOK X.fs eu'∧h2=(H.set mw (wB es')).set mu (uB eu')) rfl (C.hp 27 (by decide)) Tryz.func27 rfl rfl rfl ?_
 have hM':MW ⟨cfg.lo,cfg.ex,H.length⟩ H:=fun b cs h1 h2=>hM b cs h1 h2
 generalize hcf:(⟨cfg.lo,cfg.ex,H.length⟩:Cfg)=cf at *
 have hlo':cf.lo≤H.length:=by rw[← hcf];exact hlo
 have hthr:cf.thr=H.length:=by rw[← hcf]
 have kl:(X.sec k).length=4:=rfl
 have km:isMap (X.sec k)=false:=rfl
 have kt:(X.sec k).take 4=X.sec k:=rfl
 have kf:(∀ x∈X.sec k,x.leaf=true)=True:=eq_true (by simp[Txt.sec])
 have k1:slot (X.sec k) 1=some (.int .i64 k.2):=rfl
 have k2:slot (X.sec k) 2=some (.int .i64 (X.base k)):=rfl
 have hmwl:mw<H.length:=(List.getElem?_eq_some_iff.1 hT.hmw).1
 have hmul:mu<H.length:=(List.getElem?_eq_some_iff.1 hT.hmu).1
 obtain⟨x0,x1,x2,x3,x4,x5,x6,x7,x8,x9,x15,xl,xm⟩:=dh X (.sl bb 0 (X.p.t.length+1) (X.p.t.length+1) 1) sv kv pb mw mu
 have hu:Tryz.prog.underlying 39=some (.slice 97):=by kernel_rfl
 obtain⟨hgl,hgr⟩:=hV.gls h1 h2 h3 h4 h5
 obtain⟨S2,hS2⟩:∃ S2:Heap,[some (X.sec k),some [V.int .i64 0,.int .i64 0,.int .i64 0,.int .i64 0,.int .i64 0,.int .i64 0,.int .i64 0,.int .i64 0,.int .i64 0,.nils]]=S2:=⟨_,rfl⟩
 have hS2l:S2.length=2:=by rw[← hS2];rfl
 have hH0:Hp (H++S2) ((H.set mw (wB es)).set mu (uB eu)++S2) []:=by rw[bI hT.hmw,bI hT.hmu];exact Hp.start
 have hT0:=hT.ext hH0 hT.hW hT.hU
 have hM0:=hT.mw hM' hlo' hH0
 obtain⟨v,H2,hGl,es2,eu2,hW2,hU2,hh⟩:=B3 (prim:=prim) (d+1) C.hp C.hG X C.hV C.hXr C.hpR (C.hCl (d+10)) (C.hCn (d+10)) (H++S2) xb bb pb mw mu sv kv es eu hT0 k s t h1 h2 h3 h4 ⟨(H++S2).length,mapsIn (H++S2),(H++S2).length⟩ MW.self (Nat.le_refl _)
 rw[List.set_append_left _ _ hmwl,List.set_append_left _ _ (by simpa using hmul)]at hh
 have hks:ab (H++S2) H.length=some (X.sec k):=by rw[← hS2];simp[ab,km]
 have hall:=eq_true (List.all_eq_true.1 hM0.all)
 simp only[Bool.and_eq_true,decide_eq_true_eq,List.length_append]at hall hGl
 have m5:md 57=5:=rfl
 obtain⟨hv1,hv2⟩:=gR hh.head
 simp(disch:=omega)[kf,hS2]
 refine ai 12 (by kernel_rfl) ?_
 simp(disch:=omega)[hks,kl,kt,k2,m5,hall,hGl,hv1,hv2]
 refine⟨iy fun q hq=>?_,?_⟩
 ·simp only[List.mem_cons,List.not_mem_nil,or_false]at hq
  rcases hq with rfl|rfl
  ·exact⟨_,hks⟩
  ·exact⟨_,hks⟩
 have hle:=hh.le
 simp only[List.length_append,List.length_set,hS2l]at hle
 have hwH:cf.wr H2.length=true:=bE (by omega)
 have hth:cf.thr≤H2.length:=by omega
 have hln0:[V.int .i64 s,.int .i64 t,.int .i64 (X.base k),.int .i64 0,.int .i64 y,.int .i64 0,.int .i64 0,.int .i64 0,.int .i64 0,v]=bH ⟨s,t,X.base k,0,y,0,0,0,0⟩ v:=rfl
 rw[hln0]
 have g1:=hh.new (cs:=bH ⟨s,t,X.base k,0,y,0,0,0,0⟩ v) (n:=1) (k:=10) rfl rfl []
 have hT1:=hT.ext g1 hW2 hU2
 have hW0:=fun cfg=>DW (prim:=prim) (d+8) hp X hV.n cfg (H2++[some (bH ⟨s,t,X.base k,0,y,0,0,0,0⟩ v)]) xb pb mw mu _ sv kv hT1.hx s t h2 (by omega)
 have hks2:∀ {Hc:Heap} {os:List Own},Hp Hc ((H.set mw (wB es2)).set mu (uB eu2)++S2) os→ab Hc H.length=some (X.sec k):=fun h=>by
  rw[h.block (by simp;omega),← hS2]
  simp[ab,km]
 clear hGl hh hall
 simp(disch:=omega)[hwH,hth,-dF]
 rw[dF]
 have hlglE:X.lgl k s t=if t<k.2 then (X.gls k s t).map fun g=>if (X.wht s t:Int)≤g.f then { g with a:=0 } else g else X.gls k s t:=rfl
 generalize hwv:X.wht s t=wv at *
 generalize H2.length=lb at *
 generalize hH3:H2++[some (bH ⟨s,t,X.base k,0,y,0,0,0,0⟩ v)]=H3 at *
 generalize X.gls k s t=gs at *
 refine iL (fun fr' Hc=>Hp Hc ((H.set mw (wB es2)).set mu (uB eu2)++S2) [(10,.sl lb 0 1 1 10,bH ⟨s,t,X.base k,0,y,0,0,0,0⟩ v),(8,v,(X.lgl k s t).flatMap au)] ∧
  Slots 200 [(0,.ptr xb 0),(2,.int .i64 s),(3,.int .i64 t),(6,.ptr H.length 0),(10,.ptr (H.length+1) 0),(11,.ptr lb 0)] fr') ?_ ?_
 · --A<
  have hk3:=hks2 g1
  simp(disch:=omega)[hW0,hk3,k1]
  by_cases htk:t<k.2
  ·rw[if_pos htk]at hlglE
   have hl3:=g1.head.at.2.2.1
   have l9:slot (bH ⟨s,t,X.base k,0,y,0,0,0,0⟩ v) 9=some v:=rfl
   have ll:(bH ⟨s,t,X.base k,0,y,0,0,0,0⟩ v).length=10:=rfl
   have hlen:=g1.snd.lenF aP (by omega) hu
   generalize hL0:bH ⟨s,t,X.base k,0,y,0,0,0,0⟩ v=L0 at *
   simp(disch:=omega)[htk,hl3,l9,hlen]
   generalize hgA:(gs.map fun g=>if (wv:Int)≤g.f then { g with a:=0 } else g)=gsA at *
   have hAl:gsA.length=gs.length:=by rw[← hgA];simp
   have hAg:∀ (i:Nat) (g:Gly),gs[i]?=some g→gsA[i]?=some (if (wv:Int)≤g.f then { g with a:=0 } else g):=fun i g h=>by rw[← hgA,List.getElem?_map,h];rfl
   refine aj (fun m fr Hc=>∃ i:Nat,i≤gs.length∧m=gs.length-i∧Hp Hc ((H.set mw (wB es2)).set mu (uB eu2)++S2) [(10,.sl lb 0 1 1 10,L0),(8,v,(gsA.take i++gs.drop i).flatMap au)] ∧
    Slots 200 [(0,.ptr xb 0),(2,.int .i64 s),(3,.int .i64 t),(6,.ptr H.length 0),(10,.ptr (H.length+1) 0),(11,.ptr lb 0),(12,.int .i64 wv),(43,.int .i64 gs.length),(44,.int .i64 i)] fr) (m:=gs.length) (by omega) ⟨0,by omega,by omega,by simpa using g1,by simp⟩ ?_
   clear g1 hl3 hk3 hlen
   rintro m fr Hc ⟨i,hi,rfl,hhp,hs⟩
   obtain⟨j,rfl⟩:=hs.ex
   clear hs
   by_cases hlt:i<gs.length
   ·have hI:(i:Int)<gs.length:=by omega
    obtain⟨g,hg⟩:=atG hlt
    have hA:=hAg i g hg
    have hst:=@ba _ _ _ hAl i
    have hat:=xM hAl (Nat.le_refl i)
    rw[hg]at hat
    have hse:=dt hAl hA
    have hsm:=fun h=>gZ hAl hA h
    have hst2:=@ba _ _ _ hAl (i+1)
    generalize hS1:gsA.take (i+1)++gs.drop (i+1)=st1 at *
    generalize gsA.take i++gs.drop i=st at *
    obtain⟨vb,rfl,hb1,hb2,hb3⟩:=hhp.snd.posF aP (by omega) (by omega)
    simp only[List.length_append,List.length_set,hS2l]at hb1
    have hl3:=hhp.head.at.2.2.1
    have w2:slot (st.flatMap au) (i*8+2)=some (.int .i64 g.f):=by rw[eb aP (by omega) hat];rfl
    have w5:bV (st.flatMap au) (i*8+5) (.int .i64 0)=(st.set i { g with a:=0 }).flatMap au:=gJ aP (by omega) hat rfl
    have hfl:=br st
    have q8:i*8+8≤gs.length*8:=by omega
    have q9:i*8+5+1≤gs.length*8:=by omega
    have hwb:cf.wr vb=true:=bE (by omega)
    simp(disch:=omega)[hI,hl3,l9,hb3,w2,hst,-getElem?_pos]
    refine ak (fun hw=>?_) (fun hw=>?_)
    ·have hw2:(wv:Int)≤g.f:=by simpa using hw
     rw[if_pos hw2]at hse
     have hh2:=(hhp.swap.setO (cs':=(st.set i { g with a:=0 }).flatMap au) (fA _) (by rw[br,br,List.length_set])).swap
     simp(disch:=omega)[hl3,l9,hb3,hst,hfl,hwb,w5,q9,wrap64,-getElem?_pos]
     exact ae (m':=gs.length-(i+1)) (by omega) ⟨i+1,by omega,rfl,by rw[hS1,← hse];exact hh2,by simp(disch:=omega)⟩
    ·have hw2:¬ (wv:Int)≤g.f:=by simpa using hw
     rw[if_neg hw2]at hsm
     simp(disch:=omega)[wrap64,-getElem?_pos]
     exact ae (m':=gs.length-(i+1)) (by omega) ⟨i+1,by omega,rfl,by rw[hS1,← hsm hg];exact hhp,by simp(disch:=omega)⟩
   ·obtain rfl:i=gs.length:=by omega
    have hI:¬ ((gs.length:Int)<gs.length):=by omega
    rw[dq hAl (Nat.le_refl _)]at hhp
    simp(disch:=omega)[hI]
    exact bx ⟨by rw[hlglE];exact hhp,by simp⟩
  ·rw[if_neg htk]at hlglE
   simp(disch:=omega)[htk]
   exact bx ⟨by rw[hlglE];exact g1,by simp⟩
  --A>
 clear hW0 hT1 g1 hH3 hks hH0 hT0 hM0 hgl hgr
 obtain⟨L,hLE⟩:∃ L,X.spans s t=L:=⟨_,rfl⟩
 have hsn:=hV.sn
 have hLl:0<L.length∧L.length≤90∧∀ x∈L,0≤x∧x<X.p.s.length:=by
  have hsl:=hV.sp
  rw[← hLE]
  unfold Txt.spans
  split
  ·refine⟨by simp;omega,by simp;omega,fun x hx=>?_⟩
   exact hV.spm x (List.mem_of_mem_take (List.mem_of_mem_drop hx))
  ·refine⟨by simp,by simp,fun x hx=>?_⟩
   simp at hx
   omega
 rintro _ Hc ⟨hhp,hs⟩
 obtain⟨j,rfl⟩:=hs.ex
 clear hs
 have hT1:=hT.ext hhp hW2 hU2
 have hxb1:=hT1.hx
 have hxl1:=aw hxb1
 have hle1:=hhp.le
 simp only[List.length_append,List.length_set,hS2l]at hle1
 rw[dF]
 simp(disch:=omega)[hxb1,x1,-dF]
 rw[dF]
 refine iL (fun fr' Hd=>∃ b off cap cells,b≠lb∧Hp Hd ((H.set mw (wB es2)).set mu (uB eu2)++S2) [(10,.sl lb 0 1 1 10,bH ⟨s,t,X.base k,0,y,0,0,0,0⟩ v),(8,v,(X.lgl k s t).flatMap au)]∧ab Hd b=some cells∧(∀ i x,L[i]?=some x→slot cells (off+i)=some (.int .i64 x))∧off+L.length≤cells.length ∧
  Slots 200 [(0,.ptr xb 0),(6,.ptr H.length 0),(10,.ptr (H.length+1) 0),(11,.ptr lb 0),(14,.sl b off L.length cap 1)] fr') ?_ ?_
 ·by_cases hst:s<t
  ·have hLs:L=(X.sp.take t).drop s:=by rw[← hLE];unfold Txt.spans;rw[if_pos hst]
   have hspl:=hV.sp
   obtain⟨sb,ns,hsv,hns,hsb1,hsb2,_⟩:=hT.hs.pos (by intro e;have:=congrArg List.length e;simp at this;rw[this]at hspl;simp at hspl;omega)
   have hsb3:ab Hc sb=some (X.sp.map (V.int .i64)):=by
    have:=hT1.hs
    rw[hsv]at this
    exact this.at.2.2.1
   have hnsE:ns=X.p.t.length:=by simp at hns;omega
   rw[hsv]at x9
   rw[← hsv]at x9
   have x9':slot (txC X (.sl bb 0 (X.p.t.length+1) (X.p.t.length+1) 1) sv kv pb mw mu) 9=some (.sl sb 0 ns ns 1):=by rw[x9,hsv]
   have hlbH:=hhp.head.at.1
   simp only[List.length_append,List.length_set,hS2l]at hlbH
   have hLl2:L.length=t-s:=by rw[hLs];simp;omega
   have hst2:s≤t:=by omega
   have hst3:t≤ns:=by omega
   simp(disch:=omega)[hst,hxb1,x9',wrap64,-getElem?_pos]
   have hsle:(if s=0 then some (V.sl sb 0 t ns 1) else if s=t then some (V.lst []) else some (V.sl sb s (t-s) (ns-s) 1))=some (V.sl sb s (t-s) (ns-s) 1):=by
    by_cases hs0:s=0
    ·rw[if_pos hs0,hs0];rfl
    ·rw[if_neg hs0,if_neg (by omega)]
   rw[hsle]
   simp(disch:=omega)
   refine bx ⟨sb,s,ns-s,_,by omega,hhp.push _,by rw[al (by omega)];exact hsb3,fun i x hx=>?_,by simp;omega,?_⟩
   ·have hi:=(List.getElem?_eq_some_iff.1 hx).1
    rw[hLs,List.getElem?_drop,List.getElem?_take_of_lt (by omega)]at hx
    rw[slot,List.getElem?_map,hx]
    rfl
   ·rw[hLl2]
    simp
  ·have hLs:L=[(X.p.s.length:Int)-1]:=by rw[← hLE];unfold Txt.spans;rw[if_neg hst]
   have hlb2:=hhp.head.at.2.1
   simp(disch:=omega)[hst]
   refine bx ⟨Hc.length,0,1,_,by omega,hhp.push _,by simp[ab,isMap];rfl,fun i x hx=>?_,by rw[hLs];simp,?_⟩
   ·rw[hLs]at hx
    rcases i with _|i
    ·simp at hx
     rw[wrap64 (by omega) (by omega)]
     simp[slot,hx]
    ·simp at hx
   ·rw[hLs]
    simp
 clear hxb1 hxl1 hle1 hT1 hhp
 rintro _ Hc2 ⟨b,off,cap,cells,hbl,hhp,hbc,hcell,hoff,hs⟩
 obtain⟨j2,rfl⟩:=hs.ex
 clear hs
 have hAr:∀ x∈L,X.asc x≤5000000∧0≤X.asc x∧X.des x≤5000000∧0≤X.des x∧X.hei x≤15000000∧0≤X.hei x:=fun x hx=>by
  have hx2:=hLl.2.2 x hx
  obtain⟨q,rfl⟩:∃ q:Nat,x=q:=⟨x.toNat,by omega⟩
  obtain⟨sp,f,g1,g2,g3,g4,g5,g6,g7,g8,g9,g10⟩:=hV.at (q:=q) (by omega)
  have h8:=kR g7 g5 g6
  rw[g8,g9,g10]
  omega
 rw[dF]
 refine iL (fun fr' Hd=>Hp Hd ((H.set mw (wB es2)).set mu (uB eu2)++S2) [(10,.sl lb 0 1 1 10,bH ⟨s,t,X.base k,0,y,0,mx X.asc L,mx X.des L,mx X.hei L⟩ v),(8,v,(X.lgl k s t).flatMap au)] ∧
  Slots 200 [(0,.ptr xb 0),(6,.ptr H.length 0),(10,.ptr (H.length+1) 0),(11,.ptr lb 0)] fr') ?_ ?_
 · --B<
  simp(disch:=omega)
  refine aj (fun m fr Hc=>∃ i:Nat,i≤L.length∧m=L.length-i∧Hp Hc ((H.set mw (wB es2)).set mu (uB eu2)++S2) [(10,.sl lb 0 1 1 10,bH ⟨s,t,X.base k,0,y,0,mx X.asc (L.take i),mx X.des (L.take i),mx X.hei (L.take i)⟩ v),(8,v,(X.lgl k s t).flatMap au)]∧ab Hc b=some cells ∧
   Slots 200 [(0,.ptr xb 0),(6,.ptr H.length 0),(10,.ptr (H.length+1) 0),(11,.ptr lb 0),(79,.sl b off L.length cap 1),(80,.int .i64 L.length),(81,.int .i64 i)] fr) (m:=L.length) (by omega) ⟨0,by omega,by omega,by simpa[mx]using hhp,hbc,by simp⟩ ?_
  clear hhp hbc
  rintro m fr Hc ⟨i,hi,rfl,hhp,hbc,hs⟩
  obtain⟨j3,rfl⟩:=hs.ex
  clear hs
  by_cases hlt:i<L.length
  ·have hI:(i:Int)<L.length:=by omega
   have hx:=atI hlt
   have hc0:=hcell i _ hx
   have hxr:=hLl.2.2 _ (List.mem_of_getElem? hx)
   have hma:=sT (f:=X.asc) hx
   have hmd:=sT (f:=X.des) hx
   have hmh:=sT (f:=X.hei) hx
   have hra:=gy (f:=X.asc) (M:=5000000) (by omega) (l:=L.take i) fun x hx=>(hAr x (List.mem_of_mem_take hx)).1
   have hrd:=gy (f:=X.des) (M:=5000000) (by omega) (l:=L.take i) fun x hx=>(hAr x (List.mem_of_mem_take hx)).2.2.1
   have hrh:=gy (f:=X.hei) (M:=15000000) (by omega) (l:=L.take i) fun x hx=>(hAr x (List.mem_of_mem_take hx)).2.2.2.2.1
   generalize lgI L i=x at *
   obtain⟨q,rfl⟩:∃ q:Nat,x=q:=⟨x.toNat,by omega⟩
   obtain⟨sp,f,hq,hf,h71,h72,h73,h74,hfv,hAE,hDE,hHE⟩:=hV.at (q:=q) (by omega)
   rw[hAE]at hma
   rw[hDE]at hmd
   rw[hHE]at hmh
   obtain⟨fi,hfi⟩:∃ x:Nat,sp.n=x:=⟨sp.n.toNat,by omega⟩
   rw[hfi,Int.toNat_natCast]at hf
   have hT1:=hT.ext hhp hW2 hU2
   have hxb1:=hT1.hx
   have hxl1:=aw hxb1
   have hsl4:(cb sp).length=4:=rfl
   have u2:slot (cb sp) 2=some (.int .i64 fi):=by rw[← hfi];rfl
   have u3:slot (cb sp) 3=some (.int .i64 sp.z):=rfl
   have hfn4:(aH f).length=8:=rfl
   have hft4:List.take 8 (aH f)=aH f:=rfl
   have hff4:(∀ x∈aH f,x.leaf=true)=True:=eq_true (by simp[aH])
   have hfm:isMap (aH f)=false:=rfl
   have q1:off+i+1≤cells.length:=by omega
   have hfr:(∀ x∈aH f,x.rf=true)=True:=eq_true (by simp[aH])
   have hpa:putAt [V.int .i64 0,.int .i64 0,.int .i64 0,.int .i64 0,.int .i64 0,.nils,.nils,.nils] 0 (aH f)=aH f:=rfl
   have hle1:=hhp.le
   simp only[List.length_append,List.length_set,hS2l]at hle1
   have hwH:cf.wr Hc.length=true:=bE (by omega)
   have hwH2:Cfg.wr ⟨Hc.length+1,[Hc.length],Hc.length+1⟩ Hc.length=true:=by simp[Cfg.wr]
   simp(disch:=omega)[hI,hbc,hc0]
   refine ai 26 (by kernel_rfl) ?_
   simp (maxSteps:=1000000) (disch:=omega)[hxb1,x1,x5,hq,hsl4,u2,u3,hf,hfn4,hft4,hff4,hfr,hpa,hwH,hwH2,-getElem?_pos]
   refine⟨by omega,?_⟩
   have hA:=fun cfg h=>ym (prim:=prim) (d+5) cfg h hp f hfv sp.z h73 h74
   have hD:=fun cfg h=>pd (prim:=prim) (d+6) cfg h hp f hfv sp.z h73 h74
   have hHh:=fun cfg h=>Er (prim:=prim) (d+4) cfg h hp f hfv sp.z h73 h74
   have hrz:=kR hfv h73 h74
   have g1:=hhp.push [some (aH f)]
   have hbc2:ab (Hc++[some (aH f)]) b=some cells:=by rw[al (aw hbc)];exact hbc
   have hft2:ab (Hc++[some (aH f)]) Hc.length=some (aH f):=by simp[ab,hfm]
   have hl3:=g1.head.at.2.2.1
   have hlbl:=hhp.head.at
   simp only[List.length_append,List.length_set,hS2l]at hlbl
   have hwl:cf.wr lb=true:=bE (by omega)
   have hln5:(Hc++[some (aH f)]).length=Hc.length+1:=by simp
   generalize hHd:Hc++[some (aH f)]=Hd at *
   generalize hft:Hc.length=ft at *
   have mA:md 59=0:=rfl
   have mD:md 60=0:=rfl
   have mH:md 61=0:=rfl
   obtain⟨va,hva⟩:∃ x,mx X.asc (L.take i)=x:=⟨_,rfl⟩
   obtain⟨vd,hvd⟩:∃ x,mx X.des (L.take i)=x:=⟨_,rfl⟩
   obtain⟨vh,hvh⟩:∃ x,mx X.hei (L.take i)=x:=⟨_,rfl⟩
   rw[hva]at hl3 hma hra
   rw[hvd]at hl3 hmd hrd
   rw[hvh]at hl3 hmh hrh
   rw[hva,hvd,hvh]at g1
   have l6:slot (bH ⟨s,t,X.base k,0,y,0,va,vd,vh⟩ v) 6=some (.int .i64 va):=rfl
   have l7:slot (bH ⟨s,t,X.base k,0,y,0,va,vd,vh⟩ v) 7=some (.int .i64 vd):=rfl
   have l8:slot (bH ⟨s,t,X.base k,0,y,0,va,vd,vh⟩ v) 8=some (.int .i64 vh):=rfl
   have ll:(bH ⟨s,t,X.base k,0,y,0,va,vd,vh⟩ v).length=10:=rfl
   refine ai 19 (by kernel_rfl) ?_
   have hmx:∀ a b:Int,(if a<b then b else a)=max a b:=fun a b=>by split<;>omega
   have hs6:∀ a d h z,bV (bH ⟨s,t,X.base k,0,y,0,a,d,h⟩ v) 6 (.int .i64 z)=bH ⟨s,t,X.base k,0,y,0,z,d,h⟩ v:=fun _ _ _ _=>rfl
   have hs7:∀ a d h z,bV (bH ⟨s,t,X.base k,0,y,0,a,d,h⟩ v) 7 (.int .i64 z)=bH ⟨s,t,X.base k,0,y,0,a,z,h⟩ v:=fun _ _ _ _=>rfl
   have hs8:∀ a d h z,bV (bH ⟨s,t,X.base k,0,y,0,a,d,h⟩ v) 8 (.int .i64 z)=bH ⟨s,t,X.base k,0,y,0,a,d,z⟩ v:=fun _ _ _ _=>rfl
   have hlm:∀ a d h,isMap (bH ⟨s,t,X.base k,0,y,0,a,d,h⟩ v)=false:=fun _ _ _=>rfl
   have hlk:∀ a d h,(bH ⟨s,t,X.base k,0,y,0,a,d,h⟩ v).length=10:=fun _ _ _=>rfl
   have hbl3:lb<Hd.length:=by omega
   have g2:=g1.setO (cs':=bH ⟨s,t,X.base k,0,y,0,max va (oD f sp.z),max vd (mg f sp.z),max vh (uE f sp.z)⟩ v) rfl rfl
   simp (maxSteps:=1000000) (disch:=omega)[hl3,l6,l7,l8,hlk,hlm,hft2,hfn4,hft4,mA,mD,mH,hA,hD,hHh,nz,hmx,hs6,hs7,hs8,hwl,wrap64,-getElem?_pos]
   exact ae (m':=L.length-(i+1)) (by omega) ⟨i+1,by omega,rfl,by rw[hma,hmd,hmh];exact g2,by rw[ar (Ne.symm hbl)];exact hbc2,by simp(disch:=omega)⟩
  ·obtain rfl:i=L.length:=by omega
   have hI:¬ ((L.length:Int)<L.length):=by omega
   rw[List.take_length]at hhp
   simp(disch:=omega)[hI]
   exact bx ⟨hhp,by simp⟩
  --B>
 clear hbc hcell hoff hhp
 have hra:=gy (f:=X.asc) (M:=5000000) (by omega) (l:=L) fun x hx=>(hAr x hx).1
 have hrd:=gy (f:=X.des) (M:=5000000) (by omega) (l:=L) fun x hx=>(hAr x hx).2.2.1
 have hrh:=gy (f:=X.hei) (M:=15000000) (by omega) (l:=L) fun x hx=>(hAr x hx).2.2.2.2.1
 have hlg:(X.lgl k s t).length≤8100∧∀ g∈X.lgl k s t,0≤g.a∧g.a≤10000000:=by
  obtain⟨h8,h9⟩:=hV.gls h1 h2 h3 h4 h5
  unfold Txt.lgl
  split
  ·refine⟨by simpa using h8,fun g hg=>?_⟩
   obtain⟨g',hg',rfl⟩:=List.mem_map.1 hg
   have:=h9 g' hg'
   split
   ·simp
   ·exact this
  ·exact⟨h8,h9⟩
 have hlinE:X.lin k s t y=⟨⟨s,t,X.base k,X.lx k s t,y,cw (X.lgl k s t),mx X.asc L,mx X.des L,max (mx X.hei L) (mx X.asc L+mx X.des L)⟩,.lst ((dU (X.lx k s t) (X.lgl k s t)).map au),dU (X.lx k s t) (X.lgl k s t)⟩:=by
  rw[← hLE];rfl
 have hlxE:X.lx k s t=if X.p.a=2 then (X.p.w-cw (X.lgl k s t)) / 2 else if X.p.a=1↔(X.base k).tmod 2=0 then X.p.w-cw (X.lgl k s t) else 0:=rfl
 have hwsr:=gh hlg.2 _ (Nat.le_refl _)
 rw[List.take_length]at hwsr
 generalize X.lx k s t=lxv at *
 generalize mx X.asc L=va at *
 generalize mx X.des L=vd at *
 generalize mx X.hei L=vh at *
 generalize X.lgl k s t=gl at *
 rintro _ Hc ⟨hhp,hs⟩
 obtain⟨j,rfl⟩:=hs.ex
 clear hs
 have hlk:∀ l,(bH l v).length=10:=fun _=>rfl
 have hlm:∀ l,isMap (bH l v)=false:=fun _=>rfl
 have l6:∀ l,slot (bH l v) 6=some (.int .i64 l.a):=fun _=>rfl
 have l7:∀ l,slot (bH l v) 7=some (.int .i64 l.d):=fun _=>rfl
 have l8:∀ l,slot (bH l v) 8=some (.int .i64 l.h):=fun _=>rfl
 have l5:∀ l,slot (bH l v) 5=some (.int .i64 l.w):=fun _=>rfl
 have l3:∀ l,slot (bH l v) 3=some (.int .i64 l.x):=fun _=>rfl
 have l9:∀ l,slot (bH l v) 9=some v:=fun _=>rfl
 have hs8:∀ l z,bV (bH l v) 8 (.int .i64 z)=bH { l with h:=z } v:=fun _ _=>rfl
 have hs5:∀ l z,bV (bH l v) 5 (.int .i64 z)=bH { l with w:=z } v:=fun _ _=>rfl
 have hs3:∀ l z,bV (bH l v) 3 (.int .i64 z)=bH { l with x:=z } v:=fun _ _=>rfl
 have hmx:∀ a b:Int,(if a<b then b else a)=max a b:=fun a b=>by split<;>omega
 have hl3:=hhp.head.at.2.2.1
 have hlbl:=hhp.head.at
 simp only[List.length_append,List.length_set,hS2l]at hlbl
 have hwl:cf.wr lb=true:=bE (by omega)
 have hbl3:lb<Hc.length:=hlbl.2.1
 rw[dF]
 simp(disch:=omega)[hl3,l6,l7,l8,hlk,nz,hmx,hs8,hwl,wrap64,-getElem?_pos,-dF]
 have g1:=hhp.setO (cs':=bH ⟨s,t,X.base k,0,y,0,va,vd,max vh (va+vd)⟩ v) rfl rfl
 have hbl4:lb<(Hc.set lb (some (bH ⟨s,t,X.base k,0,y,0,va,vd,max vh (va+vd)⟩ v))).length:=by simpa using hbl3
 clear hhp hl3
 generalize Hc.set lb (some (bH ⟨s,t,X.base k,0,y,0,va,vd,max vh (va+vd)⟩ v))=Hd at *
 have hl3:=g1.head.at.2.2.1
 have hWd:=fun cfg=>I4 (prim:=prim) (d+12) hp cfg Hd _ v gl g1.snd hlg.1 hlg.2
 rw[dF]
 simp(disch:=omega)[hl3,l9,hlk,hWd,hs5,hwl,-getElem?_pos,-dF]
 have g2:=g1.setO (cs':=bH ⟨s,t,X.base k,0,y,cw gl,va,vd,max vh (va+vd)⟩ v) rfl rfl
 have hbl5:lb<(Hd.set lb (some (bH ⟨s,t,X.base k,0,y,cw gl,va,vd,max vh (va+vd)⟩ v))).length:=by simpa using hbl4
 clear g1 hl3 hWd
 generalize Hd.set lb (some (bH ⟨s,t,X.base k,0,y,cw gl,va,vd,max vh (va+vd)⟩ v))=He at *
 have hl3:=g2.head.at.2.2.1
 have hT1:=hT.ext g2 hW2 hU2
 have hxb1:=hT1.hx
 have hks1:=hks2 g2
 have hw5:=hV.w
 rw[dF]
 refine ai 7 (by kernel_rfl) ?_
 simp(disch:=omega)[hl3,l5,hxb1,x4,wrap64,-getElem?_pos,-dF]
 rw[dF]
 have hlr:-100000000000≤lxv∧lxv≤100000000000:=by
  rw[hlxE]
  split
  ·omega
  ·split<;>omega
 refine iL (fun fr' Hf=>Hp Hf ((H.set mw (wB es2)).set mu (uB eu2)++S2) [(10,.sl lb 0 1 1 10,bH ⟨s,t,X.base k,lxv,y,cw gl,va,vd,max vh (va+vd)⟩ v),(8,v,gl.flatMap au)] ∧
  Slots 200 [(10,.ptr (H.length+1) 0),(11,.ptr lb 0)] fr') ?_ ?_
 · --C<
  have hFl:=fun cfg h=>wJ (prim:=prim) (d+11) cfg h hp (X.p.w-cw gl) (by omega) (by omega)
  by_cases ha2:X.p.a=2
  ·rw[if_pos ha2]at hlxE
   have g3:=g2.setO (cs':=bH ⟨s,t,X.base k,lxv,y,cw gl,va,vd,max vh (va+vd)⟩ v) rfl rfl
   rw[hlxE]at g3 ⊢
   simp(disch:=omega)[hxb1,x3,ha2,hFl,hl3,hlk,hs3,hwl]
   exact bx ⟨g3,by simp⟩
  ·rw[if_neg ha2]at hlxE
   simp(disch:=omega)[hxb1,x3,ha2]
   refine ai 10 (by kernel_rfl) ?_
   by_cases hcb:X.p.a=1↔(X.base k).tmod 2=0
   ·rw[if_pos hcb]at hlxE
    have g3:=g2.setO (cs':=bH ⟨s,t,X.base k,lxv,y,cw gl,va,vd,max vh (va+vd)⟩ v) rfl rfl
    have hdd:(decide (X.p.a=1)==decide ((X.base k).tmod 2=0))=true:=by by_cases h:X.p.a=1<;>simp_all
    rw[hlxE]at g3 ⊢
    simp(disch:=omega)[hxb1,x3,hks1,k2,hdd,hl3,hlk,hs3,hwl]
    exact bx ⟨g3,by simp⟩
   ·rw[if_neg hcb]at hlxE
    have hdd:(decide (X.p.a=1)==decide ((X.base k).tmod 2=0))=false:=by by_cases h:X.p.a=1<;>simp_all
    simp(disch:=omega)[hxb1,x3,hks1,k2,hdd]
    exact bx ⟨by rw[hlxE];exact g2,by simp⟩
  --C>
 clear hlxE hxb1 hks1 hT1 hl3 g2 hbl5 hlbl hbl3 hbl4
 rintro _ Hf ⟨hhp,hs⟩
 obtain⟨j2,rfl⟩:=hs.ex
 clear hs
 have hl3:=hhp.head.at.2.2.1
 have hlen:=hhp.snd.lenF aP (by omega) hu
 have hpl:=@gT gl lxv
 simp(disch:=omega)[hl3,l3,l9,hlen]
 refine aj (fun m fr Hc=>∃ i:Nat,i≤gl.length∧m=gl.length-i∧Hp Hc ((H.set mw (wB es2)).set mu (uB eu2)++S2) [(10,.sl lb 0 1 1 10,bH ⟨s,t,X.base k,lxv,y,cw gl,va,vd,max vh (va+vd)⟩ v),(8,v,((dU lxv gl).take i++gl.drop i).flatMap au)] ∧
  Slots 200 [(10,.ptr (H.length+1) 0),(11,.ptr lb 0),(20,.int .i64 (lxv+cw (gl.take i))),(180,.int .i64 gl.length),(181,.int .i64 i)] fr) (m:=gl.length) (by omega) ⟨0,by omega,by omega,by simpa using hhp,by simp[cw]⟩ ?_
 clear hhp hl3 hlen
 rintro m fr Hc ⟨i,hi,rfl,hhp,hs⟩
 obtain⟨j3,rfl⟩:=hs.ex
 clear hs
 have hl3:=hhp.head.at.2.2.1
 by_cases hlt:i<gl.length
 · --D<
  have hI:(i:Int)<gl.length:=by omega
  obtain⟨g,hg⟩:=atG hlt
  have hA:=lL (x:=lxv) hg
  have hst:=@ba _ _ _ hpl i
  have hat:=xM hpl (Nat.le_refl i)
  rw[hg]at hat
  have hse:=dt hpl hA
  have hst2:=@ba _ _ _ hpl (i+1)
  have hN:=ic hg
  have hgr2:=hlg.2 g (List.mem_of_getElem? hg)
  have hNr:=gh hlg.2 i (by omega)
  generalize hS1:(dU lxv gl).take (i+1)++gl.drop (i+1)=st1 at *
  generalize (dU lxv gl).take i++gl.drop i=st at *
  obtain⟨vb,rfl,hb1,hb2,hb3⟩:=hhp.snd.posF aP (by omega) (by omega)
  simp only[List.length_append,List.length_set,hS2l]at hb1
  have w4:bV (st.flatMap au) (i*8+4) (.int .i64 (lxv+cw (gl.take i)))=st1.flatMap au:=by rw[gJ aP (by omega) hat (x':={ g with x:=lxv+cw (gl.take i) }) rfl,hse]
  have hfl:=br st
  have hfl1:=br st1
  have w5:slot (st1.flatMap au) (i*8+5)=some (.int .i64 g.a):=by rw[eb aP (by omega) (show st1[i]?=some { g with x:=lxv+cw (gl.take i) } by rw[← hse,List.getElem?_set_self (by omega)])];rfl
  have q8:i*8+8≤gl.length*8:=by omega
  have q9:i*8+4+1≤gl.length*8:=by omega
  have hwb:cf.wr vb=true:=bE (by omega)
  have hne:lb≠vb:=fun e=>(List.pairwise_cons.1 hhp.dj).1 _ (List.mem_cons_self ..) lb rfl (by rw[e];rfl)
  have hh2:=(hhp.swap.setO (cs':=st1.flatMap au) (fA _) (by rw[br,br];omega)).swap
  have hl4:=hh2.head.at.2.2.1
  have hb4:ab (Hc.set vb (some (st1.flatMap au))) vb=some (st1.flatMap au):=hh2.snd.at.2.2.1
  simp only[hst]at l9 hl3 hl4 hb4 hlk hh2
  simp(disch:=omega)[hI,hl3,l9,hb3,hst,hfl,q9,hwb,w4,hl4,hb4,w5,wrap64,-getElem?_pos]
  exact ae (m':=gl.length-(i+1)) (by omega) ⟨i+1,by omega,rfl,by rw[hS1,hst];exact hh2,by rw[hN,← Int.add_assoc];simp(disch:=omega)⟩
  --D>
 ·obtain rfl:i=gl.length:=by omega
  have hI:¬ ((gl.length:Int)<gl.length):=by omega
  rw[dq hpl (Nat.le_refl _)]at hhp
  have ht10:∀ l,List.take 10 (bH l v)=bH l v:=fun _=>rfl
  have hlf:∀ l,(∀ x∈bH l v,x.leaf=true)=True:=fun l=>eq_true (by simp[bH,hv2])
  have hpa:∀ l,putAt [V.int .i64 0,.int .i64 0,.int .i64 0,.int .i64 0,.int .i64 0,.int .i64 0,.int .i64 0,.int .i64 0,.int .i64 0,.nils] 0 (bH l v)=bH l v:=fun _=>rfl
  have hz1:ab Hc (H.length+1)=some [V.int .i64 0,.int .i64 0,.int .i64 0,.int .i64 0,.int .i64 0,.int .i64 0,.int .i64 0,.int .i64 0,.int .i64 0,.nils]:=by
   rw[hhp.block (by simp;omega),← hS2]
   simp[ab,isMap]
  have hwz:cf.wr (H.length+1)=true:=bE (by omega)
  have hth1:cf.thr≤H.length+1:=by omega
  have hz2:H.length+1<Hc.length:=aw hz1
  have hset:ab (Hc.set (H.length+1) (some (bH ⟨s,t,X.base k,lxv,y,cw gl,va,vd,max vh (va+vd)⟩ v))) (H.length+1)=some (bH ⟨s,t,X.base k,lxv,y,cw gl,va,vd,max vh (va+vd)⟩ v):=by
   simp[ab,hz2,hlm]
  simp(disch:=omega)[hI,hl3,hlk,ht10,hlf,hpa,hz1,hwz,hth1,hset]
  have hh3:=hhp.set (b:=H.length+1) (by simp;omega) (some (bH ⟨s,t,X.base k,lxv,y,cw gl,va,vd,max vh (va+vd)⟩ v))
  have hfz:frz (Hc.set (H.length+1) (some (bH ⟨s,t,X.base k,lxv,y,cw gl,va,vd,max vh (va+vd)⟩ v))) H.length 5 v=some (.lst ((dU lxv gl).map au)):=
   OwnC.frzF (d:=3) aP (by omega) hh3.snd (by simp) (fun _=>rfl) (fun g c hc=>by simp[au]at hc;rcases hc with rfl|rfl|rfl|rfl|rfl|rfl|rfl|rfl<;>simp)
  refine⟨.agg (bH ⟨s,t,X.base k,lxv,y,cw gl,va,vd,max vh (va+vd)⟩ (.lst ((dU lxv gl).map au))),⟨_,?_,rfl⟩,?_,es2,hW2,eu2,hU2,?_⟩
  ·generalize Hc.set (H.length+1) (some (bH ⟨s,t,X.base k,lxv,y,cw gl,va,vd,max vh (va+vd)⟩ v))=HH at *
   simp[bH,hfz]
  ·rw[hlinE]
   rfl
  ·have:=yw hhp
   rw[List.take_set_of_le (by omega)]
   simpa using this
end
end Bi
end Go.Ab
