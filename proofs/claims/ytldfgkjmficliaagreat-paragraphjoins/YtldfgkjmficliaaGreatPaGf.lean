/- The program: the width of a line without the white space at its end. -/
import Derived.Test.YtldfgkjmficliaaGreatPaGp
set_option linter.unusedSimpArgs false
set_option linter.unusedVariables false
namespace Go.Ab
open Go.Proofs
namespace Bi
attribute [local congr] az
theorem vl:∀ {l:List Gly}{x:Int}{g:Gly},g∈dU x l→∃ g'∈l,g.a=g'.a
 | [],_,_,h=>by simp[dU]at h
 | y::l,x,g,h=>by
  rw[dU]at h
  rcases List.mem_cons.1 h with rfl|h
  ·exact⟨y,by simp,rfl⟩
  ·obtain⟨g',h1,h2⟩:=vl h
   exact⟨g',by simp[h1],h2⟩
theorem Df{fs:List Fnt}{f:Fnt}{face size:Int}{t fo:List Int}{B:List Bool}{a n:Nat}{right:Bool}(hf:fs[face.toNat]?=some f)(hv:bJ f=0)(hs:1≤size)(hs2:size≤1000):∀ g∈mM fs f face size t fo B a n right,0≤g.a∧g.a≤10000000:=by
 intro g hg
 unfold mM at hg
 obtain⟨g',h1,h2⟩:=vl hg
 rw[h2]
 have hg0:∀ g∈fp f face size t fo right a n,0≤g.a∧g.a≤5000000:=fun g hg=>by
  unfold fp at hg
  obtain⟨k,_,rfl⟩:=List.mem_map.1 hg
  exact sg hv hs hs2 _
 have hA1:=mn (t:=t) (B:=B) hf hv hs hs2 (lu (t:=t) (B:=B) hf hv hs hs2 hg0)
 split at h1
 ·exact hA1 g' (vz h1)
 ·exact hA1 g' h1
theorem TxV.gl1{X:Txt}(hV:TxV X){lv:List Int}{a i:Nat}(h1:a+lv.length≤X.p.t.length)(hi:i<lv.length):(X.gl1 lv a i).length≤X.p.t.length∧∀ g∈X.gl1 lv a i,0≤g.a∧g.a≤10000000:=by
 obtain⟨sq,hsq1,hsq2,hsq3,hsq4,hsq5,hsq6,hsq7,hsq8⟩:=hV.spn (i:=a+i) (by omega)
 have hn:=hV.n
 unfold Txt.gl1
 refine⟨Nat.le_trans zb ?_,Df hsq3 hsq8 hsq6 hsq7⟩
 have hr:=xC (lv:=lv) (sp:=X.sp) (a:=a) hi
 rw[List.getD_eq_getElem?_getD,List.getElem?_eq_getElem hr]
 have:=iG (lv:=lv) (sp:=X.sp) (a:=a) lv.length _ (List.getElem_mem hr)
 simp only[Option.getD_some]
 omega
theorem TxV.glO{X:Txt}(hV:TxV X){lv:List Int}{a:Nat}(h1:a+lv.length≤X.p.t.length):∀ (l:List Int) (dn:List Bool),(∀ x∈l,0≤x∧x<lv.length)→(X.glO lv a dn l).length≤X.p.t.length*l.length∧∀ g∈X.glO lv a dn l,0≤g.a∧g.a≤10000000
 | [],dn,_=>by simp[Txt.glO]
 | x::l,dn,hl=>by
  have hx:=hl x (by simp)
  have h2:=hV.gl1 (lv:=lv) (a:=a) (i:=x.toNat) h1 (by omega)
  have ih:=fun dn=>hV.glO h1 l dn fun y hy=>hl y (by simp[hy])
  rw[Txt.glO]
  split
  ·have:=ih dn
   simp only[List.length_cons,Nat.mul_succ]
   exact⟨by omega,this.2⟩
  ·have:=ih (dn.set (rnI lv X.sp a x.toNat) true)
   simp only[List.length_cons,List.length_append,Nat.mul_succ]
   refine⟨by omega,fun g hg=>?_⟩
   rcases List.mem_append.1 hg with h|h
   ·exact h2.2 g h
   ·exact this.2 g h
theorem TxV.gls{X:Txt}(hV:TxV X){k:Nat×Nat}{a b:Nat}(h1:k.1≤a)(h2:a≤b)(h3:b≤k.2)(h4:k.2≤X.p.t.length)(h5:X.p.t.length≤90):(X.gls k a b).length≤8100∧∀ g∈X.gls k a b,0≤g.a∧g.a≤10000000:=by
 have hn:=hV.n
 have hl:=hV.lvls h1 h2 h3 h4
 obtain⟨ho1,ho2⟩:=mE (lv:=X.lvls k a b)
 have:=hV.glO (lv:=X.lvls k a b) (a:=a) (by omega) (lG (X.lvls k a b)) (List.replicate (rnF (X.lvls k a b) X.sp a (X.lvls k a b).length).length false) ho2
 refine⟨?_,this.2⟩
 have h6:X.p.t.length*(lG (X.lvls k a b)).length≤90*90:=Nat.mul_le_mul h5 (by omega)
 unfold Txt.gls
 omega
def pk(w:Int)(l:List Gly):Int:=((l.filter fun g=>decide (g.f<w)).map (·.a)).sum
theorem zP{w:Int}{l:List Gly}{i:Nat}{g:Gly}(h:l[i]?=some g):pk w (l.take (i+1))=pk w (l.take i)+if g.f<w then g.a else 0:=by
 unfold pk
 rw[List.take_add_one,h,List.filter_append,List.map_append,List.sum_append]
 congr 1
 simp only[Option.toList_some]
 by_cases hf:g.f<w
 ·simp[hf]
 ·simp[hf]
theorem pn{w:Int}:∀ {l:List Gly},(∀ g∈l,0≤g.a∧g.a≤10000000)→0≤pk w l∧pk w l≤l.length*10000000
 | [],_=>by simp[pk]
 | x::l,h=>by
  have h1:=pn (w:=w) (l:=l) fun g hg=>h g (by simp[hg])
  have h2:=h x (by simp)
  unfold pk at h1 ⊢
  rw[List.filter_cons,List.length_cons]
  split
  ·rw[List.map_cons,List.sum_cons]
   omega
  ·omega
theorem yw{H' B S:Heap}{os:List Own}(h:Hp H' (B++S) os):H'.take B.length=B:=by
 have h1:=congrArg (List.take B.length) h.take
 rw[List.take_take,Nat.min_eq_left (by simp),List.take_left]at h1
 exact h1
section
variable {prim:FuncId→Option Prim}(d:Nat)
set_option maxRecDepth 100000 in
set_option maxHeartbeats 16000000 in
theorem Hj(hp:∀ f,Np5 f→prim f=none)(hG:prim 174=some (fQ 8 64))(X:Txt)(hV:TxV X)(hXr:X.rs=kL)(hpR:prim 67=none)(hCl:∀ (cfg:Cfg) (H:Heap) (l:List Int),cfg.lo≤H.length→l≠[]→l.length≤2000→af md (K prim (d+10)) cfg 100 [il l] H=some (.sl (H.length+1) 0 l.length l.length 1,H++[none,some (l.map (V.int .i64))]))
  (hCn:∀ (cfg:Cfg) (H:Heap),af md (K prim (d+10)) cfg 100 [.lst []] H=some (.lst [],H)) (H:Heap) (xb bb pb mw mu:Nat) (sv kv:V) (es:fx) (eu:fL) (hT:TxH X H xb bb pb mw mu sv kv es eu) (k:Nat×Nat) (a b:Nat) (h1:k.1≤a) (h2:a≤b) (h3:b≤k.2) (h4:k.2≤X.p.t.length) (h5:X.p.t.length≤90) (cfg:Cfg) (hM:MW cfg H) (hlo:cfg.lo≤H.length):
  ∃ r h2,af md (K prim (d+13)) cfg 55 [.ptr xb 0,.agg (X.sec k),.int .i64 a,.int .i64 b] H=some (r,h2) ∧
   (r=.int .i64 (X.fit k a b)∧∃ es' eu',WOK X.fs es'∧UOK X.fs eu'∧h2=(H.set mw (wB es')).set mu (uB eu')):=by
 refine kj (Post:=fun r h2=>r=.int .i64 (X.fit k a b)∧∃ es' eu',WOK X.fs es'∧UOK X.fs eu'∧h2=(H.set mw (wB es')).set mu (uB eu')) rfl (hp 55 (by decide)) Tryz.func55 rfl rfl rfl ?_
 have hM':MW ⟨cfg.lo,cfg.ex,H.length⟩ H:=fun b cs h1 h2=>hM b cs h1 h2
 generalize hcf:(⟨cfg.lo,cfg.ex,H.length⟩:Cfg)=cf at *
 have hlo':cf.lo≤H.length:=by rw[← hcf];exact hlo
 have kl:(X.sec k).length=4:=rfl
 have km:isMap (X.sec k)=false:=rfl
 have kt:(X.sec k).take 4=X.sec k:=rfl
 have kf:(∀ x∈X.sec k,x.leaf=true)=True:=eq_true (by simp[Txt.sec])
 have hn:=hV.n
 obtain⟨hgl,hgr⟩:=hV.gls h1 h2 h3 h4 h5
 have hfitE:X.fit k a b=pk (X.wht a b) (X.gls k a b):=rfl
 have hT0:TxH X (H++[some (X.sec k)]) xb bb pb mw mu sv kv es eu:=hT.ext (os:=[]) (S:=[some (X.sec k)]) (by rw[bI hT.hmw,bI hT.hmu];exact Hp.start) hT.hW hT.hU
 have hM0:MW cf (H++[some (X.sec k)]):=hT.mw (os:=[]) (S:=[some (X.sec k)]) hM' hlo' (by rw[bI hT.hmw,bI hT.hmu];exact Hp.start)
 have hW0:=fun cfg=>DW (prim:=prim) (d+7) hp X hn cfg (H++[some (X.sec k)]) xb pb mw mu _ sv kv hT0.hx a b h2 (by omega)
 obtain⟨v,H2,hGl,es2,eu2,hW2,hU2,hh⟩:=B3 (prim:=prim) d hp hG X hV hXr hpR hCl hCn (H++[some (X.sec k)]) xb bb pb mw mu sv kv es eu hT0 k a b h1 h2 h3 h4 cf hM0 (by simp;omega)
 generalize X.gls k a b=gs at *
 have hu:Tryz.prog.underlying 39=some (.slice 97):=by kernel_rfl
 have hlen:=hh.head.lenF aP (by omega) hu
 simp(disch:=omega)[kl,km,kt,kf,hW0,hGl,hlen]
 have hmwl:mw<H.length:=(List.getElem?_eq_some_iff.1 hT.hmw).1
 have hmul:mu<H.length:=(List.getElem?_eq_some_iff.1 hT.hmu).1
 rw[List.set_append_left _ _ hmwl,List.set_append_left _ _ (by simpa using hmul)]at hh
 generalize hwE:X.wht a b=wv at *
 refine aj (fun m fr Hc=>∃ i:Nat,i≤gs.length∧m=gs.length-i∧Hp Hc ((H.set mw (wB es2)).set mu (uB eu2)++[some (X.sec k)]) [(8,v,gs.flatMap au)] ∧
  Slots 37 [(9,.int .i64 wv),(10,.int .i64 (pk wv (gs.take i))),(21,v),(22,.int .i64 gs.length),(23,.int .i64 i)] fr) (m:=gs.length) (by omega) ⟨0,by omega,by omega,hh,by simp[pk]⟩ ?_
 clear hh hGl
 rintro m fr Hc ⟨i,hi,rfl,hhp,hs⟩
 obtain⟨j,rfl⟩:=hs.ex
 clear hs
 by_cases hlt:i<gs.length
 ·have hI:(i:Int)<gs.length:=by omega
  obtain⟨vb,rfl,hb1,hb2,hb3⟩:=hhp.head.posF aP (by omega) (by omega)
  obtain⟨g,hg⟩:=atG hlt
  have hgr2:=hgr g (List.mem_of_getElem? hg)
  have hN:=zP (w:=(wv:Int)) hg
  have hNr:=pn (w:=(wv:Int)) (l:=gs.take i) fun g hg=>hgr g (List.mem_of_mem_take hg)
  rw[List.length_take,Nat.min_eq_left (by omega)]at hNr
  have hft:=fE (f:=au) (n:=8) aP hg
  have hfl:=br gs
  have q8:i*8+8≤gs.length*8:=by omega
  have hle:=hhp.le
  simp only[List.length_append,List.length_set,List.length_singleton]at hle hb1
  have hwH:cf.wr Hc.length=true:=bE (by omega)
  have hmG:isMap (au g)=false:=rfl
  have hlG:(au g).length=8:=rfl
  have htG:(au g).take 8=au g:=rfl
  have hfG:(∀ x∈au g,x.leaf=true)=True:=eq_true (List.all_eq_true.1 rfl)
  have hrG:(∀ x∈au g,x.rf=true)=True:=eq_true (List.all_eq_true.1 rfl)
  have hpa:putAt [V.int .i64 0,.int .i64 0,.int .i64 0,.int .i64 0,.int .i64 0,.int .i64 0,.int .i64 0,.int .i64 0] 0 (au g)=au g:=rfl
  have g2:slot (au g) 2=some (.int .i64 g.f):=rfl
  have g5:slot (au g) 5=some (.int .i64 g.a):=rfl
  simp(disch:=omega)[hI,hb3,hft,hfl,q8,hmG,hlG,hfG,hrG,hwH,hpa,g2,-getElem?_pos]
  by_cases hw:g.f<(wv:Int)
  ·rw[if_pos hw]at hN
   simp(disch:=omega)[hw,hmG,g5,wrap64,-getElem?_pos]
   exact ae (m':=gs.length-(i+1)) (by omega) ⟨i+1,by omega,rfl,hhp.push _,by rw[hN];simp(disch:=omega)⟩
  ·rw[if_neg hw]at hN
   simp(disch:=omega)[hw,wrap64,-getElem?_pos]
   exact ae (m':=gs.length-(i+1)) (by omega) ⟨i+1,by omega,rfl,hhp.push _,by rw[hN];simp(disch:=omega)⟩
 ·obtain rfl:i=gs.length:=by omega
  have hI:¬ ((gs.length:Int)<gs.length):=by omega
  simp(disch:=omega)[hI]
  refine⟨hfitE.symm,es2,hW2,eu2,hU2,?_⟩
  have:=yw hhp
  simpa using this
end
end Bi
end Go.Ab
