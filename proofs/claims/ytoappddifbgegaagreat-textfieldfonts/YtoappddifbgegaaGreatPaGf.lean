/- The program: the width of a line without the white space at its end. -/
import Derived.Test.YtoappddifbgegaaGreatPaGp
set_option linter.all false
set_option maxHeartbeats 16000000
set_option maxRecDepth 100000
namespace Go.Ab
open Go.Proofs
namespace Bi
attribute [local congr] az
theorem wF:∀ {l:List Gly}{x:Int}{g:Gly},g∈ek x l->∃ g'∈l,g.a=g'.a
 | [],_,_,h=>by simp[ek]at h
 | y::l,x,g,h=>by
  rw[ek]at h;rcases Lt.1 h with rfl|h
  ·exact⟨y,by simp,rfl⟩
  ·obtain⟨g',h1,h2⟩:=wF h;exact⟨g',by simp[h1],h2⟩
theorem Ef{fs:List Fnt}{f:Fnt}{face size:Int}{t fo:List Int}{B:List Bool}{a n:Nat}{right:Bool}(hf:fs[face.toNat]?=some f)(hv:bQ f=0)(hs:1<=size)(h0:size<=1000):∀ g∈runS fs f face size t fo B a n right,0<=g.a/\g.a<=10000000:=by
 intro g hg;unfold runS at hg;obtain⟨g',h1,h2⟩:=wF hg;rw[h2];have h4:∀ g∈gD f face size t fo right a n,0<=g.a/\g.a<=5000000:=fun g hg=>by
  unfold gD at hg;obtain⟨k,_,rfl⟩:=Me.1 hg;exact zh hv hs h0 _
 have h3:=nt (t:=t) (B:=B) hf hv hs h0 (mi (t:=t) (B:=B) hf hv hs h0 h4);split at h1
 ·exact h3 g' (wP h1)
 ·exact h3 g' h1
theorem TxV.gl1{X:Txt}(hV:TxV X){lv:List Int}{a i:Nat}(h1:a+lv.length<=X.p.t.length)(hi:i<lv.length):(X.gl1 lv a i).length<=X.p.t.length/\∀ g∈X.gl1 lv a i,0<=g.a/\g.a<=10000000:=by
 obtain⟨sq,h7,h8,h0,h9,ha,h3,h4,h6⟩:=hV.spn (i:=a+i) (by omega);have hn:=hV.n;unfold Txt.gl1;refine⟨L9 Ao ?_,Ef h0 h6 h3 h4⟩;have hr:=D9 (lv:=lv) (sp:=X.sp) (a:=a) hi;rw[K9,K4 hr];have:=ko (lv:=lv) (sp:=X.sp) (a:=a) lv.length _ (MA hr);simp only[MF];omega
theorem TxV.glO{X:Txt}(hV:TxV X){lv:List Int}{a:Nat}(h1:a+lv.length<=X.p.t.length):∀ (l:List Int) (dn:List Bool),(∀ x∈l,0<=x/\x<lv.length)->(X.glO lv a dn l).length<=X.p.t.length*l.length/\∀ g∈X.glO lv a dn l,0<=g.a/\g.a<=10000000
 | [],dn,_=>by simp[Txt.glO]
 | x::l,dn,hl=>by
  have hx:=hl x (by simp);have h2:=hV.gl1 (lv:=lv) (a:=a) (i:=x.toNat) h1 (by omega);have ih:=fun dn=>hV.glO h1 l dn fun y hy=>hl y (by simp[hy]);rw[Txt.glO];split
  ·have:=ih dn;simp only[Lp,Nat.mul_succ];exact⟨by omega,this.2⟩
  ·have:=ih (dn.set (rnI lv X.sp a x.toNat) true);simp only[Lp,Ln,Nat.mul_succ];refine⟨by omega,fun g hg=>?_⟩;rcases LB.1 hg with h|h
   ·exact h2.2 g h
   ·exact this.2 g h
theorem TxV.gls{X:Txt}(hV:TxV X){k:Nat×Nat}{a b:Nat}(h1:k.1<=a)(h2:a<=b)(h3:b<=k.2)(h4:k.2<=X.p.t.length)(h5:X.p.t.length<=90):(X.gls k a b).length<=8100/\∀ g∈X.gls k a b,0<=g.a/\g.a<=10000000:=by
 have hn:=hV.n;have hl:=hV.lvls h1 h2 h3 h4;obtain⟨h7,h0⟩:=sU (lv:=X.lvls k a b);have:=hV.glO (lv:=X.lvls k a b) (a:=a) (by omega) (mF (X.lvls k a b)) (List.replicate (rnF (X.lvls k a b) X.sp a (X.lvls k a b).length).length false) h0;refine⟨?_,this.2⟩;have h6:X.p.t.length*(mF (X.lvls k a b)).length<=90*90:=Nj h5 (by omega);unfold Txt.gls;omega
def qo(w:Int)(l:List Gly):Int:=((l.filter fun g=>decide (g.f<w)).map (·.a)).sum
theorem A9{w:Int}{l:List Gly}{i:Nat}{g:Gly}(h:l[i]?=some g):qo w (l.take (i+1))=qo w (l.take i)+if g.f<w then g.a else 0:=by
 unfold qo;rw[LD,h,List.filter_append,LR,Ox];congr 1;simp only[Nc];by_cases hf:g.f<w
 ·simp[hf]
 ·simp[hf]
theorem qp{w:Int}:∀ {l:List Gly},(∀ g∈l,0<=g.a/\g.a<=10000000)->0<=qo w l/\qo w l<=l.length*10000000
 | [],_=>by simp[qo]
 | x::l,h=>by
  have h1:=qp (w:=w) (l:=l) fun g hg=>h g (by simp[hg]);have h2:=h x (by simp);unfold qo at h1 ⊢;rw[M9,Lp];split
  ·rw[Mk,OB];omega
  ·omega
theorem zJ{H' B S:Heap}{os:List Own}(h:Hp H' (B++S) os):H'.take B.length=B:=by
 have h1:=congrArg (List.take B.length) h.take;rw[NK,MD (by simp),List.take_left]at h1;exact h1
section
variable {prim:FuncId->Option Prim}(d:Nat)
theorem II(hp:∀ f,Np5 f->prim f=none)(hG:prim 329=some (gj 8 64))(X:Txt)(hV:TxV X)(hXr:X.rs=mN)(hpR:prim 237=none)(hCl:∀ (cfg:Cfg) (H:Heap) (l:List Int),cfg.lo<=H.length->l≠[]->l.length<=2000->af md (K prim (d+10)) cfg 279 [il l] H=some (.sl (H.length+1) 0 l.length l.length 1,H++[none,some (l.map (V.int .i64))]))
  (hCn:∀ (cfg:Cfg) (H:Heap),af md (K prim (d+10)) cfg 279 [.lst []] H=some (.lst [],H)) (H:Heap) (xb bb pb mw mu:Nat) (sv kv:V) (es:fG) (eu:fV) (hT:TxH X H xb bb pb mw mu sv kv es eu) (k:Nat×Nat) (a b:Nat) (h1:k.1<=a) (h2:a<=b) (h3:b<=k.2) (h4:k.2<=X.p.t.length) (h5:X.p.t.length<=90) (cfg:Cfg) (hM:MW cfg H) (he:cfg.lo<=H.length):
  ∃ r h2,af md (K prim (d+13)) cfg 171 [.ptr xb 0,.agg (X.sec k),.int .i64 a,.int .i64 b] H=some (r,h2) /\
   (r=.int .i64 (X.fit k a b)/\∃ es' eu',WOK X.fs es'/\UOK X.fs eu'/\h2=(H.set mw (wB es')).set mu (uB eu')):=by
 refine lp (Post:=fun r h2=>r=.int .i64 (X.fit k a b)/\∃ es' eu',WOK X.fs es'/\UOK X.fs eu'/\h2=(H.set mw (wB es')).set mu (uB eu')) rfl (hp 171 (by decide)) Tryz.func171 rfl rfl rfl ?_;have hf:MW ⟨cfg.lo,cfg.ex,H.length⟩ H:=fun b cs h1 h2=>hM b cs h1 h2;generalize hj:(⟨cfg.lo,cfg.ex,H.length⟩:Cfg)=cf at *;have h7:cf.lo<=H.length:=by rw[<- hj];exact he
 have kl:(X.sec k).length=4:=rfl;have km:isMap (X.sec k)=false:=rfl;have kt:(X.sec k).take 4=X.sec k:=rfl;have kf:(∀ x∈X.sec k,x.leaf=true)=True:=eq_true (by simp[Txt.sec]);have hn:=hV.n;obtain⟨hO,h9⟩:=hV.gls h1 h2 h3 h4 h5;have h0:X.fit k a b=qo (X.wht a b) (X.gls k a b):=rfl;have ha:TxH X (H++[some (X.sec k)]) xb bb pb mw mu sv kv es eu:=hT.ext (os:=[]) (S:=[some (X.sec k)]) (by rw[bE hT.hmw,bE hT.hmu];exact Hp.start) hT.hW hT.hU;have hl:MW cf (H++[some (X.sec k)]):=hT.mw (os:=[]) (S:=[some (X.sec k)]) hf h7 (by rw[bE hT.hmw,bE hT.hmu];exact Hp.start);have hm:=fun cfg=>E3 (prim:=prim) (d+7) hp X hn cfg (H++[some (X.sec k)]) xb pb mw mu _ sv kv ha.hx a b h2 (by omega);obtain⟨v,H2,hc,es2,eu2,hq,hr,hh⟩:=Db (prim:=prim) d hp hG X hV hXr hpR hCl hCn (H++[some (X.sec k)]) xb bb pb mw mu sv kv es eu ha k a b h1 h2 h3 h4 cf hl (by simp;omega);generalize X.gls k a b=gs at *;have hu:Tryz.prog.underlying 160=some (.slice 225):=by kernel_rfl
 have hlen:=hh.head.lenF aO (by omega) hu;simp(disch:=omega)[kl,km,kt,kf,hm,hc,hlen];have h8:mw<H.length:=(K5.1 hT.hmw).1;have hmul:mu<H.length:=(K5.1 hT.hmu).1;rw[LY _ _ h8,LY _ _ (by simpa using hmul)]at hh;generalize hP:X.wht a b=wv at *;refine ah (fun m fr Hc=>∃ i:Nat,i<=gs.length/\m=gs.length-i/\Hp Hc ((H.set mw (wB es2)).set mu (uB eu2)++[some (X.sec k)]) [(8,v,gs.flatMap aq)] /\
  Slots 37 [(9,.int .i64 wv),(10,.int .i64 (qo wv (gs.take i))),(21,v),(22,.int .i64 gs.length),(23,.int .i64 i)] fr) (m:=gs.length) (by omega) ⟨0,by omega,by omega,hh,by simp[qo]⟩ ?_
 clear hh hc;rintro m fr Hc ⟨i,hi,rfl,h6,hs⟩;obtain⟨j,rfl⟩:=hs.ex;clear hs;by_cases ht:i<gs.length
 ·have hI:(i:Int)<gs.length:=by omega
  obtain⟨vb,rfl,hv,hQ,hy⟩:=h6.head.posF aO (by omega) (by omega);obtain⟨g,hg⟩:=atG ht;have hz:=h9 g (K6 hg);have hN:=A9 (w:=(wv:Int)) hg;have hA:=qp (w:=(wv:Int)) (l:=gs.take i) fun g hg=>h9 g (LQ hg);rw[L6,MD (by omega)]at hA;have hD:=fN (f:=aq) (n:=8) aO hg;have hE:=bq gs;have q8:i*8+8<=gs.length*8:=by omega
  have hle:=h6.le;simp only[Ln,LC,LZ]at hle hv;have hF:cf.wr Hc.length=true:=bH (by omega);have hd:isMap (aq g)=false:=rfl;have hH:(aq g).length=8:=rfl;have hR:(aq g).take 8=aq g:=rfl;have hJ:(∀ x∈aq g,x.leaf=true)=True:=eq_true (Lk.1 rfl);have hK:(∀ x∈aq g,x.rf=true)=True:=eq_true (Lk.1 rfl);have hL:putAt [V.int .i64 0,.int .i64 0,.int .i64 0,.int .i64 0,.int .i64 0,.int .i64 0,.int .i64 0,.int .i64 0] 0 (aq g)=aq g:=rfl;have g2:slot (aq g) 2=some (.int .i64 g.f):=rfl;have g5:slot (aq g) 5=some (.int .i64 g.a):=rfl;simp(disch:=omega)[hI,hy,hD,hE,q8,hd,hH,hJ,hK,hF,hL,g2,-getElem?_pos];by_cases hw:g.f<(wv:Int)
  ·rw[if_pos hw]at hN;simp(disch:=omega)[hw,hd,g5,wrap64,-getElem?_pos];exact ae (m':=gs.length-(i+1)) (by omega) ⟨i+1,by omega,rfl,h6.push _,by rw[hN];simp(disch:=omega)⟩
  ·rw[if_neg hw]at hN;simp(disch:=omega)[hw,wrap64,-getElem?_pos];exact ae (m':=gs.length-(i+1)) (by omega) ⟨i+1,by omega,rfl,h6.push _,by rw[hN];simp(disch:=omega)⟩
 ·obtain rfl:i=gs.length:=by omega
  have hI:¬ ((gs.length:Int)<gs.length):=by omega
  simp(disch:=omega)[hI];refine⟨h0.symm,es2,hq,eu2,hr,?_⟩;have:=zJ h6;simpa using this
end
end Bi
end Go.Ab
