/- Several texts of this proof in one. -/
import Derived.Test.YtldfgkjmficliaaGreatPaPu
set_option linter.all false
set_option maxHeartbeats 8000000
namespace Go.Ab
open Go.Proofs
namespace Bi
attribute [local congr] aw
theorem vS{X:Txt}{k:Nat×Nat}(hk:kK X k):∀ (m s:Nat) (y:Int),k.1<=s->s<=k.2->∀ x∈X.linK k m s y,∃ s y,k.1<=s/\s<=k.2/\x=X.lin k s (X.fin k s) y
 | 0,s,y,h1,h2,x,h=>by
  rw[Txt.linK]at h;simp at h;exact⟨_,_,h1,h2,h⟩
 | m+1,s,y,h1,h2,x,h=>by
  rw[Txt.linK]at h;rcases Ly.1 h with h|h
  ·exact⟨_,_,h1,h2,h⟩
  ·split at h
   ·have hf:=dZ (X:=X) hk h2;exact vS hk m _ _ (by omega) (by omega) x h
   ·cases h
theorem vQ{X:Txt}:∀ (l:List (Nat×Nat)) (y:Int),(∀ k∈l,kK X k)->∀ x∈X.linA l y,∃ k∈l,kK X k/\∃ s y,k.1<=s/\s<=k.2/\x=X.lin k s (X.fin k s) y
 | [],_,_,_,h=>by cases h
 | k::l,y,hl,x,h=>by
  rw[Txt.linA]at h;have hk:=hl k (by simp);rcases LA.1 h with h|h
  ·exact⟨k,by simp,hk,vS hk _ _ _ (Lh _) hk.1 x h⟩
  ·obtain⟨k',hk,h⟩:=vQ l _ (fun x hx=>hl x (by simp[hx])) x h;exact⟨k',by simp[hk],h⟩
theorem TxV.lwd{X:Txt}(hV:TxV X)(hn:X.p.t.length<=90){k:Nat×Nat}(hk:kK X k){s:Nat}(h1:k.1<=s)(h2:s<=k.2):0<=X.lwd k s (X.fin k s)/\X.lwd k s (X.fin k s)<=81000000000:=by
 have hf:=dZ (X:=X) hk h2;obtain⟨h8,h9⟩:=hV.gls h1 hf.1 hf.2.1 hk.2.1 hn;have h0:(X.lgl k s (X.fin k s)).length<=8100/\∀ g∈X.lgl k s (X.fin k s),0<=g.a/\g.a<=10000000:=by
  unfold Txt.lgl;split
  ·refine⟨by simpa using h8,fun g hg=>?_⟩;obtain⟨g',h3,rfl⟩:=Mp.1 hg;have:=h9 g' h3;split
   ·simp
   ·exact this
  ·exact⟨h8,h9⟩
 have h:=gG h0.2 _ (Lh _);rw[LQ]at h;unfold Txt.lwd;omega
theorem vR{X:Txt}{k:Nat×Nat}:∀ (m s:Nat) (y:Int),(X.linK k m s y).length<=m+1
 | 0,s,y=>by rw[Txt.linK];simp
 | m+1,s,y=>by
  rw[Txt.linK];split
  ·have:=vR (X:=X) (k:=k) m (X.fin k s) (y+(X.lin k s (X.fin k s) y).l.h);simp only[Lx];omega
  ·simp
theorem vP{X:Txt}{M:Nat}:∀ (l:List (Nat×Nat)) (y:Int),(∀ k∈l,k.2-k.1<=M)->(X.linA l y).length<=l.length*(M+1)
 | [],_,_=>by simp[Txt.linA]
 | k::l,y,h=>by
  rw[Txt.linA,Lt,Lx,Nat.succ_mul];have h1:=vR (X:=X) (k:=k) (k.2-k.1) k.1 y;have h2:=h k (by simp);have h3:=vP (X:=X) l (y+Txt.hgt (X.linK k (k.2-k.1) k.1 y)) fun x hx=>h x (by simp[hx]);omega
theorem TxV.linL{X:Txt}(hV:TxV X)(hn:X.p.t.length<=90):(X.linA X.secs 0).length<=8281:=by
 have h1:=hV.secsL;have h2:=vP (X:=X) (M:=X.p.t.length) X.secs 0 fun k hk=>by have:=(hV.secs k hk).2.1;omega
 have h3:X.secs.length*(X.p.t.length+1)<=91*91:=Nv (by omega) (by omega);omega
end Bi
end Go.Ab
namespace Go.Ab
open Go.Proofs
namespace Bi
theorem Dq{f:Int->Int}{l:List Int}:0<=mx f l/\∀ x∈l,f x<=mx f l:=by
 unfold mx;have:∀ (l:List Int) (a:Int),a<=l.foldl (fun a i=>max a (f i)) a/\∀ x∈l,f x<=l.foldl (fun a i=>max a (f i)) a:=by
  intro l
  induction l with
  | nil=>intro a;exact⟨N8 _,fun _ h=>by cases h⟩
  | cons x l ih =>
   intro a;have h1:=ih (max a (f x));rw[MP];refine⟨by omega,fun y hy=>?_⟩;rcases Ly.1 hy with rfl|hy
   ·omega
   ·exact h1.2 y hy
 exact this l 0
theorem tY{X:Txt}:∀ (B:List Int) (f i:Nat),f<=i->∀ k∈kP f i B,k.1<k.2
 | [],_,_,_,k,h=>by cases h
 | b::B,f,i,h1,k,h=>by
  rw[kP]at h;split at h
  ·rcases Ly.1 h with rfl|h
   ·simp;omega
   ·exact tY (X:=X) B _ _ (Lh _) k h
  ·exact tY (X:=X) B _ _ (by omega) k h
theorem wI{X:Txt}:∀ k∈X.secs,k.1=k.2->k.2=X.p.t.length:=fun k h e=>by
 unfold Txt.secs at h;rcases LA.1 h with h|h
 ·have:=tY (X:=X) X.B 0 0 (Lh _) k h;omega
 ·split at h
  ·simp at h;subst h;rfl
  ·cases h
theorem sw{X:Txt}{k:Nat×Nat}(hk:kK X k):∀ (m s:Nat) (y:Int),k.1<=s->s<=k.2->(s=k.1\/s<k.2)->∀ x∈X.linK k m s y,∃ s y,k.1<=s/\s<=k.2/\(s=k.1\/s<k.2)/\x=X.lin k s (X.fin k s) y
 | 0,s,y,h1,h2,h3,x,h=>by
  rw[Txt.linK]at h;simp at h;exact⟨_,_,h1,h2,h3,h⟩
 | m+1,s,y,h1,h2,h3,x,h=>by
  rw[Txt.linK]at h;rcases Ly.1 h with h|h
  ·exact⟨_,_,h1,h2,h3,h⟩
  ·split at h
   ·have hf:=dZ (X:=X) hk h2;exact sw hk m _ _ (by omega) (by omega) (.inr (by assumption)) x h
   ·cases h
theorem su{X:Txt}:∀ (l:List (Nat×Nat)) (y:Int),(∀ k∈l,kK X k)->∀ x∈X.linA l y,∃ k∈l,kK X k/\∃ s y,k.1<=s/\s<=k.2/\(s=k.1\/s<k.2)/\x=X.lin k s (X.fin k s) y
 | [],_,_,_,h=>by cases h
 | k::l,y,hl,x,h=>by
  rw[Txt.linA]at h;have hk:=hl k (by simp);rcases LA.1 h with h|h
  ·exact⟨k,by simp,hk,sw hk _ _ _ (Lh _) hk.1 (.inl rfl) x h⟩
  ·obtain⟨k',hk,h⟩:=su l _ (fun x hx=>hl x (by simp[hx])) x h;exact⟨k',by simp[hk],h⟩
def SeC:Nat->List (Nat×Nat)->Nat->Prop
 | a,[],n=>a=n
 | a,k::l,n=>k.1=a/\k.1<=k.2/\(k.1=k.2->l=[])/\SeC k.2 l n
def LCh(e:List cn):Nat->Int->List cn->Nat->Prop
 | a,_,[],b=>a=b
 | a,y,x::l,b=>∃ t:Nat,x.l.f=a/\x.l.y=y/\x.l.t=t/\a<=t/\(a<t\/l++e=[])/\1<=x.l.h/\x.l.h<=15000000/\(0<=x.l.a/\0<=x.l.d/\x.l.a+x.l.d<=x.l.h)/\LCh e t (y+x.l.h) l b
theorem yS{e l2:List cn}{b c:Nat}:∀ {l1:List cn}{a:Nat}{y:Int},LCh (l2++e) a y l1 c->LCh e c (y+Txt.hgt l1) l2 b->LCh e a y (l1++l2) b
 | [],a,y,h1,h2=>by
  have h1:a=c:=h1;subst h1;simpa[Txt.hgt]using h2
 | x::l,a,y,⟨t,g1,g2,g3,g4,g5,g6,g7,g8,g9⟩,h2=>by
  refine⟨t,g1,g2,g3,g4,?_,g6,g7,g8,yS g9 ?_⟩
  ·have:(l++l2)++e=l++(l2++e):=LD _ _ _;rcases g5 with g5|g5
   ·exact .inl g5
   ·exact .inr (this.trans g5)
  ·have:y+Txt.hgt (x::l)=y+x.l.h+Txt.hgt l:=by simp[Txt.hgt];omega
   rw[this]at h2;exact h2
theorem TxV.lin1{X:Txt}(hV:TxV X)(hn:X.p.t.length<=90){k:Nat×Nat}{s t:Nat}{y:Int}(h1:s<=t)(h2:t<=X.p.t.length):
  1<=(X.lin k s t y).l.h/\(X.lin k s t y).l.h<=15000000/\(0<=(X.lin k s t y).l.a/\0<=(X.lin k s t y).l.d/\(X.lin k s t y).l.a+(X.lin k s t y).l.d<=(X.lin k s t y).l.h):=by
 have hH:=hV.linH k s t y hn;obtain⟨x,hx⟩:∃ x,x∈X.spans s t:=by
  unfold Txt.spans;split
  ·have hl:0<((X.sp.take t).drop s).length:=by simp[hV.sp];omega
   exact⟨_,MG hl⟩
  ·exact⟨_,LP.2 rfl⟩
 have h4:0<=x/\x<X.p.s.length:=by
  have h6:=hV.sn;unfold Txt.spans at hx;split at hx
  ·exact hV.spm x (Mz (N9 hx))
  ·simp at hx;omega
 have hm:=(Dq (f:=X.hei) (l:=X.spans s t)).2 x hx;have h0:=(Dq (f:=X.asc) (l:=X.spans s t)).1;have h3:=(Dq (f:=X.des) (l:=X.spans s t)).1;obtain⟨q,rfl⟩:∃ q:Nat,x=q:=⟨x.toNat,by omega⟩;obtain⟨sp,f,g1,g2,g3,g4,g5,g6,g7,g8,g9,g10⟩:=hV.at (q:=q) (by omega);have h8:=lP g7 g5 g6;rw[g10]at hm;refine⟨?_,hH.2,h0,h3,?_⟩
 ·show 1<=max (mx X.hei (X.spans s t)) (mx X.asc (X.spans s t)+mx X.des (X.spans s t));omega
 ·show mx X.asc (X.spans s t)+mx X.des (X.spans s t)<=max (mx X.hei (X.spans s t)) (mx X.asc (X.spans s t)+mx X.des (X.spans s t));omega
theorem uI{X:Txt}(hV:TxV X)(hn:X.p.t.length<=90){k:Nat×Nat}(hk:kK X k){e:List cn}:∀ (m s:Nat) (y:Int),k.1<=s->s<=k.2->k.2-s<=m->(s=k.2->e=[])->LCh e s y (X.linK k m s y) k.2
 | 0,s,y,h1,h2,h3,h4=>by
  have hf:=dZ (X:=X) hk h2;have hl:=hV.lin1 hn (k:=k) (y:=y) hf.1 (by have:=hk.2.1;omega);rw[Txt.linK];exact⟨X.fin k s,rfl,rfl,rfl,hf.1,.inr (by rw[h4 (by omega)];rfl),hl.1,hl.2.1,hl.2.2,by show X.fin k s=k.2;omega⟩
 | m+1,s,y,h1,h2,h3,h4=>by
  have hf:=dZ (X:=X) hk h2;have hl:=hV.lin1 hn (k:=k) (y:=y) hf.1 (by have:=hk.2.1;omega);rw[Txt.linK];by_cases h0:X.fin k s<k.2
  ·rw[if_pos h0];have h5:=hf.2.2 h1 (by omega);exact⟨X.fin k s,rfl,rfl,rfl,hf.1,.inl h5,hl.1,hl.2.1,hl.2.2,uI hV hn hk m _ _ (by omega) (by omega) (by omega) fun h=>by omega⟩
  ·rw[if_neg h0];refine⟨X.fin k s,rfl,rfl,rfl,hf.1,?_,hl.1,hl.2.1,hl.2.2,by show X.fin k s=k.2;omega⟩;rcases LX s k.2 with h|h
   ·exact .inl (hf.2.2 h1 h)
   ·exact .inr (by rw[h4 (by omega)];rfl)
theorem uH{X:Txt}(hV:TxV X)(hn:X.p.t.length<=90){n:Nat}:∀ (l:List (Nat×Nat)) (a:Nat) (y:Int),(∀ k∈l,kK X k)->SeC a l n->LCh [] a y (X.linA l y) n
 | [],a,y,_,h=>h
 | k::l,a,y,hl,⟨h1,h2,h3,h4⟩=>by
  subst h1;rw[Txt.linA];refine yS (uI hV hn (hl k (by simp)) _ _ _ (Lh _) h2 (Lh _) fun h=>?_) (uH hV hn l k.2 _ (fun x hx=>hl x (by simp[hx])) h4);rw[h3 h];rfl
theorem qY{tl:List (Nat×Nat)}{n:Nat}:∀ (B:List Int) (f i:Nat),f<=i->(B=[]->f=i)->(B≠[]->lgI B (B.length-1)=2)->SeC (i+B.length) tl n->SeC f (kP f i B++tl) n
 | [],f,i,_,h2,_,h4=>by
  rw[h2 rfl];exact h4
 | b::B,f,i,h1,_,h3,h4=>by
  have h0:B≠[]->lgI B (B.length-1)=2:=fun hb=>by
   have:=h3 (by simp);rcases B with _|⟨c,B⟩
   ·exact absurd rfl hb
   ·simpa[lgI]using this
  have h6:SeC (i+1+B.length) tl n:=by
   rw[Lx]at h4;rw[show i+1+B.length=i+(B.length+1) by omega];exact h4
  rw[kP];split
  ·exact⟨rfl,by show f<=i+1;omega,fun h=>by have h:f=i+1:=h;omega,qY B (i+1) (i+1) (Lh _) (fun _=>rfl) h0 h6⟩
  ·rename_i hb;refine qY B f (i+1) (by omega) (fun h=>?_) h0 h6;subst h;exact absurd (h3 (by simp)) hb
theorem TxV.sch{X:Txt}(hV:TxV X):SeC 0 X.secs X.p.t.length:=by
 unfold Txt.secs;refine qY X.B 0 0 (Lh _) (fun _=>rfl) (fun h=>?_) ?_
 ·have hl:=hV.bl;have hp:0<X.B.length:=L7.2 h;have h2:=hV.b2 (by omega);rw[<- hl]at h2;have h3:=atI (l:=X.B) (i:=X.B.length-1) (by omega);rw[h2]at h3;exact (Mq h3).symm
 ·rw[L3,hV.bl];split
  ·exact⟨rfl,Lh _,fun _=>rfl,rfl⟩
  ·exact rfl
theorem TxV.secs_ne{X:Txt}(hV:TxV X):X.secs≠[]:=fun h=>by
 have h1:=hV.sch;rw[h]at h1;have h1:0=X.p.t.length:=h1;unfold Txt.secs at h;rw[if_pos (.inl h1.symm)]at h;simp at h
theorem F1{X:Txt}{k:Nat×Nat}:∀ (m s:Nat) (y:Int),X.linK k m s y≠[]
 | 0,_,_=>by rw[Txt.linK];simp
 | _+1,_,_=>by rw[Txt.linK];simp
theorem TxV.chn{X:Txt}(hV:TxV X)(hn:X.p.t.length<=90):LCh [] 0 0 (X.linA X.secs 0) X.p.t.length/\X.linA X.secs 0≠[]:=by
 refine⟨uH hV hn _ _ _ hV.secs hV.sch,?_⟩;have h:=hV.secs_ne;rcases hs:X.secs with _|⟨k,l⟩
 ·exact absurd hs h
 ·rw[Txt.linA];simp[F1]
attribute [local congr] aw
noncomputable def DE:Prim:=fun cfg args h=>aN Tryz.prog md2 p2 10000 40 cfg 37 args h
noncomputable def pQ(f:FuncId):Option Prim:=
 if f=37 then some DE
 else if f=36\/f=51\/f=93\/f=40\/f=11 then some (rN f) else none
theorem pQ_ok:∀ f p,pQ f=some p->cM Tryz.prog f p:=by
 intro f p h;unfold pQ at h;split at h
 ·rename_i hf;rw[<- Option.some.inj h,hf];intro cfg args h r h' hx;exact ee hfol hnam p2_ok 40 _ _ _ _ _ _ hx
 ·split at h
  ·rw[<- Option.some.inj h];exact pn _
  ·cases h
theorem toQ{f:FuncId}{args:List V}{r:V}(d:Nat)(hq:pQ f=some (rN f))(hm:md f=0)(ha:args.all V.noref=true)(hc:∀ cfg h,af md (K pZ 40) cfg f args h=some (r,h))(cfg:Cfg)(h:Heap):af md (K pQ (d+1)) cfg f args h=some (r,h):=by
 rw[jV (md':=md) (call':=K pZ 40) hm hm ha (dq hq _ _ _)];exact hc cfg h
theorem Jy(d:Nat)(p:Par)(hn:p.t.length<=2000)(x:cn)(f e:Nat)(hf:x.l.f=f)(he:x.l.t=e)(h0:f<=e)(h4:e<=p.t.length)(cfg:Cfg)(h:Heap):
  af md (K pQ (d+1)) cfg 37 [.agg (aO p),.agg (az x)] h=some (.tup [.lst ((ptF p.t e (cu p.t++[(e:Int)]) f [] []).1.map dX),il (ptF p.t e (cu p.t++[(e:Int)]) f [] []).2],h):=by
 obtain⟨v,H,h1,h2⟩:=Bm 34 p hn x f e hf he h0 h4;have hm:md 37=0:=rfl;have ha:[V.agg (aO p),.agg (az x)].all V.noref=true:=by simp[az,bA,aO]
 have hq:pQ 37=some DE:=if_pos rfl;have h3:K pQ (d+1) ⟨0,[],0⟩ 37 [.agg (aO p),.agg (az x)] []=some (v,H):=(dq hq _ _ _).trans h1;simp only[af,hm,ha,h3,h2,if_true]
theorem Ce(l:List Int):∃ X:Txt,CtxA pZ X/\X.C=cu X.p.t/\X.p.t.length<=16/\(-1<=X.p.b/\X.p.b<=1)/\(X.lv=lvZ/\X.rs=kO)/\∀ cfg h,af md (K pZ 40) cfg 11 [il l] h=some (.tup [.agg (aO X.p),.lst ((X.linA X.secs 0).map az)],h):=by
 have h7:=fun cfg h=>Je (prim:=pZ) 38 cfg h (cH _ (by decide)) l;have hL:(l.take 4000).length<=4000:=by simp;omega
 generalize hl:l.take 4000=L at *;obtain⟨Z,hZ⟩:∃ Z:List V,Z=[.nils,.nils,.int .i64 0,.int .i64 0,.int .i64 0]:=⟨_,rfl⟩;have r0:Rd [some Z,some [il L,.int .i64 0]] 1 L 0:=⟨rfl,by omega⟩;obtain⟨fs,k1,h8,h9,ha,hc,c1⟩:=CL (prim:=pZ) 35 ⟨0,[],0⟩ [some Z,some [il L,.int .i64 0]] cH L 0 hL 1 r0 (bq (by simp)) (by simp);have r1:Rd (hk [some Z,some [il L,.int .i64 0]] 1 L k1) 1 L k1:=r0.set hc;obtain⟨p,k2,h0,hm,c2⟩:=Jx (prim:=pZ) 34 ⟨0,[],0⟩ (hk [some Z,some [il L,.int .i64 0]] 1 L k1) cH L k1 hL 1 r1 (bq (by simp)) (by simp) 16 fs.length (by omega) (by omega) (by omega);have hn:=h0.len;have C0:=Fc (C:=cu p.t) h0 (by omega) h8 h9 ha (fun d cfg h=>lY (prim:=pZ) d cH p.t (by omega) cfg h) cluS_rng.2 cluS_rng.1;obtain⟨X,h3,hd,he,hf,C⟩:∃ X:Txt,X.p=p/\X.fs=fs/\X.C=cu X.p.t/\(X.lv=lvZ/\X.rs=kO)/\CtxA pZ X:=⟨_,rfl,rfl,rfl,⟨rfl,rfl⟩,C0⟩;have h6:=fun cfg h=>C.lines 22 cfg h;refine⟨X,C,he,by rw[h3];exact h0.len,by rw[h3];exact h0.b,hf,?_⟩;rw[h3];rw[h3,hd]at h6;obtain⟨hg,hh,s0,s1,s2,s3,s4,l5,t5⟩:=oJ p;have h4:=eq_true (Lp.1 hg);have hj:putAt [V.nils,.nils,.int .i64 0,.int .i64 0,.int .i64 0] 0 (aO p)=aO p:=rfl;generalize X.linA X.secs 0=Ls at *;have e14:((16:Nat):Int)=16:=rfl;rw[e14]at c2;simp only[hk,NR,Nf]at c1 c2;subst hZ;refine fun cfg h=>aU rfl (cH _ (by decide)) Tryz.func11 rfl rfl rfl (by simp) ?_;simp(disch:=omega)[h7,c1,c2,h4,hh,l5,t5,hj,h6];rw[fG (d:=3) (by simp[aO]) (by simp[aO])];rfl
structure Ext where
 l:Int
 r:Int
 s:Bool
 d:Bool
def eN(x:Ext):List V:=[.int .i64 x.l,.int .i64 x.r,.bool x.s,.bool x.d]
theorem di(x:Ext):(eN x).length=4:=rfl
theorem tn(E:List Ext):isMap (E.flatMap eN)=false:=by cases E<;>rfl
theorem insQ(d:Nat)(t:List Int)(x:cn)(f e:Nat)(hf:x.l.f=f)(he:x.l.t=e)(h8:f<=e)(h9:e<=t.length)(cfg:Cfg)(h:Heap):
  af md (K pQ (d+1)) cfg 35 [rl t,.agg (az x)] h=some (.bool true,h):=by
 have ha:(az x).length=10:=rfl;have h3:isMap (az x)=false:=rfl;have h4:(∀ c∈az x,c.leaf=true)=True:=eq_true (by simp[az,bA]);have h6:slot (az x) 0=some (.int .i64 f):=by rw[<- hf];rfl
 have h7:slot (az x) 1=some (.int .i64 e):=by rw[<- he];rfl
 refine aU rfl rfl Tryz.func35 rfl rfl rfl (by simp[az,bA]) ?_;have h0:(0:Int)<=f:=by omega
 have h1:(f:Int)<=e:=by omega
 have h2:(e:Int)<=t.length:=by omega
 simp(disch:=omega)[h3,h4,h6,h7,h0,h1,h2]
theorem zW{c:List V}{a b:Nat}{v:V}(h:a≠b):slot (bz c a v) b=slot c b:=by rw[slot,bz,Li h,slot]
theorem isMap_set{C:List V}{j:Nat}{v:V}(h:isMap C=false)(hv:isMap [v]=false):isMap (bz C j v)=false:=by
 cases C with
 | nil=>rfl
 | cons c C =>
  cases j with
  | zero=>cases v<;>first|rfl|exact hv
  | succ j=>cases c<;>first|rfl|exact h
theorem jZ{C:List V}{j:Nat}{v:V}:isMap (bz C (j+1) v)=isMap C:=by
 cases C with
 | nil=>rfl
 | cons c C=>cases c<;>rfl
theorem uT{E:List Ext}{i:Nat}{x:Ext}(hx:E[i]?=some x)(d:Bool):bz (bz (E.flatMap eN) (i*4+2) (.bool true)) (i*4+3) (.bool d)=(E.set i ⟨x.l,x.r,true,d⟩).flatMap eN:=by
 have hi:=(Ld.1 hx).1;rw[eh (k:=2) (x':=⟨x.l,x.r,true,x.d⟩) di (by omega) hx rfl,eh (k:=3) (x:=⟨x.l,x.r,true,x.d⟩) (x':=⟨x.l,x.r,true,d⟩) di (by omega) (Lo hi) rfl,L6]
theorem CE{E:List Ext}{i:Nat}{x:Ext}(hx:E[i]?=some x)(l r:Int)(d:Bool):bz (bz (bz (bz (E.flatMap eN) (i*4) (.int .i64 l)) (i*4+1) (.int .i64 r)) (i*4+2) (.bool true)) (i*4+3) (.bool d)=(E.set i ⟨l,r,true,d⟩).flatMap eN:=by
 have hi:=(Ld.1 hx).1;rw[show i*4=i*4+0 from rfl,eh (k:=0) (x':=⟨l,x.r,x.s,x.d⟩) di (by omega) hx rfl,MT,eh (k:=1) (x:=⟨l,x.r,x.s,x.d⟩) (x':=⟨l,r,x.s,x.d⟩) di (by omega) (Lo hi) rfl,L6,uT (x:=⟨l,r,x.s,x.d⟩) (Lo hi),L6]
theorem Au(d:Nat)(H:Heap)(b:Nat)(E:List Ext)(i:Nat)(x:Ext)(hb:ab H b=some (E.flatMap eN))(hx:E[i]?=some x)(cfg:Cfg)(hw:cfg.wr b=true)(l r:Int):
  ∃ u x',af md (K pQ (d+1)) cfg 39 [.ptr b (i*4),.int .i64 l,.int .i64 r] H=some (u,H.set b (some ((E.set i x').flatMap eN)))/\x'.s=true:=by
 suffices HH:∃ u h2,af md (K pQ (d+1)) cfg 39 [.ptr b (i*4),.int .i64 l,.int .i64 r] H=some (u,h2)/\∃ x',h2=H.set b (some ((E.set i x').flatMap eN))/\x'.s=true by
  obtain⟨u,_,h1,x',rfl,h2⟩:=HH;exact⟨u,x',h1,h2⟩
 refine iL (Post:=fun _ h2=>∃ x',h2=H.set b (some ((E.set i x').flatMap eN))/\x'.s=true) rfl rfl Tryz.func39 rfl rfl rfl ?_;have h7:=al hb;have h0:Cfg.wr ⟨cfg.lo,cfg.ex,H.length⟩ b=true:=hw;have e0:=lz di (by omega) hx;have e1:=cT (k:=1) di (by omega) hx;have e2:=cT (k:=2) di (by omega) hx;have e3:=cT (k:=3) di (by omega) hx;have x0:slot (eN x) 0=some (.int .i64 x.l):=rfl;have x1:slot (eN x) 1=some (.int .i64 x.r):=rfl;have x2:slot (eN x) 2=some (.bool x.s):=rfl;have x3:slot (eN x) 3=some (.bool x.d):=rfl;have h4:=CE hx;have h2:=uT hx;have h6:=tn E;have hCl:(E.flatMap eN).length=E.length*4:=bJ di E;have hi:=(Ld.1 hx).1;generalize E.flatMap eN=C at *;have q1:i*4+1<=E.length*4:=by omega
 have q2:i*4+2<=E.length*4:=by omega
 have q3:i*4+3<=E.length*4:=by omega
 have q4:i*4+4<=E.length*4:=by omega
 have m0:∀ n:Int,isMap (bz C (i*4) (.int .i64 n))=false:=fun _=>isMap_set h6 rfl;cases hs:x.s
 ·cases hd:x.d<;>by_cases h3:l<r<;>simp(disch:=omega)[hb,e2,e3,x2,x3,hs,hd,h3,h0,hCl,zW,m0,jZ,q1,q2,q3,q4,-getElem?_pos]
  all_goals exact⟨_,by rw[Lu (by simp),h4],rfl⟩
 ·cases hd:x.d<;>by_cases h3:l<r<;>simp(disch:=omega)[hb,e2,e3,x2,x3,hs,hd,h3,h0,hCl,zW,m0,jZ,h6,q1,q2,q3,q4,-getElem?_pos]
  ·exact⟨_,by rw[Lu (by simp),h4],rfl⟩
  ·refine ah 14 (by kernel_rfl) ?_;simp(disch:=omega)[hb,e0,e1,e3,x0,x1,x3,hd,h3,h0,hCl,zW,m0,jZ,q1,q2,q3,q4,-getElem?_pos];exact⟨_,by rw[Lu (by simp),h4],rfl⟩
  ·refine ah 14 (by kernel_rfl) ?_;simp(disch:=omega)[hb,e0,e1,e3,x0,x1,x3,hd,h0,hCl,zW,m0,jZ,q1,q2,q3,q4,-getElem?_pos];exact⟨_,by rw[Lu (by simp),h4],rfl⟩
  ·exact⟨_,by rw[Lu (by simp),h2],rfl⟩
def un:List Ext->Nat
 | []=>0
 | x::E=>(if x.s=true then 0 else 1)+un E
theorem Ek:∀ {E:List Ext}{n:Nat}{x x':Ext},E[n]?=some x->x'.s=true->un (E.set n x')+(if x.s=true then 0 else 1)=un E
 | y::E,0,x,x',h,h2=>by
  cases h;rw[Nf,un,un,if_pos h2];omega
 | y::E,n+1,x,x',h,h2=>by
  rw[LV]at h;have:=Ek h h2;rw[NR,un,un];omega
structure Ord(E:List Ext)(o:List Int):Prop where
 nd:o.Nodup
 mem:∀ n:Nat,(n:Int)∈o↔∃ x,E[n]?=some x/\x.s=true
 pos:∀ k∈o,0<=k
 len:o.length+un E=E.length
theorem Ord.set{E:List Ext}{o:List Int}{n:Nat}{x x':Ext}(h:Ord E o)(hx:E[n]?=some x)(h2:x'.s=true):Ord (E.set n x') (if x.s=true then o else o++[(n:Int)]):=by
 have hn:=(Ld.1 hx).1;have hu:=Ek hx h2;have hm:∀ k:Nat,(∃ y,(E.set n x')[k]?=some y/\y.s=true)↔k=n\/∃ y,E[k]?=some y/\y.s=true:=fun k=>by
  by_cases hk:k=n
  ·subst hk;rw[Lo hn];exact⟨fun _=>.inl rfl,fun _=>⟨x',rfl,h2⟩⟩
  ·rw[Li (fun e=>hk e.symm)];exact⟨fun h=>.inr h,fun h=>h.resolve_left hk⟩
 cases hs:x.s
 ·rw[if_neg (by simp)];rw[hs,if_neg (by simp)]at hu;have h0:(n:Int) ∉ o:=fun e=>by
   obtain⟨y,h3,h4⟩:=(h.mem n).1 e;rw[hx]at h3;cases h3;rw[hs]at h4;cases h4
  refine⟨List.nodup_append.2 ⟨h.nd,by simp,fun a ha b hb e=>?_⟩,fun k=>?_,fun k hk=>?_,?_⟩
  ·rw[LP.1 hb]at e;exact h0 (e ▸ ha)
  ·rw[hm,LA,h.mem,LP];exact⟨fun e=>e.elim .inr fun e=>.inl (by omega),fun e=>e.elim (fun e=>.inr (by omega)) .inl⟩
  ·rcases LA.1 hk with hk|hk
   ·exact h.pos k hk
   ·rw[LP.1 hk];omega
  ·have:=h.len;simp;omega
 ·rw[if_pos rfl];rw[hs,if_pos rfl]at hu;refine⟨h.nd,fun k=>?_,h.pos,by have:=h.len;simp;omega⟩;rw[hm,h.mem];exact⟨.inr,fun e=>e.elim (fun e=>by subst e;exact⟨x,hx,hs⟩) id⟩
def b5(B0 B1:Option (List V))(E:List Ext)(v:V):Heap:=[B0,B1,some (E.flatMap eN),some [.sl 2 0 E.length E.length 4],some [v]]
theorem lU(d:Nat)(B0 B1:Option (List V))(H:Heap)(E:List Ext)(hE:E.length<=2000)(v:V)(o:List Int)(os:List Own)(hO:Ord E o)(hh:Hp H (b5 B0 B1 E v) ((1,v,o.map (V.int .i64))::os))(k:Int)(hk:k<E.length)(l r:Int):
  ∃ u H' E' v' o',af md (K pQ (d+2)) ⟨0,[],0⟩ 38 [.int .i64 k,.int .i64 l,.int .i64 r,.ptr 3 0,.ptr 4 0] H=some (u,H')/\Hp H' (b5 B0 B1 E' v') ((1,v',o'.map (V.int .i64))::os)/\E'.length=E.length/\Ord E' o'/\(∀ j∈o,j∈o')/\(0<=k->k∈o'):=by
 suffices HH:∃ u h2,af md (K pQ (d+2)) ⟨0,[],0⟩ 38 [.int .i64 k,.int .i64 l,.int .i64 r,.ptr 3 0,.ptr 4 0] H=some (u,h2)/\∃ E' v' o',Hp h2 (b5 B0 B1 E' v') ((1,v',o'.map (V.int .i64))::os)/\E'.length=E.length/\Ord E' o'/\(∀ j∈o,j∈o')/\(0<=k->k∈o') by
  obtain⟨u,H',h1,E',v',o',h2⟩:=HH;exact⟨u,H',E',v',o',h1,h2⟩
 refine pG (md:=md) (prim:=pQ) (Post:=fun _ h2=>∃ E' v' o',Hp h2 (b5 B0 B1 E' v') ((1,v',o'.map (V.int .i64))::os)/\E'.length=E.length/\Ord E' o'/\(∀ j∈o,j∈o')/\(0<=k->k∈o')) rfl rfl Tryz.func38 rfl rfl rfl ?_;by_cases h6:k<0
 ·simp[h6];exact⟨E,v,o,hh,rfl,hO,fun _ h=>h,fun h=>absurd h (by omega)⟩
 obtain⟨n,rfl⟩:∃ n:Nat,k=n:=⟨_,(MX (by omega)).symm⟩;have hn:n<E.length:=by omega
 obtain⟨x,hx⟩:=atG hn;have hd:∀ {H:Heap} {v:V} {o:List Int},Hp H (b5 B0 B1 E v) ((1,v,o.map (V.int .i64))::os)->ab H 2=some (E.flatMap eN)/\ab H 3=some [.sl 2 0 E.length E.length 4]:=fun hh=>by
  rw[hh.block (by simp[b5]),hh.block (by simp[b5])];refine⟨?_,rfl⟩;show (if isMap (E.flatMap eN)=true then none else some _)=_;rw[tn];rfl
 have he:∀ {H:Heap} {os:List Own},Hp H (b5 B0 B1 E v) os->ab H 4=some [v]:=fun {H' os} h4=>by
  rw[h4.block (by simp[b5])];rcases hh.head with⟨rfl,_⟩|⟨b,n,rfl,_⟩<;>rfl
 have e2:=cT (k:=2) di (by omega) hx;have x2:slot (eN x) 2=some (.bool x.s):=rfl;have hq:(E.flatMap eN).length=E.length*4:=bJ di E;have h7:∀ b,Cfg.wr ⟨0,[],0⟩ b=true:=fun b=>bq (LJ _);have h0:=fun x' h2=>hO.set (x':=x') hx h2;obtain⟨h8,hf⟩:=hd hh;have h3:=he hh;have hr:=hO.len;have ht:o.length<=2000:=by omega
 cases hs:x.s
 ·rw[hs,if_neg (by simp)]at h0;simp(disch:=omega)[h6,h8,hf,h3,e2,x2,hs];refine bH (m:=1) (hh.push [some [V.int .i64 (n:Int)]]) (LJ _) rfl rfl (by omega) (by omega) (by simp;omega) (by simp;omega) ?_;intro v' H' h9;have h3:=he h9;have hu:=al h3;have hj:cellsOf v'=[v']:=by rcases h9.head with⟨rfl,_⟩|⟨b,n,rfl,_⟩<;>rfl
  have hg:Hp (H'.set 4 (some [v'])) (b5 B0 B1 E v') ((1,v',(o++[(n:Int)]).map (V.int .i64))::os):=by
   have:=h9.set (b:=4) (by simp[b5]) (some [v']);simpa[b5]using this
  obtain⟨hl,hm⟩:=hd hg;obtain⟨u,x',hA,ha⟩:=Au d (H'.set 4 (some [v'])) 2 E n x hl hx ⟨0,[],0⟩ (h7 2) l r;simp(disch:=omega)[hj,h3,h7,hm,hA];have hc:=hg.set (b:=2) (by simp[b5]) (some ((E.set n x').flatMap eN));exact⟨E.set n x',v',o++[(n:Int)],by simpa[b5]using hc,by simp,h0 x' ha,fun j h=>by simp[h],by simp⟩
 ·rw[hs,if_pos rfl]at h0;obtain⟨u,x',hA,ha⟩:=Au d H 2 E n x h8 hx ⟨0,[],0⟩ (h7 2) l r;simp(disch:=omega)[h6,h8,hf,e2,x2,hs,hA];have hc:=hh.set (b:=2) (by simp[b5]) (some ((E.set n x').flatMap eN));exact⟨E.set n x',v,o,by simpa[b5]using hc,by simp,h0 x' ha,fun _ h=>h,(hO.mem n).2 ⟨x,hx,hs⟩⟩
end Bi
end Go.Ab
