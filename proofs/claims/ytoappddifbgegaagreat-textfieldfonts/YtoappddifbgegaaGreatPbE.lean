/- Several texts of this proof in one. -/
import Derived.Test.YtoappddifbgegaaGreatPdP
set_option linter.all false
namespace Go.Ab
open Go.Proofs
namespace Bi
theorem yD{α:Type}{r:α->α->Prop}{l:List α}(h:l.Pairwise r){i j:Nat}{x y:α}(h0:i<j)(hx:l[i]?=some x)(hy:l[j]?=some y):r x y:=by
 obtain⟨h1,rfl⟩:=K5.1 hx;obtain⟨h2,rfl⟩:=K5.1 hy;exact (Mc.1 h) i j h1 h2 h0
theorem FF{f:Fnt}(h:zf f):bQ f=0:=by
 have h1:=h.u;have h2:=h.a;have h3:=h.d;have h4:=h.g;have h5:=h.df;have h6:=h.advL;have h7:=h.kerL;have h8:=h.ligL;refine AE (by omega) ⟨⟨by omega,by omega,by omega,by omega,by omega,by omega,by omega,by omega,by rw[wrap64 (by omega) (by omega)];omega,by omega,by omega⟩,fun x hx=>?_,fun x hx=>?_,fun x hx=>?_⟩ ⟨fun i x hx=>?_,fun i x y hx hy=>?_,fun i x y hx hy=>?_⟩
 ·have:=h.adv x hx;exact⟨by omega,by omega,by omega,by omega,by omega,by omega⟩
 ·have:=h.ker x hx;exact⟨by omega,by omega,by omega,by omega,by omega,by omega⟩
 ·have:=h.lig x hx;exact⟨by omega,by omega,by omega,by omega,by omega,by omega,by omega,by omega⟩
 ·have h9:=h.adv x (K6 hx);refine⟨by omega,fun y hi hy=>yD h.advA (show i-1<i by omega) hy hx⟩
 ·rw[Lh]at hx hy;obtain⟨x',h0,rfl⟩:=Lx.1 hx;obtain⟨y',ha,rfl⟩:=Lx.1 hy;exact yD h.kerA (Nat.lt_succ_self i) h0 ha
 ·rw[Lh]at hx hy;obtain⟨x',h0,rfl⟩:=Lx.1 hx;obtain⟨y',ha,rfl⟩:=Lx.1 hy;exact yD h.ligA (Nat.lt_succ_self i) h0 ha
theorem tG:∀ {l:List Spn}{a b:Int},Cov a b l->a<=b/\∀ s∈l,a<=s.f/\s.f<s.t/\s.t<=b
 | [],a,b,h=>⟨by have h:a=b:=h;omega,fun _ h=>by cases h⟩
 | s::l,a,b,⟨h1,h2,h3⟩=>by
  have ih:=tG h3;refine⟨by omega,fun x hx=>?_⟩;rcases Lt.1 hx with rfl|hx
  ·omega
  ·have:=ih.2 x hx;omega
theorem zw:∀ {l:List Spn}{a b:Int}(i:Nat),Cov a b l->(spI i l).length=(b-a).toNat
 | [],a,b,_,h=>by have h:a=b:=h;simp[spI,h]
 | s::l,a,b,i,⟨h1,h2,h3⟩=>by
  have ih:=zw (i+1) h3;have:=(tG h3).1;rw[spI,Ln,List.length_replicate,ih];omega
theorem zz:∀ {fs:List Fnt},(∀ f∈fs,bQ f=0)->lB fs=0
 | [],_=>rfl
 | f::r,h=>by rw[su,if_pos (h f (by simp)),zz fun x hx=>h x (by simp[hx])]
open Classical in
noncomputable def lvZ(t:List Int)(b:Int):List Int:=if h:t.length<=2000/\(-1<=b/\b<=1) then Classical.choose (zR t h.1 b h.2) else []
theorem DE{t:List Int}{b:Int}(ht:t.length<=2000)(hb:-1<=b/\b<=1):(∀ (d:Nat) (cfg:Cfg) (h:Heap),af md (K pZ (d+1)) cfg 236 [rl t,.int .i64 b] h=some (il (lvZ t b),h))/\(lvZ t b).length=t.length:=by
 unfold lvZ;rw[dif_pos ⟨ht,hb⟩];have h:=Classical.choose_spec (zR t ht b hb);exact⟨h.1,h.2.1⟩
theorem Fu(t:List Int)(ht:t.length<=2000):∃ C:List Int,(∀ (d:Nat) (cfg:Cfg) (h:Heap),af md (K pZ (d+4)) cfg 72 [rl t] h=some (il C,h))/\C.length<=t.length+1/\∀ x∈C,0<=x/\x<=t.length:=by
 obtain⟨_,⟨C,rfl,h1,h2⟩,h3⟩:=CJ (prim:=pZ) 0 dS t ht;refine⟨C,fun d cfg h=>?_,h1,h2⟩;have:=xJ (0+4) d (h3 cfg h);rw[show 0+4+d=d+4 by omega]at this;exact this
theorem Fw{p:Par}{fs:List Fnt}{n:Nat}(hP:Cl p n fs.length)(hn:n<=60)(hc:1<=fs.length)(hd:fs.length<=3)(hF:∀ f∈fs,zf f){C:List Int}(hC:∀ (d:Nat) (cfg:Cfg) (h:Heap),af md (K pZ (d+4)) cfg 72 [rl p.t] h=some (il C,h))(he:C.length<=p.t.length+1)(h8:∀ x∈C,0<=x/\x<=p.t.length):CtxA pZ ⟨p,fs,kE p.t C,C,lvZ,mN⟩:=by
 have hg:=hP.len;have hh:=hP.sl;have hb:=hP.b;have ha:=hP.a;have hw:=hP.w;have h6:∀ s∈p.s,0<=s.n/\s.n<fs.length/\1<=s.z/\s.z<=1000:=fun s hs=>by have:=hP.sp s hs;omega
 have h7:∀ f∈fs,bQ f=0:=fun f hf=>FF (hF f hf);have h9:qa p.s p.t.length:=by
  unfold qa;rcases hP.cov with⟨h1,h2⟩|⟨h1,h2⟩
  ·rw[if_pos (by rw[h1];rfl)];exact h2
  ·rw[if_neg (by intro e;exact h1 (LH.1 (by omega)))];exact h2
 have h0:0<p.s.length/\(spI 0 p.s).length=p.t.length/\∀ s∈p.s,0<=s.f/\s.f<=2000/\0<=s.t/\s.t<=2000:=by
  rcases hP.cov with⟨h1,s,h2,h3,h4⟩|⟨h1,h2⟩
  ·rw[h1,h2];refine⟨by simp,by simp[spI,h3,h4],fun x hx=>?_⟩;simp at hx;subst hx;omega
  ·have h3:=zw 0 h2;have h4:=tG h2;refine⟨?_,by rw[h3];omega,fun x hx=>?_⟩
   ·rcases hs:p.s with _|⟨s,ss⟩
    ·rw[hs]at h2;have h5:(0:Int)=p.t.length:=h2;exact absurd (LH.1 (by omega)) h1
    ·simp
   ·have:=h4.2 x hx;omega
 refine { hp:=dS,hG:=Gw,hV:=?_,hXr:=rfl,hpR:=JB,hCl:=fun d cfg H l=>Iz d cfg H l,hCn:=Ft,h5:=by show p.t.length<=90;omega,hB:=rfl,hC:=hC,hLv:=fun d cfg h t ht=>(DE ht hb).1 d cfg h,hsb:=h0.2.2,hVl:=fun d cfg h=>?_ }
 ·exact { n:=by show p.t.length<=2000;omega,sp:=h0.2.1,sn:=⟨h0.1,by show p.s.length<=2000;omega⟩,fn:=by show fs.length<=2000;omega,sf:=h6,fv:=h7,w:=⟨hw.1,by show p.w<=100000000;omega⟩,bl:=pP,b2:=fun h=>sj h,cl:=⟨by show C.length<=4000;omega,h8⟩,lv:=fun t ht=>(DE ht hb).2,rs:=fun t lv e a b h1 h2 h3=>wT h1 h2 h3 }
 ·obtain⟨_,rfl,h1,_⟩:=Cc (prim:=pZ) d dS p (by omega) (by omega) fs (by omega) fun f hf=>by have h1:=hF f hf;exact⟨by have:=h1.advL;omega,by have:=h1.kerL;omega,by have:=h1.ligL;omega⟩
  have hv:oT p fs=0:=by
   refine AG (by omega) ?_ (zz h7) h9;rintro (h|⟨s,hs,h⟩)
   ·unfold rM at h;omega
   ·have:=h6 s hs;unfold pM at h;omega
  have:=h1 rfl cfg h;rw[hv]at this;exact this
theorem IB{p:Par}{fs:List Fnt}{n:Nat}(hP:Cl p n fs.length)(hn:n<=60)(h0:1<=fs.length)(h3:fs.length<=3)(hF:∀ f∈fs,zf f):∃ X:Txt,X.p=p/\X.fs=fs/\CtxA pZ X:=by
 have h7:=hP.len;obtain⟨C,hC,h4,h6⟩:=Fu p.t (by omega);exact⟨_,rfl,rfl,Fw hP hn h0 h3 hF hC h4 h6⟩
end Bi
end Go.Ab
namespace Go.Ab
open Go.Proofs
namespace Bi
attribute [local congr] az
theorem TxV.lwd{X:Txt}(hV:TxV X)(hn:X.p.t.length<=90){k:Nat×Nat}(hk:xB X k){s:Nat}(h1:k.1<=s)(h2:s<=k.2):0<=X.lwd k s (X.fin k s)/\X.lwd k s (X.fin k s)<=81000000000:=by
 have hf:=iG (X:=X) hk h2;obtain⟨h8,h9⟩:=hV.gls h1 hf.1 hf.2.1 hk.2.1 hn;have h0:(X.lgl k s (X.fin k s)).length<=8100/\∀ g∈X.lgl k s (X.fin k s),0<=g.a/\g.a<=10000000:=by
  unfold Txt.lgl;split
  ·refine⟨by simpa using h8,fun g hg=>?_⟩;obtain⟨g',h3,rfl⟩:=Me.1 hg;have:=h9 g' h3;split
   ·simp
   ·exact this
  ·exact⟨h8,h9⟩
 have h:=gy h0.2 _ (La _);rw[LF]at h;unfold Txt.lwd;omega
end Bi
end Go.Ab
namespace Go.Ab
open Go.Proofs
namespace Bi
theorem DK{f:Int->Int}{l:List Int}:0<=mx f l/\∀ x∈l,f x<=mx f l:=by
 unfold mx;have:∀ (l:List Int) (a:Int),a<=l.foldl (fun a i=>max a (f i)) a/\∀ x∈l,f x<=l.foldl (fun a i=>max a (f i)) a:=by
  intro l
  induction l with
  | nil=>intro a;exact⟨Oj _,fun _ h=>by cases h⟩
  | cons x l ih =>
   intro a;have h1:=ih (max a (f x));rw[Nd];refine⟨by omega,fun y hy=>?_⟩;rcases Lt.1 hy with rfl|hy
   ·omega
   ·exact h1.2 y hy
 exact this l 0
def SeC:Nat->List (Nat×Nat)->Nat->Prop
 | a,[],n=>a=n
 | a,k::l,n=>k.1=a/\k.1<=k.2/\(k.1=k.2->l=[])/\SeC k.2 l n
def LCh(e:List jl):Nat->Int->List jl->Nat->Prop
 | a,_,[],b=>a=b
 | a,y,x::l,b=>∃ t:Nat,x.l.f=a/\x.l.y=y/\x.l.t=t/\a<=t/\(a<t\/l++e=[])/\1<=x.l.h/\x.l.h<=15000000/\(0<=x.l.a/\0<=x.l.d/\x.l.a+x.l.d<=x.l.h)/\LCh e t (y+x.l.h) l b
theorem zq{e l2:List jl}{b c:Nat}:∀ {l1:List jl}{a:Nat}{y:Int},LCh (l2++e) a y l1 c->LCh e c (y+Txt.hgt l1) l2 b->LCh e a y (l1++l2) b
 | [],a,y,h1,h2=>by
  have h1:a=c:=h1;subst h1;simpa[Txt.hgt]using h2
 | x::l,a,y,⟨t,g1,g2,g3,g4,g5,g6,g7,g8,g9⟩,h2=>by
  refine⟨t,g1,g2,g3,g4,?_,g6,g7,g8,zq g9 ?_⟩
  ·have:(l++l2)++e=l++(l2++e):=Ly _ _ _;rcases g5 with g5|g5
   ·exact .inl g5
   ·exact .inr (this.trans g5)
  ·have:y+Txt.hgt (x::l)=y+x.l.h+Txt.hgt l:=by simp[Txt.hgt];omega
   rw[this]at h2;exact h2
theorem TxV.lin1{X:Txt}(hV:TxV X)(hn:X.p.t.length<=90){k:Nat×Nat}{s t:Nat}{y:Int}(h1:s<=t)(h2:t<=X.p.t.length):
  1<=(X.lin k s t y).l.h/\(X.lin k s t y).l.h<=15000000/\(0<=(X.lin k s t y).l.a/\0<=(X.lin k s t y).l.d/\(X.lin k s t y).l.a+(X.lin k s t y).l.d<=(X.lin k s t y).l.h):=by
 have hH:=hV.linH k s t y hn;obtain⟨x,hx⟩:∃ x,x∈X.spans s t:=by
  unfold Txt.spans;split
  ·have hl:0<((X.sp.take t).drop s).length:=by simp[hV.sp];omega
   exact⟨_,MA hl⟩
  ·exact⟨_,LN.2 rfl⟩
 have h4:0<=x/\x<X.p.s.length:=by
  have h6:=hV.sn;unfold Txt.spans at hx;split at hx
  ·exact hV.spm x (LQ (MG hx))
  ·simp at hx;omega
 have hm:=(DK (f:=X.hei) (l:=X.spans s t)).2 x hx;have h0:=(DK (f:=X.asc) (l:=X.spans s t)).1;have h3:=(DK (f:=X.des) (l:=X.spans s t)).1;obtain⟨q,rfl⟩:∃ q:Nat,x=q:=⟨x.toNat,by omega⟩;obtain⟨sp,f,g1,g2,g3,g4,g5,g6,g7,g8,g9,g10⟩:=hV.at (q:=q) (by omega);have h8:=lQ g7 g5 g6;rw[g10]at hm;refine⟨?_,hH.2,h0,h3,?_⟩
 ·show 1<=max (mx X.hei (X.spans s t)) (mx X.asc (X.spans s t)+mx X.des (X.spans s t));omega
 ·show mx X.asc (X.spans s t)+mx X.des (X.spans s t)<=max (mx X.hei (X.spans s t)) (mx X.asc (X.spans s t)+mx X.des (X.spans s t));omega
theorem uV{X:Txt}(hV:TxV X)(hn:X.p.t.length<=90){k:Nat×Nat}(hk:xB X k){e:List jl}:∀ (m s:Nat) (y:Int),k.1<=s->s<=k.2->k.2-s<=m->(s=k.2->e=[])->LCh e s y (X.linK k m s y) k.2
 | 0,s,y,h1,h2,h3,h4=>by
  have hf:=iG (X:=X) hk h2;have hl:=hV.lin1 hn (k:=k) (y:=y) hf.1 (by have:=hk.2.1;omega);rw[Txt.linK];exact⟨X.fin k s,rfl,rfl,rfl,hf.1,.inr (by rw[h4 (by omega)];rfl),hl.1,hl.2.1,hl.2.2,by show X.fin k s=k.2;omega⟩
 | m+1,s,y,h1,h2,h3,h4=>by
  have hf:=iG (X:=X) hk h2;have hl:=hV.lin1 hn (k:=k) (y:=y) hf.1 (by have:=hk.2.1;omega);rw[Txt.linK];by_cases h0:X.fin k s<k.2
  ·rw[if_pos h0];have h5:=hf.2.2 h1 (by omega);exact⟨X.fin k s,rfl,rfl,rfl,hf.1,.inl h5,hl.1,hl.2.1,hl.2.2,uV hV hn hk m _ _ (by omega) (by omega) (by omega) fun h=>by omega⟩
  ·rw[if_neg h0];refine⟨X.fin k s,rfl,rfl,rfl,hf.1,?_,hl.1,hl.2.1,hl.2.2,by show X.fin k s=k.2;omega⟩;rcases LS s k.2 with h|h
   ·exact .inl (hf.2.2 h1 h)
   ·exact .inr (by rw[h4 (by omega)];rfl)
theorem uU{X:Txt}(hV:TxV X)(hn:X.p.t.length<=90){n:Nat}:∀ (l:List (Nat×Nat)) (a:Nat) (y:Int),(∀ k∈l,xB X k)->SeC a l n->LCh [] a y (X.linA l y) n
 | [],a,y,_,h=>h
 | k::l,a,y,hl,⟨h1,h2,h3,h4⟩=>by
  subst h1;rw[Txt.linA];refine zq (uV hV hn (hl k (by simp)) _ _ _ (La _) h2 (La _) fun h=>?_) (uU hV hn l k.2 _ (fun x hx=>hl x (by simp[hx])) h4);rw[h3 h];rfl
theorem ry{tl:List (Nat×Nat)}{n:Nat}:∀ (B:List Int) (f i:Nat),f<=i->(B=[]->f=i)->(B≠[]->lgI B (B.length-1)=2)->SeC (i+B.length) tl n->SeC f (mT f i B++tl) n
 | [],f,i,_,h2,_,h4=>by
  rw[h2 rfl];exact h4
 | b::B,f,i,h1,_,h3,h4=>by
  have h0:B≠[]->lgI B (B.length-1)=2:=fun hb=>by
   have:=h3 (by simp);rcases B with _|⟨c,B⟩
   ·exact absurd rfl hb
   ·simpa[lgI]using this
  have h6:SeC (i+1+B.length) tl n:=by
   rw[Lp]at h4;rw[show i+1+B.length=i+(B.length+1) by omega];exact h4
  rw[mT];split
  ·exact⟨rfl,by show f<=i+1;omega,fun h=>by have h:f=i+1:=h;omega,ry B (i+1) (i+1) (La _) (fun _=>rfl) h0 h6⟩
  ·rename_i hb;refine ry B f (i+1) (by omega) (fun h=>?_) h0 h6;subst h;exact absurd (h3 (by simp)) hb
theorem TxV.sch{X:Txt}(hV:TxV X):SeC 0 X.secs X.p.t.length:=by
 unfold Txt.secs;refine ry X.B 0 0 (La _) (fun _=>rfl) (fun h=>?_) ?_
 ·have hl:=hV.bl;have hp:0<X.B.length:=LW.2 h;have h2:=hV.b2 (by omega);rw[<- hl]at h2;have h3:=atI (l:=X.B) (i:=X.B.length-1) (by omega);rw[h2]at h3;exact (Nf h3).symm
 ·rw[LU,hV.bl];split
  ·exact⟨rfl,La _,fun _=>rfl,rfl⟩
  ·exact rfl
theorem TxV.secs_ne{X:Txt}(hV:TxV X):X.secs≠[]:=fun h=>by
 have h1:=hV.sch;rw[h]at h1;have h1:0=X.p.t.length:=h1;unfold Txt.secs at h;rw[if_pos (.inl h1.symm)]at h;simp at h
theorem Gh{X:Txt}{k:Nat×Nat}:∀ (m s:Nat) (y:Int),X.linK k m s y≠[]
 | 0,_,_=>by rw[Txt.linK];simp
 | _+1,_,_=>by rw[Txt.linK];simp
theorem TxV.chn{X:Txt}(hV:TxV X)(hn:X.p.t.length<=90):LCh [] 0 0 (X.linA X.secs 0) X.p.t.length/\X.linA X.secs 0≠[]:=by
 refine⟨uU hV hn _ _ _ hV.secs hV.sch,?_⟩;have h:=hV.secs_ne;rcases hs:X.secs with _|⟨k,l⟩
 ·exact absurd hs h
 ·rw[Txt.linA];simp[Gh]
attribute [local congr] az
section
variable {prim:FuncId->Option Prim}(d:Nat)
theorem GO(hp:∀ f,Np5 f->prim f=none)(t:List Int)(ht:t.length<=2000)(cfg:Cfg)(h:Heap):af md (K prim (d+1)) cfg 20 [rl t,rl t] h=some (.bool true,h):=by
 refine aP rfl (hp 20 (by decide)) Tryz.func20 rfl rfl rfl (by simp) ?_;simp;refine ah (fun m fr H=>∃ i:Nat,i<=t.length/\m=t.length-i/\Slots 26 [(0,rl t),(1,rl t),(5,.int .i64 i)] fr) (m:=t.length) (by omega) ⟨0,by omega,by omega,by simp⟩ ?_;rintro m fr H ⟨i,hi,rfl,hs⟩;obtain⟨j,rfl⟩:=hs.ex;clear hs;by_cases h0:i<t.length
 ·have hI:(i:Int)<t.length:=by omega
  obtain⟨x,hx⟩:∃ x,t[i]?=some x:=⟨_,K4 h0⟩;simp(disch:=omega)[hI];refine ai 8 (by kernel_rfl) ?_;simp(disch:=omega)[hx,wrap64,-getElem?_pos];exact ae (m':=t.length-(i+1)) (by omega) ⟨i+1,by omega,rfl,by simp⟩
 ·simp[h0]
end
end Bi
end Go.Ab
