/- Several texts of this proof in one. -/
import Derived.Test.YtldfgkjmficliaaGreatPaQa
set_option linter.all false
namespace Go.Ab
open Go.Proofs
namespace Bi
def yI(t:List Int)(f e:Nat)(B:List Int)(S:Nat->Prop)(c:Nat×Nat):Prop:=
 f<=c.1/\c.1<c.2/\c.2<=e/\S c.1/\S c.2/\vis ((t.take c.2).drop c.1)=true/\∀ y∈B,¬ ((c.1:Int)<y/\y<c.2)
theorem pj{t:List Int}{f e:Nat}{B:List Int}{S:Nat->Prop}:∀ (D:List Int) (a:Nat) (cs:List (Nat×Nat)) (dn:List Int),f<=a->a<=e->dn.length=a-f->(∀ v∈dn,v<cs.length)->cs.Pairwise (fun c c'=>c.2<=c'.1)->(∀ c∈cs,c.2<=a/\yI t f e B S c)->(a=e\/(e:Int)∈D)->S a->(∀ c∈D,S (min c (e:Int)).toNat)->D.Pairwise (fun c y=>min c (e:Int)<=y)->(∀ y∈B,y<=a\/y∈D\/e<=y) ->
  (ptF t e D a cs dn).2.length=e-f/\(∀ v∈(ptF t e D a cs dn).2,v<(ptF t e D a cs dn).1.length)/\(ptF t e D a cs dn).1.Pairwise (fun c c'=>c.2<=c'.1)/\∀ c∈(ptF t e D a cs dn).1,yI t f e B S c
 | [],a,cs,dn,h1,h2,h3,h4,h5,h6,h7,h8,h9,ha,h0=>by
  rw[ptF];rcases h7 with h7|h7
  ·exact⟨by show dn.length=_;omega,h4,h5,fun c hc=>(h6 c hc).2⟩
  ·cases h7
 | c::D,a,cs,dn,h1,h2,h3,h4,h5,h6,h7,h8,h9,ha,h0=>by
  have hD:=Mj.1 ha;rw[ptF];by_cases hd:min c (e:Int)<=a
  ·rw[if_pos hd];refine pj D a cs dn h1 h2 h3 h4 h5 h6 ?_ h8 (fun y hy=>h9 y (Lm _ hy)) hD.2 fun y hy=>?_
   ·rcases h7 with h7|h7
    ·exact .inl h7
    ·rcases Ly.1 h7 with h7|h7
     ·exact .inl (by omega)
     ·exact .inr h7
   ·rcases h0 y hy with h|h|h
    ·exact .inl h
    ·rcases Ly.1 h with rfl|h
     ·by_cases he:y<=e
      ·exact .inl (by omega)
      ·exact .inr (.inr (by omega))
     ·exact .inr (.inl h)
    ·exact .inr (.inr h)
  ·rw[if_neg hd];have hS:=h9 c (Lv ..);obtain⟨q,hq⟩:∃ q:Nat,(min c (e:Int)).toNat=q:=⟨_,rfl⟩;have hf:(q:Int)=min c (e:Int):=by omega
   rw[hq]at hS ⊢;have hg:(min c (e:Int))=q:=hf.symm;have g7:q=e\/(e:Int)∈D:=by
    rcases h7 with h7|h7
    ·exact .inl (by omega)
    ·rcases Ly.1 h7 with h7|h7
     ·exact .inl (by omega)
     ·exact .inr h7
   have g11:∀ y∈B,y<=q\/y∈D\/e<=y:=fun y hy=>by
    rcases h0 y hy with h|h|h
    ·exact .inl (by omega)
    ·rcases Ly.1 h with rfl|h
     ·by_cases he:y<=e
      ·exact .inl (by omega)
      ·exact .inr (.inr (by omega))
     ·exact .inr (.inl h)
    ·exact .inr (.inr h)
   have g9:=fun y hy=>h9 y (Lm _ hy);cases hv:vis ((t.take q).drop a)
   ·rw[if_neg (by simp),if_neg (by simp)];refine pj D q cs _ (by omega) (by omega) (by simp;omega) (fun v hv=>?_) h5 (fun c hc=>⟨by have:=(h6 c hc).1;omega,(h6 c hc).2⟩) g7 hS g9 hD.2 g11;rcases LA.1 hv with hv|hv
    ·exact h4 v hv
    ·rw[(List.mem_replicate.1 hv).2];omega
   ·rw[if_pos rfl,if_pos rfl];refine pj D q (cs++[(a,q)]) _ (by omega) (by omega) (by simp;omega) (fun v hv=>?_) (Ms.2 ⟨h5,by simp,fun x hx y hy=>?_⟩) (fun z hz=>?_) g7 hS g9 hD.2 g11
    ·rcases LA.1 hv with hv|hv
     ·have:=h4 v hv;simp;omega
     ·rw[(List.mem_replicate.1 hv).2];simp;omega
    ·rw[LP.1 hy];exact (h6 x hx).1
    ·rcases LA.1 hz with hz|hz
     ·exact⟨by have:=(h6 z hz).1;omega,(h6 z hz).2⟩
     ·rw[LP.1 hz];refine⟨Lh _,h1,by show a<q;omega,by show q<=e;omega,h8,hS,hv,fun y hy hh=>?_⟩;have h1:(a:Int)<y:=hh.1;have h2:y<(q:Int):=hh.2;rcases h0 y hy with h|h|h
      ·omega
      ·rcases Ly.1 h with rfl|h
       ·omega
       ·have:=hD.1 y h;omega
      ·omega
theorem Pb{t:List Int}{e:Nat}:∀ (D:List Int) (a:Nat) (cs:List (Nat×Nat)) (dn:List Int),∃ X Y,(ptF t e D a cs dn).1=cs++X/\(ptF t e D a cs dn).2=dn++Y
 | [],a,cs,dn=>⟨[],[],by simp[ptF],by simp[ptF]⟩
 | c::D,a,cs,dn=>by
  rw[ptF];split
  ·exact Pb D a cs dn
  ·obtain⟨X,Y,h1,h2⟩:=Pb (t:=t) (e:=e) D (min c (e:Int)).toNat (if vis ((t.take (min c (e:Int)).toNat).drop a)=true then cs++[(a,(min c (e:Int)).toNat)] else cs) (dn++List.replicate ((min c (e:Int)).toNat-a) (if vis ((t.take (min c (e:Int)).toNat).drop a)=true then (cs.length:Int) else -1));rw[h1,h2];split
   ·exact⟨_,_,LD ..,LD ..⟩
   ·exact⟨_,_,rfl,LD ..⟩
theorem O6{t:List Int}{f e:Nat}(h0:f<e)(het:e<=t.length)(hn:nlS (lgI t f)=false):∀ D:List Int,(e:Int)∈D->∃ q,(ptF t e D f [] []).1[0]?=some (f,q)/\lgI (ptF t e D f [] []).2 0=0
 | [],h=>by cases h
 | c::D,h=>by
  rw[ptF];by_cases hc:min c (e:Int)<=f
  ·rw[if_pos hc];refine O6 h0 het hn D ?_;rcases Ly.1 h with h|h
   ·omega
   ·exact h
  ·rw[if_neg hc];obtain⟨q,hq⟩:∃ q:Nat,(min c (e:Int)).toNat=q:=⟨_,rfl⟩;rw[hq];have h3:f<q:=by omega
   have hv:vis ((t.take q).drop f)=true:=by
    unfold vis;rw[N3];refine⟨lgI t f,Le (i:=0) ?_,by rw[hn];rfl⟩;rw[Mh,LN,if_pos (by omega)];exact atI (by omega)
   rw[if_pos hv,if_pos hv];obtain⟨X,Y,h1,h2⟩:=Pb (t:=t) (e:=e) D q ([]++[(f,q)]) ([]++List.replicate (q-f) (([]:List (Nat×Nat)).length:Int));rw[h1,h2];refine⟨q,rfl,?_⟩;obtain⟨m,hm⟩:∃ m,q-f=m+1:=⟨q-f-1,by omega⟩;rw[hm];rfl
def rM(r:Int):Row:=if r<=161 then bQ tab1 r else if r<=1642 then bQ tab2 r else if r<=8237 then bQ tab3 r else bQ tab4 r
def AJ(x:Row):List Int:=[IntKind.i64.wrap x.2.2.1,IntKind.i64.wrap x.2.2.2.1,IntKind.i64.wrap x.2.2.2.2.1]
theorem DW{r s:Int}(h2:Sat brkB r s):rM r=rM s:=by
 have a1:=h2 161 (by simp[brkB]);have a2:=h2 1642 (by simp[brkB]);have a3:=h2 8237 (by simp[brkB]);have s1:bQ tab1 r=bQ tab1 s:=fI fun b hb=>h2 b (by simp only[brkB,Ly,LA];simp[hb]);have s2:bQ tab2 r=bQ tab2 s:=fI fun b hb=>h2 b (by simp only[brkB,Ly,LA];simp[hb]);have s3:bQ tab3 r=bQ tab3 s:=fI fun b hb=>h2 b (by simp only[brkB,Ly,LA];simp[hb]);have s4:bQ tab4 r=bQ tab4 s:=fI fun b hb=>h2 b (by simp only[brkB,Ly,LA];simp[hb]);unfold rM;rw[s1,s2,s3,s4];by_cases g1:r<=161
 ·rw[if_pos g1,if_pos (a1.1 g1)]
 ·rw[if_neg g1,if_neg (fun e=>g1 (a1.2 e))];by_cases g2:r<=1642
  ·rw[if_pos g2,if_pos (a2.1 g2)]
  ·rw[if_neg g2,if_neg (fun e=>g2 (a2.2 e))];by_cases g3:r<=8237
   ·rw[if_pos g3,if_pos (a3.1 g3)]
   ·rw[if_neg g3,if_neg (fun e=>g3 (a3.2 e))]
attribute [local congr] aw
namespace Txt
variable (X:Txt)
def leaK(k:Nat×Nat):Nat->Int->List Nat->Int
 | _,n,[]=>n
 | s,n,t::l=>if lgI X.B (t-1)=0 then leaK k s n l else leaK k t (max n (X.fit k s t)) l
def leaA:List (Nat×Nat)->Int->Int
 | [],n=>n
 | k::l,n=>leaA l (X.leaK k k.1 n (tsL k.1 (k.2-k.1)))
end Txt
section
variable {prim:FuncId->Option Prim}
end
end Bi
end Go.Ab
namespace Go.Ab
open Go.Proofs
namespace Bi
theorem Cc:(10000001::brkB).all (fun b=>decide ((∀ x∈[(1:Int),2,3],(AJ (rM b)).getD 2 0=x->ctS ((AJ (rM b)).getD 0 0)=true)/\((AJ (rM b)).getD 0 0=1->(AJ (rM b)).getD 2 0=2)/\((AJ (rM b)).getD 0 0=2->(AJ (rM b)).getD 2 0=3)))=true:=by kernel_rfl
theorem oS(r:Int):((cLn r=1\/cLn r=2\/cLn r=3)->ctS (cBr r)=true)/\(cBr r=1->cLn r=2)/\(cBr r=2->cLn r=3):=by
 unfold cBr cLn findS;by_cases h:44032<=r/\r<=55203
 ·rw[if_pos h];split
  ·exact⟨fun h=>by revert h;decide,fun h=>by revert h;decide,fun h=>by revert h;decide⟩
  ·exact⟨fun h=>by revert h;decide,fun h=>by revert h;decide,fun h=>by revert h;decide⟩
 ·rw[if_neg h];have e:(if r<=161 then bQ tab1 r else if r<=1642 then bQ tab2 r else if r<=8237 then bQ tab3 r else bQ tab4 r)=rM r:=rfl;rw[e];obtain⟨s,h1,h2⟩:=rep r;rw[DW h2];obtain⟨c1,c2,c3⟩:=of_decide_eq_true (Lp.1 Cc s h1);refine⟨fun h=>?_,c2,c3⟩;rcases h with h|h|h
  ·exact c1 1 (by simp) h
  ·exact c1 2 (by simp) h
  ·exact c1 3 (by simp) h
theorem F3{n:Nat}:∀ (l:List Int) (i:Nat),(∀ x∈l,0<=x)->lgB (mkS n l) i=true->((i:Int)∈l):=by
 intro l i hl h;unfold mkS at h;have:∀ (l:List Int) (B:List Bool),(∀ x∈l,0<=x)->lgB (l.foldl (fun B p=>B.set p.toNat true) B) i=true->(i:Int)∈l\/lgB B i=true:=by
  intro l
  induction l with
  | nil=>intro B _ h;exact .inr h
  | cons x l ih =>
   intro B hl h;rw[MP]at h;rcases ih _ (fun y hy=>hl y (by simp[hy])) h with h|h
   ·exact .inl (by simp[h])
   ·by_cases e:x.toNat=i
    ·refine .inl ?_;have:=hl x (by simp);rw[show (i:Int)=x by omega];simp
    ·refine .inr ?_;unfold lgB at h ⊢;rw[Lg,Li e,<- List.getD_eq_getElem?_getD]at h;exact h
 rcases this l _ hl h with h|h
 ·exact h
 ·exfalso;unfold lgB at h;rw[Lg,Ns]at h;split at h<;>simp at h
theorem pT{c:List Int}:∀ (q j:Nat),0<j->j<=q->mX c j=true->(j:Int)∈eD c q
 | 0,j,h1,h2,_=>by omega
 | q+1,j,h1,h2,h3=>by
  rw[eD];by_cases e:j=q+1
  ·subst e;rw[if_pos h3];simp
  ·have ih:=pT (c:=c) q j h1 (by omega) h3;split
   ·exact Nb _ ih
   ·exact ih
theorem Cn{raw:List Int}{i:Nat}(h:clG raw i=1\/clG raw i=2\/clG raw i=3):lgI raw i=clG raw i:=by
 rcases i with _|i
 ·rw[clG]at h ⊢;split
  ·rename_i hc;rw[if_pos hc]at h;omega
  ·rfl
 ·rw[clG]at h ⊢;split
  ·rename_i hc;rw[if_pos hc]at h;split
   ·rename_i hd;rw[if_pos hd]at h;omega
   ·rename_i hd;rw[if_neg hd]at h;exfalso;apply hd;unfold hrS;rcases h with h|h|h<;>simp[h]
  ·rfl
theorem Ie{raw:List Int}{i:Nat}(h:lgI raw i=3):clG raw i=3:=by
 rcases i with _|i<;>(rw[clG,if_neg (by rw[h];decide)];exact h)
theorem zD{t:List Int}{i:Nat}(h:i<t.length):lgI (dD t) i=cLn (lgI t i):=by
 have:=tS h;rw[lgI,Lg,this];rfl
theorem zC{raw:List Int}{i:Nat}(h:i<raw.length):lgI (clS raw) i=clG raw i:=by
 have:=xA h;rw[lgI,Lg,this];rfl
theorem pd{t:List Int}{f:Int->Int}{i:Nat}(h:i<t.length):lgI (t.map f) i=f (lgI t i):=by
 rw[lgI,Lg,Ln,atI h];rfl
theorem EY{t:List Int}{i:Nat}(h1:0<i)(h2:i<=t.length)(h:lgI (iK t (cu t)) (i-1)≠0):(i:Int)∈cu t:=by
 have hne:t≠[]:=fun e=>by rw[e]at h2;simp at h2;omega
 have h0:cu t=eD (t.map cBr) (t.length-1)++[(t.length:Int)]:=by unfold cu;rw[if_neg hne]
 have h4:∀ x∈cu t,0<=x:=by
  rw[h0];intro x hx;rcases LA.1 hx with hx|hx
  ·have:∀ q,∀ x∈eD (t.map cBr) q,0<=x:=by
    intro q
    induction q with
    | zero=>intro x hx;simp[eD]at hx;omega
    | succ q ih =>
     intro x hx;rw[eD]at hx;split at hx
     ·rcases LA.1 hx with hx|hx
      ·exact ih x hx
      ·simp at hx;omega
     ·exact ih x hx
   exact this _ x hx
  ·simp at hx;omega
 by_cases h6:i=t.length
 ·rw[h0,h6];simp
 have hi:i<t.length:=by omega
 obtain⟨q,rfl⟩:∃ q,i=q+1:=⟨i-1,by omega⟩;have hb:=yP (cl:=cu t) hi;simp only[NS]at h;rw[lgI,Lg,hb]at h;simp only[MU]at h;rw[fQ]at h;have hq:q<t.length:=by omega
 split at h
 ·exact absurd rfl h
 ·rename_i h3;rw[bf3]at h;split at h
  ·rename_i ha;rw[zC (by rw[dR];exact hq)]at ha h3;rw[zC (by rw[dR];exact hi)]at h3;have h7:clG (dD t) q=1\/clG (dD t) q=2\/clG (dD t) q=3:=by simp at ha;omega
   have hr:=Cn h7;rw[zD hq]at hr;obtain⟨g1,g2,g3⟩:=oS (lgI t q);have h8:=g1 (by omega);rw[h0];refine Nb _ (pT _ _ (by omega) (by omega) ?_);unfold mX;simp only[NS];rw[pd hq,pd hi];rw[if_neg,if_pos (.inl h8)];rintro⟨c1,c2⟩;refine h3 ⟨?_,?_⟩
   ·rw[<- hr];exact g2 c1
   ·exact Ie (by rw[zD hi];exact (oS (lgI t (q+1))).2.2 c2)
  ·rw[bf4]at h;split at h
   ·exact absurd rfl h
   ·rw[bf5]at h;split at h
    ·exact absurd rfl h
    ·rename_i h9;exact F3 _ _ h4 (by simpa using h9)
attribute [local congr] aw
section
variable {prim:FuncId->Option Prim}(d:Nat)
end
end Bi
end Go.Ab
namespace Go.Ab
open Go.Proofs
namespace Bi
theorem tu{X:Txt}{k:Nat×Nat}{s t:Nat}:∀ (l:List Int) (b:Int),X.frc k s t b l=b\/X.frc k s t b l∈l
 | [],b=>.inl rfl
 | c::l,b=>by
  rw[Txt.frc];split
  ·rcases tu (X:=X) (k:=k) (s:=s) (t:=t) l b with h|h
   ·exact .inl h
   ·exact .inr (Lm _ h)
  ·split
   ·by_cases h:b<=c
    ·exact .inl (by omega)
    ·refine .inr ?_;rw[show min b c=c by omega];simp
   ·rcases tu (X:=X) (k:=k) (s:=s) (t:=t) l c with h|h
    ·exact .inr (by rw[h];simp)
    ·exact .inr (Lm _ h)
theorem qa{X:Txt}{k:Nat×Nat}{s:Nat}:∀ (l:List Nat) (b:Nat),(b=s\/lgI X.B (b-1)≠0)->(∀ t∈l,s<t)->X.endL k s b l=s\/lgI X.B (X.endL k s b l-1)≠0\/((X.endL k s b l:Nat):Int)∈X.C
 | [],b,h,_=>by
  rw[Txt.endL];rcases h with h|h
  ·exact .inl h
  ·exact .inr (.inl h)
 | t::l,b,h,hl=>by
  have ht:=hl t (by simp);rw[Txt.endL];split
  ·exact qa l b h fun x hx=>hl x (by simp[hx])
  ·rename_i hb;split
   ·exact qa l t (.inr hb) fun x hx=>hl x (by simp[hx])
   ·split
    ·rename_i hsb;rcases h with h|h
     ·exact absurd hsb (by omega)
     ·exact .inr (.inl h)
    ·have hr:=mf (X:=X) (k:=k) (s:=s) (t:=t) X.C t (by omega) (N8 _);have hm:=tu (X:=X) (k:=k) (s:=s) (t:=t) X.C t;have e:((X.frc k s t t X.C).toNat:Int)=X.frc k s t t X.C:=by omega
     rcases hm with hm|hm
     ·refine .inr (.inl ?_);rw[hm,LB];exact hb
     ·refine .inr (.inr ?_);rw[e];exact hm
theorem nv{X:Txt}{k:Nat×Nat}{s:Nat}:∀ (l:List Nat) (b:Nat),s<b->lgI X.B (b-1)≠0->(∀ t∈l,s<t)->s<X.endL k s b l/\lgI X.B (X.endL k s b l-1)≠0
 | [],b,h1,h2,_=>by rw[Txt.endL];exact⟨h1,h2⟩
 | t::l,b,h1,h2,hl=>by
  rw[Txt.endL];split
  ·exact nv l b h1 h2 fun x hx=>hl x (by simp[hx])
  ·rename_i hb;split
   ·exact nv l t (hl t (by simp)) hb fun x hx=>hl x (by simp[hx])
   ·first
     | exact⟨h1,h2⟩
     | (rw[if_pos h1];exact⟨h1,h2⟩)
theorem qb{X:Txt}{k:Nat×Nat}{s:Nat}:∀ (l:List Nat),(∀ t∈l,s<t)->(∀ pre t post,l=pre++t::post->(∀ x∈pre,lgI X.B (x-1)=0)->lgI X.B (t-1)≠0->X.fit k s t<=X.p.w)->X.endL k s s l=s\/lgI X.B (X.endL k s s l-1)≠0
 | [],_,_=>.inl rfl
 | t::l,hl,hf=>by
  rw[Txt.endL];split
  ·rename_i hb;refine qb l (fun x hx=>hl x (by simp[hx])) fun pre u post e hp hu=>hf (t::pre) u post (by rw[e];rfl) (fun x hx=>?_) hu;rcases Ly.1 hx with rfl|hx
   ·exact hb
   ·exact hp x hx
  ·rename_i hb;rw[if_pos (hf [] t l rfl (fun _ h=>by cases h) hb)];exact .inr (nv l t (hl t (by simp)) hb fun x hx=>hl x (by simp[hx])).2
theorem pc{X:Txt}{k:Nat×Nat}:∀ (l:List Nat) (s:Nat) (n:Int),n<=X.leaK k s n l
 | [],_,_=>N8 _
 | t::l,s,n=>by
  rw[Txt.leaK];split
  ·exact pc l s n
  ·have:=pc (X:=X) (k:=k) l t (max n (X.fit k s t));omega
theorem lE{X:Txt}{k:Nat×Nat}:∀ (pre:List Nat) (t:Nat) (post:List Nat) (s:Nat) (n:Int),(∀ x∈pre,lgI X.B (x-1)=0)->lgI X.B (t-1)≠0->X.fit k s t<=X.leaK k s n (pre++t::post)
 | [],t,post,s,n,_,h=>by
  rw[Mf,Txt.leaK,if_neg h];have:=pc (X:=X) (k:=k) post t (max n (X.fit k s t));omega
 | x::pre,t,post,s,n,hp,h=>by
  rw[L8,Txt.leaK,if_pos (hp x (by simp))];exact lE pre t post s n (fun y hy=>hp y (by simp[hy])) h
theorem tH{X:Txt}{k:Nat×Nat}:∀ (l1:List Nat) (u:Nat) (pre:List Nat) (t:Nat) (post:List Nat) (s:Nat) (n:Int),lgI X.B (u-1)≠0->(∀ x∈pre,lgI X.B (x-1)=0)->lgI X.B (t-1)≠0->X.fit k u t<=X.leaK k s n (l1++u::(pre++t::post))
 | [],u,pre,t,post,s,n,h0,hp,h=>by
  rw[Mf,Txt.leaK,if_neg h0];exact lE pre t post u _ hp h
 | a::l1,u,pre,t,post,s,n,h0,hp,h=>by
  rw[L8,Txt.leaK];split
  ·exact tH l1 u pre t post s n h0 hp h
  ·exact tH l1 u pre t post a _ h0 hp h
theorem zz{X:Txt}:∀ (l:List (Nat×Nat)) (n:Int),n<=X.leaA l n
 | [],_=>N8 _
 | k::l,n=>by
  rw[Txt.leaA];have h1:=pc (X:=X) (k:=k) (tsL k.1 (k.2-k.1)) k.1 n;have h2:=zz (X:=X) l (X.leaK k k.1 n (tsL k.1 (k.2-k.1)));omega
theorem zy{X:Txt}:∀ (l:List (Nat×Nat)) (n:Int),∀ k∈l,∃ n',X.leaK k k.1 n' (tsL k.1 (k.2-k.1))<=X.leaA l n
 | [],_,_,h=>by cases h
 | a::l,n,k,h=>by
  rw[Txt.leaA];rcases Ly.1 h with rfl|h
  ·exact⟨n,zz _ _⟩
  ·exact zy l _ k h
theorem BF{a M j:Nat}:(tsL a M).drop j=tsL (a+j) (M-j):=by
 apply LY;intro i;rw[Mh];unfold tsL;rw[Ln,Ln];by_cases h:j+i<M
 ·rw[Oc h,Oc (by omega)];simp;omega
 ·rw[Lw (by simp;omega),Lw (by simp;omega)];rfl
theorem Ag{a M t:Nat}(h:t∈tsL a M):a<t:=by
 unfold tsL at h;obtain⟨i,_,rfl⟩:=Mp.1 h;omega
def StP(X:Txt)(k:Nat×Nat)(s:Nat):Prop:=s=k.1\/lgI X.B (s-1)≠0
theorem uX{X:Txt}{k:Nat×Nat}(hk:k∈X.secs)(hw:X.leaA X.secs 0<=X.p.w){s:Nat}(h1:k.1<=s)(h2:s<=k.2)(hs:StP X k s):X.fin k s=s\/lgI X.B (X.fin k s-1)≠0:=by
 obtain⟨n',hn⟩:=zy (X:=X) X.secs 0 k hk;refine qb (tsL s (k.2-s)) (fun t ht=>Ag ht) fun pre t post e hp ht=>?_;rcases Nat.eq_or_lt_of_le h1 with e1|h3
 ·rw[<- e1]at e ⊢;rw[e]at hn;have:=lE (X:=X) (k:=k) pre t post k.1 n' hp ht;omega
 ·have h0:lgI X.B (s-1)≠0:=by
   rcases hs with h|h
   ·omega
   ·exact h
  have e2:tsL k.1 (k.2-k.1)=(tsL k.1 (k.2-k.1)).take (s-1-k.1)++s::(pre++t::post):=by
   conv=>lhs;rw[<- List.take_append_drop (s-1-k.1) (tsL k.1 (k.2-k.1))]
   congr 1;rw[wW (by omega),BF,show k.1+(s-1-k.1+1)=s by omega,show k.2-k.1-(s-1-k.1+1)=k.2-s by omega,e,show k.1+1+(s-1-k.1)=s by omega]
  rw[e2]at hn;have:=tH (X:=X) (k:=k) ((tsL k.1 (k.2-k.1)).take (s-1-k.1)) s pre t post k.1 n' h0 hp ht;omega
theorem zG{X:Txt}{k:Nat×Nat}(hk:k∈X.secs)(h0:kK X k)(hw:X.leaA X.secs 0<=X.p.w):∀ (m s:Nat) (y:Int),k.1<=s->s<=k.2->StP X k s->∀ x∈X.linK k m s y,∃ s y,k.1<=s/\s<=k.2/\StP X k s/\x=X.lin k s (X.fin k s) y
 | 0,s,y,h1,h2,h3,x,h=>by
  rw[Txt.linK]at h;simp at h;exact⟨_,_,h1,h2,h3,h⟩
 | m+1,s,y,h1,h2,h3,x,h=>by
  rw[Txt.linK]at h;rcases Ly.1 h with h|h
  ·exact⟨_,_,h1,h2,h3,h⟩
  ·split at h
   ·have hf:=dZ (X:=X) h0 h2;have h4:StP X k (X.fin k s):=by
     rcases uX hk hw h1 h2 h3 with e|e
     ·rw[e];exact h3
     ·exact .inr e
    exact zG hk h0 hw m _ _ (by omega) (by omega) h4 x h
   ·cases h
theorem zF{X:Txt}(hw:X.leaA X.secs 0<=X.p.w):∀ (l:List (Nat×Nat)) (y:Int),(∀ k∈l,k∈X.secs/\kK X k)->∀ x∈X.linA l y,∃ k∈X.secs,kK X k/\∃ s y,k.1<=s/\s<=k.2/\StP X k s/\x=X.lin k s (X.fin k s) y
 | [],_,_,_,h=>by cases h
 | k::l,y,hl,x,h=>by
  rw[Txt.linA]at h;obtain⟨hk,h0⟩:=hl k (by simp);rcases LA.1 h with h|h
  ·exact⟨k,hk,h0,zG hk h0 hw _ _ _ (Lh _) h0.1 (.inl rfl) x h⟩
  ·exact zF hw l _ (fun x hx=>hl x (by simp[hx])) x h
theorem TxV.ends{X:Txt}(hV:TxV X)(hB:X.B=iK X.p.t X.C)(hC:X.C=cu X.p.t){x:cn}(hx:x∈X.linA X.secs 0):
  ∃ t:Nat,x.l.t=t/\t<=X.p.t.length/\(0<t->(t:Int)∈X.C)/\(X.leaA X.secs 0<=X.p.w->0<t->lgI X.B (t-1)≠0):=by
 obtain⟨k,hk,h9,s,y,h1,h2,h3,rfl⟩:=su X.secs 0 hV.secs x hx;have hf:=dZ (X:=X) h9 h2;have he:=h9.2.1;have h4:0<X.p.t.length->lgI X.B (X.p.t.length-1)≠0:=fun h=>by
  have:=hV.b2 h;rw[lgI,Lg,this];simp
 have h6:X.fin k s=s->0<s->s=X.p.t.length:=fun e h0=>by
  have:s=k.2:=by
   rcases LX s k.2 with h|h
   ·have:=hf.2.2 h1 h;omega
   ·omega
  have h5:k.1=k.2:=by omega
  have:=wI k hk h5;omega
 have h7:∀ t,0<t->t<=X.p.t.length->lgI X.B (t-1)≠0->(t:Int)∈X.C:=fun t h1 h2 h=>by
  rw[hC];rw[hB,hC]at h;exact EY h1 h2 h
 refine⟨X.fin k s,rfl,by omega,fun h0=>?_,fun hw h0=>?_⟩
 ·rcases qa (X:=X) (k:=k) (s:=s) (tsL s (k.2-s)) s (.inl rfl) (fun t ht=>Ag ht) with e|e|e
  ·have e':X.fin k s=s:=e;rw[e']at h0 ⊢;have:=h6 e' h0;rw[this]at h0 ⊢;exact h7 _ h0 (Lh _) (h4 h0)
  ·exact h7 _ h0 (by omega) e
  ·exact e
 ·obtain⟨k',ha,h8,s',y',g1,g2,g3,g4⟩:=zF hw X.secs 0 (fun k hk=>⟨hk,hV.secs k hk⟩) _ hx;have ht:X.fin k s=X.fin k' s':=by
   have:=congrArg (fun x:cn=>x.l.t) g4;exact Int.ofNat.inj this
  rw[ht]at h0 ⊢;rcases uX ha hw g1 g2 g3 with e|e
  ·have hc:=dZ (X:=X) h8 g2;have hd:s'=k'.2:=by
    rcases LX s' k'.2 with h|h
    ·have:=hc.2.2 g1 h;omega
    ·omega
   rw[e]at h0 ⊢;rcases g3 with g3|g3
   ·have:=wI k' ha (by omega);rw[hd,this];exact h4 (by omega)
   ·exact g3
  ·exact e
theorem I8{X:Txt}(hV:TxV X)(hn:X.p.t.length<=90){x:cn}(hx:x∈X.linA X.secs 0):x.gs.length<=8100:=by
 obtain⟨k,hk,h0,s,y,h1,h2,rfl⟩:=vQ X.secs 0 hV.secs x hx;have hf:=dZ (X:=X) h0 h2;obtain⟨h8,h9⟩:=hV.gls h1 hf.1 hf.2.1 h0.2.1 hn;show (eE _ (X.lgl k s (X.fin k s))).length<=8100;rw[iy];unfold Txt.lgl;split
 ·simpa using h8
 ·exact h8
theorem pP{c:List Int}:∀ q,(eD c q).Pairwise (·<·)
 | 0=>by simp[eD]
 | q+1=>by
  rw[eD];split
  ·refine Ms.2 ⟨pP q,by simp,fun x hx y hy=>?_⟩;rw[LP.1 hy];have:=(jw q x hx).2;omega
  ·exact pP q
theorem cluS_asc{t:List Int}:(cu t).Pairwise (·<·):=by
 unfold cu;split
 ·exact Oz
 ·rename_i h0;have h1:=L7.2 h0;refine Ms.2 ⟨pP _,by simp,fun x hx y hy=>?_⟩;rw[LP.1 hy];have:=(jw _ x hx).2;omega
theorem yQ{e:Nat}:∀ (CS:List (Nat×Nat)) (f:Nat),CS.Pairwise (fun c c'=>c.2<=c'.1)->(∀ c∈CS,f<=c.1/\c.1<c.2/\c.2<=e)->CS.length<=e-f
 | [],_,_,_=>LJ _
 | c::CS,f,hp,h=>by
  have hp:=Mj.1 hp;have ih:=yQ CS c.2 hp.2 fun c' h0=>⟨hp.1 c' h0,(h c' (Lm _ h0)).2⟩;have:=h c (Lv ..);rw[Lx];omega
theorem xS(d:Nat){X:Txt}(hV:TxV X)(hn:X.p.t.length<=90)(hb:-1<=X.p.b/\X.p.b<=1){x:cn}(hx:x∈X.linA X.secs 0)(f e:Nat)(hf:x.l.f=f)(he:x.l.t=e)(h7:f<=e)(h8:e<=X.p.t.length):
  ∃ L:List Cel,(∀ z∈L,∃ c,yI X.p.t f e (cu X.p.t) (fun q=>(q:Int)∈cu X.p.t\/q=f\/q=e) c/\z.f=c.1/\z.t=c.2)/\L.length<=2000/\(f<e->nlS (lgI X.p.t f)=false->(∃ g∈x.gs,g.f=f/\g.t<=e/\(f:Int)<g.t)->∃ z∈L,z.f=f)/\(L.map fun z=>(z.f,z.t)).Nodup /\
   ∀ cfg h,af md (K pQ (d+3)) cfg 12 [.agg (aO X.p),.agg (az x)] h=some (.lst (L.map cG),h):=by
 obtain⟨lv,hd,hh⟩:=Ih 33 X.p (by omega) hb x f e hf he h7 h8;have ha:[V.agg (aO X.p),.agg (az x)].all V.noref=true:=by simp[az,bA,aO]
 have hLv:=fun cfg h=>toQ (f:=36) (d+1) (by rfl) rfl ha hh cfg h;have hj:=fun cfg h=>Jy (d+1) X.p (by omega) x f e hf he h7 h8 cfg h;obtain⟨g1,g2,g3,g4⟩:=pj (t:=X.p.t) (f:=f) (e:=e) (B:=cu X.p.t) (S:=fun q=>(q:Int)∈cu X.p.t\/q=f\/q=e) (cu X.p.t++[(e:Int)]) f [] [] (Lh _) h7 (by simp) (by simp) (by simp) (by simp) (.inr (by simp)) (.inr (.inl rfl))
  (fun c hc=>by
   rcases LA.1 hc with hc|hc
   ·have:=(cluS_rng.1 c hc).1;by_cases hq:c<=e
    ·exact .inl (by rw[show ((min c (e:Int)).toNat:Int)=c by omega];exact hc)
    ·exact .inr (.inr (by omega))
   ·rw[LP.1 hc];exact .inr (.inr (by omega)))
  (Ms.2 ⟨cluS_asc.imp fun h=>by omega,by simp,fun x hx y hy=>by rw[LP.1 hy];omega⟩)
  (fun y hy=>.inr (.inl (by simp[hy])))
 have hl:=fun h6 h9=>O6 (f:=f) (e:=e) h6 h8 h9 (cu X.p.t++[(e:Int)]) (by simp);generalize (ptF X.p.t e (cu X.p.t++[(e:Int)]) f [] []).1=CS at *;generalize (ptF X.p.t e (cu X.p.t++[(e:Int)]) f [] []).2=OF at *;have h6:∀ c∈CS,c.1<c.2:=fun c hc=>(g4 c hc).2.1;have hm:CS.Nodup:=g3.imp_of_mem fun {a b} ha hb h e=>by subst e;have:=h6 a ha;omega
 obtain⟨L,h1,h0,h4,h2,h3⟩:=Ci d X.p (by omega) x f e hf he h7 h8 (by have:=I8 hV hn hx;omega) lv hd hLv CS OF hj g1 g2 hm (by have:=yQ CS f g3 fun c hc=>⟨(g4 c hc).1,(g4 c hc).2.1,(g4 c hc).2.2.1⟩;omega) fun c hc=>by have:=g4 c hc;exact⟨this.1,by have:=this.2.1;have:=(g4 c hc).2.2.1;omega⟩
 exact⟨L,fun z hz=>by obtain⟨c,hc,h⟩:=h1 z hz;exact⟨c,g4 c hc,h⟩,h0,fun h6 h9 hg=>by
  obtain⟨g,hg,k1,k2,k3⟩:=hg;obtain⟨q,p1,p2⟩:=hl h6 h9;obtain⟨z,hz,z1,-⟩:=h4 g hg (by omega) k2 (by omega) 0 (by omega) 0 p2 _ p1;exact⟨z,hz,z1⟩,h2,h3⟩
theorem tN(r:Int):nlS r=true↔cLn r=1\/cLn r=2\/cLn r=3:=by unfold nlS;simp[or_assoc]
theorem EZ{t:List Int}{q:Nat}(h1:q+1<t.length)(h2:((q+1:Nat):Int) ∉ cu t):nlS (lgI t q)=nlS (lgI t (q+1)):=by
 have hne:t≠[]:=fun e=>by rw[e]at h1;simp at h1
 have hp:¬ mX (t.map cBr) (q+1)=true:=fun h=>by
  apply h2;unfold cu;rw[if_neg hne];exact Nb _ (pT _ _ (by omega) (by omega) h)
 unfold mX at hp;simp only[NS]at hp;rw[pd (by omega),pd h1]at hp;obtain⟨a1,a2,a3⟩:=oS (lgI t q);obtain⟨b1,b2,b3⟩:=oS (lgI t (q+1));by_cases hc:cBr (lgI t q)=1/\cBr (lgI t (q+1))=2
 ·rw[(tN _).2 (.inr (.inl (a2 hc.1))),(tN _).2 (.inr (.inr (b3 hc.2)))]
 ·rw[if_neg hc]at hp;by_cases hd:ctS (cBr (lgI t q))=true\/ctS (cBr (lgI t (q+1)))=true
  ·rw[if_pos hd]at hp;exact absurd rfl hp
  ·cases h:nlS (lgI t q)<;>cases h':nlS (lgI t (q+1))
   ·rfl
   ·exact absurd (.inr (b1 ((tN _).1 h'))) hd
   ·exact absurd (.inl (a1 ((tN _).1 h))) hd
   ·rfl
abbrev xj(t:List Int)(f e:Nat)(c:Nat×Nat):Prop:=yI t f e (cu t) (fun q=>(q:Int)∈cu t\/q=f\/q=e) c
theorem Ch{t:List Int}{f e:Nat}{c:Nat×Nat}(hc:xj t f e c)(he:e<=t.length)(q:Nat)(g1:c.1<=q)(g2:q<c.2):nlS (lgI t q)=false:=by
 obtain⟨h1,h2,h3,h4,h5,h6,h7⟩:=hc;have hs:∀ d q:Nat,c.1<=q->q+d<c.2->nlS (lgI t q)=nlS (lgI t (q+d)):=by
  intro d
  induction d with
  | zero=>intros;rfl
  | succ d ih =>
   intro q g1 g2;rw[ih q g1 (by omega)];exact EZ (by omega) (fun hm=>h7 _ hm ⟨by omega,by omega⟩)
 unfold vis at h6;obtain⟨r,hr,hn⟩:=N3.1 h6;obtain⟨i,hi⟩:=NF hr;rw[Mh,LN]at hi;split at hi
 ·rename_i h0;have hz:nlS (lgI t (c.1+i))=false:=by
   rw[lgI,Lg,hi];simpa using hn
  rcases Nat.le_total q (c.1+i) with h|h
  ·obtain⟨d,hd⟩:=Nat.le.dest h;rw[hs d q g1 (by omega),hd,hz]
  ·obtain⟨d,hd⟩:=Nat.le.dest h;rw[<- hd,<- hs d (c.1+i) (by omega) (by omega),hz]
 ·cases hi
theorem Ia{t:List Int}{f e:Nat}{c c':Nat×Nat}(h:xj t f e c)(h':xj t f e c')(he:c.2=c'.2):c=c':=by
 obtain⟨h1,h2,h3,h4,h5,h6,h7⟩:=h;obtain⟨g1,g2,g3,g4,g5,g6,g7⟩:=h';refine OL ?_ he;rcases Mk c.1 c'.1 with h|h|h
 ·rcases g4 with k|k|k
  ·exact absurd ⟨by omega,by omega⟩ (h7 _ k)
  ·omega
  ·omega
 ·exact h
 ·rcases h4 with k|k|k
  ·exact absurd ⟨by omega,by omega⟩ (g7 _ k)
  ·omega
  ·omega
theorem H9{t:List Int}{f e:Nat}{c c':Nat×Nat}(h:xj t f e c)(h':xj t f e c')(he:c.1=c'.1):c=c':=by
 obtain⟨h1,h2,h3,h4,h5,h6,h7⟩:=h;obtain⟨g1,g2,g3,g4,g5,g6,g7⟩:=h';refine OL he ?_;rcases Mk c.2 c'.2 with h|h|h
 ·rcases h5 with k|k|k
  ·exact absurd ⟨by omega,by omega⟩ (g7 _ k)
  ·omega
  ·omega
 ·exact h
 ·rcases g5 with k|k|k
  ·exact absurd ⟨by omega,by omega⟩ (h7 _ k)
  ·omega
  ·omega
theorem De{e:List cn}{b:Nat}:∀ {l:List cn}{a:Nat}{y:Int},LCh e a y l b->a<=b
 | [],_,_,h=>by have h:_=b:=h;omega
 | x::l,a,y,⟨t,_,_,_,g4,_,_,_,_,g9⟩=>by have:=De g9;omega
theorem Dd{e:List cn}{b:Nat}:∀ {l:List cn}{a:Nat}{y:Int},LCh e a y l b->∀ (i:Nat) (x:cn),l[i]?=some x->∃ f t:Nat,x.l.f=f/\x.l.t=t/\a<=f/\f<=t/\t<=b/\(∀ j z,j<i->l[j]?=some z->z.l.t<=f)/\(f=a\/∃ z∈l,z.l.t=f)/\(f<t\/i+1=l.length/\t=b)
 | [],_,_,_,i,x,h=>by cases h
 | z::l,a,y,⟨t,g1,g2,g3,g4,g5,g6,g7,g8,g9⟩,0,x,h=>by
  cases h;refine⟨a,t,g1,g3,Lh _,g4,De g9,fun j z h=>by omega,.inl rfl,g5.imp id fun h=>?_⟩;obtain⟨rfl,-⟩:=List.append_eq_nil_iff.1 h;exact⟨rfl,g9⟩
 | z::l,a,y,⟨t,g1,g2,g3,g4,g5,g6,g7,g8,g9⟩,i+1,x,h=>by
  obtain⟨f,u,k1,k2,k3,k4,k5,k6,k7,k8⟩:=Dd g9 i x h;refine⟨f,u,k1,k2,by omega,k4,k5,fun j w hj hw=>?_,?_,k8.imp id fun h=>⟨by simp[h.1],h.2⟩⟩
  ·rcases j with _|j
   ·cases hw;omega
   ·exact k6 j w (by omega) hw
  ·rcases k7 with k7|⟨w,hw,k7⟩
   ·exact .inr ⟨z,by simp,by omega⟩
   ·exact .inr ⟨w,by simp[hw],k7⟩
end Bi
end Go.Ab
