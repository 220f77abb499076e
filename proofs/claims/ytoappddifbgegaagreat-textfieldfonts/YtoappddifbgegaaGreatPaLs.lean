/- The program: the lines of a paragraph. -/
import Derived.Test.YtoappddifbgegaaGreatPaLi
set_option linter.all false
namespace Go.Ab
open Go.Proofs
namespace Bi
attribute [local congr] az
theorem qe{X:Txt}{k:Nat×Nat}{s K:Nat}:∀ (l:List Nat) (b:Nat),s<=b->b<=K->(∀ t∈l,s<t/\t<=K)->s<=X.endL k s b l/\X.endL k s b l<=K/\((s<b\/∃ t∈l,lgI X.B (t-1)≠0)->s<X.endL k s b l)
 | [],b,h1,h2,_=>⟨h1,h2,fun h=>by rcases h with h|⟨_,h,_⟩;exact h;cases h⟩
 | t::l,b,h1,h2,h3=>by
  have ht:=h3 t (by simp);rw[Txt.endL];split
  ·rename_i hz;have ih:=qe (X:=X) (k:=k) l b h1 h2 fun x hx=>h3 x (by simp[hx]);refine⟨ih.1,ih.2.1,fun h=>ih.2.2 ?_⟩;rcases h with h|⟨x,hx,h0⟩
   ·exact .inl h
   ·rcases Lt.1 hx with rfl|hx
    ·exact absurd hz h0
    ·exact .inr ⟨x,hx,h0⟩
  ·split
   ·have ih:=qe (X:=X) (k:=k) l t (by omega) ht.2 fun x hx=>h3 x (by simp[hx]);exact⟨ih.1,ih.2.1,fun _=>ih.2.2 (.inl ht.1)⟩
   ·split
    ·exact⟨by omega,h2,fun _=>by assumption⟩
    ·have hf:=pd (X:=X) (k:=k) (s:=s) (t:=t) X.C t (by omega) (Oj _);exact⟨by omega,by omega,fun _=>by omega⟩
def xB(X:Txt)(k:Nat×Nat):Prop:=k.1<=k.2/\k.2<=X.p.t.length/\(k.1<k.2->lgI X.B (k.2-1)=2)
theorem iG{X:Txt}{k:Nat×Nat}{s:Nat}(hk:xB X k)(h1:s<=k.2):s<=X.fin k s/\X.fin k s<=k.2/\(k.1<=s->s<k.2->s<X.fin k s):=by
 have h:=qe (X:=X) (k:=k) (s:=s) (K:=k.2) (tsL s (k.2-s)) s (La _) h1 fun t ht=>by
  unfold tsL at ht;obtain⟨i,hi,rfl⟩:=Me.1 ht;have:=NH.1 hi;omega
 refine⟨h.1,h.2.1,fun h2 h3=>h.2.2 (.inr ⟨k.2,?_,?_⟩)⟩
 ·unfold tsL;exact Me.2 ⟨k.2-s-1,NH.2 (by omega),by omega⟩
 ·rw[hk.2.2 (by omega)];decide
theorem yJ{X:Txt}(n:Nat)(hn:n<=X.p.t.length):∀ (B:List Int) (f i:Nat),f<=i->i+B.length<=n->(∀ j,j<B.length->lgI B j=lgI X.B (i+j))->∀ k∈mT f i B,xB X k
 | [],_,_,_,_,_,k,h=>by cases h
 | b::B,f,i,h1,h2,h3,k,h=>by
  have h4:∀ j,j<B.length->lgI B j=lgI X.B (i+1+j):=fun j hj=>by
   have:=h3 (j+1) (by simpa using hj);rw[show i+1+j=i+(j+1) by omega,<- this];rfl
  rw[Lp]at h2;rw[mT]at h;split at h
  ·rename_i hb;rcases Lt.1 h with rfl|h
   ·refine⟨by simp;omega,by simp;omega,fun _=>?_⟩;have:=h3 0 (by simp);simp only[Nat.add_sub_cancel];rw[Nb]at this;rw[<- this];exact hb
   ·exact yJ n hn B (i+1) (i+1) (La _) (by omega) h4 k h
  ·exact yJ n hn B f (i+1) (by omega) (by omega) h4 k h
theorem TxV.secs{X:Txt}(hV:TxV X):∀ k∈X.secs,xB X k:=fun k h=>by
 unfold Txt.secs at h;rcases LB.1 h with h|h
 ·exact yJ X.p.t.length (La _) X.B 0 0 (La _) (by rw[hV.bl];omega) (fun j _=>by rw[LU]) k h
 ·split at h
  ·simp at h;subst h;exact⟨La _,La _,fun h=>absurd h (by simp)⟩
  ·cases h
theorem rz:∀ (B:List Int) (f i:Nat),(mT f i B).length<=B.length
 | [],_,_=>by simp[mT]
 | b::B,f,i=>by
  rw[mT];split
  ·have:=rz B (i+1) (i+1);simp;omega
  ·have:=rz B f (i+1);simp;omega
theorem TxV.secsL{X:Txt}(hV:TxV X):X.secs.length<=X.p.t.length+1:=by
 unfold Txt.secs;have:=rz X.B 0 0;rw[hV.bl]at this;rw[Ln];split<;>simp<;>omega
def Txt.rstK(X:Txt)(k:Nat×Nat)(fst:Bool)(s:Nat)(y:Int):List jl:=if fst=true\/s<k.2 then X.linK k (k.2-s) s y else []
theorem BW{X:Txt}{k:Nat×Nat}(hk:xB X k){fst:Bool}{s:Nat}{y:Int}(h1:k.1<=s)(h2:s<=k.2)(h:fst=true\/s<k.2):X.rstK k fst s y=X.lin k s (X.fin k s) y::X.rstK k false (X.fin k s) (y+(X.lin k s (X.fin k s) y).l.h):=by
 have hf:=iG (X:=X) hk h2;have h6:∀ (m m' s:Nat) (y:Int),k.1<=s->s<=k.2->k.2-s<=m->k.2-s<=m'->X.linK k m s y=X.linK k m' s y:=by
  intro m
  induction m with
  | zero =>
   intro m' s y _ h2 h3 _;cases m' with
   | zero=>rfl
   | succ m' =>
    have hf:=iG (X:=X) hk h2;rw[Txt.linK,Txt.linK,if_neg (by omega)]
  | succ m ih =>
   intro m' s y h1 h2 h3 h4;have hf:=iG (X:=X) hk h2;cases m' with
   | zero=>rw[Txt.linK,Txt.linK,if_neg (by omega)]
   | succ m' =>
    rw[Txt.linK,Txt.linK];by_cases h0:X.fin k s<k.2
    ·rw[if_pos h0,if_pos h0,ih m' (X.fin k s) _ (by omega) (by omega) (by have:=hf.2.2 h1;omega) (by have:=hf.2.2 h1;omega)]
    ·rw[if_neg h0,if_neg h0]
 unfold Txt.rstK;rw[if_pos h];cases hm:k.2-s with
 | zero =>
  rw[Txt.linK,if_neg (by simp;omega)]
 | succ m =>
  rw[Txt.linK];by_cases h0:X.fin k s<k.2
  ·rw[if_pos h0,if_pos (.inr h0),h6 m (k.2-X.fin k s) (X.fin k s) _ (by omega) (by omega) (by have:=hf.2.2 h1;omega) (La _)]
  ·rw[if_neg h0,if_neg (by simp;omega)]
theorem Dk{l:List jl}{x:jl}:Txt.hgt (l++[x])=Txt.hgt l+x.l.h:=by
 unfold Txt.hgt;simp
theorem TxV.linH{X:Txt}(hV:TxV X)(k:Nat×Nat)(s t:Nat)(y:Int)(hn:X.p.t.length<=90):0<=(X.lin k s t y).l.h/\(X.lin k s t y).l.h<=15000000:=by
 have hL:∀ x∈X.spans s t,X.asc x<=5000000/\X.des x<=5000000/\X.hei x<=15000000:=fun x hx=>by
  have h0:0<=x/\x<X.p.s.length:=by
   have h3:=hV.sn;unfold Txt.spans at hx;split at hx
   ·exact hV.spm x (LQ (MG hx))
   ·simp at hx;omega
  obtain⟨q,rfl⟩:∃ q:Nat,x=q:=⟨x.toNat,by omega⟩;obtain⟨sp,f,g1,g2,g3,g4,g5,g6,g7,g8,g9,g10⟩:=hV.at (q:=q) (by omega);have h8:=lQ g7 g5 g6;rw[g8,g9,g10];omega
 have h4:=iM (f:=X.asc) (M:=5000000) (by omega) (l:=X.spans s t) fun x hx=>(hL x hx).1;have h6:=iM (f:=X.des) (M:=5000000) (by omega) (l:=X.spans s t) fun x hx=>(hL x hx).2.1;have h7:=iM (f:=X.hei) (M:=15000000) (by omega) (l:=X.spans s t) fun x hx=>(hL x hx).2.2;show 0<=max (mx X.hei (X.spans s t)) (mx X.asc (X.spans s t)+mx X.des (X.spans s t))/\max (mx X.hei (X.spans s t)) (mx X.asc (X.spans s t)+mx X.des (X.spans s t))<=15000000;omega
end Bi
end Go.Ab
