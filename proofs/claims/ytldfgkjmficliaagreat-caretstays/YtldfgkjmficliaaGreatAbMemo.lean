/- Several texts of this proof in one. -/
import Derived.Test.YtldfgkjmficliaaGreatPiLev0
set_option linter.all false
namespace Go.Ab.Bi
theorem ke:∀ (r:List Int) (d d' q:Nat),bn r d=some q->bn r (d+d'+1)=(bn (r.drop (q+1)) d').map (·+(q+1))
 | [],_,_,_,h=>by simp[bn]at h
 | x::r,d,d',q,h=>by
  by_cases hx:ini x=true
  ·rw[kg hx]at h ⊢;obtain⟨k,hk,rfl⟩:=LG.1 h;rw[show d+d'+1+1=(d+1)+d'+1 by omega,ke r (d+1) d' k hk,NL,OO];congr 1
  ·have h0:ini x=false:=by simpa using hx
   by_cases h2:x=22
   ·subst h2;cases d with
    | zero =>
     rw[nF]at h;cases h;rw[L3,iq];rfl
    | succ d =>
     rw[iq]at h;obtain⟨k,hk,rfl⟩:=LG.1 h;rw[show d+1+d'+1=(d+d'+1)+1 by omega,iq,ke r d d' k hk,NL,OO];congr 1
   ·rw[nE h0 h2]at h ⊢;obtain⟨k,hk,rfl⟩:=LG.1 h;rw[ke r d d' k hk,NL,OO];congr 1
theorem qH:∀ (u:Nat) (r:List Int) (d a:Nat),bn r d=some a->u<=a->∃ D,(bn (r.drop u) D).map (·+u)=some a
 | 0,r,d,a,h,_=>⟨d,by simpa using h⟩
 | u+1,[],d,a,h,_=>by simp[bn]at h
 | u+1,x::r,d,a,h,hu=>by
  have key:∀ D,(bn r D).map (·+1)=some a->∃ D,(bn ((x::r).drop (u+1)) D).map (·+(u+1))=some a:=by
   intro D hD;obtain⟨k,hk,rfl⟩:=LG.1 hD;obtain⟨D',h0⟩:=qH u r D k hk (by omega);obtain⟨j,hj,h4⟩:=LG.1 h0;exact⟨D',by rw[NL,hj];simp;omega⟩
  by_cases hx:ini x=true
  ·rw[kg hx]at h;exact key _ h
  ·have h3:ini x=false:=by simpa using hx
   by_cases h2:x=22
   ·subst h2;cases d with
    | zero=>rw[nF]at h;cases h;omega
    | succ d=>rw[iq]at h;exact key _ h
   ·rw[nE h3 h2]at h;exact key _ h
theorem Dp{c:List Int}{z z':Nat}(h0:z<z'){m:Nat}(h1:mt c z=m)(h2:mt c z'=m){x:Int}(hx:c[z']?=some x)(hi:ini x=true):False:=by
 unfold mt at h1 h2;cases ha:bn (c.drop (z+1)) 0 with
 | none=>rw[ha]at h1;simp only at h1;omega
 | some a =>
  cases hb:bn (c.drop (z'+1)) 0 with
  | none=>rw[hb]at h2;simp only at h2;omega
  | some b =>
   rw[ha]at h1;rw[hb]at h2;simp only at h1 h2;obtain⟨u,rfl⟩:∃ u,z'=z+1+u:=⟨z'-(z+1),by omega⟩;obtain⟨D,hD⟩:=qH u _ 0 a ha (by omega);obtain⟨hl,rfl⟩:=Ld.1 hx;rw[OM,LC hl,kg hi]at hD;have:=ke (c.drop (z+1+u+1)) 0 D b hb;rw[show 0+D+1=D+1 by omega]at this;rw[this]at hD;cases hc:bn (List.drop (b+1) (List.drop (z+1+u+1) c)) D with
   | none=>rw[hc]at hD;simp at hD
   | some q=>rw[hc]at hD;simp at hD;omega
theorem Fs{o M:List Int}{rs:List (List Int)}(hM:MOK o M)(hp:rs.flatten.Pairwise (·<·))(hn:∀ x∈rs.flatten,0<=x/\x<o.length){j j':Nat}(hj:j<rs.length)(h6:j'<rs.length)(h:fol o M rs j=fol o M rs j')(h0:0<=fol o M rs j):j=j':=by
 have key:∀ j,j<rs.length->0<=fol o M rs j->∃ z:Int,z∈rs.getD j []/\0<=z/\z<o.length/\ini (o.getD z.toNat 0)=true/\∃ m:Nat,mt o z.toNat=m/\∃ k r,fol o M rs j=(k:Nat)/\rs[k]?=some r/\r.head?=some (m:Int):=by
  intro j hj h0;unfold fol at h0 ⊢;have hd:rs.getD j []=rs[j]:=by rw[Lg,Lc hj];rfl
  rw[hd]at h0 ⊢;cases hz:rs[j].getLast? with
  | none=>rw[hz]at h0;simp at h0
  | some z =>
   rw[hz]at h0;simp only at h0 ⊢;have h9:z∈rs[j]:=List.mem_of_getLast? hz;have hq:z∈rs.flatten:=N4.2 ⟨_,MG hj,h9⟩;have ha:=hn z hq;split at h0
   ·rename_i hc;rw[if_pos hc];rw[Lq,decide_eq_true_eq]at hc;have ho:o[z.toNat]?=some (o.getD z.toNat 0):=by rw[Lg,Lc (by omega)];rfl
    have hm:=hM.at_ z.toNat _ ho hc.1;have hr:M.getD z.toNat 0=mt o z.toNat:=by rw[Lg,hm];rfl
    rw[hr]at hc h0 ⊢;obtain⟨m,he⟩:∃ m:Nat,mt o z.toNat=m:=⟨(mt o z.toNat).toNat,by omega⟩;cases hb:bgn rs (mt o z.toNat) with
    | none=>rw[hb]at h0;simp at h0
    | some k =>
     obtain⟨r,h3,h4⟩:=pF hb;exact⟨z,h9,ha.1,ha.2,hc.1,m,he,k,r,rfl,h3,by rw[h4,he]⟩
   ·omega
 obtain⟨z,h7,ht,hu,hv,m,hf,k,r,hI,hw,hy⟩:=key j hj h0;obtain⟨z',h8,hA,hD,hE,m',hg,k',r',hJ,hh,hl⟩:=key j' h6 (h ▸ h0);have hk:k=k':=by omega
 subst hk;rw[hw]at hh;cases hh;rw[hy]at hl;have hF:m=m':=by simpa using hl
 subst hF;have ho:∀ z:Int,0<=z->z<o.length->o[z.toNat]?=some (o.getD z.toNat 0):=fun z _ _=>by rw[Lg,Lc (by omega)];rfl
 have hH:z=z':=by
  rcases Int.lt_trichotomy z z' with h1|h1|h1
  ·exact (Dp (by omega:z.toNat<z'.toNat) hf hg (ho z' hA hD) hE).elim
  ·exact h1
  ·exact (Dp (by omega:z'.toNat<z.toNat) hg hf (ho z ht hu) hv).elim
 subst hH;have hd:∀ j (hj:j<rs.length),rs.getD j []=rs[j]:=fun j hj=>by rw[Lg,Lc hj];rfl
 rw[hd j hj]at h7;rw[hd j' h6]at h8;obtain⟨p1,p2⟩:=NB.1 hp;rcases Mk j j' with h1|h1|h1
 ·have:=Mo.1 p2 j j' hj h6 h1 z h7 z h8;omega
 ·exact h1
 ·have:=Mo.1 p2 j' j h6 hj h1 z h8 z h7;omega
def chI(F:Nat->Int):Nat->Int->List Nat
 | 0,_=>[]
 | f+1,j=>if 0<=j then j.toNat::chI F f (F j.toNat) else []
theorem tf(F:Nat->Int)(rs:List (List Int)):∀ (f:Nat) (j:Int) (x:Int),x∈chn F rs f j->∃ k∈chI F f j,x∈rs.getD k []
 | 0,_,x,h=>by simp[chn]at h
 | f+1,j,x,h=>by
  unfold chn at h;unfold chI;split at h
  ·rename_i hj;rw[if_pos hj];rcases LA.1 h with h|h
   ·exact⟨_,Lv ..,h⟩
   ·obtain⟨k,h1,h2⟩:=tf F rs f _ x h;exact⟨k,Lm _ h1,h2⟩
  ·simp at h
theorem lW(F:Nat->Int):∀ (f:Nat) (j:Int) (k:Nat),k∈chI F f j->(k:Int)=j\/∃ q∈chI F f j,F q=(k:Int)
 | 0,_,k,h=>by simp[chI]at h
 | f+1,j,k,h=>by
  unfold chI at h ⊢;split at h
  ·rename_i hj;rw[if_pos hj];rcases Ly.1 h with h|h
   ·left;omega
   ·right;rcases lW F f _ k h with h1|⟨q,h1,h2⟩
    ·exact⟨j.toNat,Lv ..,h1.symm⟩
    ·exact⟨q,Lm _ h1,h2⟩
  ·simp at h
theorem lq{F:Nat->Int}{N:Nat}(hF:∀ j,j<N->F j<0\/((j:Int)<F j/\F j<N)):∀ (f:Nat) (j:Int),j<N->∀ k∈chI F f j,k<N
 | 0,_,_,k,h=>by simp[chI]at h
 | f+1,j,hj,k,h=>by
  unfold chI at h;split at h
  ·rcases Ly.1 h with h|h
   ·omega
   ·refine lq hF f _ ?_ k h;have:=hF j.toNat (by omega);omega
  ·simp at h
theorem yR{F:Nat->Int}{N:Nat}(hF:∀ j,j<N->F j<0\/((j:Int)<F j/\F j<N))(hI:∀ j j',j<N->j'<N->F j=F j'->0<=F j->j=j'){a b f:Nat}(ha:a<N)(hb:b<N)(h4:con F N a=false)(h6:con F N b=false):
  ∀ (n k:Nat),k<=n->k∈chI F f a->k∈chI F f b->a=b
 | n,k,h9,h1,h2=>by
  have h7:∀ c,c<N->con F N c=false->∀ q,q<N->F q≠(c:Int):=by
   intro c hc h8 q hq e;have:con F N c=true:=by
    unfold con;rw[N3];exact⟨q,by simpa using hq,by simpa using e⟩
   rw[h8]at this;cases this
  rcases lW F f a k h1 with e1|⟨q1,h3,e1⟩
  ·rcases lW F f b k h2 with e2|⟨q2,h0,e2⟩
   ·omega
   ·exact (h7 a ha h4 q2 (lq hF f b (by omega) q2 h0) (by omega)).elim
  ·rcases lW F f b k h2 with e2|⟨q2,h0,e2⟩
   ·exact (h7 b hb h6 q1 (lq hF f a (by omega) q1 h3) (by omega)).elim
   ·have l1:=lq hF f a (by omega) q1 h3;have l2:=lq hF f b (by omega) q2 h0;have hq:q1=q2:=hI q1 q2 l1 l2 (by omega) (by omega);subst hq;have hd:=hF q1 l1;have he:q1<k:=by omega
    cases n with
    | zero=>omega
    | succ n=>exact yR hF hI ha hb h4 h6 n q1 (by omega) h3 h0
end Go.Ab.Bi
namespace Go.Ab.Bi
end Go.Ab.Bi
namespace Go.Ab
open Go.Proofs
namespace Bi
theorem vE{lev:Int}:∀ {u s:List Int}{k:Nat}{a x:Int},u[k]?=some a->s[k]?=some x->(jq lev u s)[k]?=some (a+jr lev x)
 | [],_,_,_,_,h,_=>by simp at h
 | _::_,[],_,_,_,_,h=>by simp at h
 | b::u,y::s,0,a,x,h1,h2=>by simp at h1 h2;simp[jq,h1,h2]
 | b::u,y::s,k+1,a,x,h1,h2=>by
  simp only[jq,LV]at h1 h2 ⊢;exact vE h1 h2
theorem wT{o M:List Int}{rs:List (List Int)}{lv kept:List Int}{e:Int}(hM:MOK o M)(hp:rs.flatten.Pairwise (·<·))(hn:∀ x∈rs.flatten,0<=x/\x<o.length):
  ∀ k,k<=rs.length->(jh o (fol o M rs) rs lv kept e k).Pairwise fun a b=>∀ i∈a.l,i ∉ b.l
 | 0,_=>by simp[jh]
 | k+1,hk=>by
  have ih:=wT (lv:=lv) (kept:=kept) (e:=e) hM hp hn k (by omega);unfold jh;cases hc:con (fol o M rs) rs.length k
  ·simp only[LH,if_false];refine Ms.2 ⟨ih,by simp,?_⟩;intro a ha b hb i h9 he;simp at hb;subst hb;obtain⟨j,h1,h2,rfl⟩:=nf ha;obtain⟨q,h7,h4⟩:=tf _ _ _ _ _ h9;obtain⟨q',h8,h6⟩:=tf _ _ _ _ _ he;have hF:=fun j hj=>xK hM hp hn j hj;have l1:=lq hF _ _ (by omega) q h7;have l2:=lq hF _ _ (by omega) q' h8;have hd:∀ j (hj:j<rs.length),rs.getD j []=rs[j]:=fun j hj=>by rw[Lg,Lc hj];rfl
   rw[hd q l1]at h4;rw[hd q' l2]at h6;obtain⟨p1,p2⟩:=NB.1 hp;have hf:q=q':=by
    rcases Mk q q' with h3|h3|h3
    ·have:=Mo.1 p2 q q' l1 l2 h3 i h4 i h6;omega
    ·exact h3
    ·have:=Mo.1 p2 q' q l2 l1 h3 i h6 i h4;omega
   subst hf;have:=yR hF (fun j j' hj hg h h0=>Fs hM hp hn hj hg h h0) (by omega:j<rs.length) (by omega:k<rs.length) h2 hc q q (Lh _) h7 h8;omega
  ·simp only[if_true];exact ih
theorem Bx{o M lv:List Int}{n:Nat}{e:Int}(hM:MOK o M)(h0:o.length=n):(lg o M lv n e).Pairwise fun a b=>∀ i∈a.l,i ∉ b.l:=by
 unfold lg;refine wT hM ?_ ?_ _ (Lh _)
 ·rw[ij];exact fX o n
 ·rw[ij];intro x hx;have:=fa o n x hx;omega
theorem Stp.oth{t o c y c' y':List Int}{s:Sq}(h:Stp t o s c y c' y'){j:Nat}(hj:(j:Int) ∉ s.l):c'[j]?=c[j]?/\y'[j]?=y[j]?:=by
 obtain⟨c1,c2,h1,h2,h3,h4⟩:=h;exact⟨by rw[h3.oth j hj,h2.oth j hj,h1.oth j hj],h4.oth j hj⟩
theorem Stps.oth{t o:List Int}{j:Nat}:∀ {ss:List Sq}{c y c' y':List Int},Stps t o ss c y c' y'->(∀ s∈ss,(j:Int) ∉ s.l)->c'[j]?=c[j]?/\y'[j]?=y[j]?
 | [],_,_,_,_,⟨rfl,rfl⟩,_=>⟨rfl,rfl⟩
 | s::ss,c,y,c',y',⟨c1,y1,h1,h2⟩,h=>by
  obtain⟨a1,a2⟩:=h1.oth (h s (Lv ..));obtain⟨b1,b2⟩:=Stps.oth h2 fun x hx=>h x (Lm _ hx);exact⟨b1.trans a1,b2.trans a2⟩
theorem Stp.up{t o c y c' y':List Int}{s:Sq}(h:Stp t o s c y c' y'){n:Nat}(hs:Pl n s.l)(hc:c.length=n)(hy:y.length=n){j:Nat}{a:Int}(ha:y[j]?=some a):∃ b,y'[j]?=some b/\a<=b/\b<=a+2:=by
 by_cases hj:(j:Int)∈s.l
 ·obtain⟨c1,c2,h1,h2,h3,h4⟩:=h;obtain⟨k,hk⟩:=Nj.1 hj;have h5:=h4.at_ k _ hk;rw[LB]at h5;have h0:c'.length=n:=h3.len.trans (h2.len.trans (h1.len.trans hc));have hu:(s.l.map (lvl y))[k]?=some a:=by
   rw[Ln,hk];simp only[LW,lvl,LB,Lg,ha];rfl
  have hx:(s.l.map (lvl c'))[k]?=some (lvl c' j):=by rw[Ln,hk];rfl
  have hi:=vE (lev:=s.lev) hu hx;have:=qz s.lev (lvl c' j);exact⟨_,h5.trans hi,by omega,by omega⟩
 ·exact⟨a,by rw[(h.oth hj).2];exact ha,by omega,by omega⟩
theorem Stps.up{t o:List Int}{n:Nat}:∀ {ss:List Sq}{c y c' y':List Int},Stps t o ss c y c' y'->(∀ s∈ss,Pl n s.l)->ss.Pairwise (fun a b=>∀ i∈a.l,i ∉ b.l)->c.length=n->y.length=n->∀ {j:Nat}{a:Int},y[j]?=some a->∃ b,y'[j]?=some b/\a<=b/\b<=a+2
 | [],_,_,_,_,⟨rfl,rfl⟩,_,_,_,_,j,a,ha=>⟨a,ha,by omega,by omega⟩
 | s::ss,c,y,c',y',⟨c1,y1,h1,h2⟩,hs,hp,hc,hy,j,a,ha=>by
  obtain⟨p1,p2⟩:=Mj.1 hp;by_cases hj:(j:Int)∈s.l
  ·obtain⟨b,h0,h4⟩:=h1.up (hs s (Lv ..)) hc hy ha;refine⟨b,?_,h4⟩;rw[(Stps.oth h2 fun x hx h6=>p1 x hx _ hj h6).2];exact h0
  ·have h3:=(h1.oth hj).2;obtain⟨l1,l2⟩:=h1.len;exact Stps.up h2 (fun x hx=>hs x (Lm _ hx)) p2 (l1.trans hc) (l2.trans hy) (by rw[h3];exact ha)
theorem Stps.len{t o:List Int}:∀ {ss:List Sq}{c y c' y':List Int},Stps t o ss c y c' y'->c'.length=c.length/\y'.length=y.length
 | [],_,_,_,_,⟨rfl,rfl⟩=>⟨rfl,rfl⟩
 | s::ss,_,_,_,_,⟨c1,y1,h1,h2⟩=>by
  obtain⟨a1,a2⟩:=h1.len;obtain⟨b1,b2⟩:=Stps.len h2;exact⟨b1.trans a1,b2.trans a2⟩
theorem wy{P:Int->Prop}:∀ (o y:List Int) (p:Int),P p->(∀ a∈y,P a)->∀ a∈eS p o y,P a
 | [],_,_,_,_,a,ha=>by simp[eS]at ha
 | _::_,[],_,_,_,a,ha=>by simp[eS]at ha
 | x::o,b::y,p,hp,hy,a,ha=>by
  rw[eS]at ha;have hv:P (if gone x then p else b):=by
   split
   ·exact hp
   ·exact hy b (Lv ..)
  rcases Ly.1 ha with rfl|ha
  ·exact hv
  ·exact wy o y _ hv (fun c hc=>hy c (Lm _ hc)) a ha
theorem Ae{P:Int->Prop}(e:Int)(he:P e):∀ (o y:List Int),(∀ a∈y,P a)->∀ a∈(trl e o y).2,P a
 | [],_,_,a,ha=>by simp[trl]at ha
 | _::_,[],_,a,ha=>by simp[trl]at ha
 | x::o,b::y,hy,a,ha=>by
  rw[trl]at ha;rcases Ly.1 ha with rfl|ha
  ·split
   ·exact he
   ·exact hy b (Lv ..)
  ·exact Ae e he o y (fun c hc=>hy c (Lm _ hc)) a ha
theorem F0{t:List Int}{base:Int}{r:List Int}(h:LevR t base r):r.length=t.length/\∀ x∈r,0<=x/\x<=127:=by
 obtain⟨M,c',y',hM,h3,rfl⟩:=h;have he:0<=dt cD t base/\dt cD t base<=1:=by
  unfold dt;split
  ·omega
  ·have:=tx (t.map cD).length (t.map cD);unfold fs;omega
 have h0:(t.map cD).length=t.length:=by simp
 generalize t.map cD=o at *;generalize dt cD t base=e at *;have h4:=qe e o;have h6:=uR he o;have h9:((ic e o).map (·.2)).length=t.length:=by simp[h4,h0]
 have h7:((ic e o).map (·.1)).length=t.length:=by simp[h4,h0]
 obtain⟨l1,l2⟩:=Stps.len h3;have hc:o.length=y'.length:=by omega
 have hd:=ek o y' e hc;refine⟨by rw[ug e o _ (by omega)];omega,?_⟩;refine Ae (P:=fun x=>0<=x/\x<=127) e ⟨he.1,by omega⟩ _ _ (wy (P:=fun x=>0<=x/\x<=127) _ _ _ ⟨he.1,by omega⟩ ?_);intro x hx;obtain⟨j,hj⟩:=Nj.1 hx;have hf:=(Ld.1 hj).1;obtain⟨a,ha⟩:∃ a,((ic e o).map (·.1))[j]?=some a:=⟨_,Lc (by omega)⟩;obtain⟨b,h8,hg,hh⟩:=Stps.up h3 (fun s hs=>(wQ hM h0 h7 h6 hs).1) (Bx hM h0) h9 h7 ha;rw[hj]at h8;cases h8;have:=h6 a (Le ha);omega
def Adj(l:List Int)(a b:Int):Prop:=∃ u v,l=u++a::b::v
theorem Adj.pre{l:List Int}{a b:Int}(h:Adj l a b)(p:List Int):Adj (p++l) a b:=by
 obtain⟨u,v,rfl⟩:=h;exact⟨p++u,v,by simp⟩
theorem DX(p:Int->Bool):∀ (l acc:List Int),∃ u v,rr p acc l=u++(acc++v)
 | [],acc=>⟨[],[],by simp[rr]⟩
 | x::l,acc=>by
  cases hx:p x
  ·rw[fA hx];exact⟨[],x::rr p [] l,by simp⟩
  ·have e:rr p acc (x::l)=rr p (x::acc) l:=by simp[rr,hx]
   obtain⟨u,v,h⟩:=DX p l (x::acc);rw[e,h];exact⟨u++[x],v,by simp⟩
theorem DY{p:Int->Bool}{a b:Int}(h0:p a=p b)(v:List Int):∀ (u acc:List Int),if p a then Adj (rr p acc (u++a::b::v)) b a else Adj (rr p acc (u++a::b::v)) a b
 | [],acc=>by
  cases ha:p a
  ·have hb:p b=false:=by rw[<- h0,ha]
   simp only[LH,if_false,Mf];rw[fA ha,fA hb];exact⟨acc,rr p [] v,by simp⟩
  ·have hb:p b=true:=by rw[<- h0,ha]
   simp only[if_true,Mf];have e:rr p acc (a::b::v)=rr p (b::a::acc) v:=by simp[rr,ha,hb]
   obtain⟨u,w,h⟩:=DX p v (b::a::acc);rw[e,h];exact⟨u,acc++w,by simp⟩
 | x::u,acc=>by
  have ih:=fun acc=>DY h0 v u acc;cases hx:p x
  ·rw[L8,fA hx];have:=ih [];split<;>rename_i h
   ·rw[if_pos h]at this;exact (this.pre [x]).pre acc
   ·rw[if_neg h]at this;exact (this.pre [x]).pre acc
  ·have e:rr p acc (x::(u++a::b::v))=rr p (x::acc) (u++a::b::v):=by simp[rr,hx]
   rw[L8,e];exact ih _
theorem Adj.rr{p:Int->Bool}{l:List Int}{a b:Int}(h:Adj l a b)(h0:p a=p b):if p a then Adj (rr p [] l) b a else Adj (rr p [] l) a b:=by
 obtain⟨u,v,rfl⟩:=h;exact DY h0 v u []
end Bi
end Go.Ab
namespace Go.Ab
def xO:IntKind->IntKind->Bool
 | .i8,.i8|.i16,.i16|.i32,.i32|.i64,.i64|.u8,.u8|.u16,.u16|.u32,.u32|.u64,.u64=>true
 | _,_=>false
theorem A6{a b:IntKind}(h:xO a b=true):a=b:=by
 cases a<;>cases b<;>first|rfl|simp[xO]at h
def ed{α:Type}(f:α->α->Bool):List α->List α->Bool
 | [],[]=>true
 | a::x,b::y=>f a b&&ed f x y
 | _,_=>false
theorem dd{α:Type}{f:α->α->Bool}(hf:∀ a b,f a b=true->a=b):∀ x y,ed f x y=true->x=y
 | [],[],_=>rfl
 | [],_::_,h=>by simp[ed]at h
 | _::_,[],h=>by simp[ed]at h
 | a::x,b::y,h=>by
  simp only[ed,Lq]at h;rw[hf a b h.1,dd hf x y h.2]
def eqb:Nat->V->V->Bool
 | 0,_,_=>false
 | d+1,x,y=>match x,y with
  | .int k a,.int k' b=>xO k k'&&(a==b)
  | .bool a,.bool b=>a==b
  | .str a,.str b=>ed (fun (p q:UInt8)=>p.toNat==q.toNat) a.data.toList b.data.toList
  | .lst xs,.lst ys=>ed (ed (eqb d)) xs ys
  | .agg xs,.agg ys=>ed (eqb d) xs ys
  | .nils,.nils=>true
  | .nilp,.nilp=>true
  | .no,.no=>true
  | .sl a b c e f,.sl a' b' c' e' f'=>a==a'&&b==b'&&c==c'&&e==e'&&f==f'
  | .ptr a b,.ptr a' b'=>a==a'&&b==b'
  | .tup xs,.tup ys=>ed (eqb d) xs ys
  | .mref a,.mref b=>a==b
  | .mq xs,.mq ys=>ed (ed (eqb d)) xs ys
  | _,_=>false
theorem xE:∀ (d:Nat) (x y:V),eqb d x y=true->x=y
 | 0,x,y,h=>by simp[eqb]at h
 | d+1,x,y,h=>by
  have ih:=xE d;unfold eqb at h;split at h
  ·simp only[Lq,beq_iff_eq]at h;rw[A6 h.1,h.2]
  ·simp only[beq_iff_eq]at h;rw[h]
  ·rename_i a b;have:=dd (fun (p q:UInt8) h0=>UInt8.toNat_inj.1 (by simpa using h0)) _ _ h;obtain⟨⟨l⟩⟩:=a;obtain⟨⟨m⟩⟩:=b;simp only at this;rw[this]
  ·rw[dd (dd ih) _ _ h]
  ·rw[dd ih _ _ h]
  ·rfl
  ·rfl
  ·rfl
  ·simp only[Lq,beq_iff_eq]at h;obtain⟨⟨⟨⟨rfl,rfl⟩,rfl⟩,rfl⟩,rfl⟩:=h;rfl
  ·simp only[Lq,beq_iff_eq]at h;obtain⟨rfl,rfl⟩:=h;rfl
  ·rw[dd ih _ _ h]
  ·simp only[beq_iff_eq]at h;rw[h]
  ·rw[dd (dd ih) _ _ h]
  ·cases h
def yO:Option (List V)->Option (List V)->Bool
 | none,none=>true
 | some x,some y=>ed (eqb 9) x y
 | _,_=>false
theorem B9(x y:Option (List V))(h:yO x y=true):x=y:=by
 cases x<;>cases y<;>first|rfl|(simp[yO]at h;done)|(simp only[yO]at h;rw[dd (xE 9) _ _ h])
def Cj(a b:Cfg):Bool:=a.lo==b.lo&&a.thr==b.thr&&ed (fun x y=>Nat.beq x y) a.ex b.ex
theorem Ck(a b:Cfg)(h:Cj a b=true):a=b:=by
 obtain⟨l,e,t⟩:=a;obtain⟨l',e',t'⟩:=b;simp only[Cj,Lq,beq_iff_eq]at h;obtain⟨⟨rfl,rfl⟩,h⟩:=h;rw[dd (fun a b h=>Nat.eq_of_beq_eq_true h) _ _ h]
structure Key where
 cfg:Cfg
 args:List V
 h:Heap
abbrev Tbl:=List (Key×V×Heap)
def Hq(k:Key)(cfg:Cfg)(args:List V)(h:Heap):Bool:=Cj k.cfg cfg&&ed (eqb 9) k.args args&&ed yO k.h h
def find:Tbl->Cfg->List V->Heap->Option (V×Heap)
 | [],_,_,_=>none
 | (k,r)::t,cfg,args,h=>if Hq k cfg args h then some r else find t cfg args h
def oe(t:Tbl):Prim:=fun cfg args h=>find t cfg args h
def bh:List (FuncId×Tbl)->FuncId->Option Prim
 | [],_=>none
 | (g,t)::r,f=>if f==g then some (oe t) else bh r f
section
variable {P:Program}{md:FuncId->Nat}{prim:FuncId->Option Prim}{n d:Nat}
def bk(P:Program)(md:FuncId->Nat)(prim:FuncId->Option Prim)(n d:Nat)(f:FuncId)(t:Tbl):Prop:=∀ k r,(k,r)∈t->aN P md prim n d k.cfg f k.args k.h=some r
theorem aK{f:FuncId}:bk P md prim n d f []:=fun _ _ h=>by simp at h
theorem au{f:FuncId}{k:Key}{r:V×Heap}{t:Tbl}(hr:aN P md prim n d k.cfg f k.args k.h=some r)(ht:bk P md prim n d f t):bk P md prim n d f ((k,r)::t):=by
 intro k' r' hm;rcases Ly.1 hm with hm|hm
 ·cases hm;exact hr
 ·exact ht k' r' hm
theorem uZ:∀ (t:Tbl) (cfg:Cfg) (args:List V) (h:Heap) (r:V×Heap),find t cfg args h=some r->(⟨cfg,args,h⟩,r)∈t
 | [],_,_,_,_,h=>by simp[find]at h
 | (k,s)::t,cfg,args,h,r,hf=>by
  unfold find at hf;split at hf
  ·rename_i he;cases hf;simp only[Hq,Lq]at he;obtain⟨kc,ka,kh⟩:=k;obtain⟨⟨h1,h2⟩,h3⟩:=he;rw[<- Ck _ _ h1,<- dd (xE 9) _ _ h2,<- dd B9 _ _ h3];exact Lv ..
  ·exact Lm _ (uZ t cfg args h r hf)
theorem aX(hm:P.follows .mixedOrders=true)(hN:dG P)(hp:∀ f p,prim f=some p->cM P f p){f:FuncId}{t:Tbl}(ht:bk P md prim n d f t):cM P f (oe t):=by
 intro cfg args h r h' hx;exact ee hm hN hp d _ _ _ _ _ _ (ht _ _ (uZ t cfg args h _ hx))
theorem aD{l:List (FuncId×Tbl)}(hl:∀ f t,(f,t)∈l->cM P f (oe t)){f:FuncId}{t:Tbl}(hf:cM P f (oe t)):∀ g u,(g,u)∈(f,t)::l->cM P g (oe u):=by
 intro g u h0;rcases Ly.1 h0 with h|h
 ·cases h;exact hf
 ·exact hl g u h
theorem aA:∀ (l:List (FuncId×Tbl)),(∀ f t,(f,t)∈l->cM P f (oe t))->∀ f p,bh l f=some p->cM P f p
 | [],_,f,p,h=>by simp[bh]at h
 | (g,t)::r,hl,f,p,h=>by
  unfold bh at h;split at h
  ·rename_i he;cases h;rw[eq_of_beq he];exact hl g t (Lv ..)
  ·exact aA r (fun f t h0=>hl f t (Lm _ h0)) f p h
end
end Go.Ab
