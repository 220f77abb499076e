/- Several texts of this proof in one. -/
import Derived.Test.YtoappddifbgegaaGreatPiLev0
import Derived.RangeFuncIn
import Derived.RangeFuncCalls
import Derived.TacticsIn
import Derived.LoopNIn
set_option linter.all false
namespace Go.Ab.Bi
theorem jW:∀ (r:List Int) (d d' q:Nat),aY r d=some q->aY r (d+d'+1)=(aY (r.drop (q+1)) d').map (·+(q+1))
 | [],_,_,_,h=>by simp[aY]at h
 | x::r,d,d',q,h=>by
  by_cases hx:ini x=true
  ·rw[jX hx]at h ⊢;obtain⟨k,hk,rfl⟩:=Lx.1 h;rw[show d+d'+1+1=(d+1)+d'+1 by omega,jW r (d+1) d' k hk,Nu,OA];congr 1
  ·have h0:ini x=false:=by simpa using hx
   by_cases h2:x=22
   ·subst h2;cases d with
    | zero =>
     rw[nB]at h;cases h;rw[LU,gX];rfl
    | succ d =>
     rw[gX]at h;obtain⟨k,hk,rfl⟩:=Lx.1 h;rw[show d+1+d'+1=(d+d'+1)+1 by omega,gX,jW r d d' k hk,Nu,OA];congr 1
   ·rw[nA h0 h2]at h ⊢;obtain⟨k,hk,rfl⟩:=Lx.1 h;rw[jW r d d' k hk,Nu,OA];congr 1
theorem qM:∀ (u:Nat) (r:List Int) (d a:Nat),aY r d=some a->u<=a->∃ D,(aY (r.drop u) D).map (·+u)=some a
 | 0,r,d,a,h,_=>⟨d,by simpa using h⟩
 | u+1,[],d,a,h,_=>by simp[aY]at h
 | u+1,x::r,d,a,h,hu=>by
  have key:∀ D,(aY r D).map (·+1)=some a->∃ D,(aY ((x::r).drop (u+1)) D).map (·+(u+1))=some a:=by
   intro D hD;obtain⟨k,hk,rfl⟩:=Lx.1 hD;obtain⟨D',h0⟩:=qM u r D k hk (by omega);obtain⟨j,hj,h4⟩:=Lx.1 h0;exact⟨D',by rw[Nu,hj];simp;omega⟩
  by_cases hx:ini x=true
  ·rw[jX hx]at h;exact key _ h
  ·have h3:ini x=false:=by simpa using hx
   by_cases h2:x=22
   ·subst h2;cases d with
    | zero=>rw[nB]at h;cases h;omega
    | succ d=>rw[gX]at h;exact key _ h
   ·rw[nA h3 h2]at h;exact key _ h
theorem DJ{c:List Int}{z z':Nat}(h0:z<z'){m:Nat}(h1:mt c z=m)(h2:mt c z'=m){x:Int}(hx:c[z']?=some x)(hi:ini x=true):False:=by
 unfold mt at h1 h2;cases ha:aY (c.drop (z+1)) 0 with
 | none=>rw[ha]at h1;simp only at h1;omega
 | some a =>
  cases hb:aY (c.drop (z'+1)) 0 with
  | none=>rw[hb]at h2;simp only at h2;omega
  | some b =>
   rw[ha]at h1;rw[hb]at h2;simp only at h1 h2;obtain⟨u,rfl⟩:∃ u,z'=z+1+u:=⟨z'-(z+1),by omega⟩;obtain⟨D,hD⟩:=qM u _ 0 a ha (by omega);obtain⟨hl,rfl⟩:=K5.1 hx;rw[Oz,Lq hl,jX hi]at hD;have:=jW (c.drop (z+1+u+1)) 0 D b hb;rw[show 0+D+1=D+1 by omega]at this;rw[this]at hD;cases hc:aY (List.drop (b+1) (List.drop (z+1+u+1) c)) D with
   | none=>rw[hc]at hD;simp at hD
   | some q=>rw[hc]at hD;simp at hD;omega
theorem FG{o M:List Int}{rs:List (List Int)}(hM:MOK o M)(hp:rs.flatten.Pairwise (·<·))(hn:∀ x∈rs.flatten,0<=x/\x<o.length){j j':Nat}(hj:j<rs.length)(h6:j'<rs.length)(h:fol o M rs j=fol o M rs j')(h0:0<=fol o M rs j):j=j':=by
 have key:∀ j,j<rs.length->0<=fol o M rs j->∃ z:Int,z∈rs.getD j []/\0<=z/\z<o.length/\ini (o.getD z.toNat 0)=true/\∃ m:Nat,mt o z.toNat=m/\∃ k r,fol o M rs j=(k:Nat)/\rs[k]?=some r/\r.head?=some (m:Int):=by
  intro j hj h0;unfold fol at h0 ⊢;have hd:rs.getD j []=rs[j]:=by rw[K9,K4 hj];rfl
  rw[hd]at h0 ⊢;cases hz:rs[j].getLast? with
  | none=>rw[hz]at h0;simp at h0
  | some z =>
   rw[hz]at h0;simp only at h0 ⊢;have h9:z∈rs[j]:=List.mem_of_getLast? hz;have hr:z∈rs.flatten:=NP.2 ⟨_,MA hj,h9⟩;have ha:=hn z hr;split at h0
   ·rename_i hc;rw[if_pos hc];rw[Ld,decide_eq_true_eq]at hc;have ho:o[z.toNat]?=some (o.getD z.toNat 0):=by rw[K9,K4 (by omega)];rfl
    have hm:=hM.at_ z.toNat _ ho hc.1;have ht:M.getD z.toNat 0=mt o z.toNat:=by rw[K9,hm];rfl
    rw[ht]at hc h0 ⊢;obtain⟨m,he⟩:∃ m:Nat,mt o z.toNat=m:=⟨(mt o z.toNat).toNat,by omega⟩;cases hb:bgn rs (mt o z.toNat) with
    | none=>rw[hb]at h0;simp at h0
    | some k =>
     obtain⟨r,h3,h4⟩:=pO hb;exact⟨z,h9,ha.1,ha.2,hc.1,m,he,k,r,rfl,h3,by rw[h4,he]⟩
   ·omega
 obtain⟨z,h7,hu,hv,hw,m,hf,k,r,hJ,hy,hA⟩:=key j hj h0;obtain⟨z',h8,hD,hE,hF,m',hg,k',r',hK,hh,hq⟩:=key j' h6 (h ▸ h0);have hk:k=k':=by omega
 subst hk;rw[hy]at hh;cases hh;rw[hA]at hq;have hH:m=m':=by simpa using hq
 subst hH;have ho:∀ z:Int,0<=z->z<o.length->o[z.toNat]?=some (o.getD z.toNat 0):=fun z _ _=>by rw[K9,K4 (by omega)];rfl
 have hI:z=z':=by
  rcases Int.lt_trichotomy z z' with h1|h1|h1
  ·exact (DJ (by omega:z.toNat<z'.toNat) hf hg (ho z' hD hE) hF).elim
  ·exact h1
  ·exact (DJ (by omega:z'.toNat<z.toNat) hg hf (ho z hu hv) hw).elim
 subst hI;have hd:∀ j (hj:j<rs.length),rs.getD j []=rs[j]:=fun j hj=>by rw[K9,K4 hj];rfl
 rw[hd j hj]at h7;rw[hd j' h6]at h8;obtain⟨p1,p2⟩:=Nh.1 hp;rcases Mr j j' with h1|h1|h1
 ·have:=Mc.1 p2 j j' hj h6 h1 z h7 z h8;omega
 ·exact h1
 ·have:=Mc.1 p2 j' j h6 hj h1 z h8 z h7;omega
def chI(F:Nat->Int):Nat->Int->List Nat
 | 0,_=>[]
 | f+1,j=>if 0<=j then j.toNat::chI F f (F j.toNat) else []
theorem tE(F:Nat->Int)(rs:List (List Int)):∀ (f:Nat) (j:Int) (x:Int),x∈chn F rs f j->∃ k∈chI F f j,x∈rs.getD k []
 | 0,_,x,h=>by simp[chn]at h
 | f+1,j,x,h=>by
  unfold chn at h;unfold chI;split at h
  ·rename_i hj;rw[if_pos hj];rcases LB.1 h with h|h
   ·exact⟨_,Ll ..,h⟩
   ·obtain⟨k,h1,h2⟩:=tE F rs f _ x h;exact⟨k,Lc _ h1,h2⟩
  ·simp at h
theorem lV(F:Nat->Int):∀ (f:Nat) (j:Int) (k:Nat),k∈chI F f j->(k:Int)=j\/∃ q∈chI F f j,F q=(k:Int)
 | 0,_,k,h=>by simp[chI]at h
 | f+1,j,k,h=>by
  unfold chI at h ⊢;split at h
  ·rename_i hj;rw[if_pos hj];rcases Lt.1 h with h|h
   ·left;omega
   ·right;rcases lV F f _ k h with h1|⟨q,h1,h2⟩
    ·exact⟨j.toNat,Ll ..,h1.symm⟩
    ·exact⟨q,Lc _ h1,h2⟩
  ·simp at h
theorem lu{F:Nat->Int}{N:Nat}(hF:∀ j,j<N->F j<0\/((j:Int)<F j/\F j<N)):∀ (f:Nat) (j:Int),j<N->∀ k∈chI F f j,k<N
 | 0,_,_,k,h=>by simp[chI]at h
 | f+1,j,hj,k,h=>by
  unfold chI at h;split at h
  ·rcases Lt.1 h with h|h
   ·omega
   ·refine lu hF f _ ?_ k h;have:=hF j.toNat (by omega);omega
  ·simp at h
theorem zp{F:Nat->Int}{N:Nat}(hF:∀ j,j<N->F j<0\/((j:Int)<F j/\F j<N))(hI:∀ j j',j<N->j'<N->F j=F j'->0<=F j->j=j'){a b f:Nat}(ha:a<N)(hb:b<N)(h4:con F N a=false)(h6:con F N b=false):
  ∀ (n k:Nat),k<=n->k∈chI F f a->k∈chI F f b->a=b
 | n,k,h9,h1,h2=>by
  have h7:∀ c,c<N->con F N c=false->∀ q,q<N->F q≠(c:Int):=by
   intro c hc h8 q hq e;have:con F N c=true:=by
    unfold con;rw[Ot];exact⟨q,by simpa using hq,by simpa using e⟩
   rw[h8]at this;cases this
  rcases lV F f a k h1 with e1|⟨q1,h3,e1⟩
  ·rcases lV F f b k h2 with e2|⟨q2,h0,e2⟩
   ·omega
   ·exact (h7 a ha h4 q2 (lu hF f b (by omega) q2 h0) (by omega)).elim
  ·rcases lV F f b k h2 with e2|⟨q2,h0,e2⟩
   ·exact (h7 b hb h6 q1 (lu hF f a (by omega) q1 h3) (by omega)).elim
   ·have l1:=lu hF f a (by omega) q1 h3;have l2:=lu hF f b (by omega) q2 h0;have hq:q1=q2:=hI q1 q2 l1 l2 (by omega) (by omega);subst hq;have hd:=hF q1 l1;have he:q1<k:=by omega
    cases n with
    | zero=>omega
    | succ n=>exact zp hF hI ha hb h4 h6 n q1 (by omega) h3 h0
end Go.Ab.Bi
namespace Go.Ab.Bi
end Go.Ab.Bi
namespace Go.Ab
open Go.Proofs
namespace Bi
theorem vM{lev:Int}:∀ {u s:List Int}{k:Nat}{a x:Int},u[k]?=some a->s[k]?=some x->(jm lev u s)[k]?=some (a+jn lev x)
 | [],_,_,_,_,h,_=>by simp at h
 | _::_,[],_,_,_,_,h=>by simp at h
 | b::u,y::s,0,a,x,h1,h2=>by simp at h1 h2;simp[jm,h1,h2]
 | b::u,y::s,k+1,a,x,h1,h2=>by
  simp only[jm,LG]at h1 h2 ⊢;exact vM h1 h2
theorem xg{o M:List Int}{rs:List (List Int)}{lv kept:List Int}{e:Int}(hM:MOK o M)(hp:rs.flatten.Pairwise (·<·))(hn:∀ x∈rs.flatten,0<=x/\x<o.length):
  ∀ k,k<=rs.length->(jc o (fol o M rs) rs lv kept e k).Pairwise fun a b=>∀ i∈a.l,i ∉ b.l
 | 0,_=>by simp[jc]
 | k+1,hk=>by
  have ih:=xg (lv:=lv) (kept:=kept) (e:=e) hM hp hn k (by omega);unfold jc;cases hc:con (fol o M rs) rs.length k
  ·simp only[Lv,if_false];refine NT.2 ⟨ih,by simp,?_⟩;intro a ha b hb i h9 he;simp at hb;subst hb;obtain⟨j,h1,h2,rfl⟩:=mX ha;obtain⟨q,h7,h4⟩:=tE _ _ _ _ _ h9;obtain⟨q',h8,h6⟩:=tE _ _ _ _ _ he;have hF:=fun j hj=>ya hM hp hn j hj;have l1:=lu hF _ _ (by omega) q h7;have l2:=lu hF _ _ (by omega) q' h8;have hd:∀ j (hj:j<rs.length),rs.getD j []=rs[j]:=fun j hj=>by rw[K9,K4 hj];rfl
   rw[hd q l1]at h4;rw[hd q' l2]at h6;obtain⟨p1,p2⟩:=Nh.1 hp;have hf:q=q':=by
    rcases Mr q q' with h3|h3|h3
    ·have:=Mc.1 p2 q q' l1 l2 h3 i h4 i h6;omega
    ·exact h3
    ·have:=Mc.1 p2 q' q l2 l1 h3 i h6 i h4;omega
   subst hf;have:=zp hF (fun j j' hj hg h h0=>FG hM hp hn hj hg h h0) (by omega:j<rs.length) (by omega:k<rs.length) h2 hc q q (La _) h7 h8;omega
  ·simp only[if_true];exact ih
theorem BZ{o M lv:List Int}{n:Nat}{e:Int}(hM:MOK o M)(h0:o.length=n):(lh o M lv n e).Pairwise fun a b=>∀ i∈a.l,i ∉ b.l:=by
 unfold lh;refine xg hM ?_ ?_ _ (La _)
 ·rw[gU];exact fO o n
 ·rw[gU];intro x hx;have:=eR o n x hx;omega
theorem Stp.oth{t o c y c' y':List Int}{s:Sq}(h:Stp t o s c y c' y'){j:Nat}(hj:(j:Int) ∉ s.l):c'[j]?=c[j]?/\y'[j]?=y[j]?:=by
 obtain⟨c1,c2,h1,h2,h3,h4⟩:=h;exact⟨by rw[h3.oth j hj,h2.oth j hj,h1.oth j hj],h4.oth j hj⟩
theorem Stps.oth{t o:List Int}{j:Nat}:∀ {ss:List Sq}{c y c' y':List Int},Stps t o ss c y c' y'->(∀ s∈ss,(j:Int) ∉ s.l)->c'[j]?=c[j]?/\y'[j]?=y[j]?
 | [],_,_,_,_,⟨rfl,rfl⟩,_=>⟨rfl,rfl⟩
 | s::ss,c,y,c',y',⟨c1,y1,h1,h2⟩,h=>by
  obtain⟨a1,a2⟩:=h1.oth (h s (Ll ..));obtain⟨b1,b2⟩:=Stps.oth h2 fun x hx=>h x (Lc _ hx);exact⟨b1.trans a1,b2.trans a2⟩
theorem Stp.up{t o c y c' y':List Int}{s:Sq}(h:Stp t o s c y c' y'){n:Nat}(hs:Pl n s.l)(hc:c.length=n)(hy:y.length=n){j:Nat}{a:Int}(ha:y[j]?=some a):∃ b,y'[j]?=some b/\a<=b/\b<=a+2:=by
 by_cases hj:(j:Int)∈s.l
 ·obtain⟨c1,c2,h1,h2,h3,h4⟩:=h;obtain⟨k,hk⟩:=M4.1 hj;have h5:=h4.at_ k _ hk;rw[Lr]at h5;have h0:c'.length=n:=h3.len.trans (h2.len.trans (h1.len.trans hc));have hu:(s.l.map (lvl y))[k]?=some a:=by
   rw[Lh,hk];simp only[LX,lvl,Lr,K9,ha];rfl
  have hx:(s.l.map (lvl c'))[k]?=some (lvl c' j):=by rw[Lh,hk];rfl
  have hi:=vM (lev:=s.lev) hu hx;have:=qD s.lev (lvl c' j);exact⟨_,h5.trans hi,by omega,by omega⟩
 ·exact⟨a,by rw[(h.oth hj).2];exact ha,by omega,by omega⟩
theorem Stps.up{t o:List Int}{n:Nat}:∀ {ss:List Sq}{c y c' y':List Int},Stps t o ss c y c' y'->(∀ s∈ss,Pl n s.l)->ss.Pairwise (fun a b=>∀ i∈a.l,i ∉ b.l)->c.length=n->y.length=n->∀ {j:Nat}{a:Int},y[j]?=some a->∃ b,y'[j]?=some b/\a<=b/\b<=a+2
 | [],_,_,_,_,⟨rfl,rfl⟩,_,_,_,_,j,a,ha=>⟨a,ha,by omega,by omega⟩
 | s::ss,c,y,c',y',⟨c1,y1,h1,h2⟩,hs,hp,hc,hy,j,a,ha=>by
  obtain⟨p1,p2⟩:=L8.1 hp;by_cases hj:(j:Int)∈s.l
  ·obtain⟨b,h0,h4⟩:=h1.up (hs s (Ll ..)) hc hy ha;refine⟨b,?_,h4⟩;rw[(Stps.oth h2 fun x hx h6=>p1 x hx _ hj h6).2];exact h0
  ·have h3:=(h1.oth hj).2;obtain⟨l1,l2⟩:=h1.len;exact Stps.up h2 (fun x hx=>hs x (Lc _ hx)) p2 (l1.trans hc) (l2.trans hy) (by rw[h3];exact ha)
theorem Stps.len{t o:List Int}:∀ {ss:List Sq}{c y c' y':List Int},Stps t o ss c y c' y'->c'.length=c.length/\y'.length=y.length
 | [],_,_,_,_,⟨rfl,rfl⟩=>⟨rfl,rfl⟩
 | s::ss,_,_,_,_,⟨c1,y1,h1,h2⟩=>by
  obtain⟨a1,a2⟩:=h1.len;obtain⟨b1,b2⟩:=Stps.len h2;exact⟨b1.trans a1,b2.trans a2⟩
theorem wL{P:Int->Prop}:∀ (o y:List Int) (p:Int),P p->(∀ a∈y,P a)->∀ a∈eL p o y,P a
 | [],_,_,_,_,a,ha=>by simp[eL]at ha
 | _::_,[],_,_,_,a,ha=>by simp[eL]at ha
 | x::o,b::y,p,hp,hy,a,ha=>by
  rw[eL]at ha;have hv:P (if gone x then p else b):=by
   split
   ·exact hp
   ·exact hy b (Ll ..)
  rcases Lt.1 ha with rfl|ha
  ·exact hv
  ·exact wL o y _ hv (fun c hc=>hy c (Lc _ hc)) a ha
theorem AA{P:Int->Prop}(e:Int)(he:P e):∀ (o y:List Int),(∀ a∈y,P a)->∀ a∈(trl e o y).2,P a
 | [],_,_,a,ha=>by simp[trl]at ha
 | _::_,[],_,a,ha=>by simp[trl]at ha
 | x::o,b::y,hy,a,ha=>by
  rw[trl]at ha;rcases Lt.1 ha with rfl|ha
  ·split
   ·exact he
   ·exact hy b (Ll ..)
  ·exact AA e he o y (fun c hc=>hy c (Lc _ hc)) a ha
theorem Gg{t:List Int}{base:Int}{r:List Int}(h:LevR t base r):r.length=t.length/\∀ x∈r,0<=x/\x<=127:=by
 obtain⟨M,c',y',hM,h3,rfl⟩:=h;have he:0<=dw cA t base/\dw cA t base<=1:=by
  unfold dw;split
  ·omega
  ·have:=tN (t.map cA).length (t.map cA);unfold fs;omega
 have h0:(t.map cA).length=t.length:=by simp
 generalize t.map cA=o at *;generalize dw cA t base=e at *;have h4:=qg e o;have h6:=vk he o;have h9:((gR e o).map (·.2)).length=t.length:=by simp[h4,h0]
 have h7:((gR e o).map (·.1)).length=t.length:=by simp[h4,h0]
 obtain⟨l1,l2⟩:=Stps.len h3;have hc:o.length=y'.length:=by omega
 have hd:=dX o y' e hc;refine⟨by rw[uA e o _ (by omega)];omega,?_⟩;refine AA (P:=fun x=>0<=x/\x<=127) e ⟨he.1,by omega⟩ _ _ (wL (P:=fun x=>0<=x/\x<=127) _ _ _ ⟨he.1,by omega⟩ ?_);intro x hx;obtain⟨j,hj⟩:=M4.1 hx;have hf:=(K5.1 hj).1;obtain⟨a,ha⟩:∃ a,((gR e o).map (·.1))[j]?=some a:=⟨_,K4 (by omega)⟩;obtain⟨b,h8,hg,hh⟩:=Stps.up h3 (fun s hs=>(xf hM h0 h7 h6 hs).1) (BZ hM h0) h9 h7 ha;rw[hj]at h8;cases h8;have:=h6 a (K6 ha);omega
def Adj(l:List Int)(a b:Int):Prop:=∃ u v,l=u++a::b::v
theorem Adj.pre{l:List Int}{a b:Int}(h:Adj l a b)(p:List Int):Adj (p++l) a b:=by
 obtain⟨u,v,rfl⟩:=h;exact⟨p++u,v,by simp⟩
theorem Eb(p:Int->Bool):∀ (l acc:List Int),∃ u v,rr p acc l=u++(acc++v)
 | [],acc=>⟨[],[],by simp[rr]⟩
 | x::l,acc=>by
  cases hx:p x
  ·rw[fl hx];exact⟨[],x::rr p [] l,by simp⟩
  ·have e:rr p acc (x::l)=rr p (x::acc) l:=by simp[rr,hx]
   obtain⟨u,v,h⟩:=Eb p l (x::acc);rw[e,h];exact⟨u++[x],v,by simp⟩
theorem Ec{p:Int->Bool}{a b:Int}(h0:p a=p b)(v:List Int):∀ (u acc:List Int),if p a then Adj (rr p acc (u++a::b::v)) b a else Adj (rr p acc (u++a::b::v)) a b
 | [],acc=>by
  cases ha:p a
  ·have hb:p b=false:=by rw[<- h0,ha]
   simp only[Lv,if_false,Mp];rw[fl ha,fl hb];exact⟨acc,rr p [] v,by simp⟩
  ·have hb:p b=true:=by rw[<- h0,ha]
   simp only[if_true,Mp];have e:rr p acc (a::b::v)=rr p (b::a::acc) v:=by simp[rr,ha,hb]
   obtain⟨u,w,h⟩:=Eb p v (b::a::acc);rw[e,h];exact⟨u,acc++w,by simp⟩
 | x::u,acc=>by
  have ih:=fun acc=>Ec h0 v u acc;cases hx:p x
  ·rw[LM,fl hx];have:=ih [];split<;>rename_i h
   ·rw[if_pos h]at this;exact (this.pre [x]).pre acc
   ·rw[if_neg h]at this;exact (this.pre [x]).pre acc
  ·have e:rr p acc (x::(u++a::b::v))=rr p (x::acc) (u++a::b::v):=by simp[rr,hx]
   rw[LM,e];exact ih _
theorem Adj.rr{p:Int->Bool}{l:List Int}{a b:Int}(h:Adj l a b)(h0:p a=p b):if p a then Adj (rr p [] l) b a else Adj (rr p [] l) a b:=by
 obtain⟨u,v,rfl⟩:=h;exact Ec h0 v u []
end Bi
end Go.Ab
namespace Go.Ab
def yh:IntKind->IntKind->Bool
 | .i8,.i8|.i16,.i16|.i32,.i32|.i64,.i64|.u8,.u8|.u16,.u16|.u32,.u32|.u64,.u64=>true
 | _,_=>false
theorem Br{a b:IntKind}(h:yh a b=true):a=b:=by
 cases a<;>cases b<;>first|rfl|simp[yh]at h
def dU{α:Type}(f:α->α->Bool):List α->List α->Bool
 | [],[]=>true
 | a::x,b::y=>f a b&&dU f x y
 | _,_=>false
theorem dR{α:Type}{f:α->α->Bool}(hf:∀ a b,f a b=true->a=b):∀ x y,dU f x y=true->x=y
 | [],[],_=>rfl
 | [],_::_,h=>by grind[dU]
 | _::_,[],h=>by grind[dU]
 | a::x,b::y,h=>by
  simp only[dU,Ld]at h;rw[hf a b h.1,dR hf x y h.2]
def eqb:Nat->V->V->Bool
 | 0,_,_=>false
 | d+1,x,y=>match x,y with
  | .int k a,.int k' b=>yh k k'&&(a==b)
  | .bool a,.bool b=>a==b
  | .str a,.str b=>dU (fun (p q:UInt8)=>p.toNat==q.toNat) a.data.toList b.data.toList
  | .lst xs,.lst ys=>dU (dU (eqb d)) xs ys
  | .agg xs,.agg ys=>dU (eqb d) xs ys
  | .nils,.nils=>true
  | .nilp,.nilp=>true
  | .no,.no=>true
  | .sl a b c e f,.sl a' b' c' e' f'=>a==a'&&b==b'&&c==c'&&e==e'&&f==f'
  | .ptr a b,.ptr a' b'=>a==a'&&b==b'
  | .tup xs,.tup ys=>dU (eqb d) xs ys
  | .mref a,.mref b=>a==b
  | .mq xs,.mq ys=>dU (dU (eqb d)) xs ys
  | .nilm,.nilm=>true
  | .nilf,.nilf=>true
  | .func (.func f) [] [],.func (.func g) [] []=>f==g
  | _,_=>false
theorem xS:∀ (d:Nat) (x y:V),eqb d x y=true->x=y
 | 0,x,y,h=>by grind[eqb]
 | d+1,x,y,h=>by
  have ih:=xS d;unfold eqb at h;split at h
  ·simp only[Ld,beq_iff_eq]at h
   grind[Br]
  ·simp_all
  ·rename_i a b;have:=dR (fun (p q:UInt8) h0=>UInt8.toNat_inj.1 (by simp_all)) _ _ h;obtain⟨⟨l⟩⟩:=a;simp_all
  ·grind[dR]
  ·grind[dR]
  ·rfl
  ·rfl
  ·rfl
  ·simp_all
  ·simp_all
  ·grind[dR]
  ·simp_all
  ·grind[dR]
  ·rfl
  ·rfl
  ·simp_all
  grind
def zn:Option (List V)->Option (List V)->Bool
 | none,none=>true
 | some x,some y=>dU (eqb 9) x y
 | _,_=>false
theorem Cv(x y:Option (List V))(h:zn x y=true):x=y:=by
 cases x<;>cases y<;>first|rfl|(simp[zn]at h;done)|grind[zn,dR,xS]
def CB(a b:Cfg):Bool:=a.lo==b.lo&&a.thr==b.thr&&dU (fun x y=>Nat.beq x y) a.ex b.ex
theorem CD(a b:Cfg)(h:CB a b=true):a=b:=by
 obtain⟨l,e,t⟩:=a;obtain⟨l',e',t'⟩:=b;simp only[CB,Ld,beq_iff_eq]at h;obtain⟨⟨rfl,rfl⟩,h⟩:=h
 grind[dR,Nat.eq_of_beq_eq_true]
structure Key where
 cfg:Cfg
 args:List V
 h:Heap
abbrev Tbl:=List (Key×V×Heap)
def HK(k:Key)(cfg:Cfg)(args:List V)(h:Heap):Bool:=CB k.cfg cfg&&dU (eqb 9) k.args args&&dU zn k.h h
def find:Tbl->Cfg->List V->Heap->Option (V×Heap)
 | [],_,_,_=>none
 | (k,r)::t,cfg,args,h=>if HK k cfg args h then some r else find t cfg args h
def kS(t:Tbl):Prim:=fun cfg args h=>find t cfg args h
def ra:List (FuncId×Tbl)->FuncId->Option Prim
 | [],_=>none
 | (g,t)::r,f=>if f==g then some (kS t) else ra r f
section
variable {P:Program}{md:FuncId->Nat}{prim:FuncId->Option Prim}{n d:Nat}
def pH(P:Program)(md:FuncId->Nat)(prim:FuncId->Option Prim)(n d:Nat)(f:FuncId)(t:Tbl):Prop:=∀ k r,(k,r)∈t->aH P md prim n d k.cfg f k.args k.h=some r
theorem aW{f:FuncId}:pH P md prim n d f []:=fun _ _ h=>by simp at h
theorem BU{f:FuncId}{k:Key}{r:V×Heap}{t:Tbl}(hr:aH P md prim n d k.cfg f k.args k.h=some r)(ht:pH P md prim n d f t):pH P md prim n d f ((k,r)::t):=by
 intro k' r' hm;rcases Lt.1 hm with hm|hm
 ·simp_all
 ·exact ht k' r' hm
theorem qm:∀ (t:Tbl) (cfg:Cfg) (args:List V) (h:Heap) (r:V×Heap),find t cfg args h=some r->(⟨cfg,args,h⟩,r)∈t
 | [],_,_,_,_,h=>by grind[find]
 | (k,s)::t,cfg,args,h,r,hf=>by
  unfold find at hf;split at hf
  ·rename_i he;cases hf;simp only[HK,Ld]at he;obtain⟨kc,ka,kh⟩:=k
   grind[CD,dR,xS,Cv,List.mem_cons_self]
  ·exact Lc _ (qm t cfg args h r hf)
theorem zU(hm:P.follows .mixedOrders=true)(hN:ck P)(hp:∀ f p,prim f=some p->bw P f p){f:FuncId}{t:Tbl}(ht:pH P md prim n d f t):bw P f (kS t):=by
 intro cfg args h r h' hx;exact dx hm hN hp d _ _ _ _ _ _ (ht _ _ (qm t cfg args h _ hx))
theorem nz{l:List (FuncId×Tbl)}(hl:∀ f t,(f,t)∈l->bw P f (kS t)){f:FuncId}{t:Tbl}(hf:bw P f (kS t)):∀ g u,(g,u)∈(f,t)::l->bw P g (kS u):=by
 grind
theorem te:∀ (l:List (FuncId×Tbl)),(∀ f t,(f,t)∈l->bw P f (kS t))->∀ f p,ra l f=some p->bw P f p
 | [],_,f,p,h=>by grind[ra]
 | (g,t)::r,hl,f,p,h=>by
  unfold ra at h;split at h
  ·grind
  ·exact te r (fun f t h0=>hl f t (Lc _ h0)) f p h
end
end Go.Ab
namespace Go.Ab
variable [Base]
def mr(o:Oper):Bool:=match o.op with
 | .defer _=>false
 | _=>true
def dC:Code->Bool
 | .skip|.exit _=>true
 | .region _ ops dr=>!dr&&ops.toList.all mr
 | .seq a b=>dC a&&dC b
 | .cond _ a b=>dC a&&dC b
 | .block _ b=>dC b
 | _=>false
section
variable {P:Program}{l n:Nat}
theorem opIn{o:Oper}{a:Act}{w:World}{K:Act->World->Prop}{Q:Exit->Act->World->Prop}(hd:mr o=true)(h:o.wp P a w K Q):o.wpIn (Fence.wide.inRound l) n P a w K Q:=by
 refine⟨fun _ _=>trivial,?_⟩;rw[show (Fence.wide.inRound l).round=some l from rfl,Oper.semAt_some l a.eval o (fun c e=>by grind[mr])];unfold Oper.wp at h;revert h;generalize (execOp a.eval o).run P w=r;intro h;cases r with
 | ok x w' =>
  cases x with
  | value v=>exact h
  | skip=>exact h
  | defer d=>exact h
  | enter f args=>exact⟨fun he=>by simp[Fence.wide]at he,CallsIn.inRound l (callsIn_wide.2 h)⟩
  | row row args=>exact⟨fun he=>by simp[Fence.wide]at he,fun c cs _=>let ⟨v,w',r,s⟩:=h c cs;⟨v,w',r,stepsIn_wide.2 s⟩⟩
  | _=>exact h.elim
 | halt x w' =>
  cases x with
  | panic v=>exact h
  | _=>exact h.elim
theorem Ev(hN:ck P){md:FuncId->Nat}{call:aF}(h0:bA P call){cfg:Cfg}{ops:Array Oper}{fr fr':List V}{h h':Heap}{o:Oper}(hd:mr o=true)(hx:cZ P md call cfg ops o fr h=some (fr',h')):
  HS cfg h h'/\∀ m w a,Rel m h w->FR m h w fr a->∀ (K:Act->World->Prop) (Q:Exit->Act->World->Prop),(∀ a' w',After m h w fr' h' a' w'->K a' w') ->
   if Region.wanted o (yielded ops a.tmps) then o.wpIn (Fence.wide.inRound l) n P a w K Q else (∀ f,o.about P w a.eval=some f->(Fence.wide.inRound l).fn f)/\K (a.put o.dst undef) w:=by
 unfold cZ at hx;split at hx
 ·rename_i hw;split at hx
  ·rename_i v h2 hv;simp only[K7,Lj]at hx;obtain⟨rfl,rfl⟩:=hx;obtain⟨h3,hs⟩:=eG hN h0 hv;refine⟨hs,fun m w a r fR K Q hK=>?_⟩;rw[dH fR hw];simp only[if_true];exact opIn hd (h3 m w a r fR K Q fun u w' ⟨m',e,r',h4⟩=>hK _ _ ⟨m',e,r',(fR.evo r e).put h4 o.dst⟩)
  grind
 ·rename_i hw;simp only[K7,Lj]at hx;obtain⟨rfl,rfl⟩:=hx;refine⟨.refl _ _,fun m w a r fR K Q hK=>?_⟩;rw[dH fR hw];simp only[Lv,if_false];exact⟨fun _ _=>trivial,hK _ _ ⟨m,.refl _ _ _,r,fR.put .no o.dst⟩⟩
 grind
theorem wV(hN:ck P){md:FuncId->Nat}{call:aF}(h0:bA P call){cfg:Cfg}{ops:Array Oper}:∀ (q:List Oper) {fr fr':List V}{h h':Heap},q.all mr=true->cm P md call cfg ops q fr h=some (fr',h') ->
  HS cfg h h'/\∀ m w a,Rel m h w->FR m h w fr a->∀ (Q:Exit->Act->World->Prop),(∀ a' w',After m h w fr' h' a' w'->Q .normal a' w')->wpListIn (Fence.wide.inRound l) n P ops Q q a w
 | [],fr,fr',h,h',_,hx=>by
  simp only[cm,K7,Lj]at hx;obtain⟨rfl,rfl⟩:=hx;exact⟨.refl _ _,fun m w a r fR Q hQ=>hQ a w ⟨m,.refl _ _ _,r,fR⟩⟩
 | o::q,fr,fr',h,h',hd,hx=>by
  simp only[Nv,Ld]at hd;simp only[cm]at hx;split at hx
  ·rename_i fr1 h1 h2;obtain⟨h6,h3⟩:=Ev (l:=l) (n:=n) hN h0 hd.1 h2;obtain⟨h7,h4⟩:=wV hN h0 q hd.2 hx;refine⟨h6.trans h7,fun m w a r fR Q hQ=>?_⟩;simp only[wpListIn];exact h3 m w a r fR _ Q fun a' w' ⟨m',e,r',f'⟩=>h4 m' w' a' r' f' Q fun a2 w2 k=>hQ a2 w2 (k.trans e)
  grind
theorem jU(hN:ck P){md:FuncId->Nat}{call:aF}(h0:bA P call){draw:jq}{cfg:Cfg}{k:Nat}:∀ (c:Code) (fr:List V) (h:Heap) (s:St),dC c=true ->
  code P md call draw cfg k c fr h=some s->HS cfg h s.2.2/\∀ m w a,Rel m h w->FR m h w fr a->∀ (Q:Exit->Act->World->Prop),(∀ a' w',After m h w s.2.1 s.2.2 a' w'->Q (jw s.1) a' w')->c.wpIn (Fence.wide.inRound l) n P Q a w:=by
 intro c
 induction c with
 | skip =>
  intro fr h s _ hx;simp only[code,K7]at hx;subst hx;exact⟨.refl _ _,fun m w a r fR Q hQ=>wpIn_skip (hQ a w ⟨m,.refl _ _ _,r,fR⟩)⟩
 | exit id =>
  intro fr h s _ hx;simp only[code,K7]at hx;subst hx;exact⟨.refl _ _,fun m w a r fR Q hQ=>wpIn_exit (hQ a w ⟨m,.refl _ _ _,r,fR⟩)⟩
 | region id ops dr =>
  intro fr h s hb hx;simp only[dC,Ld,Mq]at hb;obtain⟨rfl,hd⟩:=hb;simp only[code]at hx;split at hx
  ·rename_i fr' h' hr;cases hx;obtain⟨hs,hw⟩:=wV (l:=l) (n:=n) hN h0 _ hd hr;exact⟨hs,fun m w a r fR Q hQ=>wpIn_region_list (hw m w a r fR Q hQ)⟩
  grind
 | seq x y ihx ihy =>
  intro fr h s hb hx;simp only[dC,Ld]at hb;simp only[code]at hx;split at hx
  ·rename_i fr1 h1 h2;obtain⟨h4,h6⟩:=ihx _ _ _ hb.1 h2;obtain⟨h7,h8⟩:=ihy _ _ _ hb.2 hx;refine⟨h4.trans h7,fun m w a r fR Q hQ=>wpIn_seq (h6 m w a r fR _ fun a' w' ⟨m',e,r',f'⟩=>h8 m' w' a' r' f' Q fun a2 w2 k=>hQ a2 w2 (k.trans e))⟩
  ·rename_i hne;obtain⟨h4,h6⟩:=ihx _ _ _ hb.1 hx;refine⟨h4,fun m w a r fR Q hQ=>wpIn_seq (h6 m w a r fR _ fun a' w' k=>?_)⟩;have:=hQ a' w' k;revert this;obtain⟨e1,f1,h1⟩:=s;cases e1 with
   | normal=>simp_all
   | exit id=>exact fun x=>x
   | ret=>exact fun x=>x
 | cond c x y ihx ihy =>
  intro fr h s hb hx;simp only[dC,Ld]at hb;simp only[code]at hx;split at hx
  ·rename_i hc;obtain⟨hs,hw⟩:=ihx _ _ _ hb.1 hx;refine⟨hs,fun m w a r fR Q hQ=>?_⟩;have h3:=cq fR hc;generalize h9:a.eval c=ce at h3;cases h3
   grind[wpIn_cond_true]
  ·rename_i hc;obtain⟨hs,hw⟩:=ihy _ _ _ hb.2 hx;refine⟨hs,fun m w a r fR Q hQ=>?_⟩;have h3:=cq fR hc;generalize h9:a.eval c=ce at h3;cases h3
   grind[wpIn_cond_false]
  grind
 | block id b ih =>
  intro fr h s hb hx;simp only[dC]at hb;simp only[code]at hx;split at hx
  ·rename_i i fr1 h1 h2;cases hx;obtain⟨hs,hw⟩:=ih _ _ _ hb h2;refine⟨hs,fun m w a r fR Q hQ=>wpIn_block (hw m w a r fR _ fun a' w' k=>?_)⟩;have:=hQ a' w' k;simp only[jw,Exit.inBlock];by_cases hi:i=id
   ·simp_all[if_pos,jw]
   simp_all[if_neg,jw]
  ·rename_i hne;obtain⟨hs,hw⟩:=ih _ _ _ hb hx;refine⟨hs,fun m w a r fR Q hQ=>wpIn_block (hw m w a r fR _ fun a' w' k=>?_)⟩;have:=hQ a' w' k;revert this;obtain⟨e1,f1,h1⟩:=s;cases e1 with
   | normal=>exact fun x=>x
   | exit id=>simp_all
   | ret=>exact fun x=>x
 | _=>intro fr h s hb;simp[dC]at hb
end
end Go.Ab
namespace Go.Ab
open Go.RowKit (Below)
abbrev rK:=List V->Heap->Option Heap
def uY(ys:List Nat):Option Tmp->List Nat
 | none=>ys
 | some d=>ys.filter fun s=>s != d
def Ew(P:Program)(md:FuncId->Nat)(call:aF)(cfg:Cfg)(hook:rK)(ops:Array Oper)(ys:List Nat)(o:Oper)(fr:List V)(h:Heap):Option (List V×Heap×List Nat):=
 if o.dst=some 0 then none
 else match (match o.op with
  | .call { callee:=.value (.tmp s),args,argTypes:=_ }=>if ys.contains s then some (s,some args) else none
  | .move (.tmp s)=>if ys.contains s then some (s,none) else none
  | _=>none) with
 | some (_,some args)=>match cy ops fr o with
  | some true=>match cH fr args.toList with
   | some vs=>match hook vs h with
    | some h'=>some (put fr o.dst (.bool true),h',uY ys o.dst)
    | none=>none
   | none=>none
  | _=>none
 | some (_,none)=>match o.guard,o.dst with
  | none,some d=>if d<fr.length then some (put fr o.dst .any,h,d::ys) else none
  | _,_=>none
 | none=>match cZ P md call cfg ops o fr h with
  | some (fr',h')=>some (fr',h',uY ys o.dst)
  | none=>none
def Eg(P:Program)(md:FuncId->Nat)(call:aF)(cfg:Cfg)(hook:rK)(ops:Array Oper):List Nat->List Oper->List V->Heap->Option (List V×Heap)
 | _,[],fr,h=>some (fr,h)
 | ys,o::r,fr,h=>match Ew P md call cfg hook ops ys o fr h with
  | some (fr',h',ys')=>Eg P md call cfg hook ops ys' r fr' h'
  | none=>none
def ey(P:Program)(md:FuncId->Nat)(call:aF)(cfg:Cfg)(hook:rK)(n:Nat):Code->List V->Heap->Option St
 | .skip,fr,h=>some (.normal,fr,h)
 | .region _ ops false,fr,h=>match Eg P md call cfg hook ops [0] ops.toList fr h with
  | some (fr',h')=>some (.normal,fr',h')
  | none=>none
 | .seq a b,fr,h=>match ey P md call cfg hook n a fr h with
  | some (.normal,fr',h')=>ey P md call cfg hook n b fr' h'
  | r=>r
 | .cond c t e,fr,h=>match ev fr c with
  | some (.bool true)=>ey P md call cfg hook n t fr h
  | some (.bool false)=>ey P md call cfg hook n e fr h
  | _=>none
 | .block id b,fr,h=>match ey P md call cfg hook n b fr h with
  | some (.exit i,fr',h')=>some (if i=id then .normal else .exit i,fr',h')
  | r=>r
 | .loop b,fr,h=>iter (ey P md call cfg hook n b) n fr h
 | .exit id,fr,h=>some (.exit id,fr,h)
 | .ret,fr,h=>some (.ret,fr,h)
 | _,_,_=>none
def tn(fr:List V):List Tmp->List V->List V
 | t::ts,v::vs=>tn (fr.set t v) ts vs
 | _,_=>fr
def nH(P:Program)(md:FuncId->Nat)(call:aF)(draw:jq)(cfg:Cfg)(n:Nat)(ps:Array Tmp)(assign body:Code)(fr:List V):rK:=fun vs h =>
 if vs.length=ps.size then match code P md call draw cfg n assign (tn fr ps.toList vs) h with
  | some (.normal,fr2,h2)=>match code P md call draw cfg n body fr2 h2 with
   | some (.normal,_,h3)=>some h3
   | _=>none
  | _=>none
 else none
def js(P:Program)(md:FuncId->Nat)(call:aF)(draw:jq)(cfg:Cfg)(n:Nat):Code->List V->Heap->Option St
 | .seq a b,fr,h=>match js P md call draw cfg n a fr h with
  | some (.normal,fr',h')=>js P md call draw cfg n b fr' h'
  | r=>r
 | .cond c t e,fr,h=>match ev fr c with
  | some (.bool true)=>js P md call draw cfg n t fr h
  | some (.bool false)=>js P md call draw cfg n e fr h
  | _=>none
 | .block id b,fr,h=>match js P md call draw cfg n b fr h with
  | some (.exit i,fr',h')=>some (if i=id then .normal else .exit i,fr',h')
  | r=>r
 | .rangeFunc g ps assign body,fr,h=>match ev fr g with
  | some (.func (.func gf) [] caps)=>match P.funcs[gf]? with
   | some fn=>match fn.body with
    | some c=>if dC assign&&dC body&&fn.results.isEmpty then
      match ey P md call cfg (nH P md call draw cfg n ps assign body fr) n c ((.any::caps)++List.replicate (fn.ntmps-(caps.length+1)) .no) h with
      | some (.exit _,_,_)=>none
      | some (_,_,h')=>some (.normal,fr,h')
      | none=>none
     else none
    | none=>none
   | none=>none
  | _=>none
 | c,fr,h=>code P md call draw cfg n c fr h
section
variable [Base]
variable {P:Program}
theorem opW{o:Oper}{a:Act}{w:World}{K:Act->World->Prop}{Q:Exit->Act->World->Prop}(h:o.wp P a w K Q):o.wpIn Fence.wide 0 P a w K Q:=by
 refine⟨fun _ _=>trivial,?_⟩;rw[show Fence.wide.round=none from rfl,Oper.semAt_none];unfold Oper.wp at h;revert h;generalize (execOp a.eval o).run P w=r;intro h;cases r with
 | ok x w' =>
  cases x with
  | value v=>exact h
  | skip=>exact h
  | defer d=>exact h
  | enter f args=>exact⟨fun he=>by grind[Fence.wide],callsIn_wide.2 h⟩
  | row row args=>exact⟨fun he=>by grind[Fence.wide],fun c cs _=>let ⟨v,w',r,s⟩:=h c cs;⟨v,w',r,stepsIn_wide.2 s⟩⟩
  | _=>exact h.elim
 | halt x w' =>
  cases x with
  | panic v=>exact h
  | _=>exact h.elim
structure YAs(l:Nat)(ys:List Nat)(a:Act):Prop where
 y:∀ s∈ys,a.tmps[s]?=some (.func (.yield l) #[] #[])
 d:a.defers=[]
abbrev YAct(l:Nat)(a:Act):Prop:=YAs l [0] a
theorem YAs.put{l:Nat}{ys:List Nat}{a:Act}(h:YAs l ys a)(d:Option Tmp)(v:Value):YAs l (uY ys d) (a.put d v):=by
 cases d with
 | none=>exact h
 | some d =>
  refine⟨fun s hs=>?_,h.d⟩;simp only[uY,Ow,bne_iff_ne]at hs;simp only[Act.put];rw[Ms (fun e=>hs.2 e.symm)];exact h.y s hs.1
theorem YAs.zero{l:Nat}{ys:List Nat}{a:Act}(h:YAs l ys a)(h0:0∈ys):YAct l a:=⟨fun s hs=>by rw[LN.1 hs];exact h.y 0 h0,h.d⟩
theorem wb{ys:List Nat}{d:Option Tmp}(h:0∈ys)(hd:¬ d=some 0):0∈uY ys d:=by
 cases d with
 | none=>exact h
 | some d=>exact Ow.2 ⟨h,by grind⟩
def JEvo(J:Mu->Heap->World->Prop):Prop:=∀ m h w m' h' w',Rel m h w->J m h w->Evo m h w m' h' w'->J m' h' w'
def pE(P:Program)(l:Nat)(J:Mu->Heap->World->Prop)(hook:rK):Prop:=∀ vs h h',hook vs h=some h'->∀ m w us,Rel m h w->J m h w->PW m h w vs us ->
 YieldAt Fence.wide 0 P l us w fun e w'=>e=.returned (.bool true)/\∃ m',Evo m h w m' h' w'/\Rel m' h' w'/\J m' h' w'
def AfterY(J:Mu->Heap->World->Prop)(l:Nat)(m:Mu)(h:Heap)(w:World)(fr':List V)(h':Heap)(a':Act)(w':World):Prop:=
 ∃ m',Evo m h w m' h' w'/\Rel m' h' w'/\FR m' h' w' fr' a'/\J m' h' w'/\YAct l a'
theorem AfterY.trans{J:Mu->Heap->World->Prop}{l:Nat}{m m1:Mu}{h h1 h2:Heap}{w w1 w2:World}{fr2:List V}{a2:Act}(e:Evo m h w m1 h1 w1)(k:AfterY J l m1 h1 w1 fr2 h2 a2 w2):AfterY J l m h w fr2 h2 a2 w2:=
 let ⟨m',e',r',f',j',y'⟩:=k
 ⟨m',e.trans e',r',f',j',y'⟩
def Fe(J:Mu->Heap->World->Prop)(l:Nat)(ys:List Nat)(m:Mu)(h:Heap)(w:World)(fr':List V)(h':Heap)(a':Act)(w':World):Prop:=
 ∃ m',Evo m h w m' h' w'/\Rel m' h' w'/\FR m' h' w' fr' a'/\J m' h' w'/\YAs l ys a'
theorem Ey(hN:ck P){md:FuncId->Nat}{call:aF}(h7:bA P call){cfg:Cfg}{h3:rK}(hf:∀ vs h h',h3 vs h=some h'->HS cfg h h'){ops:Array Oper}{ys ys':List Nat}{fr fr':List V}{h h':Heap}{o:Oper}(h0:0∈ys)(hx:Ew P md call cfg h3 ops ys o fr h=some (fr',h',ys')):
  0∈ys'/\HS cfg h h'/\∀ l J,JEvo J->pE P l J h3->∀ m w a,Rel m h w->FR m h w fr a->J m h w->YAs l ys a->∀ (K:Act->World->Prop) (Q:Exit->Act->World->Prop),(∀ a' w',Fe J l ys' m h w fr' h' a' w'->K a' w') ->
   if Region.wanted o (yielded ops a.tmps) then o.wpIn Fence.wide 0 P a w K Q else (∀ f,o.about P w a.eval=some f->Fence.wide.fn f)/\K (a.put o.dst undef) w:=by
 unfold Ew at hx;split at hx
 ·cases hx
 rename_i hd;split at hx
 ·rename_i s args hm;have h9:∃ tys,o.op=.call { callee:=.value (.tmp s),args:=args,argTypes:=tys }/\s∈ys:=by
   grind
  clear hm;obtain⟨tys,h9,hs⟩:=h9;split at hx
  ·rename_i hw;split at hx
   ·rename_i vs hj;split at hx
    ·rename_i h2 hh;simp only[K7,Lj]at hx;obtain⟨rfl,rfl,rfl⟩:=hx;refine⟨wb h0 hd,hf _ _ _ hh,fun l J hJ hK m w a r fR j y K Q hQ=>?_⟩;rw[dH fR hw];simp only[if_true];obtain⟨hl,hr⟩:=fH fR hj;obtain⟨fn,tmps,assign,body,hy,hR⟩:=hK _ _ _ hh m w (args.map a.eval) r j ⟨by simp_all,fun i c v hc hv=>hr i c v hc (by simp_all)⟩;refine⟨fun _ _=>trivial,?_⟩;rw[show Fence.wide.round=none from rfl,Oper.semAt_none];have he:a.eval (.tmp s)=.func (.yield l) #[] #[]:=by simp only[Act.eval,L4,y.y s hs,MF]
     have h4:(execOp a.eval o).run P w=.ok (.round l fn tmps assign body) w:=by
      grind[execOp,Sem.run_bind,resolve,Deferred.ofValue,Sem.run_pure,Result.andThen_ok,invoke]
     rw[h4,Oper.uponIn_round];refine⟨fun he=>by grind[Fence.wide],hR.mono ?_⟩;rintro e w' ⟨rfl,m',e',r',j'⟩;exact hQ _ _ ⟨m',e',r',(fR.evo r e').put (.bool true) o.dst,j',y.put _ _⟩
    grind
   grind
  grind
 ·rename_i s hm;have h9:o.op=.move (.tmp s)/\s∈ys:=by
   grind
  clear hm;split at hx
  ·rename_i d hg h8;split at hx
   ·rename_i hn;simp only[K7,Lj]at hx;obtain⟨rfl,rfl,rfl⟩:=hx;refine⟨Lc _ h0,.refl _ _,fun l J hJ hK m w a r fR j y K Q hQ=>?_⟩;have ht:Region.wanted o (yielded ops a.tmps)=true:=by simp[Region.wanted,hg]
    rw[ht];simp only[if_true];refine⟨fun _ _=>trivial,?_⟩;rw[show Fence.wide.round=none from rfl,Oper.semAt_none];have h4:(execOp a.eval o).run P w=.ok (.value (a.eval (.tmp s))) w:=by grind[execOp,Sem.run_pure]
    have he:a.eval (.tmp s)=.func (.yield l) #[] #[]:=by simp only[Act.eval,L4,y.y s h9.2,MF]
    rw[h4,Oper.uponIn_value];refine hQ _ _ ⟨m,.refl _ _ _,r,fR.put (.any _) o.dst,j,⟨fun q hq=>?_,by rw[h8];exact y.d⟩⟩;rw[h8];simp only[Act.put];by_cases ha:d=q
    ·subst ha;rw[Array.getElem?_setIfInBounds_self_of_lt (by rw[<- fR.len];exact hn),he]
    ·rw[Ms ha];exact y.y q ((Lt.1 hq).resolve_left fun e=>ha e.symm)
   grind
  grind
 ·split at hx
  ·rename_i fr2 h2 h6;simp only[K7,Lj]at hx;obtain⟨rfl,rfl,rfl⟩:=hx;refine⟨wb h0 hd,?_⟩;unfold cZ at h6;split at h6
   ·rename_i hw;split at h6
    ·rename_i v h2 hv;simp only[K7,Lj]at h6;obtain⟨rfl,rfl⟩:=h6;obtain⟨hu,hs⟩:=eG hN h7 hv;refine⟨hs,fun l J hJ hK m w a r fR j y K Q hQ=>?_⟩;rw[dH fR hw];simp only[if_true];exact opW (hu m w a r fR K Q fun u w' ⟨m',e,r',hz⟩=>hQ _ _ ⟨m',e,r',(fR.evo r e).put hz o.dst,hJ _ _ _ _ _ _ r j e,y.put _ _⟩)
    grind
   ·rename_i hw;simp only[K7,Lj]at h6;obtain⟨rfl,rfl⟩:=h6;refine⟨.refl _ _,fun l J hJ hK m w a r fR j y K Q hQ=>?_⟩;rw[dH fR hw];simp only[Lv,if_false];exact⟨fun _ _=>trivial,hQ _ _ ⟨m,.refl _ _ _,r,fR.put .no o.dst,j,y.put _ _⟩⟩
   grind
  grind
theorem Aq(hN:ck P){md:FuncId->Nat}{call:aF}(h3:bA P call){cfg:Cfg}{h4:rK}(h8:∀ vs h h',h4 vs h=some h'->HS cfg h h'){ops:Array Oper}:∀ (q:List Oper) (ys:List Nat) {fr fr':List V}{h h':Heap},0∈ys->Eg P md call cfg h4 ops ys q fr h=some (fr',h') ->
  HS cfg h h'/\∀ l J,JEvo J->pE P l J h4->∀ m w a,Rel m h w->FR m h w fr a->J m h w->YAs l ys a->∀ (Q:Exit->Act->World->Prop),(∀ a' w',AfterY J l m h w fr' h' a' w'->Q .normal a' w')->wpListIn Fence.wide 0 P ops Q q a w
 | [],ys,fr,fr',h,h',h0,hx=>by
  simp only[Eg,K7,Lj]at hx;obtain⟨rfl,rfl⟩:=hx;exact⟨.refl _ _,fun l J hJ hK m w a r fR j y Q hQ=>hQ a w ⟨m,.refl _ _ _,r,fR,j,y.zero h0⟩⟩
 | o::q,ys,fr,fr',h,h',h0,hx=>by
  simp only[Eg]at hx;split at hx
  ·rename_i fr1 h1 ys1 h2;obtain⟨h9,ha,h6⟩:=Ey hN h3 h8 h0 h2;obtain⟨hc,h7⟩:=Aq hN h3 h8 q ys1 h9 hx;refine⟨ha.trans hc,fun l J hJ hK m w a r fR j y Q hQ=>?_⟩;simp only[wpListIn];exact h6 l J hJ hK m w a r fR j y _ Q fun a' w' ⟨m',e,r',f',j',y'⟩=>h7 l J hJ hK m' w' a' r' f' j' y' Q fun a2 w2 k=>hQ a2 w2 (k.trans e)
  grind
def GoY(P:Program)(cfg:Cfg)(hook:rK)(c:Code)(fr:List V)(h:Heap)(s:St):Prop:=HS cfg h s.2.2 /\
 ∀ l J,JEvo J->pE P l J hook->∀ m w a,Rel m h w->FR m h w fr a->J m h w->YAct l a->∀ (Q:Exit->Act->World->Prop),(∀ a' w',AfterY J l m h w s.2.1 s.2.2 a' w'->Q (jw s.1) a' w')->c.wpIn Fence.wide 0 P Q a w
theorem vR{cfg:Cfg}{h0:rK}{c:Code}{body:List V->Heap->Option St}(hb:∀ fr h s,body fr h=some s->GoY P cfg h0 c fr h s):∀ (n:Nat) (fr:List V) (h:Heap) (s:St),iter body n fr h=some s ->
  HS cfg h s.2.2/\∀ l J,JEvo J->pE P l J h0->∀ m w a,Rel m h w->FR m h w fr a->J m h w->YAct l a->∀ (Q:Exit->Act->World->Prop),(∀ a' w',AfterY J l m h w s.2.1 s.2.2 a' w'->Q (jw s.1) a' w')->Code.roundsIn Fence.wide 0 P c Q n a w
 | 0,fr,h,s,hi=>by grind[iter]
 | n+1,fr,h,s,hi=>by
  simp only[iter]at hi;split at hi
  ·rename_i fr1 h1 h6;obtain⟨h3,h4⟩:=hb _ _ _ h6;obtain⟨h7,h8⟩:=vR hb n fr1 h1 s hi;refine⟨h3.trans h7,fun l J hJ hK m w a r fR j y Q hQ=>?_⟩;rw[roundsIn_succ];exact h4 l J hJ hK m w a r fR j y _ fun a' w' ⟨m',e,r',f',j',y'⟩=>h8 l J hJ hK m' w' a' r' f' j' y' Q fun a2 w2 k=>hQ a2 w2 (k.trans e)
  ·rename_i hne;obtain⟨h3,h4⟩:=hb _ _ _ hi;have hn:s.1≠.normal:=by
    intro e;obtain⟨e1,f1,h1⟩:=s;simp_all
   refine⟨h3,fun l J hJ hK m w a r fR j y Q hQ=>?_⟩;rw[roundsIn_succ];refine h4 l J hJ hK m w a r fR j y _ fun a' w' k=>?_;have:=hQ a' w' k;revert this;cases hs:s.1 with
   | normal=>simp_all
   | exit id=>exact fun x=>x
   | ret=>exact fun x=>x
theorem CL(hN:ck P){md:FuncId->Nat}{call:aF}(h3:bA P call){cfg:Cfg}{h0:rK}(h8:∀ vs h h',h0 vs h=some h'->HS cfg h h'){n:Nat}:∀ (c:Code) (fr:List V) (h:Heap) (s:St),
  ey P md call cfg h0 n c fr h=some s->GoY P cfg h0 c fr h s:=by
 intro c
 induction c with
 | skip =>
  intro fr h s hx;simp only[ey,K7]at hx;subst hx;exact⟨.refl _ _,fun l J hJ hK m w a r fR j y Q hQ=>wpIn_skip (hQ a w ⟨m,.refl _ _ _,r,fR,j,y⟩)⟩
 | exit id =>
  intro fr h s hx;simp only[ey,K7]at hx;subst hx;exact⟨.refl _ _,fun l J hJ hK m w a r fR j y Q hQ=>wpIn_exit (hQ a w ⟨m,.refl _ _ _,r,fR,j,y⟩)⟩
 | ret =>
  intro fr h s hx;simp only[ey,K7]at hx;subst hx;exact⟨.refl _ _,fun l J hJ hK m w a r fR j y Q hQ=>wpIn_ret (hQ a w ⟨m,.refl _ _ _,r,fR,j,y⟩)⟩
 | region id ops dr =>
  intro fr h s hx;cases dr with
  | false =>
   simp only[ey]at hx;split at hx
   ·rename_i fr' h' hr;cases hx;obtain⟨hs,hw⟩:=Aq hN h3 h8 _ _ Ll hr;exact⟨hs,fun l J hJ hK m w a r fR j y Q hQ=>wpIn_region_list (hw l J hJ hK m w a r fR j y Q hQ)⟩
   grind
  | true=>grind[ey]
 | seq x y ihx ihy =>
  intro fr h s hx;simp only[ey]at hx;split at hx
  ·rename_i fr1 h1 h2;obtain⟨h6,h7⟩:=ihx _ _ _ h2;obtain⟨h9,ha⟩:=ihy _ _ _ hx;exact⟨h6.trans h9,fun l J hJ hK m w a r fR j y Q hQ=>wpIn_seq (h7 l J hJ hK m w a r fR j y _ fun a' w' ⟨m',e,r',f',j',y'⟩=>ha l J hJ hK m' w' a' r' f' j' y' Q fun a2 w2 k=>hQ a2 w2 (k.trans e))⟩
  ·rename_i hne;obtain⟨h6,h7⟩:=ihx _ _ _ hx;refine⟨h6,fun l J hJ hK m w a r fR j y Q hQ=>wpIn_seq (h7 l J hJ hK m w a r fR j y _ fun a' w' k=>?_)⟩;have:=hQ a' w' k;revert this;obtain⟨e1,f1,h1⟩:=s;cases e1 with
   | normal=>simp_all
   | exit id=>exact fun x=>x
   | ret=>exact fun x=>x
 | cond c x y ihx ihy =>
  intro fr h s hx;simp only[ey]at hx;split at hx
  ·rename_i hc;obtain⟨hs,hw⟩:=ihx _ _ _ hx;refine⟨hs,fun l J hJ hK m w a r fR j y Q hQ=>?_⟩;have h4:=cq fR hc;generalize hd:a.eval c=ce at h4;cases h4
   grind[wpIn_cond_true]
  ·rename_i hc;obtain⟨hs,hw⟩:=ihy _ _ _ hx;refine⟨hs,fun l J hJ hK m w a r fR j y Q hQ=>?_⟩;have h4:=cq fR hc;generalize hd:a.eval c=ce at h4;cases h4
   grind[wpIn_cond_false]
  grind
 | block id b ih =>
  intro fr h s hx;simp only[ey]at hx;split at hx
  ·rename_i i fr1 h1 h2;cases hx;obtain⟨hs,hw⟩:=ih _ _ _ h2;refine⟨hs,fun l J hJ hK m w a r fR j y Q hQ=>wpIn_block (hw l J hJ hK m w a r fR j y _ fun a' w' k=>?_)⟩;have:=hQ a' w' k;simp only[jw,Exit.inBlock];by_cases hi:i=id
   ·simp_all[if_pos,jw]
   simp_all[if_neg,jw]
  ·rename_i hne;obtain⟨hs,hw⟩:=ih _ _ _ hx;refine⟨hs,fun l J hJ hK m w a r fR j y Q hQ=>wpIn_block (hw l J hJ hK m w a r fR j y _ fun a' w' k=>?_)⟩;have:=hQ a' w' k;revert this;obtain⟨e1,f1,h1⟩:=s;cases e1 with
   | normal=>exact fun x=>x
   | exit id=>simp_all
   | ret=>exact fun x=>x
 | loop b ih =>
  intro fr h s hx;simp only[ey]at hx;obtain⟨hs,hw⟩:=vR (c:=b) (fun fr h s hb=>ih fr h s hb) n fr h s hx;exact⟨hs,fun l J hJ hK m w a r fR j y Q hQ=>wpIn_loop_rounds n (hw l J hJ hK m w a r fR j y Q hQ)⟩
 | _=>intro fr h s hx;simp[ey]at hx
theorem Rel.alien{m:Mu}{h:Heap}{w:World}(r:Rel m h w){b:Nat}{o:Obj}(hb:w.heap[b]?=some o)(h1:o.isCells=false)(h2:o.isWalk=false):∀ x,live h x->m x≠some b:=by
 rintro x ⟨cs,hx⟩ hm;rcases r.blk x cs b hx hm with⟨arr,T,e,_⟩|⟨_,_,_,_,_,_,e,_⟩|⟨_,_,_,_,e,_⟩<;>rw[hb]at e<;>cases e<;>simp_all[Obj.isCells,Obj.isWalk]
theorem Evo.alien{m m':Mu}{h h':Heap}{w w':World}(r:Rel m h w)(e:Evo m h w m' h' w'){b:Nat}{o:Obj}(hb:w.heap[b]?=some o)(h1:o.isCells=false)(h2:o.isWalk=false):w'.heap[b]?=some o:=
 (e.frame b (Lo.1 hb).1 (r.alien hb h1 h2)).trans hb
section
variable {w:World}{l:Nat}{o o':Obj}(hl:w.heap[l]?=some o) (h1:o.isCells=false) (h1':o'.isCells=false)
include hl h1 h1'
theorem ig(b:Nat):rsz (w.putObj l o') b=rsz w b:=by
 grind[rsz,World.putObj_heap_same,Array.getElem?_eq_some_iff,Obj.isCells,World.putObj_heap_other]
theorem AY(p:Addr):(w.putObj l o').cell? p=w.cell? p:=by
 grind[World.cell?,World.putObj_heap_same,Array.getElem?_eq_some_iff,Obj.isCells,World.putObj_heap_other]
omit [Base] in
theorem xA{m:Mu}{h:Heap}{x:V}{v:Value}(r:R m h w x v):R m h (w.putObj l o') x v:=r.same (by simp) (ig hl h1 h1') (AY hl h1 h1')
omit [Base] in
theorem pG{m:Mu}{h:Heap}(r:Rel m h w)(h2:o.isWalk=false):Rel m h (w.putObj l o'):=by
 refine⟨r.zo,fun b hb=>by rw[World.putObj_size];exact r.zl b hb,r.inj,fun x cs b hx hm=>(r.blk x cs b hx hm).carry (World.putObj_heap_other fun e=>?_) fun _ _ _=>xA hl h1 h1'⟩;subst e;exact r.alien hl h1 h2 x ⟨cs,hx⟩ hm
end
theorem wX{m:Mu}{h:Heap}{w:World}:∀ (ts:List Tmp) (vs:List V) (us:List Value) (fr:List V) (tm:Array Value) (ds:List Deferred),vs.length=us.length->FR m h w fr { tmps:=tm,defers:=ds } ->
  (∀ (i:Nat) (c:V) (v:Value),vs[i]?=some c->us[i]?=some v->R m h w c v)->FR m h w (tn fr ts vs) { tmps:=(ts.zip us).foldl (fun t (p,v)=>t.setIfInBounds p v) tm,defers:=ds }
 | [],_,_,fr,tm,ds,_,hf,_=>by simp_all[tn]
 | t::ts,[],[],fr,tm,ds,_,hf,_=>by simp_all[tn]
 | t::ts,v::vs,u::us,fr,tm,ds,hl,hf,hr=>by
  have h0:=hf.put (hr 0 v u rfl rfl) (some t);exact wX ts vs us (fr.set t v) (tm.setIfInBounds t u) ds (by simp_all) h0 fun i c x hc hx=>hr (i+1) c x (by simp_all) (by simp_all)
def tg(fn:FuncId)(tm:Array Value)(ps:Array Tmp)(assign body:Code)(D:Nat)(st:LoopState):Obj:=
 .loop { state:=st,pending:=none,fn:=fn,tmps:=tm,params:=ps,assign:=assign,body:=body,defers:=D }
theorem BS(hN:ck P){md:FuncId->Nat}{call:aF}(h7:bA P call){draw:jq}{cfg:Cfg}{n:Nat}{ps:Array Tmp}{assign body:Code}(ha:dC assign=true)(hb:dC body=true){fr:List V}{l fn D:Nat}{a:Act}:
  pE P l (fun m h w=>FR m h w fr a/\w.heap[l]?=some (tg fn a.tmps ps assign body D .ready)/\w.heap[D]?=some (.deferred (some []))) (nH P md call draw cfg n ps assign body fr):=by
 intro vs h h' hx m w us r ⟨fR,hl,hD⟩ hp;unfold nH at hx;split at hx
 ·rename_i h8;split at hx
  ·rename_i fr2 h2 ht;split at hx
   ·rename_i fr3 h3 hu;cases hx;refine⟨fn,_,assign,body,run_yield hl (by rw[hp.1];exact h8),roundIn_of_wpIn trivial ?_⟩;have hf:FR m h w (tn fr ps.toList vs) { tmps:=(ps.zip us).foldl (fun t (p,v)=>t.setIfInBounds p v) a.tmps,defers:=[] }:=by
     have:=wX ps.toList vs us.toList fr a.tmps [] (by simpa using hp.1.symm) ⟨fR.len,fR.slot,Mks.nil fR.defers.1⟩ (fun i c v hc hv=>hp.2 i c v hc (by simp_all))
     grind[Array.toList_zip]
    refine (jU (l:=l) (n:=0) hN h7 _ _ _ _ ha ht).2 m w _ r hf _ ?_;rintro a1 w1 ⟨m1,e1,r1,f1⟩;have h4:=e1.alien r hl rfl rfl;have hg:=e1.alien r hD rfl rfl;refine⟨_,run_beginRound h4 rfl,?_⟩;have hw:l<w1.heap.size:=(Lo.1 h4).1;have hr:D≠l:=fun e=>by rw[e,h4]at hg;cases hg
    generalize hh:tg fn a.tmps ps assign body D .busy=ob;have hj:Obj.loop { ({ state:=.ready,pending:=none,fn:=fn,tmps:=a.tmps,params:=ps,assign:=assign,body:=body,defers:=D }:Loop) with state:=.busy }=ob:=hh;have hd:ob.isCells=false:=by rw[<- hh];rfl
    have hy:ob.isWalk=false:=by rw[<- hh];rfl
    rw[hj];have rb:=pG h4 rfl hd r1 rfl;have fb:FR m1 h2 (w1.putObj l ob) fr2 a1:=⟨f1.len,fun i x v hx hv=>xA h4 rfl hd (f1.slot i x v hx hv),by
     obtain⟨h0,Ds,g1,g2,g3⟩:=f1.defers;refine⟨by simp_all,Ds,g1,g2,fun E hE=>⟨(g3 E hE).1,?_⟩⟩;rw[World.putObj_heap_other fun e=>?_]
     ·simp_all
     ·have:=(g3 E hE).2;rw[e,h4]at this;cases this⟩
    refine (jU (l:=l) (n:=0) hN h7 _ _ _ _ hb hu).2 m1 _ _ rb fb _ ?_;rintro a3 w3 ⟨m3,e3,r3,f3⟩;have hz:(w1.putObj l ob).heap[l]?=some ob:=World.putObj_heap_same hw;have hA:(w1.putObj l ob).heap[D]?=some (.deferred (some [])):=(World.putObj_heap_other hr).trans hg;have hF:=e3.alien rb hz hd hy;have hH:=e3.alien rb hA rfl rfl;have h6:w3.heap[l]?=some (.loop { state:=.busy,pending:=none,fn:=fn,tmps:=a.tmps,params:=ps,assign:=assign,body:=body,defers:=D }):=by simp_all
    have he:l<w3.heap.size:=(Lo.1 hF).1;refine⟨_,_,run_endRound none h6,rfl,m3,e1.trans ?_,?_,?_⟩
    ·have h8:(w1.putObj l ob).heap.size=w1.heap.size:=World.putObj_size;refine⟨e3.zeq,e3.len,e3.keep,fun x b hx hm=>by rw[<- h8];exact e3.own x b hx hm,fun b hn hq=>?_,?_,fun b hn=>?_,e3.os,e3.tape,e3.output⟩
     ·by_cases h9:b=l
      ·subst h9;rw[h4];exact World.putObj_heap_same he
      ·rw[World.putObj_heap_other h9,e3.frame b (by omega) hq,World.putObj_heap_other h9]
     ·rw[World.putObj_size,<- h8];exact e3.size
     ·rw[ig h6 rfl rfl,<- ig h4 rfl hd];exact e3.rs b (by omega)
    ·exact pG h6 rfl rfl r3 rfl
    ·have e13:Evo m h w m3 h' (w3.putObj l (tg fn a.tmps ps assign body D .ready)):=by
      refine e1.trans ?_;have h8:(w1.putObj l ob).heap.size=w1.heap.size:=World.putObj_size;refine⟨e3.zeq,e3.len,e3.keep,fun x b hx hm=>by rw[<- h8];exact e3.own x b hx hm,fun b hn hq=>?_,?_,fun b hn=>?_,e3.os,e3.tape,e3.output⟩
      ·by_cases h9:b=l
       ·grind[World.putObj_heap_same]
       ·rw[World.putObj_heap_other h9,e3.frame b (by omega) hq,World.putObj_heap_other h9]
      ·rw[World.putObj_size,<- h8];exact e3.size
      ·rw[ig h6 rfl rfl,<- ig h4 rfl hd];exact e3.rs b (by omega)
     exact⟨fR.evo r e13,World.putObj_heap_same he,(World.putObj_heap_other hr).trans hH⟩
   grind
  grind
 grind
theorem BQ(hN:ck P){md:FuncId->Nat}{call:aF}(h0:bA P call){draw:jq}{cfg:Cfg}{n:Nat}{ps:Array Tmp}{assign body:Code}(ha:dC assign=true)(hb:dC body=true){fr:List V}(vs:List V)(h h':Heap)
  (hx:nH P md call draw cfg n ps assign body fr vs h=some h'):HS cfg h h':=by
 unfold nH at hx;split at hx
 ·split at hx
  ·rename_i h3;split at hx
   ·rename_i h4;cases hx;exact (jU (l:=0) (n:=0) hN h0 _ _ _ _ ha h3).1.trans (jU (l:=0) (n:=0) hN h0 _ _ _ _ hb h4).1
   grind
  grind
 grind
theorem sx{m:Mu}{h:Heap}{w w':World}(hb:Below w.heap.size w w'):Evo m h w m h w' where
 zeq:=rfl
 len:=La _
 keep:=fun _ _ hl=>⟨hl,rfl⟩
 own:=fun y c hl hc=>.inl ⟨y,hl,hc⟩
 frame:=fun b h0 _=>hb.block b h0
 size:=hb.size
 rs:=fun c hc=>by rw[cF (hb.block c hc)];omega
 os:=hb.os
 tape:=hb.tape
 output:=hb.output
theorem BN{m:Mu}{h:Heap}{w w':World}(r:Rel m h w)(hb:Below w.heap.size w w'):Rel m h w':=
 ⟨r.zo,fun c hc=>Lu (r.zl c hc) hb.size,r.inj,fun y cs c hy hc=>(r.blk y cs c hy hc).carry (hb.block c (r.lt y c ⟨cs,hy⟩ hc)) fun _ _ _ h0=>h0.evo (sx hb) r.lt⟩
theorem CK(hN:ck P){md:FuncId->Nat}{call:aF}(h3:bA P call){draw:jq}(h7:tv P draw){cfg:Cfg}{n:Nat}:∀ (c:Code) (fr:List V) (h:Heap) (s:St),
  js P md call draw cfg n c fr h=some s->pC P cfg c fr h s:=by
 intro c
 induction c with
 | seq x y ihx ihy =>
  intro fr h s hx;simp only[js]at hx;split at hx
  ·rename_i fr1 h1 h2;obtain⟨hd,hf⟩:=ihx _ _ _ h2;obtain⟨hF,hH⟩:=ihy _ _ _ hx;refine⟨hd.trans hF,fun m w a r fR Q hQ=>wp_seq (hf m w a r fR _ fun a' w' ⟨m',e,r',f'⟩=>hH m' w' a' r' f' Q fun a2 w2 k=>hQ a2 w2 (k.trans e))⟩
  ·rename_i hne;obtain⟨hd,hf⟩:=ihx _ _ _ hx;refine⟨hd,fun m w a r fR Q hQ=>wp_seq (hf m w a r fR _ fun a' w' k=>?_)⟩;have:=hQ a' w' k;revert this;obtain⟨e1,f1,h1⟩:=s;cases e1 with
   | normal=>simp_all
   | exit id=>exact fun x=>x
   | ret=>exact fun x=>x
 | cond c x y ihx ihy =>
  intro fr h s hx;simp only[js]at hx;split at hx
  ·rename_i hc;obtain⟨hs,hw⟩:=ihx _ _ _ hx;refine⟨hs,fun m w a r fR Q hQ=>?_⟩;have h8:=cq fR hc;generalize hI:a.eval c=ce at h8;cases h8
   grind[wp_cond_true]
  ·rename_i hc;obtain⟨hs,hw⟩:=ihy _ _ _ hx;refine⟨hs,fun m w a r fR Q hQ=>?_⟩;have h8:=cq fR hc;generalize hI:a.eval c=ce at h8;cases h8
   grind[wp_cond_false]
  grind
 | block id b ih =>
  intro fr h s hx;simp only[js]at hx;split at hx
  ·rename_i i fr1 h1 h2;cases hx;obtain⟨hs,hw⟩:=ih _ _ _ h2;refine⟨hs,fun m w a r fR Q hQ=>wp_block (hw m w a r fR _ fun a' w' k=>?_)⟩;have:=hQ a' w' k;simp only[jw,Exit.inBlock];by_cases hi:i=id
   ·simp_all[if_pos,jw]
   simp_all[if_neg,jw]
  ·rename_i hne;obtain⟨hs,hw⟩:=ih _ _ _ hx;refine⟨hs,fun m w a r fR Q hQ=>wp_block (hw m w a r fR _ fun a' w' k=>?_)⟩;have:=hQ a' w' k;revert this;obtain⟨e1,f1,h1⟩:=s;cases e1 with
   | normal=>exact fun x=>x
   | exit id=>simp_all
   | ret=>exact fun x=>x
 | rangeFunc g ps assign body _ _ =>
  intro fr h s hx;simp only[js]at hx;split at hx
  ·rename_i gf caps hg;split at hx
   ·rename_i fn hh;split at hx
    ·rename_i c h4;split at hx
     ·rename_i ht;simp only[Ld,Array.isEmpty_iff]at ht;obtain⟨⟨ha,hb⟩,hj⟩:=ht;have key:∀ e fr' h',ey P md call cfg (nH P md call draw cfg n ps assign body fr) n c ((.any::caps)++List.replicate (fn.ntmps-(caps.length+1)) .no) h=some (e,fr',h')->(∀ id,e≠.exit id) ->
        pC P cfg (.rangeFunc g ps assign body) fr h (.normal,fr,h'):=by
       intro e fr' h' hy hne;obtain⟨hs,hw⟩:=CL hN h3 (BQ hN h3 ha hb) _ _ _ _ hy;refine⟨hs,fun m w a r fR Q hQ=>wpIn_wide.1 (wpIn_rangeFunc (n:=0) fun fn' _=>?_)⟩;have hu:=cq fR hg;generalize hT:a.eval g=ge at hu;obtain⟨W1,hn⟩:∃ W1,(w.alloc (.deferred (some []))).alloc (tg fn' a.tmps ps assign body w.heap.size .ready)=W1:=⟨_,rfl⟩;cases hu with
       | func hX hY hz hJ =>
        rename_i fs cs;have hK:fs=#[]:=L5 (by omega);subst hK;have hL:W1.heap[w.heap.size+1]?=some (tg fn' a.tmps ps assign body w.heap.size .ready):=by
         grind[World.alloc_heap_new,tg,World.size_alloc]
        have hM:W1.heap[w.heap.size]?=some (.deferred (some [])):=by
         grind[Below.heap_alloc,trans,World.alloc_heap_new]
        have hA:Below w.heap.size w W1:=by
         rw[<- hn];exact ((Below.refl _ w).alloc (La _) _).alloc (by simp) _
        have hO:W1.heap.size=w.heap.size+2:=by rw[<- hn];simp
        refine⟨w.heap.size+1,[{ target:=.collected w.heap.size,args:=#[] }],W1,{ target:=.fn (.func gf) cs,args:=#[.func (.yield (w.heap.size+1)) #[] #[]] },W1,gf,
         #[.func (.yield (w.heap.size+1)) #[] #[]]++cs,W1,?_,?_,fun _ _=>trivial,?_,fun he=>by grind[Fence.wide],?_⟩
        ·rw[<- hn];exact run_enterLoop_outer _ _ _ _ _
        ·simp_all[resolve,Deferred.ofValue,Act.eval]
        ·simp only[invoke,callFunc,run_program,hh,hN gf fn hh,h4,Sem.run_bind,Result.andThen_ok,Option.isNone_some,Lv,if_false,Sem.run_pure]
        ·have e1:=sx (m:=m) (h:=h) hA;have r1:=BN r hA;refine callsIn_of_wp hh h4 trivial (hw (w.heap.size+1) _ ?_ (BS hN h3 ha hb) m W1 _ r1 ?_ ⟨fR.evo r e1,hL,hM⟩ ⟨fun s hs=>by grind,rfl⟩ _ ?_) rfl
         ·rintro m w2 h2 m' w2' h2' r2 ⟨f2,hq,hP⟩ e2;exact⟨f2.evo r2 e2,e2.alien r2 hq rfl rfl,e2.alien r2 hP rfl rfl⟩
         ·refine⟨by grind,fun i x v h6 hv=>?_,Mks.nil (L9 fR.defers.1 (by omega))⟩;rcases i with _|i
          ·simp only[LM,MT,K7]at h6;subst h6;exact .any v
          ·by_cases hi:i<caps.length
           ·rw[LM,LG,K8 hi]at h6;rw[Mh (by simp[hz];omega),MY (by simp)]at hv;exact (hJ i x v h6 (by simp_all)).evo e1 r.lt
           ·rw[LM,LG,Lg (by omega)]at h6;rw[MY (by simp[hz];omega)]at hv;simp only[NB,MQ]at h6 hv;split at h6
            ·split at hv
             ·cases h6;cases hv;exact .no
             grind
            grind
         ·rintro a' w' ⟨m',e',r',f',⟨fR',h9,hZ⟩,y'⟩;have fin:∃ v,(results fn a'.tmps).run P w'=.ok v w'/\rangePost Fence.wide 0 P (w.heap.size+1) Q { a with defers:=[{ target:=.collected w.heap.size,args:=#[] }]++a.defers } (.returned v) w':=by
           refine⟨_,results_none hj _ _ _,none,_,run_endLoop h9 (by simp),?_⟩;refine hQ _ _ ⟨m',?_,pG h9 rfl rfl r' rfl,fR'.len,fun i x v hx hv=>xA h9 rfl rfl (fR'.slot i x v hx hv),?_⟩
           ·have e2:=e1.trans e';refine⟨e2.zeq,e2.len,e2.keep,e2.own,fun b hr hR=>?_,by grind[World.putObj_size],fun b hr=>by rw[ig h9 rfl rfl];exact e2.rs b hr,e2.os,e2.tape,e2.output⟩;rw[World.putObj_heap_other (by omega)];exact e2.frame b hr hR
           ·obtain⟨h0,Ds,g1,g2,g3⟩:=fR.defers;obtain⟨g0,_⟩:=fR'.defers;have hS:∀ E∈Ds,E<w.heap.size:=fun E hE=>(Lo.1 (g3 E hE).2).1;refine⟨by simp_all,w.heap.size::Ds,List.nodup_cons.2 ⟨fun hm=>Nat.lt_irrefl _ (hS _ hm),g1⟩,by rw[g2];rfl,fun E hE=>?_⟩;rcases Lt.1 hE with rfl|hD
            ·grind[World.putObj_heap_other,trans]
            ·refine⟨(g3 E hD).1,(World.putObj_heap_other (by grind)).trans ?_⟩;exact (e1.trans e').alien r (g3 E hD).2 rfl rfl
          cases e with
          | normal=>exact⟨y'.d,fin⟩
          | exit id=>simp_all
          | ret=>exact⟨y'.d,fin⟩
      grind
     grind
    grind
   grind
  grind
 | _=>intro fr h s hx;exact zt hN h3 h7 _ _ _ _ hx
end
def yF(P:Program)(md:FuncId->Nat)(prim:FuncId->Option Prim)(n d:Nat)(f:FuncId):Prim:=fun cfg args h=>match P.funcs[f]? with
 | none=>none
 | some fn=>match fn.body with
  | none=>none
  | some c=>match js P md (aH P md prim n d) (ez P md (aH P md prim n d)) cfg n c (args++List.replicate (fn.ntmps-args.length) .no) h with
   | some (.exit _,_,_)=>none
   | some (_,fr,h')=>match gH P fr h' fn.results.toList with
    | some vs=>some (oneOf vs,h')
    | none=>none
   | none=>none
theorem BP{P:Program}{md:FuncId->Nat}{prim:FuncId->Option Prim}{n d:Nat}{f:FuncId}(hm:P.follows .mixedOrders=true)(hN:ck P)(hp:∀ f p,prim f=some p->bw P f p):bw P f (yF P md prim n d f):=by
 intro cfg args h r h' hx;unfold yF at hx;split at hx
 ·cases hx
 ·rename_i fn hf;split at hx
  ·cases hx
  ·rename_i c hb;split at hx
   ·cases hx
   ·rename_i e fr h2 hne hc;split at hx
    ·rename_i xs h3;simp only[K7,Lj]at hx;obtain⟨rfl,rfl⟩:=hx;have h0:=dx (md:=md) (n:=n) hm hN hp d;exact qy hf hb hne (fun b=>CK hN h0 (uX hm hN h0) _ _ _ _ hc) h3
    grind
   grind
end Go.Ab
namespace Go.Ab
def ed(base:Prim):Prim:=fun cfg args h=>match args with
 | [.lst []]=>some (.lst [],h)
 | _=>base cfg args h
theorem gZ{x:Nat}(hl:live [none] x):False:=by
 obtain⟨cs,hc⟩:=hl
 grind
theorem fM{P:Program}{f:FuncId}{base:Prim}(hb:bw P f base)(h1:base ⟨0,[],0⟩ [.nils] []=some (.nils,[])){b2 k:Nat}{h2':Heap}(h2:base ⟨0,[],0⟩ [.sl 0 0 0 0 k] [none]=some (.sl b2 0 0 0 k,h2')):bw P f (ed base):=by
 intro cfg args h r h' hx;unfold ed at hx;split at hx
 ·simp only[K7,Lj]at hx;obtain⟨rfl,rfl⟩:=hx;obtain⟨_,h4,h6⟩:=hb _ _ _ _ _ h1;obtain⟨_,_,h7⟩:=hb _ _ _ _ _ h2;refine⟨.refl _ _,h4,fun m w vs hr hp=>?_⟩;have hl:vs.size=1:=hp.1;obtain⟨v,rfl⟩:∃ v,vs=#[v]:=by
   obtain⟨l⟩:=vs
   match l,hl with
   | [v],_=>simp
  have hv:=hp.2 0 (.lst []) v rfl rfl;have h3:∃ a rc,v=.slice a 0 rc/\(a=none->rc=0):=by
   generalize hg:([]:List (List V))=l at hv;cases hv with
   | lst0 a rc ha=>grind
   | lst rv hi h8 hk hc hf h9=>grind
  obtain⟨a,rc,rfl,ha⟩:=h3;cases a with
  | none =>
   have h0:=ha rfl;subst h0;refine (h6 m w _ (th hr) ⟨rfl,fun i c u hc hu=>?_⟩).mono ?_
   ·rcases i with _|i
    ·simp at hc hu;subst hc hu;exact .nils
    simp_all
   ·rintro e w' ⟨u,he,m',ev,r',hu⟩;obtain⟨ev',rl'⟩:=iJ hr ev;cases hu;exact⟨_,he,m,ev',rl',.lst0 _ _ (fun _=>rfl)⟩
  | some a =>
   refine (h7 m w _ ⟨fun _ _ h _=>(gZ h).elim,hr.zl,fun _ _ _ h=>(gZ h).elim,fun x cs _ h _=>(gZ ⟨cs,h⟩).elim⟩ ⟨rfl,fun i c u hc hu=>?_⟩).mono ?_
   ·rcases i with _|i
    ·simp at hc hu;subst hc hu;exact .sl (by simp) (LA _) (LA _) (fun h=>(gZ h).elim)
    simp_all
   ·rintro e w' ⟨u,he,m',ev,r',hu⟩;have ev0:Evo m [] w m' h2' w':=⟨ev.zeq,LA _,fun x hx _=>absurd hx (by simp),fun x b hl hb=>by
     rcases ev.own x b hl hb with⟨y,hy,_⟩|hd<;>grind[gZ],fun b hb _=>ev.frame b hb fun x hl=>(gZ hl).elim,ev.size,ev.rs,ev.os,ev.tape,ev.output⟩
    obtain⟨ev',rl'⟩:=iJ hr ev0;cases hu;exact⟨_,he,m,ev',rl',.lst0 _ _ (fun h=>by cases h)⟩
 ·exact hb _ _ _ _ _ hx
theorem sr{base:Prim}{cfg:Cfg}{xs:List (List V)}{h:Heap}(hx:xs≠[]):ed base cfg [.lst xs] h=base cfg [.lst xs] h:=by
 grind[ed,absurd]
end Go.Ab
namespace Go.Ab
def wH(b:FuncId->Option Prim)(l:List (FuncId×Tbl))(f:FuncId):Option Prim:=match ra l f with
 | some p=>some p
 | none=>b f
variable {P:Program}
theorem qZ{b:FuncId->Option Prim}(hb:∀ f p,b f=some p->bw P f p){l:List (FuncId×Tbl)}(hl:∀ f t,(f,t)∈l->bw P f (kS t)):∀ f p,wH b l f=some p->bw P f p:=by
 grind[wH,te]
theorem Gj{f:FuncId}{t:Tbl}{q:Prim}(hq:bw P f q)(ht:∀ k r,(k,r)∈t->q k.cfg k.args k.h=some r):bw P f (kS t):=by
 intro cfg args h r h' hx;exact hq _ _ _ _ _ (ht _ _ (qm t cfg args h _ hx))
theorem BV{q:Prim}:∀ (k:Key) (r:V×Heap),(k,r)∈([]:Tbl)->q k.cfg k.args k.h=some r:=fun _ _ h=>by simp at h
theorem yH{q:Prim}{k:Key}{r:V×Heap}{t:Tbl}(hr:q k.cfg k.args k.h=some r)(ht:∀ k r,(k,r)∈t->q k.cfg k.args k.h=some r):∀ k' r',(k',r')∈(k,r)::t->q k'.cfg k'.args k'.h=some r':=by
 grind
end Go.Ab
