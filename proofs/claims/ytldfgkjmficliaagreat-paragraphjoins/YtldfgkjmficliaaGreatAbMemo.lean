/- Several texts of this proof in one. -/
import Derived.Test.YtldfgkjmficliaaGreatPiSq
import Derived.Test.YtldfgkjmficliaaGreatPiSpec4
import Derived.Test.YtldfgkjmficliaaGreatPiLev0
import Derived.Test.YtldfgkjmficliaaGreatAbW2
set_option linter.unusedSimpArgs false
set_option linter.unusedVariables false
namespace Go.Ab.Bi
theorem jy:∀ (r:List Int) (d d' q:Nat),aW r d=some q→aW r (d+d'+1)=(aW (r.drop (q+1)) d').map (·+(q+1))
 | [],_,_,_,h=>by simp[aW]at h
 | x::r,d,d',q,h=>by
  by_cases hx:ini x=true
  ·rw[jz hx]at h ⊢
   obtain⟨k,hk,rfl⟩:=Option.map_eq_some_iff.1 h
   rw[show d+d'+1+1=(d+1)+d'+1 by omega,jy r (d+1) d' k hk,List.drop_succ_cons,Option.map_map]
   congr 1
  ·have hx':ini x=false:=by simpa using hx
   by_cases h2:x=22
   ·subst h2
    cases d with
    | zero =>
     rw[my]at h
     cases h
     rw[Nat.zero_add,gO]
     rfl
    | succ d =>
     rw[gO]at h
     obtain⟨k,hk,rfl⟩:=Option.map_eq_some_iff.1 h
     rw[show d+1+d'+1=(d+d'+1)+1 by omega,gO,jy r d d' k hk,List.drop_succ_cons,Option.map_map]
     congr 1
   ·rw[mv hx' h2]at h ⊢
    obtain⟨k,hk,rfl⟩:=Option.map_eq_some_iff.1 h
    rw[jy r d d' k hk,List.drop_succ_cons,Option.map_map]
    congr 1
theorem pO:∀ (u:Nat) (r:List Int) (d a:Nat),aW r d=some a→u≤a→∃ D,(aW (r.drop u) D).map (·+u)=some a
 | 0,r,d,a,h,_=>⟨d,by simpa using h⟩
 | u+1,[],d,a,h,_=>by simp[aW]at h
 | u+1,x::r,d,a,h,hu=>by
  have key:∀ D,(aW r D).map (·+1)=some a→∃ D,(aW ((x::r).drop (u+1)) D).map (·+(u+1))=some a:=by
   intro D hD
   obtain⟨k,hk,rfl⟩:=Option.map_eq_some_iff.1 hD
   obtain⟨D',hD'⟩:=pO u r D k hk (by omega)
   obtain⟨j,hj,hjk⟩:=Option.map_eq_some_iff.1 hD'
   exact⟨D',by rw[List.drop_succ_cons,hj];simp;omega⟩
  by_cases hx:ini x=true
  ·rw[jz hx]at h
   exact key _ h
  ·have hx':ini x=false:=by simpa using hx
   by_cases h2:x=22
   ·subst h2
    cases d with
    | zero=>rw[my]at h;cases h;omega
    | succ d=>rw[gO]at h;exact key _ h
   ·rw[mv hx' h2]at h
    exact key _ h
theorem Cv{c:List Int}{z z':Nat}(hlt:z<z'){m:Nat}(h1:mt c z=m)(h2:mt c z'=m){x:Int}(hx:c[z']?=some x)(hi:ini x=true):False:=by
 unfold mt at h1 h2
 cases ha:aW (c.drop (z+1)) 0 with
 | none=>rw[ha]at h1;simp only at h1;omega
 | some a =>
  cases hb:aW (c.drop (z'+1)) 0 with
  | none=>rw[hb]at h2;simp only at h2;omega
  | some b =>
   rw[ha]at h1
   rw[hb]at h2
   simp only at h1 h2
   obtain⟨u,rfl⟩:∃ u,z'=z+1+u:=⟨z'-(z+1),by omega⟩
   obtain⟨D,hD⟩:=pO u _ 0 a ha (by omega)
   obtain⟨hl,rfl⟩:=List.getElem?_eq_some_iff.1 hx
   rw[List.drop_drop,List.drop_eq_getElem_cons hl,jz hi]at hD
   have:=jy (c.drop (z+1+u+1)) 0 D b hb
   rw[show 0+D+1=D+1 by omega]at this
   rw[this]at hD
   cases hc:aW (List.drop (b+1) (List.drop (z+1+u+1) c)) D with
   | none=>rw[hc]at hD;simp at hD
   | some q=>rw[hc]at hD;simp at hD;omega
theorem Ey{o M:List Int}{rs:List (List Int)}(hM:MOK o M)(hp:rs.flatten.Pairwise (·<·))(hn:∀ x∈rs.flatten,0≤x∧x<o.length){j j':Nat}(hj:j<rs.length)(hj':j'<rs.length)(h:fol o M rs j=fol o M rs j')(h0:0≤fol o M rs j):j=j':=by
 have key:∀ j,j<rs.length→0≤fol o M rs j→∃ z:Int,z∈rs.getD j []∧0≤z∧z<o.length∧ini (o.getD z.toNat 0)=true∧∃ m:Nat,mt o z.toNat=m∧∃ k r,fol o M rs j=(k:Nat)∧rs[k]?=some r∧r.head?=some (m:Int):=by
  intro j hj h0
  unfold fol at h0 ⊢
  have hd:rs.getD j []=rs[j]:=by rw[List.getD_eq_getElem?_getD,List.getElem?_eq_getElem hj];rfl
  rw[hd]at h0 ⊢
  cases hz:rs[j].getLast? with
  | none=>rw[hz]at h0;simp at h0
  | some z =>
   rw[hz]at h0
   simp only at h0 ⊢
   have hzm:z∈rs[j]:=List.mem_of_getLast? hz
   have hzf:z∈rs.flatten:=List.mem_flatten.2 ⟨_,List.getElem_mem hj,hzm⟩
   have hzr:=hn z hzf
   split at h0
   ·rename_i hc
    rw[if_pos hc]
    rw[Bool.and_eq_true,decide_eq_true_eq]at hc
    have ho:o[z.toNat]?=some (o.getD z.toNat 0):=by rw[List.getD_eq_getElem?_getD,List.getElem?_eq_getElem (by omega)];rfl
    have hm:=hM.at_ z.toNat _ ho hc.1
    have hmg:M.getD z.toNat 0=mt o z.toNat:=by rw[List.getD_eq_getElem?_getD,hm];rfl
    rw[hmg]at hc h0 ⊢
    obtain⟨m,hm2⟩:∃ m:Nat,mt o z.toNat=m:=⟨(mt o z.toNat).toNat,by omega⟩
    cases hb:bgn rs (mt o z.toNat) with
    | none=>rw[hb]at h0;simp at h0
    | some k =>
     obtain⟨r,h3,h4⟩:=oI hb
     exact⟨z,hzm,hzr.1,hzr.2,hc.1,m,hm2,k,r,rfl,h3,by rw[h4,hm2]⟩
   ·omega
 obtain⟨z,hz1,hz2,hz3,hz4,m,hz5,k,r,hz6,hz7,hz8⟩:=key j hj h0
 obtain⟨z',hy1,hy2,hy3,hy4,m',hy5,k',r',hy6,hy7,hy8⟩:=key j' hj' (h ▸ h0)
 have hk:k=k':=by omega
 subst hk
 rw[hz7]at hy7
 cases hy7
 rw[hz8]at hy8
 have hmm:m=m':=by simpa using hy8
 subst hmm
 have ho:∀ z:Int,0≤z→z<o.length→o[z.toNat]?=some (o.getD z.toNat 0):=fun z _ _=>by rw[List.getD_eq_getElem?_getD,List.getElem?_eq_getElem (by omega)];rfl
 have hzz:z=z':=by
  rcases Int.lt_trichotomy z z' with h1|h1|h1
  ·exact (Cv (by omega:z.toNat<z'.toNat) hz5 hy5 (ho z' hy2 hy3) hy4).elim
  ·exact h1
  ·exact (Cv (by omega:z'.toNat<z.toNat) hy5 hz5 (ho z hz2 hz3) hz4).elim
 subst hzz
 have hd:∀ j (hj:j<rs.length),rs.getD j []=rs[j]:=fun j hj=>by rw[List.getD_eq_getElem?_getD,List.getElem?_eq_getElem hj];rfl
 rw[hd j hj]at hz1
 rw[hd j' hj']at hy1
 obtain⟨p1,p2⟩:=List.pairwise_flatten.1 hp
 rcases Nat.lt_trichotomy j j' with h1|h1|h1
 ·have:=List.pairwise_iff_getElem.1 p2 j j' hj hj' h1 z hz1 z hy1;omega
 ·exact h1
 ·have:=List.pairwise_iff_getElem.1 p2 j' j hj' hj h1 z hy1 z hz1;omega
def chI(F:Nat→Int):Nat→Int→List Nat
 | 0,_=>[]
 | f+1,j=>if 0≤j then j.toNat::chI F f (F j.toNat) else []
theorem sw(F:Nat→Int)(rs:List (List Int)):∀ (f:Nat) (j:Int) (x:Int),x∈chn F rs f j→∃ k∈chI F f j,x∈rs.getD k []
 | 0,_,x,h=>by simp[chn]at h
 | f+1,j,x,h=>by
  unfold chn at h
  unfold chI
  split at h
  ·rename_i hj
   rw[if_pos hj]
   rcases List.mem_append.1 h with h|h
   ·exact⟨_,List.mem_cons_self ..,h⟩
   ·obtain⟨k,h1,h2⟩:=sw F rs f _ x h
    exact⟨k,List.mem_cons_of_mem _ h1,h2⟩
  ·simp at h
theorem kW(F:Nat→Int):∀ (f:Nat) (j:Int) (k:Nat),k∈chI F f j→(k:Int)=j∨∃ q∈chI F f j,F q=(k:Int)
 | 0,_,k,h=>by simp[chI]at h
 | f+1,j,k,h=>by
  unfold chI at h ⊢
  split at h
  ·rename_i hj
   rw[if_pos hj]
   rcases List.mem_cons.1 h with h|h
   ·left;omega
   ·right
    rcases kW F f _ k h with h1|⟨q,h1,h2⟩
    ·exact⟨j.toNat,List.mem_cons_self ..,h1.symm⟩
    ·exact⟨q,List.mem_cons_of_mem _ h1,h2⟩
  ·simp at h
theorem ko{F:Nat→Int}{N:Nat}(hF:∀ j,j<N→F j<0∨((j:Int)<F j∧F j<N)):∀ (f:Nat) (j:Int),j<N→∀ k∈chI F f j,k<N
 | 0,_,_,k,h=>by simp[chI]at h
 | f+1,j,hj,k,h=>by
  unfold chI at h
  split at h
  ·rcases List.mem_cons.1 h with h|h
   ·omega
   ·refine ko hF f _ ?_ k h
    have:=hF j.toNat (by omega)
    omega
  ·simp at h
theorem xY{F:Nat→Int}{N:Nat}(hF:∀ j,j<N→F j<0∨((j:Int)<F j∧F j<N))(hI:∀ j j',j<N→j'<N→F j=F j'→0≤F j→j=j'){a b f:Nat}(ha:a<N)(hb:b<N)(hca:con F N a=false)(hcb:con F N b=false):
  ∀ (n k:Nat),k≤n→k∈chI F f a→k∈chI F f b→a=b
 | n,k,hkn,h1,h2=>by
  have hno:∀ c,c<N→con F N c=false→∀ q,q<N→F q≠(c:Int):=by
   intro c hc hcc q hq e
   have:con F N c=true:=by
    unfold con
    rw[List.any_eq_true]
    exact⟨q,by simpa using hq,by simpa using e⟩
   rw[hcc]at this
   cases this
  rcases kW F f a k h1 with e1|⟨q1,hq1,e1⟩
  ·rcases kW F f b k h2 with e2|⟨q2,hq2,e2⟩
   ·omega
   ·exact (hno a ha hca q2 (ko hF f b (by omega) q2 hq2) (by omega)).elim
  ·rcases kW F f b k h2 with e2|⟨q2,hq2,e2⟩
   ·exact (hno b hb hcb q1 (ko hF f a (by omega) q1 hq1) (by omega)).elim
   ·have l1:=ko hF f a (by omega) q1 hq1
    have l2:=ko hF f b (by omega) q2 hq2
    have hq:q1=q2:=hI q1 q2 l1 l2 (by omega) (by omega)
    subst hq
    have hlt:=hF q1 l1
    have hqk:q1<k:=by omega
    cases n with
    | zero=>omega
    | succ n=>exact xY hF hI ha hb hca hcb n q1 (by omega) hq1 hq2
end Go.Ab.Bi
namespace Go.Ab.Bi
end Go.Ab.Bi
namespace Go.Ab
open Go.Proofs
namespace Bi
theorem uG{lev:Int}:∀ {u s:List Int}{k:Nat}{a x:Int},u[k]?=some a→s[k]?=some x→(iQ lev u s)[k]?=some (a+iR lev x)
 | [],_,_,_,_,h,_=>by simp at h
 | _::_,[],_,_,_,_,h=>by simp at h
 | b::u,y::s,0,a,x,h1,h2=>by simp at h1 h2;simp[iQ,h1,h2]
 | b::u,y::s,k+1,a,x,h1,h2=>by
  simp only[iQ,List.getElem?_cons_succ]at h1 h2 ⊢
  exact uG h1 h2
end Bi
end Go.Ab
namespace Go.Ab
open Go.Proofs
namespace Bi
theorem vN{o M:List Int}{rs:List (List Int)}{lv kept:List Int}{e:Int}(hM:MOK o M)(hp:rs.flatten.Pairwise (·<·))(hn:∀ x∈rs.flatten,0≤x∧x<o.length):
  ∀ k,k≤rs.length→(iK o (fol o M rs) rs lv kept e k).Pairwise fun a b=>∀ i∈a.l,i ∉ b.l
 | 0,_=>by simp[iK]
 | k+1,hk=>by
  have ih:=vN (lv:=lv) (kept:=kept) (e:=e) hM hp hn k (by omega)
  unfold iK
  cases hc:con (fol o M rs) rs.length k
  ·simp only[Bool.false_eq_true,if_false]
   refine List.pairwise_append.2 ⟨ih,by simp,?_⟩
   intro a ha b hb i hi1 hi2
   simp at hb
   subst hb
   obtain⟨j,h1,h2,rfl⟩:=lU ha
   obtain⟨q,hq1,hq2⟩:=sw _ _ _ _ _ hi1
   obtain⟨q',hr1,hr2⟩:=sw _ _ _ _ _ hi2
   have hF:=fun j hj=>wN hM hp hn j hj
   have l1:=ko hF _ _ (by omega) q hq1
   have l2:=ko hF _ _ (by omega) q' hr1
   have hd:∀ j (hj:j<rs.length),rs.getD j []=rs[j]:=fun j hj=>by rw[List.getD_eq_getElem?_getD,List.getElem?_eq_getElem hj];rfl
   rw[hd q l1]at hq2
   rw[hd q' l2]at hr2
   obtain⟨p1,p2⟩:=List.pairwise_flatten.1 hp
   have hqq:q=q':=by
    rcases Nat.lt_trichotomy q q' with h3|h3|h3
    ·have:=List.pairwise_iff_getElem.1 p2 q q' l1 l2 h3 i hq2 i hr2;omega
    ·exact h3
    ·have:=List.pairwise_iff_getElem.1 p2 q' q l2 l1 h3 i hr2 i hq2;omega
   subst hqq
   have:=xY hF (fun j j' hj hj' h h0=>Ey hM hp hn hj hj' h h0) (by omega:j<rs.length) (by omega:k<rs.length) h2 hc q q (Nat.le_refl _) hq1 hr1
   omega
  ·simp only[if_true]
   exact ih
theorem AN{o M lv:List Int}{n:Nat}{e:Int}(hM:MOK o M)(hon:o.length=n):(ke o M lv n e).Pairwise fun a b=>∀ i∈a.l,i ∉ b.l:=by
 unfold ke
 refine vN hM ?_ ?_ _ (Nat.le_refl _)
 ·rw[gL];exact fF o n
 ·rw[gL]
  intro x hx
  have:=eK o n x hx
  omega
theorem Stp.oth{t o c y c' y':List Int}{s:Sq}(h:Stp t o s c y c' y'){j:Nat}(hj:(j:Int) ∉ s.l):c'[j]?=c[j]?∧y'[j]?=y[j]?:=by
 obtain⟨c1,c2,h1,h2,h3,h4⟩:=h
 exact⟨by rw[h3.oth j hj,h2.oth j hj,h1.oth j hj],h4.oth j hj⟩
theorem Stps.oth{t o:List Int}{j:Nat}:∀ {ss:List Sq}{c y c' y':List Int},Stps t o ss c y c' y'→(∀ s∈ss,(j:Int) ∉ s.l)→c'[j]?=c[j]?∧y'[j]?=y[j]?
 | [],_,_,_,_,⟨rfl,rfl⟩,_=>⟨rfl,rfl⟩
 | s::ss,c,y,c',y',⟨c1,y1,h1,h2⟩,h=>by
  obtain⟨a1,a2⟩:=h1.oth (h s (List.mem_cons_self ..))
  obtain⟨b1,b2⟩:=Stps.oth h2 fun x hx=>h x (List.mem_cons_of_mem _ hx)
  exact⟨b1.trans a1,b2.trans a2⟩
theorem Stp.up{t o c y c' y':List Int}{s:Sq}(h:Stp t o s c y c' y'){n:Nat}(hs:Pl n s.l)(hc:c.length=n)(hy:y.length=n){j:Nat}{a:Int}(ha:y[j]?=some a):∃ b,y'[j]?=some b∧a≤b∧b≤a+2:=by
 by_cases hj:(j:Int)∈s.l
 ·obtain⟨c1,c2,h1,h2,h3,h4⟩:=h
  obtain⟨k,hk⟩:=List.mem_iff_getElem?.1 hj
  have h5:=h4.at_ k _ hk
  rw[Int.toNat_natCast]at h5
  have hc':c'.length=n:=h3.len.trans (h2.len.trans (h1.len.trans hc))
  have hu:(s.l.map (lvl y))[k]?=some a:=by
   rw[List.getElem?_map,hk]
   simp only[Option.map_some,lvl,Int.toNat_natCast,List.getD_eq_getElem?_getD,ha]
   rfl
  have hx:(s.l.map (lvl c'))[k]?=some (lvl c' j):=by rw[List.getElem?_map,hk];rfl
  have hi:=uG (lev:=s.lev) hu hx
  have:=pB s.lev (lvl c' j)
  exact⟨_,h5.trans hi,by omega,by omega⟩
 ·exact⟨a,by rw[(h.oth hj).2];exact ha,by omega,by omega⟩
theorem Stps.up{t o:List Int}{n:Nat}:∀ {ss:List Sq}{c y c' y':List Int},Stps t o ss c y c' y'→(∀ s∈ss,Pl n s.l)→ss.Pairwise (fun a b=>∀ i∈a.l,i ∉ b.l)→c.length=n→y.length=n→∀ {j:Nat}{a:Int},y[j]?=some a→∃ b,y'[j]?=some b∧a≤b∧b≤a+2
 | [],_,_,_,_,⟨rfl,rfl⟩,_,_,_,_,j,a,ha=>⟨a,ha,by omega,by omega⟩
 | s::ss,c,y,c',y',⟨c1,y1,h1,h2⟩,hs,hp,hc,hy,j,a,ha=>by
  obtain⟨p1,p2⟩:=List.pairwise_cons.1 hp
  by_cases hj:(j:Int)∈s.l
  ·obtain⟨b,hb1,hb2⟩:=h1.up (hs s (List.mem_cons_self ..)) hc hy ha
   refine⟨b,?_,hb2⟩
   rw[(Stps.oth h2 fun x hx hjx=>p1 x hx _ hj hjx).2]
   exact hb1
  ·have h3:=(h1.oth hj).2
   obtain⟨l1,l2⟩:=h1.len
   exact Stps.up h2 (fun x hx=>hs x (List.mem_cons_of_mem _ hx)) p2 (l1.trans hc) (l2.trans hy) (by rw[h3];exact ha)
theorem Stps.len{t o:List Int}:∀ {ss:List Sq}{c y c' y':List Int},Stps t o ss c y c' y'→c'.length=c.length∧y'.length=y.length
 | [],_,_,_,_,⟨rfl,rfl⟩=>⟨rfl,rfl⟩
 | s::ss,_,_,_,_,⟨c1,y1,h1,h2⟩=>by
  obtain⟨a1,a2⟩:=h1.len
  obtain⟨b1,b2⟩:=Stps.len h2
  exact⟨b1.trans a1,b2.trans a2⟩
theorem vw{P:Int→Prop}:∀ (o y:List Int) (p:Int),P p→(∀ a∈y,P a)→∀ a∈et p o y,P a
 | [],_,_,_,_,a,ha=>by simp[et]at ha
 | _::_,[],_,_,_,a,ha=>by simp[et]at ha
 | x::o,b::y,p,hp,hy,a,ha=>by
  rw[et]at ha
  have hv:P (if gone x then p else b):=by
   split
   ·exact hp
   ·exact hy b (List.mem_cons_self ..)
  rcases List.mem_cons.1 ha with rfl|ha
  ·exact hv
  ·exact vw o y _ hv (fun c hc=>hy c (List.mem_cons_of_mem _ hc)) a ha
theorem zh{P:Int→Prop}(e:Int)(he:P e):∀ (o y:List Int),(∀ a∈y,P a)→∀ a∈(trl e o y).2,P a
 | [],_,_,a,ha=>by simp[trl]at ha
 | _::_,[],_,a,ha=>by simp[trl]at ha
 | x::o,b::y,hy,a,ha=>by
  rw[trl]at ha
  rcases List.mem_cons.1 ha with rfl|ha
  ·split
   ·exact he
   ·exact hy b (List.mem_cons_self ..)
  ·exact zh e he o y (fun c hc=>hy c (List.mem_cons_of_mem _ hc)) a ha
theorem Ff{t:List Int}{base:Int}{r:List Int}(h:LevR t base r):r.length=t.length∧∀ x∈r,0≤x∧x≤127:=by
 obtain⟨M,c',y',hM,hst,rfl⟩:=h
 have he:0≤dx cD t base∧dx cD t base≤1:=by
  unfold dx
  split
  ·omega
  ·have:=sF (t.map cD).length (t.map cD)
   unfold fs
   omega
 have hol:(t.map cD).length=t.length:=by simp
 generalize t.map cD=o at *
 generalize dx cD t base=e at *
 have hxl:=pc e o
 have hlr:=tZ he o
 have hcl:((gH e o).map (·.2)).length=t.length:=by simp[hxl,hol]
 have hll:((gH e o).map (·.1)).length=t.length:=by simp[hxl,hol]
 obtain⟨l1,l2⟩:=Stps.len hst
 have hoy:o.length=y'.length:=by omega
 have hrl:=dV o y' e hoy
 refine⟨by rw[tq e o _ (by omega)];omega,?_⟩
 refine zh (P:=fun x=>0≤x∧x≤127) e ⟨he.1,by omega⟩ _ _ (vw (P:=fun x=>0≤x∧x≤127) _ _ _ ⟨he.1,by omega⟩ ?_)
 intro x hx
 obtain⟨j,hj⟩:=List.mem_iff_getElem?.1 hx
 have hjl:=(List.getElem?_eq_some_iff.1 hj).1
 obtain⟨a,ha⟩:∃ a,((gH e o).map (·.1))[j]?=some a:=⟨_,List.getElem?_eq_getElem (by omega)⟩
 obtain⟨b,hb1,hb2,hb3⟩:=Stps.up hst (fun s hs=>(vM hM hol hll hlr hs).1) (AN hM hol) hcl hll ha
 rw[hj]at hb1
 cases hb1
 have:=hlr a (List.mem_of_getElem? ha)
 omega
def Adj(l:List Int)(a b:Int):Prop:=∃ u v,l=u++a::b::v
theorem Adj.pre{l:List Int}{a b:Int}(h:Adj l a b)(p:List Int):Adj (p++l) a b:=by
 obtain⟨u,v,rfl⟩:=h
 exact⟨p++u,v,by simp⟩
theorem Db(p:Int→Bool):∀ (l acc:List Int),∃ u v,rr p acc l=u++(acc++v)
 | [],acc=>⟨[],[],by simp[rr]⟩
 | x::l,acc=>by
  cases hx:p x
  ·rw[eZ hx]
   exact⟨[],x::rr p [] l,by simp⟩
  ·have e:rr p acc (x::l)=rr p (x::acc) l:=by simp[rr,hx]
   obtain⟨u,v,h⟩:=Db p l (x::acc)
   rw[e,h]
   exact⟨u++[x],v,by simp⟩
theorem Dc{p:Int→Bool}{a b:Int}(hab:p a=p b)(v:List Int):∀ (u acc:List Int),if p a then Adj (rr p acc (u++a::b::v)) b a else Adj (rr p acc (u++a::b::v)) a b
 | [],acc=>by
  cases ha:p a
  ·have hb:p b=false:=by rw[← hab,ha]
   simp only[Bool.false_eq_true,if_false,List.nil_append]
   rw[eZ ha,eZ hb]
   exact⟨acc,rr p [] v,by simp⟩
  ·have hb:p b=true:=by rw[← hab,ha]
   simp only[if_true,List.nil_append]
   have e:rr p acc (a::b::v)=rr p (b::a::acc) v:=by simp[rr,ha,hb]
   obtain⟨u,w,h⟩:=Db p v (b::a::acc)
   rw[e,h]
   exact⟨u,acc++w,by simp⟩
 | x::u,acc=>by
  have ih:=fun acc=>Dc hab v u acc
  cases hx:p x
  ·rw[List.cons_append,eZ hx]
   have:=ih []
   split<;>rename_i h
   ·rw[if_pos h]at this
    exact (this.pre [x]).pre acc
   ·rw[if_neg h]at this
    exact (this.pre [x]).pre acc
  ·have e:rr p acc (x::(u++a::b::v))=rr p (x::acc) (u++a::b::v):=by simp[rr,hx]
   rw[List.cons_append,e]
   exact ih _
theorem Adj.rr{p:Int→Bool}{l:List Int}{a b:Int}(h:Adj l a b)(hab:p a=p b):if p a then Adj (rr p [] l) b a else Adj (rr p [] l) a b:=by
 obtain⟨u,v,rfl⟩:=h
 exact Dc hab v u []
end Bi
end Go.Ab
namespace Go.Ab
def wW:IntKind→IntKind→Bool
 | .i8,.i8|.i16,.i16|.i32,.i32|.i64,.i64|.u8,.u8|.u16,.u16|.u32,.u32|.u64,.u64=>true
 | _,_=>false
theorem Ai{a b:IntKind}(h:wW a b=true):a=b:=by
 cases a<;>cases b<;>first|rfl|simp[wW]at h
def dP{α:Type}(f:α→α→Bool):List α→List α→Bool
 | [],[]=>true
 | a::x,b::y=>f a b&&dP f x y
 | _,_=>false
theorem cU{α:Type}{f:α→α→Bool}(hf:∀ a b,f a b=true→a=b):∀ x y,dP f x y=true→x=y
 | [],[],_=>rfl
 | [],_::_,h=>by simp[dP]at h
 | _::_,[],h=>by simp[dP]at h
 | a::x,b::y,h=>by
  simp only[dP,Bool.and_eq_true]at h
  rw[hf a b h.1,cU hf x y h.2]
def eqb:Nat→V→V→Bool
 | 0,_,_=>false
 | d+1,x,y=>match x,y with
  | .int k a,.int k' b=>wW k k'&&(a==b)
  | .bool a,.bool b=>a==b
  | .str a,.str b=>dP (fun (p q:UInt8)=>p.toNat==q.toNat) a.data.toList b.data.toList
  | .lst xs,.lst ys=>dP (dP (eqb d)) xs ys
  | .agg xs,.agg ys=>dP (eqb d) xs ys
  | .nils,.nils=>true
  | .nilp,.nilp=>true
  | .no,.no=>true
  | .sl a b c e f,.sl a' b' c' e' f'=>a==a'&&b==b'&&c==c'&&e==e'&&f==f'
  | .ptr a b,.ptr a' b'=>a==a'&&b==b'
  | .tup xs,.tup ys=>dP (eqb d) xs ys
  | .mref a,.mref b=>a==b
  | .mq xs,.mq ys=>dP (dP (eqb d)) xs ys
  | _,_=>false
theorem wE:∀ (d:Nat) (x y:V),eqb d x y=true→x=y
 | 0,x,y,h=>by simp[eqb]at h
 | d+1,x,y,h=>by
  have ih:=wE d
  unfold eqb at h
  split at h
  ·simp only[Bool.and_eq_true,beq_iff_eq]at h
   rw[Ai h.1,h.2]
  ·simp only[beq_iff_eq]at h
   rw[h]
  ·rename_i a b
   have:=cU (fun (p q:UInt8) hpq=>UInt8.toNat_inj.1 (by simpa using hpq)) _ _ h
   obtain⟨⟨l⟩⟩:=a
   obtain⟨⟨m⟩⟩:=b
   simp only at this
   rw[this]
  ·rw[cU (cU ih) _ _ h]
  ·rw[cU ih _ _ h]
  ·rfl
  ·rfl
  ·rfl
  ·simp only[Bool.and_eq_true,beq_iff_eq]at h
   obtain⟨⟨⟨⟨rfl,rfl⟩,rfl⟩,rfl⟩,rfl⟩:=h
   rfl
  ·simp only[Bool.and_eq_true,beq_iff_eq]at h
   obtain⟨rfl,rfl⟩:=h
   rfl
  ·rw[cU ih _ _ h]
  ·simp only[beq_iff_eq]at h
   rw[h]
  ·rw[cU (cU ih) _ _ h]
  ·cases h
def xV:Option (List V)→Option (List V)→Bool
 | none,none=>true
 | some x,some y=>dP (eqb 9) x y
 | _,_=>false
theorem Bk(x y:Option (List V))(h:xV x y=true):x=y:=by
 cases x<;>cases y<;>first|rfl|(simp[xV]at h;done)|(simp only[xV]at h;rw[cU (wE 9) _ _ h])
def Bp(a b:Cfg):Bool:=a.lo==b.lo&&a.thr==b.thr&&dP (fun x y=>Nat.beq x y) a.ex b.ex
theorem Bq(a b:Cfg)(h:Bp a b=true):a=b:=by
 obtain⟨l,e,t⟩:=a
 obtain⟨l',e',t'⟩:=b
 simp only[Bp,Bool.and_eq_true,beq_iff_eq]at h
 obtain⟨⟨rfl,rfl⟩,h⟩:=h
 rw[cU (fun a b h=>Nat.eq_of_beq_eq_true h) _ _ h]
structure Key where
 cfg:Cfg
 args:List V
 h:Heap
abbrev Tbl:=List (Key×V×Heap)
def Gx(k:Key)(cfg:Cfg)(args:List V)(h:Heap):Bool:=Bp k.cfg cfg&&dP (eqb 9) k.args args&&dP xV k.h h
def find:Tbl→Cfg→List V→Heap→Option (V×Heap)
 | [],_,_,_=>none
 | (k,r)::t,cfg,args,h=>if Gx k cfg args h then some r else find t cfg args h
def jd(t:Tbl):Prim:=fun cfg args h=>find t cfg args h
def aZ:List (FuncId×Tbl)→FuncId→Option Prim
 | [],_=>none
 | (g,t)::r,f=>if f==g then some (jd t) else aZ r f
section
variable {P:Program}{md:FuncId→Nat}{prim:FuncId→Option Prim}{n d:Nat}
def bc(P:Program)(md:FuncId→Nat)(prim:FuncId→Option Prim)(n d:Nat)(f:FuncId)(t:Tbl):Prop:=∀ k r,(k,r)∈t→aI P md prim n d k.cfg f k.args k.h=some r
theorem aJ{f:FuncId}:bc P md prim n d f []:=fun _ _ h=>by simp at h
theorem ah{f:FuncId}{k:Key}{r:V×Heap}{t:Tbl}(hr:aI P md prim n d k.cfg f k.args k.h=some r)(ht:bc P md prim n d f t):bc P md prim n d f ((k,r)::t):=by
 intro k' r' hm
 rcases List.mem_cons.1 hm with hm|hm
 ·cases hm;exact hr
 ·exact ht k' r' hm
theorem ug:∀ (t:Tbl) (cfg:Cfg) (args:List V) (h:Heap) (r:V×Heap),find t cfg args h=some r→(⟨cfg,args,h⟩,r)∈t
 | [],_,_,_,_,h=>by simp[find]at h
 | (k,s)::t,cfg,args,h,r,hf=>by
  unfold find at hf
  split at hf
  ·rename_i he
   cases hf
   simp only[Gx,Bool.and_eq_true]at he
   obtain⟨kc,ka,kh⟩:=k
   obtain⟨⟨h1,h2⟩,h3⟩:=he
   rw[← Bq _ _ h1,← cU (wE 9) _ _ h2,← cU Bk _ _ h3]
   exact List.mem_cons_self ..
  ·exact List.mem_cons_of_mem _ (ug t cfg args h r hf)
theorem aU(hm:P.follows .mixedOrders=true)(hN:di P)(hp:∀ f p,prim f=some p→cj P f p){f:FuncId}{t:Tbl}(ht:bc P md prim n d f t):cj P f (jd t):=by
 intro cfg args h r h' hx
 exact dz hm hN hp d _ _ _ _ _ _ (ht _ _ (ug t cfg args h _ hx))
theorem aD{l:List (FuncId×Tbl)}(hl:∀ f t,(f,t)∈l→cj P f (jd t)){f:FuncId}{t:Tbl}(hf:cj P f (jd t)):∀ g u,(g,u)∈(f,t)::l→cj P g (jd u):=by
 intro g u hgu
 rcases List.mem_cons.1 hgu with h|h
 ·cases h;exact hf
 ·exact hl g u h
theorem aB:∀ (l:List (FuncId×Tbl)),(∀ f t,(f,t)∈l→cj P f (jd t))→∀ f p,aZ l f=some p→cj P f p
 | [],_,f,p,h=>by simp[aZ]at h
 | (g,t)::r,hl,f,p,h=>by
  unfold aZ at h
  split at h
  ·rename_i he
   cases h
   rw[eq_of_beq he]
   exact hl g t (List.mem_cons_self ..)
  ·exact aB r (fun f t hft=>hl f t (List.mem_cons_of_mem _ hft)) f p h
end
end Go.Ab
