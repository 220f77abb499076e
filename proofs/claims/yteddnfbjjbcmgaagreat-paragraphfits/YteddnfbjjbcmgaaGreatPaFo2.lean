/- The highest font of a line, in plain words. -/
import Derived.Test.YteddnfbjjbcmgaaGreatPaAl
set_option linter.unusedSimpArgs false
set_option linter.unusedVariables false
namespace Go.Ab
open Go.Proofs
namespace Bi
def cmx(P:Nat→Bool)(f:Int→Int):Nat→Int
 | 0=>0
 | k+1=>if P k=true then max (cmx P f k) (f k) else cmx P f k
theorem Cg{P:Nat→Bool}{f:Int→Int}{M:Int}(hM:0≤M):∀ n,(∀ k,k<n→P k=true→f k≤M)→cmx P f n≤M
 | 0,_=>hM
 | n+1,h=>by
  have ih:=Cg (P:=P) (f:=f) hM n fun k hk=>h k (by omega)
  rw[cmx]
  split
  ·have:=h n (by omega) (by assumption)
   omega
  ·exact ih
theorem xS{P:Nat→Bool}{f:Int→Int}:∀ n k,k<n→P k=true→f k≤cmx P f n
 | 0,k,h,_=>absurd h (by omega)
 | n+1,k,h,hp=>by
  rw[cmx]
  by_cases e:k=n
  ·subst e
   rw[if_pos hp]
   omega
  ·have ih:=xS (P:=P) (f:=f) n k (by omega) hp
   split<;>omega
theorem yP{P:Nat→Bool}{f:Int→Int}:∀ n,0≤cmx P f n
 | 0=>Int.le_refl _
 | n+1=>by
  have:=yP (P:=P) (f:=f) n
  rw[cmx]
  split<;>omega
theorem zz{f:Int→Int}{l:List Int}:0≤mx f l∧∀ x∈l,f x≤mx f l:=by
 unfold mx
 have:∀ (l:List Int) (a:Int),a≤l.foldl (fun a i=>max a (f i)) a∧∀ x∈l,f x≤l.foldl (fun a i=>max a (f i)) a:=by
  intro l
  induction l with
  | nil=>intro a;exact⟨Int.le_refl _,fun _ h=>by cases h⟩
  | cons x l ih =>
   intro a
   have h1:=ih (max a (f x))
   rw[List.foldl_cons]
   refine⟨by omega,fun y hy=>?_⟩
   rcases List.mem_cons.1 hy with rfl|hy
   ·omega
   ·exact h1.2 y hy
 exact this l 0
theorem mx_le{f:Int→Int}{l:List Int}{M:Int}(hM:0≤M)(h:∀ x∈l,f x≤M):mx f l≤M:=(gI hM h).2
theorem xA:∀ {l:List Spn}{a b:Int}(j:Nat),Cov a b l→∀ i:Nat,(i:Int)<b-a→∃ (k:Nat) (s:Spn),(spI j l)[i]?=some ((j+k:Nat):Int)∧l[k]?=some s∧s.f≤a+i∧a+i<s.t
 | [],a,b,_,h,i,hi=>by have h:a=b:=h;omega
 | s::l,a,b,j,⟨h1,h2,h3⟩,i,hi=>by
  rw[spI]
  by_cases hlt:i<(s.t-s.f).toNat
  ·refine⟨0,s,?_,rfl,by omega,by omega⟩
   rw[List.getElem?_append_left (by simpa using hlt),List.getElem?_replicate,if_pos hlt]
   rfl
  ·obtain⟨k,s',g1,g2,g3,g4⟩:=xA (j+1) h3 (i-(s.t-s.f).toNat) (by omega)
   refine⟨k+1,s',?_,by simpa using g2,by omega,by omega⟩
   rw[List.getElem?_append_right (by simp;omega),List.length_replicate,g1]
   congr 2
   omega
theorem uK:∀ {l:List Spn}{a b:Int},Cov a b l→∀ {k k':Nat}{s s':Spn}{x:Int},l[k]?=some s→l[k']?=some s'→s.f≤x→x<s.t→s'.f≤x→x<s'.t→k=k'
 | [],_,_,_,k,_,s,_,x,h,_,_,_,_,_=>by simp at h
 | y::l,a,b,⟨h1,h2,h3⟩,k,k',s,s',x,hk,hk',g1,g2,g3,g4=>by
  have hm:=jN h3
  rcases k with _|k<;>rcases k' with _|k'
  ·rfl
  ·simp at hk
   subst hk
   have:=hm.2 s' (List.mem_of_getElem? (by simpa using hk'))
   omega
  ·simp at hk'
   subst hk'
   have:=hm.2 s (List.mem_of_getElem? (by simpa using hk))
   omega
  ·rw[uK h3 (k:=k) (k':=k') (by simpa using hk) (by simpa using hk') g1 g2 g3 g4]
def inL(p:Par)(s t:Int)(k:Nat):Bool:=match p.s[k]? with
 | some x=>(decide (x.f<t)&&decide (s<x.t))||(decide (s=t)&&decide ((k:Int)=(p.s.length:Int)-1))
 | none=>false
theorem nB{X:Txt}(hc:(X.p.t=[]∧∃ s,X.p.s=[s]∧s.f=0∧s.t=0)∨(X.p.t≠[]∧Cov 0 X.p.t.length X.p.s)){s t:Nat}(hst:s≤t)(ht:t≤X.p.t.length)(he:s=t→s=X.p.t.length)(f:Int→Int):
  cmx (inL X.p s t) f X.p.s.length=mx f (X.spans s t):=by
 have h0:=zz (f:=f) (l:=X.spans s t)
 refine Int.le_antisymm (Cg h0.1 _ fun k hk hp=>?_) (mx_le (yP _) fun x hx=>?_)
 ·obtain⟨y,hy⟩:=atG hk
  unfold inL at hp
  rw[hy]at hp
  refine h0.2 _ ?_
  unfold Txt.spans
  by_cases hlt:s<t
  ·rw[if_pos hlt]
   have hne:X.p.t≠[]:=fun e=>by rw[e]at ht;simp at ht;omega
   have hcv:Cov 0 X.p.t.length X.p.s:=by
    rcases hc with⟨h,_⟩|⟨_,h⟩
    ·exact absurd h hne
    ·exact h
   have hyy:=(jN hcv).2 y (List.mem_of_getElem? hy)
   have hp2:y.f<t∧(s:Int)<y.t:=by
    simp at hp
    omega
   obtain⟨q,hq⟩:∃ q:Nat,(q:Int)=max y.f s:=⟨(max y.f s).toNat,by omega⟩
   obtain⟨k',s',g1,g2,g3,g4⟩:=xA 0 hcv q (by omega)
   have hkk:=uK hcv hy g2 (x:=0+q) (by omega) (by omega) g3 g4
   rw[Nat.zero_add,← hkk]at g1
   have hqs:s≤q∧q<t:=by omega
   have:((X.sp.take t).drop s)[q-s]?=some (k:Int):=by
    rw[List.getElem?_drop,List.getElem?_take_of_lt (by omega),show s+(q-s)=q by omega]
    exact g1
   exact List.mem_of_getElem? this
  ·rw[if_neg hlt]
   have hst2:s=t:=by omega
   have hsn:=he hst2
   simp only[List.mem_singleton]
   have hyt:y.t≤s:=by
    rcases hc with⟨h,s',h2,h3,h4⟩|⟨_,h⟩
    ·rw[h2]at hy
     rcases k with _|k
     ·simp at hy;subst hy;omega
     ·simp at hy
    ·have:=(jN h).2 y (List.mem_of_getElem? hy)
     omega
   simp at hp
   omega
 ·unfold Txt.spans at hx
  by_cases hlt:s<t
  ·rw[if_pos hlt]at hx
   have hne:X.p.t≠[]:=fun e=>by rw[e]at ht;simp at ht;omega
   have hcv:Cov 0 X.p.t.length X.p.s:=by
    rcases hc with⟨h,_⟩|⟨_,h⟩
    ·exact absurd h hne
    ·exact h
   obtain⟨i,hi⟩:=List.getElem?_of_mem hx
   have hil:=(List.getElem?_eq_some_iff.1 hi).1
   simp at hil
   rw[List.getElem?_drop,List.getElem?_take_of_lt (by omega)]at hi
   obtain⟨k,s',g1,g2,g3,g4⟩:=xA 0 hcv (s+i) (by omega)
   have hxk:x=(k:Int):=by
    have h9:X.sp[s+i]?=some ((0+k:Nat):Int):=g1
    rw[hi]at h9
    simpa using h9
   rw[hxk]
   refine xS _ k (List.getElem?_eq_some_iff.1 g2).1 ?_
   unfold inL
   rw[g2]
   simp
   omega
  ·rw[if_neg hlt]at hx
   simp only[List.mem_singleton]at hx
   have hl:0<X.p.s.length:=by
    rcases hc with⟨h,s',h2,h3,h4⟩|⟨h1,h⟩
    ·rw[h2];simp
    ·rcases hs:X.p.s with _|⟨a,b⟩
     ·rw[hs]at h
      have h5:(0:Int)=X.p.t.length:=h
      exact absurd (List.length_eq_zero_iff.1 (by omega)) h1
     ·simp
   obtain⟨y,hy⟩:=atG (show X.p.s.length-1<X.p.s.length by omega)
   have e:((X.p.s.length-1:Nat):Int)=(X.p.s.length:Int)-1:=by omega
   rw[hx,← e]
   refine xS _ _ (by omega) ?_
   unfold inL
   rw[hy]
   simp
   omega
theorem tV{X:Txt}:∀ (B:List Int) (f i:Nat),f≤i→∀ k∈jk f i B,k.1<k.2
 | [],_,_,_,k,h=>by cases h
 | b::B,f,i,h1,k,h=>by
  rw[jk]at h
  split at h
  ·rcases List.mem_cons.1 h with rfl|h
   ·simp;omega
   ·exact tV (X:=X) B _ _ (Nat.le_refl _) k h
  ·exact tV (X:=X) B _ _ (by omega) k h
theorem qK{X:Txt}:∀ k∈X.secs,k.1=k.2→k.2=X.p.t.length:=fun k h e=>by
 unfold Txt.secs at h
 rcases List.mem_append.1 h with h|h
 ·have:=tV (X:=X) X.B 0 0 (Nat.le_refl _) k h
  omega
 ·split at h
  ·simp at h
   subst h
   rfl
  ·cases h
theorem rY{X:Txt}{k:Nat×Nat}(hk:jl X k):∀ (m s:Nat) (y:Int),k.1≤s→s≤k.2→(s=k.1∨s<k.2)→∀ x∈X.linK k m s y,∃ s y,k.1≤s∧s≤k.2∧(s=k.1∨s<k.2)∧x=X.lin k s (X.fin k s) y
 | 0,s,y,h1,h2,h3,x,h=>by
  rw[Txt.linK]at h
  simp at h
  exact⟨_,_,h1,h2,h3,h⟩
 | m+1,s,y,h1,h2,h3,x,h=>by
  rw[Txt.linK]at h
  rcases List.mem_cons.1 h with h|h
  ·exact⟨_,_,h1,h2,h3,h⟩
  ·split at h
   ·have hf:=dB (X:=X) hk h2
    exact rY hk m _ _ (by omega) (by omega) (.inr (by assumption)) x h
   ·cases h
theorem na{X:Txt}:∀ (l:List (Nat×Nat)) (y:Int),(∀ k∈l,jl X k)→∀ x∈X.linA l y,∃ k∈l,jl X k∧∃ s y,k.1≤s∧s≤k.2∧(s=k.1∨s<k.2)∧x=X.lin k s (X.fin k s) y
 | [],_,_,_,h=>by cases h
 | k::l,y,hl,x,h=>by
  rw[Txt.linA]at h
  have hk:=hl k (by simp)
  rcases List.mem_append.1 h with h|h
  ·exact⟨k,by simp,hk,rY hk _ _ _ (Nat.le_refl _) hk.1 (.inl rfl) x h⟩
  ·obtain⟨k',hk,h⟩:=na l _ (fun x hx=>hl x (by simp[hx])) x h
   exact⟨k',by simp[hk],h⟩
theorem TxV.fline{X:Txt}(hV:TxV X)(hc:(X.p.t=[]∧∃ s,X.p.s=[s]∧s.f=0∧s.t=0)∨(X.p.t≠[]∧Cov 0 X.p.t.length X.p.s)){x:bV}(hx:x∈X.linA X.secs 0):
  0≤x.l.f∧x.l.f≤2000∧0≤x.l.t∧x.l.t≤2000∧x.l.a=cmx (inL X.p x.l.f x.l.t) X.asc X.p.s.length∧x.l.d=cmx (inL X.p x.l.f x.l.t) X.des X.p.s.length:=by
 obtain⟨k,hk,hkV,s,y,h1,h2,h3,rfl⟩:=na X.secs 0 hV.secs x hx
 have hf:=dB (X:=X) hkV h2
 have hn:=hV.n
 have hkn:=hkV.2.1
 have he:s=X.fin k s→s=X.p.t.length:=fun e=>by
  have:s=k.2:=by
   rcases Nat.lt_or_ge s k.2 with h|h
   ·have:=hf.2.2 h1 h;omega
   ·omega
  have h5:k.1=k.2:=by omega
  have:=qK k hk h5
  omega
 refine⟨by show 0≤(s:Int);omega,by show (s:Int)≤2000;omega,by show 0≤(X.fin k s:Int);omega,by show (X.fin k s:Int)≤2000;omega,?_,?_⟩
 ·exact (nB hc hf.1 (by omega) he X.asc).symm
 ·exact (nB hc hf.1 (by omega) he X.des).symm
end Bi
end Go.Ab
