/- Several texts of this proof in one. -/
import Derived.Test.YtldfgkjmficliaaGreatPaCq
import Derived.Test.YtldfgkjmficliaaGreatPaLe
set_option linter.unusedSimpArgs false
set_option linter.unusedVariables false
namespace Go.Ab
open Go.Proofs
namespace Bi
def SeC:Nat→List (Nat×Nat)→Nat→Prop
 | a,[],n=>a=n
 | a,k::l,n=>k.1=a∧k.1≤k.2∧(k.1=k.2→l=[])∧SeC k.2 l n
def LCh(e:List cQ):Nat→Int→List cQ→Nat→Prop
 | a,_,[],b=>a=b
 | a,y,x::l,b=>∃ t:Nat,x.l.f=a∧x.l.y=y∧x.l.t=t∧a≤t∧(a<t∨l++e=[])∧1≤x.l.h∧x.l.h≤15000000∧(0≤x.l.a∧0≤x.l.d∧x.l.a+x.l.d≤x.l.h)∧LCh e t (y+x.l.h) l b
theorem xZ{e l2:List cQ}{b c:Nat}:∀ {l1:List cQ}{a:Nat}{y:Int},LCh (l2++e) a y l1 c→LCh e c (y+Txt.hgt l1) l2 b→LCh e a y (l1++l2) b
 | [],a,y,h1,h2=>by
  have h1:a=c:=h1
  subst h1
  simpa[Txt.hgt]using h2
 | x::l,a,y,⟨t,g1,g2,g3,g4,g5,g6,g7,g8,g9⟩,h2=>by
  refine⟨t,g1,g2,g3,g4,?_,g6,g7,g8,xZ g9 ?_⟩
  ·have:(l++l2)++e=l++(l2++e):=List.append_assoc _ _ _
   rcases g5 with g5|g5
   ·exact .inl g5
   ·exact .inr (this.trans g5)
  ·have:y+Txt.hgt (x::l)=y+x.l.h+Txt.hgt l:=by simp[Txt.hgt];omega
   rw[this]at h2
   exact h2
theorem TxV.lin1{X:Txt}(hV:TxV X)(hn:X.p.t.length≤90){k:Nat×Nat}{s t:Nat}{y:Int}(h1:s≤t)(h2:t≤X.p.t.length):
  1≤(X.lin k s t y).l.h∧(X.lin k s t y).l.h≤15000000∧(0≤(X.lin k s t y).l.a∧0≤(X.lin k s t y).l.d∧(X.lin k s t y).l.a+(X.lin k s t y).l.d≤(X.lin k s t y).l.h):=by
 have hH:=hV.linH k s t y hn
 obtain⟨x,hx⟩:∃ x,x∈X.spans s t:=by
  unfold Txt.spans
  split
  ·have hl:0<((X.sp.take t).drop s).length:=by simp[hV.sp];omega
   exact⟨_,List.getElem_mem hl⟩
  ·exact⟨_,List.mem_singleton.2 rfl⟩
 have hx2:0≤x∧x<X.p.s.length:=by
  have hsn:=hV.sn
  unfold Txt.spans at hx
  split at hx
  ·exact hV.spm x (List.mem_of_mem_take (List.mem_of_mem_drop hx))
  ·simp at hx;omega
 have hm:=(yO (f:=X.hei) (l:=X.spans s t)).2 x hx
 have h0:=(yO (f:=X.asc) (l:=X.spans s t)).1
 have h3:=(yO (f:=X.des) (l:=X.spans s t)).1
 obtain⟨q,rfl⟩:∃ q:Nat,x=q:=⟨x.toNat,by omega⟩
 obtain⟨sp,f,g1,g2,g3,g4,g5,g6,g7,g8,g9,g10⟩:=hV.at (q:=q) (by omega)
 have h8:=kR g7 g5 g6
 rw[g10]at hm
 refine⟨?_,hH.2,h0,h3,?_⟩
 ·show 1≤max (mx X.hei (X.spans s t)) (mx X.asc (X.spans s t)+mx X.des (X.spans s t))
  omega
 ·show mx X.asc (X.spans s t)+mx X.des (X.spans s t)≤max (mx X.hei (X.spans s t)) (mx X.asc (X.spans s t)+mx X.des (X.spans s t))
  omega
theorem tM{X:Txt}(hV:TxV X)(hn:X.p.t.length≤90){k:Nat×Nat}(hk:qz X k){e:List cQ}:∀ (m s:Nat) (y:Int),k.1≤s→s≤k.2→k.2-s≤m→(s=k.2→e=[])→LCh e s y (X.linK k m s y) k.2
 | 0,s,y,h1,h2,h3,h4=>by
  have hf:=fy (X:=X) hk h2
  have hl:=hV.lin1 hn (k:=k) (y:=y) hf.1 (by have:=hk.2.1;omega)
  rw[Txt.linK]
  exact⟨X.fin k s,rfl,rfl,rfl,hf.1,.inr (by rw[h4 (by omega)];rfl),hl.1,hl.2.1,hl.2.2,by show X.fin k s=k.2;omega⟩
 | m+1,s,y,h1,h2,h3,h4=>by
  have hf:=fy (X:=X) hk h2
  have hl:=hV.lin1 hn (k:=k) (y:=y) hf.1 (by have:=hk.2.1;omega)
  rw[Txt.linK]
  by_cases hlt:X.fin k s<k.2
  ·rw[if_pos hlt]
   have h5:=hf.2.2 h1 (by omega)
   exact⟨X.fin k s,rfl,rfl,rfl,hf.1,.inl h5,hl.1,hl.2.1,hl.2.2,tM hV hn hk m _ _ (by omega) (by omega) (by omega) fun h=>by omega⟩
  ·rw[if_neg hlt]
   refine⟨X.fin k s,rfl,rfl,rfl,hf.1,?_,hl.1,hl.2.1,hl.2.2,by show X.fin k s=k.2;omega⟩
   rcases Nat.lt_or_ge s k.2 with h|h
   ·exact .inl (hf.2.2 h1 h)
   ·exact .inr (by rw[h4 (by omega)];rfl)
theorem tL{X:Txt}(hV:TxV X)(hn:X.p.t.length≤90){n:Nat}:∀ (l:List (Nat×Nat)) (a:Nat) (y:Int),(∀ k∈l,qz X k)→SeC a l n→LCh [] a y (X.linA l y) n
 | [],a,y,_,h=>h
 | k::l,a,y,hl,⟨h1,h2,h3,h4⟩=>by
  subst h1
  rw[Txt.linA]
  refine xZ (tM hV hn (hl k (by simp)) _ _ _ (Nat.le_refl _) h2 (Nat.le_refl _) fun h=>?_) (tL hV hn l k.2 _ (fun x hx=>hl x (by simp[hx])) h4)
  rw[h3 h]
  rfl
theorem ql{tl:List (Nat×Nat)}{n:Nat}:∀ (B:List Int) (f i:Nat),f≤i→(B=[]→f=i)→(B≠[]→lgI B (B.length-1)=2)→SeC (i+B.length) tl n→SeC f (iJ f i B++tl) n
 | [],f,i,_,h2,_,h4=>by
  rw[h2 rfl]
  exact h4
 | b::B,f,i,h1,_,h3,h4=>by
  have h3':B≠[]→lgI B (B.length-1)=2:=fun hb=>by
   have:=h3 (by simp)
   rcases B with _|⟨c,B⟩
   ·exact absurd rfl hb
   ·simpa[lgI]using this
  have h4':SeC (i+1+B.length) tl n:=by
   rw[List.length_cons]at h4
   rw[show i+1+B.length=i+(B.length+1) by omega]
   exact h4
  rw[iJ]
  split
  ·exact⟨rfl,by show f≤i+1;omega,fun h=>by have h:f=i+1:=h;omega,ql B (i+1) (i+1) (Nat.le_refl _) (fun _=>rfl) h3' h4'⟩
  ·rename_i hb
   refine ql B f (i+1) (by omega) (fun h=>?_) h3' h4'
   subst h
   exact absurd (h3 (by simp)) hb
theorem TxV.sch{X:Txt}(hV:TxV X):SeC 0 X.secs X.p.t.length:=by
 unfold Txt.secs
 refine ql X.B 0 0 (Nat.le_refl _) (fun _=>rfl) (fun h=>?_) ?_
 ·have hl:=hV.bl
  have hp:0<X.B.length:=List.length_pos_iff.2 h
  have h2:=hV.b2 (by omega)
  rw[← hl]at h2
  have h3:=atI (l:=X.B) (i:=X.B.length-1) (by omega)
  rw[h2]at h3
  exact (Option.some.inj h3).symm
 ·rw[Nat.zero_add,hV.bl]
  split
  ·exact⟨rfl,Nat.le_refl _,fun _=>rfl,rfl⟩
  ·exact rfl
theorem TxV.secs_ne{X:Txt}(hV:TxV X):X.secs≠[]:=fun h=>by
 have h1:=hV.sch
 rw[h]at h1
 have h1:0=X.p.t.length:=h1
 unfold Txt.secs at h
 rw[if_pos (.inl h1.symm)]at h
 simp at h
theorem yK{X:Txt}{k:Nat×Nat}:∀ (m s:Nat) (y:Int),X.linK k m s y≠[]
 | 0,_,_=>by rw[Txt.linK];simp
 | _+1,_,_=>by rw[Txt.linK];simp
theorem TxV.chn{X:Txt}(hV:TxV X)(hn:X.p.t.length≤90):LCh [] 0 0 (X.linA X.secs 0) X.p.t.length∧X.linA X.secs 0≠[]:=by
 refine⟨tL hV hn _ _ _ hV.secs hV.sch,?_⟩
 have h:=hV.secs_ne
 rcases hs:X.secs with _|⟨k,l⟩
 ·exact absurd hs h
 ·rw[Txt.linA]
  simp[yK]
theorem ya{e:List cQ}{b:Nat}:∀ {l:List cQ}{a:Nat}{y:Int},LCh e a y l b→∀ x∈l,0≤x.l.h∧x.l.h≤15000000
 | [],_,_,_,_,h=>by cases h
 | z::l,a,y,⟨t,g1,g2,g3,g4,g5,g6,g7,g8,g9⟩,x,h=>by
  rcases List.mem_cons.1 h with rfl|h
  ·omega
  ·exact ya g9 x h
end Bi
end Go.Ab
namespace Go.Ab
open Go.Proofs
namespace Bi
theorem nl_10:nlS 10=true:=by kernel_rfl
theorem GC{r:Int}(h:r∈alS):nlS r=false:=by
 have h1:=qU (List.mem_cons_of_mem _ h)
 have h2:=xS h
 unfold nlS
 simp[h1,h2]
theorem EX{l l':List cQ}{m m':Nat}{dy dy':Int}(h:l.map (kK m dy)=l'.map (kK m' dy')):Txt.hgt l=Txt.hgt l':=by
 have:=congrArg (List.map fun q:Int×Int×Int×Int×Int×Int×Nat=>q.2.2.2.2.2.1) h
 simp only[List.map_map]at this
 exact congrArg List.sum this
section
variable {x y:List Int}(hx:∀ r∈x,r∈alS) (hy:∀ r∈y,r∈alS)
include hx hy
theorem wV:∀ r∈x++[10]++y,r∈10::alS:=fun r hr=>by
 rcases List.mem_append.1 hr with hr|hr
 ·rcases List.mem_append.1 hr with hr|hr
  ·exact List.mem_cons_of_mem _ (hx r hr)
  ·rw[List.mem_singleton.1 hr];simp
 ·exact List.mem_cons_of_mem _ (hy r hr)
theorem Ci:(∀ q,q<x.length→lgI (x++[10]++y) q≠10)∧lgI (x++[10]++y) x.length=10∧∀ q,q<y.length→lgI (x++[10]++y) (x.length+1+q)=lgI y q∧lgI y q∈alS:=by
 refine⟨fun q hq=>?_,?_,fun q hq=>⟨?_,?_⟩⟩
 ·have:lgI (x++[10]++y) q=lgI x q:=by
   unfold lgI
   rw[List.getD_eq_getElem?_getD,List.getD_eq_getElem?_getD,List.append_assoc,List.getElem?_append_left hq]
  rw[this]
  exact xS (hx _ (List.mem_of_getElem? (atI hq)))
 ·unfold lgI
  rw[List.getD_eq_getElem?_getD,List.append_assoc,List.getElem?_append_right (Nat.le_refl _),Nat.sub_self]
  rfl
 ·unfold lgI
  rw[List.getD_eq_getElem?_getD,List.getD_eq_getElem?_getD,List.getElem?_append_right (by simp)]
  simp only[List.length_append,List.length_singleton]
  rw[show x.length+1+q-(x.length+1)=q by omega]
 ·exact hy _ (List.mem_of_getElem? (atI hq))
theorem Ck{C:List Int}{q:Nat}(hq:q<x.length+1):lgI (dI (x++[10]++y) C) q=2↔q+1=x.length+1:=by
 obtain⟨h1,h2,h3⟩:=Ci hx hy
 rw[ju (wV hx hy) (by simp;omega)]
 have hl:(x++[10]++y).length=x.length+1+y.length:=by simp;omega
 rw[hl]
 by_cases hqx:q=x.length
 ·subst hqx
  exact⟨fun _=>rfl,fun _=>.inr h2⟩
 ·exact⟨fun h=>by rcases h with h|h;omega;exact absurd h (h1 q (by omega)),fun h=>absurd (by omega) hqx⟩
theorem yA{b w:Int}:(joT (x++[10]++y) b w).secs=[(0,x.length+1),(x.length+1,x.length+1+y.length)]:=by
 obtain⟨h1,h2,h3⟩:=Ci hx hy
 have hm:=wV hx hy
 have hl:(x++[10]++y).length=x.length+1+y.length:=by simp;omega
 have hbl:=@iV (x++[10]++y) (dp (x++[10]++y))
 unfold Txt.secs
 show iJ 0 0 (dI (x++[10]++y) (dp (x++[10]++y)))++(if (x++[10]++y).length=0∨nlS (lgI (x++[10]++y) ((x++[10]++y).length-1))=true then [((x++[10]++y).length,(x++[10]++y).length)] else [])=_
 have hg:∀ q,lgI (dI (x++[10]++y) (dp (x++[10]++y))) q=lgI (dI (x++[10]++y) (dp (x++[10]++y))) q:=fun _=>rfl
 have htw:∀ {q},q<(x++[10]++y).length→(lgI (dI (x++[10]++y) (dp (x++[10]++y))) q=2↔q+1=(x++[10]++y).length∨lgI (x++[10]++y) q=10):=fun hq=>ju hm hq
 have hj2:∀ {q},q<x.length+1→(lgI (dI (x++[10]++y) (dp (x++[10]++y))) q=2↔q+1=x.length+1):=fun hq=>Ck hx hy hq
 generalize x++[10]++y=T at *
 generalize dI T (dp T)=B at *
 have htk:∀ q,q<x.length+1→lgI (B.take (x.length+1)) q=lgI B q:=fun q hq=>by
  unfold lgI
  rw[List.getD_eq_getElem?_getD,List.getD_eq_getElem?_getD,List.getElem?_take_of_lt hq]
 have hdk:∀ q,lgI (B.drop (x.length+1)) q=lgI B (x.length+1+q):=fun q=>by
  unfold lgI
  rw[List.getD_eq_getElem?_getD,List.getD_eq_getElem?_getD,List.getElem?_drop]
 have hB:B=B.take (x.length+1)++B.drop (x.length+1):=(List.take_append_drop _ _).symm
 have htl:(B.take (x.length+1)).length=x.length+1:=by simp;omega
 have hdl:(B.drop (x.length+1)).length=y.length:=by simp;omega
 rw[hB,lS _ _ 0 0 (fun e=>by rw[e]at htl;simp at htl) fun q hq=>by rw[htl]at hq ⊢;rw[htk q hq];exact hj2 hq,htl,Nat.zero_add]
 rcases Nat.eq_zero_or_pos y.length with h0|h0
 ·have hd0:B.drop (x.length+1)=[]:=List.length_eq_zero_iff.1 (by omega)
  rw[hd0,if_pos (.inr (by rw[hl,show x.length+1+y.length-1=x.length by omega,h2];exact nl_10)),hl,h0]
  rfl
 ·have hs:=lS (B.drop (x.length+1)) [] (x.length+1) (x.length+1) (fun e=>by rw[e]at hdl;simp at hdl;omega) fun q hq=>by
   rw[hdl]at hq ⊢
   rw[hdk,htw (by omega),(h3 q hq).1,hl]
   have:=xS (h3 q hq).2
   exact⟨fun h=>by rcases h with h|h;omega;exact absurd h this,fun h=>.inl (by omega)⟩
  rw[List.append_nil]at hs
  have hla:=h3 (y.length-1) (by omega)
  rw[hs,if_neg,hdl]
  ·rfl
  ·rintro (h|h)
   ·omega
   ·rw[hl,show x.length+1+y.length-1=x.length+1+(y.length-1) by omega,hla.1,GC hla.2]at h
    cases h
end
theorem Cj{y:List Int}(hy:∀ r∈y,r∈alS){b w:Int}:(joT y b w).secs=[(0,y.length)]:=by
 have hm:∀ r∈y,r∈10::alS:=fun r hr=>List.mem_cons_of_mem _ (hy r hr)
 have hbl:=@iV y (dp y)
 unfold Txt.secs
 show iJ 0 0 (dI y (dp y))++(if y.length=0∨nlS (lgI y (y.length-1))=true then [(y.length,y.length)] else [])=_
 rcases Nat.eq_zero_or_pos y.length with h0|h0
 ·have hd0:dI y (dp y)=[]:=List.length_eq_zero_iff.1 (by omega)
  rw[hd0,if_pos (.inl h0),h0]
  rfl
 ·have hs:=lS (dI y (dp y)) [] 0 0 (fun e=>by rw[e]at hbl;simp at hbl;omega) fun q hq=>by
   rw[hbl]at hq ⊢
   rw[ju hm hq]
   have:=xS (hy _ (List.mem_of_getElem? (atI hq)))
   exact⟨fun h=>by rcases h with h|h;exact h;exact absurd h this,fun h=>.inl h⟩
  rw[List.append_nil]at hs
  rw[hs,hbl,if_neg,Nat.zero_add]
  ·rfl
  ·rintro (h|h)
   ·omega
   ·rw[GC (hy _ (List.mem_of_getElem? (atI (l:=y) (i:=y.length-1) (by omega))))]at h
    cases h
theorem uK{x y:List Int}(hx:∀ r∈x,r∈alS)(hy:∀ r∈y,r∈alS){b w:Int}(vA:TxV (joT (x++[10]) b w))(vB:TxV (joT y b w)):
  ∃ (P:List cQ) (z:cQ),(joT (x++[10]) b w).linA (joT (x++[10]) b w).secs 0=P++[z]∧P≠[] ∧
   ((joT (x++[10]++y) b w).linA (joT (x++[10]++y) b w).secs 0).map (kK 0 0)=P.map (kK 0 0)++((joT y b w).linA (joT y b w).secs 0).map (kK (x.length+1) (Txt.hgt P)):=by
 have hm:=wV hx hy
 obtain⟨h1,h2,h3⟩:=Ci hx hy
 have hAl:(x++[10]).length=x.length+1:=by simp
 have hTl:(x++[10]++y).length=x.length+1+y.length:=by simp;omega
 have hsA:(joT (x++[10]) b w).secs=[(0,x.length+1),(x.length+1,x.length+1)]:=by
  have:=yA hx (y:=[]) (fun _ h=>by cases h) (b:=b) (w:=w)
  rw[List.append_nil]at this
  exact this
 have hsT:=yA hx hy (b:=b) (w:=w)
 have hsB:=Cj hy (b:=b) (w:=w)
 have kA:qz (joT (x++[10]) b w) (0,x.length+1):=vA.secs _ (by rw[hsA];simp)
 have kB:qz (joT y b w) (0,y.length):=vB.secs _ (by rw[hsB];simp)
 have hmA:∀ r∈x++[10],r∈10::alS:=fun r hr=>hm r (by simp only[List.mem_append]at hr ⊢;exact .inl hr)
 have s1:SubT (joT (x++[10]++y) b w) (joT (x++[10]) b w) 0 joF 20:=by
  refine Dx (pre:=[]) (u:=x++[10]) (post:=y) hm (by simp) vA fun i hi=>?_
  by_cases hl:i+1<(x++[10]).length
  ·exact xX (pre:=[]) (u:=x++[10]) (post:=y) hm (fun _ _=>rfl) hl
  ·rw[hAl]at hi hl
   have g1:=(Ck hx hy (C:=dp (x++[10]++y)) hi).2 (by omega)
   have g2:=(ju hmA (C:=dp (x++[10])) (q:=i) (by omega)).2 (.inl (by omega))
   show lgI (dI (x++[10]++y) (dp (x++[10]++y))) (0+i)=_
   rw[Nat.zero_add,g1,g2]
 have s2:SubT (joT (x++[10]++y) b w) (joT y b w) (x.length+1) joF 20:=by
  have e:x++[10]++(y++[])=x++[10]++y:=by rw[List.append_nil]
  have hmy:∀ r∈y,r∈10::alS:=fun r hr=>List.mem_cons_of_mem _ (hy r hr)
  have:=Dx (pre:=x++[10]) (u:=y) (post:=[]) (b:=b) (w:=w) (by rw[e];exact hm) (by simp) vB fun i hi=>?_
  ·rw[e,hAl]at this
   exact this
  ·by_cases hl:i+1<y.length
   ·refine xX (pre:=x++[10]) (u:=y) (post:=[]) (by rw[e];exact hm) (fun k hk=>?_) hl
    rw[e,hAl,spS]
    have hc:=(nO hm (i:=x.length) (by omega)).1
    rw[h2,(qU (by simp)).2.2.2.2.2.2.2 rfl]at hc
    rw[hc]
    rcases hk with rfl|rfl|rfl<;>rfl
   ·rw[e,hAl]
    have g1:=(ju hm (C:=dp (x++[10]++y)) (q:=x.length+1+i) (by omega)).2 (.inl (by omega))
    have g2:=(ju hmy (C:=dp y) (q:=i) (by omega)).2 (.inl (by omega))
    rw[g1,g2]
 have l1:=s1.linK kA (x.length+1) 0 0 0 (Nat.le_refl _) (Nat.zero_le _)
 simp only[shK,Nat.zero_add,Int.add_zero]at l1
 have hh:=EX l1
 have l2:=s2.linK kB y.length 0 0 (Txt.hgt ((joT (x++[10]) b w).linK (0,x.length+1) (x.length+1) 0 0)) (Nat.le_refl _) (Nat.zero_le _)
 simp only[shK,Nat.add_zero,Int.zero_add]at l2
 have hz:∃ z,(joT (x++[10]) b w).linA (joT (x++[10]) b w).secs 0=(joT (x++[10]) b w).linK (0,x.length+1) (x.length+1) 0 0++[z]:=by
  rw[hsA,Txt.linA,Txt.linA,Txt.linA]
  simp only[Nat.sub_zero,Nat.sub_self,List.append_nil]
  exact⟨_,rfl⟩
 obtain⟨z,hz⟩:=hz
 refine⟨_,z,hz,yK _ _ _,?_⟩
 rw[hsT,hsB,Txt.linA,Txt.linA,Txt.linA,Txt.linA,Txt.linA]
 simp only[Nat.sub_zero,List.append_nil,Int.zero_add]
 rw[show x.length+1+y.length-(x.length+1)=y.length by omega,List.map_append,l1,hh,l2]
end Bi
end Go.Ab
namespace Go.Ab
open Go.Proofs
namespace Bi
attribute [local congr] az
theorem me{md:FuncId→Nat}{call call':aR}{f:FuncId}{args:List V}(hm:md f=0)(ha:args.all V.noref=true)(e:call ⟨0,[],0⟩ f args []=call' ⟨0,[],0⟩ f args [])(cfg:Cfg)(h:Heap):af md call cfg f args h=af md call' cfg f args h:=by
 simp only[af,hm,ha,if_true,e]
noncomputable def linP:Prim:=fun cfg args h=>aI Tryz.prog md pZ 10000 40 cfg 7 args h
noncomputable def pJ(f:FuncId):Option Prim:=if f=8 then some ofP else if f=7 then some linP else if f=9 then some uF else if f=10 then some (jd t10) else none
theorem Fg:cj Tryz.prog 7 linP:=by
 intro cfg args h r h' hx
 unfold linP at hx
 exact dz cG cH pZ_ok 40 _ _ _ _ _ _ hx
theorem CN:pJ 8=some ofP:=if_pos rfl
theorem CM:pJ 7=some linP:=(if_neg (by decide)).trans (if_pos rfl)
theorem CL:pJ 9=some uF:=(if_neg (by decide)).trans ((if_neg (by decide)).trans (if_pos rfl))
theorem CK:pJ 10=some (jd t10):=(if_neg (by decide)).trans ((if_neg (by decide)).trans ((if_neg (by decide)).trans (if_pos rfl)))
theorem pX:∀ f p,pJ f=some p→cj Tryz.prog f p:=by
 intro f p h
 by_cases h1:f=8
 ·subst h1;rw[CN]at h;cases h;exact H8
 by_cases h2:f=7
 ·subst h2;rw[CM]at h;rw[← Option.some.inj h];exact Fg
 by_cases h3:f=9
 ·subst h3;rw[CL]at h;cases h;exact EV
 by_cases h4:f=10
 ·subst h4;rw[CK]at h;cases h;exact CO _ _ (if_pos rfl)
 ·unfold pJ at h
  rw[if_neg h1,if_neg h2,if_neg h3,if_neg h4]at h
  cases h
theorem GZ(d:Nat)(cfg:Cfg)(h:Heap):af md (K pJ (d+1)) cfg 10 [] h=some (.bool true,h):=by
 rw[me (call':=K pZ (d+1)) rfl rfl ((cM CK _ _ _).trans (cM (show pZ 10=some (jd t10) by unfold pZ;rw[if_neg (by decide),if_neg (by decide),if_neg (by decide)];exact if_pos rfl) _ _ _).symm)]
 exact G0 d cfg h
theorem xc{X:Txt}(C:CtxA pZ X)(d:Nat)(cfg:Cfg)(h:Heap):af md (K pJ (d+1)) cfg 7 [.agg (cF X.p),.lst (X.fs.map aH)] h=some (.tup [.lst ((X.linA X.secs 0).map bQ),.int .i64 0],h):=by
 rw[me (call':=K pZ 40) rfl (by simp[cF]) (cM CM _ _ _)]
 exact C.lines 23 cfg h
theorem ET(d:Nat)(cfg:Cfg)(h:Heap){Ls:List cQ}(h1:0<Ls.length)(h2:Ls.length≤100000)(h3:∀ x∈Ls,0≤x.l.h∧x.l.h≤15000000):
  af md (K pJ (d+1)) cfg 9 [.lst (Ls.map bQ)] h=some (.int .i64 (Txt.hgt Ls),h):=by
 rw[me (call':=K pH (d+1)) rfl (by simp) ((cM CL _ _ _).trans (cM (if_pos rfl) _ _ _).symm)]
 exact Ad d cfg h h1 h2 h3
theorem H9(d:Nat)(cfg:Cfg)(H:Heap)(b:Nat)(l:List Int)(x w:Int)(hb:ab H b=some (l.map (V.int .i32)))(hw:cfg.wr b=true):
  af md (K pJ (d+1)) cfg 8 [.sl b 0 l.length l.length 1,.int .i64 x,.int .i64 w] H=some (.agg (cF ⟨l,[⟨0,l.length,0,20⟩],x,0,w⟩),H.set b none):=by
 have hm:md 8=2:=rfl
 have e:ofP cfg [.sl b 0 l.length l.length 1,.int .i64 x,.int .i64 w] H=some (.agg (cF ⟨l,[⟨0,l.length,0,20⟩],x,0,w⟩),H.set b none):=by
  simp only[ofP,hb]
  rw[if_pos ⟨hw,by simp⟩,List.drop_zero,List.take_of_length_le (by simp),vD]
  exact CF cfg _ l x w
 simp only[af,hm]
 exact (cM CN _ _ _).trans e
theorem CE(d:Nat)(cfg:Cfg)(H:Heap)(l:List Int)(x w:Int):af md (K pJ (d+1)) cfg 8 [rl l,.int .i64 x,.int .i64 w] H=some (.agg (cF ⟨l,[⟨0,l.length,0,20⟩],x,0,w⟩),H):=by
 have hm:md 8=2:=rfl
 simp only[af,hm]
 exact (cM CN _ _ _).trans (CF cfg H l x w)
theorem nM{e:List cQ}{b:Nat}:∀ {l:List cQ}{a:Nat}{y:Int},LCh e a y l b→∀ x∈l,(a:Int)≤x.l.f∧x.l.f≤b∧0≤x.l.t∧x.l.t≤b∧y≤x.l.y∧x.l.y≤y+l.length*15000000∧a≤b
 | [],_,_,_,_,h=>by cases h
 | z::l,a,y,⟨t,g1,g2,g3,g4,g5,g6,g7,g8,g9⟩,x,h=>by
  have htb:t≤b:=by
   cases l with
   | nil=>have:t=b:=g9;omega
   | cons z' l'=>exact (nM g9 z' (by simp)).2.2.2.2.2.2
  rcases List.mem_cons.1 h with rfl|h
  ·simp only[List.length_cons]
   omega
  ·have:=nM g9 x h
   simp only[List.length_cons]
   omega
theorem yu:∀ l:List cQ,(∀ q∈l,0≤q.l.h∧q.l.h≤15000000)→0≤Txt.hgt l∧Txt.hgt l≤l.length*15000000
 | [],_=>by simp[Txt.hgt]
 | q::l,h=>by
  have h1:=h q (by simp)
  have h2:=yu l fun x hx=>h x (by simp[hx])
  have e:Txt.hgt (q::l)=q.l.h+Txt.hgt l:=by simp[Txt.hgt]
  rw[e,List.length_cons]
  omega
theorem wU{t:List Int}(ht:t.length≤60){b w:Int}(hb:0≤b∧b≤1)(hw:0≤w∧w≤500):CtxA pZ (joT t b w):=by
 have hP:F5 ⟨t,[⟨0,t.length,0,20⟩],b,0,w⟩ t.length [joF].length:={
  len:=Nat.le_refl _
  b:=by show -1≤b∧b≤1;omega
  a:=by simp
  w:=by show 0≤w∧w≤1048576;omega
  sp:=fun s hs=>by simp at hs;subst hs;simp
  cov:=by
   by_cases h0:t=[]
   ·subst h0;exact .inl ⟨rfl,_,rfl,rfl,rfl⟩
   ·refine .inr ⟨h0,rfl,?_,rfl⟩
    have:=List.length_pos_iff.2 h0
    show (0:Int)<t.length
    omega
  sl:=by simp }
 have hC1:(dp t).length≤t.length+1:=by
  unfold dp
  split
  ·simp
  ·rename_i h0
   have:=oS (c:=t.map cBr) (t.length-1)
   have:=List.length_pos_iff.2 h0
   simp;omega
 have hcl:=tO (prim:=pZ) 0 lI t (by omega)
 refine Em (C:=dp t) hP (by omega) (by simp) (by simp) (fun f hf=>by simp at hf;subst hf;exact Ch) (fun d cfg h=>tO (prim:=pZ) d lI t (by omega) cfg h) hC1 fun x hx=>?_
 obtain⟨C,g1,g2,g3⟩:=Ek t (by omega)
 have h1:=g1 0 ⟨0,[],0⟩ []
 rw[hcl ⟨0,[],0⟩ []]at h1
 have h2:il (dp t)=il C:=congrArg Prod.fst (Option.some.inj h1)
 have h3:dp t=C:=by
  have h4:=V.lst.inj h2
  exact (List.map_inj_right (fun x y e=>by cases e;rfl)).1 h4
 exact g3 x (by rw[← h3];exact hx)
set_option maxHeartbeats 16000000 in
set_option maxRecDepth 100000 in
theorem joins_calls(a b:List Int)(base width:Int){w:World}{vs:Array Value}(hp:PW uV [] w [il a,il b,.int .i64 base,.int .i64 width] vs):
  Calls Tryz.prog 3 vs w fun e w'=>e=.returned (.bool true)∧RowKit.Below w.heap.size w w':=by
 by_cases hcnd:(0≤base∧base≤1)∧0≤width∧width≤500
 ·obtain⟨hb,hw⟩:=hcnd
  obtain⟨x,hx1,hx2,hxL⟩:=pK (prim:=pJ) 20 rfl rfl rfl a
  obtain⟨y,hy1,hy2,hyL⟩:=pK (prim:=pJ) 20 rfl rfl rfl b
  refine wZ Tryz.func3 rfl rfl rfl ?_ hp
  refine qu (md:=md) (n:=10000) (d:=22) (prim:=pJ) cG cH pX (fun fr h=>h=[]∧Slots 205 [(0,il a),(1,il b),(2,.int .i64 base),(3,.int .i64 width)] fr) (by simp;exact bx ⟨rfl,by simp⟩) ?_
  rintro fr h ⟨rfl,hs⟩
  obtain⟨j,rfl⟩:=hs.ex
  clear hs
  have c1:¬ base<0:=by omega
  have c2:¬ 1<base:=by omega
  have c3:¬ width<0:=by omega
  have c4:¬ 500<width:=by omega
  refine qu (md:=md) (n:=10000) (d:=22) (prim:=pJ) cG cH pX (fun fr h=>h=[]∧Slots 205 [(0,il a),(1,il b),(2,.int .i64 base),(3,.int .i64 width)] fr) (by simp[c1,c2,c3,c4];exact bx ⟨rfl,by simp⟩) ?_
  rintro fr h ⟨rfl,hs⟩
  obtain⟨j,rfl⟩:=hs.ex
  clear hs
  refine qu (md:=md) (n:=10000) (d:=22) (prim:=pJ) cG cH pX (fun fr h=>h=[]∧Slots 205 [(2,.int .i64 base),(3,.int .i64 width),(9,rl x),(10,rl y)] fr) (by simp[hxL,hyL];exact bx ⟨rfl,by simp⟩) ?_
  rintro fr h ⟨rfl,hs⟩
  obtain⟨j,rfl⟩:=hs.ex
  clear hs
  refine qu (md:=md) (n:=10000) (d:=22) (prim:=pJ) cG cH pX (fun fr h=>∃ v,Hp h [] [(1,v,(x++[10]++y).map (V.int .i32))]∧Slots 205 [(2,.int .i64 base),(3,.int .i64 width),(9,rl x),(10,rl y),(11,v)] fr) ?_ ?_
  ·simp
   refine lX (m:=x.length) (Hp.start.nil 1) (by simp) (by simp) eH (by omega) (by simp;omega) (by simp;omega) ?_
   intro v1 h1 hh1
   simp
   refine bZ (m:=1) (hh1.push [some [V.int .i32 10]]) (by simp) rfl rfl (by omega) (by omega) (by simp;omega) (by simp;omega) ?_
   intro v2 h2 hh2
   simp
   refine lX (m:=y.length) hh2 (by simp) (by simp) eH (by omega) (by simp;omega) (by simp;omega) ?_
   intro v3 h3 hh3
   simp
   exact bx ⟨v3,by simpa using hh3,by simp⟩
  rintro fr h ⟨v,hh,hs⟩
  obtain⟨j,rfl⟩:=hs.ex
  clear hs
  have hTl:(x++[10]++y).length=x.length+1+y.length:=by simp;omega
  obtain⟨vb,rfl,-,hvb,hvk⟩:=hh.head.ints (by rw[hTl];omega)
  refine DV (Frz.ints (i:=11) (bE (by simp)) hvk rfl) ?_
  generalize h.set vb none=h2
  generalize hfr:List.set _ 11 _=fr2
  have hs:Slots 205 [(2,.int .i64 base),(3,.int .i64 width),(9,rl x),(10,rl y),(11,rl (x++[10]++y))] fr2:=by
   rw[← hfr]
   simp
  obtain⟨j,rfl⟩:=hs.ex
  clear hs hfr hh hvk
  refine qu (md:=md) (n:=10000) (d:=22) (prim:=pJ) cG cH pX (fun fr h=>∃ b,ab h b=some [V.int .i64 100,.int .i64 80,.int .i64 20,.int .i64 0,.int .i64 50,.nils,.nils,.nils]∧Slots 205 [(2,.int .i64 base),(3,.int .i64 width),(9,rl x),(10,rl y),(11,rl (x++[10]++y)),(12,.sl b 0 1 1 8)] fr) (by simp;exact bx ⟨h2.length,by rw[dG rfl];rfl,by simp⟩) ?_
  clear h2
  rintro fr h ⟨fb,hfb,hs⟩
  obtain⟨j,rfl⟩:=hs.ex
  clear hs
  refine DV (Frz.one (i:=12) (k:=8) (cs':=aH joF) (bE (by simp)) hfb rfl rfl ?_ rfl) ?_
  ·intro q c hc
   rcases q with _|_|_|_|_|_|_|_|q
   ·cases hc;exact .inl ⟨_,_,rfl,rfl⟩
   ·cases hc;exact .inl ⟨_,_,rfl,rfl⟩
   ·cases hc;exact .inl ⟨_,_,rfl,rfl⟩
   ·cases hc;exact .inl ⟨_,_,rfl,rfl⟩
   ·cases hc;exact .inl ⟨_,_,rfl,rfl⟩
   ·cases hc;exact .inr ⟨rfl,rfl⟩
   ·cases hc;exact .inr ⟨rfl,rfl⟩
   ·cases hc;exact .inr ⟨rfl,rfl⟩
   ·simp[aH]at hc
  generalize h.set fb none=h2
  clear hfb
  generalize hfr:List.set _ 12 _=fr2
  have hs:Slots 205 [(2,.int .i64 base),(3,.int .i64 width),(9,rl x),(10,rl y),(11,rl (x++[10]++y)),(12,.lst [aH joF])] fr2:=by
   rw[← hfr]
   simp
  obtain⟨j,rfl⟩:=hs.ex
  clear hs hfr
  refine wX_fn (md:=md) (n:=10000) (d:=22) (prim:=pJ) cG cH pX ?_
  have hAl:(x++[10]).length=x.length+1:=by simp
  have CA:=wU (t:=x++[10]) (by omega) hb hw
  have CB:=wU (t:=y) (by omega) hb hw
  have CT:=wU (t:=x++[10]++y) (by omega) hb hw
  obtain⟨P,z,hPz,hPne,hkey⟩:=uK hx2 hy2 (b:=base) (w:=width) CA.hV CB.hV
  have nA:=(CA.hV.chn CA.h5).1
  have nB:=(CB.hV.chn CB.h5).1
  have nT:=(CT.hV.chn CT.h5).1
  have hLA:∀ cfg h,af md (K pJ 22) cfg 7 [.agg (cF ⟨x++[10],[⟨0,(x++[10]).length,0,20⟩],base,0,width⟩),.lst [aH joF]] h=some (.tup [.lst (((joT (x++[10]) base width).linA (joT (x++[10]) base width).secs 0).map bQ),.int .i64 0],h):=fun cfg h=>xc CA 21 cfg h
  have hLB:∀ cfg h,af md (K pJ 22) cfg 7 [.agg (cF ⟨y,[⟨0,y.length,0,20⟩],base,0,width⟩),.lst [aH joF]] h=some (.tup [.lst (((joT y base width).linA (joT y base width).secs 0).map bQ),.int .i64 0],h):=fun cfg h=>xc CB 21 cfg h
  have hLT:∀ cfg h,af md (K pJ 22) cfg 7 [.agg (cF ⟨x++[10]++y,[⟨0,(x++[10]++y).length,0,20⟩],base,0,width⟩),.lst [aH joF]] h=some (.tup [.lst (((joT (x++[10]++y) base width).linA (joT (x++[10]++y) base width).secs 0).map bQ),.int .i64 0],h):=fun cfg h=>xc CT 21 cfg h
  have oB:=fun cfg H=>CE 21 cfg H y base width
  have oT:=fun cfg H=>CE 21 cfg H (x++[10]++y) base width
  have oA:=fun cfg H b hb hw=>H9 21 cfg H b (x++[10]) base width hb hw
  rw[hPz]at hLA nA
  have lA:=CA.hV.linL CA.h5
  have lB:=CB.hV.linL CB.h5
  have lT:=CT.hV.linL CT.h5
  rw[hPz]at lA
  have tA:(joT (x++[10]) base width).p.t.length=x.length+1:=hAl
  have tB:(joT y base width).p.t.length=y.length:=rfl
  have tT:(joT (x++[10]++y) base width).p.t.length=x.length+1+y.length:=hTl
  rw[tA]at nA
  rw[tB]at nB
  rw[tT]at nT
  clear CA CB CT tA tB tT hPz
  generalize (joT y base width).linA (joT y base width).secs 0=Q at *
  generalize (joT (x++[10]++y) base width).linA (joT (x++[10]++y) base width).secs 0=R at *
  have hRl:R.length=P.length+Q.length:=by
   have:=congrArg List.length hkey
   simpa using this
  have hApp:List.map (V.int .i32) x++[V.int .i32 10]=(x++[10]).map (V.int .i32):=by simp
  generalize x++[10]++y=T at *
  generalize x++[10]=A at *
  have hPb:∀ q∈P,0≤q.l.h∧q.l.h≤15000000:=fun q hq=>ya nA q (by simp[hq])
  have hPL:P.length≤8281:=by simp at lA;omega
  have hHt:=fun cfg h=>ET 21 cfg h (List.length_pos_iff.2 hPne) (by omega) hPb
  obtain⟨PP,hPP⟩:∃ PP,P++[z]=PP:=⟨_,rfl⟩
  have hPl:PP.length=P.length+1:=by rw[← hPP];simp
  have hPt:PP.take P.length=P:=by rw[← hPP];simp
  have hPg:∀ {i:Nat},i<P.length→PP[i]?=P[i]?:=fun hi=>by rw[← hPP,List.getElem?_append_left hi]
  rw[hPP]at hLA nA lA
  clear hPP
  simp
  refine lX (m:=x.length) (Hp.start.nil 1) (by simp) (by simp) eH (by omega) (by simp;omega) (by simp;omega) ?_
  intro v1 h1 hh1
  simp
  refine bZ (m:=1) (hh1.push [some [V.int .i32 10]]) (by simp) rfl rfl (by omega) (by omega) (by simp;omega) (by simp;omega) ?_
  intro v2 h3 hh3
  rw[List.nil_append,hApp]at hh3
  obtain⟨b2,rfl,-,-,hb2⟩:=hh3.head.ints (by omega)
  clear hh3 hh1
  have hoA:=oA ⟨0,[],0⟩ h3 b2 hb2 (bE (by simp))
  have hP0:=List.length_pos_iff.2 hPne
  have e1:¬ ((PP.length:Int)<2):=by omega
  have e2:(R.length:Int)=(PP.length:Int)-1+Q.length:=by omega
  simp(disch:=omega)[hoA,hLA,oB,hLB,oT,hLT,e1,e2,wrap64]
  have hlk:∀ x:cQ,(bQ x).length=10:=fun _=>rfl
  have hlmp:∀ x:cQ,isMap (bQ x)=false:=fun _=>rfl
  have hlt0:∀ x:cQ,(bQ x).take 10=bQ x:=fun _=>rfl
  have hlf2:∀ x:cQ,(∀ c∈bQ x,c.leaf=true)=True:=fun x=>eq_true (by simp[bQ,bH])
  have hlr:∀ x:cQ,(∀ c∈bQ x,c.rf=true)=True:=fun x=>eq_true (by simp[bQ,bH])
  have hxp:∀ x:cQ,putAt [V.int .i64 0,.int .i64 0,.int .i64 0,.int .i64 0,.int .i64 0,.int .i64 0,.int .i64 0,.int .i64 0,.int .i64 0,.nils] 0 (bQ x)=bQ x:=fun _=>rfl
  have hx0:∀ x:cQ,slot (bQ x) 0=some (.int .i64 x.l.f):=fun _=>rfl
  have hx1:∀ x:cQ,slot (bQ x) 1=some (.int .i64 x.l.t):=fun _=>rfl
  have hx3:∀ x:cQ,slot (bQ x) 3=some (.int .i64 x.l.x):=fun _=>rfl
  have hx4:∀ x:cQ,slot (bQ x) 4=some (.int .i64 x.l.y):=fun _=>rfl
  have hx5:∀ x:cQ,slot (bQ x) 5=some (.int .i64 x.l.w):=fun _=>rfl
  have hx9:∀ x:cQ,slot (bQ x) 9=some (.lst (x.gs.map au)):=fun _=>rfl
  generalize h3.set b2 none=H0
  clear hoA hb2 hLA hLB hLT oA oB oT
  refine aj (fun m fr H=>∃ (i:Nat),i≤R.length∧m=R.length-i∧Slots 205 [(9,rl x),(13,.lst (PP.map bQ)),(15,.lst (Q.map bQ)),(17,.lst (R.map bQ)),(19,.int .i64 i)] fr) (m:=R.length) (by omega) ⟨0,by omega,by omega,by simp⟩ ?_
  rintro m fr H ⟨i,hi,rfl,hs⟩
  obtain⟨j,rfl⟩:=hs.ex
  clear hs
  by_cases hlt:i<R.length
  ·have hI:(i:Int)<R.length:=by omega
   obtain⟨X,hX⟩:=atG hlt
   have hkX:(R.map (kK 0 0))[i]?=some (kK 0 0 X):=by rw[List.getElem?_map,hX];rfl
   rw[hkey]at hkX
   have bX:=nM nT X (List.mem_of_getElem? hX)
   have hwH:Cfg.wr ⟨0,[],0⟩ H.length=true:=bE (by simp)
   by_cases hip:i<P.length
   ·obtain⟨W,hW⟩:=atG hip
    rw[List.getElem?_append_left (by simpa using hip),List.getElem?_map,hW]at hkX
    have hkW:=Option.some.inj hkX
    simp only[kK,Prod.mk.injEq]at hkW
    obtain⟨k0,k1,k3,k4,k5,-,k9⟩:=hkW
    have hW2:=hPg hip
    rw[hW]at hW2
    have hip2:(i:Int)<(PP.length:Int)-1:=by omega
    simp(disch:=omega)[hI,hwH,hip2,hW2,hlk,hlt0,hlf2,hxp,wrap64,-getElem?_pos]
    refine ai 64 (by kernel_rfl) ?_
    have q0:X.l.f=W.l.f:=by omega
    have q1:X.l.t=W.l.t:=by omega
    have q3:X.l.x=W.l.x:=k3.symm
    have q4:X.l.y=W.l.y:=by omega
    have q5:X.l.w=W.l.w:=k5.symm
    have q9:X.gs.length=W.gs.length:=k9.symm
    simp (maxSteps:=1000000) (disch:=omega)[hX,hlk,hlmp,hx0,hx1,hx3,hx4,hx5,hx9,q0,q1,q3,q4,q5,q9,wrap64,-getElem?_pos]
    exact ae (m':=R.length-(i+1)) (by omega) ⟨i+1,by omega,by omega,by simp(disch:=omega)⟩
   ·obtain⟨W,hW⟩:=atG (show i-P.length<Q.length by omega)
    rw[List.getElem?_append_right (by simp;omega),List.length_map,List.getElem?_map,hW]at hkX
    have hkW:=Option.some.inj hkX
    simp only[kK,Prod.mk.injEq]at hkW
    obtain⟨k0,k1,k3,k4,k5,-,k9⟩:=hkW
    have hip2:¬ (i:Int)<(PP.length:Int)-1:=by omega
    have bW:=nM nB W (List.mem_of_getElem? hW)
    have hgb:=yu P fun q hq=>hPb q hq
    have q0:X.l.f=W.l.f+((x.length:Int)+1):=by omega
    have q1:X.l.t=W.l.t+((x.length:Int)+1):=by omega
    have q3:X.l.x=W.l.x:=k3.symm
    have q4:X.l.y=W.l.y+Txt.hgt P:=by omega
    have q5:X.l.w=W.l.w:=k5.symm
    have q9:X.gs.length=W.gs.length:=k9.symm
    have hei:(i:Int)-PP.length+1=((i-P.length:Nat):Int):=by omega
    have hpl1:(PP.length:Int)-1=(P.length:Nat):=by omega
    have hsl:ti 10 (PP.map bQ) (some 0) (some P.length)=some (.lst (P.map bQ)):=by
     rw[zd (Nat.zero_le _) (by rw[List.length_map];omega) fun e he=>by obtain⟨q,_,rfl⟩:=List.mem_map.1 he;exact hlk q,← List.map_take,hPt]
     rfl
    simp(disch:=omega)[hI,hwH,hip2,wrap64,-getElem?_pos]
    refine ai 18 (by kernel_rfl) ?_
    have hwr2:Cfg.wr ⟨H.length+1,[H.length],H.length+1⟩ H.length=true:=by simp[Cfg.wr]
    have mH:md 9=0:=rfl
    simp(disch:=omega)[hW,hei,hpl1,hHt,mH,hsl,hwr2,hlk,hlt0,hlf2,hlr,hxp,wrap64,-getElem?_pos]
    refine ai 64 (by kernel_rfl) ?_
    simp (maxSteps:=1000000) (disch:=omega)[hX,hlk,hlmp,hx0,hx1,hx3,hx4,hx5,hx9,q0,q1,q3,q4,q5,q9,wrap64,-getElem?_pos]
    exact ae (m':=R.length-(i+1)) (by omega) ⟨i+1,by omega,by omega,by simp(disch:=omega)⟩
  ·obtain rfl:i=R.length:=by omega
   have hI:¬ ((R.length:Int)<R.length):=by omega
   have hA:=fun cfg h=>GZ 21 cfg h
   simp(disch:=omega)[hI,hA]
 ·obtain⟨r,h',hx,rfl⟩:=cx (P:=Tryz.prog) (md:=md) (prim:=pJ) (n:=10000) (cfg:=⟨0,[],0⟩) (d:=22) (h:=[]) (args:=[il a,il b,.int .i64 base,.int .i64 width]) (R:=fun r _=>r=.bool true) rfl Tryz.func3 rfl rfl rfl (by
   by_cases c1:base<0
   ·simp[c1]
   by_cases c2:1<base
   ·simp[c1,c2]
   by_cases c3:width<0
   ·simp[c1,c2,c3]
   have c4:500<width:=by omega
   simp[c1,c2,c3,c4])
  exact rz (md:=md) (n:=10000) cG cH pX hx hp
end Bi
end Go.Ab
