/- Several texts of this proof in one. -/
import Derived.Test.YtldfgkjmficliaaGreatAbFloat2
set_option linter.all false
namespace Go.Ab
def stS(E:Nat->Eff)(st0:List V×Heap)(S:Nat->Bool):Nat->List V×Heap
 | 0=>st0
 | n+1=>if S n=true then dM (stS E st0 S n) (E n) else stS E st0 S n
theorem iC{E:Nat->Eff}{st0:List V×Heap}{S T:Nat->Bool}:∀ n,(∀ j,j<n->S j=T j)->stS E st0 S n=stS E st0 T n
 | 0,_=>rfl
 | n+1,h=>by rw[stS,stS,h n (by omega),iC n fun j hj=>h j (by omega)]
theorem kD{E : Nat -> Eff}{st0 : List V×Heap}{i : Nat}: ∀ n, i <= n -> stS E st0 (fun j => decide (j < i)) n = stS E st0 (fun _ => true) i
  | 0, h => by obtain rfl : i = 0 := by omega
               rfl
  | n + 1, h => by
    by_cases hi : i = n + 1
    · subst hi
      exact iC _ fun j hj => by simp[hj]
    · rw[stS, if_neg (by simp;omega), kD n (by omega)]
theorem DM{fr:List V}{d:Option Tmp}{v:V}{s:Nat}(h:d≠some s):(put fr d v)[s]?=fr[s]?:=by
 cases d with
 | none=>rfl
 | some d=>exact Li (fun e=>h (by rw[e]))
theorem put_len{fr:List V}{d:Option Tmp}{v:V}:(put fr d v).length=fr.length:=by
 cases d with
 | none=>rfl
 | some d=>exact LS
theorem pq{E:Nat->Eff}{st0:List V×Heap}{S:Nat->Bool}:∀ n,(stS E st0 S n).1.length=st0.1.length
 | 0=>rfl
 | n+1=>by
  rw[stS];split
  ·exact put_len.trans (pq n)
  ·exact pq n
theorem wV{E:Nat->Eff}{st0:List V×Heap}{S T:Nat->Bool}{s:Nat}:∀ n,(∀ j,j<n->(E j).1=some s->S j=T j)->(stS E st0 S n).1[s]?=(stS E st0 T n).1[s]?
 | 0,_=>rfl
 | n+1,h=>by
  have ih:=wV (E:=E) (st0:=st0) n fun j hj=>h j (by omega);have h0:=pq (E:=E) (st0:=st0) (S:=S) n;have h3:=pq (E:=E) (st0:=st0) (S:=T) n;rw[stS,stS];by_cases hd:(E n).1=some s
  ·rw[h n (by omega) hd];split
   ·simp only[dM,hd,put];by_cases hs:s<st0.1.length
    ·rw[Lo (by omega),Lo (by omega)]
    ·rw[Lw (by simp;omega),Lw (by simp;omega)]
   ·exact ih
  ·have h1:∀ st,(dM st (E n)).1[s]?=st.1[s]?:=fun st=>DM hd;by_cases hS:S n=true<;>by_cases hT:T n=true
   ·rw[if_pos hS,if_pos hT,h1,h1];exact ih
   ·rw[if_pos hS,if_neg hT,h1];exact ih
   ·rw[if_neg hS,if_pos hT,h1];exact ih
   ·rw[if_neg hS,if_neg hT];exact ih
theorem isMap_set{cs:List V}{k:Nat}{u:V}(hu:u.leaf=true)(hc:isMap cs=false):isMap (cs.set k u)=false:=by
 cases cs with
 | nil=>rfl
 | cons c cs =>
  cases k with
  | zero=>cases u<;>first|rfl|(simp[V.leaf]at hu;done)
  | succ k=>cases c<;>first|rfl|(simp[isMap]at hc;done)
theorem cQ{h:Heap}{b k:Nat}{u:V}(hu:u.leaf=true){c:Nat}:ab (gR h b k u) c=if c=b then (ab h b).map (fun cs=>cs.set k u) else ab h c:=by
 unfold gR;cases hb:ab h b with
 | none =>
  by_cases e:c=b
  ·subst e;simp[hb]
  ·simp[e]
 | some cs =>
  have h0:b<h.length:=(Ld.1 (aB hb)).1;by_cases e:c=b
  ·subst e;simp[ab,Lo h0,isMap_set hu (dk hb)]
  ·simp only[if_neg e];unfold ab;rw[Li (fun h=>e h.symm)]
theorem kA{h:Heap}{b k c:Nat}{u:V}(hc:ab h c=none):(gR h b k u)[c]?=h[c]?:=by
 unfold gR;split
 ·rename_i cs hb;exact Li (fun e=>by subst e;rw[hb]at hc;cases hc)
 ·rfl
theorem Bz{h:Heap}{b k b' k':Nat}{u u':V}(hu:u.leaf=true)(h0:u'.leaf=true)(hne:(b,k)≠(b',k')):gR (gR h b k u) b' k' u'=gR (gR h b' k' u') b k u:=by
 apply LY;intro c;cases hc:ab h c with
 | none =>
  have n1:ab (gR h b k u) c=none:=by
   rw[cQ hu];split
   ·rename_i e;rw[<- e,hc];rfl
   ·exact hc
  have n2:ab (gR h b' k' u') c=none:=by
   rw[cQ h0];split
   ·rename_i e;rw[<- e,hc];rfl
   ·exact hc
  rw[kA n1,kA hc,kA n2,kA hc]
 | some cs =>
  have e1:ab (gR (gR h b k u) b' k' u') c=ab (gR (gR h b' k' u') b k u) c:=by
   simp only[cQ hu,cQ h0];by_cases h1:c=b<;>by_cases h2:c=b'
   ·subst h1;subst h2;have hk:k≠k':=fun e=>hne (by rw[e]);simp[hc,N5 _ _ hk]
   ·subst h1;simp[h2,hc]
   ·subst h2;simp[h1,hc]
   ·simp[h1,h2]
  obtain⟨d,hd⟩:∃ d,ab (gR (gR h b k u) b' k' u') c=some d:=by
   rw[cQ h0];split
   ·rename_i e;subst e;rw[cQ hu];split
    ·rename_i e;subst e;rw[hc];exact⟨_,rfl⟩
    ·rw[hc];exact⟨_,rfl⟩
   ·rw[cQ hu];split
    ·rename_i e;subst e;rw[hc];exact⟨_,rfl⟩
    ·exact⟨_,hc⟩
  rw[aB hd,aB (e1 ▸ hd)]
def ComE(x y:Eff):Prop:=(x.1=none\/x.1≠y.1)/\(∀ b k u,x.2.2=some (b,k,u)->u.leaf=true)/\(∀ b k u,y.2.2=some (b,k,u)->u.leaf=true)/\∀ b k u b' k' u',x.2.2=some (b,k,u)->y.2.2=some (b',k',u')->(b,k)≠(b',k')
theorem Aw{x y:Eff}(h:ComE x y)(st:List V×Heap):dM (dM st x) y=dM (dM st y) x:=by
 obtain⟨xd,xv,xw⟩:=x;obtain⟨yd,yv,yw⟩:=y;obtain⟨h1,h2,h3,h4⟩:=h;simp only at h1 h2 h3 h4;refine OL ?_ ?_
 ·simp only[dM];cases xd with
  | none=>rfl
  | some d =>
   cases yd with
   | none=>rfl
   | some d' =>
    have:d≠d':=fun e=>by rcases h1 with h|h;cases h;exact h (by rw[e])
    exact N5 _ _ this
 ·simp only[dM];cases xw with
  | none=>cases yw<;>rfl
  | some p =>
   cases yw with
   | none=>rfl
   | some q =>
    obtain⟨b,k,u⟩:=p;obtain⟨b',k',u'⟩:=q;exact Bz (h2 _ _ _ rfl) (h3 _ _ _ rfl) (h4 _ _ _ _ _ _ rfl rfl)
theorem Ad{E:Nat->Eff}{st0:List V×Heap}{S:Nat->Bool}{i:Nat}(hS:S i=false):∀ n,i<n->(∀ j,i<j->j<n->ComE (E i) (E j))->stS E st0 (bI S i) n=dM (stS E st0 S n) (E i)
 | 0,h,_=>absurd h (by omega)
 | n+1,h,hc=>by
  by_cases hi:i=n
  ·subst hi;rw[stS,stS,gj,if_pos rfl,if_neg (by rw[hS];simp)];congr 1;exact iC _ fun j hj=>dH (by omega)
  ·have ih:=Ad (E:=E) (st0:=st0) hS n (by omega) fun j h1 h2=>hc j h1 (by omega);rw[stS,stS,dH (fun e=>hi e.symm),ih];split
   ·exact Aw (hc n (by omega) (by omega)) _
   ·rfl
def nB(h:Heap)(b:Nat):Option Nat:=(ab h b).map List.length
def kS(h:Heap)(b k:Nat):Option V:=(ab h b).bind fun cs=>cs[k]?
theorem Dg{st:List V×Heap}{e:Eff}(he:∀ b k u,e.2.2=some (b,k,u)->u.leaf=true)(b:Nat):nB (dM st e).2 b=nB st.2 b:=by
 obtain⟨d,v,w⟩:=e;cases w with
 | none=>rfl
 | some p =>
  obtain⟨b',k,u⟩:=p;simp only[dM,nB,cQ (he _ _ _ rfl)];split
  ·rename_i e;subst e;cases ab st.2 b<;>simp
  ·rfl
theorem AD{st:List V×Heap}{e:Eff}(he:∀ b k u,e.2.2=some (b,k,u)->u.leaf=true){b k:Nat}(hn:∀ u,e.2.2≠some (b,k,u)):kS (dM st e).2 b k=kS st.2 b k:=by
 obtain⟨d,v,w⟩:=e;cases w with
 | none=>rfl
 | some p =>
  obtain⟨b',k',u⟩:=p;simp only[dM,kS,cQ (he _ _ _ rfl)];split
  ·rename_i e;subst e;have hk:k'≠k:=fun e=>hn u (by rw[e]);cases ab st.2 b<;>simp[Li hk]
  ·rfl
theorem ng{E:Nat->Eff}{st0:List V×Heap}{S:Nat->Bool}(he:∀ j b k u,(E j).2.2=some (b,k,u)->u.leaf=true)(b:Nat):∀ n,nB (stS E st0 S n).2 b=nB st0.2 b
 | 0=>rfl
 | n+1=>by
  rw[stS];split
  ·rw[Dg (he n)];exact ng he b n
  ·exact ng he b n
theorem kE{E:Nat->Eff}{st0:List V×Heap}{S:Nat->Bool}(he:∀ j b k u,(E j).2.2=some (b,k,u)->u.leaf=true){b k:Nat}:∀ n,(∀ j u,j<n->(E j).2.2≠some (b,k,u))->kS (stS E st0 S n).2 b k=kS st0.2 b k
 | 0,_=>rfl
 | n+1,h=>by
  rw[stS];split
  ·rw[AD (he n) fun u=>h n u (by omega)];exact kE he n fun j u hj=>h j u (by omega)
  ·exact kE he n fun j u hj=>h j u (by omega)
section
variable {P:Program}{cfg:Cfg}
theorem Bc{t:TypeId}{h g:Heap}{x v:V}(hv:fE P h t x=some v)(hl:v.leaf=true)(hc:∀ b k,x=.ptr b k->kS g b k=kS h b k/\nB g b=nB h b):fE P g t x=some v:=by
 unfold fE at hv ⊢;cases x<;>simp only at hv ⊢
 case ptr b k =>
  obtain⟨h1,h2⟩:=hc b k rfl;cases hb:ab h b with
  | none=>rw[hb]at hv;cases hv
  | some cs =>
   rw[hb]at hv;simp only[kS,nB,hb]at h1 h2;cases hg:ab g b with
   | none=>rw[hg]at h2;cases h2
   | some cs' =>
    rw[hg]at h1;simp only[Mb]at h1;simp only at hv ⊢;unfold part at hv ⊢;cases ha:oC P t with
    | none=>rw[ha]at hv;cases hv
    | some q =>
     rw[ha]at hv;cases q with
     | false=>exact h1.trans hv
     | true =>
      simp only at hv;split at hv
      ·split at hv
       ·cases hv;cases hl
       ·cases hv
      ·cases hv
 all_goals exact hv
theorem yA{t:TypeId}{h g h':Heap}{b k:Nat}{u:V}(hu:u.leaf=true)(hv:aQ P cfg h t (.ptr b k) u=some h')(hl:nB g b=nB h b):h'=gR h b k u/\aQ P cfg g t (.ptr b k) u=some (gR g b k u):=by
 have h3:cellsOf u=some [u]:=by cases u<;>first|rfl|(simp[V.leaf]at hu;done)
 unfold aQ at hv ⊢;cases hs:cz P t with
 | none=>rw[hs]at hv;cases hv
 | some s =>
  rw[hs,h3]at hv;rw[h3];simp only at hv ⊢;split at hv
  ·rename_i h4;rw[if_pos h4];unfold aP at hv ⊢;cases hb:ab h b with
   | none=>rw[hb]at hv;cases hv
   | some cs =>
    rw[hb]at hv;simp only[nB,hb,LW]at hl;cases hg:ab g b with
    | none=>rw[hg]at hl;cases hl
    | some cs' =>
     rw[hg]at hl;simp only[LW,Ll]at hl;simp only at hv ⊢;split at hv
     ·rename_i h0;rw[<- hl]at h0;rw[if_pos h0];cases hv;exact⟨by simp[gR,hb,putAt],by simp[gR,hg,putAt]⟩
     ·cases hv
  ·cases hv
theorem ue{o:Oper}{fr f:List V}{h g h':Heap}{v:V}{e:Eff}(hk:sOp o=true)(hv:opV P cfg fr h o.op=some (v,h'))(he:jx fr o v=some e)
  (hf:∀ p∈o.op.operands.toList,ev f p=ev fr p) (hl:∀ b k w,gV fr o=some (w,b,k)->nB g b=nB h b/\(w=false->kS g b k=kS h b k)):
  e.1=o.dst/\e.2.1=v/\h'=(dM (fr,h) e).2/\opV P cfg f g o.op=some (v,(dM (f,g) e).2)/\∀ b k u,e.2.2=some (b,k,u)->u.leaf=true/\gV fr o=some (true,b,k):=by
 unfold sOp at hk;split at hk
 ·rename_i x h0;rw[h0]at hv hf;unfold jx at he;rw[h0]at he;cases he;have e1:=hf x (by simp[Op.operands]);simp only[opV]at hv;obtain⟨h1,rfl⟩:=aF hv;exact⟨rfl,rfl,rfl,by rw[h0];simp only[opV,e1,h1];rfl,fun _ _ _ h=>by cases h⟩
 ·rename_i s x q h0;rw[h0]at hv hf;unfold jx at he;rw[h0]at he;cases he;have e1:=hf x (by simp[Op.operands]);simp only[opV]at hv;split at hv
  ·rename_i a ha;obtain⟨h1,rfl⟩:=aF hv;exact⟨rfl,rfl,rfl,by rw[h0];simp only[opV,e1,ha,h1];rfl,fun _ _ _ h=>by cases h⟩
  ·cases hv
 ·rename_i s x q h0;rw[h0]at hv hf;unfold jx at he;rw[h0]at he;cases he;have e1:=hf x (by simp[Op.operands]);have e2:=hf q (by simp[Op.operands]);simp only[opV]at hv;split at hv
  ·rename_i a b ha hb;obtain⟨h1,rfl⟩:=aF hv;exact⟨rfl,rfl,rfl,by rw[h0];simp only[opV,e1,e2,ha,hb,h1];rfl,fun _ _ _ h=>by cases h⟩
  ·cases hv
 ·rename_i s x h0;rw[h0]at hv hf;unfold jx at he;unfold gV at hl;rw[h0]at he hl;simp only at he hl;split at he
  ·rename_i h4;cases he;have e1:=hf x (by simp[Op.operands]);simp only[opV]at hv;split at hv
   ·rename_i a ha;obtain⟨h1,rfl⟩:=aF hv;refine⟨rfl,rfl,rfl,?_,fun _ _ _ h=>by cases h⟩;rw[h0];simp only[opV,e1,ha];rw[Bc (g:=g) h1 h4 fun b k hx=>by
     subst hx;rw[ha]at hl;have:=hl b k false rfl;exact⟨this.2 rfl,this.1⟩]
    rfl
   ·cases hv
  ·cases he
 ·rename_i s x q h0;rw[h0]at hv hf;have h3:gV fr o=match ev fr x with|some (.ptr b k)=>some (true,b,k)|_=>none:=by unfold gV;rw[h0];rfl
  unfold jx at he;rw[h0]at he;simp only at he;have e1:=hf x (by simp[Op.operands]);have e2:=hf q (by simp[Op.operands]);split at he
  ·rename_i b k u ha hb;split at he
   ·rename_i h4;cases he;rw[ha]at h3;have h6:=(hl b k true h3).1;simp only[opV,ha,hb]at hv;split at hv
    ·rename_i h2 h7;cases hv;obtain⟨g1,g2⟩:=yA (g:=g) h4 h7 h6;refine⟨rfl,rfl,g1,?_,fun _ _ _ h=>by cases h;exact⟨h4,h3⟩⟩;rw[h0];simp only[opV,e1,e2,ha,hb,g2];rfl
    ·cases hv
   ·cases he
  ·cases he
 ·rename_i bo s x q c h0;rw[h0]at hv hf;unfold jx at he;rw[h0]at he;cases he;have e1:=hf x (by simp[Op.operands]);have e2:=hf q (by simp[Op.operands]);simp only[opV]at hv;split at hv
  ·rename_i a b ha hb;obtain⟨h1,rfl⟩:=aF hv;exact⟨rfl,rfl,rfl,by rw[h0];simp only[opV,e1,e2,ha,hb,h1];rfl,fun _ _ _ h=>by cases h⟩
  ·cases hv
 ·cases hk
theorem HE:∀ (l:List Oper) (st:List V×Heap) (acc:List (Option (Bool×Nat×Nat))) (E:List Eff),runS P cfg l st acc=some E->E.length=l.length /\
  ∀ i o,l[i]?=some o->∃ v h' e,E[i]?=some e/\opV P cfg ((E.take i).foldl dM st).1 ((E.take i).foldl dM st).2 o.op=some (v,h')/\jx ((E.take i).foldl dM st).1 o v=some e /\
   (∀ y∈acc,jG (gV ((E.take i).foldl dM st).1 o) [y]=true)/\∀ j o',j<i->l[j]?=some o'->jG (gV ((E.take i).foldl dM st).1 o) [gV ((E.take j).foldl dM st).1 o']=true
 | [],st,acc,E,h=>by cases h;exact⟨rfl,fun i o ho=>by simp at ho⟩
 | o::r,st,acc,E,h=>by
  unfold runS at h;split at h
  ·rename_i v h' hv;split at h
   ·rename_i e he;split at h
    ·rename_i h4;obtain⟨E',h6,rfl⟩:=LG.1 h;obtain⟨hl,ih⟩:=HE r (dM st e) _ E' h6;have h0:∀ y∈acc,jG (gV st.1 o) [y]=true:=fun y hy=>by
      have:=Lp.1 h4 y hy;simpa[jG]using this
     refine⟨by simp[hl],fun i q hq=>?_⟩;cases i with
     | zero =>
      cases hq;exact⟨v,h',e,rfl,hv,he,h0,fun j _ hj=>absurd hj (by omega)⟩
     | succ i =>
      obtain⟨v2,h2,e2,g1,g2,g3,g4,g5⟩:=ih i q (by simpa using hq);refine⟨v2,h2,e2,by simpa using g1,g2,g3,fun y hy=>g4 y (Nb _ hy),fun j o' hj h3=>?_⟩;cases j with
      | zero=>cases h3;exact g4 _ (by simp)
      | succ j=>exact g5 j o' (by omega) (by simpa using h3)
    ·cases h
   ·cases h
  ·cases h
theorem vw{E:List Eff}{st0:List V×Heap}:∀ n,n<=E.length->(E.take n).foldl dM st0=stS (fun i=>E.getD i (none,.no,none)) st0 (fun _=>true) n
 | 0,_=>rfl
 | n+1,h=>by
  have e1:E.take (n+1)=E.take n++[E[n]]:=by rw[LO,Lc (by omega)];rfl
  have e2:E.getD n ((none,.no,none):Eff)=E[n]:=by rw[Lg,Lc (by omega)];rfl
  rw[e1,NZ,stS,if_pos rfl,<- vw n (by omega),e2];rfl
theorem Fe{l:List Oper}(h:th l=true):∀ (i j:Nat) (oi oj:Oper),i<j->l[i]?=some oi->l[j]?=some oj->oi.dst=none\/oi.dst≠oj.dst:=by
 induction l with
 | nil=>intro i j oi oj _ hi;simp at hi
 | cons o r ih =>
  simp only[th,Lq]at h;intro i j oi oj h0 hi hj;cases j with
  | zero=>exact absurd h0 (by omega)
  | succ j =>
   cases i with
   | zero =>
    cases hi;have:=Lp.1 h.1 oj (Le (by simpa using hj));simp only[Md,On,bne_iff_ne]at this;rcases this with h|h
    ·exact .inl h
    ·exact .inr (Ne.symm h)
   | succ i=>exact ih h.2 i j oi oj (by omega) (by simpa using hi) (by simpa using hj)
theorem qK{x y:Bool×Nat×Nat}(h:jG (some x) [some y]=true)(hw:x.1=true\/y.1=true):x.2≠y.2:=by
 obtain⟨w,c⟩:=x;obtain⟨w',c'⟩:=y;simp only[jG,OP,NH,M3,Md,Mx,decide_eq_true_eq]at h;simp only at hw ⊢;rcases h with h|h
 ·rcases hw with e|e<;>rw[e]at h<;>simp at h
 ·exact h
end
section
variable {P:Program}
theorem Cz{md:FuncId->Nat}{call:aW}(hm:P.follows .mixedOrders=true)(hN:dG P)(h7:cZ P call){cfg:Cfg}{ops:Array Oper}{fr:List V}{h:Heap}{fr':List V}{h':Heap}(hs:sOK P ops=true)(hd:Cy P cfg ops fr h=some (fr',h')):
  HS cfg h h'/\∀ m w a id,Rel m h w->FR m h w fr a->∀ (Q:Exit->Act->World->Prop),(∀ a' w',After m h w fr' h' a' w'->Q .normal a' w')->(Code.region id ops true).wp P Q a w:=by
 unfold sOK at hs;simp only[Lq]at hs;obtain⟨⟨⟨⟨hk,hg⟩,hH⟩,-⟩,g0⟩:=hs;have st:=nh g0;obtain⟨E,hE,g4⟩:=LG.1 hd;obtain⟨hlen,hI⟩:=HE _ _ _ _ hE;have hn:E.length=ops.size:=by simpa using hlen
 generalize hK:(fun i=>E.getD i ((none,.no,none):Eff))=En;have hC:∀ i,i<=ops.size->(E.take i).foldl dM (fr,h)=stS En (fr,h) (fun _=>true) i:=fun i hi=>by rw[<- hK];exact vw i (by omega)
 have hq:stS En (fr,h) (fun _=>true) ops.size=(fr',h'):=by
  rw[<- hC _ (Lh _),Lu (by omega)];exact g4
 have hy:∀ i o,ops[i]?=some o->∃ v hh,opV P cfg (stS En (fr,h) (fun _=>true) i).1 (stS En (fr,h) (fun _=>true) i).2 o.op=some (v,hh)/\jx (stS En (fr,h) (fun _=>true) i).1 o v=some (En i) /\
   ∀ j o',j<i->ops[j]?=some o'->jG (gV (stS En (fr,h) (fun _=>true) i).1 o) [gV (stS En (fr,h) (fun _=>true) j).1 o']=true:=fun i o ho=>by
  have hi:=(Lz.1 ho).1;obtain⟨v,hh,e,g1,g2,g3,_,g5⟩:=hI i o (by simpa using ho);have g6:En i=e:=by rw[<- hK];simp only[Lg,g1,MU]
  rw[hC i (by omega)]at g2 g3 g5;refine⟨v,hh,g2,by rw[g6];exact g3,fun j o' hj g7=>?_⟩;have:=g5 j o' hj (by simpa using g7);rw[hC j (by omega)]at this;exact this
 have h0:∀ i o,ops[i]?=some o->(En i).1=o.dst/\(∀ b k u,(En i).2.2=some (b,k,u)->u.leaf=true/\gV (stS En (fr,h) (fun _=>true) i).1 o=some (true,b,k)):=fun i o ho=>by
  obtain⟨v,hh,g2,g3,_⟩:=hy i o ho;have hf:=Lp.1 hk o (Le (by simpa using ho));obtain⟨a1,_,_,_,a5⟩:=ue (f:=(stS En (fr,h) (fun _=>true) i).1) (g:=(stS En (fr,h) (fun _=>true) i).2) hf g2 g3 (fun _ _=>rfl) fun _ _ _ _=>⟨rfl,fun _=>rfl⟩;exact⟨a1,a5⟩
 have h4:∀ j b k u,(En j).2.2=some (b,k,u)->u.leaf=true:=fun j b k u hj=>by
  cases ho:ops[j]? with
  | none =>
   have:ops.size<=j:=by simpa using ho
   rw[<- hK]at hj;simp only[Lg]at hj;rw[Lw (by omega)]at hj;cases hj
  | some o=>exact ((h0 j o ho).2 b k u hj).1
 have hL:∀ i j,i<j->j<ops.size->ComE (En i) (En j):=fun i j hT hj=>by
  have hz:ops[i]?=some ops[i]:=Lr (by omega);have h6:ops[j]?=some ops[j]:=Lr hj;refine⟨?_,h4 i,h4 j,fun b k u b' k' u' h1 h2 e=>?_⟩
  ·rw[(h0 i _ hz).1,(h0 j _ h6).1];exact Fe hH i j _ _ hT (by simpa using hz) (by simpa using h6)
  ·obtain⟨_,_,_,_,g5⟩:=hy j _ h6;have:=g5 i _ hT hz;rw[((h0 i _ hz).2 b k u h1).2,((h0 j _ h6).2 b' k' u' h2).2]at this;exact qK this (.inl rfl) e.symm
 have h8:∀ (S:Nat->Bool),Closed ops S->∀ i o,ops[i]?=some o->S i=false->Ready S o->gS P md call cfg ops o (stS En (fr,h) S ops.size).1 (stS En (fr,h) S ops.size).2=some ((stS En (fr,h) (bI S i) ops.size).1,(stS En (fr,h) (bI S i) ops.size).2):=fun S h9 i o ho hM hr=>by
  have hi:=(Lz.1 ho).1;have hf:=Lp.1 hk o (Le (by simpa using ho));have g8:o.guard=none:=by simpa using Lp.1 hg o (Le (by simpa using ho))
  obtain⟨v,hh,g2,g3,g5⟩:=hy i o ho;have g9:stS En (fr,h) (fun _=>true) i=stS En (fr,h) (fun j=>decide (j<i)) ops.size:=(kD _ (by omega)).symm;have hv:∀ s∈o.looksAt ops,(stS En (fr,h) S ops.size).1[s]?=(stS En (fr,h) (fun _=>true) i).1[s]?:=fun s hs=>by
   rw[g9];refine wV _ fun j hj hO=>?_;have h6:ops[j]?=some ops[j]:=Lr hj;rw[(h0 j _ h6).1]at hO;rcases Mk j i with hD|rfl|hgt
   ·rw[decide_eq_true hD];rcases st.head j i _ o hD hi h6 ho with h|⟨h,_⟩
    ·exact cN st.back h9 i o ho hr h
    ·exact absurd hs ((Oper.apart_spec h).1 s hO)
   ·rw[hM];simp
   ·rw[decide_eq_false (by omega)];cases k0:S j with
    | false=>rfl
    | true =>
     rcases st.head i j o _ hgt hj ho h6 with h|⟨h,_⟩
     ·have:=cN st.back h9 j _ h6 (h9 j _ h6 k0) h;rw[hM]at this;cases this
     ·exact absurd hs ((Oper.apart_spec h).2.2 s hO)
  obtain⟨a1,a2,_,a4,_⟩:=ue (f:=(stS En (fr,h) S ops.size).1) (g:=(stS En (fr,h) S ops.size).2) hf g2 g3 (fun p hp=>(mc hv p hp)) fun b k w ha=>by
   refine⟨by rw[ng h4,ng h4],fun hw=>?_⟩;subst hw;have hX:∀ j u,j<ops.size->(En j).2.2≠some (b,k,u):=fun j u hj hw=>by
    have h6:ops[j]?=some ops[j]:=Lr hj;have hA:=((h0 j _ h6).2 b k u hw).2;rcases Mk j i with hD|rfl|hgt
    ·have:=g5 j _ hD h6;rw[ha,hA]at this;exact qK this (.inr rfl) rfl
    ·rw[ho]at h6;rw[<- Option.some.inj h6,ha]at hA;cases hA
    ·obtain⟨_,_,_,_,q5⟩:=hy j _ h6;have:=q5 i _ hgt ho;rw[ha,hA]at this;exact qK this (.inl rfl) rfl
   rw[kE h4 _ hX,kE h4 _ fun j u hj=>hX j u (by omega)]
  have hP:bg o=false\/∃ t x y,o.op=.store t x y:=by
   unfold sOp at hf;unfold bg;split at hf<;>rename_i hl<;>first
    | (left;rw[hl];done)
    | (right;exact⟨_,_,_,hl⟩)
    | (cases hf;done)
  have hl:aH P md call cfg (stS En (fr,h) S ops.size).1 (stS En (fr,h) S ops.size).2 o.op=opV P cfg (stS En (fr,h) S ops.size).1 (stS En (fr,h) S ops.size).2 o.op:=by
   rcases hP with hP|⟨t,x,y,hl⟩
   ·exact fH hP
   ·rw[hl];rfl
  have hR:=Ad (E:=En) (st0:=(fr,h)) hM ops.size hi fun j h1 h2=>hL i j h1 h2;unfold gS cY;rw[g8];simp only[hl,a4,hR];rw[<- a1,<- a2];rfl
 have hc:∀ n,n<=ops.size->HS cfg h (stS En (fr,h) (fun j=>decide (j<n)) ops.size).2:=by
  intro n
  induction n with
  | zero =>
   intro _;have:stS En (fr,h) (fun j=>decide (j<0)) ops.size=(fr,h):=by rw[kD _ (LJ _)];rfl
   rw[this];exact .refl _ _
  | succ n ih =>
   intro k3;have hY:ops[n]?=some ops[n]:=Lr (by omega);have h9:Closed ops fun j=>decide (j<n):=fun i o ho hi e he hb=>by
    have:=st.back i o ho e he hb;simp only[decide_eq_true_eq]at hi ⊢;omega
   have h1:=h8 (fun j=>decide (j<n)) h9 n _ hY (by simp) fun e he hb=>by
    have:=st.back n _ hY e he hb;simp only[decide_eq_true_eq];omega
   have h2:=(kF hN h7 h1).1;have h3:stS En (fr,h) (bI (fun j=>decide (j<n)) n) ops.size=stS En (fr,h) (fun j=>decide (j<n+1)) ops.size:=iC _ fun j _=>by
    unfold bI;by_cases hZ:j=n
    ·subst hZ;simp
    ·simp[hZ];omega
   rw[h3]at h2;exact (ih (by omega)).trans h2
 refine⟨?_,fun m w a id r fR Q hQ=>?_⟩
 ·have:=hc ops.size (Lh _);rw[kD _ (Lh _),hq]at this;exact this
 ·refine rK hm st.back (fun S a' w'=>After m h w (stS En (fr,h) S ops.size).1 (stS En (fr,h) S ops.size).2 a' w') (fun S a' w' hJ h9 i o ho hS hr=>?_) (fun S a' w' hJ hc=>?_) ?_
  ·obtain⟨m',e',r',f'⟩:=hJ;obtain⟨_,k1⟩:=kF hN h7 (h8 S h9 i o ho hS hr);unfold wpOp;rw[ho];simp only;exact k1 m' w' a' r' f' _ Q fun a2 w2 k2=>k2.trans e'
  ·have:stS En (fr,h) S ops.size=(fr',h'):=by rw[<- hq];exact iC _ fun j hj=>hc j hj
   rw[this]at hJ;exact hQ a' w' hJ
  ·have:stS En (fr,h) (fun _=>false) ops.size=(fr,h):=by
    have h1:∀ n,stS En (fr,h) (fun _=>false) n=(fr,h):=by
     intro n
     induction n with
     | zero=>rfl
     | succ n ih=>rw[stS,if_neg (by simp),ih]
    exact h1 _
   rw[this];generalize hF:({ w with drawn:=w.drawn+1 }:World)=w1;have hh:w1.heap=w.heap:=by rw[<- hF]
   have ho:w1.os=w.os:=by rw[<- hF]
   have ht:w1.tape=w.tape:=by rw[<- hF]
   have hu:w1.output=w.output:=by rw[<- hF]
   have e1:Evo m h w m h w1:=gr hh ho ht hu;exact⟨m,e1,jM r hh ho ht hu,fR.evo r e1⟩
end
end Go.Ab
namespace Go.Ab
section
variable {P:Program}{md:FuncId->Nat}{call:aW}{cfg:Cfg}{ops:Array Oper}{N:Nat}{x:List Nat}{F:Nat->List V}{H:Nat->Heap}{v:Nat->V}
theorem tr_HS(hN:dG P)(h0:cZ P call)(tr:Tr P md call cfg ops N x F H v)(hle:N<=ops.size):∀ i,i<=N->HS cfg (H 0) (H i):=by
 intro i
 induction i with
 | zero=>intro _;exact .refl _ _
 | succ i ih =>
  intro hi;refine (ih (by omega)).trans ⟨tr.len1 hle (by omega),fun b hb hw=>(tr.hs hN h0 hle (by omega)).1 b hb fun hx=>?_,fun D t _ h2 hinv=>(tr.hs hN h0 hle (by omega)).2.2 D t h2 hinv⟩;rw[tr.xwr b hx]at hw;cases hw
theorem CM(fr:List V)(n:Nat):frS ops v (fun _=>false) fr n=fr:=by
 induction n with
 | zero=>rfl
 | succ n ih=>simp only[frS,LH,if_false,ih];split<;>rfl
theorem Fu{S:Nat->Bool}(fr:List V)(n:Nat)(hS:∀ j,j<n->S j=true):frS ops v S fr n=frS ops v (fun _=>true) fr n:=by
 induction n with
 | zero=>rfl
 | succ n ih=>simp only[frS,ih fun j hj=>hS j (by omega),hS n (by omega)]
theorem G_all(hN:dG P)(h0:cZ P call)(tr:Tr P md call cfg ops N x F H v)(hle:N<=ops.size){k:Nat}(hk:k<=N)(h6:∀ j (hj:j<ops.size),k<=j->j<N->bg ops[j]=false):G H N x k=H N:=
 oN tr hle (Lh N) hk fun b _ hb=>by
  have h1:=(lQ H b N).2.1;have h2:b<(H (max k (bi H b N))).length:=LF (rU (Lh _) hb) (tr.len hle (by omega) (by omega));exact tr.xsame hN h0 hle (by omega) (Lh _) h2 fun j hj h3 h4=>h6 j hj (by omega) h4
theorem C9(hN:dG P)(h7:cZ P call)(tr:Tr P md call cfg ops N x F H v)(hle:N<=ops.size){m:Mu}{w:World}{a:Act}(r:Rel m (H 0) w)(fR:FR m (H 0) w (F 0) a):
  ∃ m',JH ops N x F H v m w (fun _=>false) a { w with drawn:=w.drawn+1 } m' 0:=by
 generalize ha:({ w with drawn:=w.drawn+1 }:World)=w1;have hh:w1.heap=w.heap:=by rw[<- ha]
 have ho:w1.os=w.os:=by rw[<- ha]
 have ht:w1.tape=w.tape:=by rw[<- ha]
 have hu:w1.output=w.output:=by rw[<- ha]
 have r1:Rel m (H 0) w1:=jM r hh ho ht hu;have e1:Evo m (H 0) w m (H 0) w1:=gr hh ho ht hu;have hgt:(G H N x 0).take (H 0).length=H 0:=by
  rw[px hN h7 tr hle (LJ _),oN tr hle (LJ _) (LJ _) fun b _ hb=>by rw[show max 0 (bi H b N)=0 by have:=uD (N:=N) hb;omega]]
 have hE:(G H N x 0).length=(H N).length:=lO 0;have hF:=tr.len hle (LJ N) (Lh N);have h0:∀ b,b<(H 0).length->(G H N x 0)[b]?=(H 0)[b]?:=by
  intro b hb;have:((G H N x 0).take (H 0).length)[b]?=(H 0)[b]?:=by rw[hgt]
  rwa [LN,if_pos hb]at this
 have h8:∀ b,b<(H 0).length->(live (G H N x 0) b↔live (H 0) b):=fun b hb=>by simp only[live,h0 b hb]
 generalize hd:(⟨fun b=>if b<(H 0).length then m b else none,m.z⟩:Mu)=m1;have hf:m1.z=m.z:=by rw[<- hd]
 have h6:∀ b c,m1 b=some c->b<(H 0).length/\m b=some c:=by
  intro b c h9;rw[<- hd]at h9;simp only at h9;split at h9
  ·rename_i hn;exact⟨hn,h9⟩
  ·cases h9
 have hq:∀ b,b<(H 0).length->m1 b=m b:=fun b hb=>by rw[<- hd];simp[hb]
 have hR:∀ {y:V} {z:Value},R m (H 0) w1 y z->R m1 (G H N x 0) w1 y z:=by
  intro y z hr;have hz:m.z=(Mu.cut ⟨fun _=>none,m.z⟩ (G H N x 0) (H 0).length).z:=by
   funext b;simp[Mu.cut]
  have:=R.glue (m:=⟨fun _=>none,m.z⟩) (g:=G H N x 0) (m':=m) (g':=G H N x 0) (w':=w1) (n:=(H 0).length) (n':=(H 0).length) hz (Lh _) (fun _ _=>rfl) (by omega) (x:=y) (v:=z) (by rw[hgt];exact hr);have hv:Mu.glue ⟨fun _=>none,m.z⟩ m (H 0).length=m1:=by rw[<- hd];rfl
  rwa [hv]at this
 refine⟨m1,LJ _,fun i _ _ _=>by simp,fun _ _=>rfl,fun b _ c _ _ _ _=>by rw[show max 0 (c+1)=c+1 by omega],?_,?_,?_,fun b c hl hm=>.inl (h6 b c hm).1,fun b c cs hc hm j hj hH e he=>?_,fun i h=>by cases h⟩
 ·refine⟨hf,by omega,fun b hb hl=>⟨(h8 b hb).1 hl,hq b hb⟩,fun b c hl hc=>?_,e1.frame,e1.size,e1.rs,ho,ht,hu⟩;obtain⟨h1,h2⟩:=h6 b c hc;exact .inl ⟨b,(h8 b h1).1 hl,h2⟩
 ·refine⟨fun b c hl hc=>?_,fun b hb=>r1.zl b (by rw[<- hf];exact hb),fun b b' c hl hw hc hA=>?_,fun b cs c hg hc=>?_⟩
  ·obtain⟨h1,h2⟩:=h6 b c hc;rw[hf];exact r1.zo b c ((h8 b h1).1 hl) h2
  ·obtain⟨h1,h2⟩:=h6 b c hc;obtain⟨h3,h4⟩:=h6 b' c hA;exact r1.inj b b' c ((h8 b h1).1 hl) ((h8 b' h3).1 hw) h2 h4
  ·obtain⟨h1,h2⟩:=h6 b c hc;rw[h0 b h1]at hg;exact (r1.blk b cs c hg h2).carry rfl fun d z _ hD=>hR hD
 ·rw[CM];exact⟨fR.len,fun s y z hy hz=>hR ((fR.slot s y z hy hz).evo e1 r.lt),fR.defers⟩
 ·obtain⟨h1,h2⟩:=h6 b c hm;rw[h0 b h1]at hc;exact ((r1.blk b cs c hc h2).bel he).mono (tr.len hle (LJ j) hj)
theorem C8{m0:Mu}{w0:World}(st:Static P ops N)(hN:dG P)(ha:cZ P call)(tr:Tr P md call cfg ops N x F H v)(hK:∀ (s:Nat) (c:V),(F 0)[s]?=some c->Bel (H 0).length c){S:Nat->Bool}{a:Act}{w:World}{m:Mu}{k:Nat}
  (J:JH ops N x F H v m0 w0 S a w m k) (hq:Closed ops S) {i:Nat} {o:Oper} (hi:i<N) (ho:ops[i]?=some o) (hS:S i=false) (hr:Ready S o) (h7:cU P o=true):
  ∃ u,Blind P ops o a u/\∃ m' k',JH ops N x F H v m0 w0 (bI S i) (a.put o.dst u) w m' k':=by
 have hle:=st.le;have h0:∀ s∈o.looksAt ops,(frS ops v S (F 0) N)[s]?=(F i)[s]?:=fun s hs=>zY st tr hq hi ho hS hr hs;have hE:∀ q,(G H N x q).length=(H N).length:=lO;have hF:=tr.len hle (by omega:i<=N) (Lh N);obtain⟨hP,hf⟩:=tr.step i o hi ho;have hI:∀ b,cY ops (F i) o=some b->Region.wanted o (yielded ops a.tmps)=b:=fun b hb=>iG J.fR (by rw[oA h0];exact hb);have h4:∀ s∈o.looksAt ops,∀ c,(F i)[s]?=some c->Bel (H i).length c:=by
  intro s hs;refine wK tr hle (hK s) i (by omega) fun j oj hj hL hd=>?_;have hM:S j=true:=by
   rcases st.head j i oj o hj hi hL ho with h|⟨h,_⟩
   ·exact cN st.back hq i o ho hr h
   ·exact absurd hs ((Oper.apart_spec h).1 s hd)
  exact J.vb j hM (by omega)
 have h6:Rel (m.cut (G H N x k) (H i).length) ((G H N x k).take (H i).length) w:=J.rel.cut (by rw[hE];exact hF) fun b cs c hb hc hm e he=>J.bel b c cs hc hm i (by omega) hb e he;have h8:FR (m.cut (G H N x k) (H i).length) ((G H N x k).take (H i).length) w (fj (o.looksAt ops) (frS ops v S (F 0) N)) a:=by
  refine⟨by rw[kX];exact J.fR.len,fun s y z hy hz=>?_,J.fR.defers⟩;by_cases hs:s∈o.looksAt ops
  ·rw[kj hs]at hy;exact (J.fR.slot s y z hy hz).cut (by rw[hE];exact hF) (h4 s hs y (by rw[<- h0 s hs];exact hy))
  ·rw[qL hs hy];exact .any _
 have hg:∀ s∈o.looksAt ops,(F i)[s]?=(fj (o.looksAt ops) (frS ops v S (F 0) N))[s]?:=fun s hs=>by rw[kj hs,h0 s hs]
 have hn:bg o=false:=by
  unfold cU at h7;unfold bg;split at h7<;>rename_i hl<;>first
   | (rw[hl];done)
   | (split at h7<;>first|(rw[hl];done)|(cases h7;done))
   | (cases h7;done)
 have h9:∀ b∈x,∀ c,c<N->(H c).length<=b->b<(H (c+1)).length->bI S i c=false->(H (max k (c+1)))[b]?=(H (c+1))[b]?:=by
  intro b hb c hc h1 h2 h3;refine J.born b hb c hc h1 h2 ?_;by_cases hJ:c=i
  ·rw[hJ];exact hS
  ·rwa [dH hJ]at h3
 -- what it leaves, and the step
 have fin:∀ u,H (i+1)=H i->R (m.cut (G H N x k) (H i).length) ((G H N x k).take (H i).length) w (v i) u->∃ m' k',JH ops N x F H v m0 w0 (bI S i) (a.put o.dst u) w m' k':=by
  intro u hH ht;refine⟨_,k,xN st hN ha tr J hq hi ho hS J.kle (.inl rfl) h9 (lk J.kcall ho hn) (m':=m.cut (G H N x k) (H i).length) (w':=w) (u:=u) (by rw[hH];exact .refl _ _ _) (by rw[hH];exact h6) (by rw[hH];exact ht) ?_⟩;intro b c cs hb _ hc hm j hj hO e he;exact J.bel b c cs hc (by simpa[Mu.cut,hb]using hm) j hj hO e he
 rcases hf with⟨hw,hv,hH⟩|⟨hw,hA,hh,hl,hQ⟩|⟨hw,hA,_⟩
 ·exact⟨undef,.inr ⟨hI false hw,rfl⟩,fin undef hH (by rw[hv];exact .no)⟩
 ·obtain⟨hH,_⟩:=qp h7 hl;have hD:opV P cfg (fj (o.looksAt ops) (frS ops v S (F 0) N)) (H i) o.op=some (v i,H (i+1)):=by
   have h1:aH P md call cfg (F i) (H i) o.op=some (v i,H (i+1)):=by rw[fH hn];exact hl
   rw[lK (mc hg),fH hn]at h1;exact h1
  obtain⟨u,hu,ht⟩:=qq h7 hD h8;exact⟨u,.inl ⟨hI true hw,hu⟩,fin u hH ht⟩
 ·rw[hn]at hA;cases hA
theorem yz{m0:Mu}{h0:Heap}{w0:World}{o:Oper}(h4:cU P o=true){fr fr2:List V}{h h2:Heap}(h3:gS P md call cfg ops o fr h=some (fr2,h2)){a:Act}{w:World}(k:After m0 h0 w0 fr h a w):
  ∃ u,Blind P ops o a u/\After m0 h0 w0 fr2 h2 (a.put o.dst u) w:=by
 obtain⟨m,e,r,f⟩:=k;have h7:bg o=false:=by
  unfold cU at h4;unfold bg;split at h4<;>rename_i h6<;>first
   | (rw[h6];done)
   | (split at h4<;>first|(rw[h6];done)|(cases h4;done))
   | (cases h4;done)
 unfold gS at h3;split at h3
 ·rename_i hw;rw[fH h7]at h3;split at h3
  ·rename_i y h1 h6;simp only[Ll,LL]at h3;obtain⟨rfl,rfl⟩:=h3;obtain⟨rfl,_⟩:=qp h4 h6;obtain⟨u,hu,h8⟩:=qq h4 h6 f;exact⟨u,.inl ⟨iG f hw,hu⟩,m,e,r,f.put h8 o.dst⟩
  ·cases h3
 ·rename_i hw;simp only[Ll,LL]at h3;obtain⟨rfl,rfl⟩:=h3;exact⟨undef,.inr ⟨iG f hw,rfl⟩,m,e,r,f.put .no o.dst⟩
 ·cases h3
theorem pY(hN:dG P)(h0:cZ P call){cfg:Cfg}{ops:Array Oper}{fr:List V}{h:Heap}{fr':List V}{h':Heap}(hd:pX P md call cfg ops fr h=some (fr',h')):xi ops/\(∀ (j:Nat) (o:Oper) cs b,ops[j]?=some o->o.op≠.select cs b)/\HS cfg h h' /\
  ∀ m w a,Rel m h w->FR m h w fr a->∀ (Q:Exit->Act->World->Prop),(∀ a' w',After m h w fr' h' a' w'->Q .normal a' w')->wpAny P .any ops (only Q) ops.size (Array.replicate ops.size false) a { w with drawn:=w.drawn+1 }:=by
 unfold pX at hd;simp only at hd;split at hd
 ·rename_i hH;split at hd
  ·rename_i fr1 h1 x ld he;split at hd
   ·rename_i hI;have st:=nh hH;generalize jY (eW P 0 ops.toList) (ju [] ops.toList) ops.size=N at st he hd;obtain⟨F,H,v,hK,hL,hM,hO,tr⟩:=BE hN h0 st.le he hI;subst hK hL hM hO;obtain⟨hP,_⟩:=nL hN h0 _ hd;refine⟨st.back,st.nosel,(tr_HS hN h0 tr st.le N (Lh _)).trans hP,fun m w a r fR Q hQ=>?_⟩;have hg:∀ (s:Nat) (c:V),(F 0)[s]?=some c->Bel (H 0).length c:=by
     intro s c hc;have hR:s<a.tmps.size:=by rw[<- fR.len];exact (Ld.1 hc).1
     exact (fR.slot s c _ hc (Lr hR)).bel
    -- all of the first ones have been carried out
    have done:∀ (S:Nat->Bool) (a':Act) (w':World) (m':Mu) (k:Nat),JH ops N x F H v m w S a' w' m' k->(∀ j,j<N->S j=true)->After m (H 0) w (F N) (H N) a' w':=by
     intro S a' w' m' k J h3;have hG:G H N x k=H N:=G_all hN h0 tr st.le J.kle fun j hj g0 hz=>by
      cases hc:bg ops[j]with
      | false=>rfl
      | true=>have:=(J.kcall j hj hz hc).1 (h3 j hz);omega
     have hf:frS ops v S (F 0) N=F N:=by rw[Fu (F 0) N h3,<- GR tr st.le (Lh N)]
     exact⟨m',by rw[<- hG];exact J.evo,by rw[<- hG];exact J.rel,by rw[<- hG,<- hf];exact J.fR⟩
    let J:(Nat->Bool)->Act->World->Prop:=fun S a' w'=>(∃ m' k,JH ops N x F H v m w S a' w' m' k) \/
     ∃ t frt ht,N<t/\t<=ops.size/\(∀ i,i<ops.size->(S i=true↔i<t))/\After m (H 0) w frt ht a' w'/\dE P md call cfg ops (ops.toList.drop t) frt ht=some (fr',h')
    obtain⟨m1,h9⟩:=C9 hN h0 tr st.le r fR
    -- one of the last ones
    have unroll:∀ (t:Nat) (o:Oper) (frt:List V) (ht:Heap),ops[t]?=some o->dE P md call cfg ops (ops.toList.drop t) frt ht=some (fr',h') ->
      ∃ fr2 h2,gS P md call cfg ops o frt ht=some (fr2,h2)/\dE P md call cfg ops (ops.toList.drop (t+1)) fr2 h2=some (fr',h'):=by
     intro t o frt ht hA h4;have hT:t<ops.toList.length:=by simpa using (Lz.1 hA).1
     have hX:ops.toList[t]=o:=by simpa using (Lz.1 hA).2
     rw[LC hT,hX]at h4;simp only[dE]at h4;split at h4
     ·rename_i fr2 h2 hh;exact⟨fr2,h2,hh,h4⟩
     ·cases h4
    have grow:∀ (S:Nat->Bool) (t:Nat),(∀ i,i<ops.size->(S i=true↔i<t))->∀ i,i<ops.size->(bI S t i=true↔i<t+1):=by
     intro S t h6 i hi;by_cases hn:i=t
     ·subst hn;simp[gj]
     ·rw[dH hn,h6 i hi];omega
    -- where one of the last ones stands when it comes up
    have place:∀ (S:Nat->Bool) (a':Act) (w':World),J S a' w'->∀ (i:Nat) (o:Oper),N<=i->ops[i]?=some o->S i=false->(∀ p,p<i->S p=true) ->
      (∀ j,j<ops.size->(S j=true↔j<i))/\∃ frt ht,After m (H 0) w frt ht a' w'/\dE P md call cfg ops (ops.toList.drop i) frt ht=some (fr',h'):=by
     intro S a' w' hJ i o h7 ho hS h3;have hq:i<ops.size:=(Lz.1 ho).1;rcases hJ with⟨m',k,JJ⟩|⟨t,frt,ht,hD,hE,h6,h8,h4⟩
     ·have hu:i=N:=by
       rcases LX N i with h|h
       ·have h1:=h3 N h;rw[JJ.tail N (Lh _)]at h1;cases h1
       ·omega
      subst hu;refine⟨fun j hj=>⟨fun h=>?_,fun h=>h3 j h⟩,_,_,done S a' w' m' k JJ h3,hd⟩;rcases LX j i with h2|h2
      ·exact h2
      ·rw[JJ.tail j h2]at h;cases h
     ·have hn:i=t:=by
       have h1:¬ i<t:=fun h=>by have:=(h6 i hq).2 h;rw[hS]at this;cases this
       rcases LX t i with h|h
       ·have:=(h6 t (by omega)).1 (h3 t h);omega
       ·omega
      subst hn;exact⟨h6,frt,ht,h8,h4⟩
    have early:∀ (S:Nat->Bool) (a':Act) (w':World),J S a' w'->∀ i,i<N->S i=false->∃ m' k,JH ops N x F H v m w S a' w' m' k:=by
     intro S a' w' hJ i h7 hS;rcases hJ with h|⟨t,frt,ht,hD,hE,h6,h8,h4⟩
     ·exact h
     ·have:=(h6 i (by omega)).2 (by omega);rw[hS]at this;cases this
    refine sW st J ?_ ?_ ?_ (.inl ⟨m1,0,h9⟩)
    ·intro S a' w' hJ hl i o ho hS hr hF hv;have hq:i<ops.size:=(Lz.1 ho).1;rcases LX i N with h7|h7
     ·obtain⟨m',k,JJ⟩:=early S a' w' hJ i h7 hS;obtain⟨u,hb,h⟩:=C8 st hN h0 tr hg JJ hl h7 ho hS hr hF;exact⟨u,hb,.inl h⟩
     ·obtain⟨h6,frt,ht,h8,h4⟩:=place S a' w' hJ i o h7 ho hS (pE st hl h7 ho hr hv);obtain⟨fr2,h2,hh,ha⟩:=unroll i o frt ht ho h4;obtain⟨u,hb,hm⟩:=yz hF hh h8;exact⟨u,hb,.inr ⟨i+1,fr2,h2,by omega,by omega,grow S i h6,hm,ha⟩⟩
    ·intro S a' w' hJ hl hw i o ho hS hr;have hq:i<ops.size:=(Lz.1 ho).1;rcases LX i N with h7|h7
     ·obtain⟨m',k,JJ⟩:=early S a' w' hJ i h7 hS;exact wpOp_mono (fun a2 w2 h=>.inl h) (FP st hN h0 tr hg JJ hl h7 ho hS hr (only Q))
     ·obtain⟨h6,frt,ht,⟨m',e',r',f'⟩,h4⟩:=place S a' w' hJ i o h7 ho hS (pE st hl h7 ho hr fun p q _=>hw p q);obtain⟨fr2,h2,hh,ha⟩:=unroll i o frt ht ho h4;obtain⟨_,hY⟩:=kF hN h0 hh;unfold wpOp;rw[ho];simp only;exact hY m' w' a' r' f' _ (only Q) fun a2 w2 k2=>.inr ⟨i+1,fr2,h2,by omega,by omega,grow S i h6,k2.trans e',ha⟩
    ·intro S a' w' hJ h3;rcases hJ with⟨m',k,JJ⟩|⟨t,frt,ht,hD,hE,h6,h8,h4⟩
     ·have g1:N=ops.size:=by
       rcases LX N ops.size with h|h
       ·have:=h3 N h;rw[JJ.tail N (Lh _)]at this;cases this
       ·have:=st.le;omega
      have hy:=done S a' w' m' k JJ fun j hj=>h3 j (by omega);rw[MA (by simp;omega)]at hd;simp only[dE,Ll,LL]at hd;obtain⟨h1,h2⟩:=hd;rw[<- h1,<- h2]at hQ;exact hQ a' w' hy
     ·have hZ:t=ops.size:=by
       rcases LX t ops.size with h|h
       ·have:=(h6 t h).1 (h3 t h);omega
       ·omega
      rw[MA (by simp;omega)]at h4;simp only[dE,Ll,LL]at h4;obtain⟨h1,h2⟩:=h4;rw[<- h1,<- h2]at hQ;exact hQ a' w' h8
   ·cases hd
  ·cases hd
 ·cases hd
theorem Cx(hm:P.follows .mixedOrders=true)(hN:dG P)(h4:cZ P call):xk P (fC P md call):=by
 intro cfg ops fr h fr' h' hd;unfold fC at hd;split at hd
 ·rename_i h7;unfold sN at h7;split at hd
  ·rename_i o ho;rw[ho]at h7;simp only[Lq,Lp,On]at h7;obtain⟨⟨⟨h0,ht⟩,-⟩,hA⟩:=h7;split at hd
   ·rename_i x hg;split at hd
    ·rename_i v hv;have hne:ops.toList≠[]:=fun e=>by rw[e]at ho;cases ho
     have ha:ops.toList.getLast hne=o:=by
      rw[N6 hne]at ho;exact Mq ho
     obtain⟨ops0,h6⟩:∃ ops0,ops.toList.dropLast.toArray=ops0:=⟨_,rfl⟩;rw[h6]at hd;have h3:ops=ops0.push o:=by
      apply MZ;rw[<- h6,NW,<- ha];exact (MD hne).symm
     obtain⟨hc,hl,hs,hw⟩:=pY hN h4 hd;have hD:∀ (i:Nat) (q:Oper),ops0[i]?=some q->q.guard=none:=fun i q hq=>ht q (by rw[h3,NW];exact Nb _ (Le (by simpa using hq)));have hn:ops[ops0.size]?=some o:=by rw[h3];simp
     have h9:o.after=#[]:=by
      unfold Ha at h0;rw[hg]at h0;split at h0
      ·simpa using h0
      ·cases h0
     refine⟨hs,fun m w a id r fR Q hQ=>kZ hm ?_⟩;have hE:∃ u,Blind P ops o a u/\R m h w v u:=by
      obtain⟨u,hu,hr⟩:=qq (P:=P) (o:=o) (cfg:=cfg) (h:=h) (h':=h) (v:=v) (by simp[cU,hg]) (by simp only[hg,opV,hv];rfl) fR;exact⟨u,.inl ⟨by simp only[Region.wanted,ht o (by rw[h3,NW];simp)],hu⟩,hr⟩
     obtain⟨u,hb,hr⟩:=hE;have hh:ops.size=ops0.size+1:=by rw[h3];simp
     have hf:(Array.replicate ops.size false).setIfInBounds ops0.size true=(Array.replicate ops0.size false).push true:=by
      apply NQ;intro z;rw[hh];simp only[Nz,MY,Array.size_replicate,Na];by_cases hz:ops0.size=z
      ·subst hz;simp
      ·simp[hz,show ¬ z=ops0.size from fun e=>hz e.symm];by_cases hy:z<ops0.size
       ·simp[hy,show z<ops0.size+1 by omega]
       ·simp[hy,show ¬ z<ops0.size+1 by omega]
     have h8:setOf (Array.replicate ops.size false)=fun _=>false:=by
      funext i;simp[setOf,Mg,Na];split<;>rfl
     rw[hh];rw[hh]at hf h8;refine wpAny_first (ops:=ops) (fun j q cs b hq=>?_) hn ops0.size _ a _ (by simp[hh]) (by rw[h8]) (by rw[h8];intro e he;rw[h9]at he;cases he) (fun j oj hj hF _ S _ _ _ _=>?_) (by rw[h8];intro i o _ h;cases h) hb ?_
     ·rw[h3,MY]at hq;split at hq
      ·cases hq;rw[hg];exact fun e=>by cases e
      ·exact hl j q cs b hq
     ·refine Ap.of (hA oj ?_);rw[h3,MY,if_neg hF]at hj;have:ops.toList.dropLast=ops0.toList:=by rw[<- h6]
      rw[this];exact Le (by simpa using hj)
     ·rw[hf,h3];exact yH hD hc _ _ _ _ (by simp) (hw m w _ r (fR.put hr o.dst) Q hQ)
    ·cases hd
   ·cases hd
  ·cases hd
 ·split at hd
  ·exact Cz (md:=md) (call:=call) hm hN h4 (by assumption) hd
  ·obtain⟨_,_,hs,hw⟩:=pY hN h4 hd;exact⟨hs,fun m w a id r fR Q hQ=>kZ hm (hw m w a r fR Q hQ)⟩
end
end Go.Ab
namespace Go.Ab
open Go.RowKit (Below)
abbrev Prim:=Cfg->List V->Heap->Option (V×Heap)
def aN(P:Program)(md:FuncId->Nat)(prim:FuncId->Option Prim)(n:Nat):Nat->aW
 | 0=>fun _ _ _ _=>none
 | d+1=>fun cfg f args h=>match prim f with
  | some p=>p cfg args h
  | none=>match P.funcs[f]? with
   | none=>none
   | some fn=>Pj P md (aN P md prim n d) (fC P md (aN P md prim n d)) n cfg fn args h
def cM(P:Program)(f:FuncId)(p:Prim):Prop:=∀ cfg args h r h',p cfg args h=some (r,h')->HS cfg h h'/\(∃ fn,P.funcs[f]?=some fn/\fn.body.isNone=false) /\
 ∀ m w vs,Rel m h w->PW m h w args vs->Calls P f vs w fun e w'=>∃ v,e=.returned v/\Out m h w r h' v w'
section
variable {P:Program}{md:FuncId->Nat}{prim:FuncId->Option Prim}{n:Nat}
theorem ee(hm:P.follows .mixedOrders=true)(hN:dG P)(hp:∀ f p,prim f=some p->cM P f p):∀ d,cZ P (aN P md prim n d)
 | 0=>fun cfg f args h r h' hx=>by simp[aN]at hx
 | d+1=>fun cfg f args h r h' hx=>by
  have ih:=ee hm hN hp d;simp only[aN]at hx;split at hx
  ·rename_i p h0;exact hp f p h0 cfg args h r h' hx
  ·split at hx
   ·cases hx
   ·rename_i fn hf;exact Fp hN ih (Cx hm hN ih) hf hx
def Dv:Mu:=⟨fun _=>none,fun _=>False⟩
theorem JV(w:World):Rel Dv [] w:=
 ⟨fun _ _ h _=>by obtain⟨cs,hc⟩:=h;simp at hc,fun _ h=>h.elim,fun _ _ _ h=>by obtain⟨cs,hc⟩:=h;simp at hc,fun _ _ _ h=>by simp at h⟩
theorem so(hm:P.follows .mixedOrders=true)(hN:dG P)(hp:∀ f p,prim f=some p->cM P f p){d:Nat}{f:FuncId}{args:List V}{h':Heap}
  (hx:aN P md prim n d ⟨0,[],0⟩ f args []=some (.bool true,h')) {w:World} {vs:Array Value} (h0:PW Dv [] w args vs):
  Calls P f vs w fun e w'=>e=.returned (.bool true)/\Below w.heap.size w w':=by
 obtain⟨_,_,hs⟩:=ee (md:=md) (n:=n) hm hN hp d _ _ _ _ _ _ hx;refine (hs Dv w vs (JV w) h0).mono ?_;rintro e w' ⟨v,rfl,m',ev,_,hr⟩;cases hr;exact⟨rfl,ev.os,ev.tape,ev.output,ev.size,fun b hb=>ev.frame b hb fun x hx=>by obtain⟨cs,hc⟩:=hx;simp at hc⟩
end
end Go.Ab
namespace Go.Ab
abbrev dV:=Ex->List V->Heap->Prop
def slot{α:Type}(l:List α)(t:Nat):Option α:=l[t]?
def bz(l:List V)(d:Nat)(v:V):List V:=l.set d v
@[simp] theorem K7{α:Type}{a:α}{l:List α}:slot (a::l) 0=some a:=rfl
@[simp] theorem K6{α:Type}{a:α}{l:List α}{t:Nat}:slot (a::l) (t+1)=slot l t:=by simp[slot]
@[simp] theorem slot_nil{α:Type}{t:Nat}:slot ([]:List α) t=none:=rfl
@[simp] theorem K3{a v:V}{l:List V}:bz (a::l) 0 v=v::l:=rfl
@[simp] theorem K1{a v:V}{l:List V}{t:Nat}:bz (a::l) (t+1) v=a::bz l t v:=rfl
class Hid (α:Type) where
 val:α
abbrev bR:=List V->Heap->Prop
section
variable (P:Program) (md:FuncId->Nat) (call:aW) (cfg:Cfg) (n:Nat)
def wC[c:Hid Code](fr:List V)(h:Heap)[Q:Hid dV]:Prop:=∃ st,code P md call (fC P md call) cfg n c.val fr h=some st/\Q.val st.1 st.2.1 st.2.2
def wO[ops:Hid (Array Oper)][l:Hid (List Oper)](fr:List V)(h:Heap)[Q:Hid bR]:Prop:=∃ st,dE P md call cfg ops.val l.val fr h=some st/\Q.val st.1 st.2
def wS[dst:Hid (Option Tmp)][fr:Hid (List V)](r:Option (V×Heap))[ops:Hid (Array Oper)][l:Hid (List Oper)][Q:Hid bR]:Prop:=
 ∃ x,r=some x/\@wO P md call cfg ops l (put fr.val dst.val x.1) x.2 Q
def wIf(b:Bool)[A:Hid Prop][B:Hid Prop]:Prop:=if b=true then A.val else B.val
def AY(ops:Array Oper)(fr:List V)(j:Nat):Option V:=
 match ops[j]? with
 | some p=>match p.dst with
  | some d=>fr[d]?
  | none=>none
 | none=>none
def wG(g:Option V)[want:Hid Bool][dst:Hid (Option Tmp)][op:Hid Op][ops:Hid (Array Oper)][l:Hid (List Oper)][fr:Hid (List V)][h:Hid Heap][Q:Hid bR]:Prop:=
 match g with
 | some (.bool b)=>@wIf (b==want.val) ⟨@wS P md call cfg dst fr (aH P md call cfg fr.val h.val op.val) ops l Q⟩ ⟨@wO P md call cfg ops l (put fr.val dst.val .no) h.val Q⟩
 | some .no=>@wO P md call cfg ops l (put fr.val dst.val .no) h.val Q
 | _=>False
def wB(c:Option V)[t:Hid Code][e:Hid Code][fr:Hid (List V)][h:Hid Heap][Q:Hid dV]:Prop:=
 match c with
 | some (.bool b)=>@wIf b ⟨@wC P md call cfg n t fr.val h.val Q⟩ ⟨@wC P md call cfg n e fr.val h.val Q⟩
 | _=>False
def A4[b:Hid Code][Q:Hid dV](e:Ex)(fr:List V)(h:Heap):Prop:=
 match e with
 | .normal=>@wC P md call cfg n b fr h Q
 | e=>Q.val e fr h
def qA[id:Hid Nat][Q:Hid dV](e:Ex)(fr:List V)(h:Heap):Prop:=
 match e with
 | .exit i=>Q.val (if i=id.val then .normal else .exit i) fr h
 | e=>Q.val e fr h
def Rnd[I:Hid (Nat->List V->Heap->Prop)][m:Hid Nat](fr:List V)(h:Heap):Prop:=∃ m',m'<m.val/\I.val m' fr h
def zu[I:Hid (Nat->List V->Heap->Prop)][m:Hid Nat][Q:Hid dV](e:Ex)(fr:List V)(h:Heap):Prop:=
 match e with
 | .normal=>@Rnd I m fr h
 | e=>Q.val e fr h
end
section
variable {P:Program}{md:FuncId->Nat}{call:aW}{cfg:Cfg}{n:Nat}
@[simp] theorem ED{A B:Prop}:@wIf true ⟨A⟩ ⟨B⟩↔A:=by simp[wIf]
@[simp] theorem BK{A B:Prop}:@wIf false ⟨A⟩ ⟨B⟩↔B:=by simp[wIf]
theorem aq{b:Bool}{A B:Prop}(ha:b=true->A)(hb:b=false->B):@wIf b ⟨A⟩ ⟨B⟩:=by cases b<;>simp_all
@[simp] theorem nY{b:Code}{Q:dV}{fr:List V}{h:Heap}:@A4 P md call cfg n ⟨b⟩ ⟨Q⟩ .normal fr h↔@wC P md call cfg n ⟨b⟩ fr h ⟨Q⟩:=ME
@[simp] theorem KA{b:Code}{Q:dV}{i:Nat}{fr:List V}{h:Heap}:@A4 P md call cfg n ⟨b⟩ ⟨Q⟩ (.exit i) fr h↔Q (.exit i) fr h:=ME
@[simp] theorem kSeq_ret{b:Code}{Q:dV}{fr:List V}{h:Heap}:@A4 P md call cfg n ⟨b⟩ ⟨Q⟩ .ret fr h↔Q .ret fr h:=ME
@[simp] theorem EL{id:Nat}{Q:dV}{fr:List V}{h:Heap}:@qA ⟨id⟩ ⟨Q⟩ .normal fr h↔Q .normal fr h:=ME
@[simp] theorem Hn{id i:Nat}{Q:dV}{fr:List V}{h:Heap}:@qA ⟨id⟩ ⟨Q⟩ (.exit i) fr h↔Q (if i=id then .normal else .exit i) fr h:=ME
@[simp] theorem I0{id:Nat}{Q:dV}{fr:List V}{h:Heap}:@qA ⟨id⟩ ⟨Q⟩ .ret fr h↔Q .ret fr h:=ME
@[simp] theorem FQ{I:Nat->List V->Heap->Prop}{m:Nat}{Q:dV}{fr:List V}{h:Heap}:@zu ⟨I⟩ ⟨m⟩ ⟨Q⟩ .normal fr h↔@Rnd ⟨I⟩ ⟨m⟩ fr h:=ME
theorem ae{I:Nat->List V->Heap->Prop}{m:Nat}{fr:List V}{h:Heap}{m':Nat}(h1:m'<m)(h2:I m' fr h):@Rnd ⟨I⟩ ⟨m⟩ fr h:=⟨m',h1,h2⟩
@[simp] theorem I2{I:Nat->List V->Heap->Prop}{m:Nat}{Q:dV}{i:Nat}{fr:List V}{h:Heap}:@zu ⟨I⟩ ⟨m⟩ ⟨Q⟩ (.exit i) fr h↔Q (.exit i) fr h:=ME
@[simp] theorem Kx{I:Nat->List V->Heap->Prop}{m:Nat}{Q:dV}{fr:List V}{h:Heap}:@zu ⟨I⟩ ⟨m⟩ ⟨Q⟩ .ret fr h↔Q .ret fr h:=ME
@[simp] theorem Al{fr:List V}{h:Heap}{Q:dV}:@wC P md call cfg n ⟨.skip⟩ fr h ⟨Q⟩↔Q .normal fr h:=by simp[wC,code]
@[simp] theorem wC_exit{id:Nat}{fr:List V}{h:Heap}{Q:dV}:@wC P md call cfg n ⟨.exit id⟩ fr h ⟨Q⟩↔Q (.exit id) fr h:=by simp[wC,code]
@[simp] theorem wC_ret{fr:List V}{h:Heap}{Q:dV}:@wC P md call cfg n ⟨.ret⟩ fr h ⟨Q⟩↔Q .ret fr h:=by simp[wC,code]
@[simp] theorem dU{a b:Code}{fr:List V}{h:Heap}{Q:dV}:@wC P md call cfg n ⟨.seq a b⟩ fr h ⟨Q⟩↔@wC P md call cfg n ⟨a⟩ fr h ⟨@A4 P md call cfg n ⟨b⟩ ⟨Q⟩⟩:=by
 unfold wC;simp only[code];cases ha:code P md call (fC P md call) cfg n a fr h with
 | none=>simp
 | some st =>
  obtain⟨e,fr',h'⟩:=st;cases e<;>simp[A4,wC]
@[simp] theorem Px{id:Nat}{b:Code}{fr:List V}{h:Heap}{Q:dV}:@wC P md call cfg n ⟨.block id b⟩ fr h ⟨Q⟩↔@wC P md call cfg n ⟨b⟩ fr h ⟨@qA ⟨id⟩ ⟨Q⟩⟩:=by
 unfold wC;simp only[code];cases ha:code P md call (fC P md call) cfg n b fr h with
 | none=>simp
 | some st =>
  obtain⟨e,fr',h'⟩:=st;cases e<;>simp[qA]
@[simp] theorem GK{c:Operand}{t e:Code}{fr:List V}{h:Heap}{Q:dV}:@wC P md call cfg n ⟨.cond c t e⟩ fr h ⟨Q⟩↔@wB P md call cfg n (ev fr c) ⟨t⟩ ⟨e⟩ ⟨fr⟩ ⟨h⟩ ⟨Q⟩:=by
 unfold wC;simp only[code,wB];split<;>rename_i hc
 ·simp[wIf,wC,hc]
 ·simp[wIf,wC,hc]
 ·rename_i h1;split
  ·rename_i b hb;cases b
   ·exact absurd hb hc
   ·exact absurd hb h1
  ·simp
@[simp] theorem GJ{b:Bool}{t e:Code}{fr:List V}{h:Heap}{Q:dV}:@wB P md call cfg n (some (.bool b)) ⟨t⟩ ⟨e⟩ ⟨fr⟩ ⟨h⟩ ⟨Q⟩↔@wIf b ⟨@wC P md call cfg n ⟨t⟩ fr h ⟨Q⟩⟩ ⟨@wC P md call cfg n ⟨e⟩ fr h ⟨Q⟩⟩:=ME
@[simp] theorem K9{id:Nat}{ops:Array Oper}{fr:List V}{h:Heap}{Q:dV}:@wC P md call cfg n ⟨.region id ops false⟩ fr h ⟨Q⟩↔@wO P md call cfg ⟨ops⟩ ⟨ops.toList⟩ fr h ⟨Q .normal⟩:=by
 unfold wC wO;simp only[code];cases ha:dE P md call cfg ops ops.toList fr h with
 | none=>simp
 | some st=>obtain⟨fr',h'⟩:=st;simp
@[simp] theorem wO_list{ops:Array Oper}{l:List Oper}{fr:List V}{h:Heap}{Q:bR}:@wO P md call cfg ⟨ops⟩ ⟨l.toArray.toList⟩ fr h ⟨Q⟩↔@wO P md call cfg ⟨ops⟩ ⟨l⟩ fr h ⟨Q⟩:=ME
@[simp] theorem wO_nil{ops:Array Oper}{fr:List V}{h:Heap}{Q:bR}:@wO P md call cfg ⟨ops⟩ ⟨[]⟩ fr h ⟨Q⟩↔Q fr h:=by simp[wO,dE]
@[simp] theorem wO_cons{ops:Array Oper}{dst:Option Tmp}{op:Op}{ty:TypeId}{pos:String}{after:Array Edge}{l:List Oper}{fr:List V}{h:Heap}{Q:bR}:
  @wO P md call cfg ⟨ops⟩ ⟨{ dst:=dst,op:=op,type:=ty,pos:=pos,after:=after,guard:=none }::l⟩ fr h ⟨Q⟩↔@wS P md call cfg ⟨dst⟩ ⟨fr⟩ (aH P md call cfg fr h op) ⟨ops⟩ ⟨l⟩ ⟨Q⟩:=by
 unfold wO wS;simp only[dE,gS,cY];cases ha:aH P md call cfg fr h op with
 | none=>simp
 | some x=>obtain⟨v,h'⟩:=x;simp[wO]
@[simp] theorem wO_guard{ops:Array Oper}{dst:Option Tmp}{op:Op}{ty:TypeId}{pos:String}{after:Array Edge}{j:Nat}{want:Bool}{l:List Oper}{fr:List V}{h:Heap}{Q:bR}:
  @wO P md call cfg ⟨ops⟩ ⟨{ dst:=dst,op:=op,type:=ty,pos:=pos,after:=after,guard:=some (j,want) }::l⟩ fr h ⟨Q⟩↔@wG P md call cfg (AY ops fr j) ⟨want⟩ ⟨dst⟩ ⟨op⟩ ⟨ops⟩ ⟨l⟩ ⟨fr⟩ ⟨h⟩ ⟨Q⟩:=by
 unfold wO wG AY;simp only[dE,gS,cY];cases hj:ops[j]? with
 | none=>simp
 | some p =>
  cases hd:p.dst with
  | none=>simp[hd]
  | some d =>
   simp only[hd];cases hf:fr[d]? with
   | none=>simp
   | some v =>
    cases v<;>simp only[reduceCtorEq,false_and,exists_false]
    ·simp[wO]
    ·rename_i b;cases h0:(b==want)<;>simp only[wIf,wS,wO,if_true,LH,if_false];cases ha:aH P md call cfg fr h op with
     | none=>simp
     | some x=>obtain⟨v,h'⟩:=x;simp
@[simp] theorem ar{b want:Bool}{dst:Option Tmp}{op:Op}{ops:Array Oper}{l:List Oper}{fr:List V}{h:Heap}{Q:bR}:
  @wG P md call cfg (some (.bool b)) ⟨want⟩ ⟨dst⟩ ⟨op⟩ ⟨ops⟩ ⟨l⟩ ⟨fr⟩ ⟨h⟩ ⟨Q⟩↔@wIf (b==want) ⟨@wS P md call cfg ⟨dst⟩ ⟨fr⟩ (aH P md call cfg fr h op) ⟨ops⟩ ⟨l⟩ ⟨Q⟩⟩ ⟨@wO P md call cfg ⟨ops⟩ ⟨l⟩ (put fr dst .no) h ⟨Q⟩⟩:=ME
@[simp] theorem wG_no{want:Bool}{dst:Option Tmp}{op:Op}{ops:Array Oper}{l:List Oper}{fr:List V}{h:Heap}{Q:bR}:
  @wG P md call cfg (some .no) ⟨want⟩ ⟨dst⟩ ⟨op⟩ ⟨ops⟩ ⟨l⟩ ⟨fr⟩ ⟨h⟩ ⟨Q⟩↔@wO P md call cfg ⟨ops⟩ ⟨l⟩ (put fr dst .no) h ⟨Q⟩:=ME
@[simp] theorem eC{dst:Option Tmp}{fr:List V}{v:V}{h:Heap}{ops:Array Oper}{l:List Oper}{Q:bR}:
  @wS P md call cfg ⟨dst⟩ ⟨fr⟩ (some (v,h)) ⟨ops⟩ ⟨l⟩ ⟨Q⟩↔@wO P md call cfg ⟨ops⟩ ⟨l⟩ (put fr dst v) h ⟨Q⟩:=by simp[wS]
@[simp] theorem put_none{fr:List V}{v:V}:put fr none v=fr:=rfl
@[simp] theorem put_some{fr:List V}{d:Tmp}{v:V}:put fr (some d) v=bz fr d v:=rfl
@[simp] theorem gdOf_mk{ops:Array Oper}{fr:List V}{j:Nat}:AY ops fr j=((slot ops.toList j).bind (·.dst)).bind (slot fr ·):=by
 unfold AY;simp only[slot,NA];cases h:ops[j]? with
 | none=>simp
 | some p=>cases hd:p.dst<;>simp[hd]
@[simp] theorem ev_tmp{fr:List V}{t:Tmp}:ev fr (.tmp t)=slot fr t:=rfl
@[simp] theorem ev_func{fr:List V}{f:FuncId}:ev fr (.func f)=some (.func (.func f) [] []):=rfl
@[simp] theorem ev_int{fr:List V}{k:IntKind}{i:Int}:ev fr (.const (.int k i))=some (.int k i):=rfl
@[simp] theorem ev_bool{fr:List V}{b:Bool}:ev fr (.const (.bool b))=some (.bool b):=rfl
@[simp] theorem ev_str{fr:List V}{s:ByteArray}:ev fr (.const (.string s))=some (.str s):=rfl
@[simp] theorem ev_nils{fr:List V}:ev fr (.const (.slice none 0 0))=some .nils:=rfl
@[simp] theorem ev_agg{fr:List V}{cs:Array Value}:ev fr (.const (.agg cs))=(cs.toList.mapM gQ).map .agg:=rfl
@[simp] theorem Km{fr:List V}:cS fr []=some []:=rfl
@[simp] theorem Io{fr:List V}{x:Operand}{r:List Operand}:cS fr (x::r)=(ev fr x).bind fun v=>(cS fr r).map (v::·):=by
 simp only[cS];cases ev fr x<;>simp;cases cS fr r<;>simp
@[simp] theorem KS{fr:List V}{h:Heap}{x:Operand}:aH P md call cfg fr h (.move x)=(ev fr x).map (·,h):=rfl
@[simp] theorem Hy{fr:List V}{h:Heap}{x:Operand}:aH P md call cfg fr h (.assign x)=(ev fr x).map (·,h):=rfl
def mN(c a b:Option V)(h:Heap):Option (V×Heap):=
 match c with
 | some (.bool true)=>a.map (·,h)
 | some (.bool false)=>b.map (·,h)
 | _=>none
@[simp] theorem KT{fr:List V}{h:Heap}{c a b:Operand}:aH P md call cfg fr h (.pick c a b)=mN (ev fr c) (ev fr a) (ev fr b) h:=rfl
@[simp] theorem JA{a b:Option V}{h:Heap}:mN (some (.bool true)) a b h=a.map (·,h):=rfl
@[simp] theorem HB{a b:Option V}{h:Heap}:mN (some (.bool false)) a b h=b.map (·,h):=rfl
@[simp] theorem KX{x y:Bool}{h:Heap}:mN (some (.bool x)) (some (.bool y)) (some (.bool false)) h=some (.bool (x&&y),h):=by cases x<;>rfl
@[simp] theorem pickV_or{x y:Bool}{h:Heap}:mN (some (.bool x)) (some (.bool true)) (some (.bool y)) h=some (.bool (x||y),h):=by cases x<;>rfl
@[simp] theorem Jl{fr:List V}{h:Heap}{t:TypeId}:aH P md call cfg fr h (.alloc t)=(zeroOf P t).map fun z=>(.ptr h.length 0,h++[some (cR z)]):=by
 simp only[aH,opV];cases zeroOf P t<;>rfl
@[simp] theorem opEv_box{fr:List V}{h:Heap}{t:TypeId}{x:Operand}:aH P md call cfg fr h (.box t x)=((ev fr x).bind cellsOf).map fun cs=>(.ptr h.length 0,h++[some cs]):=by
 simp only[aH,opV];cases ev fr x with
 | none=>rfl
 | some v=>simp only[Mb];cases cellsOf v<;>rfl
@[simp] theorem Jn{fr:List V}{h:Heap}{t:TypeId}{ps:Array (Nat×Operand)}:aH P md call cfg fr h (.build t ps)=((dh fr ps.toList).bind (cp P t)).map (·,h):=by
 simp only[aH,opV];cases dh fr ps.toList<;>rfl
@[simp] theorem BN{fr:List V}{h:Heap}{t:TypeId}{len:Nat}{ps:Array (Nat×Operand)}:aH P md call cfg fr h (.buildSlice t len ps)=(bc fr 0 ps.toList).bind (aI P h t len):=by
 simp only[aH,opV];cases bc fr 0 ps.toList<;>rfl
@[simp] theorem KR{fr:List V}{h:Heap}{t:TypeId}{a:Operand}:aH P md call cfg fr h (.load t a)=((ev fr a).bind (fE P h t)).map (·,h):=by
 simp only[aH,opV];cases ev fr a<;>rfl
@[simp] theorem Jr{fr:List V}{h:Heap}{t:TypeId}{a x:Operand}:aH P md call cfg fr h (.store t a x)=((ev fr a).bind fun p=>(ev fr x).bind fun v=>aQ P cfg h t p v).map (.no,·):=by
 simp only[aH,opV];cases ev fr a with
 | none=>rfl
 | some p=>cases ev fr x with
  | none=>rfl
  | some v=>simp only[Mb];cases aQ P cfg h t p v<;>rfl
@[simp] theorem EO{fr:List V}{h:Heap}{x:Operand}:aH P md call cfg fr h (.nilCheck x)=((ev fr x).bind fh).map (·,h):=by
 simp only[aH,opV];cases ev fr x<;>rfl
@[simp] theorem Jm{fr:List V}{h:Heap}{op:BinOp}{t u:TypeId}{x y:Operand}:aH P md call cfg fr h (.binOp op t x y u)=((ev fr x).bind fun a=>(ev fr y).bind fun b=>cJ P op t a b).map (·,h):=by
 simp only[aH,opV];cases ev fr x with
 | none=>rfl
 | some p=>cases ev fr y with
  | none=>rfl
  | some v=>rfl
@[simp] theorem KU{fr:List V}{h:Heap}{op:UnOp}{t:TypeId}{x:Operand}:aH P md call cfg fr h (.unOp op t x)=((ev fr x).bind (unV op)).map (·,h):=by
 simp only[aH,opV];cases ev fr x<;>rfl
@[simp] theorem F7{fr:List V}{h:Heap}{s d:TypeId}{x:Operand}:aH P md call cfg fr h (.convert s d x)=(ev fr x).bind (fB P h s d):=by
 simp only[aH,opV];cases ev fr x<;>rfl
@[simp] theorem EN{fr:List V}{h:Heap}{fn:Fn}{a c:Array Operand}:aH P md call cfg fr h (.makeFunc fn a c)=(cS fr a.toList).bind fun f=>(cS fr c.toList).map fun c=>(.func fn f c,h):=by
 simp only[aH,opV];cases cS fr a.toList with
 | none=>rfl
 | some p=>cases cS fr c.toList<;>rfl
@[simp] theorem Dz{fr:List V}{h:Heap}{t:TypeId}{l c:Operand}:aH P md call cfg fr h (.makeSlice t l c)=(ev fr l).bind fun a=>(ev fr c).bind fun b=>cE P h t a b:=by
 simp only[aH,opV];cases ev fr l with
 | none=>rfl
 | some p=>cases ev fr c<;>rfl
@[simp] theorem Jq{fr:List V}{h:Heap}{t:TypeId}{x:Operand}{lo hi:Option Operand}:aH P md call cfg fr h (.slice t x lo hi none)=((ev fr x).bind fun a=>dz P h t a (lo.map (ev fr)) (hi.map (ev fr))).map (·,h):=by
 simp only[aH,opV];cases ev fr x<;>rfl
@[simp] theorem Dx{fr:List V}{h:Heap}{s:TypeId}{x:Operand}{f:Nat}:aH P md call cfg fr h (.fieldAddr s x f)=((ev fr x).bind fun a=>ag P s a f).map (·,h):=by
 simp only[aH,opV];cases ev fr x<;>rfl
@[simp] theorem Jo{fr:List V}{h:Heap}{s:TypeId}{x:Operand}{f:Nat}:aH P md call cfg fr h (.field s x f)=((ev fr x).bind fun a=>jz P s a f).map (·,h):=by
 simp only[aH,opV];cases ev fr x<;>rfl
@[simp] theorem Dy{fr:List V}{h:Heap}{t:TypeId}{x i:Operand}:aH P md call cfg fr h (.indexAddr t x i)=((ev fr x).bind fun a=>(ev fr i).bind fun b=>ay P t a b).map (·,h):=by
 simp only[aH,opV];cases ev fr x with
 | none=>rfl
 | some p=>cases ev fr i<;>rfl
@[simp] theorem Jp{fr:List V}{h:Heap}{t:TypeId}{x i:Operand}:aH P md call cfg fr h (.index t x i)=((ev fr x).bind fun a=>(ev fr i).bind fun b=>lB P t a b).map (·,h):=by
 simp only[aH,opV];cases ev fr x with
 | none=>rfl
 | some p=>cases ev fr i<;>rfl
@[simp] theorem F8{fr:List V}{h:Heap}{x:Operand}{i:Nat}:aH P md call cfg fr h (.extract x i)=((ev fr x).bind fun a=>ie a i).map (·,h):=by
 simp only[aH,opV];cases ev fr x<;>rfl
def biV(P:Program)(cfg:Cfg)(h:Heap)(b:Builtin)(tys:List TypeId)(vs:List V):Option (V×Heap):=
 match b,tys,vs with
 | .len,[t],[x]=>(dy P t x).map (·,h)
 | .append,[t,u],[d,x]=>cb P cfg h t u d x
 | .min,_,vs=>(rF vs).map (·,h)
 | .max,_,vs=>(oG vs).map (·,h)
 | .clear,[t],[x]=>(iP P cfg h t x).map (.tup [],·)
 | _,_,_=>none
@[simp] theorem F6{fr:List V}{h:Heap}{b:Builtin}{args:Array Operand}{tys:Array TypeId}:aH P md call cfg fr h (.call { callee:=.builtin b,args:=args,argTypes:=tys })=(cS fr args.toList).bind (biV P cfg h b tys.toList):=by
 simp only[aH,opV];cases cS fr args.toList with
 | none=>rfl
 | some vs =>
  simp only[Mb,biV];generalize tys.toList=tl;rcases tl with _|⟨t,_|⟨u,_|⟨_,_⟩⟩⟩<;>rcases vs with _|⟨x,_|⟨y,_|⟨_,_⟩⟩⟩<;>cases b<;>first|rfl|(simp only[];cases iP P cfg h t x<;>rfl)|(simp only;cases iP P cfg h t x<;>rfl)
@[simp] theorem biV_len{h:Heap}{t:TypeId}{x:V}:biV P cfg h .len [t] [x]=(dy P t x).map (·,h):=rfl
@[simp] theorem HV{h:Heap}{t u:TypeId}{d x:V}:biV P cfg h .append [t,u] [d,x]=cb P cfg h t u d x:=rfl
@[simp] theorem biV_min{h:Heap}{ts:List TypeId}{vs:List V}:biV P cfg h .min ts vs=(rF vs).map (·,h):=by unfold biV;split<;>simp_all
@[simp] theorem biV_max{h:Heap}{ts:List TypeId}{vs:List V}:biV P cfg h .max ts vs=(oG vs).map (·,h):=by unfold biV;split<;>simp_all
@[simp] theorem Kl{h:Heap}{t:TypeId}{x:V}:biV P cfg h .clear [t] [x]=(iP P cfg h t x).map (.tup [],·):=rfl
def Cg(md:FuncId->Nat)(call:aW)(cfg:Cfg)(h:Heap)(f:Option V)(vs:Option (List V)):Option (V×Heap):=
 match f,vs with
 | some (.func (.func g) first captured),some vs=>af md call cfg g ((first++vs)++captured) h
 | _,_=>none
@[simp] theorem KQ{fr:List V}{h:Heap}{f:Operand}{args:Array Operand}{tys:Array TypeId}:aH P md call cfg fr h (.call { callee:=.value f,args:=args,argTypes:=tys })=Cg md call cfg h (ev fr f) (cS fr args.toList):=rfl
@[simp] theorem G0{h:Heap}{g:FuncId}{first captured vs:List V}:Cg md call cfg h (some (.func (.func g) first captured)) (some vs)=af md call cfg g ((first++vs)++captured) h:=rfl
theorem ai{body:Code}{fr:List V}{h:Heap}{Q:dV}(I:Nat->List V->Heap->Prop){m:Nat}(hm:m<n)(h0:I m fr h)
  (step:∀ m fr h,I m fr h->@wC P md call cfg n ⟨body⟩ fr h ⟨@zu ⟨I⟩ ⟨m⟩ ⟨Q⟩⟩):@wC P md call cfg n ⟨.loop body⟩ fr h ⟨Q⟩:=by
 have key:∀ k m fr h,m<k->I m fr h->∃ st,iter (code P md call (fC P md call) cfg n body) k fr h=some st/\Q st.1 st.2.1 st.2.2:=by
  intro k
  induction k with
  | zero=>intro m fr h hm;omega
  | succ k ih =>
   intro m fr h hm hI;obtain⟨⟨e,fr',h'⟩,h3,hq⟩:=step m fr h hI;replace h3:code P md call (fC P md call) cfg n body fr h=some (e,fr',h'):=h3;simp only[iter,h3];cases e with
   | normal =>
    obtain⟨m',h4,h6⟩:=hq;replace h4:m'<m:=h4;exact ih m' fr' h' (by omega) h6
   | exit i=>exact⟨_,rfl,hq⟩
   | ret=>exact⟨_,rfl,hq⟩
 obtain⟨st,h1,h2⟩:=key n m fr h hm h0;exact⟨st,by show code P md call (fC P md call) cfg n (.loop body) fr h=some st;rw[code];exact h1,h2⟩
theorem GL{c:Code}{fr:List V}{h:Heap}{Q Q':dV}(hw:@wC P md call cfg n ⟨c⟩ fr h ⟨Q⟩)(hq:∀ e fr h,Q e fr h->Q' e fr h):@wC P md call cfg n ⟨c⟩ fr h ⟨Q'⟩:=by
 obtain⟨st,h1,h2⟩:=hw;exact⟨st,h1,hq _ _ _ h2⟩
def look:List (Nat×V)->Nat->Option V
 | [],_=>none
 | (a,v)::r,k=>if a=k then some v else look r k
def qh(l:List (Nat×V))(j:Nat->V):Nat->Nat->List V
 | 0,_=>[]
 | c+1,k=>(look l k).getD (j k)::qh l j c (k+1)
def xh:List (Nat×V)->List V->Prop
 | [],_=>True
 | (k,v)::r,fr=>slot fr k=some v/\xh r fr
def Slots(N:Nat)(l:List (Nat×V))(fr:List V):Prop:=fr.length=N/\xh l fr
@[simp] theorem AllS_nil{fr:List V}:xh [] fr↔True:=ME
@[simp] theorem Kd{k:Nat}{v:V}{r:List (Nat×V)}{fr:List V}:xh ((k,v)::r) fr↔slot fr k=some v/\xh r fr:=ME
@[simp] theorem Ke{N:Nat}{l:List (Nat×V)}{fr:List V}:Slots N l fr↔fr.length=N/\xh l fr:=ME
@[simp] theorem look_nil{k:Nat}:look [] k=none:=rfl
@[simp] theorem Bd{a k:Nat}{v:V}{r:List (Nat×V)}:look ((a,v)::r) k=if a=k then some v else look r k:=rfl
@[simp] theorem Ip{l:List (Nat×V)}{j:Nat->V}{k:Nat}:qh l j 0 k=[]:=rfl
@[simp] theorem xI{l:List (Nat×V)}{j:Nat->V}{c k:Nat}:qh l j (c+1) k=(look l k).getD (j k)::qh l j c (k+1):=rfl
theorem rQ{fr:List V}:∀ {l:List (Nat×V)},xh l fr->∀ k v,look l k=some v->fr[k]?=some v
 | [],_,k,v,h=>by simp at h
 | (a,u)::r,hs,k,v,h=>by
  simp only[Bd]at h;split at h
  ·rename_i h0;subst h0;cases h;exact hs.1
  ·exact rQ hs.2 k v h
theorem uV(l:List (Nat×V))(j:Nat->V):∀ (c k i:Nat),i<c->(qh l j c k)[i]?=some ((look l (k+i)).getD (j (k+i)))
 | 0,_,_,h=>by omega
 | c+1,k,0,_=>by simp
 | c+1,k,i+1,h=>by
  simp only[xI,LV];rw[uV l j c (k+1) i (by omega),show k+1+i=k+(i+1) by omega]
theorem uW(l:List (Nat×V))(j:Nat->V):∀ (c k:Nat),(qh l j c k).length=c
 | 0,_=>rfl
 | c+1,k=>by simp[uW l j c]
theorem Slots.ex{N:Nat}{l:List (Nat×V)}{fr:List V}(hs:Slots N l fr):∃ j,fr=qh l j N 0:=by
 obtain⟨hl,ha⟩:=hs;refine⟨fun k=>fr.getD k .no,LY fun i=>?_⟩;by_cases hi:i<N
 ·rw[uV _ _ _ _ _ hi,L3];have h0:fr[i]?=some fr[i]:=Lc (by omega);cases hk:look l i with
  | none=>simp[h0]
  | some v=>rw[rQ ha i v hk];rfl
 ·rw[Lw (by omega),Lw (by rw[uW];omega)]
end
end Go.Ab
