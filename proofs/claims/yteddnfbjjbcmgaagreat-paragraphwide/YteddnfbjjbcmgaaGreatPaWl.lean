/- Several texts of this proof in one. -/
import Derived.Test.YteddnfbjjbcmgaaGreatPaRef2
import Derived.Test.YteddnfbjjbcmgaaGreatPaFl
import Derived.Test.YteddnfbjjbcmgaaGreatPaEnp
import Derived.Test.YteddnfbjjbcmgaaGreatPaAl
set_option linter.unusedSimpArgs false
set_option linter.unusedVariables false
namespace Go.Ab
open Go.Proofs
namespace Bi
attribute [local congr] ay
def rk(a b:Int):Bool:=decide (a=1)||decide (a=3)||(decide (a=2)&&!decide (b=3))
section
variable {prim:FuncId→Option Prim}(d:Nat) (cfg:Cfg) (h:Heap)
set_option maxRecDepth 100000 in
set_option maxHeartbeats 16000000 in
theorem FF(hp:∀ f,Np5 f→prim f=none)(t cs l:List Int)(tk:List Bool)(ht:t.length≤2000)(hc:cs.length≤5000)(hl:l.length=t.length)(htk:tk.length=t.length)(i:Nat)(hi:i+1<t.length):
  ∃ r,(∃ z:Int,r=.int .i64 z∧(z=2↔rk (lgI l i) (lgI l (i+1))=true))∧∀ cfg h,af md (K prim (d+3)) cfg 42 [rl t,il cs,il l,bl tk,.int .i64 ((i:Int)+1)] h=some (r,h):=by
 refine ef rfl (hp 42 (by decide)) Tryz.func42 rfl rfl rfl (by simp) ?_
 have hL:=fun cfg h r=>qE (prim:=prim) d cfg h hp r
 have hI:=fun cfg h=>yn (prim:=prim) (d+1) cfg h hp cs hc ((i:Int)+1)
 have hAf:=fun c=>BJ (prim:=prim) (d+1) hp l (by omega) (i+1) (by omega) c
 have hci:((i+1:Nat):Int)=(i:Int)+1:=by omega
 rw[hci]at hAf
 have hn1:((i:Int)+1).toNat=i+1:=by omega
 obtain⟨_,⟨a5,rfl⟩,h5⟩:=hAf 5
 obtain⟨_,⟨a12,rfl⟩,h12⟩:=hAf 12
 obtain⟨_,⟨a14,rfl⟩,h14⟩:=hAf 14
 generalize decide ((i:Int)+1∈cs)=bI at hI
 simp
 refine ai 10 (by kernel_rfl) ?_
 simp +contextual (disch:=first|omega|(simp;done)|(simp[Decidable.imp_iff_not_or];done)|fail) [-al,bh,qP,ao,aw,aB,bw,wrap64,-getElem?_pos,hn1,atI]
 obtain⟨M,hM⟩:∃ M,rk (lgI l i) (lgI l (i+1))=M:=⟨_,rfl⟩
 have hM':=hM
 unfold rk at hM'
 rw[hM,hM']
 cases M with
 | true=>simp
 | false =>
 refine ak (fun h=>by cases h) (fun _=>?_)
 simp +contextual (disch:=first|omega|(simp;done)|(simp[Decidable.imp_iff_not_or];done)|fail) [-al,-getElem?_pos]
 iterate 21
  refine ak (fun _=>by simp) (fun _=>?_)
  simp +contextual (disch:=first|omega|(simp;done)|(simp[Decidable.imp_iff_not_or];done)|fail) [-al,bh,qP,ao,aw,bZ,aB,bw,wrap64,-getElem?_pos,hL,hI,h5,h12,h14,hn1,atI,atB]
 refine ak (fun _=>?_) (fun _=>by simp)
 simp(disch:=omega)[wrap64]
 refine ah (fun m fr H=>∃ (q:Nat) (c:Int),q≤i+1∧m=q∧H=[]∧Slots 239 [(0,rl t),(13,.int .i64 c),(14,.int .i64 ((q:Int)-1))] fr) (m:=i+1) (by omega) ⟨i+1,0,by omega,rfl,rfl,by simp⟩ ?_
 rintro m fr H ⟨q,c,hq,hmq,rfl,hs⟩
 replace hmq:=hmq.symm
 subst hmq
 obtain⟨j9,rfl⟩:=hs.ex
 clear hs
 simp +contextual (disch:=first|omega|(simp;done)|(simp[Decidable.imp_iff_not_or];done)|fail) [-al,bh,ao,aw,aB,-getElem?_pos,hL,atI]
 refine ak (fun hb=>?_) (fun _=>?_)
 ·have hq1:1≤q:=by simp at hb;omega
  simp(disch:=omega)[wrap64]
  exact ae (m':=q-1) (by omega) ⟨q-1,IntKind.i64.wrap (c+1),by omega,rfl,rfl,by simp;omega⟩
 ·simp
  exact ak (fun _=>by simp) (fun _=>by simp)
def hdC(t l:List Int):Prop:=∀ i<t.length,∀ c:Int,1≤c→c≤3→(lgI l i=c↔rcl 2 (lgI t i)=c)
set_option maxRecDepth 100000 in
set_option maxHeartbeats 8000000 in
theorem EP(hp:∀ f,Np5 f→prim f=none)(t:List Int)(ht:t.length≤2000):
  ∃ r,(∃ (l:List Int) (tk:List Bool),r=.tup [il l,bl tk]∧l.length=t.length∧tk.length=t.length∧hdC t l)∧∀ cfg h,af md (K prim (d+3)) cfg 40 [rl t] h=some (r,h):=by
 refine ef rfl (hp 40 (by decide)) Tryz.func40 rfl rfl rfl (by simp) ?_
 have hL:=fun cfg h r=>qE (prim:=prim) d cfg h hp r
 simp(disch:=omega)[lr,gM]
 refine ah (fun m fr H=>∃ (i:Nat) (l:List Int) (tk:List Bool),i≤t.length∧m=t.length-i∧l.length=t.length∧tk.length=t.length∧(∀ q<i,∀ c:Int,1≤c→c≤3→(lgI l q=c↔rcl 2 (lgI t q)=c))∧H=[some (l.map (V.int .i64)),some (tk.map V.bool)] ∧
  Slots 93 [(0,rl t),(4,.sl 0 0 t.length t.length 1),(5,.sl 1 0 t.length t.length 1),(6,.int .i64 i)] fr) (m:=t.length) (by omega) ⟨0,List.replicate t.length 0,List.replicate t.length false,by omega,by omega,by simp,by simp,fun q hq=>by omega,by simp,by simp⟩ ?_
 rintro m fr H ⟨i,l,tk,hi,rfl,hl,htk,hq,rfl,hs⟩
 obtain⟨j,rfl⟩:=hs.ex
 clear hs
 by_cases hlt:i<t.length
 ·have hI:(i:Int)<t.length:=by omega
  have hle:i+1≤t.length:=by omega
  have hset:∀ x:Int,(∀ c:Int,1≤c→c≤3→(x=c↔rcl 2 (lgI t i)=c))→∀ q<i+1,∀ c:Int,1≤c→c≤3→(lgI (l.set i x) q=c↔rcl 2 (lgI t q)=c):=fun x hx q hqi c h1 h2=>by
   rcases Nat.lt_succ_iff_lt_or_eq.1 hqi with h3|rfl
   ·have:lgI (l.set i x) q=lgI l q:=by unfold lgI;rw[List.getD_eq_getElem?_getD,List.getD_eq_getElem?_getD,List.getElem?_set_ne (by omega)]
    rw[this]
    exact hq q h3 c h1 h2
   ·have:lgI (l.set q x) q=x:=by unfold lgI;rw[List.getD_eq_getElem?_getD,List.getElem?_set_self (by omega)];rfl
    rw[this]
    exact hx c h1 h2
  simp +contextual (disch:=first|omega|(simp;done)|(simp[Decidable.imp_iff_not_or];done)|fail) [-al,bh,ao,aw,aB,-getElem?_pos,-List.map_set,hI,hL,atI,hl,hle]
  refine ak (fun hb=>?_) (fun hb=>?_)
  ·simp(disch:=omega)[wrap64]
   exact ae (m':=t.length-(i+1)) (by omega) ⟨i+1,l.set i (rcl 2 (lgI t i)),tk,by omega,by omega,by simpa using hl,htk,hset _ (fun c _ _=>Iff.rfl),by simp,by simp(disch:=omega)⟩
  ·simp +contextual (disch:=first|omega|(simp;done)|(simp[Decidable.imp_iff_not_or];done)|fail) [-al,bh,ao,aw,aB,wrap64,-getElem?_pos,-List.map_set,atI,hl,hle]
   have hcm:∀ c:Int,1≤c→c≤3→¬ rcl 2 (lgI t i)=c:=fun c h1 h2 e=>by
    simp at hb
    omega
   refine ak (fun hb2=>?_) (fun _=>?_)
   ·have hi1:1≤i:=by simp at hb2;omega
    have h0:∀ c:Int,1≤c→c≤3→¬ lgI l (i-1)=c:=fun c h1 h2 e=>by
     simp at hb2
     omega
    simp(disch:=omega)[-List.map_set,atI,DQ,hl,htk,hle,wrap64,-getElem?_pos]
    exact ae (m':=t.length-(i+1)) (by omega) ⟨i+1,l.set i (lgI l (i-1)),_,by omega,by omega,by simpa using hl,by simpa using htk,hset _ (fun c h1 h2=>⟨fun e=>absurd e (h0 c h1 h2),fun e=>absurd e (hcm c h1 h2)⟩),rfl,by simp(disch:=omega)⟩
   ·simp(disch:=omega)[wrap64]
    exact ae (m':=t.length-(i+1)) (by omega) ⟨i+1,l.set i 0,tk,by omega,by omega,by simpa using hl,htk,hset _ (fun c h1 h2=>⟨fun e=>by omega,fun e=>absurd e (hcm c h1 h2)⟩),by simp,by simp(disch:=omega)⟩
 ·obtain rfl:i=t.length:=by omega
  have f1:=dd (h:=[some (l.map (V.int .i64)),some (tk.map V.bool)]) (n:=0) (b:=0) (len:=t.length) (cap:=t.length) (d:=3) (k:=.i64) (l:=l) (by simp) (Nat.zero_le _) hl
  have f2:=rP (h:=[some (l.map (V.int .i64)),some (tk.map V.bool)]) (n:=0) (b:=1) (len:=t.length) (cap:=t.length) (d:=3) (l:=tk) (by simp[ab]) (Nat.zero_le _) htk
  simp(disch:=omega)[f1,f2]
  exact⟨l,tk,⟨rfl,rfl⟩,hl,htk,hq⟩
theorem FP{t l:List Int}(h:hdC t l){q:Nat}(hq:q+1<t.length):rk (lgI l q) (lgI l (q+1))=rk (rcl 2 (lgI t q)) (rcl 2 (lgI t (q+1))):=by
 have h1:=h q (by omega) 1 (by omega) (by omega)
 have h2:=h q (by omega) 2 (by omega) (by omega)
 have h3:=h q (by omega) 3 (by omega) (by omega)
 have h4:=h (q+1) hq 3 (by omega) (by omega)
 unfold rk
 simp only[h1,h2,h3,h4]
set_option maxHeartbeats 8000000 in
theorem B4(hp:∀ f,Np5 f→prim f=none)(t:List Int)(ht:t.length≤2000):
  ∃ r,(∃ l:List Int,r=il l∧l.length=t.length∧∀ q<t.length,(lgI l q=2↔q+1=t.length∨rk (rcl 2 (lgI t q)) (rcl 2 (lgI t (q+1)))=true))∧∀ cfg h,af md (K prim (d+5)) cfg 20 [rl t] h=some (r,h):=by
 refine ef rfl (hp 20 (by decide)) Tryz.func20 rfl rfl rfl (by simp) ?_
 have ht2:¬ (2000:Int)<t.length:=by omega
 obtain⟨_,⟨l,tk,rfl,hl,htk,hhd⟩,h1⟩:=EP (prim:=prim) (d+1) hp t ht
 obtain⟨_,⟨cs,rfl,hcl,hcr⟩,h2⟩:=ET (prim:=prim) d hp t ht
 by_cases h0:t=[]
 ·subst h0
  simp
 have hpos:0<t.length:=List.length_pos_iff.2 h0
 simp(disch:=omega)[h0,ht2,h1,h2,gM]
 refine ah (fun m fr H=>∃ (q:Nat) (r:List Int),q+1≤t.length∧m=t.length-(q+1)∧r.length=t.length∧(∀ i<q,(lgI r i=2↔rk (rcl 2 (lgI t i)) (rcl 2 (lgI t (i+1)))=true))∧H=[some (r.map (V.int .i64))] ∧
  Slots 48 [(0,rl t),(3,il l),(4,bl tk),(5,il cs),(6,.sl 0 0 t.length t.length 1),(7,.int .i64 ((q:Int)+1))] fr) (m:=t.length-1) (by omega) ⟨0,List.replicate t.length 0,by omega,by omega,by simp,fun i hi=>by omega,by simp,by simp⟩ ?_
 rintro m fr H ⟨q,r,hq,rfl,hr,hrq,rfl,hs⟩
 obtain⟨j,rfl⟩:=hs.ex
 clear hs
 have hle:q+1≤t.length:=hq
 have hset:∀ (x:Int) (i:Nat),lgI (r.set q x) i=if i=q then x else lgI r i:=fun x i=>by
  unfold lgI
  rw[List.getD_eq_getElem?_getD,List.getD_eq_getElem?_getD]
  by_cases e:i=q
  ·subst e
   rw[if_pos rfl,List.getElem?_set_self (by omega)]
   rfl
  ·rw[if_neg e,List.getElem?_set_ne (by omega)]
 by_cases hlt:q+1<t.length
 ·have hI:(q:Int)+1<t.length:=by omega
  obtain⟨_,⟨z,rfl,hz⟩,h3⟩:=FF (prim:=prim) (d+1) hp t cs l tk ht (by omega) hl htk q hlt
  rw[FP hhd hlt]at hz
  simp(disch:=omega)[hI,h3,hr,hle,wrap64,-getElem?_pos]
  exact ae (m':=t.length-(q+1+1)) (by omega) ⟨q+1,r.set q z,by omega,by omega,by simpa using hr,fun i hi=>by
   rw[hset]
   by_cases e:i=q
   ·rw[if_pos e,e];exact hz
   ·rw[if_neg e];exact hrq i (by omega),by simp,by simp(disch:=omega)⟩
 ·have hI:¬ (q:Int)+1<t.length:=by omega
  have hql:q+1=t.length:=by omega
  simp(disch:=omega)[hI,hr,wrap64,-getElem?_pos]
  have f1:=dd (h:=[some ((r.set (t.length-1) 2).map (V.int .i64))]) (n:=0) (b:=0) (len:=t.length) (cap:=t.length) (d:=4) (k:=.i64) (l:=r.set (t.length-1) 2) (by simp) (Nat.zero_le _) (by simpa using hr)
  rw[ints_set]
  refine⟨_,f1,r.set (t.length-1) 2,rfl,by simpa using hr,fun i hi=>?_⟩
  rw[show t.length-1=q by omega,hset]
  by_cases e:i=q
  ·rw[if_pos e]
   exact⟨fun _=>.inl (by omega),fun _=>rfl⟩
  ·rw[if_neg e,hrq i (by omega)]
   exact⟨.inr,fun h=>h.resolve_left (by omega)⟩
end
end Bi
end Go.Ab
namespace Go.Ab
open Go.Proofs
namespace Bi
theorem tG{X:Txt}{k:Nat×Nat}:∀ (l:List Nat) (n:Int),n≤X.mosK k n l∧∀ t∈l,lgI X.B (t-1)≠0→X.fit k k.1 t≤X.mosK k n l
 | [],n=>⟨Int.le_refl _,fun _ h=>by cases h⟩
 | t::l,n=>by
  rw[Txt.mosK]
  split
  ·rename_i h0
   obtain⟨h1,h2⟩:=tG (X:=X) (k:=k) l n
   refine⟨h1,fun x hx hb=>?_⟩
   rcases List.mem_cons.1 hx with rfl|hx
   ·exact absurd h0 hb
   ·exact h2 x hx hb
  ·obtain⟨h1,h2⟩:=tG (X:=X) (k:=k) l (max n (X.fit k k.1 t))
   refine⟨by omega,fun x hx hb=>?_⟩
   rcases List.mem_cons.1 hx with rfl|hx
   ·omega
   ·exact h2 x hx hb
theorem tF{X:Txt}:∀ (l:List (Nat×Nat)) (n:Int),n≤X.mosA l n∧∀ k∈l,∀ t∈tsL k.1 (k.2-k.1),lgI X.B (t-1)≠0→X.fit k k.1 t≤X.mosA l n
 | [],n=>⟨Int.le_refl _,fun _ h=>by cases h⟩
 | k::l,n=>by
  rw[Txt.mosA]
  obtain⟨g1,g2⟩:=tG (X:=X) (k:=k) (tsL k.1 (k.2-k.1)) n
  obtain⟨h1,h2⟩:=tF (X:=X) l (X.mosK k n (tsL k.1 (k.2-k.1)))
  refine⟨by omega,fun x hx t ht hb=>?_⟩
  rcases List.mem_cons.1 hx with rfl|hx
  ·have:=g2 t ht hb
   omega
  ·exact h2 x hx t ht hb
theorem mQ{X:Txt}{k:Nat×Nat}{s t:Nat}(ht:lgI X.B (t-1)≠0)(hf:X.fit k s t≤X.p.w):∀ (l:List Nat) (b:Nat),(∀ x∈l,lgI X.B (x-1)≠0→X.fit k s x≤X.p.w)→X.endL k s b (l++[t])=t
 | [],b,_=>by
  rw[List.nil_append,Txt.endL,if_neg ht,if_pos hf,Txt.endL]
 | x::l,b,h=>by
  rw[List.cons_append,Txt.endL]
  split
  ·exact mQ ht hf l b fun y hy=>h y (by simp[hy])
  ·rename_i hx
   rw[if_pos (h x (by simp) hx)]
   exact mQ ht hf l x fun y hy=>h y (by simp[hy])
theorem D3{s n:Nat}:tsL s (n+1)=tsL s n++[s+1+n]:=by simp[tsL,List.range_succ]
theorem AB{X:Txt}{k:Nat×Nat}(hk:jl X k)(h:∀ t∈tsL k.1 (k.2-k.1),lgI X.B (t-1)≠0→X.fit k k.1 t≤X.p.w):X.fin k k.1=k.2:=by
 show X.endL k k.1 k.1 (tsL k.1 (k.2-k.1))=k.2
 obtain⟨h1,h2,h3⟩:=hk
 rcases Nat.eq_or_lt_of_le h1 with e|e
 ·rw[e,Nat.sub_self]
  rfl
 ·obtain⟨n,hn⟩:∃ n,k.2-k.1=n+1:=⟨k.2-k.1-1,by omega⟩
  have hb:lgI X.B (k.2-1)≠0:=by rw[h3 e];decide
  rw[hn,D3]at h ⊢
  rw[show k.1+1+n=k.2 by omega]at h ⊢
  exact mQ hb (h k.2 (by simp) hb) _ _ fun x hx=>h x (by simp[hx])
theorem xU{X:Txt}{k:Nat×Nat}(h:X.fin k k.1=k.2)(m:Nat)(y:Int):(X.linK k m k.1 y).length=1:=by
 cases m with
 | zero=>rfl
 | succ m =>
  rw[Txt.linK,if_neg (by omega)]
  rfl
theorem qc{X:Txt}:∀ (l:List (Nat×Nat)) (y:Int),(∀ k∈l,X.fin k k.1=k.2)→(X.linA l y).length=l.length
 | [],_,_=>rfl
 | k::l,y,h=>by
  rw[Txt.linA,List.length_append,xU (h k (by simp)),qc l _ fun x hx=>h x (by simp[hx]),List.length_cons]
  omega
def Txt.setw(X:Txt)(w:Int):Txt:={ X with p:={ X.p with w:=w } }
theorem CG{X:Txt}{w:Int}{lv:List Int}{a:Nat}:∀ (l:List Int) (dn:List Bool),(X.setw w).glO lv a dn l=X.glO lv a dn l
 | [],dn=>by rw[Txt.glO,Txt.glO]
 | i::l,dn=>by
  rw[Txt.glO,Txt.glO,CG l,CG l]
  rfl
theorem Hw{X:Txt}{w:Int}{s:Nat}:∀ e:Nat,(X.setw w).wht s e=X.wht s e
 | 0=>rfl
 | e+1=>by
  rw[Txt.wht,Txt.wht,Hw e]
  rfl
theorem fit_w{X:Txt}{w:Int}{k:Nat×Nat}{a b:Nat}:(X.setw w).fit k a b=X.fit k a b:=by
 unfold Txt.fit Txt.gls
 rw[CG,Hw]
 rfl
def gx(B:List Int):Nat:=(B.filter fun b=>decide (b=2)).length
theorem qI:∀ (B:List Int) (f i:Nat),(jk f i B).length=gx B
 | [],_,_=>rfl
 | b::B,f,i=>by
  rw[jk,gx]
  split
  ·rename_i hb
   rw[List.length_cons,qI B,gx]
   simp[hb]
  ·rename_i hb
   rw[qI B,gx]
   simp[hb]
theorem yQ:∀ B:List Int,gx B≤B.length:=fun B=>List.length_filter_le _ _
theorem Ch{A B:List Int}(hl:A.length=B.length)(h:∀ q<A.length,(lgI A q=2↔lgI B q=2)):gx A=gx B:=by
 have e:A.map (fun b=>decide (b=2))=B.map fun b=>decide (b=2):=by
  apply List.ext_getElem
  ·simpa using hl
  ·intro i h1 h2
   have h3:i<A.length:=by simpa using h1
   have h4:i<B.length:=by simpa using h2
   have:=h i h3
   unfold lgI at this
   rw[List.getD_eq_getElem?_getD,List.getD_eq_getElem?_getD,List.getElem?_eq_getElem h3,List.getElem?_eq_getElem h4]at this
   simp only[Option.getD_some]at this
   simp[this]
 have c:∀ B:List Int,gx B=((B.map fun b=>decide (b=2)).filter id).length:=fun B=>by
  unfold gx
  rw[List.filter_map,List.length_map]
  rfl
 rw[c,c,e]
theorem Ar{B:List Int}{i:Nat}(h:i<B.length):gx (B.take (i+1))=gx (B.take i)+if lgI B i=2 then 1 else 0:=by
 have e:B.take (i+1)=B.take i++[lgI B i]:=by
  rw[List.take_add_one,atI h]
  rfl
 rw[e,gx,gx,List.filter_append,List.length_append]
 by_cases hb:lgI B i=2<;>simp[hb]
theorem ite2{c:Prop}[Decidable c]{x y:Int}(hx:x≠2)(hy:y≠2):(if c then x else y)≠2:=by split<;>assumption
theorem B2{t C:List Int}{q:Nat}(hq:q<t.length):lgI (dz t C) q=2↔q+1=t.length∨rk (cLn (lgI t q)) (cLn (lgI t (q+1)))=true:=by
 by_cases hl:q+1=t.length
 ·have:=@mK t C (by omega)
  rw[show t.length-1=q by omega]at this
  rw[lgI,List.getD_eq_getElem?_getD,this]
  exact⟨fun _=>.inl hl,fun _=>rfl⟩
 ·have hi:q+1<t.length:=by omega
  have hb:=sN (cl:=C) hi
  rw[lgI,List.getD_eq_getElem?_getD,hb]
  simp only[Option.getD_some]
  have hc1:∀ {i:Nat},i<t.length→∀ c:Int,c=1∨c=2∨c=3→(lgI (clS (cT t)) i=c↔cLn (lgI t i)=c):=fun {i} hq c hc=>by
   rw[tA (by rw[du];exact hq),← tB hq]
   constructor
   ·intro e
    have:=uF (raw:=cT t) (i:=i) (by omega)
    omega
   ·intro e
    rcases i with _|i<;>(rw[clG,if_neg (by rw[e];rcases hc with rfl|rfl|rfl<;>decide)];exact e)
  have a1:=hc1 hq 1 (by omega)
  have a2:=hc1 hq 2 (by omega)
  have a3:=hc1 hq 3 (by omega)
  have b3:=hc1 hi 3 (by omega)
  have h4:bf4 (cT t) (clS (cT t)) (mkS (t.length+1) C) q≠2:=by
   unfold bf4 bf5 bf6 bf7 bf8 bf9 bfA bfB bfC bfD bfE bfF bfG bfH bfI bfJ bfK
   repeat' apply ite2
   all_goals decide
  rw[fI,bf3]
  generalize bf4 (cT t) (clS (cT t)) (mkS (t.length+1) C) q=z at *
  unfold rk
  simp only[← a1,← a2,← a3,← b3]
  generalize lgI (clS (cT t)) q=a at *
  generalize lgI (clS (cT t)) (q+1)=b at *
  by_cases g1:a=2∧b=3
  ·rw[if_pos g1]
   obtain⟨rfl,rfl⟩:=g1
   simp
   omega
  ·rw[if_neg g1]
   by_cases g2:a∈[1,3,2]
   ·rw[if_pos g2]
    simp at g2
    simp
    omega
   ·rw[if_neg g2]
    simp at g2
    simp[g2,h4]
    omega
end Bi
end Go.Ab
namespace Go.Ab
open Go.Proofs
namespace Bi
attribute [local congr] ay
theorem DM{X:Txt}:X.secs.length=gx X.B+if X.p.t.length=0∨nlS (lgI X.p.t (X.p.t.length-1))=true then 1 else 0:=by
 unfold Txt.secs
 rw[List.length_append,qI]
 split<;>rfl
set_option maxHeartbeats 16000000 in
set_option maxRecDepth 100000 in
theorem wide_ok(d:Nat)(l:List Int):∃ v h',aF Tryz.prog md pZ 10000 (d+18) ⟨0,[],0⟩ 5 [il l] []=some (v,h')∧v=.bool true:=by
 have hA:=fun cfg h=>mG (d+16) cfg h
 have hNw:=fun cfg h=>nh (prim:=pZ) (d+16) cfg h (aV _ (by decide)) l
 have hL:(l.take 4000).length≤4000:=by simp;omega
 refine cm (R:=fun r _=>r=.bool true) (aV _ (by decide)) Tryz.func5 rfl rfl rfl ?_
 generalize hLL:l.take 4000=L at *
 have r0:Rd [some [il L,.int .i64 0]] 0 L 0:=⟨rfl,by omega⟩
 obtain⟨fs,k1,hf1,hf3,hfo,hk1,c1⟩:=gW (prim:=pZ) (d+13) ⟨0,[],0⟩ [some [il L,.int .i64 0]] aV L 0 hL 0 r0 (aP (by simp)) (by simp)
 have r1:Rd (hk [some [il L,.int .i64 0]] 0 L k1) 0 L k1:=r0.set hk1
 obtain⟨p,k2,hpo,hk2,c2⟩:=ni (prim:=pZ) (d+12) ⟨0,[],0⟩ (hk [some [il L,.int .i64 0]] 0 L k1) aV L k1 hL 0 r1 (aP (by simp)) (by simp) 20 fs.length (by omega) (by omega) (by omega)
 obtain⟨Cl,hC,hC1,hC2⟩:=yO p.t (by have:=hpo.len;omega)
 have C:=lF hpo (by omega) hf1 hf3 hfo hC hC1 hC2
 have hMo:=fun cfg h=>C.mos d cfg h
 have hM0:=(tF (X:=(⟨p,fs,dz p.t Cl,Cl,lvZ,fg⟩:Txt)) (⟨p,fs,dz p.t Cl,Cl,lvZ,fg⟩:Txt).secs 0).1
 have hM1:=(tF (X:=(⟨p,fs,dz p.t Cl,Cl,lvZ,fg⟩:Txt)) (⟨p,fs,dz p.t Cl,Cl,lvZ,fg⟩:Txt).secs 0).2
 obtain⟨M,hM⟩:∃ M:Int,(⟨p,fs,dz p.t Cl,Cl,lvZ,fg⟩:Txt).mosA (⟨p,fs,dz p.t Cl,Cl,lvZ,fg⟩:Txt).secs 0=M:=⟨_,rfl⟩
 rw[hM]at hMo hM0 hM1
 dsimp only at hMo
 obtain⟨hlf,hmp,s0,s1,s2,s3,s4,l5,t5⟩:=qA p
 have hlf':=eq_true (List.all_eq_true.1 hlf)
 have hp0:putAt [V.nils,.nils,.int .i64 0,.int .i64 0,.int .i64 0] 0 (bU p)=bU p:=rfl
 have e14:((20:Nat):Int)=20:=rfl
 rw[e14]at c2
 simp only[hk,List.set_cons_zero]at c1 c2
 have mMo:md 19=0:=rfl
 by_cases hbig:1048576<M
 ·simp(disch:=omega)[hNw,c1,c2,hlf',hmp,l5,t5,hp0,hMo,hbig]
 have hpo':uo { p with w:=M } 20 fs.length:={ len:=hpo.len,b:=hpo.b,a:=hpo.a,w:=⟨hM0,by show M≤1048576;omega⟩,sp:=hpo.sp,cov:=hpo.cov,sl:=hpo.sl }
 have C':=lF (p:={ p with w:=M }) hpo' (by omega) hf1 hf3 hfo hC hC1 hC2
 have hLn:=fun cfg h=>C'.lines d cfg h
 have hcount:((⟨{ p with w:=M },fs,dz p.t Cl,Cl,lvZ,fg⟩:Txt).linA (⟨{ p with w:=M },fs,dz p.t Cl,Cl,lvZ,fg⟩:Txt).secs 0).length=gx (dz p.t Cl)+if p.t.length=0∨nlS (lgI p.t (p.t.length-1))=true then 1 else 0:=by
  rw[qc _ _ fun k hk=>AB (C'.hV.secs k hk) fun t ht hb=>Int.le_trans (Int.le_of_eq (fit_w (X:=(⟨p,fs,dz p.t Cl,Cl,lvZ,fg⟩:Txt)) (w:=M))) (hM1 k hk t ht hb),DM]
 dsimp only at hLn
 obtain⟨_,⟨BB,rfl,hBl,hB2⟩,hBk⟩:=B4 (prim:=pZ) (d+12) aV p.t (by have:=hpo.len;omega)
 have hcB:gx BB=gx (dz p.t Cl):=Ch (by rw[hBl,jn]) fun q hq=>by
  rw[hBl]at hq
  rw[hB2 q hq,B2 hq,(sS _).2.1,(sS _).2.1]
 generalize hPP:({ p with w:=M }:Par)=pp at *
 have hpt:pp.t=p.t:=by rw[← hPP]
 have hset:ca (bU p) 4 (.int .i64 M)=bU pp:=by rw[← hPP];rfl
 obtain⟨qlf,qmp,q0,q1,q2,q3,q4,ql5,qt5⟩:=qA pp
 have qlf':=eq_true (List.all_eq_true.1 qlf)
 simp(disch:=omega)[hNw,c1,c2,hlf',hmp,l5,t5,hp0,hMo,hbig,hset,qmp,ql5,qt5,hLn,q0,hpt,hBk]
 have hBlt:=hpo.len
 generalize hLs:(⟨pp,fs,dz p.t Cl,Cl,lvZ,fg⟩:Txt).linA (⟨pp,fs,dz p.t Cl,Cl,lvZ,fg⟩:Txt).secs 0=Ls at *
 refine ah (fun m fr H=>∃ (i:Nat),i≤BB.length∧m=BB.length-i∧H=[some [il L,V.int IntKind.i64 k2],some (bU pp)] ∧
  Slots 75 [(5,.ptr 1 0),(7,.lst (Ls.map aL)),(9,.int .i64 (gx (BB.take i))),(10,il BB),(11,.int .i64 i)] fr) (m:=BB.length) (by omega) ⟨0,by omega,by omega,rfl,by simp[gx]⟩ ?_
 rintro m fr H ⟨i,hi,rfl,rfl,hs⟩
 obtain⟨j,rfl⟩:=hs.ex
 clear hs
 by_cases hlt:i<BB.length
 ·have hI:(i:Int)<BB.length:=by omega
  have hb:=atI (l:=BB) (i:=i) hlt
  have hsn:=Ar hlt
  have hcl:=yQ (BB.take i)
  have hcl2:(BB.take i).length=i:=by simp;omega
  by_cases h2:lgI BB i=2
  ·rw[if_pos h2]at hsn
   simp(disch:=omega)[hI,hb,h2,wrap64,-getElem?_pos]
   exact ae (m':=BB.length-(i+1)) (by omega) ⟨i+1,by omega,by omega,rfl,by rw[hsn];simp(disch:=omega)⟩
  ·rw[if_neg h2]at hsn
   simp(disch:=omega)[hI,hb,h2,wrap64,-getElem?_pos]
   exact ae (m':=BB.length-(i+1)) (by omega) ⟨i+1,by omega,by omega,rfl,by rw[hsn];simp(disch:=omega)⟩
 ·obtain rfl:i=BB.length:=by omega
  have hI:¬ ((BB.length:Int)<BB.length):=by omega
  have hN:=fun cfg h r=>DE (prim:=pZ) (d+14) aV cfg h r
  have hcl:=yQ BB
  rw[← hcB]at hcount
  by_cases h0:p.t=[]
  ·have hcI:(Ls.length:Int)=gx BB+1:=by
    rw[hcount,h0]
    simp
   simp(disch:=omega)[hI,qmp,q0,hpt,h0,hcI,hA,wrap64,-getElem?_pos]
  ·have hpos:0<p.t.length:=List.length_pos_iff.2 h0
   have h00:¬ p.t.length=0:=by omega
   have htl:=atI (l:=p.t) (i:=p.t.length-1) (by omega)
   have e1:(p.t.length:Int)-1=((p.t.length-1:Nat):Int):=by omega
   cases hz:nlS (lgI p.t (p.t.length-1)) with
   | true =>
    have hcI:(Ls.length:Int)=gx BB+1:=by
     rw[hcount,hz]
     simp
    simp(disch:=omega)[hI,qmp,q0,hpt,h0,hcI,hA,hN,htl,e1,hz,wrap64,-getElem?_pos]
   | false =>
    have hcI:(Ls.length:Int)=gx BB:=by
     rw[hcount,hz]
     simp[h00]
    simp(disch:=omega)[hI,qmp,q0,hpt,h0,hcI,hA,hN,htl,e1,hz,wrap64,-getElem?_pos]
end Bi
end Go.Ab
