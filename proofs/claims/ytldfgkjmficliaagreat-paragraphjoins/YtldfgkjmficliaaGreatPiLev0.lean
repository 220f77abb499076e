/- Several texts of this proof in one. -/
import Derived.Test.YtldfgkjmficliaaGreatAbW2
import Derived.Test.YtldfgkjmficliaaGreatPiGen
import Derived.Test.YtldfgkjmficliaaGreatPiSq
import Derived.Test.YtldfgkjmficliaaGreatPiSpec4
import Derived.Test.YtldfgkjmficliaaGreatPiJ
import Derived.Test.YtldfgkjmficliaaGreatPiU
import Derived.Shelf.SlSortCmp.WholeK
import Derived.WalkKit
set_option linter.unusedSimpArgs false
set_option linter.unusedVariables false
namespace Go.Ab
open Go.Proofs Go.Shelf Go.RowKit Go.Lib Go.Sort Go.Proofs.Tryz
abbrev KV:=Fin 4294967296×Fin 4294967296
def kvE(x:KV):List Value:=[.int .i64 (x.1.val:Int),.int .i64 (x.2.val:Int)]
def kvV(x:KV):List V:=[.int .i64 (x.1.val:Int),.int .i64 (x.2.val:Int)]
def kvC(x y:KV):Int:=(x.1.val:Int)-(y.1.val:Int)
def nw(x y:KV):Bool:=ltOf kvC x y
def small(n:Int):Option (Fin 4294967296):=if h:0≤n∧n<4294967296 then some ⟨n.toNat,by omega⟩ else none
def uN:List V→Option (List KV)
 | []=>some []
 | .int .i64 a::.int .i64 b::r=>match small a,small b,uN r with
  | some x,some y,some l=>some ((x,y)::l)
  | _,_,_=>none
 | _=>none
noncomputable def gw(l:List KV):List KV:=(pdq nw l.toArray 0 l.length (Lib.bitLen l.length) true true).toList
theorem fS(x y:KV):nw x y=decide (x.1.val<y.1.val):=by
 unfold nw ltOf kvC
 congr 1
 simp only[eq_iff_iff]
 omega
theorem Gy:SWO (ltOf kvC) where
 irrefl x:=by have:=fS x x;unfold nw at this;rw[this];simp
 trans x y z h1 h2:=by
  have a:=fS x y;have b:=fS y z;have c:=fS x z
  unfold nw at a b c
  rw[a]at h1;rw[b]at h2;rw[c]
  simp at *;omega
 ntrans x y z h1 h2:=by
  have a:=fS x y;have b:=fS y z;have c:=fS x z
  unfold nw at a b c
  rw[a]at h1;rw[b]at h2;rw[c]
  simp only[decide_eq_false_iff_not]at *;omega
theorem nh(l:List KV):PermIn 0 l.length l.toArray (pdq nw l.toArray 0 l.length (Lib.bitLen l.length) true true)∧SortedIn nw 0 l.length (pdq nw l.toArray 0 l.length (Lib.bitLen l.length) true true):=by
 have h:=pdq_sorts (ltOf kvC) Gy l.toArray 0 l.length (Lib.bitLen l.length) true true (Nat.zero_le _) (by simp) (Or.inl rfl)
 exact⟨h.1,h.2⟩
theorem kE(l:List KV):(gw l).length=l.length:=by
 have:=(nh l).1.1
 simpa[gw]using this
theorem uP(l:List KV):(gw l).Perm l:=by
 have h:=nh l
 have h1:=h.1.1
 have h2:=h.1.2.2
 simp only[List.size_toArray]at h1
 have e1:(l.toArray.extract 0 l.length)=l.toArray:=by simp
 have e2:(pdq nw l.toArray 0 l.length (Lib.bitLen l.length) true true).extract 0 l.length=pdq nw l.toArray 0 l.length (Lib.bitLen l.length) true true:=by
  generalize pdq nw l.toArray 0 l.length (Lib.bitLen l.length) true true=a at h1
  rw[← h1]
  exact Array.extract_size
 rw[e1,e2]at h2
 simpa[gw]using h2
theorem ry:∀ {cs:List V}{l:List KV},uN cs=some l→cs=l.flatMap kvV
 | [],l,h=>by simp[uN]at h;subst h;rfl
 | [x],l,h=>by cases x<;>simp[uN]at h
 | x::y::r,l,h=>by
  unfold uN at h
  split at h
  ·rename_i heq;cases heq
  ·rename_i a b r' heq
   cases heq
   split at h
   ·rename_i u v l' h1 h2 h3
    cases h
    have ih:=ry h3
    unfold small at h1 h2
    split at h1
    ·split at h2
     ·cases h1
      cases h2
      rw[List.flatMap_cons,← ih]
      simp only[kvV,List.cons_append,List.nil_append]
      congr 2
      ·congr 1;simp;omega
      ·congr 2;simp;omega
     ·cases h2
    ·cases h1
   ·cases h
  ·cases h
theorem yE(l:List KV):(l.flatMap kvV).length=l.length*2:=by
 induction l with
 | nil=>rfl
 | cons a l ih=>simp only[List.flatMap_cons,List.length_append,List.length_cons,ih];simp[kvV];omega
theorem sN:∀ (l:List KV) (j:Nat) (c:V),(l.flatMap kvV)[j]?=some c→∃ x,l[j / 2]?=some x∧(kvV x)[j%2]?=some c
 | [],j,c,h=>by simp at h
 | x::l,0,c,h=>⟨x,rfl,by simpa[kvV]using h⟩
 | x::l,1,c,h=>⟨x,rfl,by simpa[kvV]using h⟩
 | x::l,j+2,c,h=>by
  have h':(l.flatMap kvV)[j]?=some c:=by simpa[kvV]using h
  obtain⟨y,h1,h2⟩:=sN l j c h'
  refine⟨y,?_,?_⟩
  ·rw[show (j+2) / 2=j / 2+1 by omega];simpa using h1
  ·rw[show (j+2)%2=j%2 by omega];exact h2
noncomputable def kg(g:Nat)(fb:Prim):Prim:=fun cfg args h=>match args with
 | [.sl b off len _ 2,.func (.func g') [] []] =>
  if g'=g∧len<4611686018427387904 then match ab h b with
   | some cs=>if off+len*2≤cs.length then match uN ((cs.drop off).take (len*2)) with
     | some l=>match aO cfg h b off ((gw l).flatMap kvV) with
      | some h'=>some (.tup [],h')
      | none=>none
     | none=>none
    else none
   | none=>none
  else none
 | _=>fb cfg args h
section
variable {m:Mu}{h:Heap}{w w':World}
theorem yl{x b:Nat}{cs:List V}(hx:live h x)(hb:m x=some b){arr arr':Array Value}{T:TypeId}(ha:w.heap[b]?=some (.cells arr T (0,0)))(ha':w'.heap[b]?=some (.cells arr' T (0,0)))(hsz:arr.size≤arr'.size)
  (hs:∀ c,c<w.heap.size→c≠b→w'.heap[c]?=w.heap[c]?) (hz:w.heap.size≤w'.heap.size) (h1:w'.os=w.os) (h2:w'.tape=w.tape) (h3:w'.output=w.output):Evo m h w m (h.set x (some cs)) w' where
 zeq:=rfl
 len:=by simp
 keep:=fun y _ hl=>⟨(bU hx).1 hl,rfl⟩
 own:=fun y c hl hc=>.inl ⟨y,(bU hx).1 hl,hc⟩
 frame:=fun c hc hn=>hs c hc fun hcb=>hn x hx (hcb ▸ hb)
 size:=hz
 rs:=fun c hc=>by
  by_cases hcb:c=b
  ·subst hcb;simp only[rsz,ha,ha'];exact hsz
  ·rw[cI (hs c hc hcb)];exact Nat.le_refl _
 os:=h1
 tape:=h2
 output:=h3
theorem FF(r:Rel m h w){x b:Nat}{cs:List V}(hx:live h x)(hb:m x=some b){arr arr':Array Value}{T:TypeId}(ha:w.heap[b]?=some (.cells arr T (0,0)))(ha':w'.heap[b]?=some (.cells arr' T (0,0)))(hsz:arr.size≤arr'.size)
  (hs:∀ c,c<w.heap.size→c≠b→w'.heap[c]?=w.heap[c]?) (hz:w.heap.size≤w'.heap.size) (h1:w'.os=w.os) (h2:w'.tape=w.tape) (h3:w'.output=w.output)
  (hl:cs.length≤arr'.size) (hr:∀ (i:Nat) (c:V),cs[i]?=some c→∃ v,arr'[i]?=some v∧R m h w c v):Rel m (h.set x (some cs)) w':=by
 have e:=yl (cs:=cs) hx hb ha ha' hsz hs hz h1 h2 h3
 refine⟨fun y c hy hc=>r.zo y c ((bU hx).1 hy) hc,fun c hc=>Nat.lt_of_lt_of_le (r.zl c hc) e.size,fun y z c hy hz hcy hcz=>r.inj y z c ((bU hx).1 hy) ((bU hx).1 hz) hcy hcz,fun y cs' c hy hc=>?_⟩
 by_cases hxy:x=y
 ·subst hxy
  rw[List.getElem?_set_self (eW hx)]at hy
  cases hy
  rw[hb]at hc
  cases hc
  refine .inl ⟨arr',T,ha',hl,fun i c hc=>?_⟩
  obtain⟨v,hv,hrv⟩:=hr i c hc
  exact⟨v,hv,hrv.evo e r.lt⟩
 ·rw[List.getElem?_set_ne hxy]at hy
  have hcb:c≠b:=fun e=>hxy (r.inj x y b hx ⟨cs',hy⟩ hb (e ▸ hc))
  exact (r.blk y cs' c hy hc).carry (hs c (r.lt y c ⟨cs',hy⟩ hc) hcb) fun d v _ hrv=>hrv.evo e r.lt
end
theorem nG(w:World)(b off n:Nat)(d:Array KV)(os:Array Obj)(arr:Array Value)(T:TypeId)(ha:w.heap[b]?=some (.cells arr T (0,0))):
  (sortWorldK kvE 2 w b off n d os).heap[b]?=some (.cells (putCells id off (Go.Sort.flatK kvE 2 d) arr) T (0,0))∧(∀ c,c<w.heap.size→c≠b→(sortWorldK kvE 2 w b off n d os).heap[c]?=w.heap[c]?) ∧
  w.heap.size≤(sortWorldK kvE 2 w b off n d os).heap.size∧(sortWorldK kvE 2 w b off n d os).os=w.os∧(sortWorldK kvE 2 w b off n d os).tape=w.tape∧(sortWorldK kvE 2 w b off n d os).output=w.output:=by
 have hbl:b<w.heap.size:=(Array.getElem?_eq_some_iff.1 ha).1
 refine⟨?_,fun c hc hcb=>?_,?_,rfl,rfl,rfl⟩
 ·simp only[sortWorldK,putRowK,putRow,mapBlock,grow,Sort.ahead]
  rw[Array.getElem?_append_left (by simpa using hbl),Array.getElem?_modify,if_pos rfl,ha]
  rfl
 ·simp only[sortWorldK,putRowK,putRow,mapBlock,grow,Sort.ahead]
  rw[Array.getElem?_append_left (by simpa using hc),Array.getElem?_modify,if_neg (Ne.symm hcb)]
 ·simp[sortWorldK,putRowK,putRow,mapBlock,grow,Sort.ahead]
theorem Dq{P:Program}{ρ:Ren}(L:SlLaysF0.n6 P ρ)(aE:∀ w,(isAgg (ρ.t 24)).run P w=.ok true w)(zE:∀ w,(Go.sizeOf (ρ.t 24)).run P w=.ok 2 w)(g:Nat)(fb:Prim)
  (eg:∀ args w,(callFunc g args).run P w=.ok (.enter g args) w)
  (hc:∀ (x y:KV) (W:World),Calls P g #[.agg (kvE x).toArray,.agg (kvE y).toArray] W fun e w'=>e=.returned (.int .i64 (kvC x y))∧∃ q os',w'=grow (W.drewN q) os')
  (hex:∃ fn,P.funcs[ρ.f 6]?=some fn∧fn.body.isNone=false) (hfb:cj P (ρ.f 6) fb):cj P (ρ.f 6) (kg g fb):=by
 intro cfg args h r h' hx
 unfold kg at hx
 split at hx
 ·rename_i b off len cap g'
  split at hx
  ·rename_i hg
   obtain⟨rfl,hlen⟩:=hg
   split at hx
   ·rename_i cs hcs
    split at hx
    ·rename_i hol
     split at hx
     ·rename_i l hl
      split at hx
      ·rename_i h2 hst
       cases hx
       have hlin:=ry hl
       have hll:l.length=len:=by
        have:=congrArg List.length hlin
        rw[yE]at this
        simp at this
        omega
       have hlive:=aA hcs
       refine⟨HS.storeCells hst,hex,fun m w vs hr hp=>?_⟩
       obtain⟨hsz,hp2⟩:=hp
       simp only[List.length_cons,List.length_nil]at hsz
       obtain⟨v0,v1,rfl⟩:∃ v0 v1,vs=#[v0,v1]:=by
        refine⟨vs[0],vs[1],Array.ext (by simpa using hsz) fun i h1 h2=>?_⟩
        rcases i with _|_|i
        ·rfl
        ·rfl
        ·simp only[List.size_toArray,List.length_cons,List.length_nil]at h2
         omega
       have r0:=hp2 0 _ v0 rfl rfl
       have r1:=hp2 1 _ v1 rfl rfl
       cases r0 with
       | sl hlt hcap hlen' hv =>
       rename_i rc a
       obtain⟨b',hmb,rfl,hrs⟩:=hv ⟨cs,hlive⟩
       cases r1 with
       | func hl1 hr1 hl2 hr2 =>
       rename_i fs cs'
       have hf0:fs=#[]:=Array.eq_empty_of_size_eq_zero (by simpa using hl1)
       have hc0:cs'=#[]:=Array.eq_empty_of_size_eq_zero (by simpa using hl2)
       subst hf0 hc0
       obtain⟨arr,T,ha,hal,hac⟩:=(hr.blk b cs b' hlive hmb).cells (cB hcs)
       have hbl:b'<w.heap.size:=(Array.getElem?_eq_some_iff.1 ha).1
       have hcell:∀ (j:Nat),j<len*2→arr[off+j]?=some (Go.Sort.flatK kvE 2 l.toArray)[j]!:=by
        intro j hj
        obtain⟨c,hc1⟩:∃ c,cs[off+j]?=some c:=⟨_,List.getElem?_eq_getElem (by omega)⟩
        obtain⟨v,hv1,hv2⟩:=hac _ c hc1
        have hc2:(l.flatMap kvV)[j]?=some c:=by
         rw[← hlin,List.getElem?_take_of_lt hj,List.getElem?_drop];exact hc1
        obtain⟨x,hx1,hx2⟩:=sN l j c hc2
        rw[hv1,get_flatK _ _ _ _ (by simpa[hll]using hj)]
        have hx3:l.toArray[j / 2]! =x:=by
         rw[getElem!_pos _ _ (by have:=(List.getElem?_eq_some_iff.1 hx1).1;simpa using this)]
         exact (List.getElem?_eq_some_iff.1 hx1).2
        rw[hx3]
        rcases Nat.mod_two_eq_zero_or_one j with h0|h0<;>rw[h0]at hx2 ⊢<;>simp[kvV]at hx2<;>subst hx2<;>cases hv2<;>simp[kvE]
       have hH:HoldsK kvE 2 w b' off l.toArray:=by
        intro j hj
        rw[size_flatK]at hj
        simp only[List.size_toArray,hll]at hj
        refine⟨?_,?_⟩
        ·simp only[World.cell?,ha]
         exact hcell j hj
        ·simp[World.frozen?,ha]
       have hcall:=AnyQ.slices_SortFunc_eq L 2 aE zE kvE (fun _=>rfl) (fun x v hv=>by simp[kvE]at hv;rcases hv with rfl|rfl<;>rfl) kvC Gy g' #[] b' off rc l.toArray w eg (fun _ _ _ _ x y=>hc x y _) hH hbl (by simpa[hll]using hlen)
       simp only[List.size_toArray,hll]at hcall
       refine hcall.mono ?_
       rintro e w' ⟨rfl,n,os,rfl⟩
       refine⟨_,rfl,?_⟩
       have hstc:=hst
       unfold aO at hstc
       rw[hcs]at hstc
       simp only at hstc
       split at hstc
       ·rename_i hcond
        simp only[Bool.and_eq_true,decide_eq_true_eq]at hcond
        have hcle:=hcond.1.1
        cases hstc
        have hdl:(pdq (ltOf kvC) l.toArray 0 len (Lib.bitLen len) true true).size=len:=by
         have:=kE l
         simp only[gw,hll,Array.length_toList]at this
         exact this
        obtain⟨f1,f2,f3,f4,f5,f6⟩:=nG w b' off n (pdq (ltOf kvC) l.toArray 0 len (Lib.bitLen len) true true) os arr T ha
        have hsz1:arr.size≤(putCells id off (Go.Sort.flatK kvE 2 (pdq (ltOf kvC) l.toArray 0 len (Lib.bitLen len) true true)) arr).size:=by simp[putCells]
        refine⟨m,yl ⟨cs,hlive⟩ hmb ha f1 hsz1 f2 f3 f4 f5 f6,FF hr ⟨cs,hlive⟩ hmb ha f1 hsz1 f2 f3 f4 f5 f6 (by rw[iE];omega) ?_,.tup (by simp) (by simp)⟩
        intro i c hi
        rw[mF cs off _ i hcle]at hi
        rw[yE,kE,hll]at hi hcle
        simp only[putCells,Array.getElem?_mapIdx,size_flatK,hdl]
        by_cases hin:off≤i∧i<off+len*2
        ·rw[if_pos hin]at hi
         obtain⟨v,hv1,-⟩:=hac i _ (List.getElem?_eq_getElem (by omega))
         refine⟨(Go.Sort.flatK kvE 2 (pdq (ltOf kvC) l.toArray 0 len (Lib.bitLen len) true true))[i-off]!,by rw[hv1];simp[hin],?_⟩
         obtain⟨x,hx1,hx2⟩:=sN _ _ c hi
         rw[get_flatK _ _ _ _ (by rw[hdl];omega)]
         have hx3:(pdq (ltOf kvC) l.toArray 0 len (Lib.bitLen len) true true)[(i-off) / 2]! =x:=by
          rw[getElem!_pos _ _ (by rw[hdl];omega)]
          simp only[gw,hll,Array.getElem?_toList]at hx1
          exact (Array.getElem?_eq_some_iff.1 hx1).2
         rw[hx3]
         rcases Nat.mod_two_eq_zero_or_one (i-off) with h0|h0<;>rw[h0]at hx2 ⊢<;>simp[kvV]at hx2<;>subst hx2<;>simp[kvE]<;>exact .int _ _
        ·rw[if_neg hin]at hi
         obtain⟨v,hv1,hv2⟩:=hac i c hi
         exact⟨v,by rw[hv1];simp[hin],hv2⟩
       ·cases hstc
      ·cases hx
     ·cases hx
    ·cases hx
   ·cases hx
  ·cases hx
 ·exact hfb cfg args h r h' hx
end Go.Ab
namespace Go.Proofs
open Go.Shelf Go.RowKit Go.Lib Go.Sort
def Tryz.sortL_ren:Ren:=⟨fun|6=>168|15=>176|14=>175|28=>187|29=>188|20=>179|21=>180|22=>181|23=>182|24=>183|25=>184|26=>185|27=>186|46=>189|47=>190|48=>191|49=>192|50=>193|57=>194|n=>n,fun|22=>144|24=>145|25=>221|3=>3|39=>168|0=>0|53=>241|55=>243|4=>4|46=>235|45=>234|50=>127|5=>5|9=>9|66=>244|70=>248|76=>250|77=>251|n=>n,fun|n=>n⟩
theorem Tryz.sortL:SlLaysF0.n6 prog Tryz.sortL_ren:={
 mixed:=by kernel_rfl
 f6:=⟨Tryz.f168.name,by decide,func168.trans (congrArg some (by kernel_rfl))⟩
 f14:=⟨Tryz.f175.name,by decide,func175.trans (congrArg some (by kernel_rfl))⟩
 f15:=func176.trans (congrArg some (by kernel_rfl))
 f20:=⟨Tryz.f179.name,by decide,func179.trans (congrArg some (by kernel_rfl))⟩
 f21:=⟨Tryz.f180.name,by decide,func180.trans (congrArg some (by kernel_rfl))⟩
 f22:=⟨Tryz.f181.name,by decide,func181.trans (congrArg some (by kernel_rfl))⟩
 f23:=⟨Tryz.f182.name,by decide,func182.trans (congrArg some (by kernel_rfl))⟩
 f24:=⟨Tryz.f183.name,by decide,func183.trans (congrArg some (by kernel_rfl))⟩
 f25:=⟨Tryz.f184.name,by decide,func184.trans (congrArg some (by kernel_rfl))⟩
 f26:=⟨Tryz.f185.name,by decide,func185.trans (congrArg some (by kernel_rfl))⟩
 f27:=⟨Tryz.f186.name,by decide,func186.trans (congrArg some (by kernel_rfl))⟩
 f28:=func187.trans (congrArg some (by kernel_rfl))
 f29:=func188.trans (congrArg some (by kernel_rfl))
 f46:=⟨Tryz.f189.name,by decide,func189.trans (congrArg some (by kernel_rfl))⟩
 f47:=func190.trans (congrArg some (by kernel_rfl))
 f48:=func191.trans (congrArg some (by kernel_rfl))
 f49:=⟨Tryz.f192.name,by decide,func192.trans (congrArg some (by kernel_rfl))⟩
 f50:=⟨Tryz.f193.name,by decide,func193.trans (congrArg some (by kernel_rfl))⟩
 f57:=⟨Tryz.f194.name,by decide,func194.trans (congrArg some (by kernel_rfl))⟩
 t0:=Tryz.underlying0
 a0:=Tryz.isAgg0
 z0:=Tryz.sizeOf0
 v0:=Tryz.zeroValue0
 t3:=Tryz.underlying3
 a3:=Tryz.isAgg3
 z3:=Tryz.sizeOf3
 v3:=Tryz.zeroValue3
 t4:=Tryz.underlying4
 a4:=Tryz.isAgg4
 z4:=Tryz.sizeOf4
 v4:=Tryz.zeroValue4
 t5:=Tryz.underlying5
 a5:=Tryz.isAgg5
 z5:=Tryz.sizeOf5
 v5:=Tryz.zeroValue5
 t9:=Tryz.underlying9
 a9:=Tryz.isAgg9
 z9:=Tryz.sizeOf9
 v9:=Tryz.zeroValue9
 t22:=Tryz.underlying144
 a22:=Tryz.isAgg144
 z22:=Tryz.sizeOf144
 v22:=Tryz.zeroValue144
 t25:=Tryz.underlying221
 a25:=Tryz.isAgg221
 z25:=Tryz.sizeOf221
 v25:=Tryz.zeroValue221
 t39:=Tryz.underlying168
 a39:=Tryz.isAgg168
 z39:=Tryz.sizeOf168
 v39:=Tryz.zeroValue168
 t45:=Tryz.underlying234
 a45:=Tryz.isAgg234
 z45:=Tryz.sizeOf234
 v45:=Tryz.zeroValue234
 t46:=Tryz.underlying235
 a46:=Tryz.isAgg235
 z46:=Tryz.sizeOf235
 v46:=Tryz.zeroValue235
 t50:=Tryz.underlying127
 a50:=Tryz.isAgg127
 z50:=Tryz.sizeOf127
 v50:=Tryz.zeroValue127
 t53:=Tryz.underlying241
 a53:=Tryz.isAgg241
 z53:=Tryz.sizeOf241
 v53:=Tryz.zeroValue241
 t55:=Tryz.underlying243
 a55:=Tryz.isAgg243
 z55:=Tryz.sizeOf243
 v55:=Tryz.zeroValue243
 t66:=Tryz.underlying244
 a66:=Tryz.isAgg244
 z66:=Tryz.sizeOf244
 v66:=Tryz.zeroValue244
 t70:=Tryz.underlying248
 a70:=Tryz.isAgg248
 z70:=Tryz.sizeOf248
 v70:=Tryz.zeroValue248
 t76:=Tryz.underlying250
 a76:=Tryz.isAgg250
 z76:=Tryz.sizeOf250
 v76:=Tryz.zeroValue250
 t77:=Tryz.underlying251
 a77:=Tryz.isAgg251
 z77:=Tryz.sizeOf251
 v77:=Tryz.zeroValue251 }
theorem Tryz.cmp83(x y:Go.Ab.KV)(W:World):Calls prog 169 #[.agg (Go.Ab.kvE x).toArray,.agg (Go.Ab.kvE y).toArray] W fun e w'=>e=.returned (.int .i64 (Go.Ab.kvC x y))∧∃ q os',w'=grow (W.drewN q) os':=by
 have hw:IntKind.i64.wrap ((x.1.val:Int)-(y.1.val:Int))=(x.1.val:Int)-(y.1.val:Int):=by
  have h1:=x.1.isLt
  have h2:=y.1.isLt
  rw[IntKind.wrap_i64]
  omega
 unfold Go.Ab.kvE Go.Ab.kvC
 generalize (x.1.val:Int)=a at hw ⊢
 generalize (y.1.val:Int)=b at hw ⊢
 go_enter func169,Tryz.ntmps169
 go_wp2
 go_ret
 exact⟨rfl,0,_,by rw[alloc_eq_grow,alloc_eq_grow,grow_grow];rfl⟩
end Go.Proofs
namespace Go.Ab
open Go.Proofs Go.Proofs.Tryz
namespace Bi
noncomputable def fbS:Prim:=fun cfg args h=>aI prog md (fun _=>none) 10000 40 cfg 168 args h
theorem vJ(hm:prog.follows .mixedOrders=true)(hN:di prog):cj prog 168 (kg 169 fbS):=
 Dq Tryz.sortL Tryz.isAgg145 Tryz.sizeOf145 169 fbS (Go.Proofs.enters_of func169 (by kernel_rfl) rfl) Tryz.cmp83 ⟨_,func168,rfl⟩
  (fun cfg args h r h' hx=>dz hm hN (fun _ _ h=>by cases h) 40 _ _ _ _ _ _ hx)
def xN(x:Nat×Nat):KV:=(⟨x.1%4294967296,by omega⟩,⟨x.2%4294967296,by omega⟩)
noncomputable def kN(out:List (Nat×Nat)):List (Nat×Nat):=(gw (out.map xN)).map fun x=>(x.1.val,x.2.val)
def Sm(out:List (Nat×Nat)):Prop:=∀ x∈out,x.1<4294967296∧x.2<4294967296
theorem qp(out:List (Nat×Nat)):(kN out).length=out.length:=by simp[kN,kE]
theorem AP{out:List (Nat×Nat)}(h:Sm out):(kN out).Perm out:=by
 have h1:=(uP (out.map xN)).map (fun x:KV=>(x.1.val,x.2.val))
 rw[List.map_map]at h1
 have h2:out.map ((fun x:KV=>(x.1.val,x.2.val)) ∘ xN)=out:=by
  conv=>rhs;rw[← List.map_id out]
  apply List.map_congr_left
  intro x hx
  obtain⟨a,b⟩:=h x hx
  simp[xN,Nat.mod_eq_of_lt a,Nat.mod_eq_of_lt b]
 rw[h2]at h1
 exact h1
theorem rT{n:Nat}(h:n<4294967296):small (n:Int)=some ⟨n%4294967296,by omega⟩:=by
 unfold small
 rw[dif_pos ⟨by omega,by omega⟩]
 congr 1
 apply Fin.ext
 simp[Nat.mod_eq_of_lt h]
theorem uO:∀ {out:List (Nat×Nat)},Sm out→uN (pcn out)=some (out.map xN)
 | [],_=>rfl
 | x::r,h=>by
  obtain⟨a,b⟩:=h x (List.mem_cons_self ..)
  have ih:=uO (out:=r) fun y hy=>h y (List.mem_cons_of_mem _ hy)
  have e:pcn (x::r)=.int .i64 (x.1:Int)::.int .i64 (x.2:Int)::pcn r:=rfl
  rw[e,uN,rT a,rT b,ih]
  rfl
theorem Fy(out:List (Nat×Nat)):pcn (kN out)=(gw (out.map xN)).flatMap kvV:=by
 unfold kN
 generalize gw (out.map xN)=l
 induction l with
 | nil=>rfl
 | cons a l ih =>
  have e:pcn ((a::l).map fun x=>(x.1.val,x.2.val))=[.int .i64 (a.1.val:Int),.int .i64 (a.2.val:Int)]++pcn (l.map fun x=>(x.1.val,x.2.val)):=rfl
  rw[e,ih]
  rfl
section
variable {prim:FuncId→Option Prim}(d:Nat)
theorem FN(hp:prim 168=some (kg 169 fbS))(cfg:Cfg)(H:Heap)(b cap:Nat)(out:List (Nat×Nat))(J:List V)(hs:Sm out)(hl:out.length≤2000)(hlo:cfg.lo≤b)(hb:ab H b=some (pcn out++J)):
  af md (K prim (d+1)) cfg 168 [.sl b 0 out.length cap 2,.func (.func 169) [] []] H=some (.tup [],H.set b (some (pcn (kN out)++J))):=by
 have hpl:=jF out
 have hpl2:=jF (kN out)
 rw[qp]at hpl2
 have hbl:=aw hb
 have hw:(Cfg.wr ⟨cfg.lo,cfg.ex,H.length⟩ b)=true:=bE hlo
 have hrf:(pcn (kN out)).all V.rf=true:=xr _
 have hst:aO ⟨cfg.lo,cfg.ex,H.length⟩ H b 0 (pcn (kN out))=some (H.set b (some (pcn (kN out)++J))):=by
  rw[gB,hb]
  simp only[Option.bind_some]
  rw[if_pos]
  ·have:=gV (pcn (kN out)) [] (pcn out++J) (by simp;omega)
   simp only[List.nil_append,List.length_nil]at this
   rw[this,List.drop_append_of_le_length (by omega),List.drop_of_length_le (by omega)]
   rfl
  ·simp only[hw,hrf,Bool.or_true,Bool.and_true,decide_eq_true_eq,List.length_append]
   omega
 have hP:kg 169 fbS ⟨cfg.lo,cfg.ex,H.length⟩ [.sl b 0 out.length cap 2,.func (.func 169) [] []] H=some (.tup [],H.set b (some (pcn (kN out)++J))):=by
  simp only[kg]
  rw[if_pos ⟨trivial,by omega⟩,hb]
  simp only
  rw[if_pos (by simp;omega),List.drop_zero,List.take_left' (by omega),uO hs]
  simp only
  rw[← Fy,hst]
 have hK:K prim (d+1) ⟨cfg.lo,cfg.ex,H.length⟩ 168 [.sl b 0 out.length cap 2,.func (.func 169) [] []] H=some (.tup [],H.set b (some (pcn (kN out)++J))):=by
  show (match prim 168 with
   | some p=>p _ _ _
   | none=>_)=_
  rw[hp]
  exact hP
 have hm:md 168=1:=rfl
 simp only[af,hm,hK]
 simp[frz]
 exact List.take_of_length_le (by simp)
theorem E3(cfg:Cfg)(H:Heap):af md (K (fun _=>none) (d+1)) cfg 179 [.nils,.int .i64 0,.int .i64 0,.func (.func 169) [] []] H=some (.tup [],H):=by
 refine call1 rfl rfl func179 rfl rfl rfl ?_
 simp(disch:=omega)[wrap64]
 refine aj (fun m fr h=>m=0∧h=H∧Slots 53 [(0,.nils),(1,.int .i64 0),(2,.int .i64 0),(3,.func (.func 169) [] []),(8,.int .i64 1)] fr) (m:=0) (by omega) ⟨rfl,rfl,by simp⟩ ?_
 rintro m fr h ⟨rfl,rfl,hs⟩
 obtain⟨j,rfl⟩:=hs.ex
 clear hs
 simp
theorem Fz(cfg:Cfg)(H:Heap)(x:Int):af md (K (fun _=>none) (d+2)) cfg 175 [.nils,.int .i64 0,.int .i64 0,.int .i64 x,.func (.func 169) [] []] H=some (.tup [],H):=by
 refine call1 rfl rfl func175 rfl rfl rfl ?_
 have hI:=fun cfg H=>E3 d cfg H
 simp(disch:=omega)
 refine aj (fun m fr h=>m=0∧h=H∧Slots 148 [(0,.nils),(1,.int .i64 0),(2,.int .i64 0),(3,.int .i64 x),(4,.func (.func 169) [] []),(10,.bool true),(11,.bool true)] fr) (m:=0) (by omega) ⟨rfl,rfl,by simp⟩ ?_
 rintro m fr h ⟨rfl,rfl,hs⟩
 obtain⟨j,rfl⟩:=hs.ex
 clear hs
 simp(disch:=omega)[hI,wrap64]
theorem Fb(cfg:Cfg)(H:Heap):af md (K (fun _=>none) 39) cfg 176 [.int .u64 0] H=some (.int .i64 0,H):=by kernel_rfl
theorem Dn(cfg:Cfg)(H:Heap):fbS cfg [.nils,.func (.func 169) [] []] H=some (.tup [],H):=by
 have hI:=fun cfg H x=>Fz 37 cfg H x
 have hL:=fun cfg H=>Fb cfg H
 obtain⟨r,h',h1,rfl,rfl⟩:=cx (md:=md) (n:=10000) (d:=39) (cfg:=cfg) (h:=H) (args:=[.nils,.func (.func 169) [] []]) (prim:=fun _=>none) (R:=fun r h'=>r=.tup []∧h'=H) rfl func168 rfl rfl rfl (by
  simp(disch:=omega)[hI,hL,zt])
 exact h1
theorem Dp(hp:prim 168=some (kg 169 fbS))(cfg:Cfg)(H:Heap):af md (K prim (d+1)) cfg 168 [.nils,.func (.func 169) [] []] H=some (.tup [],H):=by
 have hK:K prim (d+1) ⟨cfg.lo,cfg.ex,H.length⟩ 168 [.nils,.func (.func 169) [] []] H=some (.tup [],H):=by
  show (match prim 168 with
   | some p=>p _ _ _
   | none=>_)=_
  rw[hp]
  simp only[kg]
  exact Dn _ _
 have hm:md 168=1:=rfl
 simp only[af,hm,hK]
 simp[frz]
end
end Bi
end Go.Ab
namespace Go.Ab.Bi
def et:Int→List Int→List Int→List Int
 | p,x::o,a::y=>(if gone x then p else a)::et (if gone x then p else a) o y
 | _,_,_=>[]
theorem dV:∀ (o y:List Int) (p:Int),o.length=y.length→(et p o y).length=y.length
 | [],[],_,_=>rfl
 | x::o,a::y,p,h=>by simp at h;simp[et,dV o y _ h]
 | [],_::_,_,h=>by simp at h
 | _::_,[],_,h=>by simp at h
theorem mI{o y:List Int}{p x a:Int}(ho:o[0]?=some x)(hy:y[0]?=some a):(et p o y)[0]?=some (if gone x then p else a):=by
 cases o with
 | nil=>simp at ho
 | cons b o=>cases y with
  | nil=>simp at hy
  | cons c y=>simp at ho hy;simp[et,ho,hy]
theorem mG:∀ (o y:List Int) (p:Int) (i:Nat) (x a q:Int),o[i+1]?=some x→y[i+1]?=some a→(et p o y)[i]?=some q→(et p o y)[i+1]?=some (if gone x then q else a)
 | [],_,_,_,_,_,_,ho,_,_=>by simp at ho
 | _::_,[],_,_,_,_,_,_,hy,_=>by simp at hy
 | b::o,c::y,p,0,x,a,q,ho,hy,hq=>by
  simp only[et,List.getElem?_cons_zero,Option.some.injEq]at hq
  simp only[et,List.getElem?_cons_succ]at ho hy ⊢
  rw[mI ho hy,hq]
 | b::o,c::y,p,i+1,x,a,q,ho,hy,hq=>by
  simp only[et,List.getElem?_cons_succ]at ho hy hq ⊢
  exact mG o y _ i x a q ho hy hq
def iT(p:Int)(o y:List Int)(i:Nat):List Int:=(et p o y).take i++y.drop i
theorem C8{p:Int}{o y:List Int}(h:o.length=y.length)(i:Nat):(iT p o y i).length=y.length:=by
 have:=dV o y p h
 simp[iT,this]
 omega
theorem AK{p:Int}{o y:List Int}:iT p o y 0=y:=by simp[iT]
theorem C7{p:Int}{o y:List Int}(h:o.length=y.length):iT p o y y.length=et p o y:=by
 have:=dV o y p h
 simp[iT,List.take_of_length_le (Nat.le_of_eq this)]
theorem FG{p:Int}{o y:List Int}(h:o.length=y.length){i j:Nat}(hj:j<i)(hi:i≤y.length):(iT p o y i)[j]?=(et p o y)[j]?:=by
 have:=dV o y p h
 rw[iT,List.getElem?_append_left (by simp;omega),List.getElem?_take_of_lt hj]
theorem FH{p:Int}{o y:List Int}(h:o.length=y.length){i:Nat}(hi:i<y.length):(iT p o y i)[i]?=y[i]?:=by
 have:=dV o y p h
 have hl:((et p o y).take i).length=i:=by simp;omega
 rw[iT,List.getElem?_append_right (by omega),hl,List.getElem?_drop]
 simp
theorem qg{p:Int}{o y:List Int}(h:o.length=y.length){i:Nat}(hi:i<y.length){z:Int}(hz:(et p o y)[i]?=some z):(iT p o y i).set i z=iT p o y (i+1):=by
 have hr:=dV o y p h
 have hl:((et p o y).take i).length=i:=by simp;omega
 unfold iT
 rw[List.set_append_right _ _ (by omega),hl,Nat.sub_self,List.drop_eq_getElem_cons hi,List.set_cons_zero,List.take_add_one,hz]
 simp
theorem I3{l:List Int}{i:Nat}{x:Int}(h:l[i]?=some x):l.set i x=l:=by
 obtain⟨hl,rfl⟩:=List.getElem?_eq_some_iff.1 h
 exact List.set_getElem_self hl
def ma(x:Int):Bool:=x==12||x==22||x==9||x==16||x==14||x==17||x==15||x==18||ini x
def trB(x:Int)(b:Bool):Bool:=if x=11∨x=10 then true else if ma x then b else false
def trl(e:Int):List Int→List Int→Bool×List Int
 | x::o,a::y=>(trB x (trl e o y).1,(if trB x (trl e o y).1 then e else a)::(trl e o y).2)
 | _,_=>(true,[])
theorem tq(e:Int):∀ (o y:List Int),o.length=y.length→(trl e o y).2.length=y.length
 | [],[],_=>rfl
 | x::o,a::y,h=>by simp at h;simp[trl,tq e o y h]
 | [],_::_,h=>by simp at h
 | _::_,[],h=>by simp at h
def trU(e:Int)(o y:List Int)(k:Nat):List Int:=y.take k++(trl e (o.drop k) (y.drop k)).2
def trF(e:Int)(o y:List Int)(k:Nat):Bool:=(trl e (o.drop k) (y.drop k)).1
theorem FW{e:Int}{o y:List Int}(h:o.length=y.length)(k:Nat):(trU e o y k).length=y.length:=by
 have:=tq e (o.drop k) (y.drop k) (by simp[h])
 simp[trU,this]
 omega
theorem FV{e:Int}{o y:List Int}(h:o.length=y.length):trU e o y y.length=y∧trF e o y y.length=true:=by
 unfold trU trF
 rw[List.drop_of_length_le (Nat.le_refl _),List.drop_of_length_le (Nat.le_of_eq h)]
 simp[trl]
theorem DA{e:Int}{o y:List Int}:trU e o y 0=(trl e o y).2:=by simp[trU]
theorem Dz{e:Int}{o y:List Int}(h:o.length=y.length){k:Nat}{x:Int}(hx:o[k]?=some x):trF e o y k=trB x (trF e o y (k+1)):=by
 obtain⟨hl,rfl⟩:=List.getElem?_eq_some_iff.1 hx
 have hy:k<y.length:=by omega
 unfold trF
 rw[List.drop_eq_getElem_cons hl,List.drop_eq_getElem_cons hy,trl]
theorem FX{e:Int}{o y:List Int}(h:o.length=y.length){k:Nat}(hk:k<y.length)(hb:trF e o y k=true):(trU e o y (k+1)).set k e=trU e o y k:=by
 have hl:k<o.length:=by omega
 unfold trF at hb
 unfold trU
 rw[List.drop_eq_getElem_cons hl,List.drop_eq_getElem_cons hk,trl]at hb ⊢
 simp only at hb
 simp only[hb,if_true]
 rw[List.take_add_one,List.getElem?_eq_getElem hk]
 simp only[Option.toList_some]
 rw[List.append_assoc,List.set_append_right _ _ (by simp;omega)]
 have:k-(y.take k).length=0:=by simp;omega
 rw[this]
 rfl
theorem I5{e:Int}{o y:List Int}(h:o.length=y.length){k:Nat}(hk:k<y.length)(hb:trF e o y k=false):trU e o y (k+1)=trU e o y k:=by
 have hl:k<o.length:=by omega
 unfold trF at hb
 unfold trU
 rw[List.drop_eq_getElem_cons hl,List.drop_eq_getElem_cons hk,trl]at hb ⊢
 simp only at hb
 simp only[hb,Bool.false_eq_true,if_false]
 rw[List.take_add_one,List.getElem?_eq_getElem hk]
 simp only[Option.toList_some]
 rw[List.append_assoc]
 rfl
end Go.Ab.Bi
namespace Go.Ab.Bi
theorem EW.top{e:Int}{i:Nat}{s:ES}(h:EW e i s):0≤(fu s.st).1∧(fu s.st).1≤125:=by
 obtain⟨a,r,hs⟩:=h.cons
 have ha:=h.rng a (by rw[hs];exact List.mem_cons_self ..)
 have ht:fu s.st=a:=by rw[hs];rfl
 rw[ht]
 exact⟨by omega,by omega⟩
theorem wF{e:Int}{i:Nat}{s:ES}(h:EW e i s)(he:0≤e∧e≤1)(x:Int)(odd:Bool):0≤(bK e x odd s).1∧(bK e x odd s).1≤125:=by
 have h2:=h.step x odd
 have ht:=h.top
 have ht2:=h2.top
 unfold bK at ht2 ⊢
 split
 ·exact ht
 ·rename_i h1
  rw[if_neg h1]at ht2
  split
  ·exact ht
  ·rename_i h3
   rw[if_neg h3]at ht2
   split
   ·rename_i h4
    rw[if_pos h4]at ht2
    exact ht2
   ·split
    ·exact ht
    ·split
     ·exact⟨he.1,by omega⟩
     ·split<;>exact ht
theorem tY{e:Int}(he:0≤e∧e≤1):∀ (l:List Int) (s:ES) (i:Nat),EW e i s→∀ p∈pa e l s,0≤p.1∧p.1≤125
 | [],_,_,_,p,hp=>by simp[pa]at hp
 | x::r,s,i,h,p,hp=>by
  rw[pa]at hp
  rcases List.mem_cons.1 hp with rfl|hp
  ·exact wF h he x _
  ·exact tY he r _ (i+1) (h.step x _) p hp
theorem tZ{e:Int}(he:0≤e∧e≤1)(o:List Int):∀ x∈(gH e o).map (·.1),0≤x∧x≤125:=by
 intro x hx
 obtain⟨p,hp,rfl⟩:=List.mem_map.1 hx
 exact tY he o _ 0 (EW.zero he) p hp
end Go.Ab.Bi
namespace Go.Ab
open Go.Proofs Go.Proofs.Tryz
namespace Bi
noncomputable def AG(l:List (Int×Int)):List (Nat×Nat):=match pgo 0 l ⟨[],[]⟩ with
 | some out=>kN out
 | none=>[]
def Stp(t o:List Int)(s:Sq)(c y c' y':List Int):Prop:=
 ∃ c1 c2,WB c s.l (zq s.sos (s.l.map (lvl c))) c1 ∧
  WB c1 s.l (qB (eS s.lev) s.sos (s.l.map (lvl o)) (AG ((s.l.map (lvl c1)).zip (s.l.map (lvl t)))) (s.l.map (lvl c1))) c2 ∧
  WB c2 s.l (gP (eS s.lev) s.eos s.sos 0 (s.l.map (lvl c2))) c'∧WB y s.l (iQ s.lev (s.l.map (lvl y)) (s.l.map (lvl c'))) y'
def Stps(t o:List Int):List Sq→List Int→List Int→List Int→List Int→Prop
 | [],c,y,c',y'=>c'=c∧y'=y
 | s::r,c,y,c',y'=>∃ c1 y1,Stp t o s c y c1 y1∧Stps t o r c1 y1 c' y'
theorem Stps.snoc{t o:List Int}:∀ {l:List Sq}{s:Sq}{c y c1 y1 c2 y2:List Int},Stps t o l c y c1 y1→Stp t o s c1 y1 c2 y2→Stps t o (l++[s]) c y c2 y2
 | [],_,_,_,_,_,_,_,⟨rfl,rfl⟩,h=>⟨_,_,h,rfl,rfl⟩
 | _::_,_,_,_,_,_,_,_,⟨a,b,h1,h2⟩,h=>⟨a,b,h1,h2.snoc h⟩
def LevR(t:List Int)(base:Int)(r:List Int):Prop:=
 ∃ M c' y',MOK (t.map cD) M ∧
  Stps t (t.map cD) (ke (t.map cD) M ((gH (dx cD t base) (t.map cD)).map (·.1)) t.length (dx cD t base)) ((gH (dx cD t base) (t.map cD)).map (·.2)) ((gH (dx cD t base) (t.map cD)).map (·.1)) c' y' ∧
  r=(trl (dx cD t base) (t.map cD) (et (dx cD t base) (t.map cD) y')).2
theorem lU{o:List Int}{F:Nat→Int}{rs:List (List Int)}{lv kept:List Int}{e:Int}{s:Sq}:∀ {k:Nat},s∈iK o F rs lv kept e k→∃ j,j<k∧con F rs.length j=false∧s=Ds o F rs lv kept e j
 | 0,h=>by simp[iK]at h
 | k+1,h=>by
  unfold iK at h
  cases hc:con F rs.length k
  ·rw[hc]at h
   rcases List.mem_append.1 h with h|h
   ·obtain⟨j,h1,h2,h3⟩:=lU h
    exact⟨j,by omega,h2,h3⟩
   ·exact⟨k,by omega,hc,by simpa using h⟩
  ·rw[hc]at h
   obtain⟨j,h1,h2,h3⟩:=lU h
   exact⟨j,by omega,h2,h3⟩
theorem gL{o lv:List Int}{n:Nat}:(grp lv (aX o n) (aX o n).length).flatten=aX o n:=by
 rw[lk lv (aX o n) _ (Nat.le_refl _),List.take_length]
theorem FL{o M lv:List Int}{n:Nat}(hM:MOK o M)(hon:o.length=n):
  ∀ j,j<(grp lv (aX o n) (aX o n).length).length→fol o M (grp lv (aX o n) (aX o n).length) j<0∨((j:Int)<fol o M (grp lv (aX o n) (aX o n).length) j∧fol o M (grp lv (aX o n) (aX o n).length) j<(grp lv (aX o n) (aX o n).length).length):=by
 intro j hj
 refine wN hM ?_ ?_ j hj
 ·rw[gL];exact fF o n
 ·rw[gL]
  intro x hx
  have:=eK o n x hx
  omega
theorem vM{o M lv:List Int}{n:Nat}{e:Int}(hM:MOK o M)(hon:o.length=n)(hlv:lv.length=n)(hlr:∀ x∈lv,0≤x∧x≤125){s:Sq}(hs:s∈ke o M lv n e):Pl n s.l∧s.l.length≤n∧(0≤s.lev∧s.lev≤125)∧s.l.Sublist (aX o n):=by
 unfold ke at hs
 obtain⟨j,h1,h2,rfl⟩:=lU hs
 obtain⟨r,hr⟩:∃ r,(grp lv (aX o n) (aX o n).length)[j]?=some r:=⟨_,List.getElem?_eq_getElem h1⟩
 obtain⟨c1,c2,c3⟩:=ra (FL hM hon) gL (nU lv (aX o n) _) hr
 have hk:=eK o n
 have ha:=fF o n
 have hkl:=gM o n
 have hll:=c1.length_le
 refine⟨⟨fun i hi=>?_,?_⟩,?_,?_,c1⟩
 ·have:=hk i (c1.subset hi)
  omega
 ·exact (ha.sublist c1).imp (fun h=>by omega)
 ·show (chn _ _ _ _).length≤n
  omega
 ·show 0≤lvl lv _∧lvl lv _≤125
  have hx:=uD c2
  have hm:=hk _ (c1.subset (List.mem_of_getElem? hx))
  generalize (chn (fol o M (grp lv (aX o n) (aX o n).length)) (grp lv (aX o n) (aX o n).length) (grp lv (aX o n) (aX o n).length).length j).headD 0=x at hm
  have hlx:lv[x.toNat]?=some (lvl lv x):=by rw[lvl,List.getD_eq_getElem?_getD,List.getElem?_eq_getElem (by omega)];rfl
  exact hlr _ (List.mem_of_getElem? hlx)
theorem uH{lev:Int}:∀ {u s:List Int}{a:Int},a∈iQ lev u s→∃ b∈u,b≤a∧a≤b+2
 | [],_,_,h=>by simp[iQ]at h
 | _::_,[],_,h=>by simp[iQ]at h
 | b::u,x::s,a,h=>by
  rw[iQ]at h
  rcases List.mem_cons.1 h with h|h
  ·have:=pB lev x
   exact⟨b,List.mem_cons_self ..,by omega,by omega⟩
  ·obtain⟨c,h1,h2⟩:=uH h
   exact⟨c,List.mem_cons_of_mem _ h1,h2⟩
theorem GS{c l s c':List Int}(h:WB c l s c'){x:Int}(hx:x∈c'):x∈c∨x∈s:=by
 obtain⟨j,hj⟩:=List.mem_iff_getElem?.1 hx
 by_cases hl:(j:Int)∈l
 ·obtain⟨k,hk⟩:=List.mem_iff_getElem?.1 hl
  have:=h.at_ k _ hk
  rw[Int.toNat_natCast,hj]at this
  exact .inr (List.mem_of_getElem? this.symm)
 ·have:=h.oth j hl
  rw[hj]at this
  exact .inl (List.mem_of_getElem? this.symm)
theorem yM{c l:List Int}(h:∀ i∈l,0≤i∧i<c.length){x:Int}(hx:x∈l.map (lvl c)):x∈c:=by
 obtain⟨i,hi,rfl⟩:=List.mem_map.1 hx
 have:=h i hi
 have hlx:c[i.toNat]?=some (lvl c i):=by rw[lvl,List.getD_eq_getElem?_getD,List.getElem?_eq_getElem (by omega)];rfl
 exact List.mem_of_getElem? hlx
theorem Stp.len{t o c y c' y':List Int}{s:Sq}(h:Stp t o s c y c' y'):c'.length=c.length∧y'.length=y.length:=by
 obtain⟨c1,c2,h1,h2,h3,h4⟩:=h
 exact⟨h3.len.trans (h2.len.trans h1.len),h4.len⟩
theorem Stp.rng{t o c y c' y':List Int}{s:Sq}{n:Nat}{B:Int}(h:Stp t o s c y c' y')(hs:Pl n s.l)(hy:y.length=n)(hB:∀ x∈y,0≤x∧x≤B):∀ x∈y',0≤x∧x≤B+2:=by
 obtain⟨c1,c2,h1,h2,h3,h4⟩:=h
 intro x hx
 rcases GS h4 hx with h5|h5
 ·have:=hB x h5;omega
 ·obtain⟨b,h6,h7,h8⟩:=uH h5
  have:=hB b (yM (fun i hi=>by have:=hs.rng i hi;omega) h6)
  omega
theorem yU:∀ (l:List (Int×Int)) (k:Nat) (p:PS) (out:List (Nat×Nat)),POK k p→pgo k l p=some out→∃ p',POK (k+l.length) p'∧p'.out=out
 | [],k,p,out,h,e=>by
  simp only[pgo,Option.some.injEq]at e
  exact⟨p,h,e⟩
 | (x,r)::l,k,p,out,h,e=>by
  have step:∀ p2,POK (k+1) p2→pgo (k+1) l p2=some out→∃ p',POK (k+(l.length+1)) p'∧p'.out=out:=by
   intro p2 h2 e2
   obtain⟨p',h3,h4⟩:=yU l (k+1) p2 out h2 e2
   exact⟨p',by rw[show k+(l.length+1)=k+1+l.length by omega];exact h3,h4⟩
  rw[pgo]at e
  rw[List.length_cons]
  split at e
  ·exact step _ h.up e
  ·split at e
   ·split at e
    ·cases e
    ·rename_i hl
     exact step _ (h.push _ hl) e
   ·split at e
    ·split at e
     ·rename_i a t hf
      exact step _ (h.pair hf) e
     ·exact step _ h.up e
    ·exact step _ h.up e
theorem FD{l:List (Int×Int)}(hl:l.length≤2000):(∀ p∈AG l,p.1<p.2∧p.2<l.length)∧(AG l).length≤2000:=by
 unfold AG
 cases hg:pgo 0 l ⟨[],[]⟩ with
 | none=>simp
 | some out =>
  obtain⟨p',h1,rfl⟩:=yU l 0 _ out POK.zero hg
  have hsm:Sm p'.out:=fun x hx=>by have:=h1.ord x hx;omega
  refine⟨fun p hp=>?_,?_⟩
  ·have:=h1.ord p ((AP hsm).mem_iff.1 hp)
   omega
  ·have:=h1.olen
   simp only[qp]
   omega
end Bi
end Go.Ab
