/- Several texts of this proof in one. -/
import Derived.Test.YtldfgkjmficliaaGreatPiU
import Derived.Shelf.SlSortCmp.WholeK
set_option linter.all false
namespace Go.Ab
open Go.Proofs Go.Shelf Go.RowKit Go.Lib Go.Sort Go.Proofs.Tryz
abbrev KV:=Fin 4294967296×Fin 4294967296
def kvE(x:KV):List Value:=[.int .i64 (x.1.val:Int),.int .i64 (x.2.val:Int)]
def kvV(x:KV):List V:=[.int .i64 (x.1.val:Int),.int .i64 (x.2.val:Int)]
def kvC(x y:KV):Int:=(x.1.val:Int)-(y.1.val:Int)
def oD(x y:KV):Bool:=ltOf kvC x y
def small(n:Int):Option (Fin 4294967296):=if h:0<=n/\n<4294967296 then some ⟨n.toNat,by omega⟩ else none
def vL:List V->Option (List KV)
 | []=>some []
 | .int .i64 a::.int .i64 b::r=>match small a,small b,vL r with
  | some x,some y,some l=>some ((x,y)::l)
  | _,_,_=>none
 | _=>none
noncomputable def gN(l:List KV):List KV:=(pdq oD l.toArray 0 l.length (Lib.bitLen l.length) true true).toList
theorem gx(x y:KV):oD x y=decide (x.1.val<y.1.val):=by
 unfold oD ltOf kvC;congr 1;simp only[eq_iff_iff];omega
theorem Hr:SWO (ltOf kvC) where
 irrefl x:=by have:=gx x x;unfold oD at this;rw[this];simp
 trans x y z h1 h2:=by
  have a:=gx x y;have b:=gx y z;have c:=gx x z;unfold oD at a b c;rw[a]at h1;rw[b]at h2;rw[c];simp at *;omega
 ntrans x y z h1 h2:=by
  have a:=gx x y;have b:=gx y z;have c:=gx x z;unfold oD at a b c;rw[a]at h1;rw[b]at h2;rw[c];simp only[decide_eq_false_iff_not]at *;omega
theorem nZ(l:List KV):PermIn 0 l.length l.toArray (pdq oD l.toArray 0 l.length (Lib.bitLen l.length) true true)/\SortedIn oD 0 l.length (pdq oD l.toArray 0 l.length (Lib.bitLen l.length) true true):=by
 have h:=pdq_sorts (ltOf kvC) Hr l.toArray 0 l.length (Lib.bitLen l.length) true true (LJ _) (by simp) (Or.inl rfl);exact⟨h.1,h.2⟩
theorem lD(l:List KV):(gN l).length=l.length:=by
 have:=(nZ l).1.1;simpa[gN]using this
theorem vN(l:List KV):(gN l).Perm l:=by
 have h:=nZ l;have h1:=h.1.1;have h2:=h.1.2.2;simp only[Nc]at h1;have e1:(l.toArray.extract 0 l.length)=l.toArray:=by simp
 have e2:(pdq oD l.toArray 0 l.length (Lib.bitLen l.length) true true).extract 0 l.length=pdq oD l.toArray 0 l.length (Lib.bitLen l.length) true true:=by
  generalize pdq oD l.toArray 0 l.length (Lib.bitLen l.length) true true=a at h1;rw[<- h1];exact Array.extract_size
 rw[e1,e2]at h2;simpa[gN]using h2
theorem sk:∀ {cs:List V}{l:List KV},vL cs=some l->cs=l.flatMap kvV
 | [],l,h=>by simp[vL]at h;subst h;rfl
 | [x],l,h=>by cases x<;>simp[vL]at h
 | x::y::r,l,h=>by
  unfold vL at h;split at h
  ·rename_i heq;cases heq
  ·rename_i a b r' heq;cases heq;split at h
   ·rename_i u v l' h1 h2 h3;cases h;have ih:=sk h3;unfold small at h1 h2;split at h1
    ·split at h2
     ·cases h1;cases h2;rw[L4,<- ih];simp only[kvV,L8,Mf];congr 2
      ·congr 1;simp;omega
      ·congr 2;simp;omega
     ·cases h2
    ·cases h1
   ·cases h
  ·cases h
theorem zx(l:List KV):(l.flatMap kvV).length=l.length*2:=by
 induction l with
 | nil=>rfl
 | cons a l ih=>simp only[L4,Lt,Lx,ih];simp[kvV];omega
theorem tG:∀ (l:List KV) (j:Nat) (c:V),(l.flatMap kvV)[j]?=some c->∃ x,l[j / 2]?=some x/\(kvV x)[j%2]?=some c
 | [],j,c,h=>by simp at h
 | x::l,0,c,h=>⟨x,rfl,by simpa[kvV]using h⟩
 | x::l,1,c,h=>⟨x,rfl,by simpa[kvV]using h⟩
 | x::l,j+2,c,h=>by
  have h':(l.flatMap kvV)[j]?=some c:=by simpa[kvV]using h
  obtain⟨y,h1,h2⟩:=tG l j c h';refine⟨y,?_,?_⟩
  ·rw[show (j+2) / 2=j / 2+1 by omega];simpa using h1
  ·rw[show (j+2)%2=j%2 by omega];exact h2
noncomputable def lh(g:Nat)(fb:Prim):Prim:=fun cfg args h=>match args with
 | [.sl b off len _ 2,.func (.func g') [] []] =>
  if g'=g/\len<4611686018427387904 then match ab h b with
   | some cs=>if off+len*2<=cs.length then match vL ((cs.drop off).take (len*2)) with
     | some l=>match aP cfg h b off ((gN l).flatMap kvV) with
      | some h'=>some (.tup [],h')
      | none=>none
     | none=>none
    else none
   | none=>none
  else none
 | _=>fb cfg args h
section
variable {m:Mu}{h:Heap}{w w':World}
theorem za{x b:Nat}{cs:List V}(hx:live h x)(hb:m x=some b){arr arr':Array Value}{T:TypeId}(ha:w.heap[b]?=some (.cells arr T (0,0)))(h4:w'.heap[b]?=some (.cells arr' T (0,0)))(h6:arr.size<=arr'.size)
  (hs:∀ c,c<w.heap.size->c≠b->w'.heap[c]?=w.heap[c]?) (hz:w.heap.size<=w'.heap.size) (h1:w'.os=w.os) (h2:w'.tape=w.tape) (h3:w'.output=w.output):Evo m h w m (h.set x (some cs)) w' where
 zeq:=rfl
 len:=by simp
 keep:=fun y _ hl=>⟨(cq hx).1 hl,rfl⟩
 own:=fun y c hl hc=>.inl ⟨y,(cq hx).1 hl,hc⟩
 frame:=fun c hc hn=>hs c hc fun h0=>hn x hx (h0 ▸ hb)
 size:=hz
 rs:=fun c hc=>by
  by_cases h0:c=b
  ·subst h0;simp only[rsz,ha,h4];exact h6
  ·rw[dm (hs c hc h0)];exact Lh _
 os:=h1
 tape:=h2
 output:=h3
theorem Gq(r:Rel m h w){x b:Nat}{cs:List V}(hx:live h x)(hb:m x=some b){arr arr':Array Value}{T:TypeId}(ha:w.heap[b]?=some (.cells arr T (0,0)))(h6:w'.heap[b]?=some (.cells arr' T (0,0)))(h7:arr.size<=arr'.size)
  (hs:∀ c,c<w.heap.size->c≠b->w'.heap[c]?=w.heap[c]?) (hz:w.heap.size<=w'.heap.size) (h1:w'.os=w.os) (h2:w'.tape=w.tape) (h3:w'.output=w.output)
  (hl:cs.length<=arr'.size) (hr:∀ (i:Nat) (c:V),cs[i]?=some c->∃ v,arr'[i]?=some v/\R m h w c v):Rel m (h.set x (some cs)) w':=by
 have e:=za (cs:=cs) hx hb ha h6 h7 hs hz h1 h2 h3;refine⟨fun y c hy hc=>r.zo y c ((cq hx).1 hy) hc,fun c hc=>LF (r.zl c hc) e.size,fun y z c hy hz h8 h9=>r.inj y z c ((cq hx).1 hy) ((cq hx).1 hz) h8 h9,fun y cs' c hy hc=>?_⟩;by_cases h0:x=y
 ·subst h0;rw[Lo (fw hx)]at hy;cases hy;rw[hb]at hc;cases hc;refine .inl ⟨arr',T,h6,hl,fun i c hc=>?_⟩;obtain⟨v,hv,h4⟩:=hr i c hc;exact⟨v,hv,h4.evo e r.lt⟩
 ·rw[Li h0]at hy;have hd:c≠b:=fun e=>h0 (r.inj x y b hx ⟨cs',hy⟩ hb (e ▸ hc));exact (r.blk y cs' c hy hc).carry (hs c (r.lt y c ⟨cs',hy⟩ hc) hd) fun d v _ h4=>h4.evo e r.lt
end
theorem oL(w:World)(b off n:Nat)(d:Array KV)(os:Array Obj)(arr:Array Value)(T:TypeId)(ha:w.heap[b]?=some (.cells arr T (0,0))):
  (sortWorldK kvE 2 w b off n d os).heap[b]?=some (.cells (putCells id off (Go.Sort.flatK kvE 2 d) arr) T (0,0))/\(∀ c,c<w.heap.size->c≠b->(sortWorldK kvE 2 w b off n d os).heap[c]?=w.heap[c]?) /\
  w.heap.size<=(sortWorldK kvE 2 w b off n d os).heap.size/\(sortWorldK kvE 2 w b off n d os).os=w.os/\(sortWorldK kvE 2 w b off n d os).tape=w.tape/\(sortWorldK kvE 2 w b off n d os).output=w.output:=by
 have h0:b<w.heap.size:=(Lz.1 ha).1;refine⟨?_,fun c hc h3=>?_,?_,rfl,rfl,rfl⟩
 ·simp only[sortWorldK,putRowK,putRow,mapBlock,grow,Sort.ahead];rw[MK (by simpa using h0),Array.getElem?_modify,if_pos rfl,ha];rfl
 ·simp only[sortWorldK,putRowK,putRow,mapBlock,grow,Sort.ahead];rw[MK (by simpa using hc),Array.getElem?_modify,if_neg (Ne.symm h3)]
 ·simp[sortWorldK,putRowK,putRow,mapBlock,grow,Sort.ahead]
theorem D8{P:Program}{ρ:Ren}(L:SlLaysF0.n6 P ρ)(aE:∀ w,(isAgg (ρ.t 24)).run P w=.ok true w)(zE:∀ w,(Go.sizeOf (ρ.t 24)).run P w=.ok 2 w)(g:Nat)(fb:Prim)
  (eg:∀ args w,(callFunc g args).run P w=.ok (.enter g args) w)
  (hc:∀ (x y:KV) (W:World),Calls P g #[.agg (kvE x).toArray,.agg (kvE y).toArray] W fun e w'=>e=.returned (.int .i64 (kvC x y))/\∃ q os',w'=grow (W.drewN q) os')
  (hex:∃ fn,P.funcs[ρ.f 6]?=some fn/\fn.body.isNone=false) (hK:cM P (ρ.f 6) fb):cM P (ρ.f 6) (lh g fb):=by
 intro cfg args h r h' hx;unfold lh at hx;split at hx
 ·rename_i b off len cap g';split at hx
  ·rename_i hg;obtain⟨rfl,hlen⟩:=hg;split at hx
   ·rename_i cs ht;split at hx
    ·rename_i hS;split at hx
     ·rename_i l hl;split at hx
      ·rename_i h2 hD;cases hx;have hd:=sk hl;have h8:l.length=len:=by
        have:=congrArg List.length hd;rw[zx]at this;simp at this;omega
       have h3:=aB ht;refine⟨HS.storeCells hD,hex,fun m w vs hr hp=>?_⟩;obtain⟨hE,hF⟩:=hp;simp only[Lx,Me]at hE;obtain⟨v0,v1,rfl⟩:∃ v0 v1,vs=#[v0,v1]:=by
        refine⟨vs[0],vs[1],Array.ext (by simpa using hE) fun i h1 h2=>?_⟩;rcases i with _|_|i
        ·rfl
        ·rfl
        ·simp only[Nc,Lx,Me]at h2;omega
       have r0:=hF 0 _ v0 rfl rfl;have r1:=hF 1 _ v1 rfl rfl;cases r0 with
       | sl hT hL hI hv =>
       rename_i rc a;obtain⟨b',hu,rfl,hX⟩:=hv ⟨cs,h3⟩;cases r1 with
       | func hM hY hN hZ =>
       rename_i fs cs';have hO:fs=#[]:=M7 (by simpa using hM);have hP:cs'=#[]:=M7 (by simpa using hN);subst hO hP;obtain⟨arr,T,ha,g0,hw⟩:=(hr.blk b cs b' h3 hu).cells (dk ht);have hQ:b'<w.heap.size:=(Lz.1 ha).1;have he:∀ (j:Nat),j<len*2->arr[off+j]?=some (Go.Sort.flatK kvE 2 l.toArray)[j]!:=by
        intro j hj;obtain⟨c,hJ⟩:∃ c,cs[off+j]?=some c:=⟨_,Lc (by omega)⟩;obtain⟨v,hf,hy⟩:=hw _ c hJ;have hR:(l.flatMap kvV)[j]?=some c:=by
         rw[<- hd,LR hj,Mh];exact hJ
        obtain⟨x,hh,h9⟩:=tG l j c hR;rw[hf,get_flatK _ _ _ _ (by simpa[h8]using hj)];have hz:l.toArray[j / 2]! =x:=by
         rw[getElem!_pos _ _ (by have:=(Ld.1 hh).1;simpa using this)];exact (Ld.1 hh).2
        rw[hz];rcases Om j with h0|h0<;>rw[h0]at h9 ⊢<;>simp[kvV]at h9<;>subst h9<;>cases hy<;>simp[kvE]
       have hH:HoldsK kvE 2 w b' off l.toArray:=by
        intro j hj;rw[size_flatK]at hj;simp only[Nc,h8]at hj;refine⟨?_,?_⟩
        ·simp only[World.cell?,ha];exact he j hj
        ·simp[World.frozen?,ha]
       have h6:=AnyQ.slices_SortFunc_eq L 2 aE zE kvE (fun _=>rfl) (fun x v hv=>by simp[kvE]at hv;rcases hv with rfl|rfl<;>rfl) kvC Hr g' #[] b' off rc l.toArray w eg (fun _ _ _ _ x y=>hc x y _) hH hQ (by simpa[h8]using hlen);simp only[Nc,h8]at h6;refine h6.mono ?_;rintro e w' ⟨rfl,n,os,rfl⟩;refine⟨_,rfl,?_⟩;have h4:=hD;unfold aP at h4;rw[ht]at h4;simp only at h4;split at h4
       ·rename_i h7;simp only[Lq,decide_eq_true_eq]at h7;have hm:=h7.1.1;cases h4;have hA:(pdq (ltOf kvC) l.toArray 0 len (Lib.bitLen len) true true).size=len:=by
         have:=lD l;simp only[gN,h8,Array.length_toList]at this;exact this
        obtain⟨f1,f2,f3,f4,f5,f6⟩:=oL w b' off n (pdq (ltOf kvC) l.toArray 0 len (Lib.bitLen len) true true) os arr T ha;have hn:arr.size<=(putCells id off (Go.Sort.flatK kvE 2 (pdq (ltOf kvC) l.toArray 0 len (Lib.bitLen len) true true)) arr).size:=by simp[putCells]
        refine⟨m,za ⟨cs,h3⟩ hu ha f1 hn f2 f3 f4 f5 f6,Gq hr ⟨cs,h3⟩ hu ha f1 hn f2 f3 f4 f5 f6 (by rw[jd];omega) ?_,.tup (by simp) (by simp)⟩;intro i c hi;rw[nH cs off _ i hm]at hi;rw[zx,lD,h8]at hi hm;simp only[putCells,Array.getElem?_mapIdx,size_flatK,hA];by_cases hq:off<=i/\i<off+len*2
        ·rw[if_pos hq]at hi;obtain⟨v,hf,-⟩:=hw i _ (Lc (by omega));refine⟨(Go.Sort.flatK kvE 2 (pdq (ltOf kvC) l.toArray 0 len (Lib.bitLen len) true true))[i-off]!,by rw[hf];simp[hq],?_⟩;obtain⟨x,hh,h9⟩:=tG _ _ c hi;rw[get_flatK _ _ _ _ (by rw[hA];omega)];have hz:(pdq (ltOf kvC) l.toArray 0 len (Lib.bitLen len) true true)[(i-off) / 2]! =x:=by
          rw[getElem!_pos _ _ (by rw[hA];omega)];simp only[gN,h8,NA]at hh;exact (Lz.1 hh).2
         rw[hz];rcases Om (i-off) with h0|h0<;>rw[h0]at h9 ⊢<;>simp[kvV]at h9<;>subst h9<;>simp[kvE]<;>exact .int _ _
        ·rw[if_neg hq]at hi;obtain⟨v,hf,hy⟩:=hw i c hi;exact⟨v,by rw[hf];simp[hq],hy⟩
       ·cases h4
      ·cases hx
     ·cases hx
    ·cases hx
   ·cases hx
  ·cases hx
 ·exact hK cfg args h r h' hx
end Go.Ab
namespace Go.Proofs
open Go.Shelf Go.RowKit Go.Lib Go.Sort
def Tryz.sortL_ren:Ren:=⟨fun|6=>168|15=>176|14=>175|28=>187|29=>188|20=>179|21=>180|22=>181|23=>182|24=>183|25=>184|26=>185|27=>186|46=>189|47=>190|48=>191|49=>192|50=>193|57=>194|n=>n,fun|22=>144|24=>145|25=>221|3=>3|39=>168|0=>0|53=>241|55=>243|4=>4|46=>235|45=>234|50=>127|5=>5|9=>9|66=>244|70=>248|76=>250|77=>251|n=>n,fun|n=>n⟩
theorem Tryz.sortL:SlLaysF0.n6 prog Tryz.sortL_ren:={
 mixed:=by kernel_rfl
 f6:=⟨Tryz.f168.name,by decide,func168.trans (congrArg some (by kernel_rfl))⟩
 f14:=⟨Tryz.f175.name,by decide,func175.trans (congrArg some (by kernel_rfl))⟩
 f15:=func176.trans (congrArg some (by kernel_rfl))
 f20:=⟨Tryz.f179.name,by decide,func179.trans (congrArg some (by kernel_rfl))⟩
 f21:=⟨Tryz.f180.name,by decide,func180.trans (congrArg some (by kernel_rfl))⟩
 f22:=⟨Tryz.f181.name,by decide,func181.trans (congrArg some (by kernel_rfl))⟩
 f23:=⟨Tryz.f182.name,by decide,func182.trans (congrArg some (by kernel_rfl))⟩
 f24:=⟨Tryz.f183.name,by decide,func183.trans (congrArg some (by kernel_rfl))⟩
 f25:=⟨Tryz.f184.name,by decide,func184.trans (congrArg some (by kernel_rfl))⟩
 f26:=⟨Tryz.f185.name,by decide,func185.trans (congrArg some (by kernel_rfl))⟩
 f27:=⟨Tryz.f186.name,by decide,func186.trans (congrArg some (by kernel_rfl))⟩
 f28:=func187.trans (congrArg some (by kernel_rfl))
 f29:=func188.trans (congrArg some (by kernel_rfl))
 f46:=⟨Tryz.f189.name,by decide,func189.trans (congrArg some (by kernel_rfl))⟩
 f47:=func190.trans (congrArg some (by kernel_rfl))
 f48:=func191.trans (congrArg some (by kernel_rfl))
 f49:=⟨Tryz.f192.name,by decide,func192.trans (congrArg some (by kernel_rfl))⟩
 f50:=⟨Tryz.f193.name,by decide,func193.trans (congrArg some (by kernel_rfl))⟩
 f57:=⟨Tryz.f194.name,by decide,func194.trans (congrArg some (by kernel_rfl))⟩
 t0:=Tryz.underlying0
 a0:=Tryz.isAgg0
 z0:=Tryz.sizeOf0
 v0:=Tryz.zeroValue0
 t3:=Tryz.underlying3
 a3:=Tryz.isAgg3
 z3:=Tryz.sizeOf3
 v3:=Tryz.zeroValue3
 t4:=Tryz.underlying4
 a4:=Tryz.isAgg4
 z4:=Tryz.sizeOf4
 v4:=Tryz.zeroValue4
 t5:=Tryz.underlying5
 a5:=Tryz.isAgg5
 z5:=Tryz.sizeOf5
 v5:=Tryz.zeroValue5
 t9:=Tryz.underlying9
 a9:=Tryz.isAgg9
 z9:=Tryz.sizeOf9
 v9:=Tryz.zeroValue9
 t22:=Tryz.underlying144
 a22:=Tryz.isAgg144
 z22:=Tryz.sizeOf144
 v22:=Tryz.zeroValue144
 t25:=Tryz.underlying221
 a25:=Tryz.isAgg221
 z25:=Tryz.sizeOf221
 v25:=Tryz.zeroValue221
 t39:=Tryz.underlying168
 a39:=Tryz.isAgg168
 z39:=Tryz.sizeOf168
 v39:=Tryz.zeroValue168
 t45:=Tryz.underlying234
 a45:=Tryz.isAgg234
 z45:=Tryz.sizeOf234
 v45:=Tryz.zeroValue234
 t46:=Tryz.underlying235
 a46:=Tryz.isAgg235
 z46:=Tryz.sizeOf235
 v46:=Tryz.zeroValue235
 t50:=Tryz.underlying127
 a50:=Tryz.isAgg127
 z50:=Tryz.sizeOf127
 v50:=Tryz.zeroValue127
 t53:=Tryz.underlying241
 a53:=Tryz.isAgg241
 z53:=Tryz.sizeOf241
 v53:=Tryz.zeroValue241
 t55:=Tryz.underlying243
 a55:=Tryz.isAgg243
 z55:=Tryz.sizeOf243
 v55:=Tryz.zeroValue243
 t66:=Tryz.underlying244
 a66:=Tryz.isAgg244
 z66:=Tryz.sizeOf244
 v66:=Tryz.zeroValue244
 t70:=Tryz.underlying248
 a70:=Tryz.isAgg248
 z70:=Tryz.sizeOf248
 v70:=Tryz.zeroValue248
 t76:=Tryz.underlying250
 a76:=Tryz.isAgg250
 z76:=Tryz.sizeOf250
 v76:=Tryz.zeroValue250
 t77:=Tryz.underlying251
 a77:=Tryz.isAgg251
 z77:=Tryz.sizeOf251
 v77:=Tryz.zeroValue251 }
theorem Tryz.cmp83(x y:Go.Ab.KV)(W:World):Calls prog 169 #[.agg (Go.Ab.kvE x).toArray,.agg (Go.Ab.kvE y).toArray] W fun e w'=>e=.returned (.int .i64 (Go.Ab.kvC x y))/\∃ q os',w'=grow (W.drewN q) os':=by
 have hw:IntKind.i64.wrap ((x.1.val:Int)-(y.1.val:Int))=(x.1.val:Int)-(y.1.val:Int):=by
  have h1:=x.1.isLt;have h2:=y.1.isLt;rw[IntKind.wrap_i64];omega
 unfold Go.Ab.kvE Go.Ab.kvC;generalize (x.1.val:Int)=a at hw ⊢;generalize (y.1.val:Int)=b at hw ⊢
 go_enter func169,Tryz.ntmps169
 go_wp2
 go_ret
 exact⟨rfl,0,_,by rw[alloc_eq_grow,alloc_eq_grow,grow_grow];rfl⟩
end Go.Proofs
namespace Go.Ab
open Go.Proofs Go.Proofs.Tryz
namespace Bi
noncomputable def fbS:Prim:=fun cfg args h=>aN prog md (fun _=>none) 10000 40 cfg 168 args h
theorem wL(hm:prog.follows .mixedOrders=true)(hN:dG prog):cM prog 168 (lh 169 fbS):=
 D8 Tryz.sortL Tryz.isAgg145 Tryz.sizeOf145 169 fbS (Go.Proofs.enters_of func169 (by kernel_rfl) rfl) Tryz.cmp83 ⟨_,func168,rfl⟩
  (fun cfg args h r h' hx=>ee hm hN (fun _ _ h=>by cases h) 40 _ _ _ _ _ _ hx)
def yD(x:Nat×Nat):KV:=(⟨x.1%4294967296,by omega⟩,⟨x.2%4294967296,by omega⟩)
noncomputable def lN(out:List (Nat×Nat)):List (Nat×Nat):=(gN (out.map yD)).map fun x=>(x.1.val,x.2.val)
def Sm(out:List (Nat×Nat)):Prop:=∀ x∈out,x.1<4294967296/\x.2<4294967296
theorem ri(out:List (Nat×Nat)):(lN out).length=out.length:=by simp[lN,lD]
theorem BB{out:List (Nat×Nat)}(h:Sm out):(lN out).Perm out:=by
 have h1:=(vN (out.map yD)).map (fun x:KV=>(x.1.val,x.2.val));rw[Oe]at h1;have h2:out.map ((fun x:KV=>(x.1.val,x.2.val)) ∘ yD)=out:=by
  conv=>rhs;rw[<- List.map_id out]
  apply List.map_congr_left;intro x hx;obtain⟨a,b⟩:=h x hx;simp[yD,NG a,NG b]
 rw[h2]at h1;exact h1
theorem sS{n:Nat}(h:n<4294967296):small (n:Int)=some ⟨n%4294967296,by omega⟩:=by
 unfold small;rw[dif_pos ⟨by omega,by omega⟩];congr 1;apply Fin.ext;simp[NG h]
theorem vM:∀ {out:List (Nat×Nat)},Sm out->vL (pcn out)=some (out.map yD)
 | [],_=>rfl
 | x::r,h=>by
  obtain⟨a,b⟩:=h x (Lv ..);have ih:=vM (out:=r) fun y hy=>h y (Lm _ hy);have e:pcn (x::r)=.int .i64 (x.1:Int)::.int .i64 (x.2:Int)::pcn r:=rfl;rw[e,vL,sS a,sS b,ih];rfl
theorem Gi(out:List (Nat×Nat)):pcn (lN out)=(gN (out.map yD)).flatMap kvV:=by
 unfold lN;generalize gN (out.map yD)=l
 induction l with
 | nil=>rfl
 | cons a l ih =>
  have e:pcn ((a::l).map fun x=>(x.1.val,x.2.val))=[.int .i64 (a.1.val:Int),.int .i64 (a.2.val:Int)]++pcn (l.map fun x=>(x.1.val,x.2.val)):=rfl;rw[e,ih];rfl
section
variable {prim:FuncId->Option Prim}(d:Nat)
theorem Gy(hp:prim 168=some (lh 169 fbS))(cfg:Cfg)(H:Heap)(b cap:Nat)(out:List (Nat×Nat))(J:List V)(hs:Sm out)(hl:out.length<=2000)(h3:cfg.lo<=b)(hb:ab H b=some (pcn out++J)):
  af md (K prim (d+1)) cfg 168 [.sl b 0 out.length cap 2,.func (.func 169) [] []] H=some (.tup [],H.set b (some (pcn (lN out)++J))):=by
 have h7:=ku out;have h0:=ku (lN out);rw[ri]at h0;have h8:=al hb;have hw:(Cfg.wr ⟨cfg.lo,cfg.ex,H.length⟩ b)=true:=bq h3;have h4:(pcn (lN out)).all V.rf=true:=yg _;have h6:aP ⟨cfg.lo,cfg.ex,H.length⟩ H b 0 (pcn (lN out))=some (H.set b (some (pcn (lN out)++J))):=by
  rw[gT,hb];simp only[Mb];rw[if_pos]
  ·have:=iz (pcn (lN out)) [] (pcn out++J) (by simp;omega);simp only[Mf,Me]at this;rw[this,Nw (by omega),MA (by omega)];rfl
  ·simp only[hw,h4,Bool.or_true,M3,decide_eq_true_eq,Lt];omega
 have hP:lh 169 fbS ⟨cfg.lo,cfg.ex,H.length⟩ [.sl b 0 out.length cap 2,.func (.func 169) [] []] H=some (.tup [],H.set b (some (pcn (lN out)++J))):=by
  simp only[lh];rw[if_pos ⟨trivial,by omega⟩,hb];simp only;rw[if_pos (by simp;omega),ML,MS (by omega),vM hs];simp only;rw[<- Gi,h6]
 have hK:K prim (d+1) ⟨cfg.lo,cfg.ex,H.length⟩ 168 [.sl b 0 out.length cap 2,.func (.func 169) [] []] H=some (.tup [],H.set b (some (pcn (lN out)++J))):=by
  show (match prim 168 with
   | some p=>p _ _ _
   | none=>_)=_
  rw[hp];exact hP
 have hm:md 168=1:=rfl;simp only[af,hm,hK];simp[frz];exact Lu (by simp)
theorem FO(cfg:Cfg)(H:Heap):af md (K (fun _=>none) (d+1)) cfg 179 [.nils,.int .i64 0,.int .i64 0,.func (.func 169) [] []] H=some (.tup [],H):=by
 refine call1 rfl rfl func179 rfl rfl rfl ?_;simp(disch:=omega)[wrap64];refine ai (fun m fr h=>m=0/\h=H/\Slots 53 [(0,.nils),(1,.int .i64 0),(2,.int .i64 0),(3,.func (.func 169) [] []),(8,.int .i64 1)] fr) (m:=0) (by omega) ⟨rfl,rfl,by simp⟩ ?_;rintro m fr h ⟨rfl,rfl,hs⟩;obtain⟨j,rfl⟩:=hs.ex;clear hs;simp
theorem Gj(cfg:Cfg)(H:Heap)(x:Int):af md (K (fun _=>none) (d+2)) cfg 175 [.nils,.int .i64 0,.int .i64 0,.int .i64 x,.func (.func 169) [] []] H=some (.tup [],H):=by
 refine call1 rfl rfl func175 rfl rfl rfl ?_;have hI:=fun cfg H=>FO d cfg H;simp(disch:=omega);refine ai (fun m fr h=>m=0/\h=H/\Slots 148 [(0,.nils),(1,.int .i64 0),(2,.int .i64 0),(3,.int .i64 x),(4,.func (.func 169) [] []),(10,.bool true),(11,.bool true)] fr) (m:=0) (by omega) ⟨rfl,rfl,by simp⟩ ?_;rintro m fr h ⟨rfl,rfl,hs⟩;obtain⟨j,rfl⟩:=hs.ex;clear hs;simp(disch:=omega)[hI,wrap64]
theorem FY(cfg:Cfg)(H:Heap):af md (K (fun _=>none) 39) cfg 176 [.int .u64 0] H=some (.int .i64 0,H):=by kernel_rfl
theorem D6(cfg:Cfg)(H:Heap):fbS cfg [.nils,.func (.func 169) [] []] H=some (.tup [],H):=by
 have hI:=fun cfg H x=>Gj 37 cfg H x;have hL:=fun cfg H=>FY cfg H;obtain⟨r,h',h1,rfl,rfl⟩:=cw (md:=md) (n:=10000) (d:=39) (cfg:=cfg) (h:=H) (args:=[.nils,.func (.func 169) [] []]) (prim:=fun _=>none) (R:=fun r h'=>r=.tup []/\h'=H) rfl func168 rfl rfl rfl (by
  simp(disch:=omega)[hI,hL,uq])
 exact h1
theorem D7(hp:prim 168=some (lh 169 fbS))(cfg:Cfg)(H:Heap):af md (K prim (d+1)) cfg 168 [.nils,.func (.func 169) [] []] H=some (.tup [],H):=by
 have hK:K prim (d+1) ⟨cfg.lo,cfg.ex,H.length⟩ 168 [.nils,.func (.func 169) [] []] H=some (.tup [],H):=by
  show (match prim 168 with
   | some p=>p _ _ _
   | none=>_)=_
  rw[hp];simp only[lh];exact D6 _ _
 have hm:md 168=1:=rfl;simp only[af,hm,hK];simp[frz]
end
end Bi
end Go.Ab
namespace Go.Ab.Bi
def eS:Int->List Int->List Int->List Int
 | p,x::o,a::y=>(if gone x then p else a)::eS (if gone x then p else a) o y
 | _,_,_=>[]
theorem ek:∀ (o y:List Int) (p:Int),o.length=y.length->(eS p o y).length=y.length
 | [],[],_,_=>rfl
 | x::o,a::y,p,h=>by simp at h;simp[eS,ek o y _ h]
 | [],_::_,_,h=>by simp at h
 | _::_,[],_,h=>by simp at h
theorem nJ{o y:List Int}{p x a:Int}(ho:o[0]?=some x)(hy:y[0]?=some a):(eS p o y)[0]?=some (if gone x then p else a):=by
 cases o with
 | nil=>simp at ho
 | cons b o=>cases y with
  | nil=>simp at hy
  | cons c y=>simp at ho hy;simp[eS,ho,hy]
theorem nI:∀ (o y:List Int) (p:Int) (i:Nat) (x a q:Int),o[i+1]?=some x->y[i+1]?=some a->(eS p o y)[i]?=some q->(eS p o y)[i+1]?=some (if gone x then q else a)
 | [],_,_,_,_,_,_,ho,_,_=>by simp at ho
 | _::_,[],_,_,_,_,_,_,hy,_=>by simp at hy
 | b::o,c::y,p,0,x,a,q,ho,hy,hq=>by
  simp only[eS,Nr,Ll]at hq;simp only[eS,LV]at ho hy ⊢;rw[nJ ho hy,hq]
 | b::o,c::y,p,i+1,x,a,q,ho,hy,hq=>by
  simp only[eS,LV]at ho hy hq ⊢;exact nI o y _ i x a q ho hy hq
def js(p:Int)(o y:List Int)(i:Nat):List Int:=(eS p o y).take i++y.drop i
theorem DS{p:Int}{o y:List Int}(h:o.length=y.length)(i:Nat):(js p o y i).length=y.length:=by
 have:=ek o y p h;simp[js,this];omega
theorem Bu{p:Int}{o y:List Int}:js p o y 0=y:=by simp[js]
theorem DR{p:Int}{o y:List Int}(h:o.length=y.length):js p o y y.length=eS p o y:=by
 have:=ek o y p h;simp[js,Lu (Nat.le_of_eq this)]
theorem Gr{p:Int}{o y:List Int}(h:o.length=y.length){i j:Nat}(hj:j<i)(hi:i<=y.length):(js p o y i)[j]?=(eS p o y)[j]?:=by
 have:=ek o y p h;rw[js,Lf (by simp;omega),LR hj]
theorem Gs{p:Int}{o y:List Int}(h:o.length=y.length){i:Nat}(hi:i<y.length):(js p o y i)[i]?=y[i]?:=by
 have:=ek o y p h;have hl:((eS p o y).take i).length=i:=by simp;omega
 rw[js,Lk (by omega),hl,Mh];simp
theorem qU{p:Int}{o y:List Int}(h:o.length=y.length){i:Nat}(hi:i<y.length){z:Int}(hz:(eS p o y)[i]?=some z):(js p o y i).set i z=js p o y (i+1):=by
 have hr:=ek o y p h;have hl:((eS p o y).take i).length=i:=by simp;omega
 unfold js;rw[LU _ _ (by omega),hl,Nx,LC hi,Nf,LO,hz];simp
theorem J1{l:List Int}{i:Nat}{x:Int}(h:l[i]?=some x):l.set i x=l:=by
 obtain⟨hl,rfl⟩:=Ld.1 h;exact N1 hl
def np(x:Int):Bool:=x==12||x==22||x==9||x==16||x==14||x==17||x==15||x==18||ini x
def trB(x:Int)(b:Bool):Bool:=if x=11\/x=10 then true else if np x then b else false
def trl(e:Int):List Int->List Int->Bool×List Int
 | x::o,a::y=>(trB x (trl e o y).1,(if trB x (trl e o y).1 then e else a)::(trl e o y).2)
 | _,_=>(true,[])
theorem ug(e:Int):∀ (o y:List Int),o.length=y.length->(trl e o y).2.length=y.length
 | [],[],_=>rfl
 | x::o,a::y,h=>by simp at h;simp[trl,ug e o y h]
 | [],_::_,h=>by simp at h
 | _::_,[],h=>by simp at h
def trU(e:Int)(o y:List Int)(k:Nat):List Int:=y.take k++(trl e (o.drop k) (y.drop k)).2
def trF(e:Int)(o y:List Int)(k:Nat):Bool:=(trl e (o.drop k) (y.drop k)).1
theorem GH{e:Int}{o y:List Int}(h:o.length=y.length)(k:Nat):(trU e o y k).length=y.length:=by
 have:=ug e (o.drop k) (y.drop k) (by simp[h]);simp[trU,this];omega
theorem GG{e:Int}{o y:List Int}(h:o.length=y.length):trU e o y y.length=y/\trF e o y y.length=true:=by
 unfold trU trF;rw[MA (Lh _),MA (Nat.le_of_eq h)];simp[trl]
theorem Eg{e:Int}{o y:List Int}:trU e o y 0=(trl e o y).2:=by simp[trU]
theorem Ef{e:Int}{o y:List Int}(h:o.length=y.length){k:Nat}{x:Int}(hx:o[k]?=some x):trF e o y k=trB x (trF e o y (k+1)):=by
 obtain⟨hl,rfl⟩:=Ld.1 hx;have hy:k<y.length:=by omega
 unfold trF;rw[LC hl,LC hy,trl]
theorem GI{e:Int}{o y:List Int}(h:o.length=y.length){k:Nat}(hk:k<y.length)(hb:trF e o y k=true):(trU e o y (k+1)).set k e=trU e o y k:=by
 have hl:k<o.length:=by omega
 unfold trF at hb;unfold trU;rw[LC hl,LC hk,trl]at hb ⊢;simp only at hb;simp only[hb,if_true];rw[LO,Lc hk];simp only[Ny];rw[LD,LU _ _ (by simp;omega)];have:k-(y.take k).length=0:=by simp;omega
 rw[this];rfl
theorem J5{e:Int}{o y:List Int}(h:o.length=y.length){k:Nat}(hk:k<y.length)(hb:trF e o y k=false):trU e o y (k+1)=trU e o y k:=by
 have hl:k<o.length:=by omega
 unfold trF at hb;unfold trU;rw[LC hl,LC hk,trl]at hb ⊢;simp only at hb;simp only[hb,LH,if_false];rw[LO,Lc hk];simp only[Ny];rw[LD];rfl
end Go.Ab.Bi
namespace Go.Ab.Bi
theorem EW.top{e:Int}{i:Nat}{s:ES}(h:EW e i s):0<=(fM s.st).1/\(fM s.st).1<=125:=by
 obtain⟨a,r,hs⟩:=h.cons;have ha:=h.rng a (by rw[hs];exact Lv ..);have ht:fM s.st=a:=by rw[hs];rfl
 rw[ht];exact⟨by omega,by omega⟩
theorem xF{e:Int}{i:Nat}{s:ES}(h:EW e i s)(he:0<=e/\e<=1)(x:Int)(odd:Bool):0<=(ca e x odd s).1/\(ca e x odd s).1<=125:=by
 have h2:=h.step x odd;have ht:=h.top;have h0:=h2.top;unfold ca at h0 ⊢;split
 ·exact ht
 ·rename_i h1;rw[if_neg h1]at h0;split
  ·exact ht
  ·rename_i h3;rw[if_neg h3]at h0;split
   ·rename_i h4;rw[if_pos h4]at h0;exact h0
   ·split
    ·exact ht
    ·split
     ·exact⟨he.1,by omega⟩
     ·split<;>exact ht
theorem uQ{e:Int}(he:0<=e/\e<=1):∀ (l:List Int) (s:ES) (i:Nat),EW e i s->∀ p∈qd e l s,0<=p.1/\p.1<=125
 | [],_,_,_,p,hp=>by simp[qd]at hp
 | x::r,s,i,h,p,hp=>by
  rw[qd]at hp;rcases Ly.1 hp with rfl|hp
  ·exact xF h he x _
  ·exact uQ he r _ (i+1) (h.step x _) p hp
theorem uR{e:Int}(he:0<=e/\e<=1)(o:List Int):∀ x∈(ic e o).map (·.1),0<=x/\x<=125:=by
 intro x hx;obtain⟨p,hp,rfl⟩:=Mp.1 hx;exact uQ he o _ 0 (EW.zero he) p hp
end Go.Ab.Bi
namespace Go.Ab
open Go.Proofs Go.Proofs.Tryz
namespace Bi
noncomputable def Bp(l:List (Int×Int)):List (Nat×Nat):=match pgo 0 l ⟨[],[]⟩ with
 | some out=>lN out
 | none=>[]
def Stp(t o:List Int)(s:Sq)(c y c' y':List Int):Prop:=
 ∃ c1 c2,WB c s.l (Aq s.sos (s.l.map (lvl c))) c1 /\
  WB c1 s.l (rA (fu s.lev) s.sos (s.l.map (lvl o)) (Bp ((s.l.map (lvl c1)).zip (s.l.map (lvl t)))) (s.l.map (lvl c1))) c2 /\
  WB c2 s.l (ir (fu s.lev) s.eos s.sos 0 (s.l.map (lvl c2))) c'/\WB y s.l (jq s.lev (s.l.map (lvl y)) (s.l.map (lvl c'))) y'
def Stps(t o:List Int):List Sq->List Int->List Int->List Int->List Int->Prop
 | [],c,y,c',y'=>c'=c/\y'=y
 | s::r,c,y,c',y'=>∃ c1 y1,Stp t o s c y c1 y1/\Stps t o r c1 y1 c' y'
theorem Stps.snoc{t o:List Int}:∀ {l:List Sq}{s:Sq}{c y c1 y1 c2 y2:List Int},Stps t o l c y c1 y1->Stp t o s c1 y1 c2 y2->Stps t o (l++[s]) c y c2 y2
 | [],_,_,_,_,_,_,_,⟨rfl,rfl⟩,h=>⟨_,_,h,rfl,rfl⟩
 | _::_,_,_,_,_,_,_,_,⟨a,b,h1,h2⟩,h=>⟨a,b,h1,h2.snoc h⟩
def LevR(t:List Int)(base:Int)(r:List Int):Prop:=
 ∃ M c' y',MOK (t.map cD) M /\
  Stps t (t.map cD) (lg (t.map cD) M ((ic (dt cD t base) (t.map cD)).map (·.1)) t.length (dt cD t base)) ((ic (dt cD t base) (t.map cD)).map (·.2)) ((ic (dt cD t base) (t.map cD)).map (·.1)) c' y' /\
  r=(trl (dt cD t base) (t.map cD) (eS (dt cD t base) (t.map cD) y')).2
theorem nf{o:List Int}{F:Nat->Int}{rs:List (List Int)}{lv kept:List Int}{e:Int}{s:Sq}:∀ {k:Nat},s∈jh o F rs lv kept e k->∃ j,j<k/\con F rs.length j=false/\s=D9 o F rs lv kept e j
 | 0,h=>by simp[jh]at h
 | k+1,h=>by
  unfold jh at h;cases hc:con F rs.length k
  ·rw[hc]at h;rcases LA.1 h with h|h
   ·obtain⟨j,h1,h2,h3⟩:=nf h;exact⟨j,by omega,h2,h3⟩
   ·exact⟨k,by omega,hc,by simpa using h⟩
  ·rw[hc]at h;obtain⟨j,h1,h2,h3⟩:=nf h;exact⟨j,by omega,h2,h3⟩
theorem ij{o lv:List Int}{n:Nat}:(grp lv (bu o n) (bu o n).length).flatten=bu o n:=by
 rw[mh lv (bu o n) _ (Lh _),LQ]
theorem Gv{o M lv:List Int}{n:Nat}(hM:MOK o M)(h0:o.length=n):
  ∀ j,j<(grp lv (bu o n) (bu o n).length).length->fol o M (grp lv (bu o n) (bu o n).length) j<0\/((j:Int)<fol o M (grp lv (bu o n) (bu o n).length) j/\fol o M (grp lv (bu o n) (bu o n).length) j<(grp lv (bu o n) (bu o n).length).length):=by
 intro j hj;refine xK hM ?_ ?_ j hj
 ·rw[ij];exact fX o n
 ·rw[ij];intro x hx;have:=fa o n x hx;omega
theorem wQ{o M lv:List Int}{n:Nat}{e:Int}(hM:MOK o M)(h0:o.length=n)(h6:lv.length=n)(h3:∀ x∈lv,0<=x/\x<=125){s:Sq}(hs:s∈lg o M lv n e):Pl n s.l/\s.l.length<=n/\(0<=s.lev/\s.lev<=125)/\s.l.Sublist (bu o n):=by
 unfold lg at hs;obtain⟨j,h1,h2,rfl⟩:=nf hs;obtain⟨r,hr⟩:∃ r,(grp lv (bu o n) (bu o n).length)[j]?=some r:=⟨_,Lc h1⟩;obtain⟨c1,c2,c3⟩:=rY (Gv hM h0) ij (oX lv (bu o n) _) hr;have hk:=fa o n;have ha:=fX o n;have h7:=ik o n;have h8:=c1.length_le;refine⟨⟨fun i hi=>?_,?_⟩,?_,?_,c1⟩
 ·have:=hk i (c1.subset hi);omega
 ·exact (ha.sublist c1).imp (fun h=>by omega)
 ·show (chn _ _ _ _).length<=n;omega
 ·show 0<=lvl lv _/\lvl lv _<=125;have hx:=vB c2;have hm:=hk _ (c1.subset (Le hx));generalize (chn (fol o M (grp lv (bu o n) (bu o n).length)) (grp lv (bu o n) (bu o n).length) (grp lv (bu o n) (bu o n).length).length j).headD 0=x at hm;have h4:lv[x.toNat]?=some (lvl lv x):=by rw[lvl,Lg,Lc (by omega)];rfl
  exact h3 _ (Le h4)
theorem vF{lev:Int}:∀ {u s:List Int}{a:Int},a∈jq lev u s->∃ b∈u,b<=a/\a<=b+2
 | [],_,_,h=>by simp[jq]at h
 | _::_,[],_,h=>by simp[jq]at h
 | b::u,x::s,a,h=>by
  rw[jq]at h;rcases Ly.1 h with h|h
  ·have:=qz lev x;exact⟨b,Lv ..,by omega,by omega⟩
  ·obtain⟨c,h1,h2⟩:=vF h;exact⟨c,Lm _ h1,h2⟩
theorem HP{c l s c':List Int}(h:WB c l s c'){x:Int}(hx:x∈c'):x∈c\/x∈s:=by
 obtain⟨j,hj⟩:=Nj.1 hx;by_cases hl:(j:Int)∈l
 ·obtain⟨k,hk⟩:=Nj.1 hl;have:=h.at_ k _ hk;rw[LB,hj]at this;exact .inr (Le this.symm)
 ·have:=h.oth j hl;rw[hj]at this;exact .inl (Le this.symm)
theorem zI{c l:List Int}(h:∀ i∈l,0<=i/\i<c.length){x:Int}(hx:x∈l.map (lvl c)):x∈c:=by
 obtain⟨i,hi,rfl⟩:=Mp.1 hx;have:=h i hi;have h0:c[i.toNat]?=some (lvl c i):=by rw[lvl,Lg,Lc (by omega)];rfl
 exact Le h0
theorem Stp.len{t o c y c' y':List Int}{s:Sq}(h:Stp t o s c y c' y'):c'.length=c.length/\y'.length=y.length:=by
 obtain⟨c1,c2,h1,h2,h3,h4⟩:=h;exact⟨h3.len.trans (h2.len.trans h1.len),h4.len⟩
theorem Stp.rng{t o c y c' y':List Int}{s:Sq}{n:Nat}{B:Int}(h:Stp t o s c y c' y')(hs:Pl n s.l)(hy:y.length=n)(hB:∀ x∈y,0<=x/\x<=B):∀ x∈y',0<=x/\x<=B+2:=by
 obtain⟨c1,c2,h1,h2,h3,h4⟩:=h;intro x hx;rcases HP h4 hx with h5|h5
 ·have:=hB x h5;omega
 ·obtain⟨b,h6,h7,h8⟩:=vF h5;have:=hB b (zI (fun i hi=>by have:=hs.rng i hi;omega) h6);omega
theorem zN:∀ (l:List (Int×Int)) (k:Nat) (p:PS) (out:List (Nat×Nat)),POK k p->pgo k l p=some out->∃ p',POK (k+l.length) p'/\p'.out=out
 | [],k,p,out,h,e=>by
  simp only[pgo,Ll]at e;exact⟨p,h,e⟩
 | (x,r)::l,k,p,out,h,e=>by
  have step:∀ p2,POK (k+1) p2->pgo (k+1) l p2=some out->∃ p',POK (k+(l.length+1)) p'/\p'.out=out:=by
   intro p2 h2 e2;obtain⟨p',h3,h4⟩:=zN l (k+1) p2 out h2 e2;exact⟨p',by rw[show k+(l.length+1)=k+1+l.length by omega];exact h3,h4⟩
  rw[pgo]at e;rw[Lx];split at e
  ·exact step _ h.up e
  ·split at e
   ·split at e
    ·cases e
    ·rename_i hl;exact step _ (h.push _ hl) e
   ·split at e
    ·split at e
     ·rename_i a t hf;exact step _ (h.pair hf) e
     ·exact step _ h.up e
    ·exact step _ h.up e
theorem Gm{l:List (Int×Int)}(hl:l.length<=2000):(∀ p∈Bp l,p.1<p.2/\p.2<l.length)/\(Bp l).length<=2000:=by
 unfold Bp;cases hg:pgo 0 l ⟨[],[]⟩ with
 | none=>simp
 | some out =>
  obtain⟨p',h1,rfl⟩:=zN l 0 _ out POK.zero hg;have h0:Sm p'.out:=fun x hx=>by have:=h1.ord x hx;omega
  refine⟨fun p hp=>?_,?_⟩
  ·have:=h1.ord p ((BB h0).mem_iff.1 hp);omega
  ·have:=h1.olen;simp only[ri];omega
end Bi
end Go.Ab
