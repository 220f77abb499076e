/- Several texts of this proof in one. -/
import Derived.Test.YtoappddifbgegaaGreatPiU
import Derived.Shelf.SlSortCmp.WholeK
set_option linter.all false
namespace Go.Ab
open Go.Proofs Go.Shelf Go.RowKit Go.Lib Go.Sort Go.Proofs.Tryz
abbrev KV:=Fin 4294967296×Fin 4294967296
def kvE(x:KV):List Value:=[.int .i64 (x.1.val:Int),.int .i64 (x.2.val:Int)]
def kvV(x:KV):List V:=[.int .i64 (x.1.val:Int),.int .i64 (x.2.val:Int)]
def kvC(x y:KV):Int:=(x.1.val:Int)-(y.1.val:Int)
def oM(x y:KV):Bool:=ltOf kvC x y
def small(n:Int):Option (Fin 4294967296):=if h:0<=n/\n<4294967296 then some ⟨n.toNat,by omega⟩ else none
def vU:List V->Option (List KV)
 | []=>some []
 | .int .i64 a::.int .i64 b::r=>match small a,small b,vU r with
  | some x,some y,some l=>some ((x,y)::l)
  | _,_,_=>none
 | _=>none
noncomputable def gE(l:List KV):List KV:=(pdq oM l.toArray 0 l.length (Lib.bitLen l.length) true true).toList
theorem gm(x y:KV):oM x y=decide (x.1.val<y.1.val):=by
 unfold oM ltOf kvC;congr 1;simp only[eq_iff_iff];omega
theorem HM:SWO (ltOf kvC) where
 irrefl x:=by have:=gm x x;unfold oM at this;rw[this];simp
 trans x y z h1 h2:=by
  have a:=gm x y;have b:=gm y z;have c:=gm x z;unfold oM at a b c;rw[a]at h1;rw[b]at h2;rw[c];simp at *;omega
 ntrans x y z h1 h2:=by
  have a:=gm x y;have b:=gm y z;have c:=gm x z;unfold oM at a b c;rw[a]at h1;rw[b]at h2;rw[c];simp only[decide_eq_false_iff_not]at *;omega
theorem oo(l:List KV):PermIn 0 l.length l.toArray (pdq oM l.toArray 0 l.length (Lib.bitLen l.length) true true)/\SortedIn oM 0 l.length (pdq oM l.toArray 0 l.length (Lib.bitLen l.length) true true):=by
 have h:=pdq_sorts (ltOf kvC) HM l.toArray 0 l.length (Lib.bitLen l.length) true true (LA _) (by simp) (Or.inl rfl);exact⟨h.1,h.2⟩
theorem lE(l:List KV):(gE l).length=l.length:=by
 have:=(oo l).1.1;simpa[gE]using this
theorem vW(l:List KV):(gE l).Perm l:=by
 have h:=oo l;have h1:=h.1.1;have h2:=h.1.2.2;simp only[MS]at h1;have e1:(l.toArray.extract 0 l.length)=l.toArray:=by simp
 have e2:(pdq oM l.toArray 0 l.length (Lib.bitLen l.length) true true).extract 0 l.length=pdq oM l.toArray 0 l.length (Lib.bitLen l.length) true true:=by
  generalize pdq oM l.toArray 0 l.length (Lib.bitLen l.length) true true=a at h1;rw[<- h1];exact Array.extract_size
 rw[e1,e2]at h2;simpa[gE]using h2
theorem sF:∀ {cs:List V}{l:List KV},vU cs=some l->cs=l.flatMap kvV
 | [],l,h=>by simp[vU]at h;subst h;rfl
 | [x],l,h=>by cases x<;>simp[vU]at h
 | x::y::r,l,h=>by
  unfold vU at h;split at h
  ·rename_i heq;cases heq
  ·rename_i a b r' heq;cases heq;split at h
   ·rename_i u v l' h1 h2 h3;cases h;have ih:=sF h3;unfold small at h1 h2;split at h1
    ·split at h2
     ·cases h1;cases h2;rw[Mj,<- ih];simp only[kvV,LM,Mp];congr 2
      ·congr 1;simp;omega
      ·congr 2;simp;omega
     ·cases h2
    ·cases h1
   ·cases h
  ·cases h
theorem zQ(l:List KV):(l.flatMap kvV).length=l.length*2:=by
 induction l with
 | nil=>rfl
 | cons a l ih=>simp only[Mj,Ln,Lp,ih];simp[kvV];omega
theorem tV:∀ (l:List KV) (j:Nat) (c:V),(l.flatMap kvV)[j]?=some c->∃ x,l[j / 2]?=some x/\(kvV x)[j%2]?=some c
 | [],j,c,h=>by simp at h
 | x::l,0,c,h=>⟨x,rfl,by simpa[kvV]using h⟩
 | x::l,1,c,h=>⟨x,rfl,by simpa[kvV]using h⟩
 | x::l,j+2,c,h=>by
  have h':(l.flatMap kvV)[j]?=some c:=by simpa[kvV]using h
  obtain⟨y,h1,h2⟩:=tV l j c h';refine⟨y,?_,?_⟩
  ·rw[show (j+2) / 2=j / 2+1 by omega];simpa using h1
  ·rw[show (j+2)%2=j%2 by omega];exact h2
noncomputable def lj(g:Nat)(fb:Prim):Prim:=fun cfg args h=>match args with
 | [.sl b off len _ 2,.func (.func g') [] []] =>
  if g'=g/\len<4611686018427387904 then match ab h b with
   | some cs=>if off+len*2<=cs.length then match vU ((cs.drop off).take (len*2)) with
     | some l=>match aJ cfg h b off ((gE l).flatMap kvV) with
      | some h'=>some (.tup [],h')
      | none=>none
     | none=>none
    else none
   | none=>none
  else none
 | _=>fb cfg args h
section
variable {m:Mu}{h:Heap}{w w':World}
theorem zB{x b:Nat}{cs:List V}(hx:live h x)(hb:m x=some b){arr arr':Array Value}{T:TypeId}(ha:w.heap[b]?=some (.cells arr T (0,0)))(h4:w'.heap[b]?=some (.cells arr' T (0,0)))(h6:arr.size<=arr'.size)
  (hs:∀ c,c<w.heap.size->c≠b->w'.heap[c]?=w.heap[c]?) (hz:w.heap.size<=w'.heap.size) (h1:w'.os=w.os) (h2:w'.tape=w.tape) (h3:w'.output=w.output):Evo m h w m (h.set x (some cs)) w' where
 zeq:=rfl
 len:=by simp
 keep:=fun y _ hl=>⟨(bT hx).1 hl,rfl⟩
 own:=fun y c hl hc=>.inl ⟨y,(bT hx).1 hl,hc⟩
 frame:=fun c hc hn=>hs c hc fun h0=>hn x hx (h0 ▸ hb)
 size:=hz
 rs:=fun c hc=>by
  by_cases h0:c=b
  ·subst h0;simp only[rsz,ha,h4];exact h6
  ·rw[cF (hs c hc h0)];exact La _
 os:=h1
 tape:=h2
 output:=h3
theorem GH(r:Rel m h w){x b:Nat}{cs:List V}(hx:live h x)(hb:m x=some b){arr arr':Array Value}{T:TypeId}(ha:w.heap[b]?=some (.cells arr T (0,0)))(h6:w'.heap[b]?=some (.cells arr' T (0,0)))(h7:arr.size<=arr'.size)
  (hs:∀ c,c<w.heap.size->c≠b->w'.heap[c]?=w.heap[c]?) (hz:w.heap.size<=w'.heap.size) (h1:w'.os=w.os) (h2:w'.tape=w.tape) (h3:w'.output=w.output)
  (hl:cs.length<=arr'.size) (hr:∀ (i:Nat) (c:V),cs[i]?=some c->∃ v,arr'[i]?=some v/\R m h w c v):Rel m (h.set x (some cs)) w':=by
 have e:=zB (cs:=cs) hx hb ha h6 h7 hs hz h1 h2 h3;refine⟨fun y c hy hc=>r.zo y c ((bT hx).1 hy) hc,fun c hc=>Lu (r.zl c hc) e.size,fun y z c hy hz h8 h9=>r.inj y z c ((bT hx).1 hy) ((bT hx).1 hz) h8 h9,fun y cs' c hy hc=>?_⟩;by_cases h0:x=y
 ·subst h0;rw[Lm (fh hx)]at hy;cases hy;rw[hb]at hc;cases hc;refine .inl ⟨arr',T,h6,hl,fun i c hc=>?_⟩;obtain⟨v,hv,h4⟩:=hr i c hc;exact⟨v,hv,h4.evo e r.lt⟩
 ·rw[Lb h0]at hy;have hd:c≠b:=fun e=>h0 (r.inj x y b hx ⟨cs',hy⟩ hb (e ▸ hc));exact (r.blk y cs' c hy hc).carry (hs c (r.lt y c ⟨cs',hy⟩ hc) hd) fun d v _ h4=>h4.evo e r.lt
end
theorem oS(w:World)(b off n:Nat)(d:Array KV)(os:Array Obj)(arr:Array Value)(T:TypeId)(ha:w.heap[b]?=some (.cells arr T (0,0))):
  (sortWorldK kvE 2 w b off n d os).heap[b]?=some (.cells (putCells id off (Go.Sort.flatK kvE 2 d) arr) T (0,0))/\(∀ c,c<w.heap.size->c≠b->(sortWorldK kvE 2 w b off n d os).heap[c]?=w.heap[c]?) /\
  w.heap.size<=(sortWorldK kvE 2 w b off n d os).heap.size/\(sortWorldK kvE 2 w b off n d os).os=w.os/\(sortWorldK kvE 2 w b off n d os).tape=w.tape/\(sortWorldK kvE 2 w b off n d os).output=w.output:=by
 have h0:b<w.heap.size:=(Lo.1 ha).1;refine⟨?_,fun c hc h3=>?_,?_,rfl,rfl,rfl⟩
 ·simp only[sortWorldK,putRowK,putRow,mapBlock,grow,Sort.ahead];rw[Mh (by simpa using h0),Array.getElem?_modify,if_pos rfl,ha];rfl
 ·simp only[sortWorldK,putRowK,putRow,mapBlock,grow,Sort.ahead];rw[Mh (by simpa using hc),Array.getElem?_modify,if_neg (Ne.symm h3)]
 ·simp[sortWorldK,putRowK,putRow,mapBlock,grow,Sort.ahead]
theorem Eo{P:Program}{ρ:Ren}(L:SlLaysF0.n6 P ρ)(aE:∀ w,(isAgg (ρ.t 24)).run P w=.ok true w)(zE:∀ w,(Go.sizeOf (ρ.t 24)).run P w=.ok 2 w)(g:Nat)(fb:Prim)
  (eg:∀ args w,(callFunc g args).run P w=.ok (.enter g args) w)
  (hc:∀ (x y:KV) (W:World),Calls P g #[.agg (kvE x).toArray,.agg (kvE y).toArray] W fun e w'=>e=.returned (.int .i64 (kvC x y))/\∃ q os',w'=grow (W.drewN q) os')
  (hex:∃ fn,P.funcs[ρ.f 6]?=some fn/\fn.body.isNone=false) (hK:bw P (ρ.f 6) fb):bw P (ρ.f 6) (lj g fb):=by
 intro cfg args h r h' hx;unfold lj at hx;split at hx
 ·rename_i b off len cap g';split at hx
  ·rename_i hg;obtain⟨rfl,hlen⟩:=hg;split at hx
   ·rename_i cs ht;split at hx
    ·rename_i hS;split at hx
     ·rename_i l hl;split at hx
      ·rename_i h2 hD;cases hx;have hd:=sF hl;have h8:l.length=len:=by
        have:=congrArg List.length hd;rw[zQ]at this;simp at this;omega
       have h3:=aA ht;refine⟨HS.storeCells hD,hex,fun m w vs hr hp=>?_⟩;obtain⟨hE,hF⟩:=hp;simp only[Lp,L3]at hE;obtain⟨v0,v1,rfl⟩:∃ v0 v1,vs=#[v0,v1]:=by
        refine⟨vs[0],vs[1],Array.ext (by simpa using hE) fun i h1 h2=>?_⟩;rcases i with _|_|i
        ·rfl
        ·rfl
        ·simp only[MS,Lp,L3]at h2;omega
       have r0:=hF 0 _ v0 rfl rfl;have r1:=hF 1 _ v1 rfl rfl;cases r0 with
       | sl hT hL hI hv =>
       rename_i rc a;obtain⟨b',hu,rfl,hX⟩:=hv ⟨cs,h3⟩;cases r1 with
       | func hM hY hN hZ =>
       rename_i fs cs';have hO:fs=#[]:=L5 (by simpa using hM);have hP:cs'=#[]:=L5 (by simpa using hN);subst hO hP;obtain⟨arr,T,ha,g0,hw⟩:=(hr.blk b cs b' h3 hu).cells (cX ht);have hQ:b'<w.heap.size:=(Lo.1 ha).1;have he:∀ (j:Nat),j<len*2->arr[off+j]?=some (Go.Sort.flatK kvE 2 l.toArray)[j]!:=by
        intro j hj;obtain⟨c,hJ⟩:∃ c,cs[off+j]?=some c:=⟨_,K4 (by omega)⟩;obtain⟨v,hf,hy⟩:=hw _ c hJ;have hR:(l.flatMap kvV)[j]?=some c:=by
         rw[<- hd,LI hj,M3];exact hJ
        obtain⟨x,hh,h9⟩:=tV l j c hR;rw[hf,get_flatK _ _ _ _ (by simpa[h8]using hj)];have hz:l.toArray[j / 2]! =x:=by
         rw[getElem!_pos _ _ (by have:=(K5.1 hh).1;simpa using this)];exact (K5.1 hh).2
        rw[hz];rcases N4 j with h0|h0<;>rw[h0]at h9 ⊢<;>simp[kvV]at h9<;>subst h9<;>cases hy<;>simp[kvE]
       have hH:HoldsK kvE 2 w b' off l.toArray:=by
        intro j hj;rw[size_flatK]at hj;simp only[MS,h8]at hj;refine⟨?_,?_⟩
        ·simp only[World.cell?,ha];exact he j hj
        ·simp[World.frozen?,ha]
       have h6:=AnyQ.slices_SortFunc_eq L 2 aE zE kvE (fun _=>rfl) (fun x v hv=>by simp[kvE]at hv;rcases hv with rfl|rfl<;>rfl) kvC HM g' #[] b' off rc l.toArray w eg (fun _ _ _ _ x y=>hc x y _) hH hQ (by simpa[h8]using hlen);simp only[MS,h8]at h6;refine h6.mono ?_;rintro e w' ⟨rfl,n,os,rfl⟩;refine⟨_,rfl,?_⟩;have h4:=hD;unfold aJ at h4;rw[ht]at h4;simp only at h4;split at h4
       ·rename_i h7;simp only[Ld,decide_eq_true_eq]at h7;have hm:=h7.1.1;cases h4;have hA:(pdq (ltOf kvC) l.toArray 0 len (Lib.bitLen len) true true).size=len:=by
         have:=lE l;simp only[gE,h8,Array.length_toList]at this;exact this
        obtain⟨f1,f2,f3,f4,f5,f6⟩:=oS w b' off n (pdq (ltOf kvC) l.toArray 0 len (Lib.bitLen len) true true) os arr T ha;have hn:arr.size<=(putCells id off (Go.Sort.flatK kvE 2 (pdq (ltOf kvC) l.toArray 0 len (Lib.bitLen len) true true)) arr).size:=by simp[putCells]
        refine⟨m,zB ⟨cs,h3⟩ hu ha f1 hn f2 f3 f4 f5 f6,GH hr ⟨cs,h3⟩ hu ha f1 hn f2 f3 f4 f5 f6 (by rw[iX];omega) ?_,.tup (by simp) (by simp)⟩;intro i c hi;rw[nE cs off _ i hm]at hi;rw[zQ,lE,h8]at hi hm;simp only[putCells,Array.getElem?_mapIdx,size_flatK,hA];by_cases hq:off<=i/\i<off+len*2
        ·rw[if_pos hq]at hi;obtain⟨v,hf,-⟩:=hw i _ (K4 (by omega));refine⟨(Go.Sort.flatK kvE 2 (pdq (ltOf kvC) l.toArray 0 len (Lib.bitLen len) true true))[i-off]!,by rw[hf];simp[hq],?_⟩;obtain⟨x,hh,h9⟩:=tV _ _ c hi;rw[get_flatK _ _ _ _ (by rw[hA];omega)];have hz:(pdq (ltOf kvC) l.toArray 0 len (Lib.bitLen len) true true)[(i-off) / 2]! =x:=by
          rw[getElem!_pos _ _ (by rw[hA];omega)];simp only[gE,h8,Ng]at hh;exact (Lo.1 hh).2
         rw[hz];rcases N4 (i-off) with h0|h0<;>rw[h0]at h9 ⊢<;>simp[kvV]at h9<;>subst h9<;>simp[kvE]<;>exact .int _ _
        ·rw[if_neg hq]at hi;obtain⟨v,hf,hy⟩:=hw i c hi;exact⟨v,by rw[hf];simp[hq],hy⟩
       ·cases h4
      ·cases hx
     ·cases hx
    ·cases hx
   ·cases hx
  ·cases hx
 ·exact hK cfg args h r h' hx
end Go.Ab
namespace Go.Proofs
open Go.Shelf Go.RowKit Go.Lib Go.Sort
def Tryz.sortL_ren:Ren:=⟨fun|6=>324|15=>332|14=>331|28=>343|29=>344|20=>335|21=>336|22=>337|23=>338|24=>339|25=>340|26=>341|27=>342|46=>345|47=>346|48=>347|49=>348|50=>349|57=>350|n=>n,fun|22=>276|24=>277|25=>352|3=>3|39=>345|0=>0|53=>372|55=>374|4=>4|46=>366|45=>365|50=>321|5=>5|9=>9|66=>375|70=>379|76=>381|77=>191|n=>n,fun|n=>n⟩
theorem Tryz.sortL:SlLaysF0.n6 prog Tryz.sortL_ren:={
 mixed:=by kernel_rfl
 f6:=⟨Tryz.f324.name,by decide,func324.trans (congrArg some (by kernel_rfl))⟩
 f14:=⟨Tryz.f331.name,by decide,func331.trans (congrArg some (by kernel_rfl))⟩
 f15:=func332.trans (congrArg some (by kernel_rfl))
 f20:=⟨Tryz.f335.name,by decide,func335.trans (congrArg some (by kernel_rfl))⟩
 f21:=⟨Tryz.f336.name,by decide,func336.trans (congrArg some (by kernel_rfl))⟩
 f22:=⟨Tryz.f337.name,by decide,func337.trans (congrArg some (by kernel_rfl))⟩
 f23:=⟨Tryz.f338.name,by decide,func338.trans (congrArg some (by kernel_rfl))⟩
 f24:=⟨Tryz.f339.name,by decide,func339.trans (congrArg some (by kernel_rfl))⟩
 f25:=⟨Tryz.f340.name,by decide,func340.trans (congrArg some (by kernel_rfl))⟩
 f26:=⟨Tryz.f341.name,by decide,func341.trans (congrArg some (by kernel_rfl))⟩
 f27:=⟨Tryz.f342.name,by decide,func342.trans (congrArg some (by kernel_rfl))⟩
 f28:=func343.trans (congrArg some (by kernel_rfl))
 f29:=func344.trans (congrArg some (by kernel_rfl))
 f46:=⟨Tryz.f345.name,by decide,func345.trans (congrArg some (by kernel_rfl))⟩
 f47:=func346.trans (congrArg some (by kernel_rfl))
 f48:=func347.trans (congrArg some (by kernel_rfl))
 f49:=⟨Tryz.f348.name,by decide,func348.trans (congrArg some (by kernel_rfl))⟩
 f50:=⟨Tryz.f349.name,by decide,func349.trans (congrArg some (by kernel_rfl))⟩
 f57:=⟨Tryz.f350.name,by decide,func350.trans (congrArg some (by kernel_rfl))⟩
 t0:=Tryz.underlying0
 a0:=Tryz.isAgg0
 z0:=Tryz.sizeOf0
 v0:=Tryz.zeroValue0
 t3:=Tryz.underlying3
 a3:=Tryz.isAgg3
 z3:=Tryz.sizeOf3
 v3:=Tryz.zeroValue3
 t4:=Tryz.underlying4
 a4:=Tryz.isAgg4
 z4:=Tryz.sizeOf4
 v4:=Tryz.zeroValue4
 t5:=Tryz.underlying5
 a5:=Tryz.isAgg5
 z5:=Tryz.sizeOf5
 v5:=Tryz.zeroValue5
 t9:=Tryz.underlying9
 a9:=Tryz.isAgg9
 z9:=Tryz.sizeOf9
 v9:=Tryz.zeroValue9
 t22:=Tryz.underlying276
 a22:=Tryz.isAgg276
 z22:=Tryz.sizeOf276
 v22:=Tryz.zeroValue276
 t25:=Tryz.underlying352
 a25:=Tryz.isAgg352
 z25:=Tryz.sizeOf352
 v25:=Tryz.zeroValue352
 t39:=Tryz.underlying345
 a39:=Tryz.isAgg345
 z39:=Tryz.sizeOf345
 v39:=Tryz.zeroValue345
 t45:=Tryz.underlying365
 a45:=Tryz.isAgg365
 z45:=Tryz.sizeOf365
 v45:=Tryz.zeroValue365
 t46:=Tryz.underlying366
 a46:=Tryz.isAgg366
 z46:=Tryz.sizeOf366
 v46:=Tryz.zeroValue366
 t50:=Tryz.underlying321
 a50:=Tryz.isAgg321
 z50:=Tryz.sizeOf321
 v50:=Tryz.zeroValue321
 t53:=Tryz.underlying372
 a53:=Tryz.isAgg372
 z53:=Tryz.sizeOf372
 v53:=Tryz.zeroValue372
 t55:=Tryz.underlying374
 a55:=Tryz.isAgg374
 z55:=Tryz.sizeOf374
 v55:=Tryz.zeroValue374
 t66:=Tryz.underlying375
 a66:=Tryz.isAgg375
 z66:=Tryz.sizeOf375
 v66:=Tryz.zeroValue375
 t70:=Tryz.underlying379
 a70:=Tryz.isAgg379
 z70:=Tryz.sizeOf379
 v70:=Tryz.zeroValue379
 t76:=Tryz.underlying381
 a76:=Tryz.isAgg381
 z76:=Tryz.sizeOf381
 v76:=Tryz.zeroValue381
 t77:=Tryz.underlying191
 a77:=Tryz.isAgg191
 z77:=Tryz.sizeOf191
 v77:=Tryz.zeroValue191 }
theorem Tryz.cmp83(x y:Go.Ab.KV)(W:World):Calls prog 325 #[.agg (Go.Ab.kvE x).toArray,.agg (Go.Ab.kvE y).toArray] W fun e w'=>e=.returned (.int .i64 (Go.Ab.kvC x y))/\∃ q os',w'=grow (W.drewN q) os':=by
 have hw:IntKind.i64.wrap ((x.1.val:Int)-(y.1.val:Int))=(x.1.val:Int)-(y.1.val:Int):=by
  have h1:=x.1.isLt;have h2:=y.1.isLt;rw[IntKind.wrap_i64];omega
 unfold Go.Ab.kvE Go.Ab.kvC;generalize (x.1.val:Int)=a at hw ⊢;generalize (y.1.val:Int)=b at hw ⊢
 go_enter func325,Tryz.ntmps325
 go_wp2
 go_ret
 exact⟨rfl,0,_,by rw[alloc_eq_grow,alloc_eq_grow,grow_grow];rfl⟩
end Go.Proofs
namespace Go.Ab
open Go.Proofs Go.Proofs.Tryz
namespace Bi
noncomputable def fbS:Prim:=fun cfg args h=>aH prog md (fun _=>none) 10000 40 cfg 324 args h
theorem xa(hm:prog.follows .mixedOrders=true)(hN:ck prog):bw prog 324 (lj 325 fbS):=
 Eo Tryz.sortL Tryz.isAgg277 Tryz.sizeOf277 325 fbS (Go.Proofs.enters_of func325 (by kernel_rfl) rfl) Tryz.cmp83 ⟨_,func324,rfl⟩
  (fun cfg args h r h' hx=>dx hm hN (fun _ _ h=>by cases h) 40 _ _ _ _ _ _ hx)
def yZ(x:Nat×Nat):KV:=(⟨x.1%4294967296,by omega⟩,⟨x.2%4294967296,by omega⟩)
noncomputable def lL(out:List (Nat×Nat)):List (Nat×Nat):=(gE (out.map yZ)).map fun x=>(x.1.val,x.2.val)
def Sm(out:List (Nat×Nat)):Prop:=∀ x∈out,x.1<4294967296/\x.2<4294967296
theorem rD(out:List (Nat×Nat)):(lL out).length=out.length:=by simp[lL,lE]
theorem B4{out:List (Nat×Nat)}(h:Sm out):(lL out).Perm out:=by
 have h1:=(vW (out.map yZ)).map (fun x:KV=>(x.1.val,x.2.val));rw[Ou]at h1;have h2:out.map ((fun x:KV=>(x.1.val,x.2.val)) ∘ yZ)=out:=by
  conv=>rhs;rw[<- List.map_id out]
  apply List.map_congr_left;intro x hx;obtain⟨a,b⟩:=h x hx;simp[yZ,Nn a,Nn b]
 rw[h2]at h1;exact h1
theorem tp{n:Nat}(h:n<4294967296):small (n:Int)=some ⟨n%4294967296,by omega⟩:=by
 unfold small;rw[dif_pos ⟨by omega,by omega⟩];congr 1;apply Fin.ext;simp[Nn h]
theorem vV:∀ {out:List (Nat×Nat)},Sm out->vU (pcn out)=some (out.map yZ)
 | [],_=>rfl
 | x::r,h=>by
  obtain⟨a,b⟩:=h x (Ll ..);have ih:=vV (out:=r) fun y hy=>h y (Lc _ hy);have e:pcn (x::r)=.int .i64 (x.1:Int)::.int .i64 (x.2:Int)::pcn r:=rfl;rw[e,vU,tp a,tp b,ih];rfl
theorem GA(out:List (Nat×Nat)):pcn (lL out)=(gE (out.map yZ)).flatMap kvV:=by
 unfold lL;generalize gE (out.map yZ)=l
 induction l with
 | nil=>rfl
 | cons a l ih =>
  have e:pcn ((a::l).map fun x=>(x.1.val,x.2.val))=[.int .i64 (a.1.val:Int),.int .i64 (a.2.val:Int)]++pcn (l.map fun x=>(x.1.val,x.2.val)):=rfl;rw[e,ih];rfl
section
variable {prim:FuncId->Option Prim}(d:Nat)
theorem GU(hp:prim 324=some (lj 325 fbS))(cfg:Cfg)(H:Heap)(b cap:Nat)(out:List (Nat×Nat))(J:List V)(hs:Sm out)(hl:out.length<=2000)(h3:cfg.lo<=b)(hb:ab H b=some (pcn out++J)):
  af md (K prim (d+1)) cfg 324 [.sl b 0 out.length cap 2,.func (.func 325) [] []] H=some (.tup [],H.set b (some (pcn (lL out)++J))):=by
 have h7:=kj out;have h0:=kj (lL out);rw[rD]at h0;have h8:=ao hb;have hw:(Cfg.wr ⟨cfg.lo,cfg.ex,H.length⟩ b)=true:=bH h3;have h4:(pcn (lL out)).all V.rf=true:=yy _;have h6:aJ ⟨cfg.lo,cfg.ex,H.length⟩ H b 0 (pcn (lL out))=some (H.set b (some (pcn (lL out)++J))):=by
  rw[gI,hb];simp only[Md];rw[if_pos]
  ·have:=ic (pcn (lL out)) [] (pcn out++J) (by simp;omega);simp only[Mp,L3]at this;rw[this,Na (by omega),Mm (by omega)];rfl
  ·simp only[hw,h4,Bool.or_true,M1,decide_eq_true_eq,Ln];omega
 have hP:lj 325 fbS ⟨cfg.lo,cfg.ex,H.length⟩ [.sl b 0 out.length cap 2,.func (.func 325) [] []] H=some (.tup [],H.set b (some (pcn (lL out)++J))):=by
  simp only[lj];rw[if_pos ⟨trivial,by omega⟩,hb];simp only;rw[if_pos (by simp;omega),Mo,Mz (by omega),vV hs];simp only;rw[<- GA,h6]
 have hK:K prim (d+1) ⟨cfg.lo,cfg.ex,H.length⟩ 324 [.sl b 0 out.length cap 2,.func (.func 325) [] []] H=some (.tup [],H.set b (some (pcn (lL out)++J))):=by
  show (match prim 324 with
   | some p=>p _ _ _
   | none=>_)=_
  rw[hp];exact hP
 have hm:md 324=1:=rfl;simp only[af,hm,hK];simp[frz];exact Li (by simp)
theorem F5(cfg:Cfg)(H:Heap):af md (K (fun _=>none) (d+1)) cfg 335 [.nils,.int .i64 0,.int .i64 0,.func (.func 325) [] []] H=some (.tup [],H):=by
 refine call1 rfl rfl func335 rfl rfl rfl ?_;simp(disch:=omega)[wrap64];refine ah (fun m fr h=>m=0/\h=H/\Slots 53 [(0,.nils),(1,.int .i64 0),(2,.int .i64 0),(3,.func (.func 325) [] []),(8,.int .i64 1)] fr) (m:=0) (by omega) ⟨rfl,rfl,by simp⟩ ?_;rintro m fr h ⟨rfl,rfl,hs⟩;obtain⟨j,rfl⟩:=hs.ex;clear hs;simp
theorem GB(cfg:Cfg)(H:Heap)(x:Int):af md (K (fun _=>none) (d+2)) cfg 331 [.nils,.int .i64 0,.int .i64 0,.int .i64 x,.func (.func 325) [] []] H=some (.tup [],H):=by
 refine call1 rfl rfl func331 rfl rfl rfl ?_;have hI:=fun cfg H=>F5 d cfg H;simp(disch:=omega);refine ah (fun m fr h=>m=0/\h=H/\Slots 148 [(0,.nils),(1,.int .i64 0),(2,.int .i64 0),(3,.int .i64 x),(4,.func (.func 325) [] []),(10,.bool true),(11,.bool true)] fr) (m:=0) (by omega) ⟨rfl,rfl,by simp⟩ ?_;rintro m fr h ⟨rfl,rfl,hs⟩;obtain⟨j,rfl⟩:=hs.ex;clear hs;simp(disch:=omega)[hI,wrap64]
theorem Gd(cfg:Cfg)(H:Heap):af md (K (fun _=>none) 39) cfg 332 [.int .u64 0] H=some (.int .i64 0,H):=by kernel_rfl
theorem El(cfg:Cfg)(H:Heap):fbS cfg [.nils,.func (.func 325) [] []] H=some (.tup [],H):=by
 have hI:=fun cfg H x=>GB 37 cfg H x;have hL:=fun cfg H=>Gd cfg H;obtain⟨r,h',h1,rfl,rfl⟩:=cn (md:=md) (n:=10000) (d:=39) (cfg:=cfg) (h:=H) (args:=[.nils,.func (.func 325) [] []]) (prim:=fun _=>none) (R:=fun r h'=>r=.tup []/\h'=H) rfl func324 rfl rfl rfl (by
  simp(disch:=omega)[hI,hL,AN])
 exact h1
theorem Em(hp:prim 324=some (lj 325 fbS))(cfg:Cfg)(H:Heap):af md (K prim (d+1)) cfg 324 [.nils,.func (.func 325) [] []] H=some (.tup [],H):=by
 have hK:K prim (d+1) ⟨cfg.lo,cfg.ex,H.length⟩ 324 [.nils,.func (.func 325) [] []] H=some (.tup [],H):=by
  show (match prim 324 with
   | some p=>p _ _ _
   | none=>_)=_
  rw[hp];simp only[lj];exact El _ _
 have hm:md 324=1:=rfl;simp only[af,hm,hK];simp[frz]
end
end Bi
end Go.Ab
namespace Go.Ab.Bi
def eL:Int->List Int->List Int->List Int
 | p,x::o,a::y=>(if gone x then p else a)::eL (if gone x then p else a) o y
 | _,_,_=>[]
theorem dX:∀ (o y:List Int) (p:Int),o.length=y.length->(eL p o y).length=y.length
 | [],[],_,_=>rfl
 | x::o,a::y,p,h=>by simp at h;simp[eL,dX o y _ h]
 | [],_::_,_,h=>by simp at h
 | _::_,[],_,h=>by simp at h
theorem nG{o y:List Int}{p x a:Int}(ho:o[0]?=some x)(hy:y[0]?=some a):(eL p o y)[0]?=some (if gone x then p else a):=by
 cases o with
 | nil=>simp at ho
 | cons b o=>cases y with
  | nil=>simp at hy
  | cons c y=>simp at ho hy;simp[eL,ho,hy]
theorem nF:∀ (o y:List Int) (p:Int) (i:Nat) (x a q:Int),o[i+1]?=some x->y[i+1]?=some a->(eL p o y)[i]?=some q->(eL p o y)[i+1]?=some (if gone x then q else a)
 | [],_,_,_,_,_,_,ho,_,_=>by simp at ho
 | _::_,[],_,_,_,_,_,_,hy,_=>by simp at hy
 | b::o,c::y,p,0,x,a,q,ho,hy,hq=>by
  simp only[eL,MT,K7]at hq;simp only[eL,LG]at ho hy ⊢;rw[nG ho hy,hq]
 | b::o,c::y,p,i+1,x,a,q,ho,hy,hq=>by
  simp only[eL,LG]at ho hy hq ⊢;exact nF o y _ i x a q ho hy hq
def jo(p:Int)(o y:List Int)(i:Nat):List Int:=(eL p o y).take i++y.drop i
theorem D7{p:Int}{o y:List Int}(h:o.length=y.length)(i:Nat):(jo p o y i).length=y.length:=by
 have:=dX o y p h;simp[jo,this];omega
theorem BO{p:Int}{o y:List Int}:jo p o y 0=y:=by simp[jo]
theorem D6{p:Int}{o y:List Int}(h:o.length=y.length):jo p o y y.length=eL p o y:=by
 have:=dX o y p h;simp[jo,Li (Nat.le_of_eq this)]
theorem GI{p:Int}{o y:List Int}(h:o.length=y.length){i j:Nat}(hj:j<i)(hi:i<=y.length):(jo p o y i)[j]?=(eL p o y)[j]?:=by
 have:=dX o y p h;rw[jo,K8 (by simp;omega),LI hj]
theorem GJ{p:Int}{o y:List Int}(h:o.length=y.length){i:Nat}(hi:i<y.length):(jo p o y i)[i]?=y[i]?:=by
 have:=dX o y p h;have hl:((eL p o y).take i).length=i:=by simp;omega
 rw[jo,Lg (by omega),hl,M3];simp
theorem rj{p:Int}{o y:List Int}(h:o.length=y.length){i:Nat}(hi:i<y.length){z:Int}(hz:(eL p o y)[i]?=some z):(jo p o y i).set i z=jo p o y (i+1):=by
 have hr:=dX o y p h;have hl:((eL p o y).take i).length=i:=by simp;omega
 unfold jo;rw[LO _ _ (by omega),hl,NF,Lq hi,Nz,LD,hz];simp
theorem JP{l:List Int}{i:Nat}{x:Int}(h:l[i]?=some x):l.set i x=l:=by
 obtain⟨hl,rfl⟩:=K5.1 h;exact NO hl
def ng(x:Int):Bool:=x==12||x==22||x==9||x==16||x==14||x==17||x==15||x==18||ini x
def trB(x:Int)(b:Bool):Bool:=if x=11\/x=10 then true else if ng x then b else false
def trl(e:Int):List Int->List Int->Bool×List Int
 | x::o,a::y=>(trB x (trl e o y).1,(if trB x (trl e o y).1 then e else a)::(trl e o y).2)
 | _,_=>(true,[])
theorem uA(e:Int):∀ (o y:List Int),o.length=y.length->(trl e o y).2.length=y.length
 | [],[],_=>rfl
 | x::o,a::y,h=>by simp at h;simp[trl,uA e o y h]
 | [],_::_,h=>by simp at h
 | _::_,[],h=>by simp at h
def trU(e:Int)(o y:List Int)(k:Nat):List Int:=y.take k++(trl e (o.drop k) (y.drop k)).2
def trF(e:Int)(o y:List Int)(k:Nat):Bool:=(trl e (o.drop k) (y.drop k)).1
theorem G3{e:Int}{o y:List Int}(h:o.length=y.length)(k:Nat):(trU e o y k).length=y.length:=by
 have:=uA e (o.drop k) (y.drop k) (by simp[h]);simp[trU,this];omega
theorem G2{e:Int}{o y:List Int}(h:o.length=y.length):trU e o y y.length=y/\trF e o y y.length=true:=by
 unfold trU trF;rw[Mm (La _),Mm (Nat.le_of_eq h)];simp[trl]
theorem EE{e:Int}{o y:List Int}:trU e o y 0=(trl e o y).2:=by simp[trU]
theorem ED{e:Int}{o y:List Int}(h:o.length=y.length){k:Nat}{x:Int}(hx:o[k]?=some x):trF e o y k=trB x (trF e o y (k+1)):=by
 obtain⟨hl,rfl⟩:=K5.1 hx;have hy:k<y.length:=by omega
 unfold trF;rw[Lq hl,Lq hy,trl]
theorem G4{e:Int}{o y:List Int}(h:o.length=y.length){k:Nat}(hk:k<y.length)(hb:trF e o y k=true):(trU e o y (k+1)).set k e=trU e o y k:=by
 have hl:k<o.length:=by omega
 unfold trF at hb;unfold trU;rw[Lq hl,Lq hk,trl]at hb ⊢;simp only at hb;simp only[hb,if_true];rw[LD,K4 hk];simp only[Nc];rw[Ly,LO _ _ (by simp;omega)];have:k-(y.take k).length=0:=by simp;omega
 rw[this];rfl
theorem JV{e:Int}{o y:List Int}(h:o.length=y.length){k:Nat}(hk:k<y.length)(hb:trF e o y k=false):trU e o y (k+1)=trU e o y k:=by
 have hl:k<o.length:=by omega
 unfold trF at hb;unfold trU;rw[Lq hl,Lq hk,trl]at hb ⊢;simp only at hb;simp only[hb,Lv,if_false];rw[LD,K4 hk];simp only[Nc];rw[Ly];rfl
end Go.Ab.Bi
namespace Go.Ab.Bi
theorem EW.top{e:Int}{i:Nat}{s:ES}(h:EW e i s):0<=(fE s.st).1/\(fE s.st).1<=125:=by
 obtain⟨a,r,hs⟩:=h.cons;have ha:=h.rng a (by rw[hs];exact Ll ..);have ht:fE s.st=a:=by rw[hs];rfl
 rw[ht];exact⟨by omega,by omega⟩
theorem xT{e:Int}{i:Nat}{s:ES}(h:EW e i s)(he:0<=e/\e<=1)(x:Int)(odd:Bool):0<=(bJ e x odd s).1/\(bJ e x odd s).1<=125:=by
 have h2:=h.step x odd;have ht:=h.top;have h0:=h2.top;unfold bJ at h0 ⊢;split
 ·exact ht
 ·rename_i h1;rw[if_neg h1]at h0;split
  ·exact ht
  ·rename_i h3;rw[if_neg h3]at h0;split
   ·rename_i h4;rw[if_pos h4]at h0;exact h0
   ·split
    ·exact ht
    ·split
     ·exact⟨he.1,by omega⟩
     ·split<;>exact ht
theorem vj{e:Int}(he:0<=e/\e<=1):∀ (l:List Int) (s:ES) (i:Nat),EW e i s->∀ p∈qf e l s,0<=p.1/\p.1<=125
 | [],_,_,_,p,hp=>by simp[qf]at hp
 | x::r,s,i,h,p,hp=>by
  rw[qf]at hp;rcases Lt.1 hp with rfl|hp
  ·exact xT h he x _
  ·exact vj he r _ (i+1) (h.step x _) p hp
theorem vk{e:Int}(he:0<=e/\e<=1)(o:List Int):∀ x∈(gR e o).map (·.1),0<=x/\x<=125:=by
 intro x hx;obtain⟨p,hp,rfl⟩:=Me.1 hx;exact vj he o _ 0 (EW.zero he) p hp
end Go.Ab.Bi
namespace Go.Ab
open Go.Proofs Go.Proofs.Tryz
namespace Bi
noncomputable def BJ(l:List (Int×Int)):List (Nat×Nat):=match pgo 0 l ⟨[],[]⟩ with
 | some out=>lL out
 | none=>[]
def Stp(t o:List Int)(s:Sq)(c y c' y':List Int):Prop:=
 ∃ c1 c2,WB c s.l (AL s.sos (s.l.map (lvl c))) c1 /\
  WB c1 s.l (rN (fc s.lev) s.sos (s.l.map (lvl o)) (BJ ((s.l.map (lvl c1)).zip (s.l.map (lvl t)))) (s.l.map (lvl c1))) c2 /\
  WB c2 s.l (gY (fc s.lev) s.eos s.sos 0 (s.l.map (lvl c2))) c'/\WB y s.l (jm s.lev (s.l.map (lvl y)) (s.l.map (lvl c'))) y'
def Stps(t o:List Int):List Sq->List Int->List Int->List Int->List Int->Prop
 | [],c,y,c',y'=>c'=c/\y'=y
 | s::r,c,y,c',y'=>∃ c1 y1,Stp t o s c y c1 y1/\Stps t o r c1 y1 c' y'
theorem Stps.snoc{t o:List Int}:∀ {l:List Sq}{s:Sq}{c y c1 y1 c2 y2:List Int},Stps t o l c y c1 y1->Stp t o s c1 y1 c2 y2->Stps t o (l++[s]) c y c2 y2
 | [],_,_,_,_,_,_,_,⟨rfl,rfl⟩,h=>⟨_,_,h,rfl,rfl⟩
 | _::_,_,_,_,_,_,_,_,⟨a,b,h1,h2⟩,h=>⟨a,b,h1,h2.snoc h⟩
def LevR(t:List Int)(base:Int)(r:List Int):Prop:=
 ∃ M c' y',MOK (t.map cA) M /\
  Stps t (t.map cA) (lh (t.map cA) M ((gR (dw cA t base) (t.map cA)).map (·.1)) t.length (dw cA t base)) ((gR (dw cA t base) (t.map cA)).map (·.2)) ((gR (dw cA t base) (t.map cA)).map (·.1)) c' y' /\
  r=(trl (dw cA t base) (t.map cA) (eL (dw cA t base) (t.map cA) y')).2
theorem mX{o:List Int}{F:Nat->Int}{rs:List (List Int)}{lv kept:List Int}{e:Int}{s:Sq}:∀ {k:Nat},s∈jc o F rs lv kept e k->∃ j,j<k/\con F rs.length j=false/\s=Es o F rs lv kept e j
 | 0,h=>by simp[jc]at h
 | k+1,h=>by
  unfold jc at h;cases hc:con F rs.length k
  ·rw[hc]at h;rcases LB.1 h with h|h
   ·obtain⟨j,h1,h2,h3⟩:=mX h;exact⟨j,by omega,h2,h3⟩
   ·exact⟨k,by omega,hc,by simpa using h⟩
  ·rw[hc]at h;obtain⟨j,h1,h2,h3⟩:=mX h;exact⟨j,by omega,h2,h3⟩
theorem gU{o lv:List Int}{n:Nat}:(grp lv (aZ o n) (aZ o n).length).flatten=aZ o n:=by
 rw[mb lv (aZ o n) _ (La _),LF]
theorem GP{o M lv:List Int}{n:Nat}(hM:MOK o M)(h0:o.length=n):
  ∀ j,j<(grp lv (aZ o n) (aZ o n).length).length->fol o M (grp lv (aZ o n) (aZ o n).length) j<0\/((j:Int)<fol o M (grp lv (aZ o n) (aZ o n).length) j/\fol o M (grp lv (aZ o n) (aZ o n).length) j<(grp lv (aZ o n) (aZ o n).length).length):=by
 intro j hj;refine ya hM ?_ ?_ j hj
 ·rw[gU];exact fO o n
 ·rw[gU];intro x hx;have:=eR o n x hx;omega
theorem xf{o M lv:List Int}{n:Nat}{e:Int}(hM:MOK o M)(h0:o.length=n)(h6:lv.length=n)(h3:∀ x∈lv,0<=x/\x<=125){s:Sq}(hs:s∈lh o M lv n e):Pl n s.l/\s.l.length<=n/\(0<=s.lev/\s.lev<=125)/\s.l.Sublist (aZ o n):=by
 unfold lh at hs;obtain⟨j,h1,h2,rfl⟩:=mX hs;obtain⟨r,hr⟩:∃ r,(grp lv (aZ o n) (aZ o n).length)[j]?=some r:=⟨_,K4 h1⟩;obtain⟨c1,c2,c3⟩:=so (GP hM h0) gU (pf lv (aZ o n) _) hr;have hk:=eR o n;have ha:=fO o n;have h7:=gV o n;have h8:=c1.length_le;refine⟨⟨fun i hi=>?_,?_⟩,?_,?_,c1⟩
 ·have:=hk i (c1.subset hi);omega
 ·exact (ha.sublist c1).imp (fun h=>by omega)
 ·show (chn _ _ _ _).length<=n;omega
 ·show 0<=lvl lv _/\lvl lv _<=125;have hx:=vJ c2;have hm:=hk _ (c1.subset (K6 hx));generalize (chn (fol o M (grp lv (aZ o n) (aZ o n).length)) (grp lv (aZ o n) (aZ o n).length) (grp lv (aZ o n) (aZ o n).length).length j).headD 0=x at hm;have h4:lv[x.toNat]?=some (lvl lv x):=by rw[lvl,K9,K4 (by omega)];rfl
  exact h3 _ (K6 h4)
theorem vN{lev:Int}:∀ {u s:List Int}{a:Int},a∈jm lev u s->∃ b∈u,b<=a/\a<=b+2
 | [],_,_,h=>by simp[jm]at h
 | _::_,[],_,h=>by simp[jm]at h
 | b::u,x::s,a,h=>by
  rw[jm]at h;rcases Lt.1 h with h|h
  ·have:=qD lev x;exact⟨b,Ll ..,by omega,by omega⟩
  ·obtain⟨c,h1,h2⟩:=vN h;exact⟨c,Lc _ h1,h2⟩
theorem Ih{c l s c':List Int}(h:WB c l s c'){x:Int}(hx:x∈c'):x∈c\/x∈s:=by
 obtain⟨j,hj⟩:=M4.1 hx;by_cases hl:(j:Int)∈l
 ·obtain⟨k,hk⟩:=M4.1 hl;have:=h.at_ k _ hk;rw[Lr,hj]at this;exact .inr (K6 this.symm)
 ·have:=h.oth j hl;rw[hj]at this;exact .inl (K6 this.symm)
theorem zT{c l:List Int}(h:∀ i∈l,0<=i/\i<c.length){x:Int}(hx:x∈l.map (lvl c)):x∈c:=by
 obtain⟨i,hi,rfl⟩:=Me.1 hx;have:=h i hi;have h0:c[i.toNat]?=some (lvl c i):=by rw[lvl,K9,K4 (by omega)];rfl
 exact K6 h0
theorem Stp.len{t o c y c' y':List Int}{s:Sq}(h:Stp t o s c y c' y'):c'.length=c.length/\y'.length=y.length:=by
 obtain⟨c1,c2,h1,h2,h3,h4⟩:=h;exact⟨h3.len.trans (h2.len.trans h1.len),h4.len⟩
theorem Stp.rng{t o c y c' y':List Int}{s:Sq}{n:Nat}{B:Int}(h:Stp t o s c y c' y')(hs:Pl n s.l)(hy:y.length=n)(hB:∀ x∈y,0<=x/\x<=B):∀ x∈y',0<=x/\x<=B+2:=by
 obtain⟨c1,c2,h1,h2,h3,h4⟩:=h;intro x hx;rcases Ih h4 hx with h5|h5
 ·have:=hB x h5;omega
 ·obtain⟨b,h6,h7,h8⟩:=vN h5;have:=hB b (zT (fun i hi=>by have:=hs.rng i hi;omega) h6);omega
theorem zZ:∀ (l:List (Int×Int)) (k:Nat) (p:PS) (out:List (Nat×Nat)),POK k p->pgo k l p=some out->∃ p',POK (k+l.length) p'/\p'.out=out
 | [],k,p,out,h,e=>by
  simp only[pgo,K7]at e;exact⟨p,h,e⟩
 | (x,r)::l,k,p,out,h,e=>by
  have step:∀ p2,POK (k+1) p2->pgo (k+1) l p2=some out->∃ p',POK (k+(l.length+1)) p'/\p'.out=out:=by
   intro p2 h2 e2;obtain⟨p',h3,h4⟩:=zZ l (k+1) p2 out h2 e2;exact⟨p',by rw[show k+(l.length+1)=k+1+l.length by omega];exact h3,h4⟩
  rw[pgo]at e;rw[Lp];split at e
  ·exact step _ h.up e
  ·split at e
   ·split at e
    ·cases e
    ·rename_i hl;exact step _ (h.push _ hl) e
   ·split at e
    ·split at e
     ·rename_i a t hf;exact step _ (h.pair hf) e
     ·exact step _ h.up e
    ·exact step _ h.up e
theorem GF{l:List (Int×Int)}(hl:l.length<=2000):(∀ p∈BJ l,p.1<p.2/\p.2<l.length)/\(BJ l).length<=2000:=by
 unfold BJ;cases hg:pgo 0 l ⟨[],[]⟩ with
 | none=>simp
 | some out =>
  obtain⟨p',h1,rfl⟩:=zZ l 0 _ out POK.zero hg;have h0:Sm p'.out:=fun x hx=>by have:=h1.ord x hx;omega
  refine⟨fun p hp=>?_,?_⟩
  ·have:=h1.ord p ((B4 h0).mem_iff.1 hp);omega
  ·have:=h1.olen;simp only[rD];omega
end Bi
end Go.Ab
