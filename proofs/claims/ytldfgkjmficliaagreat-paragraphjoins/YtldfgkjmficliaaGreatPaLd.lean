/- The program: where lines may end, exactly. -/
import Derived.Test.YtldfgkjmficliaaGreatPaLc
set_option linter.unusedSimpArgs false
set_option linter.unusedVariables false
namespace Go.Ab
open Go.Proofs
namespace Bi
attribute [local congr] az
def bfK(raw c:List Int)(bd:List Bool)(q:Nat):Int:=if lgI raw (q+1)=19∧((rgS raw (q+1):Nat):Int).tmod 2=1 then 0 else 1
def bfJ(raw c:List Int)(bd:List Bool)(q:Nat):Int:=if lgI c q=13∧lgI c (q+1)∈[0,17] then 0 else bfK raw c bd q
def bfI(raw c:List Int)(bd:List Bool)(q:Nat):Int:=if lgI c q∈[0,17]∧lgI c (q+1)=12 then 0 else bfJ raw c bd q
def bfH(raw c:List Int)(bd:List Bool)(q:Nat):Int:=if lgI c q∈[0,16]∧lgI c (q+1)=0 then 0 else bfI raw c bd q
def bfG(raw c:List Int)(bd:List Bool)(q:Nat):Int:=if lgI c q∈[17,11,16]∧lgI c (q+1)=17 then 0 else bfH raw c bd q
def bfF(raw c:List Int)(bd:List Bool)(q:Nat):Int:=if (lgI c q=0∧lgI c (q+1)=17)∨(lgI c q=17∧lgI c (q+1)=0) then 0 else bfG raw c bd q
def bfE(raw c:List Int)(bd:List Bool)(q:Nat):Int:=if lgI c q=14∨lgI c (q+1)=14∨lgI c (q+1)=10∨lgI c (q+1)=11 then 0 else bfF raw c bd q
def bfD(raw c:List Int)(bd:List Bool)(q:Nat):Int:=if lgI c q=4 then 1 else bfE raw c bd q
def bfC(raw c:List Int)(bd:List Bool)(q:Nat):Int:=if spS c 12 (q+1)=true∨(lgI c (q+1)=12∧spS c 14 (q+1)=true) then 0 else bfD raw c bd q
def bfB(raw c:List Int)(bd:List Bool)(q:Nat):Int:=if lgI c (q+1)∈[13,15,16] then 0 else bfC raw c bd q
def bfA(raw c:List Int)(bd:List Bool)(q:Nat):Int:=if lgI c (q+1)=9∧lgI c q ∉ [4,10,11] then 0 else bfB raw c bd q
def bf9(raw c:List Int)(bd:List Bool)(q:Nat):Int:=if lgI c q=8∨lgI c (q+1)=8∨lgI c q=9 then 0 else bfA raw c bd q
def bf8(raw c:List Int)(bd:List Bool)(q:Nat):Int:=if cmS (lgI raw (q+1))=true∧hrS (lgI c q)=false then 0 else bf9 raw c bd q
def bf7(raw c:List Int)(bd:List Bool)(q:Nat):Int:=if lgI raw q=6 then 0 else bf8 raw c bd q
def bf6(raw c:List Int)(bd:List Bool)(q:Nat):Int:=if spS c 5 (q+1)=true then 1 else bf7 raw c bd q
def bf5(raw c:List Int)(bd:List Bool)(q:Nat):Int:=if lgB bd (q+1)=false then 0 else bf6 raw c bd q
def bf4(raw c:List Int)(bd:List Bool)(q:Nat):Int:=if lgI c (q+1)∈[1,2,3,4,5] then 0 else bf5 raw c bd q
def bf3(raw c:List Int)(bd:List Bool)(q:Nat):Int:=if lgI c q∈[1,3,2] then 2 else bf4 raw c bd q
def ez(raw c:List Int)(bd:List Bool)(q:Nat):Int:=if lgI c q=2∧lgI c (q+1)=3 then 0 else bf3 raw c bd q
section
variable {P:Program}{md:FuncId→Nat}{call:aR}{cfg:Cfg}{n:Nat}
theorem cg{z:Bool}{c:Operand}{t e:Code}{fr:List V}{h:Heap}{Q:dQ}(h1:ev fr c=some (.bool z))(ht:z=true→@wC P md call cfg n ⟨t⟩ fr h ⟨Q⟩)(hf:z=false→@wC P md call cfg n ⟨e⟩ fr h ⟨Q⟩):@wC P md call cfg n ⟨.cond c t e⟩ fr h ⟨Q⟩:=by
 rw[FZ,h1,FY]
 exact ak ht hf
end
section
variable {prim:FuncId→Option Prim}(d:Nat)
theorem ij{S:Option (List V)}{T:Heap}{cs:List V}(hm:isMap cs=false):ab (S::(T++[some cs])) (T.length+1)=some cs:=by
 simp[ab,hm]
theorem iA(hp:∀ f,Np5 f→prim f=none)(cfg:Cfg)(x:Int)(l:List Int)(hl:l.length≤100)(n:Nat)(hn:n=l.length)(H:Heap)(b:Nat)(hb:ab H b=some (l.map (V.int .i64))):
  af md (K prim (d+1)) cfg 123 [.int .i64 x,.sl b 0 n n 1] H=some (.bool (decide (x∈l)),H):=by
 subst hn
 exact Ia d hp cfg x l hl H b hb
set_option maxRecDepth 100000 in
set_option maxHeartbeats 16000000 in
theorem zB(hp:∀ f,Np5 f→prim f=none)(n:Nat)(hn:n≤2000)(raw c:List Int)(bd:List Bool)(hr:raw.length=n)(hc:c.length=n)(hbd:bd.length=n+1)(q:Nat)(hq:q+1<n)(cfg:Cfg)(h:Heap):
  af md (K prim (d+2)) cfg 89 [.agg (scC raw c bd),.int .i64 ((q:Int)+1)] h=some (.int .i64 (ez raw c bd q),h):=by
 refine bo rfl (hp 89 (by decide)) Tryz.func89 rfl rfl rfl (by simp) ?_
 have hO0:∀ (T:Heap) (x:Int),af md (K prim (d+1)) ⟨0,[],0⟩ 123 [.int .i64 x,.sl (T.length+1) 0 3 3 1] (some (scC raw c bd)::(T++[some [.int .i64 1,.int .i64 3,.int .i64 2]]))=some (.bool (decide (x∈[1,3,2])),some (scC raw c bd)::(T++[some [.int .i64 1,.int .i64 3,.int .i64 2]])):=
  fun T x=>iA (prim:=prim) d hp _ x [1,3,2] (by simp) 3 rfl _ _ (ij rfl)
 have hO1:∀ (T:Heap) (x:Int),af md (K prim (d+1)) ⟨0,[],0⟩ 123 [.int .i64 x,.sl (T.length+1) 0 5 5 1] (some (scC raw c bd)::(T++[some [.int .i64 1,.int .i64 2,.int .i64 3,.int .i64 4,.int .i64 5]]))=some (.bool (decide (x∈[1,2,3,4,5])),some (scC raw c bd)::(T++[some [.int .i64 1,.int .i64 2,.int .i64 3,.int .i64 4,.int .i64 5]])):=
  fun T x=>iA (prim:=prim) d hp _ x [1,2,3,4,5] (by simp) 5 rfl _ _ (ij rfl)
 have hO2:∀ (T:Heap) (x:Int),af md (K prim (d+1)) ⟨0,[],0⟩ 123 [.int .i64 x,.sl (T.length+1) 0 3 3 1] (some (scC raw c bd)::(T++[some [.int .i64 4,.int .i64 10,.int .i64 11]]))=some (.bool (decide (x∈[4,10,11])),some (scC raw c bd)::(T++[some [.int .i64 4,.int .i64 10,.int .i64 11]])):=
  fun T x=>iA (prim:=prim) d hp _ x [4,10,11] (by simp) 3 rfl _ _ (ij rfl)
 have hO3:∀ (T:Heap) (x:Int),af md (K prim (d+1)) ⟨0,[],0⟩ 123 [.int .i64 x,.sl (T.length+1) 0 3 3 1] (some (scC raw c bd)::(T++[some [.int .i64 13,.int .i64 15,.int .i64 16]]))=some (.bool (decide (x∈[13,15,16])),some (scC raw c bd)::(T++[some [.int .i64 13,.int .i64 15,.int .i64 16]])):=
  fun T x=>iA (prim:=prim) d hp _ x [13,15,16] (by simp) 3 rfl _ _ (ij rfl)
 have hO4:∀ (T:Heap) (x:Int),af md (K prim (d+1)) ⟨0,[],0⟩ 123 [.int .i64 x,.sl (T.length+1) 0 3 3 1] (some (scC raw c bd)::(T++[some [.int .i64 17,.int .i64 11,.int .i64 16]]))=some (.bool (decide (x∈[17,11,16])),some (scC raw c bd)::(T++[some [.int .i64 17,.int .i64 11,.int .i64 16]])):=
  fun T x=>iA (prim:=prim) d hp _ x [17,11,16] (by simp) 3 rfl _ _ (ij rfl)
 have hO5:∀ (T:Heap) (x:Int),af md (K prim (d+1)) ⟨0,[],0⟩ 123 [.int .i64 x,.sl (T.length+1) 0 2 2 1] (some (scC raw c bd)::(T++[some [.int .i64 0,.int .i64 16]]))=some (.bool (decide (x∈[0,16])),some (scC raw c bd)::(T++[some [.int .i64 0,.int .i64 16]])):=
  fun T x=>iA (prim:=prim) d hp _ x [0,16] (by simp) 2 rfl _ _ (ij rfl)
 have hO6:∀ (T:Heap) (x:Int),af md (K prim (d+1)) ⟨0,[],0⟩ 123 [.int .i64 x,.sl (T.length+1) 0 2 2 1] (some (scC raw c bd)::(T++[some [.int .i64 0,.int .i64 17]]))=some (.bool (decide (x∈[0,17])),some (scC raw c bd)::(T++[some [.int .i64 0,.int .i64 17]])):=
  fun T x=>iA (prim:=prim) d hp _ x [0,17] (by simp) 2 rfl _ _ (ij rfl)
 have hS:=fun cfg h k=>AO (prim:=prim) d hp cfg h raw c bd (by omega) (q+1) (by omega) k
 have hR:=fun cfg h=>vu (prim:=prim) d hp cfg h raw c bd (by omega) (q+1) (by omega)
 have e1:(((q+1:Nat)):Int)=(q:Int)+1:=by omega
 rw[e1]at hR
 simp only[e1]at hS
 have hCm:=fun cfg h x=>yg (prim:=prim) d hp cfg h x
 have hHd:=fun cfg h x=>yr (prim:=prim) d hp cfg h x
 have c0:=atI (l:=c) (i:=q) (by omega)
 have c1:=atI (l:=c) (i:=q+1) (by omega)
 have r0:=atI (l:=raw) (i:=q) (by omega)
 have r1:=atI (l:=raw) (i:=q+1) (by omega)
 have b1:=atB (l:=bd) (i:=q+1) (by omega)
 have e2:((q:Int)+1).toNat=q+1:=by omega
 have e3:(q:Int)+1-1=q:=by omega
 have l1:q+1<c.length:=by omega
 have l2:q<c.length:=by omega
 have l3:q+1<raw.length:=by omega
 have l4:q<raw.length:=by omega
 have l5:q+1<bd.length:=by omega
 simp(disch:=omega)
 refine ai 12 (by kernel_rfl) ?_
 simp +contextual (disch:=(first|omega|rfl|(simp;done)|fail)) [-ao,bM,aq,ax,bh,wrap64,-getElem?_pos,c0,c1,e2,e3]
 refine ak (fun hb=>?_) (fun hb=>?_)
 ·have hb2:lgI c q=2∧lgI c (q+1)=3:=by simpa using hb
  simp(disch:=omega)
  rw[ez,if_pos hb2]
 have hb2:¬ (lgI c q=2∧lgI c (q+1)=3):=by simpa using hb
 have hE0:ez raw c bd q=bf3 raw c bd q:=by rw[ez,if_neg hb2]
 clear hb hb2
 have h0:∃ T:Heap,[some (scC raw c bd)]=some (scC raw c bd)::T:=⟨_,rfl⟩
 obtain⟨T,hT⟩:=h0
 rw[hT]
 clear hT
 -- stage 1
 refine cP (fun fr2 H2=>(∃ T:Heap,H2=some (scC raw c bd)::T)∧Slots 175 [(1,.int .i64 ((q:Int)+1)),(2,.ptr 0 0),(5,.int .i64 (lgI c q)),(6,.int .i64 (lgI c (q+1))),(7,.func (.func 123) [] []),(26,.bool (decide (lgI c q∈[1,3,2])))] fr2) ?_ ?_
 ·(simp(disch:=(first|omega|rfl|(simp;done)|fail)) [-ao,-getElem?_pos,hO0];exact bx ⟨⟨_,rfl⟩,by simp⟩)
 rintro _ _ ⟨⟨T,rfl⟩,hs⟩
 obtain⟨j,rfl⟩:=hs.ex
 clear hs
 refine cg (z:=decide (lgI c q∈[1,3,2])) (by simp) (fun hb=>?_) (fun hb=>?_)
 ·have hb2:=of_decide_eq_true hb
  simp(disch:=omega)
  rw[hE0,bf3,if_pos hb2]
 have hb2:¬ (lgI c q∈[1,3,2]):=of_decide_eq_false hb
 have hE1:ez raw c bd q=bf4 raw c bd q:=by rw[hE0,bf3,if_neg hb2]
 clear hb2 hb
 -- stage 2
 refine cP (fun fr2 H2=>(∃ T:Heap,H2=some (scC raw c bd)::T)∧Slots 175 [(1,.int .i64 ((q:Int)+1)),(2,.ptr 0 0),(5,.int .i64 (lgI c q)),(6,.int .i64 (lgI c (q+1))),(7,.func (.func 123) [] []),(31,.bool (decide (lgI c (q+1)∈[1,2,3,4,5])))] fr2) ?_ ?_
 ·(simp(disch:=(first|omega|rfl|(simp;done)|fail)) [-ao,-getElem?_pos,hO1];exact bx ⟨⟨_,rfl⟩,by simp⟩)
 rintro _ _ ⟨⟨T,rfl⟩,hs⟩
 obtain⟨j,rfl⟩:=hs.ex
 clear hs
 refine cg (z:=decide (lgI c (q+1)∈[1,2,3,4,5])) (by simp) (fun hb=>?_) (fun hb=>?_)
 ·have hb2:=of_decide_eq_true hb
  simp(disch:=omega)
  rw[hE1,bf4,if_pos hb2]
 have hb2:¬ (lgI c (q+1)∈[1,2,3,4,5]):=of_decide_eq_false hb
 have hE2:ez raw c bd q=bf5 raw c bd q:=by rw[hE1,bf4,if_neg hb2]
 clear hb2 hb
 -- stage 3
 refine cP (fun fr2 H2=>(∃ T:Heap,H2=some (scC raw c bd)::T)∧Slots 175 [(1,.int .i64 ((q:Int)+1)),(2,.ptr 0 0),(5,.int .i64 (lgI c q)),(6,.int .i64 (lgI c (q+1))),(7,.func (.func 123) [] []),(36,.bool (decide (lgB bd (q+1)=false)))] fr2) ?_ ?_
 ·(simp(disch:=(first|omega|rfl|(simp;done)|fail)) [-ao,-getElem?_pos,b1,e2];exact bx ⟨⟨_,rfl⟩,by simp⟩)
 rintro _ _ ⟨⟨T,rfl⟩,hs⟩
 obtain⟨j,rfl⟩:=hs.ex
 clear hs
 refine cg (z:=decide (lgB bd (q+1)=false)) (by simp) (fun hb=>?_) (fun hb=>?_)
 ·have hb2:=of_decide_eq_true hb
  simp(disch:=omega)
  rw[hE2,bf5,if_pos hb2]
 have hb2:¬ (lgB bd (q+1)=false):=of_decide_eq_false hb
 have hE3:ez raw c bd q=bf6 raw c bd q:=by rw[hE2,bf5,if_neg hb2]
 clear hb2 hb
 -- stage 4
 refine cP (fun fr2 H2=>(∃ T:Heap,H2=some (scC raw c bd)::T)∧Slots 175 [(1,.int .i64 ((q:Int)+1)),(2,.ptr 0 0),(5,.int .i64 (lgI c q)),(6,.int .i64 (lgI c (q+1))),(7,.func (.func 123) [] []),(43,.bool (decide (spS c 5 (q+1)=true)))] fr2) ?_ ?_
 ·(simp(disch:=(first|omega|rfl|(simp;done)|fail)) [-ao,-getElem?_pos,hS];exact bx ⟨⟨_,rfl⟩,by simp⟩)
 rintro _ _ ⟨⟨T,rfl⟩,hs⟩
 obtain⟨j,rfl⟩:=hs.ex
 clear hs
 refine cg (z:=decide (spS c 5 (q+1)=true)) (by simp) (fun hb=>?_) (fun hb=>?_)
 ·have hb2:=of_decide_eq_true hb
  simp(disch:=omega)
  rw[hE3,bf6,if_pos hb2]
 have hb2:¬ (spS c 5 (q+1)=true):=of_decide_eq_false hb
 have hE4:ez raw c bd q=bf7 raw c bd q:=by rw[hE3,bf6,if_neg hb2]
 clear hb2 hb
 -- stage 5
 refine cP (fun fr2 H2=>(∃ T:Heap,H2=some (scC raw c bd)::T)∧Slots 175 [(1,.int .i64 ((q:Int)+1)),(2,.ptr 0 0),(5,.int .i64 (lgI c q)),(6,.int .i64 (lgI c (q+1))),(7,.func (.func 123) [] []),(47,.bool (decide (lgI raw q=6)))] fr2) ?_ ?_
 ·(simp(disch:=(first|omega|rfl|(simp;done)|fail)) [-ao,wrap64,-getElem?_pos,r0,e3];exact bx ⟨⟨_,rfl⟩,by simp⟩)
 rintro _ _ ⟨⟨T,rfl⟩,hs⟩
 obtain⟨j,rfl⟩:=hs.ex
 clear hs
 refine cg (z:=decide (lgI raw q=6)) (by simp) (fun hb=>?_) (fun hb=>?_)
 ·have hb2:=of_decide_eq_true hb
  simp(disch:=omega)
  rw[hE4,bf7,if_pos hb2]
 have hb2:¬ (lgI raw q=6):=of_decide_eq_false hb
 have hE5:ez raw c bd q=bf8 raw c bd q:=by rw[hE4,bf7,if_neg hb2]
 clear hb2 hb
 -- stage 6
 refine cP (fun fr2 H2=>(∃ T:Heap,H2=some (scC raw c bd)::T)∧Slots 175 [(1,.int .i64 ((q:Int)+1)),(2,.ptr 0 0),(5,.int .i64 (lgI c q)),(6,.int .i64 (lgI c (q+1))),(7,.func (.func 123) [] []),(55,.bool (decide (cmS (lgI raw (q+1))=true∧hrS (lgI c q)=false)))] fr2) ?_ ?_
 ·by_cases k0:cmS (lgI raw (q+1))=true<;>(simp(disch:=(first|omega|rfl|(simp;done)|fail)) [-ao,bM,aq,cC,ax,cn,-getElem?_pos,r1,e2,hCm,hHd,k0];exact bx ⟨⟨_,rfl⟩,by simp[k0]⟩)
 rintro _ _ ⟨⟨T,rfl⟩,hs⟩
 obtain⟨j,rfl⟩:=hs.ex
 clear hs
 refine cg (z:=decide (cmS (lgI raw (q+1))=true∧hrS (lgI c q)=false)) (by simp) (fun hb=>?_) (fun hb=>?_)
 ·have hb2:=of_decide_eq_true hb
  simp(disch:=omega)
  rw[hE5,bf8,if_pos hb2]
 have hb2:¬ (cmS (lgI raw (q+1))=true∧hrS (lgI c q)=false):=of_decide_eq_false hb
 have hE6:ez raw c bd q=bf9 raw c bd q:=by rw[hE5,bf8,if_neg hb2]
 clear hb2 hb
 -- stage 7
 refine cP (fun fr2 H2=>(∃ T:Heap,H2=some (scC raw c bd)::T)∧Slots 175 [(1,.int .i64 ((q:Int)+1)),(2,.ptr 0 0),(5,.int .i64 (lgI c q)),(6,.int .i64 (lgI c (q+1))),(7,.func (.func 123) [] []),(67,.bool (decide (lgI c q=8∨lgI c (q+1)=8∨lgI c q=9)))] fr2) ?_ ?_
 ·by_cases k0:lgI c q=8<;>by_cases k1:lgI c (q+1)=8<;>by_cases k2:lgI c q=9<;>(simp(disch:=(first|omega|rfl|(simp;done)|fail)) [-ao,-getElem?_pos,k0,k1,k2];exact bx ⟨⟨_,rfl⟩,by simp[k0,k1,k2]⟩)
 rintro _ _ ⟨⟨T,rfl⟩,hs⟩
 obtain⟨j,rfl⟩:=hs.ex
 clear hs
 refine cg (z:=decide (lgI c q=8∨lgI c (q+1)=8∨lgI c q=9)) (by simp) (fun hb=>?_) (fun hb=>?_)
 ·have hb2:=of_decide_eq_true hb
  simp(disch:=omega)
  rw[hE6,bf9,if_pos hb2]
 have hb2:¬ (lgI c q=8∨lgI c (q+1)=8∨lgI c q=9):=of_decide_eq_false hb
 have hE7:ez raw c bd q=bfA raw c bd q:=by rw[hE6,bf9,if_neg hb2]
 clear hb2 hb
 -- stage 8
 refine cP (fun fr2 H2=>(∃ T:Heap,H2=some (scC raw c bd)::T)∧Slots 175 [(1,.int .i64 ((q:Int)+1)),(2,.ptr 0 0),(5,.int .i64 (lgI c q)),(6,.int .i64 (lgI c (q+1))),(7,.func (.func 123) [] []),(74,.bool (decide (lgI c (q+1)=9∧lgI c q ∉ [4,10,11])))] fr2) ?_ ?_
 ·by_cases k0:lgI c (q+1)=9<;>(simp(disch:=(first|omega|rfl|(simp;done)|fail)) [-ao,bM,aq,vS,cC,ax,cn,-getElem?_pos,hO2,k0];exact bx ⟨⟨_,rfl⟩,by simp[k0]⟩)
 rintro _ _ ⟨⟨T,rfl⟩,hs⟩
 obtain⟨j,rfl⟩:=hs.ex
 clear hs
 refine cg (z:=decide (lgI c (q+1)=9∧lgI c q ∉ [4,10,11])) (by simp) (fun hb=>?_) (fun hb=>?_)
 ·have hb2:=of_decide_eq_true hb
  simp(disch:=omega)
  rw[hE7,bfA,if_pos hb2]
 have hb2:¬ (lgI c (q+1)=9∧lgI c q ∉ [4,10,11]):=of_decide_eq_false hb
 have hE8:ez raw c bd q=bfB raw c bd q:=by rw[hE7,bfA,if_neg hb2]
 clear hb2 hb
 -- stage 9
 refine cP (fun fr2 H2=>(∃ T:Heap,H2=some (scC raw c bd)::T)∧Slots 175 [(1,.int .i64 ((q:Int)+1)),(2,.ptr 0 0),(5,.int .i64 (lgI c q)),(6,.int .i64 (lgI c (q+1))),(7,.func (.func 123) [] []),(84,.bool (decide (lgI c (q+1)∈[13,15,16])))] fr2) ?_ ?_
 ·(simp(disch:=(first|omega|rfl|(simp;done)|fail)) [-ao,-getElem?_pos,hO3];exact bx ⟨⟨_,rfl⟩,by simp⟩)
 rintro _ _ ⟨⟨T,rfl⟩,hs⟩
 obtain⟨j,rfl⟩:=hs.ex
 clear hs
 refine cg (z:=decide (lgI c (q+1)∈[13,15,16])) (by simp) (fun hb=>?_) (fun hb=>?_)
 ·have hb2:=of_decide_eq_true hb
  simp(disch:=omega)
  rw[hE8,bfB,if_pos hb2]
 have hb2:¬ (lgI c (q+1)∈[13,15,16]):=of_decide_eq_false hb
 have hE9:ez raw c bd q=bfC raw c bd q:=by rw[hE8,bfB,if_neg hb2]
 clear hb2 hb
 -- stage 10
 refine cP (fun fr2 H2=>(∃ T:Heap,H2=some (scC raw c bd)::T)∧Slots 175 [(1,.int .i64 ((q:Int)+1)),(2,.ptr 0 0),(5,.int .i64 (lgI c q)),(6,.int .i64 (lgI c (q+1))),(7,.func (.func 123) [] []),(89,.bool (decide (spS c 12 (q+1)=true∨(lgI c (q+1)=12∧spS c 14 (q+1)=true))))] fr2) ?_ ?_
 ·by_cases k0:spS c 12 (q+1)=true<;>by_cases k1:lgI c (q+1)=12<;>(simp(disch:=(first|omega|rfl|(simp;done)|fail)) [-ao,bM,aq,cC,ax,cn,-getElem?_pos,hS,k0,k1];exact bx ⟨⟨_,rfl⟩,by simp[k0,k1]⟩)
 rintro _ _ ⟨⟨T,rfl⟩,hs⟩
 obtain⟨j,rfl⟩:=hs.ex
 clear hs
 refine cg (z:=decide (spS c 12 (q+1)=true∨(lgI c (q+1)=12∧spS c 14 (q+1)=true))) (by simp) (fun hb=>?_) (fun hb=>?_)
 ·have hb2:=of_decide_eq_true hb
  simp(disch:=omega)
  rw[hE9,bfC,if_pos hb2]
 have hb2:¬ (spS c 12 (q+1)=true∨(lgI c (q+1)=12∧spS c 14 (q+1)=true)):=of_decide_eq_false hb
 have hE10:ez raw c bd q=bfD raw c bd q:=by rw[hE9,bfC,if_neg hb2]
 clear hb2 hb
 -- stage 11
 refine cP (fun fr2 H2=>(∃ T:Heap,H2=some (scC raw c bd)::T)∧Slots 175 [(1,.int .i64 ((q:Int)+1)),(2,.ptr 0 0),(5,.int .i64 (lgI c q)),(6,.int .i64 (lgI c (q+1))),(7,.func (.func 123) [] []),(100,.bool (decide (lgI c q=4)))] fr2) ?_ ?_
 ·(simp(disch:=(first|omega|rfl|(simp;done)|fail)) [-ao,-getElem?_pos];exact bx ⟨⟨_,rfl⟩,by simp⟩)
 rintro _ _ ⟨⟨T,rfl⟩,hs⟩
 obtain⟨j,rfl⟩:=hs.ex
 clear hs
 refine cg (z:=decide (lgI c q=4)) (by simp) (fun hb=>?_) (fun hb=>?_)
 ·have hb2:=of_decide_eq_true hb
  simp(disch:=omega)
  rw[hE10,bfD,if_pos hb2]
 have hb2:¬ (lgI c q=4):=of_decide_eq_false hb
 have hE11:ez raw c bd q=bfE raw c bd q:=by rw[hE10,bfD,if_neg hb2]
 clear hb2 hb
 -- stage 12
 refine cP (fun fr2 H2=>(∃ T:Heap,H2=some (scC raw c bd)::T)∧Slots 175 [(1,.int .i64 ((q:Int)+1)),(2,.ptr 0 0),(5,.int .i64 (lgI c q)),(6,.int .i64 (lgI c (q+1))),(7,.func (.func 123) [] []),(103,.bool (decide (lgI c q=14∨lgI c (q+1)=14∨lgI c (q+1)=10∨lgI c (q+1)=11)))] fr2) ?_ ?_
 ·by_cases k0:lgI c q=14<;>by_cases k1:lgI c (q+1)=14<;>by_cases k2:lgI c (q+1)=10<;>by_cases k3:lgI c (q+1)=11<;>(simp(disch:=(first|omega|rfl|(simp;done)|fail)) [-ao,-getElem?_pos,k0,k1,k2,k3];exact bx ⟨⟨_,rfl⟩,by simp[k0,k1,k2,k3]⟩)
 rintro _ _ ⟨⟨T,rfl⟩,hs⟩
 obtain⟨j,rfl⟩:=hs.ex
 clear hs
 refine cg (z:=decide (lgI c q=14∨lgI c (q+1)=14∨lgI c (q+1)=10∨lgI c (q+1)=11)) (by simp) (fun hb=>?_) (fun hb=>?_)
 ·have hb2:=of_decide_eq_true hb
  simp(disch:=omega)
  rw[hE11,bfE,if_pos hb2]
 have hb2:¬ (lgI c q=14∨lgI c (q+1)=14∨lgI c (q+1)=10∨lgI c (q+1)=11):=of_decide_eq_false hb
 have hE12:ez raw c bd q=bfF raw c bd q:=by rw[hE11,bfE,if_neg hb2]
 clear hb2 hb
 -- stage 13
 refine cP (fun fr2 H2=>(∃ T:Heap,H2=some (scC raw c bd)::T)∧Slots 175 [(1,.int .i64 ((q:Int)+1)),(2,.ptr 0 0),(5,.int .i64 (lgI c q)),(6,.int .i64 (lgI c (q+1))),(7,.func (.func 123) [] []),(112,.bool (decide ((lgI c q=0∧lgI c (q+1)=17)∨(lgI c q=17∧lgI c (q+1)=0))))] fr2) ?_ ?_
 ·by_cases k0:lgI c q=0<;>by_cases k1:lgI c (q+1)=17<;>by_cases k2:lgI c q=17<;>by_cases k3:lgI c (q+1)=0<;>(simp(disch:=(first|omega|rfl|(simp;done)|fail)) [-ao,bM,aq,cC,ax,cn,-getElem?_pos,k0,k1,k2,k3];exact bx ⟨⟨_,rfl⟩,by simp[k0,k1,k2,k3]⟩)
 rintro _ _ ⟨⟨T,rfl⟩,hs⟩
 obtain⟨j,rfl⟩:=hs.ex
 clear hs
 refine cg (z:=decide ((lgI c q=0∧lgI c (q+1)=17)∨(lgI c q=17∧lgI c (q+1)=0))) (by simp) (fun hb=>?_) (fun hb=>?_)
 ·have hb2:=of_decide_eq_true hb
  simp(disch:=omega)
  rw[hE12,bfF,if_pos hb2]
 have hb2:¬ ((lgI c q=0∧lgI c (q+1)=17)∨(lgI c q=17∧lgI c (q+1)=0)):=of_decide_eq_false hb
 have hE13:ez raw c bd q=bfG raw c bd q:=by rw[hE12,bfF,if_neg hb2]
 clear hb2 hb
 -- stage 14
 refine cP (fun fr2 H2=>(∃ T:Heap,H2=some (scC raw c bd)::T)∧Slots 175 [(1,.int .i64 ((q:Int)+1)),(2,.ptr 0 0),(5,.int .i64 (lgI c q)),(6,.int .i64 (lgI c (q+1))),(7,.func (.func 123) [] []),(125,.bool (decide (lgI c q∈[17,11,16]∧lgI c (q+1)=17)))] fr2) ?_ ?_
 ·by_cases k0:lgI c q∈[17,11,16]<;>(simp(disch:=(first|omega|rfl|(simp;done)|fail)) [-ao,bM,aq,cC,ax,cn,-getElem?_pos,hO4,k0];exact bx ⟨⟨_,rfl⟩,by simp[k0]⟩)
 rintro _ _ ⟨⟨T,rfl⟩,hs⟩
 obtain⟨j,rfl⟩:=hs.ex
 clear hs
 refine cg (z:=decide (lgI c q∈[17,11,16]∧lgI c (q+1)=17)) (by simp) (fun hb=>?_) (fun hb=>?_)
 ·have hb2:=of_decide_eq_true hb
  simp(disch:=omega)
  rw[hE13,bfG,if_pos hb2]
 have hb2:¬ (lgI c q∈[17,11,16]∧lgI c (q+1)=17):=of_decide_eq_false hb
 have hE14:ez raw c bd q=bfH raw c bd q:=by rw[hE13,bfG,if_neg hb2]
 clear hb2 hb
 -- stage 15
 refine cP (fun fr2 H2=>(∃ T:Heap,H2=some (scC raw c bd)::T)∧Slots 175 [(1,.int .i64 ((q:Int)+1)),(2,.ptr 0 0),(5,.int .i64 (lgI c q)),(6,.int .i64 (lgI c (q+1))),(7,.func (.func 123) [] []),(134,.bool (decide (lgI c q∈[0,16]∧lgI c (q+1)=0)))] fr2) ?_ ?_
 ·by_cases k0:lgI c q∈[0,16]<;>(simp(disch:=(first|omega|rfl|(simp;done)|fail)) [-ao,bM,aq,cC,ax,cn,-getElem?_pos,hO5,k0];exact bx ⟨⟨_,rfl⟩,by simp[k0]⟩)
 rintro _ _ ⟨⟨T,rfl⟩,hs⟩
 obtain⟨j,rfl⟩:=hs.ex
 clear hs
 refine cg (z:=decide (lgI c q∈[0,16]∧lgI c (q+1)=0)) (by simp) (fun hb=>?_) (fun hb=>?_)
 ·have hb2:=of_decide_eq_true hb
  simp(disch:=omega)
  rw[hE14,bfH,if_pos hb2]
 have hb2:¬ (lgI c q∈[0,16]∧lgI c (q+1)=0):=of_decide_eq_false hb
 have hE15:ez raw c bd q=bfI raw c bd q:=by rw[hE14,bfH,if_neg hb2]
 clear hb2 hb
 -- stage 16
 refine cP (fun fr2 H2=>(∃ T:Heap,H2=some (scC raw c bd)::T)∧Slots 175 [(1,.int .i64 ((q:Int)+1)),(2,.ptr 0 0),(5,.int .i64 (lgI c q)),(6,.int .i64 (lgI c (q+1))),(7,.func (.func 123) [] []),(143,.bool (decide (lgI c q∈[0,17]∧lgI c (q+1)=12)))] fr2) ?_ ?_
 ·by_cases k0:lgI c q∈[0,17]<;>(simp(disch:=(first|omega|rfl|(simp;done)|fail)) [-ao,bM,aq,cC,ax,cn,-getElem?_pos,hO6,k0];exact bx ⟨⟨_,rfl⟩,by simp[k0]⟩)
 rintro _ _ ⟨⟨T,rfl⟩,hs⟩
 obtain⟨j,rfl⟩:=hs.ex
 clear hs
 refine cg (z:=decide (lgI c q∈[0,17]∧lgI c (q+1)=12)) (by simp) (fun hb=>?_) (fun hb=>?_)
 ·have hb2:=of_decide_eq_true hb
  simp(disch:=omega)
  rw[hE15,bfI,if_pos hb2]
 have hb2:¬ (lgI c q∈[0,17]∧lgI c (q+1)=12):=of_decide_eq_false hb
 have hE16:ez raw c bd q=bfJ raw c bd q:=by rw[hE15,bfI,if_neg hb2]
 clear hb2 hb
 -- stage 17
 refine cP (fun fr2 H2=>(∃ T:Heap,H2=some (scC raw c bd)::T)∧Slots 175 [(1,.int .i64 ((q:Int)+1)),(2,.ptr 0 0),(5,.int .i64 (lgI c q)),(6,.int .i64 (lgI c (q+1))),(7,.func (.func 123) [] []),(152,.bool (decide (lgI c q=13∧lgI c (q+1)∈[0,17])))] fr2) ?_ ?_
 ·by_cases k0:lgI c q=13<;>(simp(disch:=(first|omega|rfl|(simp;done)|fail)) [-ao,bM,aq,vS,cC,ax,cn,-getElem?_pos,hO6,k0];exact bx ⟨⟨_,rfl⟩,by simp[k0]⟩)
 rintro _ _ ⟨⟨T,rfl⟩,hs⟩
 obtain⟨j,rfl⟩:=hs.ex
 clear hs
 refine cg (z:=decide (lgI c q=13∧lgI c (q+1)∈[0,17])) (by simp) (fun hb=>?_) (fun hb=>?_)
 ·have hb2:=of_decide_eq_true hb
  simp(disch:=omega)
  rw[hE16,bfJ,if_pos hb2]
 have hb2:¬ (lgI c q=13∧lgI c (q+1)∈[0,17]):=of_decide_eq_false hb
 have hE17:ez raw c bd q=bfK raw c bd q:=by rw[hE16,bfJ,if_neg hb2]
 clear hb2 hb
 -- stage 18
 refine cP (fun fr2 H2=>(∃ T:Heap,H2=some (scC raw c bd)::T)∧Slots 175 [(1,.int .i64 ((q:Int)+1)),(2,.ptr 0 0),(5,.int .i64 (lgI c q)),(6,.int .i64 (lgI c (q+1))),(7,.func (.func 123) [] []),(161,.bool (decide (lgI raw (q+1)=19∧((rgS raw (q+1):Nat):Int).tmod 2=1)))] fr2) ?_ ?_
 ·by_cases k0:lgI raw (q+1)=19<;>(simp(disch:=(first|omega|rfl|(simp;done)|fail)) [-ao,bM,aq,cC,ax,cn,-getElem?_pos,r1,e2,hR,k0];exact bx ⟨⟨_,rfl⟩,by simp[k0]⟩)
 rintro _ _ ⟨⟨T,rfl⟩,hs⟩
 obtain⟨j,rfl⟩:=hs.ex
 clear hs
 refine cg (z:=decide (lgI raw (q+1)=19∧((rgS raw (q+1):Nat):Int).tmod 2=1)) (by simp) (fun hb=>?_) (fun hb=>?_)
 ·have hb2:=of_decide_eq_true hb
  simp(disch:=omega)
  rw[hE17,bfK,if_pos hb2]
 have hb2:¬ (lgI raw (q+1)=19∧((rgS raw (q+1):Nat):Int).tmod 2=1):=of_decide_eq_false hb
 simp(disch:=omega)
 rw[hE17,bfK,if_neg hb2]
end
end Bi
end Go.Ab
