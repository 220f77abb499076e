/- The program: where lines may end, exactly. -/
import Derived.Test.YtoappddifbgegaaGreatPaLc
set_option linter.all false
set_option maxHeartbeats 16000000
set_option maxRecDepth 100000
namespace Go.Ab
open Go.Proofs
namespace Bi
attribute [local congr] az
def bfK(raw c:List Int)(bd:List Bool)(q:Nat):Int:=if lgI raw (q+1)=19/\((rgS raw (q+1):Nat):Int).tmod 2=1 then 0 else 1
def bfJ(raw c:List Int)(bd:List Bool)(q:Nat):Int:=if lgI c q=13/\lgI c (q+1)∈[0,17] then 0 else bfK raw c bd q
def bfI(raw c:List Int)(bd:List Bool)(q:Nat):Int:=if lgI c q∈[0,17]/\lgI c (q+1)=12 then 0 else bfJ raw c bd q
def bfH(raw c:List Int)(bd:List Bool)(q:Nat):Int:=if lgI c q∈[0,16]/\lgI c (q+1)=0 then 0 else bfI raw c bd q
def bfG(raw c:List Int)(bd:List Bool)(q:Nat):Int:=if lgI c q∈[17,11,16]/\lgI c (q+1)=17 then 0 else bfH raw c bd q
def bfF(raw c:List Int)(bd:List Bool)(q:Nat):Int:=if (lgI c q=0/\lgI c (q+1)=17)\/(lgI c q=17/\lgI c (q+1)=0) then 0 else bfG raw c bd q
def bfE(raw c:List Int)(bd:List Bool)(q:Nat):Int:=if lgI c q=14\/lgI c (q+1)=14\/lgI c (q+1)=10\/lgI c (q+1)=11 then 0 else bfF raw c bd q
def bfD(raw c:List Int)(bd:List Bool)(q:Nat):Int:=if lgI c q=4 then 1 else bfE raw c bd q
def bfC(raw c:List Int)(bd:List Bool)(q:Nat):Int:=if spS c 12 (q+1)=true\/(lgI c (q+1)=12/\spS c 14 (q+1)=true) then 0 else bfD raw c bd q
def bfB(raw c:List Int)(bd:List Bool)(q:Nat):Int:=if lgI c (q+1)∈[13,15,16] then 0 else bfC raw c bd q
def bfA(raw c:List Int)(bd:List Bool)(q:Nat):Int:=if lgI c (q+1)=9/\lgI c q ∉ [4,10,11] then 0 else bfB raw c bd q
def bf9(raw c:List Int)(bd:List Bool)(q:Nat):Int:=if lgI c q=8\/lgI c (q+1)=8\/lgI c q=9 then 0 else bfA raw c bd q
def bf8(raw c:List Int)(bd:List Bool)(q:Nat):Int:=if cmS (lgI raw (q+1))=true/\hrS (lgI c q)=false then 0 else bf9 raw c bd q
def bf7(raw c:List Int)(bd:List Bool)(q:Nat):Int:=if lgI raw q=6 then 0 else bf8 raw c bd q
def bf6(raw c:List Int)(bd:List Bool)(q:Nat):Int:=if spS c 5 (q+1)=true then 1 else bf7 raw c bd q
def bf5(raw c:List Int)(bd:List Bool)(q:Nat):Int:=if lgB bd (q+1)=false then 0 else bf6 raw c bd q
def bf4(raw c:List Int)(bd:List Bool)(q:Nat):Int:=if lgI c (q+1)∈[1,2,3,4,5] then 0 else bf5 raw c bd q
def bf3(raw c:List Int)(bd:List Bool)(q:Nat):Int:=if lgI c q∈[1,3,2] then 2 else bf4 raw c bd q
def fZ(raw c:List Int)(bd:List Bool)(q:Nat):Int:=if lgI c q=2/\lgI c (q+1)=3 then 0 else bf3 raw c bd q
section
variable {P:Program}{md:FuncId->Nat}{call:aF}{cfg:Cfg}{n:Nat}
theorem cb{z:Bool}{c:Operand}{t e:Code}{fr:List V}{h:Heap}{Q:dI}(h1:ev fr c=some (.bool z))(ht:z=true->@wC P md call cfg n ⟨t⟩ fr h ⟨Q⟩)(hf:z=false->@wC P md call cfg n ⟨e⟩ fr h ⟨Q⟩):@wC P md call cfg n ⟨.cond c t e⟩ fr h ⟨Q⟩:=by
 rw[G6,h1,G5];exact ar ht hf
end
section
variable {prim:FuncId->Option Prim}(d:Nat)
theorem iA{S:Option (List V)}{T:Heap}{cs:List V}(hm:isMap cs=false):ab (S::(T++[some cs])) (T.length+1)=some cs:=by
 simp[ab,hm]
theorem iQ(hp:∀ f,Np5 f->prim f=none)(cfg:Cfg)(x:Int)(l:List Int)(hl:l.length<=100)(n:Nat)(hn:n=l.length)(H:Heap)(b:Nat)(hb:ab H b=some (l.map (V.int .i64))):
  af md (K prim (d+1)) cfg 269 [.int .i64 x,.sl b 0 n n 1] H=some (.bool (decide (x∈l)),H):=by
 subst hn;exact Jn d hp cfg x l hl H b hb
theorem AU(hp:∀ f,Np5 f->prim f=none)(n:Nat)(hn:n<=2000)(raw c:List Int)(bd:List Bool)(hr:raw.length=n)(hc:c.length=n)(hK:bd.length=n+1)(q:Nat)(hq:q+1<n)(cfg:Cfg)(h:Heap):
  af md (K prim (d+2)) cfg 233 [.agg (scC raw c bd),.int .i64 ((q:Int)+1)] h=some (.int .i64 (fZ raw c bd q),h):=by
 refine aP rfl (hp 233 (by decide)) Tryz.func233 rfl rfl rfl (by simp) ?_;have hz:∀ (T:Heap) (x:Int),af md (K prim (d+1)) ⟨0,[],0⟩ 269 [.int .i64 x,.sl (T.length+1) 0 3 3 1] (some (scC raw c bd)::(T++[some [.int .i64 1,.int .i64 3,.int .i64 2]]))=some (.bool (decide (x∈[1,3,2])),some (scC raw c bd)::(T++[some [.int .i64 1,.int .i64 3,.int .i64 2]])):=
  fun T x=>iQ (prim:=prim) d hp _ x [1,3,2] (by simp) 3 rfl _ _ (iA rfl)
 have hA:∀ (T:Heap) (x:Int),af md (K prim (d+1)) ⟨0,[],0⟩ 269 [.int .i64 x,.sl (T.length+1) 0 5 5 1] (some (scC raw c bd)::(T++[some [.int .i64 1,.int .i64 2,.int .i64 3,.int .i64 4,.int .i64 5]]))=some (.bool (decide (x∈[1,2,3,4,5])),some (scC raw c bd)::(T++[some [.int .i64 1,.int .i64 2,.int .i64 3,.int .i64 4,.int .i64 5]])):=
  fun T x=>iQ (prim:=prim) d hp _ x [1,2,3,4,5] (by simp) 5 rfl _ _ (iA rfl)
 have hD:∀ (T:Heap) (x:Int),af md (K prim (d+1)) ⟨0,[],0⟩ 269 [.int .i64 x,.sl (T.length+1) 0 3 3 1] (some (scC raw c bd)::(T++[some [.int .i64 4,.int .i64 10,.int .i64 11]]))=some (.bool (decide (x∈[4,10,11])),some (scC raw c bd)::(T++[some [.int .i64 4,.int .i64 10,.int .i64 11]])):=
  fun T x=>iQ (prim:=prim) d hp _ x [4,10,11] (by simp) 3 rfl _ _ (iA rfl)
 have hE:∀ (T:Heap) (x:Int),af md (K prim (d+1)) ⟨0,[],0⟩ 269 [.int .i64 x,.sl (T.length+1) 0 3 3 1] (some (scC raw c bd)::(T++[some [.int .i64 13,.int .i64 15,.int .i64 16]]))=some (.bool (decide (x∈[13,15,16])),some (scC raw c bd)::(T++[some [.int .i64 13,.int .i64 15,.int .i64 16]])):=
  fun T x=>iQ (prim:=prim) d hp _ x [13,15,16] (by simp) 3 rfl _ _ (iA rfl)
 have hF:∀ (T:Heap) (x:Int),af md (K prim (d+1)) ⟨0,[],0⟩ 269 [.int .i64 x,.sl (T.length+1) 0 3 3 1] (some (scC raw c bd)::(T++[some [.int .i64 17,.int .i64 11,.int .i64 16]]))=some (.bool (decide (x∈[17,11,16])),some (scC raw c bd)::(T++[some [.int .i64 17,.int .i64 11,.int .i64 16]])):=
  fun T x=>iQ (prim:=prim) d hp _ x [17,11,16] (by simp) 3 rfl _ _ (iA rfl)
 have hH:∀ (T:Heap) (x:Int),af md (K prim (d+1)) ⟨0,[],0⟩ 269 [.int .i64 x,.sl (T.length+1) 0 2 2 1] (some (scC raw c bd)::(T++[some [.int .i64 0,.int .i64 16]]))=some (.bool (decide (x∈[0,16])),some (scC raw c bd)::(T++[some [.int .i64 0,.int .i64 16]])):=
  fun T x=>iQ (prim:=prim) d hp _ x [0,16] (by simp) 2 rfl _ _ (iA rfl)
 have hf:∀ (T:Heap) (x:Int),af md (K prim (d+1)) ⟨0,[],0⟩ 269 [.int .i64 x,.sl (T.length+1) 0 2 2 1] (some (scC raw c bd)::(T++[some [.int .i64 0,.int .i64 17]]))=some (.bool (decide (x∈[0,17])),some (scC raw c bd)::(T++[some [.int .i64 0,.int .i64 17]])):=
  fun T x=>iQ (prim:=prim) d hp _ x [0,17] (by simp) 2 rfl _ _ (iA rfl)
 have hS:=fun cfg h k=>B3 (prim:=prim) d hp cfg h raw c bd (by omega) (q+1) (by omega) k;have hR:=fun cfg h=>wJ (prim:=prim) d hp cfg h raw c bd (by omega) (q+1) (by omega);have e1:(((q+1:Nat)):Int)=(q:Int)+1:=by omega
 rw[e1]at hR;simp only[e1]at hS;have hI:=fun cfg h x=>zu (prim:=prim) d hp cfg h x;have hJ:=fun cfg h x=>zH (prim:=prim) d hp cfg h x;have c0:=atI (l:=c) (i:=q) (by omega);have c1:=atI (l:=c) (i:=q+1) (by omega);have r0:=atI (l:=raw) (i:=q) (by omega);have r1:=atI (l:=raw) (i:=q+1) (by omega);have b1:=atB (l:=bd) (i:=q+1) (by omega);have e2:((q:Int)+1).toNat=q+1:=by omega
 have e3:(q:Int)+1-1=q:=by omega
 have l1:q+1<c.length:=by omega
 have l2:q<c.length:=by omega
 have l3:q+1<raw.length:=by omega
 have l4:q<raw.length:=by omega
 have l5:q+1<bd.length:=by omega
 simp(disch:=omega);refine ai 12 (by kernel_rfl) ?_;simp +contextual (disch:=(first|omega|rfl|(simp;done)|fail)) [-au,cu,aw,aD,bU,wrap64,-getElem?_pos,c0,c1,e2,e3];refine ar (fun hb=>?_) (fun hb=>?_)
 ·have h3:lgI c q=2/\lgI c (q+1)=3:=by simpa using hb
  simp(disch:=omega);rw[fZ,if_pos h3]
 have h3:¬ (lgI c q=2/\lgI c (q+1)=3):=by simpa using hb
 have hg:fZ raw c bd q=bf3 raw c bd q:=by rw[fZ,if_neg h3]
 clear hb h3;have h0:∃ T:Heap,[some (scC raw c bd)]=some (scC raw c bd)::T:=⟨_,rfl⟩;obtain⟨T,hT⟩:=h0;rw[hT];clear hT
 -- stage 1
 refine cP (fun fr2 H2=>(∃ T:Heap,H2=some (scC raw c bd)::T)/\Slots 175 [(1,.int .i64 ((q:Int)+1)),(2,.ptr 0 0),(5,.int .i64 (lgI c q)),(6,.int .i64 (lgI c (q+1))),(7,.func (.func 269) [] []),(26,.bool (decide (lgI c q∈[1,3,2])))] fr2) ?_ ?_
 ·(simp(disch:=(first|omega|rfl|(simp;done)|fail)) [-au,-getElem?_pos,hz];exact bz ⟨⟨_,rfl⟩,by simp⟩)
 rintro _ _ ⟨⟨T,rfl⟩,hs⟩;obtain⟨j,rfl⟩:=hs.ex;clear hs;refine cb (z:=decide (lgI c q∈[1,3,2])) (by simp) (fun hb=>?_) (fun hb=>?_)
 ·have h3:=of_decide_eq_true hb;simp(disch:=omega);rw[hg,bf3,if_pos h3]
 have h3:¬ (lgI c q∈[1,3,2]):=of_decide_eq_false hb;have hh:fZ raw c bd q=bf4 raw c bd q:=by rw[hg,bf3,if_neg h3]
 clear h3 hb
 -- stage 2
 refine cP (fun fr2 H2=>(∃ T:Heap,H2=some (scC raw c bd)::T)/\Slots 175 [(1,.int .i64 ((q:Int)+1)),(2,.ptr 0 0),(5,.int .i64 (lgI c q)),(6,.int .i64 (lgI c (q+1))),(7,.func (.func 269) [] []),(31,.bool (decide (lgI c (q+1)∈[1,2,3,4,5])))] fr2) ?_ ?_
 ·(simp(disch:=(first|omega|rfl|(simp;done)|fail)) [-au,-getElem?_pos,hA];exact bz ⟨⟨_,rfl⟩,by simp⟩)
 rintro _ _ ⟨⟨T,rfl⟩,hs⟩;obtain⟨j,rfl⟩:=hs.ex;clear hs;refine cb (z:=decide (lgI c (q+1)∈[1,2,3,4,5])) (by simp) (fun hb=>?_) (fun hb=>?_)
 ·have h3:=of_decide_eq_true hb;simp(disch:=omega);rw[hh,bf4,if_pos h3]
 have h3:¬ (lgI c (q+1)∈[1,2,3,4,5]):=of_decide_eq_false hb;have hj:fZ raw c bd q=bf5 raw c bd q:=by rw[hh,bf4,if_neg h3]
 clear h3 hb
 -- stage 3
 refine cP (fun fr2 H2=>(∃ T:Heap,H2=some (scC raw c bd)::T)/\Slots 175 [(1,.int .i64 ((q:Int)+1)),(2,.ptr 0 0),(5,.int .i64 (lgI c q)),(6,.int .i64 (lgI c (q+1))),(7,.func (.func 269) [] []),(36,.bool (decide (lgB bd (q+1)=false)))] fr2) ?_ ?_
 ·(simp(disch:=(first|omega|rfl|(simp;done)|fail)) [-au,-getElem?_pos,b1,e2];exact bz ⟨⟨_,rfl⟩,by simp⟩)
 rintro _ _ ⟨⟨T,rfl⟩,hs⟩;obtain⟨j,rfl⟩:=hs.ex;clear hs;refine cb (z:=decide (lgB bd (q+1)=false)) (by simp) (fun hb=>?_) (fun hb=>?_)
 ·have h3:=of_decide_eq_true hb;simp(disch:=omega);rw[hj,bf5,if_pos h3]
 have h3:¬ (lgB bd (q+1)=false):=of_decide_eq_false hb;have hl:fZ raw c bd q=bf6 raw c bd q:=by rw[hj,bf5,if_neg h3]
 clear h3 hb
 -- stage 4
 refine cP (fun fr2 H2=>(∃ T:Heap,H2=some (scC raw c bd)::T)/\Slots 175 [(1,.int .i64 ((q:Int)+1)),(2,.ptr 0 0),(5,.int .i64 (lgI c q)),(6,.int .i64 (lgI c (q+1))),(7,.func (.func 269) [] []),(43,.bool (decide (spS c 5 (q+1)=true)))] fr2) ?_ ?_
 ·(simp(disch:=(first|omega|rfl|(simp;done)|fail)) [-au,-getElem?_pos,hS];exact bz ⟨⟨_,rfl⟩,by simp⟩)
 rintro _ _ ⟨⟨T,rfl⟩,hs⟩;obtain⟨j,rfl⟩:=hs.ex;clear hs;refine cb (z:=decide (spS c 5 (q+1)=true)) (by simp) (fun hb=>?_) (fun hb=>?_)
 ·have h3:=of_decide_eq_true hb;simp(disch:=omega);rw[hl,bf6,if_pos h3]
 have h3:¬ (spS c 5 (q+1)=true):=of_decide_eq_false hb;have hm:fZ raw c bd q=bf7 raw c bd q:=by rw[hl,bf6,if_neg h3]
 clear h3 hb
 -- stage 5
 refine cP (fun fr2 H2=>(∃ T:Heap,H2=some (scC raw c bd)::T)/\Slots 175 [(1,.int .i64 ((q:Int)+1)),(2,.ptr 0 0),(5,.int .i64 (lgI c q)),(6,.int .i64 (lgI c (q+1))),(7,.func (.func 269) [] []),(47,.bool (decide (lgI raw q=6)))] fr2) ?_ ?_
 ·(simp(disch:=(first|omega|rfl|(simp;done)|fail)) [-au,wrap64,-getElem?_pos,r0,e3];exact bz ⟨⟨_,rfl⟩,by simp⟩)
 rintro _ _ ⟨⟨T,rfl⟩,hs⟩;obtain⟨j,rfl⟩:=hs.ex;clear hs;refine cb (z:=decide (lgI raw q=6)) (by simp) (fun hb=>?_) (fun hb=>?_)
 ·have h3:=of_decide_eq_true hb;simp(disch:=omega);rw[hm,bf7,if_pos h3]
 have h3:¬ (lgI raw q=6):=of_decide_eq_false hb;have ht:fZ raw c bd q=bf8 raw c bd q:=by rw[hm,bf7,if_neg h3]
 clear h3 hb
 -- stage 6
 refine cP (fun fr2 H2=>(∃ T:Heap,H2=some (scC raw c bd)::T)/\Slots 175 [(1,.int .i64 ((q:Int)+1)),(2,.ptr 0 0),(5,.int .i64 (lgI c q)),(6,.int .i64 (lgI c (q+1))),(7,.func (.func 269) [] []),(55,.bool (decide (cmS (lgI raw (q+1))=true/\hrS (lgI c q)=false)))] fr2) ?_ ?_
 ·by_cases k0:cmS (lgI raw (q+1))=true<;>(simp(disch:=(first|omega|rfl|(simp;done)|fail)) [-au,cu,aw,cT,aD,cV,-getElem?_pos,r1,e2,hI,hJ,k0];exact bz ⟨⟨_,rfl⟩,by simp[k0]⟩)
 rintro _ _ ⟨⟨T,rfl⟩,hs⟩;obtain⟨j,rfl⟩:=hs.ex;clear hs;refine cb (z:=decide (cmS (lgI raw (q+1))=true/\hrS (lgI c q)=false)) (by simp) (fun hb=>?_) (fun hb=>?_)
 ·have h3:=of_decide_eq_true hb;simp(disch:=omega);rw[ht,bf8,if_pos h3]
 have h3:¬ (cmS (lgI raw (q+1))=true/\hrS (lgI c q)=false):=of_decide_eq_false hb;have hu:fZ raw c bd q=bf9 raw c bd q:=by rw[ht,bf8,if_neg h3]
 clear h3 hb
 -- stage 7
 refine cP (fun fr2 H2=>(∃ T:Heap,H2=some (scC raw c bd)::T)/\Slots 175 [(1,.int .i64 ((q:Int)+1)),(2,.ptr 0 0),(5,.int .i64 (lgI c q)),(6,.int .i64 (lgI c (q+1))),(7,.func (.func 269) [] []),(67,.bool (decide (lgI c q=8\/lgI c (q+1)=8\/lgI c q=9)))] fr2) ?_ ?_
 ·by_cases k0:lgI c q=8<;>by_cases k1:lgI c (q+1)=8<;>by_cases k2:lgI c q=9<;>(simp(disch:=(first|omega|rfl|(simp;done)|fail)) [-au,-getElem?_pos,k0,k1,k2];exact bz ⟨⟨_,rfl⟩,by simp[k0,k1,k2]⟩)
 rintro _ _ ⟨⟨T,rfl⟩,hs⟩;obtain⟨j,rfl⟩:=hs.ex;clear hs;refine cb (z:=decide (lgI c q=8\/lgI c (q+1)=8\/lgI c q=9)) (by simp) (fun hb=>?_) (fun hb=>?_)
 ·have h3:=of_decide_eq_true hb;simp(disch:=omega);rw[hu,bf9,if_pos h3]
 have h3:¬ (lgI c q=8\/lgI c (q+1)=8\/lgI c q=9):=of_decide_eq_false hb;have hv:fZ raw c bd q=bfA raw c bd q:=by rw[hu,bf9,if_neg h3]
 clear h3 hb
 -- stage 8
 refine cP (fun fr2 H2=>(∃ T:Heap,H2=some (scC raw c bd)::T)/\Slots 175 [(1,.int .i64 ((q:Int)+1)),(2,.ptr 0 0),(5,.int .i64 (lgI c q)),(6,.int .i64 (lgI c (q+1))),(7,.func (.func 269) [] []),(74,.bool (decide (lgI c (q+1)=9/\lgI c q ∉ [4,10,11])))] fr2) ?_ ?_
 ·by_cases k0:lgI c (q+1)=9<;>(simp(disch:=(first|omega|rfl|(simp;done)|fail)) [-au,cu,aw,xn,cT,aD,cV,-getElem?_pos,hD,k0];exact bz ⟨⟨_,rfl⟩,by simp[k0]⟩)
 rintro _ _ ⟨⟨T,rfl⟩,hs⟩;obtain⟨j,rfl⟩:=hs.ex;clear hs;refine cb (z:=decide (lgI c (q+1)=9/\lgI c q ∉ [4,10,11])) (by simp) (fun hb=>?_) (fun hb=>?_)
 ·have h3:=of_decide_eq_true hb;simp(disch:=omega);rw[hv,bfA,if_pos h3]
 have h3:¬ (lgI c (q+1)=9/\lgI c q ∉ [4,10,11]):=of_decide_eq_false hb;have hw:fZ raw c bd q=bfB raw c bd q:=by rw[hv,bfA,if_neg h3]
 clear h3 hb
 -- stage 9
 refine cP (fun fr2 H2=>(∃ T:Heap,H2=some (scC raw c bd)::T)/\Slots 175 [(1,.int .i64 ((q:Int)+1)),(2,.ptr 0 0),(5,.int .i64 (lgI c q)),(6,.int .i64 (lgI c (q+1))),(7,.func (.func 269) [] []),(84,.bool (decide (lgI c (q+1)∈[13,15,16])))] fr2) ?_ ?_
 ·(simp(disch:=(first|omega|rfl|(simp;done)|fail)) [-au,-getElem?_pos,hE];exact bz ⟨⟨_,rfl⟩,by simp⟩)
 rintro _ _ ⟨⟨T,rfl⟩,hs⟩;obtain⟨j,rfl⟩:=hs.ex;clear hs;refine cb (z:=decide (lgI c (q+1)∈[13,15,16])) (by simp) (fun hb=>?_) (fun hb=>?_)
 ·have h3:=of_decide_eq_true hb;simp(disch:=omega);rw[hw,bfB,if_pos h3]
 have h3:¬ (lgI c (q+1)∈[13,15,16]):=of_decide_eq_false hb;have hy:fZ raw c bd q=bfC raw c bd q:=by rw[hw,bfB,if_neg h3]
 clear h3 hb
 -- stage 10
 refine cP (fun fr2 H2=>(∃ T:Heap,H2=some (scC raw c bd)::T)/\Slots 175 [(1,.int .i64 ((q:Int)+1)),(2,.ptr 0 0),(5,.int .i64 (lgI c q)),(6,.int .i64 (lgI c (q+1))),(7,.func (.func 269) [] []),(89,.bool (decide (spS c 12 (q+1)=true\/(lgI c (q+1)=12/\spS c 14 (q+1)=true))))] fr2) ?_ ?_
 ·by_cases k0:spS c 12 (q+1)=true<;>by_cases k1:lgI c (q+1)=12<;>(simp(disch:=(first|omega|rfl|(simp;done)|fail)) [-au,cu,aw,cT,aD,cV,-getElem?_pos,hS,k0,k1];exact bz ⟨⟨_,rfl⟩,by simp[k0,k1]⟩)
 rintro _ _ ⟨⟨T,rfl⟩,hs⟩;obtain⟨j,rfl⟩:=hs.ex;clear hs;refine cb (z:=decide (spS c 12 (q+1)=true\/(lgI c (q+1)=12/\spS c 14 (q+1)=true))) (by simp) (fun hb=>?_) (fun hb=>?_)
 ·have h3:=of_decide_eq_true hb;simp(disch:=omega);rw[hy,bfC,if_pos h3]
 have h3:¬ (spS c 12 (q+1)=true\/(lgI c (q+1)=12/\spS c 14 (q+1)=true)):=of_decide_eq_false hb;have h4:fZ raw c bd q=bfD raw c bd q:=by rw[hy,bfC,if_neg h3]
 clear h3 hb
 -- stage 11
 refine cP (fun fr2 H2=>(∃ T:Heap,H2=some (scC raw c bd)::T)/\Slots 175 [(1,.int .i64 ((q:Int)+1)),(2,.ptr 0 0),(5,.int .i64 (lgI c q)),(6,.int .i64 (lgI c (q+1))),(7,.func (.func 269) [] []),(100,.bool (decide (lgI c q=4)))] fr2) ?_ ?_
 ·(simp(disch:=(first|omega|rfl|(simp;done)|fail)) [-au,-getElem?_pos];exact bz ⟨⟨_,rfl⟩,by simp⟩)
 rintro _ _ ⟨⟨T,rfl⟩,hs⟩;obtain⟨j,rfl⟩:=hs.ex;clear hs;refine cb (z:=decide (lgI c q=4)) (by simp) (fun hb=>?_) (fun hb=>?_)
 ·have h3:=of_decide_eq_true hb;simp(disch:=omega);rw[h4,bfD,if_pos h3]
 have h3:¬ (lgI c q=4):=of_decide_eq_false hb;have h6:fZ raw c bd q=bfE raw c bd q:=by rw[h4,bfD,if_neg h3]
 clear h3 hb
 -- stage 12
 refine cP (fun fr2 H2=>(∃ T:Heap,H2=some (scC raw c bd)::T)/\Slots 175 [(1,.int .i64 ((q:Int)+1)),(2,.ptr 0 0),(5,.int .i64 (lgI c q)),(6,.int .i64 (lgI c (q+1))),(7,.func (.func 269) [] []),(103,.bool (decide (lgI c q=14\/lgI c (q+1)=14\/lgI c (q+1)=10\/lgI c (q+1)=11)))] fr2) ?_ ?_
 ·by_cases k0:lgI c q=14<;>by_cases k1:lgI c (q+1)=14<;>by_cases k2:lgI c (q+1)=10<;>by_cases k3:lgI c (q+1)=11<;>(simp(disch:=(first|omega|rfl|(simp;done)|fail)) [-au,-getElem?_pos,k0,k1,k2,k3];exact bz ⟨⟨_,rfl⟩,by simp[k0,k1,k2,k3]⟩)
 rintro _ _ ⟨⟨T,rfl⟩,hs⟩;obtain⟨j,rfl⟩:=hs.ex;clear hs;refine cb (z:=decide (lgI c q=14\/lgI c (q+1)=14\/lgI c (q+1)=10\/lgI c (q+1)=11)) (by simp) (fun hb=>?_) (fun hb=>?_)
 ·have h3:=of_decide_eq_true hb;simp(disch:=omega);rw[h6,bfE,if_pos h3]
 have h3:¬ (lgI c q=14\/lgI c (q+1)=14\/lgI c (q+1)=10\/lgI c (q+1)=11):=of_decide_eq_false hb;have h7:fZ raw c bd q=bfF raw c bd q:=by rw[h6,bfE,if_neg h3]
 clear h3 hb
 -- stage 13
 refine cP (fun fr2 H2=>(∃ T:Heap,H2=some (scC raw c bd)::T)/\Slots 175 [(1,.int .i64 ((q:Int)+1)),(2,.ptr 0 0),(5,.int .i64 (lgI c q)),(6,.int .i64 (lgI c (q+1))),(7,.func (.func 269) [] []),(112,.bool (decide ((lgI c q=0/\lgI c (q+1)=17)\/(lgI c q=17/\lgI c (q+1)=0))))] fr2) ?_ ?_
 ·by_cases k0:lgI c q=0<;>by_cases k1:lgI c (q+1)=17<;>by_cases k2:lgI c q=17<;>by_cases k3:lgI c (q+1)=0<;>(simp(disch:=(first|omega|rfl|(simp;done)|fail)) [-au,cu,aw,cT,aD,cV,-getElem?_pos,k0,k1,k2,k3];exact bz ⟨⟨_,rfl⟩,by simp[k0,k1,k2,k3]⟩)
 rintro _ _ ⟨⟨T,rfl⟩,hs⟩;obtain⟨j,rfl⟩:=hs.ex;clear hs;refine cb (z:=decide ((lgI c q=0/\lgI c (q+1)=17)\/(lgI c q=17/\lgI c (q+1)=0))) (by simp) (fun hb=>?_) (fun hb=>?_)
 ·have h3:=of_decide_eq_true hb;simp(disch:=omega);rw[h7,bfF,if_pos h3]
 have h3:¬ ((lgI c q=0/\lgI c (q+1)=17)\/(lgI c q=17/\lgI c (q+1)=0)):=of_decide_eq_false hb;have h8:fZ raw c bd q=bfG raw c bd q:=by rw[h7,bfF,if_neg h3]
 clear h3 hb
 -- stage 14
 refine cP (fun fr2 H2=>(∃ T:Heap,H2=some (scC raw c bd)::T)/\Slots 175 [(1,.int .i64 ((q:Int)+1)),(2,.ptr 0 0),(5,.int .i64 (lgI c q)),(6,.int .i64 (lgI c (q+1))),(7,.func (.func 269) [] []),(125,.bool (decide (lgI c q∈[17,11,16]/\lgI c (q+1)=17)))] fr2) ?_ ?_
 ·by_cases k0:lgI c q∈[17,11,16]<;>(simp(disch:=(first|omega|rfl|(simp;done)|fail)) [-au,cu,aw,cT,aD,cV,-getElem?_pos,hF,k0];exact bz ⟨⟨_,rfl⟩,by simp[k0]⟩)
 rintro _ _ ⟨⟨T,rfl⟩,hs⟩;obtain⟨j,rfl⟩:=hs.ex;clear hs;refine cb (z:=decide (lgI c q∈[17,11,16]/\lgI c (q+1)=17)) (by simp) (fun hb=>?_) (fun hb=>?_)
 ·have h3:=of_decide_eq_true hb;simp(disch:=omega);rw[h8,bfG,if_pos h3]
 have h3:¬ (lgI c q∈[17,11,16]/\lgI c (q+1)=17):=of_decide_eq_false hb;have h9:fZ raw c bd q=bfH raw c bd q:=by rw[h8,bfG,if_neg h3]
 clear h3 hb
 -- stage 15
 refine cP (fun fr2 H2=>(∃ T:Heap,H2=some (scC raw c bd)::T)/\Slots 175 [(1,.int .i64 ((q:Int)+1)),(2,.ptr 0 0),(5,.int .i64 (lgI c q)),(6,.int .i64 (lgI c (q+1))),(7,.func (.func 269) [] []),(134,.bool (decide (lgI c q∈[0,16]/\lgI c (q+1)=0)))] fr2) ?_ ?_
 ·by_cases k0:lgI c q∈[0,16]<;>(simp(disch:=(first|omega|rfl|(simp;done)|fail)) [-au,cu,aw,cT,aD,cV,-getElem?_pos,hH,k0];exact bz ⟨⟨_,rfl⟩,by simp[k0]⟩)
 rintro _ _ ⟨⟨T,rfl⟩,hs⟩;obtain⟨j,rfl⟩:=hs.ex;clear hs;refine cb (z:=decide (lgI c q∈[0,16]/\lgI c (q+1)=0)) (by simp) (fun hb=>?_) (fun hb=>?_)
 ·have h3:=of_decide_eq_true hb;simp(disch:=omega);rw[h9,bfH,if_pos h3]
 have h3:¬ (lgI c q∈[0,16]/\lgI c (q+1)=0):=of_decide_eq_false hb;have ha:fZ raw c bd q=bfI raw c bd q:=by rw[h9,bfH,if_neg h3]
 clear h3 hb
 -- stage 16
 refine cP (fun fr2 H2=>(∃ T:Heap,H2=some (scC raw c bd)::T)/\Slots 175 [(1,.int .i64 ((q:Int)+1)),(2,.ptr 0 0),(5,.int .i64 (lgI c q)),(6,.int .i64 (lgI c (q+1))),(7,.func (.func 269) [] []),(143,.bool (decide (lgI c q∈[0,17]/\lgI c (q+1)=12)))] fr2) ?_ ?_
 ·by_cases k0:lgI c q∈[0,17]<;>(simp(disch:=(first|omega|rfl|(simp;done)|fail)) [-au,cu,aw,cT,aD,cV,-getElem?_pos,hf,k0];exact bz ⟨⟨_,rfl⟩,by simp[k0]⟩)
 rintro _ _ ⟨⟨T,rfl⟩,hs⟩;obtain⟨j,rfl⟩:=hs.ex;clear hs;refine cb (z:=decide (lgI c q∈[0,17]/\lgI c (q+1)=12)) (by simp) (fun hb=>?_) (fun hb=>?_)
 ·have h3:=of_decide_eq_true hb;simp(disch:=omega);rw[ha,bfI,if_pos h3]
 have h3:¬ (lgI c q∈[0,17]/\lgI c (q+1)=12):=of_decide_eq_false hb;have hd:fZ raw c bd q=bfJ raw c bd q:=by rw[ha,bfI,if_neg h3]
 clear h3 hb
 -- stage 17
 refine cP (fun fr2 H2=>(∃ T:Heap,H2=some (scC raw c bd)::T)/\Slots 175 [(1,.int .i64 ((q:Int)+1)),(2,.ptr 0 0),(5,.int .i64 (lgI c q)),(6,.int .i64 (lgI c (q+1))),(7,.func (.func 269) [] []),(152,.bool (decide (lgI c q=13/\lgI c (q+1)∈[0,17])))] fr2) ?_ ?_
 ·by_cases k0:lgI c q=13<;>(simp(disch:=(first|omega|rfl|(simp;done)|fail)) [-au,cu,aw,xn,cT,aD,cV,-getElem?_pos,hf,k0];exact bz ⟨⟨_,rfl⟩,by simp[k0]⟩)
 rintro _ _ ⟨⟨T,rfl⟩,hs⟩;obtain⟨j,rfl⟩:=hs.ex;clear hs;refine cb (z:=decide (lgI c q=13/\lgI c (q+1)∈[0,17])) (by simp) (fun hb=>?_) (fun hb=>?_)
 ·have h3:=of_decide_eq_true hb;simp(disch:=omega);rw[hd,bfJ,if_pos h3]
 have h3:¬ (lgI c q=13/\lgI c (q+1)∈[0,17]):=of_decide_eq_false hb;have he:fZ raw c bd q=bfK raw c bd q:=by rw[hd,bfJ,if_neg h3]
 clear h3 hb
 -- stage 18
 refine cP (fun fr2 H2=>(∃ T:Heap,H2=some (scC raw c bd)::T)/\Slots 175 [(1,.int .i64 ((q:Int)+1)),(2,.ptr 0 0),(5,.int .i64 (lgI c q)),(6,.int .i64 (lgI c (q+1))),(7,.func (.func 269) [] []),(161,.bool (decide (lgI raw (q+1)=19/\((rgS raw (q+1):Nat):Int).tmod 2=1)))] fr2) ?_ ?_
 ·by_cases k0:lgI raw (q+1)=19<;>(simp(disch:=(first|omega|rfl|(simp;done)|fail)) [-au,cu,aw,cT,aD,cV,-getElem?_pos,r1,e2,hR,k0];exact bz ⟨⟨_,rfl⟩,by simp[k0]⟩)
 rintro _ _ ⟨⟨T,rfl⟩,hs⟩;obtain⟨j,rfl⟩:=hs.ex;clear hs;refine cb (z:=decide (lgI raw (q+1)=19/\((rgS raw (q+1):Nat):Int).tmod 2=1)) (by simp) (fun hb=>?_) (fun hb=>?_)
 ·have h3:=of_decide_eq_true hb;simp(disch:=omega);rw[he,bfK,if_pos h3]
 have h3:¬ (lgI raw (q+1)=19/\((rgS raw (q+1):Nat):Int).tmod 2=1):=of_decide_eq_false hb;simp(disch:=omega);rw[he,bfK,if_neg h3]
end
end Bi
end Go.Ab
