/- The program: where lines may end; the classes of a text. -/
import Derived.Test.YtldfgkjmficliaaGreatPiGen
import Derived.Test.YtldfgkjmficliaaGreatPaPr
import Derived.Test.YtldfgkjmficliaaGreatPaKn
set_option linter.unusedSimpArgs false
set_option linter.unusedVariables false
namespace Go.Ab
open Go.Proofs
namespace Bi
attribute [local congr] az
def cy(t:List Int):List Int:=t.map cLn
def clG(raw:List Int):Nat→Int
 | 0=>if cmS (lgI raw 0)=true then 0 else lgI raw 0
 | i+1=>if cmS (lgI raw (i+1))=true then (if hrS (clG raw i)=true then 0 else clG raw i) else lgI raw (i+1)
def clS(raw:List Int):List Int:=(List.range raw.length).map (clG raw)
theorem nN{raw:List Int}:(clS raw).length=raw.length:=by simp[clS]
theorem wu{raw:List Int}{i:Nat}(h:i<raw.length):(clS raw)[i]?=some (clG raw i):=by simp[clS,h]
theorem dC{t:List Int}:(cy t).length=t.length:=by simp[cy]
theorem sZ{t:List Int}{i:Nat}(h:i<t.length):(cy t)[i]?=some (cLn (lgI t i)):=by rw[cy,List.getElem?_map,atI h];rfl
section
variable {prim:FuncId→Option Prim}(d:Nat)
set_option maxRecDepth 100000 in
set_option maxHeartbeats 16000000 in
theorem Fa(hp:∀ f,Np5 f→prim f=none)(t:List Int)(ht:t.length≤2000)(cl:List Int)(hcl:∀ x∈cl,0≤x∧x≤t.length)(hcn:cl.length≤4000)(hC:∀ cfg h,af md (K prim (d+4)) cfg 51 [rl t] h=some (il cl,h))(cfg:Cfg)(h:Heap):
  af md (K prim (d+5)) cfg 88 [rl t] h=some (.agg (scC (cy t) (clS (cy t)) (mkS (t.length+1) cl)),h):=by
 refine bo rfl (hp 88 (by decide)) Tryz.func88 rfl rfl rfl (by simp) ?_
 have hL:=fun cfg h r=>wx (prim:=prim) (d+1) hp cfg h r
 have hCo:=fun cfg h x=>yg (prim:=prim) (d+3) hp cfg h x
 have hHd:=fun cfg h x=>yr (prim:=prim) (d+3) hp cfg h x
 have mL:md 93=0:=rfl
 simp(disch:=omega)
 refine ai 12 (by kernel_rfl) ?_
 simp(disch:=omega)[wrap64,mQ,kO,hC]
 generalize hX:[V.sl 1 0 t.length t.length 1,V.sl 2 0 t.length t.length 1,V.sl 3 0 (t.length+1) (t.length+1) 1]=X at *
 have x0:slot X 0=some (.sl 1 0 t.length t.length 1):=by rw[← hX];rfl
 have x1:slot X 1=some (.sl 2 0 t.length t.length 1):=by rw[← hX];rfl
 have x2:slot X 2=some (.sl 3 0 (t.length+1) (t.length+1) 1):=by rw[← hX];rfl
 have x3:X.length=3:=by rw[← hX];rfl
 have x4:X.take 3=X:=by rw[← hX];rfl
 have x5:isMap X=false:=by rw[← hX];rfl
 have x6:X.all V.leaf=true:=by rw[← hX];rfl
 have x7:putAt [V.nils,.nils,.nils] 0 X=X:=by rw[← hX];rfl
 refine aj (fun m fr Hc=>∃ (i:Nat) (bd:List Bool),i≤cl.length∧m=cl.length-i∧bd=mkS (t.length+1) (cl.take i)∧Hc=[some [V.nils,V.nils,V.nils],some ((List.replicate t.length 0).map (V.int .i64)),some ((List.replicate t.length 0).map (V.int .i64)),some (bd.map V.bool),some X] ∧
  Slots 88 [(0,rl t),(2,.ptr 0 0),(3,.ptr 4 0),(20,il cl),(21,.int .i64 cl.length),(22,.int .i64 i)] fr) (m:=cl.length) (by omega) ⟨0,List.replicate (t.length+1) false,by omega,by omega,rfl,by simp,by simp⟩ ?_
 rintro m fr Hc ⟨i,bd,hi,rfl,hbd,rfl,hs⟩
 obtain⟨j,rfl⟩:=hs.ex
 clear hs
 have hbd0:bd.length=t.length+1:=by rw[hbd,ly]
 by_cases hlt:i<cl.length
 ·have hI:(i:Int)<cl.length:=by omega
  obtain⟨x,hx⟩:=atG hlt
  have hx2:=hcl x (List.mem_of_getElem? hx)
  obtain⟨q,rfl⟩:∃ q:Nat,x=q:=⟨x.toNat,by omega⟩
  have q1:q+1≤t.length+1:=by omega
  simp(disch:=omega)[hI,hx,x2,x5,q1,hbd0,setB,wrap64,ab,-getElem?_pos,-List.map_set,-List.map_replicate]
  refine ae (m':=cl.length-(i+1)) (by omega) ⟨i+1,bd.set q true,by omega,by omega,?_,by simp,by simp(disch:=omega)⟩
  rw[List.take_add_one,hx]
  simp[pN,hbd]
 ·obtain rfl:i=cl.length:=by omega
  rw[List.take_length]at hbd
  have hr0:(List.replicate t.length (0:Int)).length=t.length:=by simp
  generalize hrw:List.replicate t.length (0:Int)=r0 at *
  clear hrw
  have hR1:(cy t).length=r0.length:=by rw[dC,hr0]
  have hR2:(clS (cy t)).length=r0.length:=by rw[nN,dC,hr0]
  simp(disch:=omega)
  refine aj (fun m fr Hc=>∃ (i:Nat),i≤t.length∧m=t.length-i∧Hc=[some [V.nils,V.nils,V.nils],some (((cy t).take i++r0.drop i).map (V.int .i64)),some (((clS (cy t)).take i++r0.drop i).map (V.int .i64)),some (bd.map V.bool),some X] ∧
   Slots 88 [(2,.ptr 0 0),(3,.ptr 4 0),(31,rl t),(32,.int .i64 t.length),(33,.int .i64 i)] fr) (m:=t.length) (by omega) ⟨0,by omega,by omega,by simp,by simp⟩ ?_
  rintro m fr Hc ⟨i,hi,rfl,rfl,hs⟩
  obtain⟨j,rfl⟩:=hs.ex
  clear hs
  have hrl:=@ba _ _ _ hR1 i
  have hcl2:=@ba _ _ _ hR2 i
  rw[hr0]at hrl hcl2
  by_cases hlt:i<t.length
  ·have hI:(i:Int)<t.length:=by omega
   have q1:i+1≤t.length:=by omega
   have hw1:=dt hR1 (sZ hlt)
   have hrA:=sZ hlt
   have hcA:=wu (raw:=cy t) (i:=i) (by rw[dC];exact hlt)
   have hw2:=fun x=>dt (x:=x) hR2 (i:=i)
   have hcP:0<i→((clS (cy t)).take i++r0.drop i)[i-1]?=some (clG (cy t) (i-1)):=fun h0=>by
    rw[List.getElem?_append_left (by rw[List.length_take,nN,dC];omega),List.getElem?_take_of_lt (by omega),wu (by rw[dC];omega)]
   have hcG:clG (cy t) i=if cmS (cLn (lgI t i))=true then (if 0<i∧hrS (clG (cy t) (i-1))=false then clG (cy t) (i-1) else 0) else cLn (lgI t i):=by
    have e:lgI (cy t) i=cLn (lgI t i):=by rw[lgI,List.getD_eq_getElem?_getD,hrA];rfl
    rcases i with _|i
    ·simp[clG,e]
    ·rw[clG,e]
     cases hb:hrS (clG (cy t) i)<;>simp[hb]
   have hr2:=@ba _ _ _ hR1 (i+1)
   rw[hr0]at hr2
   generalize hw2r:(cy t).take (i+1)++r0.drop (i+1)=raw2 at *
   generalize hc0:(clS (cy t)).take i++r0.drop i=c0 at *
   generalize (cy t).take i++r0.drop i=raw1 at *
   simp(disch:=omega)[hI,atI,-getElem?_pos]
   refine ai 5 (by kernel_rfl) ?_
   simp(disch:=omega)[x0,x5,hL,mL,hrl,q1,ab,-getElem?_pos,-List.map_set]
   rw[hw1]
   have w0:slot (raw2.map (V.int .i64)) i=some (.int .i64 (cLn (lgI t i))):=by rw[slot,List.getElem?_map,← hw1,List.getElem?_set_self (by omega)];rfl
   refine ai 8 (by kernel_rfl) ?_
   simp(disch:=omega)[x0,x1,x5,hcl2,w0,q1,ab,-getElem?_pos,-List.map_set]
   have hc2:(c0.set i (cLn (lgI t i))).length=t.length:=by rw[List.length_set];exact hcl2
   simp(disch:=omega)[hCo,-getElem?_pos,-List.map_set]
   refine ak (fun hcm=>?_) (fun hcm=>?_)
   ·have hcm2:cmS (cLn (lgI t i))=false:=by simpa using hcm
    rw[if_neg (by rw[hcm2];simp)]at hcG
    simp(disch:=omega)[wrap64,-List.map_set]
    exact ae (m':=t.length-(i+1)) (by omega) ⟨i+1,by omega,by omega,by rw[hw2 _ (hcG ▸ hcA),hw2r],by simp(disch:=omega)⟩
   have hcm2:cmS (cLn (lgI t i))=true:=by simpa using hcm
   rw[if_pos hcm2]at hcG
   obtain⟨c3,h3⟩:∃ c3,c0.set i 0=c3:=⟨_,rfl⟩
   have hc3:c3.length=t.length:=by rw[← h3,List.length_set];exact hcl2
   have hs3:bV ((c0.set i (cLn (lgI t i))).map (V.int .i64)) i (.int .i64 0)=c3.map (V.int .i64):=by rw[setI,List.set_set,h3]
   have hi1:0<i→((i:Int)-1).toNat=i-1:=fun h=>by omega
   have w3:0<i→slot (c3.map (V.int .i64)) (i-1)=some (.int .i64 (clG (cy t) (i-1))):=fun h=>by rw[slot,List.getElem?_map,← h3,List.getElem?_set_ne (by omega),hcP h];rfl
   have w4:0<i→i-1+1≤t.length:=fun h=>by omega
   simp +contextual (disch:=first|omega|(simp;done)|(simp[Decidable.imp_iff_not_or];done)|fail) [-ao,bM,aq,ax,bh,wrap64,-getElem?_pos,x1,x5,hc2,q1,hs3,ab,hHd,hi1,w3,-List.map_set]
   refine ak (fun hb=>?_) (fun hb=>?_)
   ·have hb2:0<i∧hrS (clG (cy t) (i-1))=false:=by simpa using hb
    rw[if_pos hb2]at hcG
    have hi0:=hb2.1
    have hi1':=hi1 hi0
    have w3':=w3 hi0
    have w4':=w4 hi0
    refine ai 9 (by kernel_rfl) ?_
    simp(disch:=omega)[x1,x5,hc3,hi1',w3',q1,ab,wrap64,-getElem?_pos,-List.map_set]
    exact ae (m':=t.length-(i+1)) (by omega) ⟨i+1,by omega,by omega,by rw[← h3,List.set_set,hw2 _ (hcG ▸ hcA),hw2r],by simp(disch:=omega)⟩
   ·have hb2:¬ (0<i∧hrS (clG (cy t) (i-1))=false):=by simpa using hb
    rw[if_neg hb2]at hcG
    simp(disch:=omega)[wrap64]
    exact ae (m':=t.length-(i+1)) (by omega) ⟨i+1,by omega,by omega,by rw[← h3,hw2 _ (hcG ▸ hcA),hw2r],by simp(disch:=omega)⟩
  ·obtain rfl:i=t.length:=by omega
   rw[dq hR1 (by omega),dq hR2 (by omega)]
   have hrl:(cy t).length=t.length:=dC
   have hcl2:(clS (cy t)).length=t.length:=by rw[nN,dC]
   rw[← hbd]
   generalize cy t=raw at *
   generalize clS raw=c at *
   have f1:=ek (h:=[some X,some (raw.map (V.int .i64)),some (c.map (V.int .i64)),some (bd.map V.bool),some X]) (n:=0) (b:=1) (len:=t.length) (cap:=t.length) (d:=3) (k:=.i64) (l:=raw) (by simp[ab]) (Nat.zero_le _) hrl
   simp(disch:=omega)[x3,x4,x5,x6,x7]
   have f2:=ek (h:=[some X,some (raw.map (V.int .i64)),some (c.map (V.int .i64)),some (bd.map V.bool),some X]) (n:=0) (b:=2) (len:=t.length) (cap:=t.length) (d:=3) (k:=.i64) (l:=c) (by simp[ab]) (Nat.zero_le _) hcl2
   have f3:=zU (h:=[some X,some (raw.map (V.int .i64)),some (c.map (V.int .i64)),some (bd.map V.bool),some X]) (n:=0) (b:=3) (len:=t.length+1) (cap:=t.length+1) (d:=3) (l:=bd) (by simp[ab]) (Nat.zero_le _) hbd0
   generalize [some X,some (raw.map (V.int .i64)),some (c.map (V.int .i64)),some (bd.map V.bool),some X]=HH at *
   rw[← hX]
   simp[f1,f2,f3]
end
end Bi
end Go.Ab
