/- Several texts of this proof in one. -/
import Derived.Test.YtldfgkjmficliaaGreatPaVa2
import Derived.Test.YtldfgkjmficliaaGreatPiJ
import Derived.Test.YtldfgkjmficliaaGreatPaVal
import Derived.Test.YtldfgkjmficliaaGreatPaRef2
set_option linter.unusedSimpArgs false
set_option linter.unusedVariables false
namespace Go.Ab
open Go.Proofs Go.Proofs.Tryz
namespace Bi
attribute [local congr] az
theorem xL{a b:Int}(hb:0<b):(if a.tmod b<0 then a.tdiv b-1 else a.tdiv b)=a / b:=by
 have h1:=Int.mul_tdiv_add_tmod a b
 have h2:=Int.tmod_lt_of_pos a hb
 have h3:=Int.lt_tmod_of_pos a hb
 split
 ·rename_i h
  have:=(Int.ediv_emod_unique hb (a:=a) (r:=a.tmod b+b) (q:=a.tdiv b-1)).2 ⟨by rw[Int.mul_sub];omega,by omega,by omega⟩
  exact this.1.symm
 ·rename_i h
  have:=(Int.ediv_emod_unique hb (a:=a) (r:=a.tmod b) (q:=a.tdiv b)).2 ⟨by omega,by omega,by omega⟩
  exact this.1.symm
def xE(a b:Int):Int:=(2*a+b) / (2*b)
theorem FJ{a b:Int}(ha:0≤a)(hb:0<b):0≤xE a b:=Int.ediv_nonneg (by omega) (by omega)
section
variable {prim:FuncId→Option Prim}(d:Nat) (cfg:Cfg) (h:Heap)
theorem BP(hp:∀ f,Np5 f→prim f=none)(a b:Int):af md (K prim (d+1)) cfg 74 [.int .i64 a,.int .i64 b] h=some (.bool (decide (b≠0)&&decide (-1152921504606846976≤a)&&decide (a≤1152921504606846976)&&decide (-1152921504606846976≤b)&&decide (b≤1152921504606846976)),h):=by
 refine bo rfl (hp 74 (by decide)) func74 rfl rfl rfl (by simp) ?_
 simp +contextual (disch:=first|omega|(simp;done)|(simp[Decidable.imp_iff_not_or];done)|fail) [-ao,bM,aq,ax,bh]
theorem rj(hp:∀ f,Np5 f→prim f=none)(a b:Int)(hb:0<b)(h1:-4611686018427387904≤a)(h2:a≤4611686018427387904):af md (K prim (d+1)) cfg 75 [.int .i64 a,.int .i64 b] h=some (.int .i64 (a / b),h):=by
 refine bo rfl (hp 75 (by decide)) func75 rfl rfl rfl (by simp) ?_
 have hb0:¬ b=0:=by omega
 have hf:=xL (a:=a) hb
 have hq:-4611686018427387904≤a.tdiv b∧a.tdiv b≤4611686018427387904:=by
  have h3:(a.tdiv b).natAbs=a.natAbs / b.natAbs:=Int.natAbs_tdiv a b
  have h4:a.natAbs / b.natAbs≤a.natAbs:=Nat.div_le_self _ _
  omega
 simp(disch:=omega)[wrap64]
 refine ak (fun hn=>?_) (fun hn=>?_)
 ·rw[if_pos (by simpa using hn)]at hf
  simp(disch:=omega)[wrap64,hf]
 ·rw[if_neg (by simpa using hn)]at hf
  simp[hf]
theorem wJ(hp:∀ f,Np5 f→prim f=none)(a:Int)(h1:-1152921504606846976≤a)(h2:a≤1152921504606846976):af md (K prim (d+2)) cfg 40 [.int .i64 a,.int .i64 2] h=some (.int .i64 (a / 2),h):=by
 refine bo rfl (hp 40 (by decide)) func40 rfl rfl rfl (by simp) ?_
 have hk:=fun cfg h=>BP (prim:=prim) d cfg h hp a 2
 have hf:=fun cfg h=>rj (prim:=prim) d cfg h hp a 2 (by omega) (by omega) (by omega)
 simp(disch:=omega)[hk,hf,h1,h2]
theorem rk(hp:∀ f,Np5 f→prim f=none)(a b:Int)(hb:0<b)(hb2:b≤1000000)(h1:-1152921504606846976≤a)(h2:a≤1152921504606846976):af md (K prim (d+2)) cfg 139 [.int .i64 a,.int .i64 b] h=some (.int .i64 (xE a b),h):=by
 refine bo rfl (hp 139 (by decide)) func139 rfl rfl rfl (by simp) ?_
 have hk:=fun cfg h=>BP (prim:=prim) d cfg h hp a b
 have hf:=fun cfg h=>rj (prim:=prim) d cfg h hp (2*a+b) (2*b) (by omega) (by omega) (by omega)
 have hb0:¬ b=0:=by omega
 have hb3:¬ b<0:=by omega
 have hb4:-1152921504606846976≤b:=by omega
 have hb5:b≤1152921504606846976:=by omega
 simp(disch:=omega)[hk,hf,h1,h2,hb0,hb3,hb4,hb5,wrap64,xE]
def jq(f:Fnt)(size w:Int):Int:=xE (w*size) f.u
theorem fP(hp:∀ f,Np5 f→prim f=none)(f:Fnt)(size w:Int)(hu:16≤f.u)(hu2:f.u≤4096)(hs:1≤size)(hs2:size≤1000)(hw:-100000≤w)(hw2:w≤100000):
  af md (K prim (d+3)) cfg 97 [.agg (aH f),.int .i64 size,.int .i64 w] h=some (.int .i64 (jq f size w),h):=by
 refine bo rfl (hp 97 (by decide)) func97 rfl rfl rfl (by simp[aH]) ?_
 obtain⟨hlf,hmp,l8,t8,s0,s1,s2,s3,s4,s5,s6,s7⟩:=fsl f
 have hm1:w*size≤100000*1000:=by
  have:=Int.mul_le_mul_of_nonneg_right hw2 (by omega:0≤size)
  have:=Int.mul_le_mul_of_nonneg_left hs2 (by omega:(0:Int)≤100000)
  omega
 have hm2:-100000*1000≤w*size:=by
  have:=Int.mul_le_mul_of_nonneg_right hw (by omega:0≤size)
  have:=Int.mul_le_mul_of_nonpos_left (by omega:(-100000:Int)≤0) hs2
  omega
 have hR:=fun cfg h=>rk (prim:=prim) d cfg h hp (w*size) f.u (by omega) (by omega) (by omega) (by omega)
 simp(disch:=omega)[hlf,hmp,s0,wrap64,hR,jq]
theorem ia(hp:∀ f,Np5 f→prim f=none)(f:Fnt)(h1:f.adv.length≤1000)(h2:f.ker.length≤1000)(h3:f.lig.length≤1000)(size:Int):
  af md (K prim (d+6)) cfg 96 [.agg (aH f),.int .i64 size] h=some (.bool (decide (1≤size)&&decide (size≤1000)&&decide (bJ f=0)),h):=by
 refine bo rfl (hp 96 (by decide)) func96 rfl rfl rfl (by simp[aH]) ?_
 obtain⟨hlf,hmp,l8,t8,s0,s1,s2,s3,s4,s5,s6,s7⟩:=fsl f
 obtain⟨_,rfl,hV⟩:=tt (prim:=prim) d hp f h1 h2 h3
 have hM:=fun cfg h x a b=>sa (prim:=prim) (d+4) cfg h hp x a b
 simp +contextual (disch:=first|omega|(simp;done)|(simp[Decidable.imp_iff_not_or];done)|fail) [-ao,bM,aq,ax,bh,hlf,hmp,l8,t8,hV,hM]
end
end Bi
end Go.Ab
namespace Go.Ab
open Go.Proofs Go.Proofs.Tryz
namespace Bi
attribute [local congr] az
def lt2(x y:Int×Int):Prop:=x.1<y.1∨x.1=y.1∧x.2<y.2
instance {x y:Int×Int}:Decidable (lt2 x y):=by unfold lt2;exact inferInstance
theorem lt2.trans{x y z:Int×Int}(h:lt2 x y)(g:lt2 y z):lt2 x z:=by unfold lt2 at *;omega
theorem iB{l:List (Int×Int)}(h:uY l){i j:Nat}(hij:i<j){x y:Int×Int}(hx:l[i]?=some x)(hy:l[j]?=some y):lt2 x y:=by
 induction j generalizing y with
 | zero=>omega
 | succ j ih =>
  have hj:=(List.getElem?_eq_some_iff.1 hy).1
  obtain⟨z,hz⟩:∃ z,l[j]?=some z:=⟨_,List.getElem?_eq_getElem (by omega)⟩
  have h1:lt2 z y:=h j z y hz hy
  by_cases hij':i=j
  ·subst hij'
   rw[hx]at hz
   cases hz
   exact h1
  ·exact (ih (by omega) hz).trans h1
theorem pairS_z{a b c e:Int}:gS a b c e=0↔a=c∧b=e:=by
 unfold gS oU
 repeat' split
 all_goals omega
def BsR{α:Type}(key:α→Int×Int)(l:List α)(a b:Int)(r:V):Prop:=∃ (i:Nat) (fd:Bool),r=.tup [.int .i64 i,.bool fd]∧(fd=true→∃ x,l[i]?=some x∧(key x).1=a∧(key x).2=b)∧(fd=false→∀ x∈l,¬ ((key x).1=a∧(key x).2=b))
theorem Gi{h:Heap}{n:Int}:fc prog h 3 168 (.int .i64 n)=some (.int .u64 (IntKind.u64.wrap n),h):=by
 unfold fc
 simp only[show prog.underlying 3=some (.int .i64) by kernel_rfl,show prog.underlying 168=some (.int .u64) by kernel_rfl]
theorem Gj{h:Heap}{n:Int}:fc prog h 168 3 (.int .u64 n)=some (.int .i64 (IntKind.i64.wrap n),h):=by
 unfold fc
 simp only[show prog.underlying 3=some (.int .i64) by kernel_rfl,show prog.underlying 168=some (.int .u64) by kernel_rfl]
theorem zr{x:Int}(h1:0≤x)(h2:x≤9223372036854775807):IntKind.u64.wrap x=x:=by
 exact IntWalk.u64_in x ⟨h1,by omega⟩
section
variable {prim:FuncId→Option Prim}(d:Nat) (cfg:Cfg) (h:Heap)
theorem Ah(hp:∀ f,Np5 f→prim f=none)(x y:Int×Int×Int):af md (K prim (d+4)) cfg 172 [.agg (dS x),.agg (dS y)] h=some (.int .i64 (gS x.1 x.2.1 y.1 y.2.1),h):=by
 refine bo rfl (hp 172 (by decide)) func172 rfl rfl rfl (by simp[dS]) ?_
 have hA:=fun cfg h a b c e=>sV (prim:=prim) d cfg h hp a b c e
 simp[dS,hA]
theorem Au:md 172=0:=rfl
set_option maxHeartbeats 8000000 in
set_option maxRecDepth 100000 in
theorem Cl(hp:∀ f,Np5 f→prim f=none)(l:List (Int×Int×Int))(hl:l.length≤1000)(ho:uY (l.map fun x=>(x.1,x.2.1)))(y:Int×Int×Int):
  ∃ r,BsR (fun x=>(x.1,x.2.1)) l y.1 y.2.1 r ∧
   ∀ cfg h,af md (K prim (d+5)) cfg 171 [.lst (l.map dS),.agg (dS y),.func (.func 172) [] []] h=some (r,h):=by
 refine ik rfl (hp 171 (by decide)) func171 rfl rfl rfl (by simp[dS];rfl) ?_
 have hC:=fun cfg h x=>Ah (prim:=prim) d cfg h hp x y
 have hm:=Au
 have hyl:(dS y).all V.leaf=true:=rfl
 have hym:isMap (dS y)=false:=rfl
 have hyt:(dS y).take 3=dS y:=rfl
 have hyn:(dS y).length=3:=rfl
 have hxl:∀ x,(dS x).length=3:=fun _=>rfl
 have hxt:∀ x,(dS x).take 3=dS x:=fun _=>rfl
 simp(disch:=omega)[hyl]
 refine aj (fun m fr H=>∃ (i j:Nat),i≤j∧j≤l.length∧m=j-i∧(∀ q x,q<i→l[q]?=some x→lt2 (x.1,x.2.1) (y.1,y.2.1))∧(∀ q x,j≤q→l[q]?=some x→¬ lt2 (x.1,x.2.1) (y.1,y.2.1))∧H=[some (dS y)] ∧
  Slots 49 [(0,.lst (l.map dS)),(2,.func (.func 172) [] []),(4,.ptr 0 0),(8,.int .i64 l.length),(9,.int .i64 i),(10,.int .i64 j)] fr) (m:=l.length) (by omega) ⟨0,l.length,by omega,by omega,by omega,fun q x h=>by omega,fun q x h hx=>by have:=(List.getElem?_eq_some_iff.1 hx).1;omega,rfl,by simp⟩ ?_
 rintro m fr H ⟨i,j,hij,hj,rfl,hlo,hhi,rfl,hs⟩
 obtain⟨w,rfl⟩:=hs.ex
 clear hs
 by_cases hlt:i<j
 ·have hI:(i:Int)<j:=by omega
  obtain⟨c0,hc0⟩:∃ q:Nat,q=(i+j) / 2:=⟨_,rfl⟩
  have hmid:((i:Int)+j).fdiv (2 ^ min 1 IntKind.u64.bits)=(c0:Nat):=by
   rw[show ((2:Int) ^ min 1 IntKind.u64.bits)=2 from rfl,Int.fdiv_eq_ediv_of_nonneg _ (by omega)]
   omega
  have hm1:i≤c0∧c0<j:=by omega
  obtain⟨x,hx⟩:∃ x,l[c0]?=some x:=⟨_,List.getElem?_eq_getElem (by omega)⟩
  have hu:IntKind.u64.wrap ((i:Int)+j)=(i:Int)+j:=zr (by omega) (by omega)
  have hu2:IntKind.u64.wrap ((c0:Nat):Int)=((c0:Nat):Int):=zr (by omega) (by omega)
  have hu3:IntKind.i64.wrap ((c0:Nat):Int)=((c0:Nat):Int):=wrap64 (by omega) (by omega)
  have hu4:IntKind.i64.wrap ((i:Int)+j)=(i:Int)+j:=wrap64 (by omega) (by omega)
  simp(disch:=omega)[hI,hu,hu4,Gi,Gj,cz,hmid,hu3]
  refine ai 6 (by kernel_rfl) ?_
  simp(disch:=omega)[hx,hxl,hxt,hym,hC,-getElem?_pos]
  refine ak (fun hb=>?_) (fun hb=>?_)
  ·have hb2:lt2 (x.1,x.2.1) (y.1,y.2.1):=by
    have h1:¬ 0≤gS x.1 x.2.1 y.1 y.2.1:=by simpa using hb
    rw[pairS_neg]at h1
    exact Decidable.not_not.1 h1
   simp(disch:=omega)[wrap64]
   refine ae (m':=j-(c0+1)) (by omega) ⟨c0+1,j,by omega,hj,rfl,fun q z hq hz=>?_,hhi,rfl,by simp(disch:=omega)⟩
   by_cases hqe:q=c0
   ·subst hqe
    rw[hx]at hz
    cases hz
    exact hb2
   ·exact (iB ho (i:=q) (j:=c0) (by omega) (by rw[List.getElem?_map,hz];rfl) (by rw[List.getElem?_map,hx];rfl)).trans hb2
  ·have hb2:¬ lt2 (x.1,x.2.1) (y.1,y.2.1):=pairS_neg.1 (by simpa using hb)
   simp(disch:=omega)
   refine ae (m':=c0-i) (by omega) ⟨i,c0,by omega,by omega,rfl,hlo,fun q z hq hz=>?_,rfl,by simp(disch:=omega)⟩
   by_cases hqe:q=c0
   ·subst hqe
    rw[hx]at hz
    cases hz
    exact hb2
   ·exact fun g=>hb2 ((iB ho (i:=c0) (j:=q) (by omega) (by rw[List.getElem?_map,hx];rfl) (by rw[List.getElem?_map,hz];rfl)).trans g)
 ·obtain rfl:i=j:=by omega
  simp(disch:=omega)
  refine ai 15 (by kernel_rfl) ?_
  by_cases hil:i<l.length
  ·have hI:(i:Int)<l.length:=by omega
   obtain⟨x,hx⟩:∃ x,l[i]?=some x:=⟨_,List.getElem?_eq_getElem hil⟩
   have hd:∀ z:Bool,z=decide (gS x.1 x.2.1 y.1 y.2.1=0)→BsR (fun x=>(x.1,x.2.1)) l y.1 y.2.1 (.tup [.int .i64 i,.bool z]):=by
    intro z hz
    refine⟨i,z,rfl,fun h0=>⟨x,hx,?_⟩,fun h0 z hz2 hk=>?_⟩
    ·rw[h0]at hz
     exact pairS_z.1 (of_decide_eq_true hz.symm)
    rw[h0]at hz
    replace h0:=of_decide_eq_false hz.symm
    replace hz:=hz2
    replace hk:z.1=y.1∧z.2.1=y.2.1:=hk
    obtain⟨q,hq,hzq⟩:=List.getElem_of_mem hz
    have hzq':l[q]?=some z:=by rw[List.getElem?_eq_getElem hq,hzq]
    rcases Nat.lt_trichotomy q i with h1|h1|h1
    ·have:=hlo q z h1 hzq'
     unfold lt2 at this
     simp at this
     omega
    ·subst h1
     rw[hx]at hzq'
     cases hzq'
     exact h0 (pairS_z.2 hk)
    ·have h2:=iB ho (i:=i) (j:=q) h1 (by rw[List.getElem?_map,hx];rfl) (by rw[List.getElem?_map,hzq'];rfl)
     have h3:=hhi i x (Nat.le_refl _) hx
     unfold lt2 at h2 h3
     simp at h2 h3
     omega
   simp(disch:=omega)[hI,hx,hxl,hxt,hym,hm,hC,-getElem?_pos]
   exact hd _ rfl
  ·have hI:¬ (i:Int)<l.length:=by omega
   simp(disch:=omega)[hI]
   refine⟨i,false,rfl,fun h0=>(by cases h0),fun _ z hz hk=>?_⟩
   obtain⟨q,hq,hzq⟩:=List.getElem_of_mem hz
   have:=hlo q z (by omega) (by rw[List.getElem?_eq_getElem hq,hzq])
   replace hk:z.1=y.1∧z.2.1=y.2.1:=hk
   unfold lt2 at this
   simp at this
   omega
theorem Am(hp:∀ f,Np5 f→prim f=none)(x y:Int×Int×Int×Int):af md (K prim (d+4)) cfg 178 [.agg (dY x),.agg (dY y)] h=some (.int .i64 (gS x.1 x.2.1 y.1 y.2.1),h):=by
 refine bo rfl (hp 178 (by decide)) func178 rfl rfl rfl (by simp[dY]) ?_
 have hA:=fun cfg h a b c e=>sV (prim:=prim) d cfg h hp a b c e
 simp[dY,hA]
theorem Av:md 178=0:=rfl
set_option maxHeartbeats 8000000 in
set_option maxRecDepth 100000 in
theorem Cp(hp:∀ f,Np5 f→prim f=none)(l:List (Int×Int×Int×Int))(hl:l.length≤1000)(ho:uY (l.map fun x=>(x.1,x.2.1)))(y:Int×Int×Int×Int):
  ∃ r,BsR (fun x=>(x.1,x.2.1)) l y.1 y.2.1 r ∧
   ∀ cfg h,af md (K prim (d+5)) cfg 177 [.lst (l.map dY),.agg (dY y),.func (.func 178) [] []] h=some (r,h):=by
 refine ik rfl (hp 177 (by decide)) func177 rfl rfl rfl (by simp[dY];rfl) ?_
 have hC:=fun cfg h x=>Am (prim:=prim) d cfg h hp x y
 have hm:=Av
 have hyl:(dY y).all V.leaf=true:=rfl
 have hym:isMap (dY y)=false:=rfl
 have hyt:(dY y).take 4=dY y:=rfl
 have hyn:(dY y).length=4:=rfl
 have hxl:∀ x,(dY x).length=4:=fun _=>rfl
 have hxt:∀ x,(dY x).take 4=dY x:=fun _=>rfl
 simp(disch:=omega)[hyl]
 refine aj (fun m fr H=>∃ (i j:Nat),i≤j∧j≤l.length∧m=j-i∧(∀ q x,q<i→l[q]?=some x→lt2 (x.1,x.2.1) (y.1,y.2.1))∧(∀ q x,j≤q→l[q]?=some x→¬ lt2 (x.1,x.2.1) (y.1,y.2.1))∧H=[some (dY y)] ∧
  Slots 49 [(0,.lst (l.map dY)),(2,.func (.func 178) [] []),(4,.ptr 0 0),(8,.int .i64 l.length),(9,.int .i64 i),(10,.int .i64 j)] fr) (m:=l.length) (by omega) ⟨0,l.length,by omega,by omega,by omega,fun q x h=>by omega,fun q x h hx=>by have:=(List.getElem?_eq_some_iff.1 hx).1;omega,rfl,by simp⟩ ?_
 rintro m fr H ⟨i,j,hij,hj,rfl,hlo,hhi,rfl,hs⟩
 obtain⟨w,rfl⟩:=hs.ex
 clear hs
 by_cases hlt:i<j
 ·have hI:(i:Int)<j:=by omega
  obtain⟨c0,hc0⟩:∃ q:Nat,q=(i+j) / 2:=⟨_,rfl⟩
  have hmid:((i:Int)+j).fdiv (2 ^ min 1 IntKind.u64.bits)=(c0:Nat):=by
   rw[show ((2:Int) ^ min 1 IntKind.u64.bits)=2 from rfl,Int.fdiv_eq_ediv_of_nonneg _ (by omega)]
   omega
  have hm1:i≤c0∧c0<j:=by omega
  obtain⟨x,hx⟩:∃ x,l[c0]?=some x:=⟨_,List.getElem?_eq_getElem (by omega)⟩
  have hu:IntKind.u64.wrap ((i:Int)+j)=(i:Int)+j:=zr (by omega) (by omega)
  have hu2:IntKind.u64.wrap ((c0:Nat):Int)=((c0:Nat):Int):=zr (by omega) (by omega)
  have hu3:IntKind.i64.wrap ((c0:Nat):Int)=((c0:Nat):Int):=wrap64 (by omega) (by omega)
  have hu4:IntKind.i64.wrap ((i:Int)+j)=(i:Int)+j:=wrap64 (by omega) (by omega)
  simp(disch:=omega)[hI,hu,hu4,Gi,Gj,cz,hmid,hu3]
  refine ai 6 (by kernel_rfl) ?_
  simp(disch:=omega)[hx,hxl,hxt,hym,hC,-getElem?_pos]
  refine ak (fun hb=>?_) (fun hb=>?_)
  ·have hb2:lt2 (x.1,x.2.1) (y.1,y.2.1):=by
    have h1:¬ 0≤gS x.1 x.2.1 y.1 y.2.1:=by simpa using hb
    rw[pairS_neg]at h1
    exact Decidable.not_not.1 h1
   simp(disch:=omega)[wrap64]
   refine ae (m':=j-(c0+1)) (by omega) ⟨c0+1,j,by omega,hj,rfl,fun q z hq hz=>?_,hhi,rfl,by simp(disch:=omega)⟩
   by_cases hqe:q=c0
   ·subst hqe
    rw[hx]at hz
    cases hz
    exact hb2
   ·exact (iB ho (i:=q) (j:=c0) (by omega) (by rw[List.getElem?_map,hz];rfl) (by rw[List.getElem?_map,hx];rfl)).trans hb2
  ·have hb2:¬ lt2 (x.1,x.2.1) (y.1,y.2.1):=pairS_neg.1 (by simpa using hb)
   simp(disch:=omega)
   refine ae (m':=c0-i) (by omega) ⟨i,c0,by omega,by omega,rfl,hlo,fun q z hq hz=>?_,rfl,by simp(disch:=omega)⟩
   by_cases hqe:q=c0
   ·subst hqe
    rw[hx]at hz
    cases hz
    exact hb2
   ·exact fun g=>hb2 ((iB ho (i:=c0) (j:=q) (by omega) (by rw[List.getElem?_map,hx];rfl) (by rw[List.getElem?_map,hz];rfl)).trans g)
 ·obtain rfl:i=j:=by omega
  simp(disch:=omega)
  refine ai 15 (by kernel_rfl) ?_
  by_cases hil:i<l.length
  ·have hI:(i:Int)<l.length:=by omega
   obtain⟨x,hx⟩:∃ x,l[i]?=some x:=⟨_,List.getElem?_eq_getElem hil⟩
   have hd:∀ z:Bool,z=decide (gS x.1 x.2.1 y.1 y.2.1=0)→BsR (fun x=>(x.1,x.2.1)) l y.1 y.2.1 (.tup [.int .i64 i,.bool z]):=by
    intro z hz
    refine⟨i,z,rfl,fun h0=>⟨x,hx,?_⟩,fun h0 z hz2 hk=>?_⟩
    ·rw[h0]at hz
     exact pairS_z.1 (of_decide_eq_true hz.symm)
    rw[h0]at hz
    replace h0:=of_decide_eq_false hz.symm
    replace hz:=hz2
    replace hk:z.1=y.1∧z.2.1=y.2.1:=hk
    obtain⟨q,hq,hzq⟩:=List.getElem_of_mem hz
    have hzq':l[q]?=some z:=by rw[List.getElem?_eq_getElem hq,hzq]
    rcases Nat.lt_trichotomy q i with h1|h1|h1
    ·have:=hlo q z h1 hzq'
     unfold lt2 at this
     simp at this
     omega
    ·subst h1
     rw[hx]at hzq'
     cases hzq'
     exact h0 (pairS_z.2 hk)
    ·have h2:=iB ho (i:=i) (j:=q) h1 (by rw[List.getElem?_map,hx];rfl) (by rw[List.getElem?_map,hzq'];rfl)
     have h3:=hhi i x (Nat.le_refl _) hx
     unfold lt2 at h2 h3
     simp at h2 h3
     omega
   simp(disch:=omega)[hI,hx,hxl,hxt,hym,hm,hC,-getElem?_pos]
   exact hd _ rfl
  ·have hI:¬ (i:Int)<l.length:=by omega
   simp(disch:=omega)[hI]
   refine⟨i,false,rfl,fun h0=>(by cases h0),fun _ z hz hk=>?_⟩
   obtain⟨q,hq,hzq⟩:=List.getElem_of_mem hz
   have:=hlo q z (by omega) (by rw[List.getElem?_eq_getElem hq,hzq])
   replace hk:z.1=y.1∧z.2.1=y.2.1:=hk
   unfold lt2 at this
   simp at this
   omega
end
end Bi
end Go.Ab
namespace Go.Ab
open Go.Proofs Go.Proofs.Tryz
namespace Bi
attribute [local congr] az
theorem du{f:Fnt}(h:bJ f=0):f.adv.length≤100∧f.ker.length≤100∧f.lig.length≤100∧jm f∧lF f:=by
 unfold bJ at h
 split at h
 ·cases h
 ·rename_i h1
  split at h
  ·cases h
  ·rename_i h2
   split at h
   ·cases h
   ·rename_i h3
    exact⟨by omega,by omega,by omega,Classical.byContradiction h2,Classical.byContradiction h3⟩
def vV(f:Fnt)(r:Int)(l:List (Int×Int×Int)):Int:=l.foldl (fun w x=>if x.1≤r∧r≤x.2.1 then x.2.2 else w) f.df
def uo(c:Int):Prop:=c=4∨c=5∨c=3∨c=1∨c=2
instance {c:Int}:Decidable (uo c):=by unfold uo;exact inferInstance
def ki(f:Fnt)(size r:Int):Int:=if uo (cBr r) then 0 else jq f size (vV f r f.adv)
def ja(f:Fnt)(size a b:Int):Int:=match f.ker.find? (fun x=>decide (x.1=a)&&decide (x.2.1=b)) with
 | some x=>jq f size x.2.2
 | none=>0
def jQ(f:Fnt)(a b:Int):Option (Int×Int×Int×Int):=f.lig.find? (fun x=>decide (x.1=a)&&decide (x.2.1=b))
def mg(f:Fnt)(size:Int):Int:=jq f size f.d
def oD(f:Fnt)(size:Int):Int:=if jq f size f.a=0∧mg f size=0 then 1 else jq f size f.a
def uE(f:Fnt)(size:Int):Int:=oD f size+mg f size+jq f size f.g
theorem vW{f:Fnt}(hd:0≤f.df∧f.df≤4096){r:Int}:∀ (l:List (Int×Int×Int)),(∀ x∈l,okA x)→0≤vV f r l∧vV f r l≤4096:=by
 suffices H:∀ (l:List (Int×Int×Int)) (w:Int),0≤w∧w≤4096→(∀ x∈l,okA x)→0≤l.foldl (fun w x=>if x.1≤r∧r≤x.2.1 then x.2.2 else w) w∧l.foldl (fun w x=>if x.1≤r∧r≤x.2.1 then x.2.2 else w) w≤4096 from fun l hl=>H l f.df hd hl
 intro l
 induction l with
 | nil=>intro w hw _;exact hw
 | cons x l ih =>
  intro w hw hl
  rw[List.foldl_cons]
  refine ih _ ?_ fun y hy=>hl y (List.mem_cons_of_mem _ hy)
  have:=hl x List.mem_cons_self
  unfold okA at this
  split<;>omega
theorem gX{f:Fnt}(hu:16≤f.u){size w:Int}(hs:1≤size)(hs2:size≤1000)(hw:0≤w)(hw2:w≤4096):0≤jq f size w∧jq f size w≤5000000:=by
 have h1:0≤w*size:=Int.mul_nonneg hw (by omega)
 have h2:w*size≤4096*1000:=by
  have:=Int.mul_le_mul_of_nonneg_right hw2 (by omega:0≤size)
  have:=Int.mul_le_mul_of_nonneg_left hs2 (by omega:(0:Int)≤4096)
  omega
 unfold jq
 refine⟨FJ h1 (by omega),?_⟩
 unfold xE
 refine Int.ediv_le_of_le_mul (by omega) ?_
 have h3:5000000*(2*16)≤5000000*(2*f.u):=by omega
 omega
theorem uf{α:Type}{k:α→Int×Int}{l:List α}(ho:uY (l.map k)){i:Nat}{x:α}(hx:l[i]?=some x){a b:Int}(h1:(k x).1=a)(h2:(k x).2=b):l.find? (fun x=>decide ((k x).1=a)&&decide ((k x).2=b))=some x:=by
 rw[List.find?_eq_some_iff_getElem]
 refine⟨by simp[h1,h2],i,(List.getElem?_eq_some_iff.1 hx).1,(List.getElem?_eq_some_iff.1 hx).2,fun j hj=>?_⟩
 have hl:=(List.getElem?_eq_some_iff.1 hx).1
 have h3:=iB ho (i:=j) (j:=i) hj (by rw[List.getElem?_map,List.getElem?_eq_getElem (by omega)];rfl) (by rw[List.getElem?_map,hx];rfl)
 unfold lt2 at h3
 simp only[Bool.not_eq_true',Bool.and_eq_false_iff,decide_eq_false_iff_not]
 omega
section
variable {prim:FuncId→Option Prim}(d:Nat) (cfg:Cfg) (h:Heap)
set_option maxRecDepth 100000 in
set_option maxHeartbeats 4000000 in
theorem wc(hp:∀ f,Np5 f→prim f=none)(f:Fnt)(hv:bJ f=0)(size r:Int)(hs:1≤size)(hs2:size≤1000):
  af md (K prim (d+7)) cfg 159 [.agg (aH f),.int .i64 size,.int .i32 r] h=some (.int .i64 (ki f size r),h):=by
 obtain⟨g1,g2,g3,hr,ho⟩:=du hv
 refine bo rfl (hp 159 (by decide)) func159 rfl rfl rfl (by simp[aH]) ?_
 obtain⟨hlf,hmp,l8,t8,s0,s1,s2,s3,s4,s5,s6,s7⟩:=fsl f
 have hbF:∀ Y:Heap,ab (some (aH f)::Y) 0=some (aH f):=fun Y=>rfl
 have hU:=fun cfg h=>ia (prim:=prim) d cfg h hp f (by omega) (by omega) (by omega) size
 have hB:=fun cfg h r=>wq (prim:=prim) (d+3) hp cfg h r
 have hd:0≤f.df∧f.df≤4096:=by have:=hr.1;unfold fV at this;omega
 have hu:16≤f.u∧f.u≤4096:=by have:=hr.1;unfold fV at this;omega
 have hw:=vW hd (r:=r) f.adv hr.2.1
 have hS:=fun cfg h w h1 h2=>fP (prim:=prim) (d+3) cfg h hp f size w hu.1 hu.2 hs hs2 h1 h2
 simp(disch:=omega)[hlf,hmp,l8,t8,hU,hv,hs,hs2,hB]
 unfold ki
 by_cases hz:uo (cBr r)
 ·rw[if_pos hz]
  rcases hz with hz|hz|hz|hz|hz<;>simp[hz]
 rw[if_neg hz]
 have hz1:¬ cBr r=4∧¬ cBr r=5∧¬ cBr r=3∧¬ cBr r=1∧¬ cBr r=2:=by unfold uo at hz;omega
 obtain⟨z1,z2,z3,z4,z5⟩:=hz1
 simp(disch:=omega)[z1,z2,z3,z4,z5,hmp,s4,s5]
 refine aj (fun m fr H=>∃ (i:Nat) (T:Heap),i≤f.adv.length∧m=f.adv.length-i∧H=some (aH f)::T∧Slots 48 [(1,.int .i64 size),(2,.int .i32 r),(3,.ptr 0 0),(7,.int .i64 (vV f r (f.adv.take i))),(25,.lst (f.adv.map dS)),(26,.int .i64 f.adv.length),(27,.int .i64 i)] fr) (m:=f.adv.length) (by omega) ⟨0,[],by omega,by omega,rfl,by simp[vV]⟩ ?_
 rintro m fr H ⟨i,T,hi,rfl,rfl,hs⟩
 obtain⟨j,rfl⟩:=hs.ex
 clear hs
 by_cases hlt:i<f.adv.length
 ·have hI:(i:Int)<f.adv.length:=by omega
  obtain⟨x,hx⟩:∃ x,f.adv[i]?=some x:=⟨_,List.getElem?_eq_getElem hlt⟩
  have htk:vV f r (f.adv.take (i+1))=if x.1≤r∧r≤x.2.1 then x.2.2 else vV f r (f.adv.take i):=by
   rw[List.take_add_one,hx]
   simp[vV]
  simp +contextual (disch:=first|omega|(simp;done)|(simp[Decidable.imp_iff_not_or];done)|fail) [-ao,bM,aq,ax,bh,-getElem?_pos,dS,hI,hx]
  refine ak (fun hb=>?_) (fun hb=>?_)
  ·rw[if_pos (by simpa using hb)]at htk
   simp(disch:=omega)[wrap64]
   exact ae (m':=f.adv.length-(i+1)) (by omega) ⟨i+1,_,by omega,by omega,rfl,by simp(disch:=omega)[htk]⟩
  ·rw[if_neg (by simpa using hb)]at htk
   simp(disch:=omega)[wrap64]
   exact ae (m':=f.adv.length-(i+1)) (by omega) ⟨i+1,_,by omega,by omega,rfl,by simp(disch:=omega)[htk]⟩
 ·obtain rfl:i=f.adv.length:=by omega
  simp(disch:=omega)[hbF,l8,t8,hS]
set_option maxHeartbeats 4000000 in
theorem BN(hp:∀ f,Np5 f→prim f=none)(f:Fnt)(hv:bJ f=0)(size a b:Int)(hs:1≤size)(hs2:size≤1000):
  af md (K prim (d+7)) cfg 160 [.agg (aH f),.int .i64 size,.int .i32 a,.int .i32 b] h=some (.int .i64 (ja f size a b),h):=by
 obtain⟨g1,g2,g3,hr,ho⟩:=du hv
 refine bo rfl (hp 160 (by decide)) func160 rfl rfl rfl (by simp[aH]) ?_
 obtain⟨hlf,hmp,l8,t8,s0,s1,s2,s3,s4,s5,s6,s7⟩:=fsl f
 have hU:=fun cfg h=>ia (prim:=prim) d cfg h hp f (by omega) (by omega) (by omega) size
 have hu:16≤f.u∧f.u≤4096:=by have:=hr.1;unfold fV at this;omega
 have hS:=fun cfg h w h1 h2=>fP (prim:=prim) (d+3) cfg h hp f size w hu.1 hu.2 hs hs2 h1 h2
 obtain⟨_,⟨i,fd,rfl,hf1,hf2⟩,hF⟩:=Cl (prim:=prim) (d+1) hp f.ker (by omega) ho.2.1 (a,b,0)
 rw[show dS (a,b,0)=[.int .i32 a,.int .i32 b,.int .i64 0] from rfl]at hF
 have hm:md 97=0:=rfl
 simp(disch:=omega)[hlf,hmp,l8,t8,hU,hv,hs,hs2,s6,hF]
 cases fd with
 | false =>
  have hn:ja f size a b=0:=by
   unfold ja
   rw[List.find?_eq_none.2 fun x hx=>by have:=hf2 rfl x hx;simpa using this]
  simp[hn]
 | true =>
  obtain⟨x,hx,hx1,hx2⟩:=hf1 rfl
  have hn:ja f size a b=jq f size x.2.2:=by
   unfold ja
   rw[uf (k:=fun x:Int×Int×Int=>(x.1,x.2.1)) ho.2.1 hx hx1 hx2]
  have hk:=hr.2.2.1 x (List.mem_of_getElem? hx)
  unfold okK at hk
  have hil:=(List.getElem?_eq_some_iff.1 hx).1
  rw[hn]
  simp
  refine ai 8 (by kernel_rfl) ?_
  simp(disch:=omega)[hmp,l8,t8,s6,hx,dS,hS,-getElem?_pos]
set_option maxHeartbeats 4000000 in
theorem Eu(hp:∀ f,Np5 f→prim f=none)(f:Fnt)(hv:bJ f=0)(a b:Int):
  af md (K prim (d+7)) cfg 173 [.agg (aH f),.int .i32 a,.int .i32 b] h=some (.tup [.agg (dY ((jQ f a b).getD (0,0,0,0))),.bool (jQ f a b).isSome],h):=by
 obtain⟨g1,g2,g3,hr,ho⟩:=du hv
 refine bo rfl (hp 173 (by decide)) func173 rfl rfl rfl (by simp[aH]) ?_
 obtain⟨hlf,hmp,l8,t8,s0,s1,s2,s3,s4,s5,s6,s7⟩:=fsl f
 obtain⟨_,rfl,hV⟩:=tt (prim:=prim) (d+1) hp f (by omega) (by omega) (by omega)
 obtain⟨_,⟨i,fd,rfl,hf1,hf2⟩,hF⟩:=Cp (prim:=prim) (d+1) hp f.lig (by omega) ho.2.2 (a,b,0,0)
 rw[show dY (a,b,0,0)=[.int .i32 a,.int .i32 b,.int .i64 0,.int .i64 0] from rfl]at hF
 rw[hv]at hV
 simp(disch:=omega)[hlf,hmp,l8,t8,hV,s7,hF]
 cases fd with
 | false =>
  have hn:jQ f a b=none:=by
   unfold jQ
   rw[List.find?_eq_none.2 fun x hx=>by have:=hf2 rfl x hx;simpa using this]
  simp[hn,dY]
 | true =>
  obtain⟨x,hx,hx1,hx2⟩:=hf1 rfl
  have hn:jQ f a b=some x:=by
   unfold jQ
   exact uf (k:=fun x:Int×Int×Int×Int=>(x.1,x.2.1)) ho.2.2 hx hx1 hx2
  have hil:=(List.getElem?_eq_some_iff.1 hx).1
  rw[hn]
  simp(disch:=omega)[hmp,s7,hx,dY,-getElem?_pos]
theorem pd(hp:∀ f,Np5 f→prim f=none)(f:Fnt)(hv:bJ f=0)(size:Int)(hs:1≤size)(hs2:size≤1000):
  af md (K prim (d+7)) cfg 60 [.agg (aH f),.int .i64 size] h=some (.int .i64 (mg f size),h):=by
 obtain⟨g1,g2,g3,hr,ho⟩:=du hv
 refine bo rfl (hp 60 (by decide)) func60 rfl rfl rfl (by simp[aH]) ?_
 obtain⟨hlf,hmp,l8,t8,s0,s1,s2,s3,s4,s5,s6,s7⟩:=fsl f
 have hU:=fun cfg h=>ia (prim:=prim) d cfg h hp f (by omega) (by omega) (by omega) size
 have hn:=hr.1
 unfold fV at hn
 have hS:=fun cfg h=>fP (prim:=prim) (d+3) cfg h hp f size f.d (by omega) (by omega) hs hs2 (by omega) (by omega)
 simp(disch:=omega)[hlf,hmp,l8,t8,hU,hv,hs,hs2,s2,hS,mg]
theorem ym(hp:∀ f,Np5 f→prim f=none)(f:Fnt)(hv:bJ f=0)(size:Int)(hs:1≤size)(hs2:size≤1000):
  af md (K prim (d+8)) cfg 59 [.agg (aH f),.int .i64 size] h=some (.int .i64 (oD f size),h):=by
 obtain⟨g1,g2,g3,hr,ho⟩:=du hv
 refine bo rfl (hp 59 (by decide)) func59 rfl rfl rfl (by simp[aH]) ?_
 obtain⟨hlf,hmp,l8,t8,s0,s1,s2,s3,s4,s5,s6,s7⟩:=fsl f
 have hU:=fun cfg h=>ia (prim:=prim) (d+1) cfg h hp f (by omega) (by omega) (by omega) size
 have hn:=hr.1
 unfold fV at hn
 have hS:=fun cfg h=>fP (prim:=prim) (d+4) cfg h hp f size f.a (by omega) (by omega) hs hs2 (by omega) (by omega)
 have hD:=fun cfg h=>pd (prim:=prim) d cfg h hp f hv size hs hs2
 unfold oD
 by_cases h1:jq f size f.a=0
 ·by_cases h2:mg f size=0
  ·simp(disch:=omega)[hlf,hmp,l8,t8,hU,hv,hs,hs2,s1,hS,hD,h1,h2]
  ·simp(disch:=omega)[hlf,hmp,l8,t8,hU,hv,hs,hs2,s1,hS,hD,h1,h2]
 ·simp(disch:=omega)[hlf,hmp,l8,t8,hU,hv,hs,hs2,s1,hS,h1]
theorem kR{f:Fnt}(hv:bJ f=0){size:Int}(hs:1≤size)(hs2:size≤1000):0≤oD f size∧oD f size≤5000000∧0≤mg f size∧mg f size≤5000000∧1≤oD f size+mg f size∧oD f size+mg f size≤uE f size∧uE f size≤15000000:=by
 obtain⟨g1,g2,g3,hr,ho⟩:=du hv
 have hn:=hr.1
 unfold fV at hn
 have h1:=gX (f:=f) hn.1 hs hs2 (w:=f.a) (by omega) (by omega)
 have h2:=gX (f:=f) hn.1 hs hs2 (w:=f.d) (by omega) (by omega)
 have h3:=gX (f:=f) hn.1 hs hs2 (w:=f.g) (by omega) (by omega)
 unfold uE oD mg
 split<;>omega
theorem Er(hp:∀ f,Np5 f→prim f=none)(f:Fnt)(hv:bJ f=0)(size:Int)(hs:1≤size)(hs2:size≤1000):
  af md (K prim (d+9)) cfg 61 [.agg (aH f),.int .i64 size] h=some (.int .i64 (uE f size),h):=by
 obtain⟨g1,g2,g3,hr,ho⟩:=du hv
 refine bo rfl (hp 61 (by decide)) func61 rfl rfl rfl (by simp[aH]) ?_
 obtain⟨hlf,hmp,l8,t8,s0,s1,s2,s3,s4,s5,s6,s7⟩:=fsl f
 have hU:=fun cfg h=>ia (prim:=prim) (d+2) cfg h hp f (by omega) (by omega) (by omega) size
 have hn:=hr.1
 unfold fV at hn
 have hS:=fun cfg h=>fP (prim:=prim) (d+5) cfg h hp f size f.g (by omega) (by omega) hs hs2 (by omega) (by omega)
 have hD:=fun cfg h=>pd (prim:=prim) (d+1) cfg h hp f hv size hs hs2
 have hA:=fun cfg h=>ym (prim:=prim) d cfg h hp f hv size hs hs2
 have hr2:=kR hv hs hs2
 have h3:=gX (f:=f) hn.1 hs hs2 (w:=f.g) (by omega) (by omega)
 have m1:md 59=0:=rfl
 have m2:md 60=0:=rfl
 have m3:md 97=0:=rfl
 simp(disch:=omega)[hlf,hmp,l8,t8,hU,hv,hs,hs2]
 refine ai 11 (by kernel_rfl) ?_
 simp(disch:=omega)[hmp,l8,t8,s3,hS,hD,hA,m1,m2,wrap64,uE]
end
end Bi
end Go.Ab
namespace Go.Ab
def sz{α β:Type}(k:α→List V)(v:β→V)(es:List (α×β)):List (List V):=es.map fun e=>[.agg (k e.1),v e.2]
structure A6(P:Program)(t:TypeId)(n:Nat)(z:V){α:Type}[DecidableEq α](k:α→List V):Prop where
 kinds:fU P t=none
 tys:∃ a fs,kH P t=some (a,fs,z)∧fs.length=n∧∀ x y:α,eqV P a (.agg (k x)) (.agg (k y))=some (decide (x=y))
 len:∀ x:α,(k x).length=n
 flat:∀ x:α,fg (.agg (k x))=true
section
variable {P:Program}{t:TypeId}{n:Nat}{z:V}{α β:Type}[DecidableEq α] {k:α→List V}{v:β→V}
theorem ph{a:TypeId}(he:∀ x y:α,eqV P a (.agg (k x)) (.agg (k y))=some (decide (x=y)))(x:α):∀ es:List (α×β),findS P a (.agg (k x)) (sz k v es)=some ((es.lookup x).map v)
 | []=>rfl
 | (y,b)::es=>by
  have ih:=ph he x es
  rw[sz,List.map_cons,findS,he]
  by_cases h:x=y
  ·subst h
   simp[List.lookup]
  ·simp only[h,decide_false]
   rw[show List.map (fun e=>[V.agg (k e.1),v e.2]) es=sz k v es from rfl,ih,List.lookup_cons,beq_eq_false_iff_ne.2 h]
theorem rC{h:Heap}{b:Nat}{l:List (List V)}(hb:h[b]?=some (some [.mq l])):kG h b=some l:=by simp[kG,hb]
theorem pM(m:A6 P t n z k){h:Heap}{b:Nat}{es:List (α×β)}(hb:h[b]?=some (some [.mq (sz k v es)]))(x:α):eX P h t (.mref b) (.agg (k x)) true=some (.tup [((es.lookup x).map v).getD z,.bool (es.lookup x).isSome]):=by
 obtain⟨a,fs,h1,h2,h3⟩:=m.tys
 simp only[eX,m.kinds,nY,h1,rC hb,m.flat,m.len,h2,decide_true,Bool.and_self,if_true,ph h3]
 cases es.lookup x<;>rfl
theorem qq(m:A6 P t n z k){cfg:Cfg}{h:Heap}{b:Nat}{es:List (α×β)}(hb:h[b]?=some (some [.mq (sz k v es)]))(hw:cfg.wr b=true)(x:α)(hx:es.lookup x=none)(y:β)(hy:fg (v y)=true):
  cu P cfg h t (.mref b) (.agg (k x)) (v y)=some (h.set b (some [.mq (sz k v (es++[(x,y)]))])):=by
 obtain⟨a,fs,h1,h2,h3⟩:=m.tys
 have hf:=m.flat x
 simp only[cu,m.kinds,mapUpdateS,h1,rC hb,hf,m.len,h2,hy,hw,decide_true,Bool.and_self,if_true,ph h3,hx,Option.map_none]
 simp[sz]
end
theorem nk{P:Program}{md:FuncId→Nat}{call:aR}{cfg:Cfg}{fr:List V}{h:Heap}{t:TypeId}{m k:Operand}{ok:Bool}:aF P md call cfg fr h (.lookup t m k ok)=((ev fr m).bind fun a=>(ev fr k).bind fun b=>eX P h t a b ok).map (·,h):=by
 simp only[aF,opV]
 cases ev fr m with
 | none=>rfl
 | some a=>cases ev fr k<;>rfl
theorem fW{P:Program}{md:FuncId→Nat}{call:aR}{cfg:Cfg}{fr:List V}{h:Heap}{t:TypeId}{m k x:Operand}:aF P md call cfg fr h (.mapUpdate t m k x)=((ev fr m).bind fun a=>(ev fr k).bind fun b=>(ev fr x).bind fun c=>cu P cfg h t a b c).map (.no,·):=by
 simp only[aF,opV]
 cases ev fr m with
 | none=>rfl
 | some a=>cases ev fr k with
  | none=>rfl
  | some b=>cases ev fr x with
   | none=>rfl
   | some c=>simp only[Option.bind_some];cases cu P cfg h t a b c<;>rfl
theorem mapsIn_mem{h:Heap}{b:Nat}:b∈mapsIn h↔∃ cs,h[b]?=some (some cs)∧isMap cs=true:=by
 unfold mapsIn
 rw[List.mem_filter,List.mem_range]
 constructor
 ·rintro⟨h1,h2⟩
  split at h2
  ·rename_i cs hc;exact⟨cs,hc,h2⟩
  ·cases h2
 ·rintro⟨cs,h1,h2⟩
  exact⟨(List.getElem?_eq_some_iff.1 h1).1,by simp[h1,h2]⟩
theorem tz{h:Heap}{b lo thr:Nat}{l:List (List V)}(hb:h[b]?=some (some [.mq l])):(Cfg.wr ⟨lo,mapsIn h,thr⟩ b)=true:=by
 have:b∈mapsIn h:=mapsIn_mem.2 ⟨_,hb,rfl⟩
 simp[Cfg.wr,this]
theorem Cs{h:Heap}{p:Nat→Bool}(hp:∀ b cs,h[b]?=some (some cs)→isMap cs=true→p b=true):(mapsIn h).all p=true:=by
 rw[List.all_eq_true]
 intro b hb
 obtain⟨cs,h1,h2⟩:=mapsIn_mem.1 hb
 exact hp b cs h1 h2
theorem iy{h:Heap}{ld:List Nat}(hl:∀ b∈ld,∃ cs,ab h b=some cs):ny ld (mapsIn h)=true:=by
 unfold ny
 rw[List.all_eq_true]
 intro b hb
 obtain⟨cs,h1,h2⟩:=mapsIn_mem.1 hb
 rw[Bool.not_eq_true',List.contains_eq_mem,decide_eq_false_iff_not]
 intro hm
 obtain⟨cs',h3⟩:=hl b hm
 simp[ab,h1,h2]at h3
section
variable {P:Program}{md:FuncId→Nat}{prim:FuncId→Option Prim}{n:Nat}
theorem kj{d:Nat}{f:FuncId}{fn:Func}{c:Code}{k:Nat}{rs:List ResultVar}{args:List V}{h:Heap}{Post:V→Heap→Prop}(hm:md f=4)(hp:prim f=none)(hf:P.funcs[f]?=some fn)(hb:fn.body=some c)(hk:fn.ntmps=k)
  (hr:fn.results.toList=rs) {cfg:Cfg}
  (hw:@wC P md (aI P md prim n d) ⟨cfg.lo,cfg.ex,h.length⟩ n ⟨c⟩ (args++List.replicate (k-args.length) .no) h ⟨@kFn P ⟨rs⟩ ⟨fun r' h'=>∃ r,frz h' h.length 6 r'=some r∧Post r (h'.take h.length)⟩⟩):
  ∃ r h2,af md (aI P md prim n (d+1)) cfg f args h=some (r,h2)∧Post r h2:=by
 obtain⟨r',h',h1,r,h2,h3⟩:=cx hp hf hb hk hr hw
 exact⟨r,_,by simp only[af,hm,h1,h2],h3⟩
theorem wm{d:Nat}{f:FuncId}{fn:Func}{c:Code}{k:Nat}{rs:List ResultVar}{args:List V}{h:Heap}{Post:V→Heap→Prop}(hm:md f=5)(hp:prim f=none)(hf:P.funcs[f]?=some fn)(hb:fn.body=some c)(hk:fn.ntmps=k)
  (hr:fn.results.toList=rs) {cfg:Cfg}
  (hw:@wC P md (aI P md prim n d) cfg n ⟨c⟩ (args++List.replicate (k-args.length) .no) h ⟨@kFn P ⟨rs⟩ ⟨Post⟩⟩):
  ∃ r h2,af md (aI P md prim n (d+1)) cfg f args h=some (r,h2)∧Post r h2:=by
 obtain⟨r',h',h1,h2⟩:=cx hp hf hb hk hr hw
 exact⟨r',h',by simp only[af,hm,h1],h2⟩
end
end Go.Ab
namespace Go.Ab
namespace Bi
structure Gly where
 i:Int
 m:Int
 f:Int
 t:Int
 x:Int
 a:Int
 n:Int
 z:Int
def au(g:Gly):List V:=[.int .i64 g.i,.int .i64 g.m,.int .i64 g.f,.int .i64 g.t,.int .i64 g.x,.int .i64 g.a,.int .i64 g.n,.int .i64 g.z]
theorem aP(g:Gly):(au g).length=8:=rfl
theorem EE{l:List Gly}{i:Nat}{g:Gly}(h:l[i]?=some g):slot (l.flatMap au) (i*8+2)=some (.int .i64 g.f):=eb aP (by omega) h
theorem EF{l:List Gly}{i:Nat}{g:Gly}(h:l[i]?=some g):slot (l.flatMap au) (i*8+3)=some (.int .i64 g.t):=eb aP (by omega) h
theorem sG{l:List Gly}{i:Nat}{g:Gly}(h:l[i]?=some g):slot (l.flatMap au) (i*8+5)=some (.int .i64 g.a):=eb aP (by omega) h
theorem uA{l:List Gly}{i:Nat}{g:Gly}(h:l[i]?=some g){v:Int}:bV (l.flatMap au) (i*8+4) (.int .i64 v)=(l.set i { g with x:=v }).flatMap au:=gJ aP (by omega) h rfl
theorem B4{l:List Gly}{i:Nat}{g:Gly}(h:l[i]?=some g){v:Int}:bV (l.flatMap au) (i*8+5) (.int .i64 v)=(l.set i { g with a:=v }).flatMap au:=gJ aP (by omega) h rfl
theorem fA(l:List Gly):isMap (l.flatMap au)=false:=by cases l<;>rfl
theorem br(l:List Gly):(l.flatMap au).length=l.length*8:=cX aP l
def Chn:Int→Int→List Gly→Prop
 | a,b,[]=>a=b
 | a,b,g::l=>g.f=a∧a<g.t∧Chn g.t b l
theorem Chn.len:∀ {l:List Gly}{a b:Int},Chn a b l→(l.length:Int)≤b-a
 | [],a,b,h=>by have h:a=b:=h;simp;omega
 | _::_,_,_,⟨_,h2,h3⟩=>by have:=h3.len;simp;omega
theorem Chn.le{l:List Gly}{a b:Int}(h:Chn a b l):a≤b:=by have:=h.len;omega
theorem Chn.snoc:∀ {l:List Gly}{a b:Int}{g:Gly},Chn a b l→g.f=b→b<g.t→Chn a g.t (l++[g])
 | [],_,_,_,h,h1,h2=>⟨h1.trans (Eq.symm h),by rw[show _=_ from h];exact h2,rfl⟩
 | _::_,_,_,_,⟨h1,h2,h3⟩,g1,g2=>⟨h1,h2,h3.snoc g1 g2⟩
theorem Chn.set:∀ {l:List Gly}{a b:Int}{i:Nat}{g g':Gly},Chn a b l→l[i]?=some g→g'.f=g.f→g'.t=g.t→Chn a b (l.set i g')
 | [],_,_,_,_,_,_,h,_,_=>by simp at h
 | x::l,a,b,0,g,g',⟨h1,h2,h3⟩,h,e1,e2=>by
  simp at h
  subst h
  exact⟨e1.trans h1,by rw[e2];exact h2,by rw[e2];exact h3⟩
 | x::l,a,b,i+1,g,g',⟨h1,h2,h3⟩,h,e1,e2=>⟨h1,h2,h3.set (by simpa using h) e1 e2⟩
theorem Chn.last:∀ {l:List Gly}{a b:Int}{g g':Gly},Chn a b l→l[l.length-1]?=some g→g'.f=g.f→g.f<g'.t→Chn a g'.t (l.set (l.length-1) g')
 | [],_,_,_,_,_,h,_,_=>by simp at h
 | [x],a,b,g,g',⟨h1,_,_⟩,h,e1,e2=>by
  simp at h
  subst h
  exact⟨e1.trans h1,by rw[← h1];exact e2,rfl⟩
 | x::y::l,a,b,g,g',⟨h1,h2,h3⟩,h,e1,e2=>by
  have:=h3.last (l:=y::l) (g:=g) (by simpa using h) e1 e2
  exact⟨h1,h2,by simpa using this⟩
theorem Chn.get:∀ {l:List Gly}{a b:Int}{i:Nat}{g:Gly},Chn a b l→l[i]?=some g→a≤g.f∧g.f<g.t∧g.t≤b∧(i+1<l.length→g.t<b)
 | [],_,_,_,_,_,h=>by simp at h
 | x::l,a,b,0,g,⟨h1,h2,h3⟩,h=>by
  simp at h
  subst h
  have:=h3.len
  exact⟨by omega,by omega,h3.le,fun hl=>by simp at hl;omega⟩
 | x::l,a,b,i+1,g,⟨h1,h2,h3⟩,h=>by
  obtain⟨k1,k2,k3,k4⟩:=h3.get (by simpa using h)
  exact⟨by omega,k2,k3,fun hl=>k4 (by simpa using hl)⟩
end Bi
end Go.Ab
namespace Go.Ab
open Go.Proofs Go.Proofs.Tryz
namespace Bi
attribute [local congr] az
structure PKey where
 face:Int
 size:Int
 a:Int
 b:Int
 s:Bool
deriving DecidableEq
def pkC(k:PKey):List V:=[.int .i64 k.face,.int .i64 k.size,.int .i32 k.a,.int .i32 k.b,.bool k.s]
def DF(x:(Int×Int×Int×Int)×Bool):List V:=dY x.1++[.bool x.2]
def qQ(x:(Int×Int×Int×Int)×Bool):V:=.agg (DF x)
noncomputable def GA(t:TypeId):List Field:=match kH prog t with
 | some (_,fs,_)=>fs
 | none=>[]
theorem GJ(x y:PKey):eqV prog 182 (.agg (pkC x)) (.agg (pkC y))=some (decide (x=y)):=by
 rw[BH (ks:=[.int,.int,.int,.int,.bool]) Tryz.underlying182 (by kernel_rfl) (by kernel_rfl) (by kernel_rfl)]
 obtain⟨f,s,a,b,c⟩:=x
 obtain⟨f',s',a',b',c'⟩:=y
 simp only[pkC,flatK,PKey.mk.injEq]
 by_cases h1:f=f'<;>by_cases h2:s=s'<;>by_cases h3:a=a'<;>by_cases h4:b=b'<;>by_cases h5:c=c'<;>simp[h1,h2,h3,h4,h5]
theorem mW:A6 prog 67 5 (.int .i64 0) pkC:=
 ⟨by kernel_rfl,⟨182,GA 67,by kernel_rfl,by kernel_rfl,GJ⟩,fun _=>rfl,fun _=>rfl⟩
theorem mU:A6 prog 68 5 (qQ ((0,0,0,0),false)) pkC:=
 ⟨by kernel_rfl,⟨182,GA 68,by kernel_rfl,by kernel_rfl,GJ⟩,fun _=>rfl,fun _=>rfl⟩
def prC(t fo:List Int)(bv:V)(mw mu:Nat):List V:=[rl t,il fo,bv,.mref mw,.mref mu]
def wdS(fs:List Fnt)(k:PKey):Int:=match fs[k.face.toNat]? with
 | some f=>if k.s then ki f k.size k.a else ja f k.size k.a k.b
 | none=>0
def unS(fs:List Fnt)(k:PKey):(Int×Int×Int×Int)×Bool:=match fs[k.face.toNat]? with
 | some f=>((jQ f k.a k.b).getD (0,0,0,0),(jQ f k.a k.b).isSome)
 | none=>((0,0,0,0),false)
abbrev fx:=List (PKey×Int)
abbrev fL:=List (PKey×((Int×Int×Int×Int)×Bool))
def WOK(fs:List Fnt)(es:fx):Prop:=∀ e∈es,e.2=wdS fs e.1
def UOK(fs:List Fnt)(es:fL):Prop:=∀ e∈es,e.2=unS fs e.1
abbrev wB(es:fx):Option (List V):=some [.mq (sz pkC (V.int .i64) es)]
abbrev uB(es:fL):Option (List V):=some [.mq (sz pkC qQ es)]
theorem kF{α β:Type}[DecidableEq α]{k:α}{v:β}:∀ {es:List (α×β)},es.lookup k=some v→(k,v)∈es
 | (a,b)::es,h=>by
  rw[List.lookup_cons]at h
  split at h
  ·rename_i hk
   cases h
   rw[eq_of_beq hk]
   exact List.mem_cons_self
  ·exact List.mem_cons_of_mem _ (kF h)
theorem xw(t fo:List Int)(b len cap mw mu:Nat):(prC t fo (.sl b 0 len cap 1) mw mu).all V.leaf=true∧isMap (prC t fo (.sl b 0 len cap 1) mw mu)=false∧(prC t fo (.sl b 0 len cap 1) mw mu).length=5∧(prC t fo (.sl b 0 len cap 1) mw mu).take 5=prC t fo (.sl b 0 len cap 1) mw mu ∧
  slot (prC t fo (.sl b 0 len cap 1) mw mu) 0=some (rl t)∧slot (prC t fo (.sl b 0 len cap 1) mw mu) 1=some (il fo)∧slot (prC t fo (.sl b 0 len cap 1) mw mu) 2=some (.sl b 0 len cap 1)∧slot (prC t fo (.sl b 0 len cap 1) mw mu) 3=some (.mref mw)∧slot (prC t fo (.sl b 0 len cap 1) mw mu) 4=some (.mref mu):=⟨rfl,rfl,rfl,rfl,rfl,rfl,rfl,rfl,rfl⟩
theorem pksl(k:PKey):(pkC k).all V.leaf=true∧isMap (pkC k)=false∧(pkC k).length=5∧(pkC k).take 5=pkC k∧putAt [V.int .i64 0,.int .i64 0,.int .i32 0,.int .i32 0,.bool false] 0 (pkC k)=pkC k ∧
  slot (pkC k) 0=some (.int .i64 k.face)∧slot (pkC k) 1=some (.int .i64 k.size)∧slot (pkC k) 2=some (.int .i32 k.a)∧slot (pkC k) 3=some (.int .i32 k.b)∧slot (pkC k) 4=some (.bool k.s):=⟨rfl,rfl,rfl,rfl,rfl,rfl,rfl,rfl,rfl,rfl⟩
theorem ed{H:Heap}{m:Nat}{Y:Option (List V)}{L:Heap}{k:Nat}:ab (H.set m Y++L) (H.length+k)=ab L k:=by
 have:=bD (h:=H.set m Y) (r:=L) (k:=k)
 rwa [List.length_set]at this
theorem Dl{H:Heap}{m:Nat}{Y Z:Option (List V)}{L:Heap}{k:Nat}:(H.set m Y++L).set (H.length+k) Z=H.set m Y++L.set k Z:=by
 rw[List.set_append_right _ _ (by simp),List.length_set,Nat.add_sub_cancel_left]
section
variable {prim:FuncId→Option Prim}(d:Nat)
set_option maxRecDepth 100000 in
set_option maxHeartbeats 4000000 in
theorem vX(hp:∀ f,Np5 f→prim f=none)(fs:List Fnt)(f:Fnt)(k:PKey)(hf:fs[k.face.toNat]?=some f)(hv:bJ f=0)(hs:1≤k.size)(hs2:k.size≤1000)(H:Heap)(mw mu:Nat)(es:fx)(hmw:H[mw]?=some (wB es))(hW:WOK fs es)
  (t fo:List Int) (bb len cap:Nat) (cfg:Cfg) (hw:cfg.wr mw=true):
  ∃ es',WOK fs es'∧af md (K prim (d+8)) cfg 134 [.agg (prC t fo (.sl bb 0 len cap 1) mw mu),.agg (aH f),.agg (pkC k)] H=some (.int .i64 (wdS fs k),H.set mw (wB es')):=by
 suffices HH:∃ r h2,af md (K prim (d+8)) cfg 134 [.agg (prC t fo (.sl bb 0 len cap 1) mw mu),.agg (aH f),.agg (pkC k)] H=some (r,h2)∧(r=.int .i64 (wdS fs k)∧∃ es',WOK fs es'∧h2=H.set mw (wB es')) by
  obtain⟨r,h2,h3,rfl,es',h4,rfl⟩:=HH
  exact⟨es',h4,h3⟩
 refine kj (Post:=fun r h2=>r=.int .i64 (wdS fs k)∧∃ es',WOK fs es'∧h2=H.set mw (wB es')) rfl (hp 134 (by decide)) func134 rfl rfl rfl ?_
 have hml:=(List.getElem?_eq_some_iff.1 hmw).1
 have hX:∀ X:Heap,(H++X)[mw]?=some (wB es):=fun X=>by rw[List.getElem?_append_left hml];exact hmw
 have hw':(Cfg.wr ⟨cfg.lo,cfg.ex,H.length⟩ mw)=true:=hw
 obtain⟨p1,p2,p3,p4,p5,p6,p7,p8,p9⟩:=xw t fo bb len cap mw mu
 obtain⟨q1,q2,q3,q4,q5,q6,q7,q8,q9,q10⟩:=pksl k
 obtain⟨f1,f2,f3,f4,_⟩:=fsl f
 have hL:=fun X=>pM mW (hX X) k
 have hA:=fun cfg h=>wc (prim:=prim) d cfg h hp f hv k.size k.a hs hs2
 have hK:=fun cfg h=>BN (prim:=prim) d cfg h hp f hv k.size k.a k.b hs hs2
 simp(disch:=omega)[p1,p2,p8,q1,q2,q3,q4,f1,nk,hL]
 cases hlk:es.lookup k with
 | some v =>
  have hv2:v=wdS fs k:=hW (k,v) (kF hlk)
  simp[hv2]
  exact⟨es,hW,(bI hmw).symm⟩
 | none =>
  have hUp:=fun X z=>qq (v:=V.int .i64) mW (cfg:=⟨cfg.lo,cfg.ex,H.length⟩) (hX X) hw' k hlk z rfl
  have hfin:WOK fs (es++[(k,wdS fs k)]):=by
   intro e he
   rcases List.mem_append.1 he with h|h
   ·exact hW e h
   ·rw[List.mem_singleton.1 h]
  have htk:∀ (X:Heap) Y,(H.set mw Y++X).take H.length=H.set mw Y:=fun X Y=>by rw[List.take_append_of_le_length (by simp),List.take_of_length_le (by simp)]
  cases hks:k.s with
  | true =>
   have hz:wdS fs k=ki f k.size k.a:=by unfold wdS;rw[hf];simp[hks]
   simp(disch:=omega)[q2,q3,q4,q7,q8,q10,hks,f2,f3,f4,hA,p2,p8,fW,hUp]
   refine⟨hz.symm,_,hfin,?_⟩
   rw[htk,hz]
  | false =>
   have hz:wdS fs k=ja f k.size k.a k.b:=by unfold wdS;rw[hf];simp[hks]
   simp(disch:=omega)[q2,q3,q4,q7,q8,q9,q10,hks,f2,f3,f4,hK,p2,p8,fW,hUp]
   refine⟨hz.symm,_,hfin,?_⟩
   rw[htk,hz]
set_option maxRecDepth 100000 in
set_option maxHeartbeats 4000000 in
theorem DG(hp:∀ f,Np5 f→prim f=none)(fs:List Fnt)(f:Fnt)(face a b:Int)(hf:fs[face.toNat]?=some f)(hv:bJ f=0)(H:Heap)(mw mu:Nat)(es:fL)(hmu:H[mu]?=some (uB es))(hU:UOK fs es)
  (t fo:List Int) (bb len cap:Nat) (cfg:Cfg) (hw:cfg.wr mu=true) (hlo:cfg.lo≤H.length):
  ∃ es',UOK fs es'∧af md (K prim (d+8)) cfg 164 [.agg (prC t fo (.sl bb 0 len cap 1) mw mu),.agg (aH f),.int .i64 face,.int .i32 a,.int .i32 b] H=some (qQ (unS fs ⟨face,0,a,b,false⟩),H.set mu (uB es')):=by
 suffices HH:∃ r h2,af md (K prim (d+8)) cfg 164 [.agg (prC t fo (.sl bb 0 len cap 1) mw mu),.agg (aH f),.int .i64 face,.int .i32 a,.int .i32 b] H=some (r,h2)∧(r=qQ (unS fs ⟨face,0,a,b,false⟩)∧∃ es',UOK fs es'∧h2=H.set mu (uB es')) by
  obtain⟨r,h2,h3,rfl,es',h4,rfl⟩:=HH
  exact⟨es',h4,h3⟩
 refine kj (Post:=fun r h2=>r=qQ (unS fs ⟨face,0,a,b,false⟩)∧∃ es',UOK fs es'∧h2=H.set mu (uB es')) rfl (hp 164 (by decide)) func164 rfl rfl rfl ?_
 have hml:=(List.getElem?_eq_some_iff.1 hmu).1
 have hX:∀ X:Heap,(H++X)[mu]?=some (uB es):=fun X=>by rw[List.getElem?_append_left hml];exact hmu
 have hw':(Cfg.wr ⟨cfg.lo,cfg.ex,H.length⟩ mu)=true:=hw
 obtain⟨p1,p2,p3,p4,p5,p6,p7,p8,p9⟩:=xw t fo bb len cap mw mu
 obtain⟨f1,f2,f3,f4,_⟩:=fsl f
 have hwl:∀ k,(Cfg.wr ⟨cfg.lo,cfg.ex,H.length⟩ (H.length+k))=true:=fun k=>bE (by omega)
 have hL:=fun X=>pM mU (hX X) (⟨face,0,a,b,false⟩:PKey)
 simp only[pkC]at hL
 have hG:=fun cfg h=>Eu (prim:=prim) d cfg h hp f hv a b
 simp(disch:=omega)[p1,p2,p9,f1,nk,hwl,hL]
 cases hlk:es.lookup (⟨face,0,a,b,false⟩:PKey) with
 | some v =>
  have hv2:v=unS fs ⟨face,0,a,b,false⟩:=hU (_,v) (kF hlk)
  subst hv2
  simp[hwl,qQ,DF,dY]
  exact⟨es,hU,(bI hmu).symm⟩
 | none =>
  have hz:unS fs ⟨face,0,a,b,false⟩=((jQ f a b).getD (0,0,0,0),(jQ f a b).isSome):=by unfold unS;rw[hf]
  have hfin:UOK fs (es++[(⟨face,0,a,b,false⟩,unS fs ⟨face,0,a,b,false⟩)]):=by
   intro e he
   rcases List.mem_append.1 he with h|h
   ·exact hU e h
   ·rw[List.mem_singleton.1 h]
  have htk:∀ (X:Heap) Y,(H.set mu Y++X).take H.length=H.set mu Y:=fun X Y=>by rw[List.take_append_of_le_length (by simp),List.take_of_length_le (by simp)]
  rw[hz]at hfin ⊢
  generalize (jQ f a b).getD (0,0,0,0)=g0 at hfin hG ⊢
  generalize (jQ f a b).isSome=ok at hfin hG ⊢
  have hUp:=fun X=>qq (v:=qQ) mU (cfg:=⟨cfg.lo,cfg.ex,H.length⟩) (hX X) hw' (⟨face,0,a,b,false⟩:PKey) hlk (g0,ok) rfl
  simp only[pkC,qQ,DF,dY,List.cons_append,List.nil_append]at hUp hG
  simp(disch:=omega)[hwl,qQ,DF,dY,f2,f3,f4,hG,p2,p9,fW,hUp,ed,Dl]
  exact⟨_,hfin,htk _ _⟩
end
end Bi
end Go.Ab
namespace Go.Ab
open Go.Proofs Go.Proofs.Tryz
namespace Bi
attribute [local congr] az
def rnA(t:List Int)(i:Int):Int:=t.getD i.toNat 0
def bdA(B:List Bool)(i:Int):Bool:=B.getD i.toNat false
def qH(fs:List Fnt)(face:Int)(t:List Int)(B:List Bool)(g:Gly):Bool:=bdA B g.f&&bdA B g.t&&bdA B (g.t+1)&&(unS fs ⟨face,0,rnA t g.f,rnA t g.t,false⟩).2
def Ct(fs:List Fnt)(f:Fnt)(face size:Int)(t:List Int)(g g2:Gly):Gly:=
 { g with i:=(unS fs ⟨face,0,rnA t g.f,rnA t g.t,false⟩).1.2.2.1,m:=0,t:=g2.t,a:=jq f size (unS fs ⟨face,0,rnA t g.f,rnA t g.t,false⟩).1.2.2.2 }
def ligL(fs:List Fnt)(f:Fnt)(face size:Int)(t:List Int)(B:List Bool):List Gly→List Gly
 | []=>[]
 | [g]=>[g]
 | g::g2::r=>if qH fs face t B g then Ct fs f face size t g g2::ligL fs f face size t B r else g::ligL fs f face size t B (g2::r)
def Sng:Int→Int→List Gly→Prop
 | a,b,[]=>a=b
 | a,b,g::l=>g.f=a∧g.t=a+1∧Sng (a+1) b l
theorem Sng.len:∀ {l:List Gly}{a b:Int},Sng a b l→(l.length:Int)=b-a
 | [],a,b,h=>by have h:a=b:=h;simp;omega
 | _::_,_,_,⟨_,_,h3⟩=>by have:=h3.len;simp;omega
theorem Sng.get:∀ {l:List Gly}{a b:Int}{i:Nat}{g:Gly},Sng a b l→l[i]?=some g→g.f=a+i∧g.t=a+i+1
 | [],_,_,_,_,_,h=>by simp at h
 | x::l,a,b,0,g,⟨h1,h2,h3⟩,h=>by
  simp at h
  subst h
  simp[h1,h2]
 | x::l,a,b,i+1,g,⟨h1,h2,h3⟩,h=>by
  obtain⟨k1,k2⟩:=h3.get (by simpa using h)
  constructor<;>(simp;omega)
theorem pL{fs:List Fnt}{f:Fnt}{face size:Int}{t:List Int}{B:List Bool}:∀ {l:List Gly}{a b:Int},Sng a b l→Chn a b (ligL fs f face size t B l)
 | [],_,_,h=>h
 | [g],a,b,⟨h1,h2,h3⟩=>⟨h1,by omega,by have h3:a+1=b:=h3;show g.t=b;omega⟩
 | g::g2::r,a,b,⟨h1,h2,h3,h4,h5⟩=>by
  unfold ligL
  split
  ·refine⟨h1,?_,?_⟩
   ·show a<g2.t
    omega
   ·show Chn g2.t b _
    rw[h4]
    exact pL h5
  ·refine⟨h1,by omega,?_⟩
   rw[h2]
   exact pL ⟨h3,h4,h5⟩
theorem mo{fs:List Fnt}{f:Fnt}{face size:Int}{t:List Int}{B:List Bool}{l:List Gly}{i:Nat}{g:Gly}(hg:l[i]?=some g):
  (∀ g2,l[i+1]?=some g2→qH fs face t B g=true→ligL fs f face size t B (l.drop i)=Ct fs f face size t g g2::ligL fs f face size t B (l.drop (i+2))) ∧
  ((i+1<l.length→qH fs face t B g=false)→ligL fs f face size t B (l.drop i)=g::ligL fs f face size t B (l.drop (i+1))):=by
 have hi:=(List.getElem?_eq_some_iff.1 hg).1
 have e1:l.drop i=g::l.drop (i+1):=by rw[List.drop_eq_getElem_cons hi,(List.getElem?_eq_some_iff.1 hg).2]
 constructor
 ·intro g2 h2 h3
  have hi2:=(List.getElem?_eq_some_iff.1 h2).1
  have e2:l.drop (i+1)=g2::l.drop (i+2):=by rw[List.drop_eq_getElem_cons hi2,(List.getElem?_eq_some_iff.1 h2).2]
  rw[e1,e2,ligL,if_pos h3]
 ·intro h3
  rw[e1]
  by_cases h4:i+1<l.length
  ·obtain⟨g2,h5⟩:∃ g2,l[i+1]?=some g2:=⟨_,List.getElem?_eq_getElem h4⟩
   have e2:l.drop (i+1)=g2::l.drop (i+2):=by rw[List.drop_eq_getElem_cons h4,(List.getElem?_eq_some_iff.1 h5).2]
   rw[e2,ligL,if_neg (by rw[h3 h4];simp),← e2]
  ·rw[List.drop_of_length_le (by omega)]
   rfl
def MW(cfg:Cfg)(H:Heap):Prop:=∀ b cs,H[b]?=some (some cs)→isMap cs=true→cfg.wr b=true
theorem MW.all{cfg:Cfg}{H:Heap}(h:MW cfg H):((mapsIn H).all fun b=>cfg.wr b&&decide (b<H.length))=true:=
 Cs fun b cs hb hm=>by simp[h b cs hb hm,(List.getElem?_eq_some_iff.1 hb).1]
theorem MW.self{H:Heap}{lo thr:Nat}:MW ⟨lo,mapsIn H,thr⟩ H:=fun b cs hb hm=>by
 have:b∈mapsIn H:=mapsIn_mem.2 ⟨cs,hb,hm⟩
 simp[Cfg.wr,this]
theorem MW.of{cfg:Cfg}{H H' base:Heap}{os:List Own}(h:MW cfg H)(hlo:cfg.lo≤H.length)(hp:Hp H' base os)(hl:H.length≤base.length)(hs:∀ b cs,b<H.length→base[b]?=some (some cs)→isMap cs=true→∃ cs',H[b]?=some (some cs')∧isMap cs'=true):MW cfg H':=by
 intro b cs hb hm
 by_cases hbl:b<H.length
 ·have hb2:base[b]?=some (some cs):=by rw[← hp.take,List.getElem?_take,if_pos (by omega)];exact hb
  obtain⟨cs',h1,h2⟩:=hs b cs hbl hb2 hm
  exact h b cs' h1 h2
 ·exact bE (by omega)
end Bi
end Go.Ab
namespace Go.Ab
open Go.Proofs Go.Proofs.Tryz
namespace Bi
attribute [local congr] az
theorem atG{α:Type}{l:List α}{i:Nat}(h:i<l.length):∃ x,l[i]?=some x:=⟨_,List.getElem?_eq_getElem h⟩
theorem lC{H:Heap}{b m:Nat}{cs:List V}{l:List (List V)}(hb:ab H b=some cs)(hm:H[m]?=some (some [.mq l])):b≠m:=by
 rintro rfl
 simp[ab,hm,isMap]at hb
theorem fD{B:List Bool}:isMap (B.map V.bool)=false:=by cases B<;>rfl
theorem Gl(g:Gly):(∀ x∈au g,x.leaf=true)∧isMap (au g)=false∧(au g).length=8∧(au g).take 8=au g∧putAt [V.int .i64 0,.int .i64 0,.int .i64 0,.int .i64 0,.int .i64 0,.int .i64 0,.int .i64 0,.int .i64 0] 0 (au g)=au g ∧
  slot (au g) 2=some (.int .i64 g.f)∧slot (au g) 3=some (.int .i64 g.t)∧slot (au g) 5=some (.int .i64 g.a) ∧
  (∀ z,bV (au g) 0 (.int .i64 z)=au { g with i:=z })∧(∀ z,bV (au g) 1 (.int .i64 z)=au { g with m:=z })∧(∀ z,bV (au g) 3 (.int .i64 z)=au { g with t:=z })∧(∀ z,bV (au g) 4 (.int .i64 z)=au { g with x:=z })∧(∀ z,bV (au g) 5 (.int .i64 z)=au { g with a:=z })∧(∀ x∈au g,x.rf=true):=
 ⟨List.all_eq_true.1 rfl,rfl,rfl,rfl,rfl,rfl,rfl,rfl,fun _=>rfl,fun _=>rfl,fun _=>rfl,fun _=>rfl,fun _=>rfl,List.all_eq_true.1 rfl⟩
theorem zj{fs:List Fnt}{f:Fnt}{k:PKey}(hf:fs[k.face.toNat]?=some f)(hv:bJ f=0):0≤(unS fs k).1.2.2.2∧(unS fs k).1.2.2.2≤4096:=by
 unfold unS
 rw[hf]
 show 0≤((jQ f k.a k.b).getD (0,0,0,0)).2.2.2∧((jQ f k.a k.b).getD (0,0,0,0)).2.2.2≤4096
 cases hl:jQ f k.a k.b with
 | none=>exact⟨by decide,by decide⟩
 | some x =>
  have hm:x∈f.lig:=List.mem_of_find?_eq_some hl
  obtain⟨_,_,_,hr,_⟩:=du hv
  have:=hr.2.2.2 x hm
  unfold okG at this
  show 0≤x.2.2.2∧x.2.2.2≤4096
  omega
section
variable {prim:FuncId→Option Prim}(d:Nat)
set_option maxRecDepth 100000 in
set_option maxHeartbeats 16000000 in
theorem HT(hp:∀ f,Np5 f→prim f=none)(fs:List Fnt)(f:Fnt)(face size:Int)(hf:fs[face.toNat]?=some f)(hv:bJ f=0)(hs:1≤size)(hs2:size≤1000)(t:List Int)(ht:t.length≤2000)(B:List Bool)(hB:B.length=t.length+1)
  (H:Heap) (mw mu bb:Nat) (es:fL) (hmu:H[mu]?=some (uB es)) (hU:UOK fs es) (hbb:ab H bb=some (B.map V.bool)) (fo:List Int) (l:List Gly) (a b:Int) (hl:Sng a b l) (ha:0≤a) (hb:b≤t.length) (v:V) (hov:OwnC H 0 8 v (l.flatMap au))
  (cfg:Cfg) (hM:MW cfg H) (hlo:cfg.lo≤H.length):
  ∃ es' v' H',UOK fs es'∧Hp H' (H.set mu (uB es')) [(8,v',(ligL fs f face size t B l).flatMap au)] ∧
   af md (K prim (d+9)) cfg 137 [.agg (prC t fo (.sl bb 0 B.length B.length 1) mw mu),.agg (aH f),.int .i64 face,.int .i64 size,v] H=some (v',H'):=by
 suffices HH:∃ r h2,af md (K prim (d+9)) cfg 137 [.agg (prC t fo (.sl bb 0 B.length B.length 1) mw mu),.agg (aH f),.int .i64 face,.int .i64 size,v] H=some (r,h2) ∧
   ∃ es',UOK fs es'∧Hp h2 (H.set mu (uB es')) [(8,r,(ligL fs f face size t B l).flatMap au)] by
  obtain⟨r,h2,h3,es',h4,h5⟩:=HH
  exact⟨es',r,h2,h4,h5,h3⟩
 refine wm (Post:=fun r h2=>∃ es',UOK fs es'∧Hp h2 (H.set mu (uB es')) [(8,r,(ligL fs f face size t B l).flatMap au)]) rfl (hp 137 (by decide)) func137 rfl rfl rfl ?_
 have hml:=(List.getElem?_eq_some_iff.1 hmu).1
 have hbl:=aw hbb
 have hbm:=lC hbb hmu
 have hll:=hl.len
 obtain⟨p1,p2,p3,p4,p5,p6,p7,p8,p9⟩:=xw t fo bb B.length B.length mw mu
 obtain⟨f1,f2,f3,f4,f5,_⟩:=fsl f
 have hu:prog.underlying 39=some (.slice 97):=by kernel_rfl
 have hvl:=hov.lenF aP (by omega) hu
 simp(disch:=omega)[p1,f1]
 refine aj (fun m fr Hc=>∃ (i:Nat) (out:List Gly) (vo:V) (es':fL),i≤l.length∧m=l.length-i∧UOK fs es'∧ligL fs f face size t B l=out++ligL fs f face size t B (l.drop i)∧out.length≤i ∧
  Hp Hc (H.set mu (uB es')++[some (prC t fo (.sl bb 0 B.length B.length 1) mw mu),some (aH f)]) [(8,vo,out.flatMap au)] ∧
  Slots 101 [(2,.int .i64 face),(3,.int .i64 size),(4,v),(5,.ptr H.length 0),(6,.ptr (H.length+1) 0),(11,vo),(12,.int .i64 i)] fr) (m:=l.length) (by omega)
  ⟨0,[],.nils,es,by omega,by omega,hU,by simp,by simp,by rw[bI hmu];exact Hp.start.nil 8,by simp⟩ ?_
 rintro m fr Hc ⟨i,out,vo,es',hi,rfl,hU',hlg,hol,hhp,hs'⟩
 obtain⟨j,rfl⟩:=hs'.ex
 clear hs'
 by_cases hlt:i<l.length
 ·have hI:(i:Int)<l.length:=by omega
  obtain⟨g,hg⟩:=atG hlt
  obtain⟨hgf,hgt⟩:=hl.get hg
  obtain⟨F,hF⟩:∃ F:Nat,g.f=F:=⟨g.f.toNat,by omega⟩
  have hT:g.t=((F+1:Nat):Int):=by omega
  obtain⟨bl,rfl,_,hbl2,hbl3⟩:=hov.posF aP (by omega) (by omega)
  have hblm:=lC hbl3 hmu
  have hblen:(H.set mu (uB es')++[some (prC t fo (.sl bb 0 B.length B.length 1) mw mu),some (aH f)]).length=H.length+2:=by simp
  have hHc:H.length+2≤Hc.length:=by have:=hhp.le;omega
  have bX:ab Hc H.length=some (prC t fo (.sl bb 0 B.length B.length 1) mw mu):=by rw[hhp.block (by omega),show H.length=H.length+0 from rfl,ed];rfl
  have bF:ab Hc (H.length+1)=some (aH f):=by rw[hhp.block (by omega),ed];rfl
  have bL:ab Hc bl=some (l.flatMap au):=by rw[hhp.block (by omega),al (by simpa using hbl2),ar (Ne.symm hblm)];exact hbl3
  have bB:ab Hc bb=some (B.map V.bool):=by rw[hhp.block (by omega),al (by simpa using hbl),ar (Ne.symm hbm)];exact hbb
  have hgp:=fE aP hg
  have hgl8:=br l
  have hFb:F+1<B.length:=by omega
  have q8:i*8+8≤l.length*8:=by omega
  obtain⟨y1,y2,y3,y4,y5,y6,y7,y8,z0,z1,z3,z4,z5,y0⟩:=Gl g
  have y1':=eq_true y1
  have y0':=eq_true y0
  rw[hF]at y6
  rw[hT]at y7
  have hwl:(Cfg.wr cfg Hc.length)=true:=bE (by omega)
  have hn1:((F:Int)+1+1).toNat=F+2:=by omega
  have w0:slot (B.map V.bool) F=some (.bool (lgB B F)):=by rw[slot,List.getElem?_map,atB (by omega)];rfl
  have w1:slot (B.map V.bool) (F+1)=some (.bool (lgB B (F+1))):=by rw[slot,List.getElem?_map,atB (by omega)];rfl
  have w2:(i:Int)+1<l.length→slot (B.map V.bool) (F+2)=some (.bool (lgB B (F+2))):=fun h=>by rw[slot,List.getElem?_map,atB (by omega)];rfl
  have w3:(i:Int)+1<l.length→F+2+1≤B.length:=fun h=>by omega
  simp +contextual (disch:=first|omega|(simp;done)|(simp[Decidable.imp_iff_not_or];done)|fail) [-ao,bM,aq,ax,bh,wrap64,-getElem?_pos,hI,bL,bX,bB,hgp,hgl8,q8,y1',y0',y2,y3,y5,y6,y7,hvl,p7,hwl,w0,w1,w2,hn1]
  have hbd:bdA B g.f=lgB B F∧bdA B g.t=lgB B (F+1)∧bdA B (g.t+1)=lgB B (F+2):=by
   rw[hF,hT]
   refine⟨rfl,rfl,?_⟩
   show lgB B _=_
   congr 1
  obtain⟨hb1,hb2,hb3⟩:=hbd
  refine ak (fun hc=>?_) (fun hc=>?_)
  ·simp only[Bool.and_eq_true,decide_eq_true_eq]at hc
   obtain⟨⟨⟨hc1,hc2⟩,hc3⟩,hc4⟩:=hc
   obtain⟨g2,hg2⟩:=atG (show i+1<l.length by omega)
   have hp2:=hhp.push [some (au g)]
   have hmu':(Hc++[some (au g)])[mu]?=some (uB es'):=by
    have h1:(Hc++[some (au g)])[mu]?=(H.set mu (uB es')++[some (prC t fo (.sl bb 0 B.length B.length 1) mw mu),some (aH f)])[mu]?:=by
     conv=>rhs;rw[← hp2.take]
     rw[List.getElem?_take_of_lt (by omega)]
    rw[h1,List.getElem?_append_left (by simpa using hml),List.getElem?_set_self hml]
   have hM2:MW cfg (Hc++[some (au g)]):=hM.of hlo hp2 (by omega) fun q cs hq h1 h2=>by
    rw[List.getElem?_append_left (by simpa using hq)]at h1
    by_cases hqm:mu=q
    ·subst hqm
     exact⟨_,hmu,rfl⟩
    ·rw[List.getElem?_set_ne hqm]at h1
     exact⟨_,h1,h2⟩
   have hall:=eq_true (List.all_eq_true.1 hM2.all)
   simp only[List.length_append,List.length_singleton,Bool.and_eq_true,decide_eq_true_eq]at hall
   obtain⟨es2,hU2,hC⟩:=DG (prim:=prim) d hp fs f face (rnA t g.f) (rnA t g.t) hf hv (Hc++[some (au g)]) mw mu es' hmu' hU' t fo bb B.length B.length ⟨(Hc++[some (au g)]).length,mapsIn (Hc++[some (au g)]),(Hc++[some (au g)]).length⟩ (tz hmu') (Nat.le_refl _)
   obtain⟨x0,hx0⟩:=atG (show F<t.length by omega)
   obtain⟨x1,hx1⟩:=atG (show F+1<t.length by omega)
   have r0:rnA t g.f=x0:=by unfold rnA;rw[hF,List.getD_eq_getElem?_getD];simp[hx0,-getElem?_pos]
   have r1:rnA t g.t=x1:=by unfold rnA;rw[hT,List.getD_eq_getElem?_getD];simp[hx1,-getElem?_pos]
   rw[r0,r1]at hC
   simp only[List.length_append,List.length_singleton]at hC
   have m4:md 164=4:=rfl
   simp(disch:=omega)
   refine ai 16 (by kernel_rfl) ?_
   simp(disch:=omega)[bX,bF,p3,p4,p5,f3,f4,y2,y6,hx0,hx1,m4,hall,hC,-getElem?_pos]
   refine⟨iy fun b hb=>?_,?_⟩
   ·rcases List.mem_cons.1 hb with rfl|hb
    ·exact⟨_,by rw[al (by omega)];exact bX⟩
    rcases List.mem_cons.1 hb with rfl|hb
    ·exact⟨au g,by simp[y2]⟩
    rcases List.mem_cons.1 hb with rfl|hb
    ·exact⟨_,by rw[al (by omega)];exact bX⟩
    rcases List.mem_cons.1 hb with rfl|hb
    ·exact⟨_,by rw[al (by omega)];exact bF⟩
    rcases List.mem_cons.1 hb with rfl|hb
    ·exact⟨_,by rw[al (by omega)];exact bX⟩
    ·cases hb
   have hur:=zj (k:=⟨face,0,x0,x1,false⟩) hf hv
   obtain⟨⟨⟨ua,ub,ui,uw⟩,uok⟩,hun⟩:∃ u,unS fs ⟨face,0,x0,x1,false⟩=u:=⟨_,rfl⟩
   have hlgeq:qH fs face t B g=uok:=by unfold qH;rw[hb1,hb2,hb3,hc2,hc3,hc4,r0,r1,hun];rfl
   obtain⟨Hd,hHd⟩:∃ Hd,Hc.set mu (uB es2)=Hd:=⟨_,rfl⟩
   have hdl:Hd.length=Hc.length:=by rw[← hHd,List.length_set]
   have hpd:Hp Hd (H.set mu (uB es2)++[some (prC t fo (.sl bb 0 B.length B.length 1) mw mu),some (aH f)]) [(8,vo,out.flatMap au)]:=by
    have:=hhp.set (b:=mu) (by simp;omega) (uB es2)
    rw[hHd,List.set_append_left _ _ (by simpa using hml),List.set_set]at this
    exact this
   rw[hun,hHd,← hdl]
   have hwl2:∀ k,(Cfg.wr cfg (Hd.length+k))=true:=fun k=>bE (by omega)
   have hwl3:(Cfg.wr cfg Hd.length)=true:=bE (by omega)
   have bXd:ab Hd H.length=some (prC t fo (.sl bb 0 B.length B.length 1) mw mu):=by rw[hpd.block (by simp),show H.length=H.length+0 from rfl,ed];rfl
   have bFd:ab Hd (H.length+1)=some (aH f):=by rw[hpd.block (by simp),ed];rfl
   have bLd:ab Hd bl=some (l.flatMap au):=by rw[hpd.block (by simp;omega),al (by simpa using hbl2),ar (Ne.symm hblm)];exact hbl3
   simp(disch:=omega)[qQ,DF,dY,hwl2,-getElem?_pos]
   rw[hun]at hur
   simp only at hur
   refine ak (fun hok=>?_) (fun hok=>?_)
   ·have hstep:=(mo (fs:=fs) (f:=f) (face:=face) (size:=size) (t:=t) (B:=B) hg).1 g2 hg2 (by rw[hlgeq];simpa using hok)
    obtain⟨_,_,_,hrng,_⟩:=du hv
    have hu16:16≤f.u∧f.u≤4096:=by have:=hrng.1;unfold fV at this;omega
    obtain⟨hs3,hs4⟩:0≤uw*size∧uw*size≤4096*1000:=⟨Int.mul_nonneg hur.1 (by omega),Int.mul_le_mul hur.2 hs2 (by omega) (by omega)⟩
    have hR:=fun cfg h=>rk (prim:=prim) (d+6) cfg h hp (uw*size) f.u (by omega) (by omega) (by omega) (by omega)
    obtain⟨hgf2,hgt2⟩:=hl.get hg2
    have hgp2:=fE aP hg2
    have q9:(i+1)*8+8≤l.length*8:=by omega
    have hi1:((i:Int)+1).toNat=i+1:=by omega
    have m0:md 139=0:=rfl
    have hat:=EF hg2
    have hw0:∀ lo ex thr,(Cfg.wr ⟨lo,Hd.length::ex,thr⟩ Hd.length)=true:=fun _ _ _=>by simp[Cfg.wr]
    have hmG:∀ g,isMap (au g)=false:=fun _=>rfl
    have hlG:∀ g,(au g).length=8:=fun _=>rfl
    have htG:∀ g,(au g).take 8=au g:=fun _=>rfl
    have hfG:∀ g,(∀ x∈au g,x.leaf=true)=True:=fun g=>eq_true (List.all_eq_true.1 rfl)
    have x0':∀ g z,bV (au g) 0 (.int .i64 z)=au { g with i:=z }:=fun _ _=>rfl
    have x1':∀ g z,bV (au g) 1 (.int .i64 z)=au { g with m:=z }:=fun _ _=>rfl
    have x3':∀ g z,bV (au g) 3 (.int .i64 z)=au { g with t:=z }:=fun _ _=>rfl
    have x5':∀ g z,bV (au g) 5 (.int .i64 z)=au { g with a:=z }:=fun _ _=>rfl
    have q10:(i+1)*8+3+1≤l.length*8:=by omega
    simp(disch:=omega)
    refine ai 21 (by kernel_rfl) ?_
    simp(disch:=omega)[bFd,bLd,wrap64,hc1,hi1,hat,f5,hwl3,hR,m0,hw0,hmG,hlG,htG,hfG,x0',x1',x3',x5',-getElem?_pos]
    have hmk:Ct fs f face size t g g2={ i:=ui,m:=0,f:=g.f,t:=g2.t,x:=g.x,a:=xE (uw*size) f.u,n:=g.n,z:=g.z }:=by unfold Ct;rw[r0,r1,hun];rfl
    refine⟨⟨by omega,by omega⟩,?_⟩
    rw[← hmk]
    refine bZ (m:=1) (hpd.push _) (by simp;omega) rfl rfl (by omega) (by omega) (by rw[br,Nat.mul_div_cancel _ (by omega)];omega) (by rw[br,Nat.mul_div_cancel _ (by omega)];omega) ?_
    intro vo' H' hhp2
    simp(disch:=omega)[wrap64]
    refine ae (m':=l.length-(i+2)) (by omega) ⟨i+2,out++[Ct fs f face size t g g2],vo',es2,by omega,rfl,hU2,by rw[hlg,hstep];simp,by simp;omega,by simpa using hhp2,by simp(disch:=omega);omega⟩
   ·have hne:i+1<l.length→qH fs face t B g=false:=fun _=>by rw[hlgeq];simpa using hok
    have hstep:=(mo (fs:=fs) (f:=f) (face:=face) (size:=size) (t:=t) (B:=B) hg).2 hne
    simp(disch:=omega)[y1',y2,y3,y4]
    refine bZ (m:=1) (hpd.push _) (by simp;omega) rfl rfl (by omega) (by omega) (by rw[br,Nat.mul_div_cancel _ (by omega)];omega) (by rw[br,Nat.mul_div_cancel _ (by omega)];omega) ?_
    intro vo' H' hhp2
    simp(disch:=omega)[wrap64]
    refine ae (m':=l.length-(i+1)) (by omega) ⟨i+1,out++[g],vo',es2,by omega,rfl,hU2,by rw[hlg,hstep];simp,by simp;omega,by simpa using hhp2,by simp(disch:=omega)⟩
  ·have hne:i+1<l.length→qH fs face t B g=false:=by
    intro h
    unfold qH
    rw[hb1,hb2,hb3]
    have h2:((i:Int)+1<l.length):=by omega
    simp[h2]at hc ⊢
    intro h3 h4 h5
    rw[hc h3 h4]at h5
    cases h5
   have hstep:=(mo (fs:=fs) (f:=f) (face:=face) (size:=size) (t:=t) (B:=B) hg).2 hne
   simp(disch:=omega)[y1',y2,y3,y4]
   refine bZ (m:=1) (hhp.push _) (by rw[hblen];omega) rfl rfl (by omega) (by omega) (by rw[br,Nat.mul_div_cancel _ (by omega)];omega) (by rw[br,Nat.mul_div_cancel _ (by omega)];omega) ?_
   intro vo' H' hhp2
   simp(disch:=omega)[wrap64]
   refine ae (m':=l.length-(i+1)) (by omega) ⟨i+1,out++[g],vo',es',by omega,rfl,hU',by rw[hlg,hstep];simp,by simp;omega,by simpa using hhp2,by simp(disch:=omega)⟩
 ·obtain rfl:i=l.length:=by omega
  rw[List.drop_length]at hlg
  simp(disch:=omega)[hvl]
  refine⟨es',hU',?_⟩
  rw[hlg]
  simpa[ligL]using hhp.cut (n:=H.length) (by simp)
end
end Bi
end Go.Ab
namespace Go.Ab
open Go.Proofs Go.Proofs.Tryz
namespace Bi
attribute [local congr] az
def kn1(fs:List Fnt)(face size:Int)(t:List Int)(B:List Bool)(g g2:Gly):Gly:=
 if bdA B g2.f then { g with a:=max 0 (g.a+wdS fs ⟨face,size,rnA t (g2.f-1),rnA t g2.f,false⟩) } else g
def cL(fs:List Fnt)(face size:Int)(t:List Int)(B:List Bool):List Gly→List Gly
 | []=>[]
 | [g]=>[g]
 | g::g2::r=>kn1 fs face size t B g g2::cL fs face size t B (g2::r)
section
variable {fs:List Fnt}{face size:Int}{t:List Int}{B:List Bool}
theorem gN:∀ {l:List Gly},(cL fs face size t B l).length=l.length
 | []=>rfl
 | [_]=>rfl
 | _::g2::r=>by rw[cL,List.length_cons,gN];rfl
theorem ru:∀ {l:List Gly}{i:Nat}{g g2:Gly},l[i]?=some g→l[i+1]?=some g2→(cL fs face size t B l)[i]?=some (kn1 fs face size t B g g2)
 | [],_,_,_,h,_=>by simp at h
 | [_],i,_,_,_,h=>by simp at h
 | x::y::r,0,g,g2,h,h2=>by
  simp at h h2
  subst h h2
  rfl
 | x::y::r,i+1,g,g2,h,h2=>by
  rw[cL,List.getElem?_cons_succ]
  exact ru (l:=y::r) (by simpa using h) (by simpa using h2)
theorem pF:∀ {l:List Gly}{i:Nat}{g:Gly},l[i]?=some g→l.length=i+1→(cL fs face size t B l)[i]?=some g
 | [],_,_,h,_=>by simp at h
 | [_],0,_,h,_=>h
 | [_],i+1,_,_,h=>by simp at h
 | x::y::r,0,g,h,h2=>by simp at h2
 | x::y::r,i+1,g,h,h2=>by
  rw[cL,List.getElem?_cons_succ]
  exact pF (l:=y::r) (by simpa using h) (by simpa using h2)
theorem rp:∀ {l:List Gly}{a b:Int},Chn a b l→Chn a b (cL fs face size t B l)
 | [],_,_,h=>h
 | [_],_,_,h=>h
 | g::g2::r,a,b,⟨h1,h2,h3⟩=>by
  have h4:Chn g.t b (cL fs face size t B (g2::r)):=rp h3
  rw[cL]
  unfold kn1
  split
  ·exact⟨h1,h2,h4⟩
  ·exact⟨h1,h2,h4⟩
end
theorem Chn.nx:∀ {l:List Gly}{a b:Int}{i:Nat}{g g2:Gly},Chn a b l→l[i]?=some g→l[i+1]?=some g2→g2.f=g.t
 | [],_,_,_,_,_,_,h,_=>by simp at h
 | [_],_,_,_,_,_,_,_,h=>by simp at h
 | x::y::r,a,b,0,g,g2,⟨_,_,h3,_⟩,h,h2=>by
  simp at h h2
  subst h h2
  exact h3
 | x::y::r,a,b,i+1,g,g2,⟨_,_,h3⟩,h,h2=>h3.nx (i:=i) (by simpa using h) (by simpa using h2)
theorem xM{α:Type}{a l:List α}(ha:a.length=l.length){i k:Nat}(hk:i≤k):(a.take i++l.drop i)[k]?=l[k]?:=by
 by_cases h:i≤l.length
 ·rw[List.getElem?_append_right (by simp;omega),List.length_take,Nat.min_eq_left (by omega),List.getElem?_drop]
  congr 1
  omega
 ·rw[List.getElem?_eq_none (by simp;omega),List.getElem?_eq_none (by omega)]
theorem ba{α:Type}{a l:List α}(ha:a.length=l.length){i:Nat}:(a.take i++l.drop i).length=l.length:=by
 simp
 omega
theorem dt{α:Type}{a l:List α}(ha:a.length=l.length){i:Nat}{x:α}(hx:a[i]?=some x):(a.take i++l.drop i).set i x=a.take (i+1)++l.drop (i+1):=by
 have hi:=(List.getElem?_eq_some_iff.1 hx).1
 rw[List.set_append_right _ _ (by simp;omega),List.length_take,Nat.min_eq_left (by omega),Nat.sub_self,List.take_add_one,hx,List.drop_eq_getElem_cons (show i<l.length by omega),List.set_cons_zero]
 simp
theorem gZ{α:Type}{a l:List α}(ha:a.length=l.length){i:Nat}{x:α}(hx:a[i]?=some x)(hl:l[i]?=some x):a.take i++l.drop i=a.take (i+1)++l.drop (i+1):=by
 have hi:=(List.getElem?_eq_some_iff.1 hx).1
 rw[← dt ha hx]
 apply List.ext_getElem?
 intro k
 by_cases hk:i=k
 ·subst hk
  rw[xM ha (Nat.le_refl _),List.getElem?_set_self (by rw[ba ha];omega),hl]
 ·rw[List.getElem?_set_ne hk]
theorem dq{α:Type}{a l:List α}(ha:a.length=l.length){i:Nat}(hi:l.length≤i):a.take i++l.drop i=a:=by
 rw[List.take_of_length_le (by omega),List.drop_of_length_le hi,List.append_nil]
theorem uM{f:Fnt}(hv:bJ f=0){size:Int}(hs:1≤size)(hs2:size≤1000)(a b:Int):-5000000≤ja f size a b∧ja f size a b≤5000000:=by
 unfold ja
 cases hl:f.ker.find? (fun x=>decide (x.1=a)&&decide (x.2.1=b)) with
 | none=>exact (by omega:(-5000000:Int)≤0∧(0:Int)≤5000000)
 | some x =>
  have hm:x∈f.ker:=List.mem_of_find?_eq_some hl
  obtain⟨_,_,_,hr,_⟩:=du hv
  have h1:=hr.2.2.1 x hm
  have h2:=hr.1
  unfold okK at h1
  unfold fV at h2
  show -5000000≤jq f size x.2.2∧jq f size x.2.2≤5000000
  have e1:x.2.2*size≤1000*1000:=by
   have:=Int.mul_le_mul_of_nonneg_right (show x.2.2≤1000 by omega) (by omega:0≤size)
   omega
  have e2:-(1000*1000)≤x.2.2*size:=by
   have:=Int.mul_le_mul_of_nonneg_right (show -1000≤x.2.2 by omega) (by omega:0≤size)
   omega
  unfold jq xE
  have h3:5000000*(2*16)≤5000000*(2*f.u):=by omega
  have h4:-5000000*(2*f.u)≤-5000000*(2*16):=by omega
  exact⟨Int.le_ediv_of_mul_le (by omega) (by omega),Int.ediv_le_of_le_mul (by omega) (by omega)⟩
section
variable {prim:FuncId→Option Prim}(d:Nat)
set_option maxRecDepth 100000 in
set_option maxHeartbeats 16000000 in
theorem E7(hp:∀ f,Np5 f→prim f=none)(fs:List Fnt)(f:Fnt)(face size:Int)(hf:fs[face.toNat]?=some f)(hv:bJ f=0)(hs:1≤size)(hs2:size≤1000)(t:List Int)(ht:t.length≤2000)(B:List Bool)(hB:B.length=t.length+1)
  (H base:Heap) (mw mu bb:Nat) (es:fx) (hmw:base[mw]?=some (wB es)) (hW:WOK fs es) (hbb:ab base bb=some (B.map V.bool)) (fo:List Int) (l:List Gly) (a b:Int) (hl:Chn a b l) (ha:0≤a) (hb:b≤t.length) (hA:∀ g∈l,0≤g.a∧g.a≤5000000) (v:V) (hh:Hp H base [(8,v,l.flatMap au)])
  (cfg:Cfg) (hM:MW cfg base) (hlo:cfg.lo≤base.length):
  ∃ es' H',WOK fs es'∧Hp H' (base.set mw (wB es')) [(8,v,(cL fs face size t B l).flatMap au)] ∧
   af md (K prim (d+9)) cfg 136 [.agg (prC t fo (.sl bb 0 B.length B.length 1) mw mu),.agg (aH f),.int .i64 face,.int .i64 size,v] H=some (v,H'):=by
 suffices HH:∃ r h2,af md (K prim (d+9)) cfg 136 [.agg (prC t fo (.sl bb 0 B.length B.length 1) mw mu),.agg (aH f),.int .i64 face,.int .i64 size,v] H=some (r,h2) ∧
   (r=v∧∃ es',WOK fs es'∧Hp h2 (base.set mw (wB es')) [(8,v,(cL fs face size t B l).flatMap au)]) by
  obtain⟨r,h2,h3,rfl,es',h4,h5⟩:=HH
  exact⟨es',h2,h4,h5,h3⟩
 refine wm (Post:=fun r h2=>r=v∧∃ es',WOK fs es'∧Hp h2 (base.set mw (wB es')) [(8,v,(cL fs face size t B l).flatMap au)]) rfl (hp 136 (by decide)) func136 rfl rfl rfl ?_
 have hml:=(List.getElem?_eq_some_iff.1 hmw).1
 have hbl:=aw hbb
 have hbm:=lC hbb hmw
 have hll:=hl.len
 have hle:=hh.le
 have hkl:=@gN fs face size t B l
 obtain⟨p1,p2,p3,p4,p5,p6,p7,p8,p9⟩:=xw t fo bb B.length B.length mw mu
 obtain⟨f1,f2,f3,f4,f5,_⟩:=fsl f
 have hu:prog.underlying 39=some (.slice 97):=by kernel_rfl
 have hvl:=hh.head.lenF aP (by omega) hu
 simp(disch:=omega)[p1,f1]
 refine aj (fun m fr Hc=>∃ (i:Nat) (es':fx),m=l.length-i∧WOK fs es'∧i≤l.length ∧
  Hp Hc (base.set mw (wB es')) [(8,v,((cL fs face size t B l).take i++l.drop i).flatMap au)]∧ab Hc H.length=some (prC t fo (.sl bb 0 B.length B.length 1) mw mu)∧ab Hc (H.length+1)=some (aH f)∧H.length+2≤Hc.length ∧
  Slots 60 [(2,.int .i64 face),(3,.int .i64 size),(4,v),(5,.ptr H.length 0),(6,.ptr (H.length+1) 0),(11,.int .i64 i)] fr) (m:=l.length) (by omega)
  ⟨0,es,by omega,hW,by omega,by rw[bI hmw];simpa using hh.push _,by simp[p2],by simp[f2],by simp,by simp⟩ ?_
 rintro m fr Hc ⟨i,es',rfl,hW',hi,hhp,bX,bF,hHc,hs'⟩
 obtain⟨j,rfl⟩:=hs'.ex
 clear hs'
 by_cases hlt:i+1<l.length
 ·have hI:(i:Int)+1<l.length:=by omega
  obtain⟨g,hg⟩:=atG (show i<l.length by omega)
  obtain⟨g2,hg2⟩:=atG hlt
  obtain⟨bl,hve,hbl1,hbl2,hbl3⟩:=hhp.head.posF aP (by omega) (by rw[ba hkl];omega)
  rw[ba hkl]at hve
  subst hve
  obtain⟨_,hbH⟩:=hh.head.blk (b:=bl) rfl
  have hCg:((cL fs face size t B l).take i++l.drop i)[i]?=some g:=by rw[xM hkl (Nat.le_refl _)];exact hg
  have hCg2:((cL fs face size t B l).take i++l.drop i)[i+1]?=some g2:=by rw[xM hkl (by omega)];exact hg2
  obtain⟨c1,c2,c3,c4⟩:=hl.get hg
  obtain⟨d1,d2,d3,d4⟩:=hl.get hg2
  have hnx:=hl.nx hg hg2
  have hset:=fun x=>dt (x:=x) hkl (i:=i)
  have hsame:=gZ hkl (i:=i) (x:=g)
  have hkg:=ru (fs:=fs) (face:=face) (size:=size) (t:=t) (B:=B) hg hg2
  have hCl:=@ba _ (cL fs face size t B l) l hkl i
  generalize hC:(cL fs face size t B l).take i++l.drop i=C at *
  obtain⟨F,hF⟩:∃ F:Nat,g2.f=((F+1:Nat):Int):=⟨g2.f.toNat-1,by omega⟩
  have hFb:F+1<t.length:=by omega
  have bB:ab Hc bb=some (B.map V.bool):=by rw[hhp.block (by simpa using hbl),ar (Ne.symm hbm)];exact hbb
  have hgl8:(C.flatMap au).length=l.length*8:=by rw[br,hCl]
  have hat:=EE hCg2
  rw[hF]at hat
  have q2:(i+1)*8+2+1≤l.length*8:=by omega
  have hi1:((i:Int)+1).toNat=i+1:=by omega
  have w0:slot (B.map V.bool) (F+1)=some (.bool (lgB B (F+1))):=by rw[slot,List.getElem?_map,atB (by omega)];rfl
  have hbd:bdA B g2.f=lgB B (F+1):=by rw[hF];rfl
  simp(disch:=omega)[hvl,wrap64,hI,hi1,hbl3,hat,bX,bB,p7,w0,-getElem?_pos]
  refine ak (fun hc=>?_) (fun hc=>?_)
  ·have hcw:Hc[mw]?=some (wB es'):=by
    have h1:(Hc.take (base.set mw (wB es')).length)[mw]?=some (wB es'):=by rw[hhp.take,List.getElem?_set_self hml]
    rwa [List.getElem?_take_of_lt (by simpa using hml)]at h1
   have hM2:MW cfg Hc:=hM.of hlo hhp (by simp) fun q cs hq h1 h2=>by
    by_cases hqm:mw=q
    ·subst hqm
     exact⟨_,hmw,rfl⟩
    ·rw[List.getElem?_set_ne hqm]at h1
     exact⟨_,h1,h2⟩
   have hall:=eq_true (List.all_eq_true.1 hM2.all)
   simp only[Bool.and_eq_true,decide_eq_true_eq]at hall
   obtain⟨x0,hx0⟩:=atG (show F<t.length by omega)
   obtain⟨x1,hx1⟩:=atG (show F+1<t.length by omega)
   have r0:rnA t (g2.f-1)=x0:=by unfold rnA;rw[hF,List.getD_eq_getElem?_getD,show (((F+1:Nat):Int)-1).toNat=F by omega];simp[hx0,-getElem?_pos]
   have r1:rnA t g2.f=x1:=by unfold rnA;rw[hF,List.getD_eq_getElem?_getD];simp[hx1,-getElem?_pos]
   obtain⟨es2,hW2,hW3⟩:=vX (prim:=prim) d hp fs f ⟨face,size,x0,x1,false⟩ hf hv hs hs2 Hc mw mu es' hcw hW' t fo bb B.length B.length ⟨Hc.length,mapsIn Hc,Hc.length⟩ (tz hcw)
   have hkr:=uM hv hs hs2 x0 x1
   have hwd:wdS fs ⟨face,size,x0,x1,false⟩=ja f size x0 x1:=by unfold wdS;rw[hf];rfl
   rw[hwd]at hW3
   simp only[pkC]at hW3
   have m4:md 134=4:=rfl
   have hga:=hA g (List.mem_of_getElem? hg)
   have hat5:=sG hCg
   have q5:i*8+5+1≤l.length*8:=by omega
   have hF1:((F:Int)+1-1).toNat=F:=by omega
   have hF2:((F:Int)+1).toNat=F+1:=by omega
   refine ai 24 (by kernel_rfl) ?_
   simp(disch:=omega)[hgl8,hbl3,hat5,q5,bX,bF,p3,p4,p5,f3,f4,hx0,hx1,hF2,m4,hall,hW3,nz,wrap64,-getElem?_pos]
   refine⟨iy fun q hq=>?_,?_⟩
   ·rcases List.mem_cons.1 hq with rfl|hq
    ·exact⟨_,bX⟩
    rcases List.mem_cons.1 hq with rfl|hq
    ·exact⟨_,bX⟩
    rcases List.mem_cons.1 hq with rfl|hq
    ·exact⟨_,bF⟩
    rcases List.mem_cons.1 hq with rfl|hq
    ·exact⟨_,bX⟩
    rcases List.mem_cons.1 hq with rfl|hq
    ·exact⟨_,hbl3⟩
    ·cases hq
   have hwb:(Cfg.wr cfg bl)=true:=bE (by simp at hbl1;omega)
   have hmx:(if 0<g.a+ja f size x0 x1 then g.a+ja f size x0 x1 else 0)=max 0 (g.a+ja f size x0 x1):=by split<;>omega
   have hk:kn1 fs face size t B g g2={ g with a:=max 0 (g.a+ja f size x0 x1) }:=by
    unfold kn1
    rw[hbd,if_pos (by simpa using hc),r0,r1,hwd]
   rw[hk]at hkg
   rw[hmx,B4 hCg,hset _ hkg,if_pos hwb]
   have hC2:=@ba _ (cL fs face size t B l) l hkl (i+1)
   simp(disch:=omega)[wrap64,-List.flatMap_append]
   have hhp2:=((hhp.set (b:=mw) (by simpa using hml) (wB es2)).setO (cs':=((cL fs face size t B l).take (i+1)++l.drop (i+1)).flatMap au) (fA _) (by rw[br,ba hkl,hgl8]))
   rw[List.set_set]at hhp2
   refine ae (m':=l.length-(i+1)) (by omega) ⟨i+1,es2,rfl,hW2,by omega,hhp2,?_,?_,by simpa using hHc,by simp(disch:=omega)⟩
   ·rw[ar (by omega),ar (by omega)];exact bX
   ·rw[ar (by omega),ar (by omega)];exact bF
  ·have hk:kn1 fs face size t B g g2=g:=by
    unfold kn1
    rw[hbd,if_neg (by simpa using hc)]
   rw[hk]at hkg
   simp(disch:=omega)[wrap64]
   refine ae (m':=l.length-(i+1)) (by omega) ⟨i+1,es',rfl,hW',by omega,by rw[← hsame hkg hg];exact hhp,bX,bF,hHc,by simp(disch:=omega)⟩
 ·have hfin:(cL fs face size t B l).take i++l.drop i=cL fs face size t B l:=by
   by_cases h2:i<l.length
   ·obtain⟨g,hg⟩:=atG h2
    rw[gZ hkl (pF hg (by omega)) hg,dq hkl (by omega)]
   ·exact dq hkl (by omega)
  have hI:¬ (i:Int)+1<l.length:=by omega
  simp(disch:=omega)[hvl,wrap64,hI]
  rw[hfin]at hhp
  exact⟨es',hW',hhp⟩
end
end Bi
end Go.Ab
