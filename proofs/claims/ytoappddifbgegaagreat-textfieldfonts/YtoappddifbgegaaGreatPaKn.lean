/- Several texts of this proof in one. -/
import Derived.Test.YtoappddifbgegaaGreatPaVa2
set_option linter.all false
set_option maxHeartbeats 16000000
set_option maxRecDepth 100000
namespace Go.Ab
open Go.Proofs Go.Proofs.Tryz
namespace Bi
attribute [local congr] az
theorem yX{a b:Int}(hb:0<b):(if a.tmod b<0 then a.tdiv b-1 else a.tdiv b)=a / b:=by
 have h1:=Int.mul_tdiv_add_tmod a b;have h2:=N2 a hb;have h3:=N3 a hb;split
 ·rename_i h;have:=(Int.ediv_emod_unique hb (a:=a) (r:=a.tmod b+b) (q:=a.tdiv b-1)).2 ⟨by rw[Int.mul_sub];omega,by omega,by omega⟩;exact this.1.symm
 ·rename_i h;have:=(Int.ediv_emod_unique hb (a:=a) (r:=a.tmod b) (q:=a.tdiv b)).2 ⟨by omega,by omega,by omega⟩;exact this.1.symm
def yG(a b:Int):Int:=(2*a+b) / (2*b)
theorem GL{a b:Int}(ha:0<=a)(hb:0<b):0<=yG a b:=Int.ediv_nonneg (by omega) (by omega)
section
variable {prim:FuncId->Option Prim}(d:Nat) (cfg:Cfg) (h:Heap)
theorem C3(hp:∀ f,Np5 f->prim f=none)(a b:Int):af md (K prim (d+1)) cfg 242 [.int .i64 a,.int .i64 b] h=some (.bool (decide (b≠0)&&decide (-1152921504606846976<=a)&&decide (a<=1152921504606846976)&&decide (-1152921504606846976<=b)&&decide (b<=1152921504606846976)),h):=by
 refine aP rfl (hp 242 (by decide)) func242 rfl rfl rfl (by simp) ?_;simp +contextual (disch:=first|omega|(simp;done)|(simp[Le];done)|fail) [-au,cu,aw,aD,bU]
theorem sy(hp:∀ f,Np5 f->prim f=none)(a b:Int)(hb:0<b)(h1:-4611686018427387904<=a)(h2:a<=4611686018427387904):af md (K prim (d+1)) cfg 243 [.int .i64 a,.int .i64 b] h=some (.int .i64 (a / b),h):=by
 refine aP rfl (hp 243 (by decide)) func243 rfl rfl rfl (by simp) ?_;have h0:¬ b=0:=by omega
 have hf:=yX (a:=a) hb;have hq:-4611686018427387904<=a.tdiv b/\a.tdiv b<=4611686018427387904:=by
  have h3:(a.tdiv b).natAbs=a.natAbs / b.natAbs:=Int.natAbs_tdiv a b;have h4:a.natAbs / b.natAbs<=a.natAbs:=Nat.div_le_self _ _;omega
 simp(disch:=omega)[wrap64];refine ar (fun hn=>?_) (fun hn=>?_)
 ·rw[if_pos (by simpa using hn)]at hf;simp(disch:=omega)[wrap64,hf]
 ·rw[if_neg (by simpa using hn)]at hf;simp[hf]
theorem xW(hp:∀ f,Np5 f->prim f=none)(a:Int)(h1:-1152921504606846976<=a)(h2:a<=1152921504606846976):af md (K prim (d+2)) cfg 179 [.int .i64 a,.int .i64 2] h=some (.int .i64 (a / 2),h):=by
 refine aP rfl (hp 179 (by decide)) func179 rfl rfl rfl (by simp) ?_;have hk:=fun cfg h=>C3 (prim:=prim) d cfg h hp a 2;have hf:=fun cfg h=>sy (prim:=prim) d cfg h hp a 2 (by omega) (by omega) (by omega);simp(disch:=omega)[hk,hf,h1,h2]
theorem sz(hp:∀ f,Np5 f->prim f=none)(a b:Int)(hb:0<b)(h7:b<=1000000)(h1:-1152921504606846976<=a)(h2:a<=1152921504606846976):af md (K prim (d+2)) cfg 295 [.int .i64 a,.int .i64 b] h=some (.int .i64 (yG a b),h):=by
 refine aP rfl (hp 295 (by decide)) func295 rfl rfl rfl (by simp) ?_;have hk:=fun cfg h=>C3 (prim:=prim) d cfg h hp a b;have hf:=fun cfg h=>sy (prim:=prim) d cfg h hp (2*a+b) (2*b) (by omega) (by omega) (by omega);have h0:¬ b=0:=by omega
 have h3:¬ b<0:=by omega
 have h4:-1152921504606846976<=b:=by omega
 have h6:b<=1152921504606846976:=by omega
 simp(disch:=omega)[hk,hf,h1,h2,h0,h3,h4,h6,wrap64,yG]
def jP(f:Fnt)(size w:Int):Int:=yG (w*size) f.u
theorem gi(hp:∀ f,Np5 f->prim f=none)(f:Fnt)(size w:Int)(hu:16<=f.u)(h7:f.u<=4096)(hs:1<=size)(h0:size<=1000)(hw:-100000<=w)(h3:w<=100000):
  af md (K prim (d+3)) cfg 241 [.agg (aG f),.int .i64 size,.int .i64 w] h=some (.int .i64 (jP f size w),h):=by
 refine aP rfl (hp 241 (by decide)) func241 rfl rfl rfl (by simp[aG]) ?_;obtain⟨h4,h6,l8,t8,s0,s1,s2,s3,s4,s5,s6,s7⟩:=fsl f;have h8:w*size<=100000*1000:=by
  have:=MC h3 (by omega:0<=size);have:=NU h0 (by omega:(0:Int)<=100000);omega
 have h9:-100000*1000<=w*size:=by
  have:=MC hw (by omega:0<=size);have:=Int.mul_le_mul_of_nonpos_left (by omega:(-100000:Int)<=0) h0;omega
 have hR:=fun cfg h=>sz (prim:=prim) d cfg h hp (w*size) f.u (by omega) (by omega) (by omega) (by omega);simp(disch:=omega)[h4,h6,s0,wrap64,hR,jP]
theorem ix(hp:∀ f,Np5 f->prim f=none)(f:Fnt)(h1:f.adv.length<=1000)(h2:f.ker.length<=1000)(h3:f.lig.length<=1000)(size:Int):
  af md (K prim (d+6)) cfg 240 [.agg (aG f),.int .i64 size] h=some (.bool (decide (1<=size)&&decide (size<=1000)&&decide (bQ f=0)),h):=by
 refine aP rfl (hp 240 (by decide)) func240 rfl rfl rfl (by simp[aG]) ?_;obtain⟨h0,h4,l8,t8,s0,s1,s2,s3,s4,s5,s6,s7⟩:=fsl f;obtain⟨_,rfl,hV⟩:=uC (prim:=prim) d hp f h1 h2 h3;have hM:=fun cfg h x a b=>tu (prim:=prim) (d+4) cfg h hp x a b;simp +contextual (disch:=first|omega|(simp;done)|(simp[Le];done)|fail) [-au,cu,aw,aD,bU,h0,h4,l8,t8,hV,hM]
end
def lt2(x y:Int×Int):Prop:=x.1<y.1\/x.1=y.1/\x.2<y.2
instance {x y:Int×Int}:Decidable (lt2 x y):=by unfold lt2;exact inferInstance
theorem lt2.trans{x y z:Int×Int}(h:lt2 x y)(g:lt2 y z):lt2 x z:=by unfold lt2 at *;omega
theorem iT{l:List (Int×Int)}(h:wi l){i j:Nat}(h3:i<j){x y:Int×Int}(hx:l[i]?=some x)(hy:l[j]?=some y):lt2 x y:=by
 induction j generalizing y with
 | zero=>omega
 | succ j ih =>
  have hj:=(K5.1 hy).1;obtain⟨z,hz⟩:∃ z,l[j]?=some z:=⟨_,K4 (by omega)⟩;have h1:lt2 z y:=h j z y hz hy;by_cases h0:i=j
  ·subst h0;rw[hx]at hz;cases hz;exact h1
  ·exact (ih (by omega) hz).trans h1
theorem pairS_z{a b c e:Int}:ib a b c e=0↔a=c/\b=e:=by
 unfold ib pX
 repeat' split
 all_goals omega
def BsR{α:Type}(key:α->Int×Int)(l:List α)(a b:Int)(r:V):Prop:=∃ (i:Nat) (fd:Bool),r=.tup [.int .i64 i,.bool fd]/\(fd=true->∃ x,l[i]?=some x/\(key x).1=a/\(key x).2=b)/\(fd=false->∀ x∈l,¬ ((key x).1=a/\(key x).2=b))
theorem Hu{h:Heap}{n:Int}:eh prog h 3 345 (.int .i64 n)=some (.int .u64 (IntKind.u64.wrap n),h):=by
 unfold eh;simp only[show prog.underlying 3=some (.int .i64) by kernel_rfl,show prog.underlying 345=some (.int .u64) by kernel_rfl]
theorem Hv{h:Heap}{n:Int}:eh prog h 345 3 (.int .u64 n)=some (.int .i64 (IntKind.i64.wrap n),h):=by
 unfold eh;simp only[show prog.underlying 3=some (.int .i64) by kernel_rfl,show prog.underlying 345=some (.int .u64) by kernel_rfl]
theorem AM{x:Int}(h1:0<=x)(h2:x<=9223372036854775807):IntKind.u64.wrap x=x:=by
 exact IntWalk.u64_in x ⟨h1,by omega⟩
section
variable {prim:FuncId->Option Prim}(d:Nat) (cfg:Cfg) (h:Heap)
theorem Bq(hp:∀ f,Np5 f->prim f=none)(x y:Int×Int×Int):af md (K prim (d+4)) cfg 327 [.agg (dV x),.agg (dV y)] h=some (.int .i64 (ib x.1 x.2.1 y.1 y.2.1),h):=by
 refine aP rfl (hp 327 (by decide)) func327 rfl rfl rfl (by simp[dV]) ?_;have hA:=fun cfg h a b c e=>ue (prim:=prim) d cfg h hp a b c e;simp[dV,hA]
theorem BB:md 327=0:=rfl
theorem Dy(hp:∀ f,Np5 f->prim f=none)(l:List (Int×Int×Int))(hl:l.length<=1000)(ho:wi (l.map fun x=>(x.1,x.2.1)))(y:Int×Int×Int):
  ∃ r,BsR (fun x=>(x.1,x.2.1)) l y.1 y.2.1 r /\
   ∀ cfg h,af md (K prim (d+5)) cfg 326 [.lst (l.map dV),.agg (dV y),.func (.func 327) [] []] h=some (r,h):=by
 refine iB rfl (hp 326 (by decide)) func326 rfl rfl rfl (by simp[dV];rfl) ?_;have hC:=fun cfg h x=>Bq (prim:=prim) d cfg h hp x y;have hm:=BB;have hh:(dV y).all V.leaf=true:=rfl;have hc:isMap (dV y)=false:=rfl;have hw:(dV y).take 3=dV y:=rfl;have hy:(dV y).length=3:=rfl;have he:∀ x,(dV x).length=3:=fun _=>rfl;have hf:∀ x,(dV x).take 3=dV x:=fun _=>rfl;simp(disch:=omega)[hh];refine ah (fun m fr H=>∃ (i j:Nat),i<=j/\j<=l.length/\m=j-i/\(∀ q x,q<i->l[q]?=some x->lt2 (x.1,x.2.1) (y.1,y.2.1))/\(∀ q x,j<=q->l[q]?=some x->¬ lt2 (x.1,x.2.1) (y.1,y.2.1))/\H=[some (dV y)] /\
  Slots 49 [(0,.lst (l.map dV)),(2,.func (.func 327) [] []),(4,.ptr 0 0),(8,.int .i64 l.length),(9,.int .i64 i),(10,.int .i64 j)] fr) (m:=l.length) (by omega) ⟨0,l.length,by omega,by omega,by omega,fun q x h=>by omega,fun q x h hx=>by have:=(K5.1 hx).1;omega,rfl,by simp⟩ ?_
 rintro m fr H ⟨i,j,hA,hj,rfl,h7,hg,rfl,hs⟩;obtain⟨w,rfl⟩:=hs.ex;clear hs;by_cases hD:i<j
 ·have hI:(i:Int)<j:=by omega
  obtain⟨c0,hE⟩:∃ q:Nat,q=(i+j) / 2:=⟨_,rfl⟩;have h8:((i:Int)+j).fdiv (2 ^ min 1 IntKind.u64.bits)=(c0:Nat):=by
   rw[show ((2:Int) ^ min 1 IntKind.u64.bits)=2 from rfl,Nk _ (by omega)];omega
  have hF:i<=c0/\c0<j:=by omega
  obtain⟨x,hx⟩:∃ x,l[c0]?=some x:=⟨_,K4 (by omega)⟩;have hu:IntKind.u64.wrap ((i:Int)+j)=(i:Int)+j:=AM (by omega) (by omega);have hH:IntKind.u64.wrap ((c0:Nat):Int)=((c0:Nat):Int):=AM (by omega) (by omega);have hn:IntKind.i64.wrap ((c0:Nat):Int)=((c0:Nat):Int):=wrap64 (by omega) (by omega);have hr:IntKind.i64.wrap ((i:Int)+j)=(i:Int)+j:=wrap64 (by omega) (by omega);simp(disch:=omega)[hI,hu,hr,Hu,Hv,cw,h8,hn];refine ai 6 (by kernel_rfl) ?_;simp(disch:=omega)[hx,he,hf,hc,hC,-getElem?_pos];refine ar (fun hb=>?_) (fun hb=>?_)
  ·have h6:lt2 (x.1,x.2.1) (y.1,y.2.1):=by
    have h1:¬ 0<=ib x.1 x.2.1 y.1 y.2.1:=by simpa using hb
    rw[pairS_neg]at h1;exact NL.1 h1
   simp(disch:=omega)[wrap64];refine ae (m':=j-(c0+1)) (by omega) ⟨c0+1,j,by omega,hj,rfl,fun q z hq hz=>?_,hg,rfl,by simp(disch:=omega)⟩;by_cases h9:q=c0
   ·subst h9;rw[hx]at hz;cases hz;exact h6
   ·exact (iT ho (i:=q) (j:=c0) (by omega) (by rw[Lh,hz];rfl) (by rw[Lh,hx];rfl)).trans h6
  ·have h6:¬ lt2 (x.1,x.2.1) (y.1,y.2.1):=pairS_neg.1 (by simpa using hb);simp(disch:=omega);refine ae (m':=c0-i) (by omega) ⟨i,c0,by omega,by omega,rfl,h7,fun q z hq hz=>?_,rfl,by simp(disch:=omega)⟩;by_cases h9:q=c0
   ·subst h9;rw[hx]at hz;cases hz;exact h6
   ·exact fun g=>h6 ((iT ho (i:=c0) (j:=q) (by omega) (by rw[Lh,hx];rfl) (by rw[Lh,hz];rfl)).trans g)
 ·obtain rfl:i=j:=by omega
  simp(disch:=omega);refine ai 15 (by kernel_rfl) ?_;by_cases ht:i<l.length
  ·have hI:(i:Int)<l.length:=by omega
   obtain⟨x,hx⟩:∃ x,l[i]?=some x:=⟨_,K4 ht⟩;have hd:∀ z:Bool,z=decide (ib x.1 x.2.1 y.1 y.2.1=0)->BsR (fun x=>(x.1,x.2.1)) l y.1 y.2.1 (.tup [.int .i64 i,.bool z]):=by
    intro z hz;refine⟨i,z,rfl,fun h0=>⟨x,hx,?_⟩,fun h0 z hv hk=>?_⟩
    ·rw[h0]at hz;exact pairS_z.1 (of_decide_eq_true hz.symm)
    rw[h0]at hz;replace h0:=of_decide_eq_false hz.symm;replace hz:=hv;replace hk:z.1=y.1/\z.2.1=y.2.1:=hk;obtain⟨q,hq,ha⟩:=LV hz;have h4:l[q]?=some z:=by rw[K4 hq,ha]
    rcases Mr q i with h1|h1|h1
    ·have:=h7 q z h1 h4;unfold lt2 at this;simp at this;omega
    ·subst h1;rw[hx]at h4;cases h4;exact h0 (pairS_z.2 hk)
    ·have h2:=iT ho (i:=i) (j:=q) h1 (by rw[Lh,hx];rfl) (by rw[Lh,h4];rfl);have h3:=hg i x (La _) hx;unfold lt2 at h2 h3;simp at h2 h3;omega
   simp(disch:=omega)[hI,hx,he,hf,hc,hm,hC,-getElem?_pos];exact hd _ rfl
  ·have hI:¬ (i:Int)<l.length:=by omega
   simp(disch:=omega)[hI];refine⟨i,false,rfl,fun h0=>(by cases h0),fun _ z hz hk=>?_⟩;obtain⟨q,hq,ha⟩:=LV hz;have:=h7 q z (by omega) (by rw[K4 hq,ha]);replace hk:z.1=y.1/\z.2.1=y.2.1:=hk;unfold lt2 at this;simp at this;omega
theorem Bv(hp:∀ f,Np5 f->prim f=none)(x y:Int×Int×Int×Int):af md (K prim (d+4)) cfg 334 [.agg (ee x),.agg (ee y)] h=some (.int .i64 (ib x.1 x.2.1 y.1 y.2.1),h):=by
 refine aP rfl (hp 334 (by decide)) func334 rfl rfl rfl (by simp[ee]) ?_;have hA:=fun cfg h a b c e=>ue (prim:=prim) d cfg h hp a b c e;simp[ee,hA]
theorem BC:md 334=0:=rfl
theorem DC(hp:∀ f,Np5 f->prim f=none)(l:List (Int×Int×Int×Int))(hl:l.length<=1000)(ho:wi (l.map fun x=>(x.1,x.2.1)))(y:Int×Int×Int×Int):
  ∃ r,BsR (fun x=>(x.1,x.2.1)) l y.1 y.2.1 r /\
   ∀ cfg h,af md (K prim (d+5)) cfg 333 [.lst (l.map ee),.agg (ee y),.func (.func 334) [] []] h=some (r,h):=by
 refine iB rfl (hp 333 (by decide)) func333 rfl rfl rfl (by simp[ee];rfl) ?_;have hC:=fun cfg h x=>Bv (prim:=prim) d cfg h hp x y;have hm:=BC;have hh:(ee y).all V.leaf=true:=rfl;have hc:isMap (ee y)=false:=rfl;have hw:(ee y).take 4=ee y:=rfl;have hy:(ee y).length=4:=rfl;have he:∀ x,(ee x).length=4:=fun _=>rfl;have hf:∀ x,(ee x).take 4=ee x:=fun _=>rfl;simp(disch:=omega)[hh];refine ah (fun m fr H=>∃ (i j:Nat),i<=j/\j<=l.length/\m=j-i/\(∀ q x,q<i->l[q]?=some x->lt2 (x.1,x.2.1) (y.1,y.2.1))/\(∀ q x,j<=q->l[q]?=some x->¬ lt2 (x.1,x.2.1) (y.1,y.2.1))/\H=[some (ee y)] /\
  Slots 49 [(0,.lst (l.map ee)),(2,.func (.func 334) [] []),(4,.ptr 0 0),(8,.int .i64 l.length),(9,.int .i64 i),(10,.int .i64 j)] fr) (m:=l.length) (by omega) ⟨0,l.length,by omega,by omega,by omega,fun q x h=>by omega,fun q x h hx=>by have:=(K5.1 hx).1;omega,rfl,by simp⟩ ?_
 rintro m fr H ⟨i,j,hA,hj,rfl,h7,hg,rfl,hs⟩;obtain⟨w,rfl⟩:=hs.ex;clear hs;by_cases hD:i<j
 ·have hI:(i:Int)<j:=by omega
  obtain⟨c0,hE⟩:∃ q:Nat,q=(i+j) / 2:=⟨_,rfl⟩;have h8:((i:Int)+j).fdiv (2 ^ min 1 IntKind.u64.bits)=(c0:Nat):=by
   rw[show ((2:Int) ^ min 1 IntKind.u64.bits)=2 from rfl,Nk _ (by omega)];omega
  have hF:i<=c0/\c0<j:=by omega
  obtain⟨x,hx⟩:∃ x,l[c0]?=some x:=⟨_,K4 (by omega)⟩;have hu:IntKind.u64.wrap ((i:Int)+j)=(i:Int)+j:=AM (by omega) (by omega);have hH:IntKind.u64.wrap ((c0:Nat):Int)=((c0:Nat):Int):=AM (by omega) (by omega);have hn:IntKind.i64.wrap ((c0:Nat):Int)=((c0:Nat):Int):=wrap64 (by omega) (by omega);have hr:IntKind.i64.wrap ((i:Int)+j)=(i:Int)+j:=wrap64 (by omega) (by omega);simp(disch:=omega)[hI,hu,hr,Hu,Hv,cw,h8,hn];refine ai 6 (by kernel_rfl) ?_;simp(disch:=omega)[hx,he,hf,hc,hC,-getElem?_pos];refine ar (fun hb=>?_) (fun hb=>?_)
  ·have h6:lt2 (x.1,x.2.1) (y.1,y.2.1):=by
    have h1:¬ 0<=ib x.1 x.2.1 y.1 y.2.1:=by simpa using hb
    rw[pairS_neg]at h1;exact NL.1 h1
   simp(disch:=omega)[wrap64];refine ae (m':=j-(c0+1)) (by omega) ⟨c0+1,j,by omega,hj,rfl,fun q z hq hz=>?_,hg,rfl,by simp(disch:=omega)⟩;by_cases h9:q=c0
   ·subst h9;rw[hx]at hz;cases hz;exact h6
   ·exact (iT ho (i:=q) (j:=c0) (by omega) (by rw[Lh,hz];rfl) (by rw[Lh,hx];rfl)).trans h6
  ·have h6:¬ lt2 (x.1,x.2.1) (y.1,y.2.1):=pairS_neg.1 (by simpa using hb);simp(disch:=omega);refine ae (m':=c0-i) (by omega) ⟨i,c0,by omega,by omega,rfl,h7,fun q z hq hz=>?_,rfl,by simp(disch:=omega)⟩;by_cases h9:q=c0
   ·subst h9;rw[hx]at hz;cases hz;exact h6
   ·exact fun g=>h6 ((iT ho (i:=c0) (j:=q) (by omega) (by rw[Lh,hx];rfl) (by rw[Lh,hz];rfl)).trans g)
 ·obtain rfl:i=j:=by omega
  simp(disch:=omega);refine ai 15 (by kernel_rfl) ?_;by_cases ht:i<l.length
  ·have hI:(i:Int)<l.length:=by omega
   obtain⟨x,hx⟩:∃ x,l[i]?=some x:=⟨_,K4 ht⟩;have hd:∀ z:Bool,z=decide (ib x.1 x.2.1 y.1 y.2.1=0)->BsR (fun x=>(x.1,x.2.1)) l y.1 y.2.1 (.tup [.int .i64 i,.bool z]):=by
    intro z hz;refine⟨i,z,rfl,fun h0=>⟨x,hx,?_⟩,fun h0 z hv hk=>?_⟩
    ·rw[h0]at hz;exact pairS_z.1 (of_decide_eq_true hz.symm)
    rw[h0]at hz;replace h0:=of_decide_eq_false hz.symm;replace hz:=hv;replace hk:z.1=y.1/\z.2.1=y.2.1:=hk;obtain⟨q,hq,ha⟩:=LV hz;have h4:l[q]?=some z:=by rw[K4 hq,ha]
    rcases Mr q i with h1|h1|h1
    ·have:=h7 q z h1 h4;unfold lt2 at this;simp at this;omega
    ·subst h1;rw[hx]at h4;cases h4;exact h0 (pairS_z.2 hk)
    ·have h2:=iT ho (i:=i) (j:=q) h1 (by rw[Lh,hx];rfl) (by rw[Lh,h4];rfl);have h3:=hg i x (La _) hx;unfold lt2 at h2 h3;simp at h2 h3;omega
   simp(disch:=omega)[hI,hx,he,hf,hc,hm,hC,-getElem?_pos];exact hd _ rfl
  ·have hI:¬ (i:Int)<l.length:=by omega
   simp(disch:=omega)[hI];refine⟨i,false,rfl,fun h0=>(by cases h0),fun _ z hz hk=>?_⟩;obtain⟨q,hq,ha⟩:=LV hz;have:=h7 q z (by omega) (by rw[K4 hq,ha]);replace hk:z.1=y.1/\z.2.1=y.2.1:=hk;unfold lt2 at this;simp at this;omega
end
theorem dm{f:Fnt}(h:bQ f=0):f.adv.length<=100/\f.ker.length<=100/\f.lig.length<=100/\jM f/\ordOK f:=by
 unfold bQ at h;split at h
 ·cases h
 ·rename_i h1;split at h
  ·cases h
  ·rename_i h2;split at h
   ·cases h
   ·rename_i h3;exact⟨by omega,by omega,by omega,N5 h2,N5 h3⟩
def xq(f:Fnt)(r:Int)(l:List (Int×Int×Int)):Int:=l.foldl (fun w x=>if x.1<=r/\r<=x.2.1 then x.2.2 else w) f.df
def vz(c:Int):Prop:=c=4\/c=5\/c=3\/c=1\/c=2
instance {c:Int}:Decidable (vz c):=by unfold vz;exact inferInstance
def rL(f:Fnt)(size r:Int):Int:=if vz (cBr r) then 0 else jP f size (xq f r f.adv)
def kJ(f:Fnt)(size a b:Int):Int:=match f.ker.find? (fun x=>decide (x.1=a)&&decide (x.2.1=b)) with
 | some x=>jP f size x.2.2
 | none=>0
def lF(f:Fnt)(a b:Int):Option (Int×Int×Int×Int):=f.lig.find? (fun x=>decide (x.1=a)&&decide (x.2.1=b))
def nk(f:Fnt)(size:Int):Int:=jP f size f.d
def pK(f:Fnt)(size:Int):Int:=if jP f size f.a=0/\nk f size=0 then 1 else jP f size f.a
def vK(f:Fnt)(size:Int):Int:=pK f size+nk f size+jP f size f.g
theorem xr{f:Fnt}(hd:0<=f.df/\f.df<=4096){r:Int}:∀ (l:List (Int×Int×Int)),(∀ x∈l,okA x)->0<=xq f r l/\xq f r l<=4096:=by
 suffices H:∀ (l:List (Int×Int×Int)) (w:Int),0<=w/\w<=4096->(∀ x∈l,okA x)->0<=l.foldl (fun w x=>if x.1<=r/\r<=x.2.1 then x.2.2 else w) w/\l.foldl (fun w x=>if x.1<=r/\r<=x.2.1 then x.2.2 else w) w<=4096 from fun l hl=>H l f.df hd hl
 intro l
 induction l with
 | nil=>intro w hw _;exact hw
 | cons x l ih =>
  intro w hw hl;rw[Nd];refine ih _ ?_ fun y hy=>hl y (Lc _ hy);have:=hl x Ll;unfold okA at this;split<;>omega
theorem ik{f:Fnt}(hu:16<=f.u){size w:Int}(hs:1<=size)(h0:size<=1000)(hw:0<=w)(h4:w<=4096):0<=jP f size w/\jP f size w<=5000000:=by
 have h1:0<=w*size:=Int.mul_nonneg hw (by omega);have h2:w*size<=4096*1000:=by
  have:=MC h4 (by omega:0<=size);have:=NU h0 (by omega:(0:Int)<=4096);omega
 unfold jP;refine⟨GL h1 (by omega),?_⟩;unfold yG;refine Int.ediv_le_of_le_mul (by omega) ?_;have h3:5000000*(2*16)<=5000000*(2*f.u):=by omega
 omega
theorem vq{α:Type}{k:α->Int×Int}{l:List α}(ho:wi (l.map k)){i:Nat}{x:α}(hx:l[i]?=some x){a b:Int}(h1:(k x).1=a)(h2:(k x).2=b):l.find? (fun x=>decide ((k x).1=a)&&decide ((k x).2=b))=some x:=by
 rw[List.find?_eq_some_iff_getElem];refine⟨by simp[h1,h2],i,(K5.1 hx).1,(K5.1 hx).2,fun j hj=>?_⟩;have hl:=(K5.1 hx).1;have h3:=iT ho (i:=j) (j:=i) hj (by rw[Lh,K4 (by omega)];rfl) (by rw[Lh,hx];rfl);unfold lt2 at h3;simp only[Mq,Bool.and_eq_false_iff,decide_eq_false_iff_not];omega
section
variable {prim:FuncId->Option Prim}(d:Nat) (cfg:Cfg) (h:Heap)
theorem xC(hp:∀ f,Np5 f->prim f=none)(f:Fnt)(hv:bQ f=0)(size r:Int)(hs:1<=size)(h3:size<=1000):
  af md (K prim (d+7)) cfg 313 [.agg (aG f),.int .i64 size,.int .i32 r] h=some (.int .i64 (rL f size r),h):=by
 obtain⟨g1,g2,g3,hr,ho⟩:=dm hv;refine aP rfl (hp 313 (by decide)) func313 rfl rfl rfl (by simp[aG]) ?_;obtain⟨h6,h4,l8,t8,s0,s1,s2,s3,s4,s5,s6,s7⟩:=fsl f;have h7:∀ Y:Heap,ab (some (aG f)::Y) 0=some (aG f):=fun Y=>rfl;have hU:=fun cfg h=>ix (prim:=prim) d cfg h hp f (by omega) (by omega) (by omega) size;have hB:=fun cfg h r=>CA (prim:=prim) (d+3) hp cfg h r;have hd:0<=f.df/\f.df<=4096:=by have:=hr.1;unfold gp at this;omega
 have hu:16<=f.u/\f.u<=4096:=by have:=hr.1;unfold gp at this;omega
 have hw:=xr hd (r:=r) f.adv hr.2.1;have hS:=fun cfg h w h1 h2=>gi (prim:=prim) (d+3) cfg h hp f size w hu.1 hu.2 hs h3 h1 h2;simp(disch:=omega)[h6,h4,l8,t8,hU,hv,hs,h3,hB];unfold rL;by_cases hz:vz (cBr r)
 ·rw[if_pos hz];rcases hz with hz|hz|hz|hz|hz<;>simp[hz]
 rw[if_neg hz];have h8:¬ cBr r=4/\¬ cBr r=5/\¬ cBr r=3/\¬ cBr r=1/\¬ cBr r=2:=by unfold vz at hz;omega
 obtain⟨z1,z2,z3,z4,z5⟩:=h8;simp(disch:=omega)[z1,z2,z3,z4,z5,h4,s4,s5];refine ah (fun m fr H=>∃ (i:Nat) (T:Heap),i<=f.adv.length/\m=f.adv.length-i/\H=some (aG f)::T/\Slots 48 [(1,.int .i64 size),(2,.int .i32 r),(3,.ptr 0 0),(7,.int .i64 (xq f r (f.adv.take i))),(25,.lst (f.adv.map dV)),(26,.int .i64 f.adv.length),(27,.int .i64 i)] fr) (m:=f.adv.length) (by omega) ⟨0,[],by omega,by omega,rfl,by simp[xq]⟩ ?_;rintro m fr H ⟨i,T,hi,rfl,rfl,hs⟩;obtain⟨j,rfl⟩:=hs.ex;clear hs;by_cases h9:i<f.adv.length
 ·have hI:(i:Int)<f.adv.length:=by omega
  obtain⟨x,hx⟩:∃ x,f.adv[i]?=some x:=⟨_,K4 h9⟩;have h0:xq f r (f.adv.take (i+1))=if x.1<=r/\r<=x.2.1 then x.2.2 else xq f r (f.adv.take i):=by
   rw[LD,hx];simp[xq]
  simp +contextual (disch:=first|omega|(simp;done)|(simp[Le];done)|fail) [-au,cu,aw,aD,bU,-getElem?_pos,dV,hI,hx];refine ar (fun hb=>?_) (fun hb=>?_)
  ·rw[if_pos (by simpa using hb)]at h0;simp(disch:=omega)[wrap64];exact ae (m':=f.adv.length-(i+1)) (by omega) ⟨i+1,_,by omega,by omega,rfl,by simp(disch:=omega)[h0]⟩
  ·rw[if_neg (by simpa using hb)]at h0;simp(disch:=omega)[wrap64];exact ae (m':=f.adv.length-(i+1)) (by omega) ⟨i+1,_,by omega,by omega,rfl,by simp(disch:=omega)[h0]⟩
 ·obtain rfl:i=f.adv.length:=by omega
  simp(disch:=omega)[h7,l8,t8,hS]
theorem C1(hp:∀ f,Np5 f->prim f=none)(f:Fnt)(hv:bQ f=0)(size a b:Int)(hs:1<=size)(h0:size<=1000):
  af md (K prim (d+7)) cfg 314 [.agg (aG f),.int .i64 size,.int .i32 a,.int .i32 b] h=some (.int .i64 (kJ f size a b),h):=by
 obtain⟨g1,g2,g3,hr,ho⟩:=dm hv;refine aP rfl (hp 314 (by decide)) func314 rfl rfl rfl (by simp[aG]) ?_;obtain⟨h4,h3,l8,t8,s0,s1,s2,s3,s4,s5,s6,s7⟩:=fsl f;have hU:=fun cfg h=>ix (prim:=prim) d cfg h hp f (by omega) (by omega) (by omega) size;have hu:16<=f.u/\f.u<=4096:=by have:=hr.1;unfold gp at this;omega
 have hS:=fun cfg h w h1 h2=>gi (prim:=prim) (d+3) cfg h hp f size w hu.1 hu.2 hs h0 h1 h2;obtain⟨_,⟨i,fd,rfl,h6,h7⟩,hF⟩:=Dy (prim:=prim) (d+1) hp f.ker (by omega) ho.2.1 (a,b,0);rw[show dV (a,b,0)=[.int .i32 a,.int .i32 b,.int .i64 0] from rfl]at hF;have hm:md 241=0:=rfl;simp(disch:=omega)[h4,h3,l8,t8,hU,hv,hs,h0,s6,hF];cases fd with
 | false =>
  have hn:kJ f size a b=0:=by
   unfold kJ;rw[List.find?_eq_none.2 fun x hx=>by have:=h7 rfl x hx;simpa using this]
  simp[hn]
 | true =>
  obtain⟨x,hx,h8,h9⟩:=h6 rfl;have hn:kJ f size a b=jP f size x.2.2:=by
   unfold kJ;rw[vq (k:=fun x:Int×Int×Int=>(x.1,x.2.1)) ho.2.1 hx h8 h9]
  have hk:=hr.2.2.1 x (K6 hx);unfold okK at hk;have ha:=(K5.1 hx).1;rw[hn];simp;refine ai 8 (by kernel_rfl) ?_;simp(disch:=omega)[h3,l8,t8,s6,hx,dV,hS,-getElem?_pos]
theorem FC(hp:∀ f,Np5 f->prim f=none)(f:Fnt)(hv:bQ f=0)(a b:Int):
  af md (K prim (d+7)) cfg 328 [.agg (aG f),.int .i32 a,.int .i32 b] h=some (.tup [.agg (ee ((lF f a b).getD (0,0,0,0))),.bool (lF f a b).isSome],h):=by
 obtain⟨g1,g2,g3,hr,ho⟩:=dm hv;refine aP rfl (hp 328 (by decide)) func328 rfl rfl rfl (by simp[aG]) ?_;obtain⟨h3,h0,l8,t8,s0,s1,s2,s3,s4,s5,s6,s7⟩:=fsl f;obtain⟨_,rfl,hV⟩:=uC (prim:=prim) (d+1) hp f (by omega) (by omega) (by omega);obtain⟨_,⟨i,fd,rfl,h4,h6⟩,hF⟩:=DC (prim:=prim) (d+1) hp f.lig (by omega) ho.2.2 (a,b,0,0);rw[show ee (a,b,0,0)=[.int .i32 a,.int .i32 b,.int .i64 0,.int .i64 0] from rfl]at hF;rw[hv]at hV;simp(disch:=omega)[h3,h0,l8,t8,hV,s7,hF];cases fd with
 | false =>
  have hn:lF f a b=none:=by
   unfold lF;rw[List.find?_eq_none.2 fun x hx=>by have:=h6 rfl x hx;simpa using this]
  simp[hn,ee]
 | true =>
  obtain⟨x,hx,h7,h8⟩:=h4 rfl;have hn:lF f a b=some x:=by
   unfold lF;exact vq (k:=fun x:Int×Int×Int×Int=>(x.1,x.2.1)) ho.2.2 hx h7 h8
  have h9:=(K5.1 hx).1;rw[hn];simp(disch:=omega)[h0,s7,hx,ee,-getElem?_pos]
theorem qh(hp:∀ f,Np5 f->prim f=none)(f:Fnt)(hv:bQ f=0)(size:Int)(hs:1<=size)(h0:size<=1000):
  af md (K prim (d+7)) cfg 176 [.agg (aG f),.int .i64 size] h=some (.int .i64 (nk f size),h):=by
 obtain⟨g1,g2,g3,hr,ho⟩:=dm hv;refine aP rfl (hp 176 (by decide)) func176 rfl rfl rfl (by simp[aG]) ?_;obtain⟨h3,h4,l8,t8,s0,s1,s2,s3,s4,s5,s6,s7⟩:=fsl f;have hU:=fun cfg h=>ix (prim:=prim) d cfg h hp f (by omega) (by omega) (by omega) size;have hn:=hr.1;unfold gp at hn;have hS:=fun cfg h=>gi (prim:=prim) (d+3) cfg h hp f size f.d (by omega) (by omega) hs h0 (by omega) (by omega);simp(disch:=omega)[h3,h4,l8,t8,hU,hv,hs,h0,s2,hS,nk]
theorem zC(hp:∀ f,Np5 f->prim f=none)(f:Fnt)(hv:bQ f=0)(size:Int)(hs:1<=size)(h0:size<=1000):
  af md (K prim (d+8)) cfg 175 [.agg (aG f),.int .i64 size] h=some (.int .i64 (pK f size),h):=by
 obtain⟨g1,g2,g3,hr,ho⟩:=dm hv;refine aP rfl (hp 175 (by decide)) func175 rfl rfl rfl (by simp[aG]) ?_;obtain⟨h3,h4,l8,t8,s0,s1,s2,s3,s4,s5,s6,s7⟩:=fsl f;have hU:=fun cfg h=>ix (prim:=prim) (d+1) cfg h hp f (by omega) (by omega) (by omega) size;have hn:=hr.1;unfold gp at hn;have hS:=fun cfg h=>gi (prim:=prim) (d+4) cfg h hp f size f.a (by omega) (by omega) hs h0 (by omega) (by omega);have hD:=fun cfg h=>qh (prim:=prim) d cfg h hp f hv size hs h0;unfold pK;by_cases h1:jP f size f.a=0
 ·by_cases h2:nk f size=0
  ·simp(disch:=omega)[h3,h4,l8,t8,hU,hv,hs,h0,s1,hS,hD,h1,h2]
  ·simp(disch:=omega)[h3,h4,l8,t8,hU,hv,hs,h0,s1,hS,hD,h1,h2]
 ·simp(disch:=omega)[h3,h4,l8,t8,hU,hv,hs,h0,s1,hS,h1]
theorem lQ{f:Fnt}(hv:bQ f=0){size:Int}(hs:1<=size)(h0:size<=1000):0<=pK f size/\pK f size<=5000000/\0<=nk f size/\nk f size<=5000000/\1<=pK f size+nk f size/\pK f size+nk f size<=vK f size/\vK f size<=15000000:=by
 obtain⟨g1,g2,g3,hr,ho⟩:=dm hv;have hn:=hr.1;unfold gp at hn;have h1:=ik (f:=f) hn.1 hs h0 (w:=f.a) (by omega) (by omega);have h2:=ik (f:=f) hn.1 hs h0 (w:=f.d) (by omega) (by omega);have h3:=ik (f:=f) hn.1 hs h0 (w:=f.g) (by omega) (by omega);unfold vK pK nk;split<;>omega
theorem FA(hp:∀ f,Np5 f->prim f=none)(f:Fnt)(hv:bQ f=0)(size:Int)(hs:1<=size)(h0:size<=1000):
  af md (K prim (d+9)) cfg 177 [.agg (aG f),.int .i64 size] h=some (.int .i64 (vK f size),h):=by
 obtain⟨g1,g2,g3,hr,ho⟩:=dm hv;refine aP rfl (hp 177 (by decide)) func177 rfl rfl rfl (by simp[aG]) ?_;obtain⟨h6,h4,l8,t8,s0,s1,s2,s3,s4,s5,s6,s7⟩:=fsl f;have hU:=fun cfg h=>ix (prim:=prim) (d+2) cfg h hp f (by omega) (by omega) (by omega) size;have hn:=hr.1;unfold gp at hn;have hS:=fun cfg h=>gi (prim:=prim) (d+5) cfg h hp f size f.g (by omega) (by omega) hs h0 (by omega) (by omega);have hD:=fun cfg h=>qh (prim:=prim) (d+1) cfg h hp f hv size hs h0;have hA:=fun cfg h=>zC (prim:=prim) d cfg h hp f hv size hs h0;have h7:=lQ hv hs h0;have h3:=ik (f:=f) hn.1 hs h0 (w:=f.g) (by omega) (by omega);have m1:md 175=0:=rfl;have m2:md 176=0:=rfl;have m3:md 241=0:=rfl;simp(disch:=omega)[h6,h4,l8,t8,hU,hv,hs,h0];refine ai 11 (by kernel_rfl) ?_;simp(disch:=omega)[h4,l8,t8,s3,hS,hD,hA,m1,m2,wrap64,vK]
end
end Bi
end Go.Ab
namespace Go.Ab
def tH{α β:Type}(k:α->List V)(v:β->V)(es:List (α×β)):List (List V):=es.map fun e=>[.agg (k e.1),v e.2]
structure Cj(P:Program)(t:TypeId)(n:Nat)(z:V){α:Type}[DecidableEq α](k:α->List V):Prop where
 kinds:gn P t=none
 tys:∃ a fs,lH P t=some (a,fs,z)/\fs.length=n/\∀ x y:α,eqV P a (.agg (k x)) (.agg (k y))=some (decide (x=y))
 len:∀ x:α,(k x).length=n
 flat:∀ x:α,dq (.agg (k x))=true
section
variable {P:Program}{t:TypeId}{n:Nat}{z:V}{α β:Type}[DecidableEq α] {k:α->List V}{v:β->V}
theorem ql{a:TypeId}(he:∀ x y:α,eqV P a (.agg (k x)) (.agg (k y))=some (decide (x=y)))(x:α):∀ es:List (α×β),findS P a (.agg (k x)) (tH k v es)=some ((es.lookup x).map v)
 | []=>rfl
 | (y,b)::es=>by
  have ih:=ql he x es;rw[tH,Mk,findS,he];by_cases h:x=y
  ·simp_all
  ·simp only[h,decide_false];rw[show List.map (fun e=>[V.agg (k e.1),v e.2]) es=tH k v es from rfl,ih,List.lookup_cons,beq_eq_false_iff_ne.2 h]
theorem sI{h:Heap}{b:Nat}{l:List (List V)}(hb:h[b]?=some (some [.mq l])):iL h b=some l:=by simp[iL,hb]
theorem qJ(m:Cj P t n z k){h:Heap}{b:Nat}{es:List (α×β)}(hb:h[b]?=some (some [.mq (tH k v es)]))(x:α):fj P h t (.mref b) (.agg (k x)) true=some (.tup [((es.lookup x).map v).getD z,.bool (es.lookup x).isSome]):=by
 obtain⟨a,fs,h1,h2,h3⟩:=m.tys;simp only[fj,m.kinds,pn,h1,sI hb,m.flat,m.len,h2,decide_true,Oo,if_true,ql h3];cases es.lookup x<;>rfl
theorem rF(m:Cj P t n z k){cfg:Cfg}{h:Heap}{b:Nat}{es:List (α×β)}(hb:h[b]?=some (some [.mq (tH k v es)]))(hw:cfg.wr b=true)(x:α)(hx:es.lookup x=none)(y:β)(hy:dq (v y)=true):
  cr P cfg h t (.mref b) (.agg (k x)) (v y)=some (h.set b (some [.mq (tH k v (es++[(x,y)]))])):=by
 obtain⟨a,fs,h1,h2,h3⟩:=m.tys;have hf:=m.flat x;simp only[cr,m.kinds,mapUpdateS,h1,sI hb,hf,m.len,h2,hy,hw,decide_true,Oo,if_true,ql h3,hx,M6];simp[tH]
end
theorem oB{P:Program}{md:FuncId->Nat}{call:aF}{cfg:Cfg}{fr:List V}{h:Heap}{t:TypeId}{m k:Operand}{ok:Bool}:aB P md call cfg fr h (.lookup t m k ok)=((ev fr m).bind fun a=>(ev fr k).bind fun b=>fj P h t a b ok).map (·,h):=by
 simp only[aB,opV];cases ev fr m with
 | none=>rfl
 | some a=>cases ev fr k<;>rfl
theorem gr{P:Program}{md:FuncId->Nat}{call:aF}{cfg:Cfg}{fr:List V}{h:Heap}{t:TypeId}{m k x:Operand}:aB P md call cfg fr h (.mapUpdate t m k x)=((ev fr m).bind fun a=>(ev fr k).bind fun b=>(ev fr x).bind fun c=>cr P cfg h t a b c).map (.no,·):=by
 simp only[aB,opV];cases ev fr m with
 | none=>rfl
 | some a=>cases ev fr k with
  | none=>rfl
  | some b=>cases ev fr x with
   | none=>rfl
   | some c=>grind
theorem mapsIn_mem{h:Heap}{b:Nat}:b∈mapsIn h↔∃ cs,h[b]?=some (some cs)/\isMap cs=true:=by
 grind[mapsIn,List.getElem?_eq_some_iff]
theorem uG{h:Heap}{b lo thr:Nat}{l:List (List V)}(hb:h[b]?=some (some [.mq l])):(Cfg.wr ⟨lo,mapsIn h,thr⟩ b)=true:=by
 have:b∈mapsIn h:=mapsIn_mem.2 ⟨_,hb,rfl⟩
 grind[Cfg.wr]
theorem DF{h:Heap}{p:Nat->Bool}(hp:∀ b cs,h[b]?=some (some cs)->isMap cs=true->p b=true):(mapsIn h).all p=true:=by
 grind[List.all_eq_true,mapsIn_mem]
theorem iK{h:Heap}{ld:List Nat}(hl:∀ b∈ld,∃ cs,ab h b=some cs):nu ld (mapsIn h)=true:=by
 grind[nu,List.all_eq_true,mapsIn_mem,Bool.not_eq_true',decide_eq_false_iff_not,ab]
section
variable {P:Program}{md:FuncId->Nat}{prim:FuncId->Option Prim}{n:Nat}
theorem lp{d:Nat}{f:FuncId}{fn:Func}{c:Code}{k:Nat}{rs:List ResultVar}{args:List V}{h:Heap}{Post:V->Heap->Prop}(hm:md f=4)(hp:prim f=none)(hf:P.funcs[f]?=some fn)(hb:fn.body=some c)(hk:fn.ntmps=k)
  (hr:fn.results.toList=rs) {cfg:Cfg}
  (hw:@wC P md (aH P md prim n d) ⟨cfg.lo,cfg.ex,h.length⟩ n ⟨c⟩ (args++List.replicate (k-args.length) .no) h ⟨@kFn P ⟨rs⟩ ⟨fun r' h'=>∃ r,frz h' h.length 6 r'=some r/\Post r (h'.take h.length)⟩⟩):
  ∃ r h2,af md (aH P md prim n (d+1)) cfg f args h=some (r,h2)/\Post r h2:=by
 obtain⟨r',h',h1,r,h2,h3⟩:=cn hp hf hb hk hr hw
 grind[af]
theorem xI{d:Nat}{f:FuncId}{fn:Func}{c:Code}{k:Nat}{rs:List ResultVar}{args:List V}{h:Heap}{Post:V->Heap->Prop}(hm:md f=5)(hp:prim f=none)(hf:P.funcs[f]?=some fn)(hb:fn.body=some c)(hk:fn.ntmps=k)
  (hr:fn.results.toList=rs) {cfg:Cfg}
  (hw:@wC P md (aH P md prim n d) cfg n ⟨c⟩ (args++List.replicate (k-args.length) .no) h ⟨@kFn P ⟨rs⟩ ⟨Post⟩⟩):
  ∃ r h2,af md (aH P md prim n (d+1)) cfg f args h=some (r,h2)/\Post r h2:=by
 simp_all[cn,af]
end
end Go.Ab
namespace Go.Ab
namespace Bi
structure Gly where
 i:Int
 m:Int
 f:Int
 t:Int
 x:Int
 a:Int
 n:Int
 z:Int
def aq(g:Gly):List V:=[.int .i64 g.i,.int .i64 g.m,.int .i64 g.f,.int .i64 g.t,.int .i64 g.x,.int .i64 g.a,.int .i64 g.n,.int .i64 g.z]
theorem aO(g:Gly):(aq g).length=8:=rfl
theorem FM{l:List Gly}{i:Nat}{g:Gly}(h:l[i]?=some g):slot (l.flatMap aq) (i*8+2)=some (.int .i64 g.f):=dN aO (by omega) h
theorem FN{l:List Gly}{i:Nat}{g:Gly}(h:l[i]?=some g):slot (l.flatMap aq) (i*8+3)=some (.int .i64 g.t):=dN aO (by omega) h
theorem tO{l:List Gly}{i:Nat}{g:Gly}(h:l[i]?=some g):slot (l.flatMap aq) (i*8+5)=some (.int .i64 g.a):=dN aO (by omega) h
theorem vH{l:List Gly}{i:Nat}{g:Gly}(h:l[i]?=some g){v:Int}:bR (l.flatMap aq) (i*8+4) (.int .i64 v)=(l.set i { g with x:=v }).flatMap aq:=gh aO (by omega) h rfl
theorem Dc{l:List Gly}{i:Nat}{g:Gly}(h:l[i]?=some g){v:Int}:bR (l.flatMap aq) (i*8+5) (.int .i64 v)=(l.set i { g with a:=v }).flatMap aq:=gh aO (by omega) h rfl
theorem fI(l:List Gly):isMap (l.flatMap aq)=false:=by cases l<;>rfl
theorem bq(l:List Gly):(l.flatMap aq).length=l.length*8:=cE aO l
def Chn:Int->Int->List Gly->Prop
 | a,b,[]=>a=b
 | a,b,g::l=>g.f=a/\a<g.t/\Chn g.t b l
theorem Chn.len:∀ {l:List Gly}{a b:Int},Chn a b l->(l.length:Int)<=b-a
 | [],a,b,h=>by have h:a=b:=h;simp;omega
 | _::_,_,_,⟨_,h2,h3⟩=>by have:=h3.len;simp;omega
theorem Chn.le{l:List Gly}{a b:Int}(h:Chn a b l):a<=b:=by have:=h.len;omega
theorem Chn.snoc:∀ {l:List Gly}{a b:Int}{g:Gly},Chn a b l->g.f=b->b<g.t->Chn a g.t (l++[g])
 | [],_,_,_,h,h1,h2=>⟨h1.trans (Eq.symm h),by rw[show _=_ from h];exact h2,rfl⟩
 | _::_,_,_,_,⟨h1,h2,h3⟩,g1,g2=>⟨h1,h2,h3.snoc g1 g2⟩
theorem Chn.set:∀ {l:List Gly}{a b:Int}{i:Nat}{g g':Gly},Chn a b l->l[i]?=some g->g'.f=g.f->g'.t=g.t->Chn a b (l.set i g')
 | [],_,_,_,_,_,_,h,_,_=>by simp at h
 | x::l,a,b,0,g,g',⟨h1,h2,h3⟩,h,e1,e2=>by
  simp at h;subst h;exact⟨e1.trans h1,by rw[e2];exact h2,by rw[e2];exact h3⟩
 | x::l,a,b,i+1,g,g',⟨h1,h2,h3⟩,h,e1,e2=>⟨h1,h2,h3.set (by simpa using h) e1 e2⟩
theorem Chn.last:∀ {l:List Gly}{a b:Int}{g g':Gly},Chn a b l->l[l.length-1]?=some g->g'.f=g.f->g.f<g'.t->Chn a g'.t (l.set (l.length-1) g')
 | [],_,_,_,_,_,h,_,_=>by simp at h
 | [x],a,b,g,g',⟨h1,_,_⟩,h,e1,e2=>by
  simp at h;subst h;exact⟨e1.trans h1,by rw[<- h1];exact e2,rfl⟩
 | x::y::l,a,b,g,g',⟨h1,h2,h3⟩,h,e1,e2=>by
  have:=h3.last (l:=y::l) (g:=g) (by simpa using h) e1 e2;exact⟨h1,h2,by simpa using this⟩
theorem Chn.get:∀ {l:List Gly}{a b:Int}{i:Nat}{g:Gly},Chn a b l->l[i]?=some g->a<=g.f/\g.f<g.t/\g.t<=b/\(i+1<l.length->g.t<b)
 | [],_,_,_,_,_,h=>by simp at h
 | x::l,a,b,0,g,⟨h1,h2,h3⟩,h=>by
  simp at h;subst h;have:=h3.len;exact⟨by omega,by omega,h3.le,fun hl=>by simp at hl;omega⟩
 | x::l,a,b,i+1,g,⟨h1,h2,h3⟩,h=>by
  obtain⟨k1,k2,k3,k4⟩:=h3.get (by simpa using h);exact⟨by omega,k2,k3,fun hl=>k4 (by simpa using hl)⟩
end Bi
end Go.Ab
namespace Go.Ab
open Go.Proofs Go.Proofs.Tryz
namespace Bi
attribute [local congr] az
structure PKey where
 face:Int
 size:Int
 a:Int
 b:Int
 s:Bool
deriving DecidableEq
def pkC(k:PKey):List V:=[.int .i64 k.face,.int .i64 k.size,.int .i32 k.a,.int .i32 k.b,.bool k.s]
def EK(x:(Int×Int×Int×Int)×Bool):List V:=ee x.1++[.bool x.2]
def rZ(x:(Int×Int×Int×Int)×Bool):V:=.agg (EK x)
noncomputable def HO(t:TypeId):List Field:=match lH prog t with
 | some (_,fs,_)=>fs
 | none=>[]
theorem HX(x y:PKey):eqV prog 317 (.agg (pkC x)) (.agg (pkC y))=some (decide (x=y)):=by
 rw[CY (ks:=[.int,.int,.int,.int,.bool]) Tryz.underlying317 (by kernel_rfl) (by kernel_rfl) (by kernel_rfl)];obtain⟨f,s,a,b,c⟩:=x;obtain⟨f',s',a',b',c'⟩:=y;simp only[pkC,flatK,PKey.mk.injEq];by_cases h1:f=f'<;>by_cases h2:s=s'<;>by_cases h3:a=a'<;>by_cases h4:b=b'<;>by_cases h5:c=c'<;>simp[h1,h2,h3,h4,h5]
theorem mW:Cj prog 150 5 (.int .i64 0) pkC:=
 ⟨by kernel_rfl,⟨317,HO 150,by kernel_rfl,by kernel_rfl,HX⟩,fun _=>rfl,fun _=>rfl⟩
theorem mU:Cj prog 151 5 (rZ ((0,0,0,0),false)) pkC:=
 ⟨by kernel_rfl,⟨317,HO 151,by kernel_rfl,by kernel_rfl,HX⟩,fun _=>rfl,fun _=>rfl⟩
def prC(t fo:List Int)(bv:V)(mw mu:Nat):List V:=[rl t,il fo,bv,.mref mw,.mref mu]
def wdS(fs:List Fnt)(k:PKey):Int:=match fs[k.face.toNat]? with
 | some f=>if k.s then rL f k.size k.a else kJ f k.size k.a k.b
 | none=>0
def unS(fs:List Fnt)(k:PKey):(Int×Int×Int×Int)×Bool:=match fs[k.face.toNat]? with
 | some f=>((lF f k.a k.b).getD (0,0,0,0),(lF f k.a k.b).isSome)
 | none=>((0,0,0,0),false)
abbrev fG:=List (PKey×Int)
abbrev fV:=List (PKey×((Int×Int×Int×Int)×Bool))
def WOK(fs:List Fnt)(es:fG):Prop:=∀ e∈es,e.2=wdS fs e.1
def UOK(fs:List Fnt)(es:fV):Prop:=∀ e∈es,e.2=unS fs e.1
abbrev wB(es:fG):Option (List V):=some [.mq (tH pkC (V.int .i64) es)]
abbrev uB(es:fV):Option (List V):=some [.mq (tH pkC rZ es)]
theorem lG{α β:Type}[DecidableEq α]{k:α}{v:β}:∀ {es:List (α×β)},es.lookup k=some v->(k,v)∈es
 | (a,b)::es,h=>by
  rw[List.lookup_cons]at h;split at h
  ·rename_i hk;cases h;rw[eq_of_beq hk];exact Ll
  ·exact Lc _ (lG h)
theorem yB(t fo:List Int)(b len cap mw mu:Nat):(prC t fo (.sl b 0 len cap 1) mw mu).all V.leaf=true/\isMap (prC t fo (.sl b 0 len cap 1) mw mu)=false/\(prC t fo (.sl b 0 len cap 1) mw mu).length=5/\(prC t fo (.sl b 0 len cap 1) mw mu).take 5=prC t fo (.sl b 0 len cap 1) mw mu /\
  slot (prC t fo (.sl b 0 len cap 1) mw mu) 0=some (rl t)/\slot (prC t fo (.sl b 0 len cap 1) mw mu) 1=some (il fo)/\slot (prC t fo (.sl b 0 len cap 1) mw mu) 2=some (.sl b 0 len cap 1)/\slot (prC t fo (.sl b 0 len cap 1) mw mu) 3=some (.mref mw)/\slot (prC t fo (.sl b 0 len cap 1) mw mu) 4=some (.mref mu):=⟨rfl,rfl,rfl,rfl,rfl,rfl,rfl,rfl,rfl⟩
theorem pksl(k:PKey):(pkC k).all V.leaf=true/\isMap (pkC k)=false/\(pkC k).length=5/\(pkC k).take 5=pkC k/\putAt [V.int .i64 0,.int .i64 0,.int .i32 0,.int .i32 0,.bool false] 0 (pkC k)=pkC k /\
  slot (pkC k) 0=some (.int .i64 k.face)/\slot (pkC k) 1=some (.int .i64 k.size)/\slot (pkC k) 2=some (.int .i32 k.a)/\slot (pkC k) 3=some (.int .i32 k.b)/\slot (pkC k) 4=some (.bool k.s):=⟨rfl,rfl,rfl,rfl,rfl,rfl,rfl,rfl,rfl,rfl⟩
theorem er{H:Heap}{m:Nat}{Y:Option (List V)}{L:Heap}{k:Nat}:ab (H.set m Y++L) (H.length+k)=ab L k:=by
 have:=bn (h:=H.set m Y) (r:=L) (k:=k);rwa [LC]at this
theorem Ej{H:Heap}{m:Nat}{Y Z:Option (List V)}{L:Heap}{k:Nat}:(H.set m Y++L).set (H.length+k) Z=H.set m Y++L.set k Z:=by
 rw[LO _ _ (by simp),LC,MU]
section
variable {prim:FuncId->Option Prim}(d:Nat)
theorem xt(hp:∀ f,Np5 f->prim f=none)(fs:List Fnt)(f:Fnt)(k:PKey)(hf:fs[k.face.toNat]?=some f)(hv:bQ f=0)(hs:1<=k.size)(h7:k.size<=1000)(H:Heap)(mw mu:Nat)(es:fG)(hmw:H[mw]?=some (wB es))(hW:WOK fs es)
  (t fo:List Int) (bb len cap:Nat) (cfg:Cfg) (hw:cfg.wr mw=true):
  ∃ es',WOK fs es'/\af md (K prim (d+8)) cfg 290 [.agg (prC t fo (.sl bb 0 len cap 1) mw mu),.agg (aG f),.agg (pkC k)] H=some (.int .i64 (wdS fs k),H.set mw (wB es')):=by
 suffices HH:∃ r h2,af md (K prim (d+8)) cfg 290 [.agg (prC t fo (.sl bb 0 len cap 1) mw mu),.agg (aG f),.agg (pkC k)] H=some (r,h2)/\(r=.int .i64 (wdS fs k)/\∃ es',WOK fs es'/\h2=H.set mw (wB es')) by
  obtain⟨r,h2,h3,rfl,es',h4,rfl⟩:=HH;exact⟨es',h4,h3⟩
 refine lp (Post:=fun r h2=>r=.int .i64 (wdS fs k)/\∃ es',WOK fs es'/\h2=H.set mw (wB es')) rfl (hp 290 (by decide)) func290 rfl rfl rfl ?_;have hc:=(K5.1 hmw).1;have hX:∀ X:Heap,(H++X)[mw]?=some (wB es):=fun X=>by rw[K8 hc];exact hmw
 have hd:(Cfg.wr ⟨cfg.lo,cfg.ex,H.length⟩ mw)=true:=hw;obtain⟨p1,p2,p3,p4,p5,p6,p7,p8,p9⟩:=yB t fo bb len cap mw mu;obtain⟨q1,q2,q3,q4,q5,q6,q7,q8,q9,q10⟩:=pksl k;obtain⟨f1,f2,f3,f4,_⟩:=fsl f;have hL:=fun X=>qJ mW (hX X) k;have hA:=fun cfg h=>xC (prim:=prim) d cfg h hp f hv k.size k.a hs h7;have hK:=fun cfg h=>C1 (prim:=prim) d cfg h hp f hv k.size k.a k.b hs h7;simp(disch:=omega)[p1,p2,p8,q1,q2,q3,q4,f1,oB,hL];cases h8:es.lookup k with
 | some v =>
  have hg:v=wdS fs k:=hW (k,v) (lG h8);simp[hg];exact⟨es,hW,(bE hmw).symm⟩
 | none =>
  have h9:=fun X z=>rF (v:=V.int .i64) mW (cfg:=⟨cfg.lo,cfg.ex,H.length⟩) (hX X) hd k h8 z rfl;have h0:WOK fs (es++[(k,wdS fs k)]):=by
   intro e he;rcases LB.1 he with h|h
   ·exact hW e h
   ·rw[LN.1 h]
  have ha:∀ (X:Heap) Y,(H.set mw Y++X).take H.length=H.set mw Y:=fun X Y=>by rw[Mb (by simp),Li (by simp)]
  cases h6:k.s with
  | true =>
   have hz:wdS fs k=rL f k.size k.a:=by unfold wdS;rw[hf];simp[h6]
   simp(disch:=omega)[q2,q3,q4,q7,q8,q10,h6,f2,f3,f4,hA,p2,p8,gr,h9];refine⟨hz.symm,_,h0,?_⟩;rw[ha,hz]
  | false =>
   have hz:wdS fs k=kJ f k.size k.a k.b:=by unfold wdS;rw[hf];simp[h6]
   simp(disch:=omega)[q2,q3,q4,q7,q8,q9,q10,h6,f2,f3,f4,hK,p2,p8,gr,h9];refine⟨hz.symm,_,h0,?_⟩;rw[ha,hz]
theorem EL(hp:∀ f,Np5 f->prim f=none)(fs:List Fnt)(f:Fnt)(face a b:Int)(hf:fs[face.toNat]?=some f)(hv:bQ f=0)(H:Heap)(mw mu:Nat)(es:fV)(hmu:H[mu]?=some (uB es))(hU:UOK fs es)
  (t fo:List Int) (bb len cap:Nat) (cfg:Cfg) (hw:cfg.wr mu=true) (hg:cfg.lo<=H.length):
  ∃ es',UOK fs es'/\af md (K prim (d+8)) cfg 318 [.agg (prC t fo (.sl bb 0 len cap 1) mw mu),.agg (aG f),.int .i64 face,.int .i32 a,.int .i32 b] H=some (rZ (unS fs ⟨face,0,a,b,false⟩),H.set mu (uB es')):=by
 suffices HH:∃ r h2,af md (K prim (d+8)) cfg 318 [.agg (prC t fo (.sl bb 0 len cap 1) mw mu),.agg (aG f),.int .i64 face,.int .i32 a,.int .i32 b] H=some (r,h2)/\(r=rZ (unS fs ⟨face,0,a,b,false⟩)/\∃ es',UOK fs es'/\h2=H.set mu (uB es')) by
  obtain⟨r,h2,h3,rfl,es',h4,rfl⟩:=HH;exact⟨es',h4,h3⟩
 refine lp (Post:=fun r h2=>r=rZ (unS fs ⟨face,0,a,b,false⟩)/\∃ es',UOK fs es'/\h2=H.set mu (uB es')) rfl (hp 318 (by decide)) func318 rfl rfl rfl ?_;have h9:=(K5.1 hmu).1;have hX:∀ X:Heap,(H++X)[mu]?=some (uB es):=fun X=>by rw[K8 h9];exact hmu
 have ha:(Cfg.wr ⟨cfg.lo,cfg.ex,H.length⟩ mu)=true:=hw;obtain⟨p1,p2,p3,p4,p5,p6,p7,p8,p9⟩:=yB t fo bb len cap mw mu;obtain⟨f1,f2,f3,f4,_⟩:=fsl f;have h6:∀ k,(Cfg.wr ⟨cfg.lo,cfg.ex,H.length⟩ (H.length+k))=true:=fun k=>bH (by omega);have hL:=fun X=>qJ mU (hX X) (⟨face,0,a,b,false⟩:PKey);simp only[pkC]at hL;have hG:=fun cfg h=>FC (prim:=prim) d cfg h hp f hv a b;simp(disch:=omega)[p1,p2,p9,f1,oB,h6,hL];cases h7:es.lookup (⟨face,0,a,b,false⟩:PKey) with
 | some v =>
  have hc:v=unS fs ⟨face,0,a,b,false⟩:=hU (_,v) (lG h7);subst hc;simp[h6,rZ,EK,ee];exact⟨es,hU,(bE hmu).symm⟩
 | none =>
  have hz:unS fs ⟨face,0,a,b,false⟩=((lF f a b).getD (0,0,0,0),(lF f a b).isSome):=by unfold unS;rw[hf]
  have h0:UOK fs (es++[(⟨face,0,a,b,false⟩,unS fs ⟨face,0,a,b,false⟩)]):=by
   intro e he;rcases LB.1 he with h|h
   ·exact hU e h
   ·rw[LN.1 h]
  have hd:∀ (X:Heap) Y,(H.set mu Y++X).take H.length=H.set mu Y:=fun X Y=>by rw[Mb (by simp),Li (by simp)]
  rw[hz]at h0 ⊢;generalize (lF f a b).getD (0,0,0,0)=g0 at h0 hG ⊢;generalize (lF f a b).isSome=ok at h0 hG ⊢;have h8:=fun X=>rF (v:=rZ) mU (cfg:=⟨cfg.lo,cfg.ex,H.length⟩) (hX X) ha (⟨face,0,a,b,false⟩:PKey) h7 (g0,ok) rfl;simp only[pkC,rZ,EK,ee,LM,Mp]at h8 hG;simp(disch:=omega)[h6,rZ,EK,ee,f2,f3,f4,hG,p2,p9,gr,h8,er,Ej];exact⟨_,h0,hd _ _⟩
end
def rnA(t:List Int)(i:Int):Int:=t.getD i.toNat 0
def bdA(B:List Bool)(i:Int):Bool:=B.getD i.toNat false
def vP(fs:List Fnt)(face:Int)(t:List Int)(B:List Bool)(g:Gly):Bool:=bdA B g.f&&bdA B g.t&&bdA B (g.t+1)&&(unS fs ⟨face,0,rnA t g.f,rnA t g.t,false⟩).2
def DH(fs:List Fnt)(f:Fnt)(face size:Int)(t:List Int)(g g2:Gly):Gly:=
 { g with i:=(unS fs ⟨face,0,rnA t g.f,rnA t g.t,false⟩).1.2.2.1,m:=0,t:=g2.t,a:=jP f size (unS fs ⟨face,0,rnA t g.f,rnA t g.t,false⟩).1.2.2.2 }
def ligL(fs:List Fnt)(f:Fnt)(face size:Int)(t:List Int)(B:List Bool):List Gly->List Gly
 | []=>[]
 | [g]=>[g]
 | g::g2::r=>if vP fs face t B g then DH fs f face size t g g2::ligL fs f face size t B r else g::ligL fs f face size t B (g2::r)
def Sng:Int->Int->List Gly->Prop
 | a,b,[]=>a=b
 | a,b,g::l=>g.f=a/\g.t=a+1/\Sng (a+1) b l
theorem Sng.len:∀ {l:List Gly}{a b:Int},Sng a b l->(l.length:Int)=b-a
 | [],a,b,h=>by have h:a=b:=h;simp;omega
 | _::_,_,_,⟨_,_,h3⟩=>by have:=h3.len;simp;omega
theorem Sng.get:∀ {l:List Gly}{a b:Int}{i:Nat}{g:Gly},Sng a b l->l[i]?=some g->g.f=a+i/\g.t=a+i+1
 | [],_,_,_,_,_,h=>by simp at h
 | x::l,a,b,0,g,⟨h1,h2,h3⟩,h=>by
  simp at h;subst h;simp[h1,h2]
 | x::l,a,b,i+1,g,⟨h1,h2,h3⟩,h=>by
  obtain⟨k1,k2⟩:=h3.get (by simpa using h);constructor<;>(simp;omega)
theorem qI{fs:List Fnt}{f:Fnt}{face size:Int}{t:List Int}{B:List Bool}:∀ {l:List Gly}{a b:Int},Sng a b l->Chn a b (ligL fs f face size t B l)
 | [],_,_,h=>h
 | [g],a,b,⟨h1,h2,h3⟩=>⟨h1,by omega,by have h3:a+1=b:=h3;show g.t=b;omega⟩
 | g::g2::r,a,b,⟨h1,h2,h3,h4,h5⟩=>by
  unfold ligL;split
  ·refine⟨h1,?_,?_⟩
   ·show a<g2.t;omega
   ·show Chn g2.t b _;rw[h4];exact qI h5
  ·refine⟨h1,by omega,?_⟩;rw[h2];exact qI ⟨h3,h4,h5⟩
theorem nw{fs:List Fnt}{f:Fnt}{face size:Int}{t:List Int}{B:List Bool}{l:List Gly}{i:Nat}{g:Gly}(hg:l[i]?=some g):
  (∀ g2,l[i+1]?=some g2->vP fs face t B g=true->ligL fs f face size t B (l.drop i)=DH fs f face size t g g2::ligL fs f face size t B (l.drop (i+2))) /\
  ((i+1<l.length->vP fs face t B g=false)->ligL fs f face size t B (l.drop i)=g::ligL fs f face size t B (l.drop (i+1))):=by
 have hi:=(K5.1 hg).1;have e1:l.drop i=g::l.drop (i+1):=by rw[Lq hi,(K5.1 hg).2]
 constructor
 ·intro g2 h2 h3;have h0:=(K5.1 h2).1;have e2:l.drop (i+1)=g2::l.drop (i+2):=by rw[Lq h0,(K5.1 h2).2]
  rw[e1,e2,ligL,if_pos h3]
 ·intro h3;rw[e1];by_cases h4:i+1<l.length
  ·obtain⟨g2,h5⟩:∃ g2,l[i+1]?=some g2:=⟨_,K4 h4⟩;have e2:l.drop (i+1)=g2::l.drop (i+2):=by rw[Lq h4,(K5.1 h5).2]
   rw[e2,ligL,if_neg (by rw[h3 h4];simp),<- e2]
  ·rw[Mm (by omega)];rfl
def MW(cfg:Cfg)(H:Heap):Prop:=∀ b cs,H[b]?=some (some cs)->isMap cs=true->cfg.wr b=true
theorem MW.all{cfg:Cfg}{H:Heap}(h:MW cfg H):((mapsIn H).all fun b=>cfg.wr b&&decide (b<H.length))=true:=
 DF fun b cs hb hm=>by simp[h b cs hb hm,(K5.1 hb).1]
theorem MW.self{H:Heap}{lo thr:Nat}:MW ⟨lo,mapsIn H,thr⟩ H:=fun b cs hb hm=>by
 have:b∈mapsIn H:=mapsIn_mem.2 ⟨cs,hb,hm⟩;simp[Cfg.wr,this]
theorem MW.of{cfg:Cfg}{H H' base:Heap}{os:List Own}(h:MW cfg H)(h4:cfg.lo<=H.length)(hp:Hp H' base os)(hl:H.length<=base.length)(hs:∀ b cs,b<H.length->base[b]?=some (some cs)->isMap cs=true->∃ cs',H[b]?=some (some cs')/\isMap cs'=true):MW cfg H':=by
 intro b cs hb hm;by_cases h0:b<H.length
 ·have h3:base[b]?=some (some cs):=by rw[<- hp.take,L7,if_pos (by omega)];exact hb
  obtain⟨cs',h1,h2⟩:=hs b cs h0 h3 hm;exact h b cs' h1 h2
 ·exact bH (by omega)
theorem atG{α:Type}{l:List α}{i:Nat}(h:i<l.length):∃ x,l[i]?=some x:=⟨_,K4 h⟩
theorem my{H:Heap}{b m:Nat}{cs:List V}{l:List (List V)}(hb:ab H b=some cs)(hm:H[m]?=some (some [.mq l])):b≠m:=by
 rintro rfl;simp[ab,hm,isMap]at hb
theorem fL{B:List Bool}:isMap (B.map V.bool)=false:=by cases B<;>rfl
theorem HA(g:Gly):(∀ x∈aq g,x.leaf=true)/\isMap (aq g)=false/\(aq g).length=8/\(aq g).take 8=aq g/\putAt [V.int .i64 0,.int .i64 0,.int .i64 0,.int .i64 0,.int .i64 0,.int .i64 0,.int .i64 0,.int .i64 0] 0 (aq g)=aq g /\
  slot (aq g) 2=some (.int .i64 g.f)/\slot (aq g) 3=some (.int .i64 g.t)/\slot (aq g) 5=some (.int .i64 g.a) /\
  (∀ z,bR (aq g) 0 (.int .i64 z)=aq { g with i:=z })/\(∀ z,bR (aq g) 1 (.int .i64 z)=aq { g with m:=z })/\(∀ z,bR (aq g) 3 (.int .i64 z)=aq { g with t:=z })/\(∀ z,bR (aq g) 4 (.int .i64 z)=aq { g with x:=z })/\(∀ z,bR (aq g) 5 (.int .i64 z)=aq { g with a:=z })/\(∀ x∈aq g,x.rf=true):=
 ⟨Lk.1 rfl,rfl,rfl,rfl,rfl,rfl,rfl,rfl,fun _=>rfl,fun _=>rfl,fun _=>rfl,fun _=>rfl,fun _=>rfl,Lk.1 rfl⟩
theorem AD{fs:List Fnt}{f:Fnt}{k:PKey}(hf:fs[k.face.toNat]?=some f)(hv:bQ f=0):0<=(unS fs k).1.2.2.2/\(unS fs k).1.2.2.2<=4096:=by
 unfold unS;rw[hf];show 0<=((lF f k.a k.b).getD (0,0,0,0)).2.2.2/\((lF f k.a k.b).getD (0,0,0,0)).2.2.2<=4096;cases hl:lF f k.a k.b with
 | none=>exact⟨by decide,by decide⟩
 | some x =>
  have hm:x∈f.lig:=M5 hl;obtain⟨_,_,_,hr,_⟩:=dm hv;have:=hr.2.2.2 x hm;unfold okG at this;show 0<=x.2.2.2/\x.2.2.2<=4096;omega
section
variable {prim:FuncId->Option Prim}(d:Nat)
theorem Jg(hp:∀ f,Np5 f->prim f=none)(fs:List Fnt)(f:Fnt)(face size:Int)(hf:fs[face.toNat]?=some f)(hv:bQ f=0)(hs:1<=size)(g6:size<=1000)(t:List Int)(ht:t.length<=2000)(B:List Bool)(hB:B.length=t.length+1)
  (H:Heap) (mw mu bb:Nat) (es:fV) (hmu:H[mu]?=some (uB es)) (hU:UOK fs es) (hA:ab H bb=some (B.map V.bool)) (fo:List Int) (l:List Gly) (a b:Int) (hl:Sng a b l) (ha:0<=a) (hb:b<=t.length) (v:V) (hP:OwnC H 0 8 v (l.flatMap aq))
  (cfg:Cfg) (hM:MW cfg H) (g7:cfg.lo<=H.length):
  ∃ es' v' H',UOK fs es'/\Hp H' (H.set mu (uB es')) [(8,v',(ligL fs f face size t B l).flatMap aq)] /\
   af md (K prim (d+9)) cfg 293 [.agg (prC t fo (.sl bb 0 B.length B.length 1) mw mu),.agg (aG f),.int .i64 face,.int .i64 size,v] H=some (v',H'):=by
 suffices HH:∃ r h2,af md (K prim (d+9)) cfg 293 [.agg (prC t fo (.sl bb 0 B.length B.length 1) mw mu),.agg (aG f),.int .i64 face,.int .i64 size,v] H=some (r,h2) /\
   ∃ es',UOK fs es'/\Hp h2 (H.set mu (uB es')) [(8,r,(ligL fs f face size t B l).flatMap aq)] by
  obtain⟨r,h2,h3,es',h4,h5⟩:=HH;exact⟨es',r,h2,h4,h5,h3⟩
 refine xI (Post:=fun r h2=>∃ es',UOK fs es'/\Hp h2 (H.set mu (uB es')) [(8,r,(ligL fs f face size t B l).flatMap aq)]) rfl (hp 293 (by decide)) func293 rfl rfl rfl ?_;have hD:=(K5.1 hmu).1;have g8:=ao hA;have g9:=my hA hmu;have hll:=hl.len;obtain⟨p1,p2,p3,p4,p5,p6,p7,p8,p9⟩:=yB t fo bb B.length B.length mw mu;obtain⟨f1,f2,f3,f4,f5,_⟩:=fsl f;have hu:prog.underlying 160=some (.slice 225):=by kernel_rfl
 have hQ:=hP.lenF aO (by omega) hu;simp(disch:=omega)[p1,f1];refine ah (fun m fr Hc=>∃ (i:Nat) (out:List Gly) (vo:V) (es':fV),i<=l.length/\m=l.length-i/\UOK fs es'/\ligL fs f face size t B l=out++ligL fs f face size t B (l.drop i)/\out.length<=i /\
  Hp Hc (H.set mu (uB es')++[some (prC t fo (.sl bb 0 B.length B.length 1) mw mu),some (aG f)]) [(8,vo,out.flatMap aq)] /\
  Slots 101 [(2,.int .i64 face),(3,.int .i64 size),(4,v),(5,.ptr H.length 0),(6,.ptr (H.length+1) 0),(11,vo),(12,.int .i64 i)] fr) (m:=l.length) (by omega)
  ⟨0,[],.nils,es,by omega,by omega,hU,by simp,by simp,by rw[bE hmu];exact Hp.start.nil 8,by simp⟩ ?_
 rintro m fr Hc ⟨i,out,vo,es',hi,rfl,hE,hd,hol,h7,hS⟩;obtain⟨j,rfl⟩:=hS.ex;clear hS;by_cases k0:i<l.length
 ·have hI:(i:Int)<l.length:=by omega
  obtain⟨g,hg⟩:=atG k0;obtain⟨hgf,hgt⟩:=hl.get hg;obtain⟨F,hF⟩:∃ F:Nat,g.f=F:=⟨g.f.toNat,by omega⟩;have hT:g.t=((F+1:Nat):Int):=by omega
  obtain⟨bl,rfl,_,he,h9⟩:=hP.posF aO (by omega) (by omega);have hh:=my h9 hmu;have hj:(H.set mu (uB es')++[some (prC t fo (.sl bb 0 B.length B.length 1) mw mu),some (aG f)]).length=H.length+2:=by simp
  have hHc:H.length+2<=Hc.length:=by have:=h7.le;omega
  have bX:ab Hc H.length=some (prC t fo (.sl bb 0 B.length B.length 1) mw mu):=by rw[h7.block (by omega),show H.length=H.length+0 from rfl,er];rfl
  have bF:ab Hc (H.length+1)=some (aG f):=by rw[h7.block (by omega),er];rfl
  have bL:ab Hc bl=some (l.flatMap aq):=by rw[h7.block (by omega),aj (by simpa using he),ak (Ne.symm hh)];exact h9
  have bB:ab Hc bb=some (B.map V.bool):=by rw[h7.block (by omega),aj (by simpa using g8),ak (Ne.symm g9)];exact hA
  have k1:=fN aO hg;have hH:=bq l;have hFb:F+1<B.length:=by omega
  have q8:i*8+8<=l.length*8:=by omega
  obtain⟨y1,y2,y3,y4,y5,y6,y7,y8,z0,z1,z3,z4,z5,y0⟩:=HA g;have y1':=eq_true y1;have y0':=eq_true y0;rw[hF]at y6;rw[hT]at y7;have k2:(Cfg.wr cfg Hc.length)=true:=bH (by omega);have k3:((F:Int)+1+1).toNat=F+2:=by omega
  have w0:slot (B.map V.bool) F=some (.bool (lgB B F)):=by rw[slot,Lh,atB (by omega)];rfl
  have w1:slot (B.map V.bool) (F+1)=some (.bool (lgB B (F+1))):=by rw[slot,Lh,atB (by omega)];rfl
  have w2:(i:Int)+1<l.length->slot (B.map V.bool) (F+2)=some (.bool (lgB B (F+2))):=fun h=>by rw[slot,Lh,atB (by omega)];rfl
  have w3:(i:Int)+1<l.length->F+2+1<=B.length:=fun h=>by omega
  simp +contextual (disch:=first|omega|(simp;done)|(simp[Le];done)|fail) [-au,cu,aw,aD,bU,wrap64,-getElem?_pos,hI,bL,bX,bB,k1,hH,q8,y1',y0',y2,y3,y5,y6,y7,hQ,p7,k2,w0,w1,w2,k3];have k4:bdA B g.f=lgB B F/\bdA B g.t=lgB B (F+1)/\bdA B (g.t+1)=lgB B (F+2):=by
   rw[hF,hT];refine⟨rfl,rfl,?_⟩;show lgB B _=_;congr 1
  obtain⟨hX,hY,hZ⟩:=k4;refine ar (fun hc=>?_) (fun hc=>?_)
  ·simp only[Ld,decide_eq_true_eq]at hc;obtain⟨⟨⟨k5,k6⟩,k7⟩,k8⟩:=hc;obtain⟨g2,hw⟩:=atG (show i+1<l.length by omega);have g0:=h7.push [some (aq g)];have hm:(Hc++[some (aq g)])[mu]?=some (uB es'):=by
    have h1:(Hc++[some (aq g)])[mu]?=(H.set mu (uB es')++[some (prC t fo (.sl bb 0 B.length B.length 1) mw mu),some (aG f)])[mu]?:=by
     conv=>rhs;rw[<- g0.take]
     rw[LI (by omega)]
    rw[h1,K8 (by simpa using hD),Lm hD]
   have k9:MW cfg (Hc++[some (aq g)]):=hM.of g7 g0 (by omega) fun q cs hq h1 h2=>by
    rw[K8 (by simpa using hq)]at h1;by_cases g1:mu=q
    ·subst g1;exact⟨_,hmu,rfl⟩
    ·rw[Lb g1]at h1;exact⟨_,h1,h2⟩
   have hn:=eq_true (Lk.1 k9.all);simp only[Ln,LZ,Ld,decide_eq_true_eq]at hn;obtain⟨es2,g3,hC⟩:=EL (prim:=prim) d hp fs f face (rnA t g.f) (rnA t g.t) hf hv (Hc++[some (aq g)]) mw mu es' hm hE t fo bb B.length B.length ⟨(Hc++[some (aq g)]).length,mapsIn (Hc++[some (aq g)]),(Hc++[some (aq g)]).length⟩ (uG hm) (La _);obtain⟨x0,g4⟩:=atG (show F<t.length by omega);obtain⟨x1,g5⟩:=atG (show F+1<t.length by omega);have r0:rnA t g.f=x0:=by unfold rnA;rw[hF,K9];simp[g4,-getElem?_pos]
   have r1:rnA t g.t=x1:=by unfold rnA;rw[hT,K9];simp[g5,-getElem?_pos]
   rw[r0,r1]at hC;simp only[Ln,LZ]at hC;have m4:md 318=4:=rfl;simp(disch:=omega);refine ai 16 (by kernel_rfl) ?_;simp(disch:=omega)[bX,bF,p3,p4,p5,f3,f4,y2,y6,g4,g5,m4,hn,hC,-getElem?_pos];refine⟨iK fun b hb=>?_,?_⟩
   ·rcases Lt.1 hb with rfl|hb
    ·exact⟨_,by rw[aj (by omega)];exact bX⟩
    rcases Lt.1 hb with rfl|hb
    ·exact⟨aq g,by simp[y2]⟩
    rcases Lt.1 hb with rfl|hb
    ·exact⟨_,by rw[aj (by omega)];exact bX⟩
    rcases Lt.1 hb with rfl|hb
    ·exact⟨_,by rw[aj (by omega)];exact bF⟩
    rcases Lt.1 hb with rfl|hb
    ·exact⟨_,by rw[aj (by omega)];exact bX⟩
    ·cases hb
   have hy:=AD (k:=⟨face,0,x0,x1,false⟩) hf hv;obtain⟨⟨⟨ua,ub,ui,uw⟩,uok⟩,hz⟩:∃ u,unS fs ⟨face,0,x0,x1,false⟩=u:=⟨_,rfl⟩;have h8:vP fs face t B g=uok:=by unfold vP;rw[hX,hY,hZ,k6,k7,k8,r0,r1,hz];rfl
   obtain⟨Hd,hJ⟩:∃ Hd,Hc.set mu (uB es2)=Hd:=⟨_,rfl⟩;have w7:Hd.length=Hc.length:=by rw[<- hJ,LC]
   have hr:Hp Hd (H.set mu (uB es2)++[some (prC t fo (.sl bb 0 B.length B.length 1) mw mu),some (aG f)]) [(8,vo,out.flatMap aq)]:=by
    have:=h7.set (b:=mu) (by simp;omega) (uB es2);rw[hJ,LY _ _ (by simpa using hD),M0]at this;exact this
   rw[hz,hJ,<- w7];have hK:∀ k,(Cfg.wr cfg (Hd.length+k))=true:=fun k=>bH (by omega);have hL:(Cfg.wr cfg Hd.length)=true:=bH (by omega);have bXd:ab Hd H.length=some (prC t fo (.sl bb 0 B.length B.length 1) mw mu):=by rw[hr.block (by simp),show H.length=H.length+0 from rfl,er];rfl
   have bFd:ab Hd (H.length+1)=some (aG f):=by rw[hr.block (by simp),er];rfl
   have bLd:ab Hd bl=some (l.flatMap aq):=by rw[hr.block (by simp;omega),aj (by simpa using he),ak (Ne.symm hh)];exact h9
   simp(disch:=omega)[rZ,EK,ee,hK,-getElem?_pos];rw[hz]at hy;simp only at hy;refine ar (fun hN=>?_) (fun hN=>?_)
   ·have h0:=(nw (fs:=fs) (f:=f) (face:=face) (size:=size) (t:=t) (B:=B) hg).1 g2 hw (by rw[h8];simpa using hN);obtain⟨_,_,_,hO,_⟩:=dm hv;have w8:16<=f.u/\f.u<=4096:=by have:=hO.1;unfold gp at this;omega
    obtain⟨hs3,hs4⟩:0<=uw*size/\uw*size<=4096*1000:=⟨Int.mul_nonneg hy.1 (by omega),Int.mul_le_mul hy.2 g6 (by omega) (by omega)⟩;have hR:=fun cfg h=>sz (prim:=prim) (d+6) cfg h hp (uw*size) f.u (by omega) (by omega) (by omega) (by omega);obtain⟨w9,z2⟩:=hl.get hw;have z6:=fN aO hw;have q9:(i+1)*8+8<=l.length*8:=by omega
    have z7:((i:Int)+1).toNat=i+1:=by omega
    have m0:md 295=0:=rfl;have z8:=FN hw;have z9:∀ lo ex thr,(Cfg.wr ⟨lo,Hd.length::ex,thr⟩ Hd.length)=true:=fun _ _ _=>by simp[Cfg.wr]
    have hmG:∀ g,isMap (aq g)=false:=fun _=>rfl;have hlG:∀ g,(aq g).length=8:=fun _=>rfl;have htG:∀ g,(aq g).take 8=aq g:=fun _=>rfl;have hfG:∀ g,(∀ x∈aq g,x.leaf=true)=True:=fun g=>eq_true (Lk.1 rfl);have x0':∀ g z,bR (aq g) 0 (.int .i64 z)=aq { g with i:=z }:=fun _ _=>rfl;have x1':∀ g z,bR (aq g) 1 (.int .i64 z)=aq { g with m:=z }:=fun _ _=>rfl;have x3':∀ g z,bR (aq g) 3 (.int .i64 z)=aq { g with t:=z }:=fun _ _=>rfl;have x5':∀ g z,bR (aq g) 5 (.int .i64 z)=aq { g with a:=z }:=fun _ _=>rfl;have q10:(i+1)*8+3+1<=l.length*8:=by omega
    simp(disch:=omega);refine ai 21 (by kernel_rfl) ?_;simp(disch:=omega)[bFd,bLd,wrap64,k5,z7,z8,f5,hL,hR,m0,z9,hmG,hlG,htG,hfG,x0',x1',x3',x5',-getElem?_pos];have hmk:DH fs f face size t g g2={ i:=ui,m:=0,f:=g.f,t:=g2.t,x:=g.x,a:=yG (uw*size) f.u,n:=g.n,z:=g.z }:=by unfold DH;rw[r0,r1,hz];rfl
    refine⟨⟨by omega,by omega⟩,?_⟩;rw[<- hmk];refine cg (m:=1) (hr.push _) (by simp;omega) rfl rfl (by omega) (by omega) (by rw[bq,Lw _ (by omega)];omega) (by rw[bq,Lw _ (by omega)];omega) ?_;intro vo' H' h6;simp(disch:=omega)[wrap64];refine ae (m':=l.length-(i+2)) (by omega) ⟨i+2,out++[DH fs f face size t g g2],vo',es2,by omega,rfl,g3,by rw[hd,h0];simp,by simp;omega,by simpa using h6,by simp(disch:=omega);omega⟩
   ·have hne:i+1<l.length->vP fs face t B g=false:=fun _=>by rw[h8];simpa using hN
    have h0:=(nw (fs:=fs) (f:=f) (face:=face) (size:=size) (t:=t) (B:=B) hg).2 hne;simp(disch:=omega)[y1',y2,y3,y4];refine cg (m:=1) (hr.push _) (by simp;omega) rfl rfl (by omega) (by omega) (by rw[bq,Lw _ (by omega)];omega) (by rw[bq,Lw _ (by omega)];omega) ?_;intro vo' H' h6;simp(disch:=omega)[wrap64];refine ae (m':=l.length-(i+1)) (by omega) ⟨i+1,out++[g],vo',es2,by omega,rfl,g3,by rw[hd,h0];simp,by simp;omega,by simpa using h6,by simp(disch:=omega)⟩
  ·have hne:i+1<l.length->vP fs face t B g=false:=by
    intro h;unfold vP;rw[hX,hY,hZ];have h2:((i:Int)+1<l.length):=by omega
    simp[h2]at hc ⊢;intro h3 h4 h5;rw[hc h3 h4]at h5;cases h5
   have h0:=(nw (fs:=fs) (f:=f) (face:=face) (size:=size) (t:=t) (B:=B) hg).2 hne;simp(disch:=omega)[y1',y2,y3,y4];refine cg (m:=1) (h7.push _) (by rw[hj];omega) rfl rfl (by omega) (by omega) (by rw[bq,Lw _ (by omega)];omega) (by rw[bq,Lw _ (by omega)];omega) ?_;intro vo' H' h6;simp(disch:=omega)[wrap64];refine ae (m':=l.length-(i+1)) (by omega) ⟨i+1,out++[g],vo',es',by omega,rfl,hE,by rw[hd,h0];simp,by simp;omega,by simpa using h6,by simp(disch:=omega)⟩
 ·obtain rfl:i=l.length:=by omega
  rw[Mi]at hd;simp(disch:=omega)[hQ];refine⟨es',hE,?_⟩;rw[hd];simpa[ligL]using h7.cut (n:=H.length) (by simp)
end
def kn1(fs:List Fnt)(face size:Int)(t:List Int)(B:List Bool)(g g2:Gly):Gly:=
 if bdA B g2.f then { g with a:=max 0 (g.a+wdS fs ⟨face,size,rnA t (g2.f-1),rnA t g2.f,false⟩) } else g
def cQ(fs:List Fnt)(face size:Int)(t:List Int)(B:List Bool):List Gly->List Gly
 | []=>[]
 | [g]=>[g]
 | g::g2::r=>kn1 fs face size t B g g2::cQ fs face size t B (g2::r)
section
variable {fs:List Fnt}{face size:Int}{t:List Int}{B:List Bool}
theorem gW:∀ {l:List Gly},(cQ fs face size t B l).length=l.length
 | []=>rfl
 | [_]=>rfl
 | _::g2::r=>by rw[cQ,Lp,gW];rfl
theorem sE:∀ {l:List Gly}{i:Nat}{g g2:Gly},l[i]?=some g->l[i+1]?=some g2->(cQ fs face size t B l)[i]?=some (kn1 fs face size t B g g2)
 | [],_,_,_,h,_=>by simp at h
 | [_],i,_,_,_,h=>by simp at h
 | x::y::r,0,g,g2,h,h2=>by
  simp at h h2;subst h h2;rfl
 | x::y::r,i+1,g,g2,h,h2=>by
  rw[cQ,LG];exact sE (l:=y::r) (by simpa using h) (by simpa using h2)
theorem qF:∀ {l:List Gly}{i:Nat}{g:Gly},l[i]?=some g->l.length=i+1->(cQ fs face size t B l)[i]?=some g
 | [],_,_,h,_=>by simp at h
 | [_],0,_,h,_=>h
 | [_],i+1,_,_,h=>by simp at h
 | x::y::r,0,g,h,h2=>by simp at h2
 | x::y::r,i+1,g,h,h2=>by
  rw[cQ,LG];exact qF (l:=y::r) (by simpa using h) (by simpa using h2)
theorem sD:∀ {l:List Gly}{a b:Int},Chn a b l->Chn a b (cQ fs face size t B l)
 | [],_,_,h=>h
 | [_],_,_,h=>h
 | g::g2::r,a,b,⟨h1,h2,h3⟩=>by
  have h4:Chn g.t b (cQ fs face size t B (g2::r)):=sD h3;rw[cQ];unfold kn1;split
  ·exact⟨h1,h2,h4⟩
  ·exact⟨h1,h2,h4⟩
end
theorem Chn.nx:∀ {l:List Gly}{a b:Int}{i:Nat}{g g2:Gly},Chn a b l->l[i]?=some g->l[i+1]?=some g2->g2.f=g.t
 | [],_,_,_,_,_,_,h,_=>by simp at h
 | [_],_,_,_,_,_,_,_,h=>by simp at h
 | x::y::r,a,b,0,g,g2,⟨_,_,h3,_⟩,h,h2=>by
  simp at h h2;subst h h2;exact h3
 | x::y::r,a,b,i+1,g,g2,⟨_,_,h3⟩,h,h2=>h3.nx (i:=i) (by simpa using h) (by simpa using h2)
theorem yY{α:Type}{a l:List α}(ha:a.length=l.length){i k:Nat}(hk:i<=k):(a.take i++l.drop i)[k]?=l[k]?:=by
 by_cases h:i<=l.length
 ·rw[Lg (by simp;omega),L6,MD (by omega),M3];congr 1;omega
 ·rw[Lz (by simp;omega),Lz (by omega)]
theorem bh{α:Type}{a l:List α}(ha:a.length=l.length){i:Nat}:(a.take i++l.drop i).length=l.length:=by
 simp;omega
theorem dG{α:Type}{a l:List α}(ha:a.length=l.length){i:Nat}{x:α}(hx:a[i]?=some x):(a.take i++l.drop i).set i x=a.take (i+1)++l.drop (i+1):=by
 have hi:=(K5.1 hx).1;rw[LO _ _ (by simp;omega),L6,MD (by omega),NF,LD,hx,Lq (show i<l.length by omega),Nz];simp
theorem iw{α:Type}{a l:List α}(ha:a.length=l.length){i:Nat}{x:α}(hx:a[i]?=some x)(hl:l[i]?=some x):a.take i++l.drop i=a.take (i+1)++l.drop (i+1):=by
 have hi:=(K5.1 hx).1;rw[<- dG ha hx];apply LJ;intro k;by_cases hk:i=k
 ·subst hk;rw[yY ha (La _),Lm (by rw[bh ha];omega),hl]
 ·rw[Lb hk]
theorem dF{α:Type}{a l:List α}(ha:a.length=l.length){i:Nat}(hi:l.length<=i):a.take i++l.drop i=a:=by
 rw[Li (by omega),Mm hi,Mg]
theorem vT{f:Fnt}(hv:bQ f=0){size:Int}(hs:1<=size)(h0:size<=1000)(a b:Int):-5000000<=kJ f size a b/\kJ f size a b<=5000000:=by
 unfold kJ;cases hl:f.ker.find? (fun x=>decide (x.1=a)&&decide (x.2.1=b)) with
 | none=>exact (by omega:(-5000000:Int)<=0/\(0:Int)<=5000000)
 | some x =>
  have hm:x∈f.ker:=M5 hl;obtain⟨_,_,_,hr,_⟩:=dm hv;have h1:=hr.2.2.1 x hm;have h2:=hr.1;unfold okK at h1;unfold gp at h2;show -5000000<=jP f size x.2.2/\jP f size x.2.2<=5000000;have e1:x.2.2*size<=1000*1000:=by
   have:=MC (show x.2.2<=1000 by omega) (by omega:0<=size);omega
  have e2:-(1000*1000)<=x.2.2*size:=by
   have:=MC (show -1000<=x.2.2 by omega) (by omega:0<=size);omega
  unfold jP yG;have h3:5000000*(2*16)<=5000000*(2*f.u):=by omega
  have h4:-5000000*(2*f.u)<=-5000000*(2*16):=by omega
  exact⟨Int.le_ediv_of_mul_le (by omega) (by omega),Int.ediv_le_of_le_mul (by omega) (by omega)⟩
section
variable {prim:FuncId->Option Prim}(d:Nat)
theorem F9(hp:∀ f,Np5 f->prim f=none)(fs:List Fnt)(f:Fnt)(face size:Int)(hf:fs[face.toNat]?=some f)(hv:bQ f=0)(hs:1<=size)(hK:size<=1000)(t:List Int)(ht:t.length<=2000)(B:List Bool)(hB:B.length=t.length+1)
  (H base:Heap) (mw mu bb:Nat) (es:fG) (hmw:base[mw]?=some (wB es)) (hW:WOK fs es) (hn:ab base bb=some (B.map V.bool)) (fo:List Int) (l:List Gly) (a b:Int) (hl:Chn a b l) (ha:0<=a) (hb:b<=t.length) (hA:∀ g∈l,0<=g.a/\g.a<=5000000) (v:V) (hh:Hp H base [(8,v,l.flatMap aq)])
  (cfg:Cfg) (hM:MW cfg base) (g1:cfg.lo<=base.length):
  ∃ es' H',WOK fs es'/\Hp H' (base.set mw (wB es')) [(8,v,(cQ fs face size t B l).flatMap aq)] /\
   af md (K prim (d+9)) cfg 292 [.agg (prC t fo (.sl bb 0 B.length B.length 1) mw mu),.agg (aG f),.int .i64 face,.int .i64 size,v] H=some (v,H'):=by
 suffices HH:∃ r h2,af md (K prim (d+9)) cfg 292 [.agg (prC t fo (.sl bb 0 B.length B.length 1) mw mu),.agg (aG f),.int .i64 face,.int .i64 size,v] H=some (r,h2) /\
   (r=v/\∃ es',WOK fs es'/\Hp h2 (base.set mw (wB es')) [(8,v,(cQ fs face size t B l).flatMap aq)]) by
  obtain⟨r,h2,h3,rfl,es',h4,h5⟩:=HH;exact⟨es',h2,h4,h5,h3⟩
 refine xI (Post:=fun r h2=>r=v/\∃ es',WOK fs es'/\Hp h2 (base.set mw (wB es')) [(8,v,(cQ fs face size t B l).flatMap aq)]) rfl (hp 292 (by decide)) func292 rfl rfl rfl ?_;have hr:=(K5.1 hmw).1;have g3:=ao hn;have g4:=my hn hmw;have k3:=hl.len;have hle:=hh.le;have h0:=@gW fs face size t B l;obtain⟨p1,p2,p3,p4,p5,p6,p7,p8,p9⟩:=yB t fo bb B.length B.length mw mu;obtain⟨f1,f2,f3,f4,f5,_⟩:=fsl f;have hu:prog.underlying 160=some (.slice 225):=by kernel_rfl
 have hL:=hh.head.lenF aO (by omega) hu;simp(disch:=omega)[p1,f1];refine ah (fun m fr Hc=>∃ (i:Nat) (es':fG),m=l.length-i/\WOK fs es'/\i<=l.length /\
  Hp Hc (base.set mw (wB es')) [(8,v,((cQ fs face size t B l).take i++l.drop i).flatMap aq)]/\ab Hc H.length=some (prC t fo (.sl bb 0 B.length B.length 1) mw mu)/\ab Hc (H.length+1)=some (aG f)/\H.length+2<=Hc.length /\
  Slots 60 [(2,.int .i64 face),(3,.int .i64 size),(4,v),(5,.ptr H.length 0),(6,.ptr (H.length+1) 0),(11,.int .i64 i)] fr) (m:=l.length) (by omega)
  ⟨0,es,by omega,hW,by omega,by rw[bE hmw];simpa using hh.push _,by simp[p2],by simp[f2],by simp,by simp⟩ ?_
 rintro m fr Hc ⟨i,es',rfl,hw,hi,h6,bX,bF,hN,hO⟩;obtain⟨j,rfl⟩:=hO.ex;clear hO;by_cases g5:i+1<l.length
 ·have hI:(i:Int)+1<l.length:=by omega
  obtain⟨g,hg⟩:=atG (show i<l.length by omega);obtain⟨g2,hj⟩:=atG g5;obtain⟨bl,hP,hy,g6,h7⟩:=h6.head.posF aO (by omega) (by rw[bh h0];omega);rw[bh h0]at hP;subst hP;obtain⟨_,k4⟩:=hh.head.blk (b:=bl) rfl;have hQ:((cQ fs face size t B l).take i++l.drop i)[i]?=some g:=by rw[yY h0 (La _)];exact hg
  have hz:((cQ fs face size t B l).take i++l.drop i)[i+1]?=some g2:=by rw[yY h0 (by omega)];exact hj
  obtain⟨c1,c2,c3,c4⟩:=hl.get hg;obtain⟨d1,d2,d3,d4⟩:=hl.get hj;have k5:=hl.nx hg hj;have hD:=fun x=>dG (x:=x) h0 (i:=i);have h8:=iw h0 (i:=i) (x:=g);have hm:=sE (fs:=fs) (face:=face) (size:=size) (t:=t) (B:=B) hg hj;have hCl:=@bh _ (cQ fs face size t B l) l h0 i;generalize hC:(cQ fs face size t B l).take i++l.drop i=C at *;obtain⟨F,hF⟩:∃ F:Nat,g2.f=((F+1:Nat):Int):=⟨g2.f.toNat-1,by omega⟩;have k6:F+1<t.length:=by omega
  have bB:ab Hc bb=some (B.map V.bool):=by rw[h6.block (by simpa using g3),ak (Ne.symm g4)];exact hn
  have h9:(C.flatMap aq).length=l.length*8:=by rw[bq,hCl]
  have hR:=FM hz;rw[hF]at hR;have q2:(i+1)*8+2+1<=l.length*8:=by omega
  have g7:((i:Int)+1).toNat=i+1:=by omega
  have w0:slot (B.map V.bool) (F+1)=some (.bool (lgB B (F+1))):=by rw[slot,Lh,atB (by omega)];rfl
  have hS:bdA B g2.f=lgB B (F+1):=by rw[hF];rfl
  simp(disch:=omega)[hL,wrap64,hI,g7,h7,hR,bX,bB,p7,w0,-getElem?_pos];refine ar (fun hc=>?_) (fun hc=>?_)
  ·have hT:Hc[mw]?=some (wB es'):=by
    have h1:(Hc.take (base.set mw (wB es')).length)[mw]?=some (wB es'):=by rw[h6.take,Lm hr]
    rwa [LI (by simpa using hr)]at h1
   have g8:MW cfg Hc:=hM.of g1 h6 (by simp) fun q cs hq h1 h2=>by
    by_cases hX:mw=q
    ·subst hX;exact⟨_,hmw,rfl⟩
    ·rw[Lb hX]at h1;exact⟨_,h1,h2⟩
   have hd:=eq_true (Lk.1 g8.all);simp only[Ld,decide_eq_true_eq]at hd;obtain⟨x0,hY⟩:=atG (show F<t.length by omega);obtain⟨x1,hZ⟩:=atG (show F+1<t.length by omega);have r0:rnA t (g2.f-1)=x0:=by unfold rnA;rw[hF,K9,show (((F+1:Nat):Int)-1).toNat=F by omega];simp[hY,-getElem?_pos]
   have r1:rnA t g2.f=x1:=by unfold rnA;rw[hF,K9];simp[hZ,-getElem?_pos]
   obtain⟨es2,g9,hE⟩:=xt (prim:=prim) d hp fs f ⟨face,size,x0,x1,false⟩ hf hv hs hK Hc mw mu es' hT hw t fo bb B.length B.length ⟨Hc.length,mapsIn Hc,Hc.length⟩ (uG hT);have k7:=vT hv hs hK x0 x1;have g0:wdS fs ⟨face,size,x0,x1,false⟩=kJ f size x0 x1:=by unfold wdS;rw[hf];rfl
   rw[g0]at hE;simp only[pkC]at hE;have m4:md 290=4:=rfl;have k8:=hA g (K6 hg);have hH:=tO hQ;have q5:i*8+5+1<=l.length*8:=by omega
   have k9:((F:Int)+1-1).toNat=F:=by omega
   have k0:((F:Int)+1).toNat=F+1:=by omega
   refine ai 24 (by kernel_rfl) ?_;simp(disch:=omega)[h9,h7,hH,q5,bX,bF,p3,p4,p5,f3,f4,hY,hZ,k0,m4,hd,hE,oN,wrap64,-getElem?_pos];refine⟨iK fun q hq=>?_,?_⟩
   ·rcases Lt.1 hq with rfl|hq
    ·exact⟨_,bX⟩
    rcases Lt.1 hq with rfl|hq
    ·exact⟨_,bX⟩
    rcases Lt.1 hq with rfl|hq
    ·exact⟨_,bF⟩
    rcases Lt.1 hq with rfl|hq
    ·exact⟨_,bX⟩
    rcases Lt.1 hq with rfl|hq
    ·exact⟨_,h7⟩
    ·cases hq
   have k1:(Cfg.wr cfg bl)=true:=bH (by simp at hy;omega);have k2:(if 0<g.a+kJ f size x0 x1 then g.a+kJ f size x0 x1 else 0)=max 0 (g.a+kJ f size x0 x1):=by split<;>omega
   have hk:kn1 fs face size t B g g2={ g with a:=max 0 (g.a+kJ f size x0 x1) }:=by
    unfold kn1;rw[hS,if_pos (by simpa using hc),r0,r1,g0]
   rw[hk]at hm;rw[k2,Dc hQ,hD _ hm,if_pos k1];have w7:=@bh _ (cQ fs face size t B l) l h0 (i+1);simp(disch:=omega)[wrap64,-List.flatMap_append];have he:=((h6.set (b:=mw) (by simpa using hr) (wB es2)).setO (cs':=((cQ fs face size t B l).take (i+1)++l.drop (i+1)).flatMap aq) (fI _) (by rw[bq,bh h0,h9]));rw[M0]at he;refine ae (m':=l.length-(i+1)) (by omega) ⟨i+1,es2,rfl,g9,by omega,he,?_,?_,by simpa using hN,by simp(disch:=omega)⟩
   ·rw[ak (by omega),ak (by omega)];exact bX
   ·rw[ak (by omega),ak (by omega)];exact bF
  ·have hk:kn1 fs face size t B g g2=g:=by
    unfold kn1;rw[hS,if_neg (by simpa using hc)]
   rw[hk]at hm;simp(disch:=omega)[wrap64];refine ae (m':=l.length-(i+1)) (by omega) ⟨i+1,es',rfl,hw,by omega,by rw[<- h8 hm hg];exact h6,bX,bF,hN,by simp(disch:=omega)⟩
 ·have hJ:(cQ fs face size t B l).take i++l.drop i=cQ fs face size t B l:=by
   by_cases h2:i<l.length
   ·obtain⟨g,hg⟩:=atG h2;rw[iw h0 (qF hg (by omega)) hg,dF h0 (by omega)]
   ·exact dF h0 (by omega)
  have hI:¬ (i:Int)+1<l.length:=by omega
  simp(disch:=omega)[hL,wrap64,hI];rw[hJ]at h6;exact⟨es',hw,h6⟩
end
end Bi
end Go.Ab
