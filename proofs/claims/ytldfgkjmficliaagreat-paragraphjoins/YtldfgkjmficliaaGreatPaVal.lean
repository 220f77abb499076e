/- Several texts of this proof in one. -/
import Derived.Test.YtldfgkjmficliaaGreatPaRef2
import Derived.Test.YtldfgkjmficliaaGreatPaRef3
import Derived.Test.YtldfgkjmficliaaGreatPaGen2
set_option linter.unusedSimpArgs false
set_option linter.unusedVariables false
namespace Go.Ab
theorem Hp.call{H H2 base:Heap}{os os2:List Own}(h:Hp H base os)(h2:Hp H2 H os2):Hp H2 base (os2++os):=by
 refine⟨?_,Nat.le_trans h.le h2.le,fun o ho=>?_,List.pairwise_append.2 ⟨h2.dj,h.dj,fun a ha b hb c hc hc2=>?_⟩⟩
 ·have:=congrArg (List.take base.length) h2.take
  rw[List.take_take,Nat.min_eq_left h.le,h.take]at this
  exact this
 ·rcases List.mem_append.1 ho with ho|ho
  ·exact (h2.own o ho).lo h.le
  ·exact (h.own o ho).of_blk fun b hb=>h2.block ((h.own o ho).blk hb).2
 ·have h3:=((h2.own a ha).blk hc).1
  have h4:=((h.own b hb).blk hc2).2
  omega
theorem Hp.call1{H H2 base:Heap}{os:List Own}{o:Own}(h:Hp H base os)(h2:Hp H2 H [o]):Hp H2 base (o::os):=h.call h2
theorem sE{α:Type}{f:α→List V}{n k:Nat}(hf:∀ x,(f x).length=n)(hk:k<n):∀ (l:List α) (i:Nat),(l.flatMap f)[i*n+k]?=(l[i]?).bind fun x=>(f x)[k]?
 | [],i=>by simp
 | x::l,0=>by
  rw[List.flatMap_cons,List.getElem?_append_left (by rw[hf];omega)]
  simp
 | x::l,i+1=>by
  rw[List.flatMap_cons,List.getElem?_append_right (by rw[hf,Nat.add_mul];omega),hf]
  have e:(i+1)*n+k-n=i*n+k:=by rw[Nat.add_mul];omega
  rw[e,sE hf hk l i]
  simp
theorem eb{α:Type}{f:α→List V}{n k:Nat}(hf:∀ x,(f x).length=n)(hk:k<n){l:List α}{i:Nat}{x:α}(hx:l[i]?=some x):slot (l.flatMap f) (i*n+k)=slot (f x) k:=by
 rw[slot,sE hf hk,hx];rfl
theorem wL{α:Type}{f:α→List V}{n:Nat}(hf:∀ x,(f x).length=n)(hk:0<n){l:List α}{i:Nat}{x:α}(hx:l[i]?=some x):slot (l.flatMap f) (i*n)=slot (f x) 0:=eb (k:=0) hf hk hx
theorem gJ{α:Type}{f:α→List V}{n k:Nat}(hf:∀ x,(f x).length=n)(hk:k<n){v:V}:∀ {l:List α}{i:Nat}{x x':α},l[i]?=some x→f x'=bV (f x) k v→bV (l.flatMap f) (i*n+k) v=(l.set i x').flatMap f
 | [],i,_,_,h,_=>by simp at h
 | y::l,0,x,x',h,e=>by
  simp at h
  subst h
  rw[bV,List.flatMap_cons,List.set_append_left _ _ (by rw[hf];omega),List.set_cons_zero,List.flatMap_cons,e]
  simp[bV]
 | y::l,i+1,x,x',h,e=>by
  have ih:=gJ hf hk (l:=l) (i:=i) (by simpa using h) e
  rw[bV]at ih ⊢
  rw[List.flatMap_cons,List.set_append_right _ _ (by rw[hf,Nat.add_mul];omega),hf]
  have e2:(i+1)*n+k-n=i*n+k:=by rw[Nat.add_mul];omega
  rw[e2,ih,List.set_cons_succ,List.flatMap_cons]
theorem fE{α:Type}{f:α→List V}{n:Nat}(hf:∀ x,(f x).length=n){l:List α}{i:Nat}{x:α}(hx:l[i]?=some x):((l.flatMap f).drop (i*n)).take n=f x:=by
 have hl:=(List.getElem?_eq_some_iff.1 hx).1
 apply List.ext_getElem?
 intro k
 by_cases hk:k<n
 ·rw[List.getElem?_take_of_lt hk,List.getElem?_drop,sE hf hk,hx];rfl
 ·rw[List.getElem?_eq_none (by simp;omega),List.getElem?_eq_none (by rw[hf];omega)]
theorem OwnC.lenF{P:Program}{t e:TypeId}{α:Type}{f:α→List V}{n:Nat}(hf:∀ x,(f x).length=n)(hn:0<n)(hu:P.underlying t=some (.slice e)){h:Heap}{lo:Nat}{v:V}{l:List α}(ho:OwnC h lo n v (l.flatMap f)):dk P t v=some (.int .i64 l.length):=by
 rw[ho.len hu hn,cX hf,Nat.mul_div_cancel _ hn]
theorem OwnC.posF{α:Type}{f:α→List V}{n:Nat}(hf:∀ x,(f x).length=n)(hn:0<n){h:Heap}{lo:Nat}{v:V}{l:List α}(ho:OwnC h lo n v (l.flatMap f))(hl:0<l.length):∃ b,v=.sl b 0 l.length l.length n∧lo≤b∧b<h.length∧ab h b=some (l.flatMap f):=by
 have hfl:=cX hf l
 obtain⟨b,m,rfl,hm,h1,h2,h3⟩:=ho.pos (by intro e;rw[e]at hfl;have h0:=Nat.mul_pos hl hn;rw[← hfl]at h0;exact absurd h0 (by simp))
 have:m=l.length:=by
  rw[hfl]at hm
  exact (Nat.eq_of_mul_eq_mul_right hn hm).symm
 subst this
 exact⟨b,rfl,h1,h2,h3⟩
def uL[I:Hid (List V→Heap→Prop)][Q:Hid dQ](e:Ex)(fr:List V)(h:Heap):Prop:=
 match e with
 | .normal=>@Mid I fr h
 | e=>Q.val e fr h
@[simp] theorem E6{I:List V→Heap→Prop}{Q:dQ}{fr:List V}{h:Heap}:@uL ⟨I⟩ ⟨Q⟩ .normal fr h↔@Mid ⟨I⟩ fr h:=Iff.rfl
@[simp] theorem HQ{I:List V→Heap→Prop}{Q:dQ}{i:Nat}{fr:List V}{h:Heap}:@uL ⟨I⟩ ⟨Q⟩ (.exit i) fr h↔Q (.exit i) fr h:=Iff.rfl
@[simp] theorem Jy{I:List V→Heap→Prop}{Q:dQ}{fr:List V}{h:Heap}:@uL ⟨I⟩ ⟨Q⟩ .ret fr h↔Q .ret fr h:=Iff.rfl
section
variable {P:Program}{md:FuncId→Nat}{call:aR}{cfg:Cfg}{n:Nat}
theorem iL{c b:Code}{fr:List V}{h:Heap}{Q:dQ}(I:List V→Heap→Prop)(h1:@wC P md call cfg n ⟨c⟩ fr h ⟨@uL ⟨I⟩ ⟨Q⟩⟩)(h2:∀ fr h,I fr h→@wC P md call cfg n ⟨b⟩ fr h ⟨Q⟩):
  @wC P md call cfg n ⟨c⟩ fr h ⟨@Ag P md call cfg n ⟨b⟩ ⟨Q⟩⟩:=by
 refine F0 h1 fun e fr h hm=>?_
 cases e with
 | normal=>exact h2 fr h hm
 | exit i=>exact hm
 | ret=>exact hm
theorem cP{c b:Code}{fr:List V}{h:Heap}{Q:dQ}(I:List V→Heap→Prop)(h1:@wC P md call cfg n ⟨c⟩ fr h ⟨@uL ⟨I⟩ ⟨Q⟩⟩)(h2:∀ fr h,I fr h→@wC P md call cfg n ⟨b⟩ fr h ⟨Q⟩):
  @wC P md call cfg n ⟨.seq c b⟩ fr h ⟨Q⟩:=by
 rw[dF]
 exact iL I h1 h2
end
section
variable {P:Program}{md:FuncId→Nat}{call:aR}{cfg:Cfg}{n:Nat}
theorem zx{h base:Heap}{os:List Own}{d:V}{cs:List V}{k y:Nat}(ho:Hp h base ((k,d,cs)::os))(hlo:cfg.lo≤base.length)(hk:0<k)(hsz:cs.length / k*y≤1099511627776)(hlen:cs.length / k≤1099511627776):
  gj cfg h k y d 0 []=some (d,h):=by
 rcases ho.head with⟨rfl,rfl⟩|⟨b,n,rfl,hn,h1,hb⟩
 ·simp[gj,roomy]
 ·rw[hn,Nat.mul_div_cancel _ hk]at hsz hlen
  have hw:cfg.wr b=true:=by simp only[Cfg.wr,Bool.or_eq_true,decide_eq_true_eq];left;omega
  have hr:roomy n y=true:=by simp[roomy];omega
  simp[gj,hr,aO,hb,hw,hn,fk hb,putAt]
theorem lX{dst:Option Tmp}{fr:List V}{ops:Array Oper}{rest:List Oper}{Q:ck}{h base:Heap}{os:List Own}{d:V}{cs new:List V}{k m y:Nat}(ho:Hp h base ((k,d,cs)::os))(hlo:cfg.lo≤base.length)
  (hnew:new.length=m*k) (hmn:isMap new=false) (hk:0<k) (hsz:(cs.length / k+m)*y≤1099511627776) (hlen:cs.length / k+m≤1099511627776)
  (H:∀ d' h',Hp h' base ((k,d',cs++new)::os)→@wO P md call cfg ⟨ops⟩ ⟨rest⟩ (put fr dst d') h' ⟨Q⟩):
  @wS P md call cfg ⟨dst⟩ ⟨fr⟩ (gj cfg h k y d m new) ⟨ops⟩ ⟨rest⟩ ⟨Q⟩:=by
 rcases Nat.eq_zero_or_pos m with rfl|hm
 ·have e:new=[]:=List.eq_nil_of_length_eq_zero (by simpa using hnew)
  subst e
  rw[zx ho hlo hk (by simpa using hsz) (by simpa using hlen),gv]
  exact H d h (by simpa using ho)
 ·exact bZ ho hlo hnew hmn hm hk hsz hlen H
end
end Go.Ab
namespace Go.Ab
open Go.Proofs
namespace Bi
attribute [local congr] az
def oU(a c:Int):Int:=if a<c then -1 else if c<a then 1 else 0
def gS(a b c e:Int):Int:=if oU a c=0 then oU b e else oU a c
theorem pairS_neg{a b c e:Int}:0≤gS a b c e↔¬ (a<c∨a=c∧b<e):=by
 unfold gS oU
 repeat' split
 all_goals omega
section
variable {prim:FuncId→Option Prim}(d:Nat) (cfg:Cfg) (h:Heap)
theorem sa(hp:∀ f,Np5 f→prim f=none)(x a b:Int):af md (K prim (d+1)) cfg 118 [.int .i64 x,.int .i64 a,.int .i64 b] h=some (.bool (decide (a≤x)&&decide (x≤b)),h):=by
 refine bo rfl (hp 118 (by decide)) Tryz.func118 rfl rfl rfl (by simp) ?_
 simp +contextual (disch:=first|omega|(simp;done)|(simp[Decidable.imp_iff_not_or];done)|fail) [-ao,bM,aq,ax,bh]
theorem HM(hp:∀ f,Np5 f→prim f=none)(x:Int):af md (K prim (d+1)) cfg 119 [.int .i32 x] h=some (.bool (decide (0≤x)&&decide (x≤1114111)),h):=by
 refine bo rfl (hp 119 (by decide)) Tryz.func119 rfl rfl rfl (by simp) ?_
 simp +contextual (disch:=first|omega|(simp;done)|(simp[Decidable.imp_iff_not_or];done)|fail) [-ao,bM,aq,ax,bh]
theorem HX(hp:∀ f,Np5 f→prim f=none)(x:Int):af md (K prim (d+1)) cfg 170 [.int .i32 x] h=some (.bool false,h):=by
 refine bo rfl (hp 170 (by decide)) Tryz.func170 rfl rfl rfl (by simp) ?_
 simp
theorem wy(hp:∀ f,Np5 f→prim f=none)(x y:Int):af md (K prim (d+2)) cfg 153 [.int .i32 x,.int .i32 y] h=some (.int .i64 (oU x y),h):=by
 have hn:=fun cfg h x=>HX (prim:=prim) d cfg h hp x
 refine bo rfl (hp 153 (by decide)) Tryz.func153 rfl rfl rfl (by simp) ?_
 unfold oU
 by_cases h1:x<y
 ·simp[hn,h1]
 ·by_cases h2:y<x
  ·simp[hn,h1,h2]
  ·simp[hn,h1,h2]
theorem or_ok(hp:∀ f,Np5 f→prim f=none)(a b:Int)(H:Heap)(args:List V)(ha:args.mapM (frzA H)=some [il [a,b]]):af md (K prim (d+1)) cfg 152 args H=some (.int .i64 (if a=0 then b else a),H):=by
 refine call3 rfl (hp 152 (by decide)) Tryz.func152 rfl rfl rfl ha ?_
 simp
 refine aj (fun m fr H=>∃ (i:Nat),i≤2∧m=2-i∧H=[]∧(0<i→a=0)∧(1<i→b=0)∧Slots 18 [(3,.int .i64 0),(6,il [a,b]),(7,.int .i64 2),(8,.int .i64 i)] fr) (m:=2) (by omega) ⟨0,by omega,by omega,rfl,by simp,by simp,by simp⟩ ?_
 rintro m fr H ⟨i,hi,rfl,rfl,h1,h2,hs⟩
 obtain⟨j,rfl⟩:=hs.ex
 clear hs
 rcases i with _|_|i
 ·by_cases hz:a=0
  ·simp(disch:=omega)[hz,wrap64]
   exact ae (m':=1) (by omega) ⟨1,by omega,by omega,rfl,fun _=>hz,by simp,by simp[hz]⟩
  ·simp(disch:=omega)[hz]
 ·have ha0:=h1 (by omega)
  by_cases hz:b=0
  ·simp(disch:=omega)[hz,wrap64]
   exact ae (m':=0) (by omega) ⟨2,by omega,by omega,rfl,fun _=>ha0,fun _=>hz,by simp[hz]⟩
  ·simp(disch:=omega)[hz,ha0]
 ·obtain rfl:i=0:=by omega
  have ha0:=h1 (by omega)
  have hb0:=h2 (by omega)
  simp[ha0,hb0]
theorem sV(hp:∀ f,Np5 f→prim f=none)(a b c e:Int):af md (K prim (d+3)) cfg 120 [.int .i32 a,.int .i32 b,.int .i32 c,.int .i32 e] h=some (.int .i64 (gS a b c e),h):=by
 have hc:=fun cfg h x y=>wy (prim:=prim) d cfg h hp x y
 have ho:=fun cfg a b H args ha=>or_ok (prim:=prim) (d+1) cfg hp a b H args ha
 refine bo rfl (hp 120 (by decide)) Tryz.func120 rfl rfl rfl (by simp) ?_
 have ho':=fun cfg=>ho cfg (oU a c) (oU b e) [some [.int .i64 (oU a c),.int .i64 (oU b e)]] [.sl 0 0 2 2 1] rfl
 simp[hc,ho']
 rfl
end
end Bi
end Go.Ab
