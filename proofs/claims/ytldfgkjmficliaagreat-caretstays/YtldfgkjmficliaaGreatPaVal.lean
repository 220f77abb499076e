/- Several texts of this proof in one. -/
import Derived.Test.YtldfgkjmficliaaGreatPaRef3
import Derived.Test.YtldfgkjmficliaaGreatPaGen2
set_option linter.all false
namespace Go.Ab
theorem Hp.call{H H2 base:Heap}{os os2:List Own}(h:Hp H base os)(h2:Hp H2 H os2):Hp H2 base (os2++os):=by
 refine⟨?_,Mv h.le h2.le,fun o ho=>?_,Ms.2 ⟨h2.dj,h.dj,fun a ha b hb c hc h0=>?_⟩⟩
 ·have:=congrArg (List.take base.length) h2.take;rw[Nt,MR h.le,h.take]at this;exact this
 ·rcases LA.1 ho with ho|ho
  ·exact (h2.own o ho).lo h.le
  ·exact (h.own o ho).of_blk fun b hb=>h2.block ((h.own o ho).blk hb).2
 ·have h3:=((h2.own a ha).blk hc).1;have h4:=((h.own b hb).blk h0).2;omega
theorem Hp.call1{H H2 base:Heap}{os:List Own}{o:Own}(h:Hp H base os)(h2:Hp H2 H [o]):Hp H2 base (o::os):=h.call h2
theorem tt{α:Type}{f:α->List V}{n k:Nat}(hf:∀ x,(f x).length=n)(hk:k<n):∀ (l:List α) (i:Nat),(l.flatMap f)[i*n+k]?=(l[i]?).bind fun x=>(f x)[k]?
 | [],i=>by simp
 | x::l,0=>by
  rw[L4,Lf (by rw[hf];omega)];simp
 | x::l,i+1=>by
  rw[L4,Lk (by rw[hf,Mc];omega),hf];have e:(i+1)*n+k-n=i*n+k:=by rw[Mc];omega
  rw[e,tt hf hk l i];simp
theorem cT{α:Type}{f:α->List V}{n k:Nat}(hf:∀ x,(f x).length=n)(hk:k<n){l:List α}{i:Nat}{x:α}(hx:l[i]?=some x):slot (l.flatMap f) (i*n+k)=slot (f x) k:=by
 rw[slot,tt hf hk,hx];rfl
theorem lz{α:Type}{f:α->List V}{n:Nat}(hf:∀ x,(f x).length=n)(hk:0<n){l:List α}{i:Nat}{x:α}(hx:l[i]?=some x):slot (l.flatMap f) (i*n)=slot (f x) 0:=cT (k:=0) hf hk hx
theorem eh{α:Type}{f:α->List V}{n k:Nat}(hf:∀ x,(f x).length=n)(hk:k<n){v:V}:∀ {l:List α}{i:Nat}{x x':α},l[i]?=some x->f x'=bz (f x) k v->bz (l.flatMap f) (i*n+k) v=(l.set i x').flatMap f
 | [],i,_,_,h,_=>by simp at h
 | y::l,0,x,x',h,e=>by
  simp at h;subst h;rw[bz,L4,L5 _ _ (by rw[hf];omega),Nf,L4,e];simp[bz]
 | y::l,i+1,x,x',h,e=>by
  have ih:=eh hf hk (l:=l) (i:=i) (by simpa using h) e;rw[bz]at ih ⊢;rw[L4,LU _ _ (by rw[hf,Mc];omega),hf];have e2:(i+1)*n+k-n=i*n+k:=by rw[Mc];omega
  rw[e2,ih,NR,L4]
theorem fW{α:Type}{f:α->List V}{n:Nat}(hf:∀ x,(f x).length=n){l:List α}{i:Nat}{x:α}(hx:l[i]?=some x):((l.flatMap f).drop (i*n)).take n=f x:=by
 have hl:=(Ld.1 hx).1;apply LY;intro k;by_cases hk:k<n
 ·rw[LR hk,Mh,tt hf hk,hx];rfl
 ·rw[Lw (by simp;omega),Lw (by rw[hf];omega)]
theorem OwnC.lenF{P:Program}{t e:TypeId}{α:Type}{f:α->List V}{n:Nat}(hf:∀ x,(f x).length=n)(hn:0<n)(hu:P.underlying t=some (.slice e)){h:Heap}{lo:Nat}{v:V}{l:List α}(ho:OwnC h lo n v (l.flatMap f)):dy P t v=some (.int .i64 l.length):=by
 rw[ho.len hu hn,bJ hf,LI _ hn]
theorem OwnC.posF{α:Type}{f:α->List V}{n:Nat}(hf:∀ x,(f x).length=n)(hn:0<n){h:Heap}{lo:Nat}{v:V}{l:List α}(ho:OwnC h lo n v (l.flatMap f))(hl:0<l.length):∃ b,v=.sl b 0 l.length l.length n/\lo<=b/\b<h.length/\ab h b=some (l.flatMap f):=by
 have h4:=bJ hf l;obtain⟨b,m,rfl,hm,h1,h2,h3⟩:=ho.pos (by intro e;rw[e]at h4;have h0:=Nat.mul_pos hl hn;rw[<- h4]at h0;exact absurd h0 (by simp));have:m=l.length:=by
  rw[h4]at hm;exact (Nat.eq_of_mul_eq_mul_right hn hm).symm
 subst this;exact⟨b,rfl,h1,h2,h3⟩
def vJ[I:Hid (List V->Heap->Prop)][Q:Hid dV](e:Ex)(fr:List V)(h:Heap):Prop:=
 match e with
 | .normal=>@Mid I fr h
 | e=>Q.val e fr h
@[simp] theorem FT{I:List V->Heap->Prop}{Q:dV}{fr:List V}{h:Heap}:@vJ ⟨I⟩ ⟨Q⟩ .normal fr h↔@Mid ⟨I⟩ fr h:=ME
@[simp] theorem I3{I:List V->Heap->Prop}{Q:dV}{i:Nat}{fr:List V}{h:Heap}:@vJ ⟨I⟩ ⟨Q⟩ (.exit i) fr h↔Q (.exit i) fr h:=ME
@[simp] theorem Ky{I:List V->Heap->Prop}{Q:dV}{fr:List V}{h:Heap}:@vJ ⟨I⟩ ⟨Q⟩ .ret fr h↔Q .ret fr h:=ME
section
variable {P:Program}{md:FuncId->Nat}{call:aW}{cfg:Cfg}{n:Nat}
theorem ji{c b:Code}{fr:List V}{h:Heap}{Q:dV}(I:List V->Heap->Prop)(h1:@wC P md call cfg n ⟨c⟩ fr h ⟨@vJ ⟨I⟩ ⟨Q⟩⟩)(h2:∀ fr h,I fr h->@wC P md call cfg n ⟨b⟩ fr h ⟨Q⟩):
  @wC P md call cfg n ⟨c⟩ fr h ⟨@A4 P md call cfg n ⟨b⟩ ⟨Q⟩⟩:=by
 refine GL h1 fun e fr h hm=>?_;cases e with
 | normal=>exact h2 fr h hm
 | exit i=>exact hm
 | ret=>exact hm
theorem cW{c b:Code}{fr:List V}{h:Heap}{Q:dV}(I:List V->Heap->Prop)(h1:@wC P md call cfg n ⟨c⟩ fr h ⟨@vJ ⟨I⟩ ⟨Q⟩⟩)(h2:∀ fr h,I fr h->@wC P md call cfg n ⟨b⟩ fr h ⟨Q⟩):
  @wC P md call cfg n ⟨.seq c b⟩ fr h ⟨Q⟩:=by
 rw[dU];exact ji I h1 h2
end
section
variable {P:Program}{md:FuncId->Nat}{call:aW}{cfg:Cfg}{n:Nat}
theorem Av{h base:Heap}{os:List Own}{d:V}{cs:List V}{k y:Nat}(ho:Hp h base ((k,d,cs)::os))(h3:cfg.lo<=base.length)(hk:0<k)(h0:cs.length / k*y<=1099511627776)(hlen:cs.length / k<=1099511627776):
  fP cfg h k y d 0 []=some (d,h):=by
 rcases ho.head with⟨rfl,rfl⟩|⟨b,n,rfl,hn,h1,hb⟩
 ·simp[fP,roomy]
 ·rw[hn,LI _ hk]at h0 hlen;have hw:cfg.wr b=true:=by simp only[Cfg.wr,Md,decide_eq_true_eq];left;omega
  have hr:roomy n y=true:=by simp[roomy];omega
  simp[fP,hr,aP,hb,hw,hn,eR hb,putAt]
theorem Ao{dst:Option Tmp}{fr:List V}{ops:Array Oper}{rest:List Oper}{Q:bR}{h base:Heap}{os:List Own}{d:V}{cs new:List V}{k m y:Nat}(ho:Hp h base ((k,d,cs)::os))(h3:cfg.lo<=base.length)
  (h0:new.length=m*k) (h6:isMap new=false) (hk:0<k) (h4:(cs.length / k+m)*y<=1099511627776) (hlen:cs.length / k+m<=1099511627776)
  (H:∀ d' h',Hp h' base ((k,d',cs++new)::os)->@wO P md call cfg ⟨ops⟩ ⟨rest⟩ (put fr dst d') h' ⟨Q⟩):
  @wS P md call cfg ⟨dst⟩ ⟨fr⟩ (fP cfg h k y d m new) ⟨ops⟩ ⟨rest⟩ ⟨Q⟩:=by
 rcases M8 m with rfl|hm
 ·have e:new=[]:=My (by simpa using h0);subst e;rw[Av ho h3 hk (by simpa using h4) (by simpa using hlen),eC];exact H d h (by simpa using ho)
 ·exact bH ho h3 h0 h6 hm hk h4 hlen H
end
end Go.Ab
namespace Go.Ab
open Go.Proofs
namespace Bi
attribute [local congr] aw
def pU(a c:Int):Int:=if a<c then -1 else if c<a then 1 else 0
def ix(a b c e:Int):Int:=if pU a c=0 then pU b e else pU a c
theorem pairS_neg{a b c e:Int}:0<=ix a b c e↔¬ (a<c\/a=c/\b<e):=by
 unfold ix pU
 repeat' split
 all_goals omega
section
variable {prim:FuncId->Option Prim}(d:Nat) (cfg:Cfg) (h:Heap)
theorem sV(hp:∀ f,Np5 f->prim f=none)(x a b:Int):af md (K prim (d+1)) cfg 118 [.int .i64 x,.int .i64 a,.int .i64 b] h=some (.bool (decide (a<=x)&&decide (x<=b)),h):=by
 refine aU rfl (hp 118 (by decide)) Tryz.func118 rfl rfl rfl (by simp) ?_;simp +contextual (disch:=first|omega|(simp;done)|(simp[Lj];done)|fail) [-ar,cC,ax,aG,cx]
theorem IX(hp:∀ f,Np5 f->prim f=none)(x:Int):af md (K prim (d+1)) cfg 119 [.int .i32 x] h=some (.bool (decide (0<=x)&&decide (x<=1114111)),h):=by
 refine aU rfl (hp 119 (by decide)) Tryz.func119 rfl rfl rfl (by simp) ?_;simp +contextual (disch:=first|omega|(simp;done)|(simp[Lj];done)|fail) [-ar,cC,ax,aG,cx]
theorem Jd(hp:∀ f,Np5 f->prim f=none)(x:Int):af md (K prim (d+1)) cfg 170 [.int .i32 x] h=some (.bool false,h):=by
 refine aU rfl (hp 170 (by decide)) Tryz.func170 rfl rfl rfl (by simp) ?_;simp
theorem xB(hp:∀ f,Np5 f->prim f=none)(x y:Int):af md (K prim (d+2)) cfg 153 [.int .i32 x,.int .i32 y] h=some (.int .i64 (pU x y),h):=by
 have hn:=fun cfg h x=>Jd (prim:=prim) d cfg h hp x;refine aU rfl (hp 153 (by decide)) Tryz.func153 rfl rfl rfl (by simp) ?_;unfold pU;by_cases h1:x<y
 ·simp[hn,h1]
 ·by_cases h2:y<x
  ·simp[hn,h1,h2]
  ·simp[hn,h1,h2]
theorem or_ok(hp:∀ f,Np5 f->prim f=none)(a b:Int)(H:Heap)(args:List V)(ha:args.mapM (frzA H)=some [il [a,b]]):af md (K prim (d+1)) cfg 152 args H=some (.int .i64 (if a=0 then b else a),H):=by
 refine call3 rfl (hp 152 (by decide)) Tryz.func152 rfl rfl rfl ha ?_;simp;refine ai (fun m fr H=>∃ (i:Nat),i<=2/\m=2-i/\H=[]/\(0<i->a=0)/\(1<i->b=0)/\Slots 18 [(3,.int .i64 0),(6,il [a,b]),(7,.int .i64 2),(8,.int .i64 i)] fr) (m:=2) (by omega) ⟨0,by omega,by omega,rfl,by simp,by simp,by simp⟩ ?_;rintro m fr H ⟨i,hi,rfl,rfl,h1,h2,hs⟩;obtain⟨j,rfl⟩:=hs.ex;clear hs;rcases i with _|_|i
 ·by_cases hz:a=0
  ·simp(disch:=omega)[hz,wrap64];exact ae (m':=1) (by omega) ⟨1,by omega,by omega,rfl,fun _=>hz,by simp,by simp[hz]⟩
  ·simp(disch:=omega)[hz]
 ·have h0:=h1 (by omega);by_cases hz:b=0
  ·simp(disch:=omega)[hz,wrap64];exact ae (m':=0) (by omega) ⟨2,by omega,by omega,rfl,fun _=>h0,fun _=>hz,by simp[hz]⟩
  ·simp(disch:=omega)[hz,h0]
 ·obtain rfl:i=0:=by omega
  have h0:=h1 (by omega);have h3:=h2 (by omega);simp[h0,h3]
theorem tP(hp:∀ f,Np5 f->prim f=none)(a b c e:Int):af md (K prim (d+3)) cfg 120 [.int .i32 a,.int .i32 b,.int .i32 c,.int .i32 e] h=some (.int .i64 (ix a b c e),h):=by
 have hc:=fun cfg h x y=>xB (prim:=prim) d cfg h hp x y;have ho:=fun cfg a b H args ha=>or_ok (prim:=prim) (d+1) cfg hp a b H args ha;refine aU rfl (hp 120 (by decide)) Tryz.func120 rfl rfl rfl (by simp) ?_;have h0:=fun cfg=>ho cfg (pU a c) (pU b e) [some [.int .i64 (pU a c),.int .i64 (pU b e)]] [.sl 0 0 2 2 1] rfl;simp[hc,h0];rfl
end
end Bi
end Go.Ab
