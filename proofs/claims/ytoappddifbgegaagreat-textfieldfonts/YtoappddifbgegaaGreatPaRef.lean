/- Several texts of this proof in one. -/
import Derived.Test.YtoappddifbgegaaGreatPaGen
set_option linter.all false
set_option maxHeartbeats 8000000
set_option maxRecDepth 100000
namespace Go.Ab
open Go.Proofs Go.Proofs.Tryz
namespace Bi
structure Spn where
 f:Int
 t:Int
 n:Int
 z:Int
def aR(s:Spn):List V:=[.int .i64 s.f,.int .i64 s.t,.int .i64 s.n,.int .i64 s.z]
structure Par where
 t:List Int
 s:List Spn
 b:Int
 a:Int
 w:Int
def cY(p:Par):List V:=[rl p.t,.lst (p.s.map aR),.int .i64 p.b,.int .i64 p.a,.int .i64 p.w]
def Cov:Int->Int->List Spn->Prop
 | a,b,[]=>a=b
 | a,b,s::l=>s.f=a/\a<s.t/\Cov s.t b l
theorem Cov.snoc:∀ {l:List Spn}{a b:Int}{s:Spn},Cov a b l->s.f=b->b<s.t->Cov a s.t (l++[s])
 | [],_,_,_,h,h1,h2=>⟨h1.trans h.symm,by rw[h];exact h2,rfl⟩
 | _::_,_,_,_,⟨h1,h2,h3⟩,g1,g2=>⟨h1,h2,h3.snoc g1 g2⟩
structure Cl(p:Par)(n fonts:Nat):Prop where
 len:p.t.length<=n
 b:-1<=p.b/\p.b<=1
 a:0<=p.a/\p.a<=2
 w:0<=p.w/\p.w<=1048576
 sp:∀ s∈p.s,0<=s.n/\s.n<fonts/\1<=s.z/\s.z<=40
 cov:(p.t=[]/\∃ s,p.s=[s]/\s.f=0/\s.t=0)\/(p.t≠[]/\Cov 0 p.t.length p.s)
 sl:p.s.length<=n+1
section
variable {prim:FuncId->Option Prim}(d:Nat) (cfg:Cfg) (h:Heap)
theorem Dl{h:Heap}{b:Nat}{L:List Int}{k:Nat}(i:Nat){X:Heap}{Y:List V}(hX:X[i]?=some (some Y))(hm:isMap Y=false):ab (hk h b L k++X) (h.length+i)=some Y:=by
 rw[ab,Lg (by simp),Dm,MU,hX];simp[hm]
theorem Dn{h:Heap}{b:Nat}{L:List Int}{k:Nat}(i:Nat){X:Heap}(Y:Option (List V)):(hk h b L k++X).set (h.length+i) Y=hk h b L k++X.set i Y:=by
 rw[LO _ _ (by simp),Dm,MU]
end
end Bi
end Go.Ab
namespace Go.Ab
theorem Hp.call{H H2 base:Heap}{os os2:List Own}(h:Hp H base os)(h2:Hp H2 H os2):Hp H2 base (os2++os):=by
 refine⟨?_,L9 h.le h2.le,fun o ho=>?_,NT.2 ⟨h2.dj,h.dj,fun a ha b hb c hc h0=>?_⟩⟩
 ·have:=congrArg (List.take base.length) h2.take;rw[NK,MD h.le,h.take]at this;omega
 ·rcases LB.1 ho with ho|ho
  ·exact (h2.own o ho).lo h.le
  ·exact (h.own o ho).of_blk fun b hb=>h2.block ((h.own o ho).blk hb).2
 ·have h3:=((h2.own a ha).blk hc).1;have h4:=((h.own b hb).blk h0).2;omega
theorem Hp.call1{H H2 base:Heap}{os:List Own}{o:Own}(h:Hp H base os)(h2:Hp H2 H [o]):Hp H2 base (o::os):=h.call h2
theorem tM{α:Type}{f:α->List V}{n k:Nat}(hf:∀ x,(f x).length=n)(hk:k<n):∀ (l:List α) (i:Nat),(l.flatMap f)[i*n+k]?=(l[i]?).bind fun x=>(f x)[k]?
 | [],i=>by simp
 | x::l,0=>by
  grind
 | x::l,i+1=>by
  rw[Mj,Lg (by grind),hf];have e:(i+1)*n+k-n=i*n+k:=by grind
  rw[e,tM hf hk l i];simp
theorem dN{α:Type}{f:α->List V}{n k:Nat}(hf:∀ x,(f x).length=n)(hk:k<n){l:List α}{i:Nat}{x:α}(hx:l[i]?=some x):slot (l.flatMap f) (i*n+k)=slot (f x) k:=by
 grind[slot,tM]
theorem xY{α:Type}{f:α->List V}{n:Nat}(hf:∀ x,(f x).length=n)(hk:0<n){l:List α}{i:Nat}{x:α}(hx:l[i]?=some x):slot (l.flatMap f) (i*n)=slot (f x) 0:=dN (k:=0) hf hk hx
theorem gh{α:Type}{f:α->List V}{n k:Nat}(hf:∀ x,(f x).length=n)(hk:k<n){v:V}:∀ {l:List α}{i:Nat}{x x':α},l[i]?=some x->f x'=bR (f x) k v->bR (l.flatMap f) (i*n+k) v=(l.set i x').flatMap f
 | [],i,_,_,h,_=>by rfl
 | y::l,0,x,x',h,e=>by
  grind[bR,List.set_append_left]
 | y::l,i+1,x,x',h,e=>by
  have ih:=gh hf hk (l:=l) (i:=i) (by simp_all) e
  grind[bR,List.set_append_right,Nat.add_mul]
theorem fN{α:Type}{f:α->List V}{n:Nat}(hf:∀ x,(f x).length=n){l:List α}{i:Nat}{x:α}(hx:l[i]?=some x):((l.flatMap f).drop (i*n)).take n=f x:=by
 have hl:=(K5.1 hx).1;apply LJ
 grind[List.getElem?_take_of_lt,tM,List.getElem?_eq_none]
theorem OwnC.lenF{P:Program}{t e:TypeId}{α:Type}{f:α->List V}{n:Nat}(hf:∀ x,(f x).length=n)(hn:0<n)(hu:P.underlying t=some (.slice e)){h:Heap}{lo:Nat}{v:V}{l:List α}(ho:OwnC h lo n v (l.flatMap f)):dc P t v=some (.int .i64 l.length):=by
 rw[ho.len hu hn,cE hf,Lw _ hn]
theorem OwnC.posF{α:Type}{f:α->List V}{n:Nat}(hf:∀ x,(f x).length=n)(hn:0<n){h:Heap}{lo:Nat}{v:V}{l:List α}(ho:OwnC h lo n v (l.flatMap f))(hl:0<l.length):∃ b,v=.sl b 0 l.length l.length n/\lo<=b/\b<h.length/\ab h b=some (l.flatMap f):=by
 have h4:=cE hf l;obtain⟨b,m,rfl,hm,h1,h2,h3⟩:=ho.pos (by intro e;rw[e]at h4;have h0:=Nat.mul_pos hl hn;simp_all);have:m=l.length:=by
  grind[Nat.eq_of_mul_eq_mul_right]
 simp_all
def vS[I:Hid (List V->Heap->Prop)][Q:Hid dI](e:Ex)(fr:List V)(h:Heap):Prop:=
 match e with
 | .normal=>@Mid I fr h
 | e=>Q.val e fr h
@[simp] theorem F8{I:List V->Heap->Prop}{Q:dI}{fr:List V}{h:Heap}:@vS ⟨I⟩ ⟨Q⟩ .normal fr h↔@Mid ⟨I⟩ fr h:=Mt
@[simp] theorem Jd{I:List V->Heap->Prop}{Q:dI}{i:Nat}{fr:List V}{h:Heap}:@vS ⟨I⟩ ⟨Q⟩ (.exit i) fr h↔Q (.exit i) fr h:=Mt
@[simp] theorem Kq{I:List V->Heap->Prop}{Q:dI}{fr:List V}{h:Heap}:@vS ⟨I⟩ ⟨Q⟩ .ret fr h↔Q .ret fr h:=Mt
section
variable {P:Program}{md:FuncId->Nat}{call:aF}{cfg:Cfg}{n:Nat}
theorem jf{c b:Code}{fr:List V}{h:Heap}{Q:dI}(I:List V->Heap->Prop)(h1:@wC P md call cfg n ⟨c⟩ fr h ⟨@vS ⟨I⟩ ⟨Q⟩⟩)(h2:∀ fr h,I fr h->@wC P md call cfg n ⟨b⟩ fr h ⟨Q⟩):
  @wC P md call cfg n ⟨c⟩ fr h ⟨@yg P md call cfg n ⟨b⟩ ⟨Q⟩⟩:=by
 refine AH h1 fun e fr h hm=>?_;cases e with
 | normal=>exact h2 fr h hm
 | exit i=>exact hm
 | ret=>exact hm
theorem cP{c b:Code}{fr:List V}{h:Heap}{Q:dI}(I:List V->Heap->Prop)(h1:@wC P md call cfg n ⟨c⟩ fr h ⟨@vS ⟨I⟩ ⟨Q⟩⟩)(h2:∀ fr h,I fr h->@wC P md call cfg n ⟨b⟩ fr h ⟨Q⟩):
  @wC P md call cfg n ⟨.seq c b⟩ fr h ⟨Q⟩:=by
 rw[dp];exact jf I h1 h2
end
section
variable {P:Program}{md:FuncId->Nat}{call:aF}{cfg:Cfg}{n:Nat}
theorem AO{h base:Heap}{os:List Own}{d:V}{cs:List V}{k y:Nat}(ho:Hp h base ((k,d,cs)::os))(h3:cfg.lo<=base.length)(hk:0<k)(h0:cs.length / k*y<=1099511627776)(hlen:cs.length / k<=1099511627776):
  fX cfg h k y d 0 []=some (d,h):=by
 rcases ho.head with⟨rfl,rfl⟩|⟨b,n,rfl,hn,h1,hb⟩
 ·simp[fX,roomy]
 ·rw[hn,Lw _ hk]at h0 hlen;have hw:cfg.wr b=true:=by simp only[Cfg.wr,LP,decide_eq_true_eq];omega
  grind[roomy,fX,aJ,eK,putAt]
theorem AK{dst:Option Tmp}{fr:List V}{ops:Array Oper}{rest:List Oper}{Q:ca}{h base:Heap}{os:List Own}{d:V}{cs new:List V}{k m y:Nat}(ho:Hp h base ((k,d,cs)::os))(h3:cfg.lo<=base.length)
  (h0:new.length=m*k) (h4:isMap new=false) (hk:0<k) (h6:(cs.length / k+m)*y<=1099511627776) (hlen:cs.length / k+m<=1099511627776)
  (H:∀ d' h',Hp h' base ((k,d',cs++new)::os)->@wO P md call cfg ⟨ops⟩ ⟨rest⟩ (put fr dst d') h' ⟨Q⟩):
  @wS P md call cfg ⟨dst⟩ ⟨fr⟩ (fX cfg h k y d m new) ⟨ops⟩ ⟨rest⟩ ⟨Q⟩:=by
 rcases MN m with rfl|hm
 ·have e:new=[]:=Ml (by omega);subst e;rw[AO ho h3 hk (by omega) (by omega),dt];exact H d h (by simp_all)
 ·exact cg ho h3 h0 h4 hm hk h6 hlen H
end
end Go.Ab
namespace Go.Ab
noncomputable def gq(p:Prop)(v:V):V:=by
 classical
 exact if p then v else .no
theorem qz{p:Prop}{v:V}(h:p):gq p v=v:=by unfold gq;exact if_pos h
theorem ye{p:Prop}{v:V}(h:¬ p):gq p v=.no:=by unfold gq;exact if_neg h
theorem aD{v:V}:gq True v=v:=qz trivial
theorem cV{v:V}:gq False v=.no:=ye id
def lgI(l:List Int)(i:Nat):Int:=l.getD i 0
def lgB(l:List Bool)(i:Nat):Bool:=l.getD i false
theorem atI{l:List Int}{i:Nat}(h:i<l.length):l[i]?=some (lgI l i):=by
 rw[lgI,K9,K4 h];rfl
theorem atB{l:List Bool}{i:Nat}(h:i<l.length):l[i]?=some (lgB l i):=by
 rw[lgB,K9,K4 h];rfl
section
variable (P:Program) (md:FuncId->Nat) (call:aF) (cfg:Cfg)
def wGq(p:Prop)(r:Option (V×Heap))[dst:Hid (Option Tmp)][ops:Hid (Array Oper)][l:Hid (List Oper)][fr:Hid (List V)][h:Hid Heap][Q:Hid ca]:Prop:=
 (p/\@wS P md call cfg dst fr r ops l Q)\/(¬ p/\@wO P md call cfg ops l (put fr.val dst.val .no) h.val Q)
end
section
variable {P:Program}{md:FuncId->Nat}{call:aF}{cfg:Cfg}{dst:Option Tmp}{op:Op}{ops:Array Oper}{l:List Oper}{fr:List V}{h:Heap}{Q:ca}
theorem az{p p':Prop}{r r':Option (V×Heap)}{dst:Hid (Option Tmp)}{ops:Hid (Array Oper)}{l:Hid (List Oper)}{fr:Hid (List V)}{h:Hid Heap}{Q:Hid ca}(hp:p=p')(hr:p'->r=r'):
  @wGq P md call cfg p r dst ops l fr h Q=@wGq P md call cfg p' r' dst ops l fr h Q:=by
 subst hp;by_cases h:p
 ·rw[hr h]
 ·simp[wGq,h]
theorem cu{b want:Bool}:@wG P md call cfg (some (.bool b)) ⟨want⟩ ⟨dst⟩ ⟨op⟩ ⟨ops⟩ ⟨l⟩ ⟨fr⟩ ⟨h⟩ ⟨Q⟩↔@wGq P md call cfg ((b==want)=true) (aB P md call cfg fr h op) ⟨dst⟩ ⟨ops⟩ ⟨l⟩ ⟨fr⟩ ⟨h⟩ ⟨Q⟩:=by
 rw[au];cases hb:(b==want)<;>simp[wGq]
theorem wG_q2{b want:Bool}{c:Prop}:@wG P md call cfg (some (gq c (.bool b))) ⟨want⟩ ⟨dst⟩ ⟨op⟩ ⟨ops⟩ ⟨l⟩ ⟨fr⟩ ⟨h⟩ ⟨Q⟩↔@wGq P md call cfg (c/\(b==want)=true) (aB P md call cfg fr h op) ⟨dst⟩ ⟨ops⟩ ⟨l⟩ ⟨fr⟩ ⟨h⟩ ⟨Q⟩:=by
 by_cases hc:c
 ·rw[qz hc,cu];simp[wGq,hc]
 ·rw[ye hc,wG_no];simp[wGq,hc]
theorem aw{p:Prop}{v:V}:@wGq P md call cfg p (some (v,h)) ⟨dst⟩ ⟨ops⟩ ⟨l⟩ ⟨fr⟩ ⟨h⟩ ⟨Q⟩↔@wO P md call cfg ⟨ops⟩ ⟨l⟩ (put fr dst (gq p v)) h ⟨Q⟩:=by
 by_cases hp:p
 ·rw[qz hp];simp[wGq,hp]
 ·rw[ye hp];simp[wGq,hp]
theorem xn{r:Option (V×Heap)}:@wGq P md call cfg True r ⟨dst⟩ ⟨ops⟩ ⟨l⟩ ⟨fr⟩ ⟨h⟩ ⟨Q⟩↔@wS P md call cfg ⟨dst⟩ ⟨fr⟩ r ⟨ops⟩ ⟨l⟩ ⟨Q⟩:=by simp[wGq]
theorem cT{r:Option (V×Heap)}:@wGq P md call cfg False r ⟨dst⟩ ⟨ops⟩ ⟨l⟩ ⟨fr⟩ ⟨h⟩ ⟨Q⟩↔@wO P md call cfg ⟨ops⟩ ⟨l⟩ (put fr dst .no) h ⟨Q⟩:=by simp[wGq]
theorem bU{p:Prop}{x y:Bool}{h:Heap}(hp:p↔x=true):oD (some (.bool x)) (some (gq p (.bool y))) (some (.bool false)) h=some (.bool (x&&y),h):=by
 cases x
 ·rfl
 ·rw[qz (hp.2 rfl)];rfl
theorem cp{p:Prop}{x y:Bool}{h:Heap}(hp:p↔x=false):oD (some (.bool x)) (some (.bool true)) (some (gq p (.bool y))) h=some (.bool (x||y),h):=by
 cases x
 ·rw[qz (hp.2 rfl)];rfl
 ·rfl
end
end Go.Ab
namespace Go.Ab
open Go.Proofs Go.Proofs.Tryz
namespace Bi
attribute [local congr] az
def iq(r:List (Int×Int)):List Int:=r.flatMap fun x=>List.replicate x.1.toNat x.2
theorem nK(r:List (Int×Int))(x:Int×Int):iq (r++[x])=iq r++List.replicate x.1.toNat x.2:=by simp[iq]
theorem rB:∀ (r:List (Int×Int)),(∀ x∈r,1<=x.1)->((iq r).length:Int)=bZ r
 | [],_=>by simp[iq,bZ]
 | a::l,h=>by
  have ih:=rB l fun x hx=>h x (Lc _ hx);have hb:=h a (Ll ..);have e1:bZ (a::l)=a.1+bZ l:=by simp[bZ]
  have e2:iq (a::l)=List.replicate a.1.toNat a.2++iq l:=by simp[iq]
  rw[e1,e2];simp;omega
structure SpR(r:List (Int×Int))(out:List Spn)(a l:Int):Prop where
 ea:a=bZ r
 z:r=[]->out=[]/\l=-1
 c:Cov 0 a out
 el:r≠[]->∃ o s,out=o++[s]/\s.n=l/\(l=0\/l=1)
 p:∀ s∈out,(s.n=0\/s.n=1)/\s.z=10/\0<=s.f/\s.t<=a/\∀ k:Nat,s.f<=k->k<s.t->∃ m,(iq r)[k]?=some m/\s.n=m%2
 n:out.length<=r.length
theorem qb:∀ {l:List Spn}{a b:Int}{s:Spn},Cov a b (l++[s])->Cov a s.f l/\s.f<s.t/\s.t=b
 | [],_,_,_,⟨h1,h2,h3⟩=>⟨h1.symm,by rw[h1];exact h2,h3⟩
 | _::l,_,_,_,⟨h1,h2,h3⟩=>by
  obtain⟨g1,g2,g3⟩:=qb h3;exact⟨⟨h1,h2,g1⟩,g2,g3⟩
theorem SpR.zero:SpR [] [] 0 (-1):=⟨rfl,fun _=>⟨rfl,rfl⟩,rfl,fun h=>absurd rfl h,fun s hs=>(by cases hs),by simp⟩
theorem H9{r:List (Int×Int)}{x:Int×Int}(hr:∀ y∈r,1<=y.1){k:Nat}(h1:bZ r<=k)(h2:(k:Int)<bZ r+x.1):(iq (r++[x]))[k]?=some x.2:=by
 have hl:=rB r hr;rw[nK,Lg (by omega),NB,if_pos (by omega)]
theorem yP{r:List (Int×Int)}{x:Int×Int}{k:Nat}{m:Int}(h:(iq r)[k]?=some m):(iq (r++[x]))[k]?=some m:=by
 rw[nK,K8 (K5.1 h).1,h]
theorem SpR.same{r:List (Int×Int)}{o:List Spn}{s:Spn}{a l:Int}(h:SpR r (o++[s]) a l)(hn:r≠[])(hr:∀ y∈r,1<=y.1){x:Int×Int}(h1:1<=x.1)(hx:x.2%2=l):SpR (r++[x]) (o++[⟨s.f,s.t+x.1,s.n,s.z⟩]) (a+x.1) l:=by
 obtain⟨g1,g2,g3⟩:=qb h.c;have ha:=h.ea;obtain⟨o',s',he,h0,h3⟩:=h.el hn;obtain⟨rfl,h4⟩:=List.append_inj' he rfl;cases h4;refine⟨by rw[dk,ha],fun e=>by simp at e,?_,fun _=>⟨o,_,rfl,h0,h3⟩,fun q hq=>?_,by have:=h.n;simp at this ⊢;omega⟩
 ·rw[<- g3];exact Cov.snoc (s:=⟨s.f,s.t+x.1,s.n,s.z⟩) g1 rfl (show s.f<s.t+x.1 by omega)
 ·simp only[LB,LN]at hq;rcases hq with hq|rfl
  ·obtain⟨q1,q2,q3,q4,q5⟩:=h.p q (Mv _ hq);refine⟨q1,q2,q3,by omega,fun k k1 k2=>?_⟩;obtain⟨m,m1,m2⟩:=q5 k k1 k2;exact⟨m,yP m1,m2⟩
  ·obtain⟨q1,q2,q3,q4,q5⟩:=h.p s (List.mem_append_right _ (LN.2 rfl));refine⟨q1,q2,q3,by show s.t+x.1<=_;omega,fun k k1 k2=>?_⟩;by_cases hk:(k:Int)<s.t
   ·obtain⟨m,m1,m2⟩:=q5 k k1 hk;exact⟨m,yP m1,m2⟩
   ·exact⟨x.2,H9 hr (by omega) (by have:(k:Int)<s.t+x.1:=k2;omega),by show s.n=_;omega⟩
theorem SpR.next{r:List (Int×Int)}{out:List Spn}{a l:Int}(h:SpR r out a l)(hr:∀ y∈r,1<=y.1){x:Int×Int}(h1:1<=x.1)(h0:0<=a):SpR (r++[x]) (out++[⟨a,a+x.1,x.2%2,10⟩]) (a+x.1) (x.2%2):=by
 have ha:=h.ea;refine⟨by rw[dk,ha],fun e=>by simp at e,Cov.snoc (s:=⟨a,a+x.1,x.2%2,10⟩) h.c rfl (show a<a+x.1 by omega),fun _=>⟨out,_,rfl,rfl,by omega⟩,fun q hq=>?_,by have:=h.n;simp at this ⊢;omega⟩;simp only[LB,LN]at hq;rcases hq with hq|rfl
 ·obtain⟨q1,q2,q3,q4,q5⟩:=h.p q hq;refine⟨q1,q2,q3,by omega,fun k k1 k2=>?_⟩;obtain⟨m,m1,m2⟩:=q5 k k1 k2;exact⟨m,yP m1,m2⟩
 ·exact⟨by show x.2%2=0\/x.2%2=1;omega,rfl,h0,by show a+x.1<=_;omega,fun k k1 k2=>⟨x.2,H9 hr (by have:a<=k:=k1;omega) (by have:(k:Int)<a+x.1:=k2;omega),rfl⟩⟩
def cfP:List V:=[.bool false,.bool false,.int .i64 100,.int .i64 0,.int .i64 1,.int .i64 10,.int .i64 1000,.int .i64 0,.int .i64 0]
theorem and1{n:Int}(h0:0<=n)(h1:n<=15):bx .and .i64 n 1=some (.int .i64 (n%2)):=by
 have:n=0\/n=1\/n=2\/n=3\/n=4\/n=5\/n=6\/n=7\/n=8\/n=9\/n=10\/n=11\/n=12\/n=13\/n=14\/n=15:=by omega
 rcases this with rfl|rfl|rfl|rfl|rfl|rfl|rfl|rfl|rfl|rfl|rfl|rfl|rfl|rfl|rfl|rfl<;>rfl
def uJ(r:List (Int×Int)):Prop:=∀ x∈r,1<=x.1/\0<=x.2/\x.2<=15
theorem nM{r:List (Int×Int)}(h:uJ r)(i:Nat):0<=bZ (r.take i)/\bZ (r.take i)<=bZ r:=by
 have h0:∀ (r:List (Int×Int)),uJ r->0<=bZ r:=by
  intro r
  induction r with
  | nil=>intro _;simp[bZ]
  | cons a r ih =>
   intro h;have h1:=ih (fun x hx=>h x (Lc _ hx));have h2:=h a (Ll ..);simp only[bZ,Mk,OB]at h1 ⊢;omega
 have e:bZ r=bZ (r.take i)+bZ (r.drop i):=by
  unfold bZ;rw[<- List.sum_append,<- List.map_append,Ma]
 have h1:=h0 (r.take i) fun x hx=>h x (LQ hx);have h2:=h0 (r.drop i) fun x hx=>h x (MG hx);omega
section
variable {prim:FuncId->Option Prim}(d:Nat)
theorem Ep(hp:∀ f,Np5 f->prim f=none)(t:List Int)(r:List (Int×Int))(ht:t≠[])(hr:uJ r)(hN:r.length<=1000)(hP:bZ r<=2000):
  ∃ v,(∃ out l,v=.lst (out.map aR)/\SpR r out (bZ r) l)/\∀ cfg h,af md (K prim (d+1)) cfg 62 [.agg [rl t,ml r],.agg cfP] h=some (v,h):=by
 refine iB rfl (hp _ (by decide)) func62 rfl rfl rfl (by simp[cfP]) ?_;simp(disch:=omega)[ht,cfP];refine ah (fun m fr H=>∃ (i:Nat) (a l:Int) (v:V) (out:List Spn) ,i<=r.length/\m=r.length-i/\SpR (r.take i) out a l/\Hp H [some [rl t,ml r],some cfP] [(4,v,out.flatMap aR)] /\
  Slots 73 [(3,.ptr 1 0),(5,v),(6,.int .i64 a),(7,.int .i64 l),(23,ml r),(24,.int .i64 r.length),(25,.int .i64 i)] fr) (m:=r.length) (by omega) ⟨0,0,-1,.nils,[],by omega,by omega,SpR.zero,Hp.start.nil 4,by simp⟩ ?_
 rintro m fr H ⟨i,a,l,v,out,hi,rfl,hS,hH,hs⟩;obtain⟨j,rfl⟩:=hs.ex;clear hs;by_cases hn:i<r.length
 ·have hI:(i:Int)<r.length:=by omega
  obtain⟨x,hx⟩:∃ x,r[i]?=some x:=⟨_,K4 hn⟩;obtain⟨x1,x2,x3⟩:=hr x (K6 hx);have hq:=lI hx;have h9:=dh r i x hx;have hand:=and1 x2 x3;obtain⟨s1,s2⟩:=nM hr (i+1);obtain⟨s3,s4⟩:=nM hr i;have ha:=hS.ea;rw[h9,dk]at s1 s2;have hj:∀ y∈r.take i,1<=y.1:=fun y hy=>(hr y (LQ hy)).1;have hu:ab (H++[some [V.int .i64 x.1,V.int .i64 x.2]]) H.length=some [V.int .i64 x.1,V.int .i64 x.2]:=dK rfl;have h4:=cE (f:=aR) (n:=4) (fun _=>rfl) out;have hw:=hS.n;have hz:(r.take i).length<=i:=by simp;omega
  have hQ:2<=H.length:=by have:=hH.le;simpa using this
  simp(disch:=omega)[hI,hq,hand,-getElem?_pos,-List.getElem?_map];by_cases hd:x.2%2=l
  ·have hne:r.take i≠[]:=fun e=>by have:=(hS.z e).2;omega
   obtain⟨o,s,ho,hA,hD⟩:=hS.el hne;subst ho;obtain⟨b,hv,he,hE,hF⟩:=hH.head.posF (f:=aR) (n:=4) (fun _=>rfl) (by omega) (by simp);simp(disch:=omega)[hd];subst hv;have hR:o.length<1000:=by simp at hw;omega
   have hl:(o++[s])[o.length]?=some s:=by simp
   have h8:s.t=a:=(qb hS.c).2.2;have h0:=hS.same hne hj (x:=x) x1 hd;rw[<- h9]at h0;have h6:bR ((o++[s]).flatMap aR) (o.length*4+1) (.int .i64 (a+x.1))=(o++[(⟨s.f,s.t+x.1,s.n,s.z⟩:Spn)]).flatMap aR:=by
    rw[gh (f:=aR) (n:=4) (fun _=>rfl) (by decide) hl (x':=⟨s.f,s.t+x.1,s.n,s.z⟩) (by rw[<- h8];rfl)];simp
   have hf:((o++[s]).flatMap aR).length=o.length*4+4:=by rw[h4];simp;omega
   have hO:=(hH.push [some [V.int .i64 x.1,V.int .i64 x.2]]).setO (cs':=(o++[(⟨s.f,s.t+x.1,s.n,s.z⟩:Spn)]).flatMap aR) (by cases o<;>rfl) (by rw[h4,cE (f:=aR) (n:=4) (fun _=>rfl)];simp);refine ai 9 (by kernel_rfl) ?_;rw[h8]at h0 hO;have hg:ab (H.set b (some ((o++[(⟨s.f,a+x.1,s.n,s.z⟩:Spn)]).flatMap aR))++[some [V.int .i64 x.1,V.int .i64 x.2]]) H.length=some [V.int .i64 x.1,V.int .i64 x.2]:=bAt rfl;rw[h8]at h6;have hm:=hO;rw[LY _ _ hE,Ln,LZ]at hm;simp(disch:=omega)[hF,hu,wrap64,-List.flatMap_append,-List.length_flatMap,dN (f:=aR) (n:=4) (k:=1) (fun _=>rfl) (by decide) hl,aR,hf,h6,h8,hg];exact ae (m':=r.length-(i+1)) (by omega) ⟨i+1,a+x.1,l,.sl b 0 (o.length+1) (o.length+1) 4,o++[⟨s.f,a+x.1,s.n,s.z⟩],by omega,rfl,h0,hm,by simp(disch:=omega)⟩
  ·have he:ab H 1=some cfP:=hH.block (by simp);have h0:=hS.next hj (x:=x) x1 (by omega);rw[<- h9]at h0;simp(disch:=omega)[hd,he,cfP,wrap64];by_cases h2:x.2%2=0
   ·rw[h2]at h0;simp(disch:=omega)[h2];refine cg (m:=1) (hH.new (k:=2) (n:=1) (cs:=[V.int .i64 x.1,V.int .i64 x.2]) rfl rfl [some [V.int .i64 a,.int .i64 (a+x.1),.int .i64 0,.int .i64 10],some [V.int .i64 a,.int .i64 (a+x.1),.int .i64 0,.int .i64 10]]).swap (by simp) rfl rfl (by omega) (by omega) (by rw[h4];omega) (by rw[h4];omega) ?_;intro v' H' h7;obtain⟨c,n,hh,hJ,hK,hL,h3⟩:=h7.snd.pos (by simp);cases hh;simp(disch:=omega)[h3,wrap64];exact ae (m':=r.length-(i+1)) (by omega) ⟨i+1,a+x.1,_,v',out++[⟨a,a+x.1,_,10⟩],by omega,rfl,h0,by simpa[aR]using h7.drop (List.Sublist.cons₂ _ (Nr _)),by simp(disch:=omega)⟩
   ·have h2':x.2%2=1:=by omega
    rw[h2']at h0;simp(disch:=omega)[h2,he,cfP];refine cg (m:=1) (hH.new (k:=2) (n:=1) (cs:=[V.int .i64 x.1,V.int .i64 x.2]) rfl rfl [some [V.int .i64 a,.int .i64 (a+x.1),.int .i64 1,.int .i64 10],some [V.int .i64 a,.int .i64 (a+x.1),.int .i64 1,.int .i64 10]]).swap (by simp) rfl rfl (by omega) (by omega) (by rw[h4];omega) (by rw[h4];omega) ?_;intro v' H' h7;obtain⟨c,n,hh,hJ,hK,hL,h3⟩:=h7.snd.pos (by simp);cases hh;simp(disch:=omega)[h3,wrap64];exact ae (m':=r.length-(i+1)) (by omega) ⟨i+1,a+x.1,_,v',out++[⟨a,a+x.1,_,10⟩],by omega,rfl,h0,by simpa[aR]using h7.drop (List.Sublist.cons₂ _ (Nr _)),by simp(disch:=omega)[h2']⟩
 ·obtain rfl:i=r.length:=by omega
  rw[LF]at hS;have hI:¬ ((r.length:Int)<r.length):=by omega
  have hM:=hH.head.frzF (f:=aR) (n:=4) (m:=0) (d:=4) (fun _=>rfl) (by omega) (LA _) (fun _=>rfl) (fun s c hc=>by simp[aR]at hc;rcases hc with rfl|rfl|rfl|rfl<;>simp);simp[hI,hM];exact⟨out,rfl,l,by rw[<- hS.ea];exact hS⟩
end
end Bi
end Go.Ab
namespace Go.Ab
open Go.Proofs Go.Proofs.Tryz
section
variable {P:Program}{md':FuncId->Nat}{prim:FuncId->Option Prim}{n:Nat}{cfg:Cfg}
theorem Iv{d:Nat}{f:FuncId}{fn:Func}{c:Code}{k:Nat}{rs:List ResultVar}{args:List V}{h h2:Heap}{r:V}(hm:md' f=0)(hp:prim f=none)(hf:P.funcs[f]?=some fn)(hb:fn.body=some c)(hk:fn.ntmps=k)
  (hr:fn.results.toList=rs) (ha:args.all V.noref=false)
  (hw:@wC P md' (aH P md' prim n d) ⟨h.length,[],h.length⟩ n ⟨c⟩ (args++List.replicate (k-args.length) .no) h ⟨@kFn P ⟨rs⟩ ⟨fun r' h'=>frz h' h.length 6 r'=some r/\h'.take h.length=h2⟩⟩):
  af md' (aH P md' prim n (d+1)) cfg f args h=some (r,h2):=by
 obtain⟨r',h',h1,h2,h3⟩:=cn hp hf hb hk hr hw;simp only[af,hm,ha,Lv,if_false,h1,h2,h3]
end
namespace Bi
attribute [local congr] az
theorem lg{c:Nat}(h:Utf8.valid c=true):fy (c:Int)=true:=by
 simp only[Utf8.valid,LP,Ld,decide_eq_true_eq]at h;simp only[fy,Ld,LP,decide_eq_true_eq];omega
theorem rp{c:Nat}(h:c<55296):fy (c:Int)=true:=by
 simp only[fy,Ld,LP,decide_eq_true_eq];omega
theorem uW(s:ByteArray)(i:Nat):fy (Int.ofNat (Utf8.decode s i).1)=true:=by
 have he:fy (Int.ofNat Utf8.runeError)=true:=by decide
 unfold Utf8.decode;simp only;split
 ·rename_i h;exact rp (by omega)
 ·split
  ·split
   ·exact rp (by omega)
   ·exact he
  ·split
   ·split
    ·rename_i h;simp only[Ld]at h;exact lg h.2
    ·exact he
   ·split
    ·split
     ·rename_i h;simp only[Ld]at h;exact lg h.2
     ·exact he
    ·exact he
theorem rn(s:ByteArray):∀ (n i:Nat),(cO s n i).all fy=true
 | 0,_=>rfl
 | n+1,i=>by
  simp only[cO];split
  ·simp only[Nv,Ld];exact⟨uW s i,rn s n _⟩
  ·rfl
theorem xR{h:Heap}{l:List Int}:ff h (rl l)=some (l.map (V.int .i32)):=by
 simp only[ff]
 induction l with
 | nil=>rfl
 | cons x l ih=>simp[Mn]at ih ⊢;simp[ih]
theorem mR:∀ l:List Int,fJ (l.map (V.int .i32))=some l
 | []=>rfl
 | x::l=>by simp[fJ,mR l]
theorem cvR_S{h:Heap}{x:V}:eh prog h 25 9 x=((ff h x).bind fJ).map fun ns=>(.str (lA ns),h):=by
 have h1:prog.underlying 25=some (.slice 21):=by kernel_rfl
 have h2:prog.underlying 9=some .string:=by kernel_rfl
 have h3:prog.underlying 21=some (.int .i32):=by kernel_rfl
 simp only[eh,h1,h2,h3];cases ff h x with
 | none=>rfl
 | some cs=>simp only[Md];cases fJ cs<;>rfl
theorem cvS_R{h:Heap}{s:ByteArray}:eh prog h 9 25 (.str s)=some (.sl h.length 0 (cO s s.size 0).length (cO s s.size 0).length 1,h++[some ((cO s s.size 0).map (V.int .i32))]):=by kernel_rfl
section
variable {prim:FuncId->Option Prim}(d:Nat) (cfg:Cfg) (h:Heap)
theorem JU(hp:∀ f,Np5 f->prim f=none)(b:Nat)(l:List Int):
  ∃ l':List Int,l'.all fy=true/\af md (K prim (d+1)) cfg 47 [.ptr b 0,rl l] h=some (rl l',h):=by
 refine⟨cO (lA l) (lA l).size 0,rn _ _ _,Iv rfl (hp _ (by decide)) func47 rfl rfl rfl rfl ?_⟩;simp[cvR_S,cvS_R,xR,mR];exact cK (d:=4) (k:=.i32) (by simp) (La _) rfl
theorem J0(hp:∀ f,Np5 f->prim f=none)(L:List Int)(k:Nat)(hL:L.length<=4000)(hk:k<=L.length)(n:Nat)(hn:n<=1000)(b:Nat)(hb:ab h b=some [il L,.int .i64 k])(hw:cfg.wr b=true)(h3:cfg.lo<=h.length):
  ∃ (l:List Int) (k':Nat),l.length<=n/\l.all fy=true/\k'<=L.length/\af md (K prim (d+5)) cfg 17 [.ptr b 0,.int .i64 n] h=some (rl l,h.set b (some [il L,.int .i64 k'])):=by
 obtain⟨l,k1,_,h0,hT⟩:=G1 (prim:=prim) d ⟨cfg.lo,cfg.ex,h.length⟩ h hp L k hL hk n hn b hb hw h3;obtain⟨l',hs,hV⟩:=JU (prim:=prim) (d+3) ⟨cfg.lo,cfg.ex,h.length⟩ (h.set b (some [il L,.int .i64 k1])) hp b l;by_cases hlen:n<l'.length
 ·refine⟨l'.take n,k1,by simp;omega,?_,h0,call1 rfl (hp _ (by decide)) func17 rfl rfl rfl ?_⟩
  ·rw[Lk]at hs ⊢;exact fun x hx=>hs x (LQ hx)
  ·simp(disch:=omega)[hT,hV,hlen];exact Li (by simp)
 ·refine⟨l',k1,by omega,hs,h0,call1 rfl (hp _ (by decide)) func17 rfl rfl rfl ?_⟩;simp(disch:=omega)[hT,hV,hlen];exact Li (by simp)
theorem It(hp:∀ f,Np5 f->prim f=none)(L:List Int)(k:Nat)(hL:L.length<=4000)(b:Nat)(r:Rd h b L k)(hw:cfg.wr b=true)(hg:cfg.lo<=h.length)(n:Nat)(hn:n<=1000):
  ∃ (t m:List Int) (k':Nat),t.length<=n/\t.all fy=true/\m.length=t.length/\(∀ x∈m,0<=x/\x<=15)/\k'<=L.length/\af md (K prim (d+6)) cfg 22 [.ptr b 0,.int .i64 n] h=some (.agg [rl t,ml (du m)],hk h b L k'):=by
 have h9:(Cfg.wr ⟨cfg.lo,cfg.ex,h.length⟩ b)=true:=hw;have hh:=r.lt;suffices HH:∃ r h2,af md (K prim (d+6)) cfg 22 [.ptr b 0,.int .i64 n] h=some (r,h2)/\∃ (t m:List Int) (k':Nat),t.length<=n/\t.all fy=true/\m.length=t.length/\(∀ x∈m,0<=x/\x<=15)/\k'<=L.length/\r=.agg [rl t,ml (du m)]/\h2=hk h b L k' by
  obtain⟨r,h2,h3,t,m,k',h4,h5,h6,h7,h8,rfl,rfl⟩:=HH;exact⟨t,m,k',h4,h5,h6,h7,h8,h3⟩
 refine ni rfl (hp _ (by decide)) func22 rfl rfl rfl ?_;have hN:=fun {k:Nat} (ha:k<=L.length) (n:Int) h1 h2=>r.nx (d+4) hp hL ha n h1 h2;obtain⟨t,k1,ht,hj,ha,hV⟩:=J0 (prim:=prim) d ⟨cfg.lo,cfg.ex,h.length⟩ (h++[some [V.nils,.nils]]) hp L k hL r.le n hn b (r.push _).blk h9 (by simp;omega);rw[LY _ _ hh]at hV;obtain⟨v1,k2,hq,hl,c2⟩:=hN ha 16 (by omega) (by omega);replace c2:=fun x=>c2 ⟨cfg.lo,cfg.ex,h.length⟩ x h9;unfold hk at c2;have bM:∀ (k:Nat) (z:Option (List V)) (l:List Int) (Y:Heap),ab (h.set b (some [il L,.int .i64 k])++z::some (l.map (V.int .i64))::Y) (h.length+1)=some (l.map (V.int .i64)):=fun k z l Y=>Dl 1 rfl gk;have sM:∀ (k:Nat) (z F X:Option (List V)) (Y:Heap),(h.set b (some [il L,.int .i64 k])++z::F::Y).set (h.length+1) X=h.set b (some [il L,.int .i64 k])++z::X::Y:=fun k z F X Y=>Dn 1 X;have b0:∀ (k:Nat) (F:List V) (Y:Heap),ab (h.set b (some [il L,.int .i64 k])++some (.nils::F)::Y) h.length=some (.nils::F):=fun k F Y=>Dl 0 rfl rfl;have s0:∀ (k:Nat) (F X:Option (List V)) (Y:Heap),(h.set b (some [il L,.int .i64 k])++F::Y).set h.length X=h.set b (some [il L,.int .i64 k])++X::Y:=fun k F X Y=>Dn 0 X;have w0:(Cfg.wr ⟨cfg.lo,cfg.ex,h.length⟩ h.length)=true:=bH hg;have wM:(Cfg.wr ⟨cfg.lo,cfg.ex,h.length⟩ (h.length+1))=true:=bH (by omega);simp(disch:=omega)[hV,lM,c2];refine ah (fun mm fr H=>∃ (i k mk:Nat) (M:List Int),i<=t.length/\mm=t.length-i/\k<=L.length/\mk<16/\M.length=t.length/\(∀ x∈M,0<=x/\x<=15)/\H=h.set b (some [il L,.int .i64 k])++[some [V.nils,.nils],some (M.map (V.int .i64))] /\
  Slots 35 [(0,.ptr b 0),(4,.ptr h.length 0),(5,rl t),(6,.sl (h.length+1) 0 t.length t.length 1),(7,.int .i64 mk),(8,.int .i64 i)] fr) (m:=t.length) (by omega) ⟨0,k2,v1,List.replicate t.length 0,by omega,by omega,hl,by omega,by simp,by simp,by simp,by simp⟩ ?_
 rintro mm fr H ⟨i,k,mk,M,hi,rfl,hd,hr,hM,hc,rfl,hs⟩;obtain⟨j,rfl⟩:=hs.ex;clear hs;by_cases he:i<t.length
 ·have hI:(i:Int)<t.length:=by omega
  obtain⟨v2,k4,hu,hf,c4⟩:=hN hd 3 (by omega) (by omega);replace c4:=fun x=>c4 ⟨cfg.lo,cfg.ex,h.length⟩ x h9;unfold hk at c4;simp(disch:=omega)[hI,c4];by_cases h0:v2=0
  ·obtain⟨v3,k5,hv,hm,c5⟩:=hN hf 16 (by omega) (by omega);replace c5:=fun x=>c5 ⟨cfg.lo,cfg.ex,h.length⟩ x h9;unfold hk at c5;simp(disch:=omega)[h0,c5,bM,sM,wM,hM,show i+1<=t.length from he,wrap64];exact ae (m':=t.length-(i+1)) (by omega) ⟨i+1,k5,v3,M.set i v3,by omega,rfl,hm,by omega,by simpa using hM,fun x hx=>(MM hx).elim (hc x) (by omega),by simp,by simp⟩
  ·simp(disch:=omega)[h0,bM,sM,wM,hM,show i+1<=t.length from he,wrap64];exact ae (m':=t.length-(i+1)) (by omega) ⟨i+1,k4,mk,M.set i mk,by omega,rfl,hf,by omega,by simpa using hM,fun x hx=>(MM hx).elim (hc x) (by omega),by simp,by simp⟩
 ·obtain rfl:i=t.length:=by omega
  have hI:¬ ((t.length:Int)<t.length):=by omega
  have hG:=fun (cfg:Cfg)=>Bf (prim:=prim) (d+4) cfg (h.set b (some [il L,.int .i64 k])++[some [V.nils,.nils],some (M.map (V.int .i64))]) (hp _ (by decide)) t M hM (by omega) (args:=[rl t,.sl (h.length+1) 0 t.length t.length 1]) (by
   have h1:=sA (cap:=t.length) (bM k (some [V.nils,.nils]) M []) (off:=0) (len:=t.length) (by omega);rw[Mo,Li (by omega)]at h1;simp[h1])
  have b1:∀ (k:Nat) (x:List (List V)) (F:List V) (Y:Heap),ab (h.set b (some [il L,.int .i64 k])++some (.lst x::F)::Y) h.length=some (.lst x::F):=fun k x F Y=>Dl 0 rfl rfl;simp(disch:=omega)[hI,hG,b0,s0,w0,b1];exact⟨t,ht,by simpa using hj,M,hM,hc,k,hd,⟨rfl,rfl⟩,by rw[Mb (by simp),Li (by simp)]⟩
end
theorem Im{r:List (Int×Int)}(h:uJ r)(h2:bZ r<=2000):r.any fY=false:=by
 rw[Od];intro x hx;obtain⟨h3,h4,h5⟩:=h x hx;obtain⟨a,b,rfl⟩:=List.append_of_mem hx;have g1:=(nM (r:=a++x::b) h a.length).1;have g2:=nM (r:=a++x::b) h (a.length+1);have e:(a++x::b).take (a.length+1)=a++[x]:=by simp[List.take_append,Li]
 rw[e,dk]at g2;simp at g1;simp[fY];omega
section
variable {prim:FuncId->Option Prim}(d:Nat) (cfg:Cfg) (h:Heap)
theorem GV(hp:∀ f,Np5 f->prim f=none)(t:List Int)(r:List (Int×Int))(hr:r.length<=2000)(hR:uJ r)(hf:bZ r<=2000):
  af md (K prim (d+1)) cfg 64 [.agg [rl t,ml r]] h=some (il (iq r),h):=by
 refine aP rfl (hp _ (by decide)) func64 rfl rfl rfl (by simp) ?_;simp;refine ah (fun m fr h=>∃ (i:Nat) (uv:V) (T:Heap),i<=r.length/\m=r.length-i/\h=some [rl t,ml r]::T/\OwnL h 1 .i64 uv (iq (r.take i)) /\
   Slots 33 [(1,.ptr 0 0),(3,uv),(4,.int .i64 i)] fr) (m:=r.length) (by omega) ⟨0,.nils,[],by omega,by omega,rfl,.inl ⟨rfl,rfl⟩,by simp⟩ ?_
 rintro m fr h ⟨i,uv,T,hi,rfl,rfl,h0,hs⟩;obtain⟨j,rfl⟩:=hs.ex;clear hs;by_cases h3:i<r.length
 ·obtain⟨x,hx⟩:∃ x,r[i]?=some x:=⟨r[i],K4 h3⟩;have h4:=lI hx;have h6:=dh r i x hx;obtain⟨x1,x2,x3⟩:=hR x (K6 hx);obtain⟨s1,s2⟩:=nM hR (i+1);have hg:=rB (r.take i) fun y hy=>(hR y (LQ hy)).1;rw[h6,dk]at s1 s2;obtain⟨s3,s4⟩:=nM hR i;simp(disch:=omega)[h3];refine ah (fun m fr h=>∃ (k:Nat) (uv:V) (T:Heap),(k:Int)<=x.1/\m=x.1.toNat-k/\h=some [rl t,ml r]::T/\OwnL h 1 .i64 uv (iq (r.take i)++List.replicate k x.2) /\
   Slots 33 [(1,.ptr 0 0),(3,uv),(4,.int .i64 i),(5,.int .i64 k)] fr) (m:=x.1.toNat) (by omega) ⟨0,uv,T,by omega,by omega,rfl,by simpa using h0,by simp⟩ ?_
  rintro m fr h ⟨k,uv,T,hk,rfl,rfl,h0,hs⟩;obtain⟨j,rfl⟩:=hs.ex;clear hs;by_cases h7:(k:Int)<x.1
  ·simp(disch:=omega)[h7,h4,-getElem?_pos,-List.getElem?_map];refine E1 (l:=iq (r.take i)++List.replicate k x.2) (lo:=1) ?_ (by simp) (by simp) (by simp;omega) (by simp;omega) ?_
   ·refine h0.mono fun c h1 h2=>?_;obtain⟨e,rfl⟩:∃ e,c=e+1:=⟨c-1,by omega⟩;simp only[de];exact aj (by simp at h2;omega)
   ·intro d' h' h9 ha h8;simp(disch:=omega)[wrap64];refine ae (m':=x.1.toNat-(k+1)) (by omega) ⟨k+1,d',h'.drop 1,by omega,rfl,?_,?_,by simp⟩
    ·have:=Ma 1 h';rw[ha]at this;simpa using this.symm
    ·rw[Mx,<- List.append_assoc];exact h9
  ·have hc:k=x.1.toNat:=by omega
   simp(disch:=omega)[h7,h4,wrap64,-getElem?_pos,-List.getElem?_map];refine ae (m':=r.length-(i+1)) (by omega) ⟨i+1,uv,T,by omega,rfl,rfl,?_,by simp⟩;rw[h6,nK,<- hc];exact h0
 ·rw[Li (by omega)]at h0;rcases h0 with⟨rfl,he⟩|⟨b,rfl,hh,hd⟩
  ·simp[h3,he]
  ·simp[h3,cK hd (LA _) rfl]
theorem DG(hp:∀ f,Np5 f->prim f=none)(t:List Int)(r:List (Int×Int))(ht:t.length<=2000)(hr:r.length<=2000)(hR:uJ r)(h4:bZ r=t.length)(hv:iy t r=0)(k:Nat)(hk:k<t.length){m:Int}(hm:(iq r)[k]?=some m):
  af md (K prim (d+4)) cfg 26 [.agg [rl t,ml r],.int .i64 k] h=some (.int .i64 m,h):=by
 refine aP rfl (hp _ (by decide)) func26 rfl rfl rfl (by simp) ?_;have hS:=fun (cfg:Cfg) (h:Heap)=>GV (prim:=prim) (d+2) cfg h hp t r hr hR (by omega);have hV:=fun (cfg:Cfg) (h:Heap)=>uD (prim:=prim) (d+1) cfg h (hp _ (by decide)) (hp _ (by decide)) t r ht hr;rw[hv]at hV;have h0:¬ (t.length:Int)<=k:=by omega
 have h3:¬ (k:Int)<0:=by omega
 simp(disch:=omega)[hS,hV,hm,h0,h3,-getElem?_pos]
theorem IA(hp:∀ f,Np5 f->prim f=none)(l:List Spn)(hl:l.length<=1000)(n:Nat)(hn:n<=2000)(hc:(n=0/\∃ s,l=[s]/\s.f=0/\s.t=0)\/(n≠0/\Cov 0 n l)):
  af md (K prim (d+1)) cfg 25 [.lst (l.map aR),.int .i64 n] h=some (.bool true,h):=by
 refine aP rfl (hp _ (by decide)) func25 rfl rfl rfl (by simp) ?_;rcases hc with⟨rfl,s,rfl,s1,s2⟩|⟨h4,hc⟩
 ·simp(disch:=omega)[aR,s1,s2]
 ·have h6:¬ l.length=0:=fun e=>by
   obtain rfl:=LH.1 e;have:(0:Int)=n:=hc;omega
  simp(disch:=omega)[h6,h4];refine ah (fun m fr H=>∃ (i:Nat) (a:Int),i<=l.length/\m=l.length-i/\H=[]/\Cov a n (l.drop i)/\Slots 59 [(0,.lst (l.map aR)),(1,.int .i64 n),(5,.int .i64 a),(6,.int .i64 i)] fr) (m:=l.length) (by omega) ⟨0,0,by omega,by omega,rfl,hc,by simp⟩ ?_;rintro m fr H ⟨i,a,hi,rfl,rfl,h0,hs⟩;obtain⟨j,rfl⟩:=hs.ex;clear hs;by_cases h3:i<l.length
  ·have hI:(i:Int)<l.length:=by omega
   obtain⟨s,hx⟩:∃ s,l[i]?=some s:=⟨_,K4 h3⟩;have h7:l.drop i=s::l.drop (i+1):=by
    rw[Lq h3];rw[K4 h3]at hx;rw[Nf hx]
   rw[h7]at h0;obtain⟨g1,g2,g3⟩:=h0;have g4:¬ s.t<=a:=by omega
   simp(disch:=omega)[hI,hx,aR,g1,g4,wrap64,-getElem?_pos];exact ae (m':=l.length-(i+1)) (by omega) ⟨i+1,s.t,by omega,by omega,rfl,g3,by simp(disch:=omega)⟩
  ·obtain rfl:i=l.length:=by omega
   rw[Mi]at h0;have:a=n:=h0;subst this;simp(disch:=omega)
end
end Bi
end Go.Ab
namespace Go.Ab
open Go.Proofs Go.Proofs.Tryz
namespace Bi
def Dr:List V->Option (List Int)
 | []=>some []
 | .int .i64 n::r=>(Dr r).map (n::·)
 | _=>none
def CQ:List (Nat×Operand)->Bool
 | []=>true
 | (_,.const _)::r=>CQ r
 | _=>false
noncomputable def GM(ps:List (Nat×Operand)):Option (List Int):=
 if CQ ps then match cU [] ps with
  | some vs=>match bW prog 144 vs with
   | some (.agg cs)=>Dr cs
   | _=>none
  | none=>none
 else none
def bndOf(op:BinOp)(n:Int):Option Int:=match op with
 | .leq=>some n
 | .lss=>some (n-1)
 | _=>none
def okT(a:Nat):Bool:=decide (3<=a)&&decide (a<862)
noncomputable def lk:Code->Option (Int×List Int×Code)
 | .seq (.region _ o1 false) (.cond (.tmp c) (.seq (.region _ o2 false) .ret) rest) =>
  match o1.toList,o2.toList with
  | [⟨some a,.move (.tmp 0),_,_,_,none⟩,⟨some b,.binOp op 21 (.tmp a') (.const (.int .i32 n)) _,_,_,_,none⟩,⟨some c',.assign (.tmp b'),_,_,_,none⟩],[⟨some e,.build 144 ps,_,_,_,none⟩,⟨none,.store 144 (.tmp 2) (.tmp e'),_,_,_,none⟩] =>
   if a=a'/\b=b'/\c=c'/\e=e'/\okT a=true/\okT b=true/\okT c=true/\okT e=true then match bndOf op n,GM ps.toList with
    | some m,some l=>if l.length=5 then some (m,l,rest) else none
    | _,_=>none
   else none
  | _,_=>none
 | _=>none
section
variable {md':FuncId->Nat}{call:aF}{cfg:Cfg}{n:Nat}
theorem put_len{fr:List V}{a:Nat}{v:V}:(put fr (some a) v).length=fr.length:=by simp[put]
noncomputable def chk:List (Int×List Int)->Code->Option Code
 | [],c=>some c
 | (m,l)::t,c=>match lk c with
  | some (m',l',rest)=>if m=m'/\l=l' then chk t rest else none
  | none=>none
def look:List (Int×List Int)->Int->Option (List Int)
 | [],_=>none
 | (m,l)::t,r=>if r<=m then some l else look t r
end
section
variable {prim:FuncId->Option Prim}(d:Nat) (cfg:Cfg) (h:Heap)
end
theorem least:∀ (L:List Int) (r:Int),(∃ b∈L,r<=b)->∃ s∈L,r<=s/\∀ b∈L,r<=b->s<=b
 | [],_,⟨_,h,_⟩=>by simp at h
 | a::L,r,h=>by
  by_cases hL:∃ b∈L,r<=b
  ·obtain⟨s,h1,h2,h3⟩:=least L r hL;by_cases ha:r<=a/\a<=s
   ·exact⟨a,Ll ..,ha.1,fun b hb hr=>by
     rcases Lt.1 hb with rfl|hb
     ·omega
     ·have:=h3 b hb hr;omega⟩
   ·exact⟨s,Lc _ h1,h2,fun b hb hr=>by
     rcases Lt.1 hb with rfl|hb
     ·omega
     ·exact h3 b hb hr⟩
  ·obtain⟨b,hb,hr⟩:=h;rcases Lt.1 hb with rfl|hb
   ·exact⟨b,Ll ..,hr,fun c hc h0=>by
     rcases Lt.1 hc with rfl|hc
     ·omega
     ·exact absurd ⟨c,hc,h0⟩ hL⟩
   ·exact absurd ⟨b,hb,hr⟩ hL
section
variable {prim:FuncId->Option Prim}(d:Nat) (cfg:Cfg) (h:Heap)
end
attribute [local congr] az
abbrev bl(l:List Bool):V:=.lst (l.map fun b=>[.bool b])
section
variable {prim:FuncId->Option Prim}(d:Nat) (cfg:Cfg) (h:Heap)
end
end Bi
end Go.Ab
