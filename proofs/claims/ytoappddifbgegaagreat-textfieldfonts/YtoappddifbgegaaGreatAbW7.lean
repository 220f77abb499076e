/- Several texts of this proof in one. -/
import Derived.Test.YtoappddifbgegaaGreatPiFacts
import Derived.WalkKit
set_option linter.all false
set_option maxHeartbeats 1000000
namespace Go.Ab
@[simp] theorem ev_nilp{fr:List V}:ev fr (.const (.pointer none))=some .nilp:=rfl
@[simp] theorem ev_nilf{fr:List V}:ev fr (.const .nilFunc)=some .nilf:=rfl
@[simp] theorem ev_nilm{fr:List V}:ev fr (.const (.map none))=some .nilm:=rfl
theorem eK{h:Heap}{b:Nat}{cs:List V}(hb:ab h b=some cs):h.set b (some cs)=h:=by
 have:=aA hb;apply LJ
 grind
section
variable {P:Program}{md:FuncId->Nat}{cfg:Cfg}{n:Nat}{prim:FuncId->Option Prim}
theorem ni{d:Nat}{f:FuncId}{fn:Func}{c:Code}{k:Nat}{rs:List ResultVar}{args:List V}{h:Heap}{Post:V->Heap->Prop}(hm:md f=1)(hp:prim f=none)(hf:P.funcs[f]?=some fn)(hb:fn.body=some c)(hk:fn.ntmps=k)
  (hr:fn.results.toList=rs)
  (hw:@wC P md (aH P md prim n d) ⟨cfg.lo,cfg.ex,h.length⟩ n ⟨c⟩ (args++List.replicate (k-args.length) .no) h ⟨@kFn P ⟨rs⟩ ⟨fun r' h'=>∃ r,frz h' h.length 6 r'=some r/\Post r (h'.take h.length)⟩⟩):
  ∃ r h2,af md (aH P md prim n (d+1)) cfg f args h=some (r,h2)/\Post r h2:=by
 obtain⟨r',h',h1,r,h2,h3⟩:=cn hp hf hb hk hr hw
 grind[af]
theorem tD{d:Nat}{f:FuncId}{fn:Func}{c:Code}{k:Nat}{rs:List ResultVar}{args:List V}{h:Heap}{Post:V->Heap->Prop}(hm:md f=2)(hp:prim f=none)(hf:P.funcs[f]?=some fn)(hb:fn.body=some c)(hk:fn.ntmps=k)
  (hr:fn.results.toList=rs)
  (hw:@wC P md (aH P md prim n d) cfg n ⟨c⟩ (args++List.replicate (k-args.length) .no) h ⟨@kFn P ⟨rs⟩ ⟨Post⟩⟩):
  ∃ r h2,af md (aH P md prim n (d+1)) cfg f args h=some (r,h2)/\Post r h2:=by
 simp_all[cn,af]
end
@[simp] theorem IC{h:Heap}{b off len cap:Nat}:ff h (.sl b off len cap 1)=(ab h b).bind fun cs=>if off+len<=cs.length then some ((cs.drop off).take len) else none:=by
 simp only[ff];cases ab h b with
 | none=>rfl
 | some cs=>simp
theorem rT{h:Heap}{n d:Nat}{k:IntKind}(l:List Int)(off len:Nat):(((l.map (V.int k)).drop off).take len).mapM (frz h n (d+1))=some (((l.drop off).take len).map (V.int k)):=by
 grind[List.map_drop,List.map_take,fk]
theorem C8{h:Heap}{n d b off len cap:Nat}{k:IntKind}{l:List Int}(hb:ab h b=some (l.map (V.int k)))(hn:n<=b)(hl:off+len<=l.length):frz h n (d+2) (.sl b off len cap 1)=some (.lst (((l.drop off).take len).map fun x=>[.int k x])):=by
 have e:¬ b<n:=by omega
 have hlen:((l.drop off).take len).length=len:=by grind
 have e3:chunk 1 len (((l.drop off).take len).map (V.int k))=((l.drop off).take len).map fun x=>[V.int k x]:=by
  have:=gP (((l.drop off).take len).map (V.int k));simp only[ML,hlen,Ou]at this;exact this
 have e4:(((l.drop off).take len).map (V.int k)).all V.rf=true:=by
  rw[Lk];intro c hc;obtain⟨x,_,rfl⟩:=Me.1 hc;rfl
 simp_all[jA,if_false,Oa,rT,if_true,if_pos]
theorem sA{h:Heap}{b off len cap:Nat}{k:IntKind}{l:List Int}(hb:ab h b=some (l.map (V.int k)))(hl:off+len<=l.length):frzA h (.sl b off len cap 1)=some (.lst (((l.drop off).take len).map fun x=>[.int k x])):=by
 unfold frzA;rw[C8 (d:=4) hb (LA _) hl];rfl
def OwnL(h:Heap)(lo:Nat)(k:IntKind)(v:V)(l:List Int):Prop:=(v=.nils/\l=[])\/(∃ b,v=.sl b 0 l.length l.length 1/\lo<=b/\ab h b=some (l.map (V.int k)))
theorem OwnL.frzA{h:Heap}{lo:Nat}{k:IntKind}{v:V}{l:List Int}(ho:OwnL h lo k v l):frzA h v=some (.lst (l.map fun x=>[.int k x])):=by
 rcases ho with⟨rfl,rfl⟩|⟨b,rfl,_,hb⟩
 ·rfl
 ·rw[sA hb (by omega)];simp
theorem OwnL.len{P:Program}{t e:TypeId}{h:Heap}{lo:Nat}{k:IntKind}{v:V}{l:List Int}(hu:P.underlying t=some (.slice e))(ho:OwnL h lo k v l):dc P t v=some (.int .i64 l.length):=by
 rcases ho with⟨rfl,rfl⟩|⟨b,rfl,_,hb⟩
 ·exact mh hu
 ·exact fg hu
theorem OwnL.mono{h h':Heap}{lo:Nat}{k:IntKind}{v:V}{l:List Int}(ho:OwnL h lo k v l)(hh:∀ b,lo<=b->b<h.length->ab h' b=ab h b):OwnL h' lo k v l:=by
 rcases ho with⟨rfl,rfl⟩|⟨b,rfl,h1,hb⟩
 ·exact .inl ⟨rfl,rfl⟩
 ·exact .inr ⟨b,rfl,h1,by grind[ao]⟩
section
variable {P:Program}{md:FuncId->Nat}{call:aF}{cfg:Cfg}{n:Nat}
theorem E1{dst:Option Tmp}{fr:List V}{ops:Array Oper}{rest:List Oper}{Q:ca}{h:Heap}{d:V}{l:List Int}{lo y:Nat}{k:IntKind}{x:Int}(ho:OwnL h lo k d l)(h3:cfg.lo<=lo)(hH:lo<=h.length)
  (h0:(l.length+1)*y<=1099511627776) (hlen:l.length+1<=1099511627776)
  (H:∀ d' h',OwnL h' lo k d' (l++[x])->h'.take lo=h.take lo->lo<=h'.length->@wO P md call cfg ⟨ops⟩ ⟨rest⟩ (put fr dst d') h' ⟨Q⟩):
  @wS P md call cfg ⟨dst⟩ ⟨fr⟩ (fX cfg h 1 y d 1 [.int k x]) ⟨ops⟩ ⟨rest⟩ ⟨Q⟩:=by
 rcases ho with⟨rfl,rfl⟩|⟨b,rfl,h1,hb⟩
 ·rw[gL (by omega) (by omega) (by omega),dt];refine H _ _ (.inr ⟨h.length,by simp,hH,by simp⟩) ?_ (by grind)
  grind
 ·have h4:=ao hb;have hw:cfg.wr b=true:=by grind[Cfg.wr]
  rw[eN hb hw h0 hlen (by omega) (by simp),dt];refine H _ _ (.inr ⟨h.length,by simp,hH,?_⟩) ?_ (by grind)
  ·simp only[Oa];rw[Li (by simp)];simp;exact oh rfl
  grind[List.take_set_of_le]
end
end Go.Ab
namespace Go.Ab
def cC:V->Option Nat
 | .sl b _ _ _ _=>some b
 | _=>none
def Dj(v d:V):Prop:=∀ b,cC v=some b->cC d≠some b
theorem Dj.nils{v:V}:Dj v .nils:=fun _ _ h=>by cases h
theorem Dj.symm{v d:V}(h:Dj v d):Dj d v:=fun b h1 h2=>h b h2 h1
section
variable {P:Program}{md:FuncId->Nat}{call:aF}{cfg:Cfg}{n:Nat}
theorem AJ{dst:Option Tmp}{fr:List V}{ops:Array Oper}{rest:List Oper}{Q:ca}{h:Heap}{d:V}{l:List Int}{lo y:Nat}{k:IntKind}{x:Int}(ho:OwnL h lo k d l)(h3:cfg.lo<=lo)(hH:lo<=h.length)
  (h0:(l.length+1)*y<=1099511627776) (hlen:l.length+1<=1099511627776)
  (H:∀ d' h',OwnL h' lo k d' (l++[x])->h'.take lo=h.take lo->lo<=h'.length->h.length<=h'.length->(∀ v,Dj v d->(∀ b,cC v=some b->b<h.length)->Dj v d'/\∀ b,cC v=some b->ab h' b=ab h b)->@wO P md call cfg ⟨ops⟩ ⟨rest⟩ (put fr dst d') h' ⟨Q⟩):
  @wS P md call cfg ⟨dst⟩ ⟨fr⟩ (fX cfg h 1 y d 1 [.int k x]) ⟨ops⟩ ⟨rest⟩ ⟨Q⟩:=by
 rcases ho with⟨rfl,rfl⟩|⟨b,rfl,h1,hb⟩
 ·rw[gL (by omega) (by omega) (by omega),dt];refine H _ _ (.inr ⟨h.length,by simp,hH,by simp⟩) ?_ (by grind) (by simp) ?_
  ·grind
  ·intro v _ hv;refine⟨fun c hc h2=>?_,fun c hc=>aj (hv c hc)⟩
   grind[cC,Option.some.injEq]
 ·have h4:=ao hb;have hw:cfg.wr b=true:=by grind[Cfg.wr]
  rw[eN hb hw h0 hlen (by omega) (by simp),dt];refine H _ _ (.inr ⟨h.length,by simp,hH,?_⟩) ?_ (by grind) (by simp) ?_
  ·simp only[Oa];rw[Li (by simp)];simp;exact oh rfl
  ·grind[List.take_set_of_le]
  ·intro v hd hv;refine⟨fun c hc h2=>?_,fun c hc=>?_⟩
   ·grind[cC,Option.some.injEq]
   ·have hne:b≠c:=fun e=>hd c hc (by rw[e];rfl);simp_all
end
theorem OwnL.blk{h:Heap}{lo:Nat}{k:IntKind}{v:V}{l:List Int}(ho:OwnL h lo k v l){b:Nat}(hb:cC v=some b):lo<=b/\b<h.length:=by
 rcases ho with⟨rfl,rfl⟩|⟨c,rfl,h1,hc⟩
 ·cases hb
 ·cases hb;simp_all[ao]
theorem OwnL.of_blk{h h':Heap}{lo:Nat}{k:IntKind}{v:V}{l:List Int}(ho:OwnL h lo k v l)(hh:∀ b,cC v=some b->ab h' b=ab h b):OwnL h' lo k v l:=by
 rcases ho with⟨rfl,rfl⟩|⟨c,rfl,h1,hc⟩
 ·exact .inl ⟨rfl,rfl⟩
 ·exact .inr ⟨c,rfl,h1,by rw[hh c rfl];exact hc⟩
def Upd(h:Heap)(b:Nat)(cs:List V)(H:Heap):Prop:=H.take h.length=h.set b (some cs)/\h.length<=H.length
theorem Upd.refl{h:Heap}{b:Nat}{cs:List V}(hb:ab h b=some cs):Upd h b cs h:=by
 refine⟨?_,La _⟩
 grind[List.take_length,eK]
theorem Upd.block{h H:Heap}{b:Nat}{cs:List V}(hu:Upd h b cs H)(hb:b<h.length)(hm:isMap cs=false):ab H b=some cs:=by
 have h1:H[b]?=(H.take h.length)[b]?:=by simp_all
 unfold ab;rw[h1,hu.1,Lm hb];simp[hm]
theorem Upd.set{h H:Heap}{b:Nat}{cs cs':List V}(hu:Upd h b cs H):Upd h b cs' (H.set b (some cs')):=by
 refine⟨?_,by simpa using hu.2⟩;rw[Nx,hu.1];simp
theorem Upd.push{h H:Heap}{b:Nat}{cs:List V}(hu:Upd h b cs H)(x:Heap):Upd h b cs (H++x):=by
 refine⟨?_,by have:=hu.2;grind⟩;rw[Mb hu.2,hu.1]
theorem Upd.of_take{h H H':Heap}{b:Nat}{cs:List V}(hu:Upd h b cs H)(ht:H'.take h.length=H.take h.length)(hl:h.length<=H'.length):Upd h b cs H':=⟨ht.trans hu.1,hl⟩
end Go.Ab
namespace Go.Ab
def OwnC(h:Heap)(lo k:Nat)(v:V)(cs:List V):Prop:=
 (v=.nils/\cs=[])\/∃ b n,v=.sl b 0 n n k/\cs.length=n*k/\lo<=b/\ab h b=some cs
abbrev Own:=Nat×V×List V
structure Hp(H base:Heap)(os:List Own):Prop where
 take:H.take base.length=base
 le:base.length<=H.length
 own:∀ o∈os,OwnC H base.length o.1 o.2.1 o.2.2
 dj:os.Pairwise fun a b=>Dj a.2.1 b.2.1
theorem OwnC.blk{h:Heap}{lo k:Nat}{v:V}{cs:List V}(ho:OwnC h lo k v cs){b:Nat}(hb:cC v=some b):lo<=b/\b<h.length:=by
 rcases ho with⟨rfl,rfl⟩|⟨c,n,rfl,_,h1,hc⟩
 ·cases hb
 ·cases hb;simp_all[ao]
theorem OwnC.of_blk{h h':Heap}{lo k:Nat}{v:V}{cs:List V}(ho:OwnC h lo k v cs)(hh:∀ b,cC v=some b->ab h' b=ab h b):OwnC h' lo k v cs:=by
 rcases ho with⟨rfl,rfl⟩|⟨c,n,rfl,hn,h1,hc⟩
 ·exact .inl ⟨rfl,rfl⟩
 ·exact .inr ⟨c,n,rfl,hn,h1,by rw[hh c rfl];exact hc⟩
theorem OwnC.lo{h:Heap}{lo lo' k:Nat}{v:V}{cs:List V}(ho:OwnC h lo k v cs)(hl:lo'<=lo):OwnC h lo' k v cs:=by
 rcases ho with⟨rfl,rfl⟩|⟨c,n,rfl,hn,h1,hc⟩
 ·exact .inl ⟨rfl,rfl⟩
 ·exact .inr ⟨c,n,rfl,hn,by omega,hc⟩
theorem OwnC.pos{h:Heap}{lo k:Nat}{v:V}{cs:List V}(ho:OwnC h lo k v cs)(hc:cs≠[]):∃ b n,v=.sl b 0 n n k/\cs.length=n*k/\lo<=b/\b<h.length/\ab h b=some cs:=by
 rcases ho with⟨rfl,rfl⟩|⟨c,n,rfl,hn,h1,hb⟩
 ·simp_all
 ·exact⟨c,n,rfl,hn,h1,ao hb,hb⟩
theorem OwnC.ints{h:Heap}{lo:Nat}{v:V}{kd:IntKind}{l:List Int}(ho:OwnC h lo 1 v (l.map (V.int kd)))(hc:0<l.length):∃ b,v=.sl b 0 l.length l.length 1/\lo<=b/\b<h.length/\ab h b=some (l.map (V.int kd)):=by
 obtain⟨b,n,rfl,hn,h1,h2,h3⟩:=ho.pos (by intro h;simp_all);simp_all
theorem OwnC.len{P:Program}{t e:TypeId}{h:Heap}{lo k:Nat}{v:V}{cs:List V}(hu:P.underlying t=some (.slice e))(hk:0<k)(ho:OwnC h lo k v cs):dc P t v=some (.int .i64 (cs.length / k:Nat)):=by
 rcases ho with⟨rfl,rfl⟩|⟨b,n,rfl,hn,_,hb⟩
 ·rw[mh hu];simp
 simp_all[fg,Lw]
theorem OwnC.leaf{h:Heap}{lo k:Nat}{v:V}{cs:List V}(ho:OwnC h lo k v cs):v.leaf=true:=by
 rcases ho with⟨rfl,_⟩|⟨b,n,rfl,_⟩<;>rfl
theorem OwnC.cells{h:Heap}{lo k:Nat}{v:V}{cs:List V}(ho:OwnC h lo k v cs):cellsOf v=some [v]:=by
 rcases ho with⟨rfl,_⟩|⟨b,n,rfl,_⟩<;>rfl
theorem OwnC.len1{P:Program}{t e:TypeId}{h:Heap}{lo:Nat}{v:V}{cs:List V}(hu:P.underlying t=some (.slice e))(ho:OwnC h lo 1 v cs):dc P t v=some (.int .i64 cs.length):=by
 rw[ho.len hu (by omega),Oc]
theorem jB{h:Heap}{n d:Nat}:∀ {cs:List V},cs.all V.rf=true->(∀ c∈cs,c≠.nils)->cs.mapM (frz h n (d+1))=some cs
 | [],_,_=>rfl
 | c::cs,hr,hn=>by
  simp only[Nv,Ld]at hr;have ih:=jB (h:=h) (n:=n) (d:=d) hr.2 (fun x hx=>hn x (Lc _ hx));have h0:frz h n (d+1) c=some c:=by
   have:=hr.1;have hc:=hn c (Ll ..);cases c<;>first|rfl|(exact absurd rfl hc)|(simp[V.rf]at this;done)
  simp_all
theorem OwnC.frz{h:Heap}{lo n d k:Nat}{v:V}{cs:List V}(ho:OwnC h lo k v cs)(hn:n<=lo)(hr:cs.all V.rf=true)(h0:∀ c∈cs,c≠.nils)(hk:0<k):frz h n (d+2) v=some (.lst (chunk k (cs.length / k) cs)):=by
 rcases ho with⟨rfl,rfl⟩|⟨b,m,rfl,hm,h1,hb⟩
 ·simp[chunk]
 ·rw[jA,if_neg (by omega),hb];have e:List.take (m*k) cs=cs:=by grind
  simp_all[LU,Mo,La,if_true,jB,Lw]
theorem OwnC.frzI{h:Heap}{lo n d:Nat}{v:V}{kd:IntKind}{l:List Int}(ho:OwnC h lo 1 v (l.map (V.int kd)))(hn:n<=lo):Go.Ab.frz h n (d+2) v=some (.lst (l.map fun x=>[.int kd x])):=by
 rw[ho.frz hn (by simp) (by simp) (by omega)];simp only[Oc,gP,Ou];rfl
theorem OwnC.frzA{h:Heap}{lo:Nat}{v:V}{kd:IntKind}{l:List Int}(ho:OwnC h lo 1 v (l.map (V.int kd))):Go.Ab.frzA h v=some (.lst (l.map fun x=>[.int kd x])):=by
 unfold Go.Ab.frzA;rw[ho.frzI (d:=4) (LA _)];rfl
theorem OwnC.own{h:Heap}{lo d k:Nat}{v:V}{cs:List V}(ho:OwnC h lo k v cs)(hr:∀ c∈cs,Go.Ab.own h (d+1) c=true):Go.Ab.own h (d+2) v=true:=by
 rcases ho with⟨rfl,rfl⟩|⟨b,n,rfl,hn,h1,hb⟩
 ·rfl
 ·show (match ab h b with
   | some cs=>((cs.drop 0).take (n*k)).all (Go.Ab.own h (d+1))
   | none=>false)=true
  rw[hb];simp only[Mo,Lk];exact fun c hc=>hr c (LQ hc)
@[simp] theorem own_agg{h:Heap}{d:Nat}{cs:List V}:Go.Ab.own h (d+1) (.agg cs)=cs.all (Go.Ab.own h d):=rfl
@[simp] theorem own_tup{h:Heap}{d:Nat}{cs:List V}:Go.Ab.own h (d+1) (.tup cs)=cs.all (Go.Ab.own h d):=rfl
@[simp] theorem own_int{h:Heap}{d:Nat}{k:IntKind}{n:Int}:Go.Ab.own h (d+1) (.int k n)=true:=rfl
@[simp] theorem own_bool{h:Heap}{d:Nat}{b:Bool}:Go.Ab.own h (d+1) (.bool b)=true:=rfl
@[simp] theorem own_str{h:Heap}{d:Nat}{b:ByteArray}:Go.Ab.own h (d+1) (.str b)=true:=rfl
@[simp] theorem own_nils{h:Heap}{d:Nat}:Go.Ab.own h (d+1) .nils=true:=rfl
@[simp] theorem own_lst0{h:Heap}{d:Nat}:Go.Ab.own h (d+1) (.lst [])=true:=rfl
theorem Hp.start{H:Heap}:Hp H H []:=⟨LF,La _,by simp,List.Pairwise.nil⟩
theorem Hp.cut{H base:Heap}{os:List Own}{n:Nat}(h:Hp H base os)(hn:n<=base.length):Hp H (base.take n) os:=by
 have hl:(base.take n).length=n:=by grind
 refine⟨?_,by rw[hl];have:=h.le;omega,fun o ho=>?_,h.dj⟩
 ·rw[hl]
  conv=>rhs;rw[<- h.take]
  grind
 ·rw[hl];exact (h.own o ho).lo hn
theorem Hp.block{H base:Heap}{os:List Own}{b:Nat}(h:Hp H base os)(hb:b<base.length):ab H b=ab base b:=by
 have:H[b]?=base[b]?:=by
  conv=>rhs;rw[<- h.take]
  simp_all
 grind[ab]
theorem Hp.push{H base:Heap}{os:List Own}(h:Hp H base os)(x:Heap):Hp (H++x) base os:=by
 refine⟨?_,by have:=h.le;grind,fun o ho=>(h.own o ho).of_blk fun b hb=>aj ((h.own o ho).blk hb).2,h.dj⟩;rw[Mb h.le,h.take]
theorem Hp.set{H base:Heap}{os:List Own}{b:Nat}(h:Hp H base os)(hb:b<base.length)(x:Option (List V)):Hp (H.set b x) (base.set b x) os:=by
 refine⟨?_,by simpa using h.le,fun o ho=>?_,h.dj⟩
 ·rw[LC,Nx,h.take]
 ·rw[LC];exact (h.own o ho).of_blk fun c hc=>ak (by have:=((h.own o ho).blk hc).1;omega)
theorem Hp.new{H base:Heap}{os:List Own}{n k:Nat}{cs:List V}(h:Hp H base os)(hm:isMap cs=false)(hn:cs.length=n*k)(x:Heap):Hp (H++some cs::x) base ((k,.sl H.length 0 n n k,cs)::os):=by
 have hp:=h.push (some cs::x);refine⟨hp.take,hp.le,fun o ho=>?_,L8.2 ⟨fun o ho=>?_,h.dj⟩⟩
 ·rcases Lt.1 ho with rfl|ho
  ·exact .inr ⟨_,n,rfl,hn,h.le,by simp[hm]⟩
  ·exact hp.own o ho
 ·intro b hb h0;cases hb;have:=((h.own o ho).blk h0).2;omega
theorem Hp.nil{H base:Heap}{os:List Own}(h:Hp H base os)(k:Nat):Hp H base ((k,.nils,[])::os):=by
 refine⟨h.take,h.le,fun o ho=>?_,L8.2 ⟨fun o _ b hb=>by grind[cC],h.dj⟩⟩;rcases Lt.1 ho with rfl|ho
 ·exact .inl ⟨rfl,rfl⟩
 ·exact h.own o ho
theorem Hp.drop{H base:Heap}{os os':List Own}(h:Hp H base os)(hs:os'.Sublist os):Hp H base os':=
 ⟨h.take,h.le,fun o ho=>h.own o (hs.subset ho),h.dj.sublist hs⟩
theorem Hp.perm{H base:Heap}{os os':List Own}(h:Hp H base os)(hs:os.Perm os'):Hp H base os':=
 ⟨h.take,h.le,fun o ho=>h.own o (hs.mem_iff.2 ho),hs.pairwise h.dj (fun {_ _} h=>h.symm)⟩
theorem Hp.swap{H base:Heap}{a b:Own}{os:List Own}(h:Hp H base (a::b::os)):Hp H base (b::a::os):=h.perm (.swap ..)
theorem Hp.tail{H base:Heap}{a:Own}{os:List Own}(h:Hp H base (a::os)):Hp H base os:=h.drop (List.sublist_cons_self ..)
theorem Hp.head{H base:Heap}{k:Nat}{v:V}{cs:List V}{os:List Own}(h:Hp H base ((k,v,cs)::os)):OwnC H base.length k v cs:=h.own (k,v,cs) (Ll ..)
theorem Hp.snd{H base:Heap}{a:Own}{k:Nat}{v:V}{cs:List V}{os:List Own}(h:Hp H base (a::(k,v,cs)::os)):OwnC H base.length k v cs:=h.tail.head
theorem Hp.thd{H base:Heap}{a b:Own}{k:Nat}{v:V}{cs:List V}{os:List Own}(h:Hp H base (a::b::(k,v,cs)::os)):OwnC H base.length k v cs:=h.tail.tail.head
theorem Hp.setO{H base:Heap}{os:List Own}{k n b:Nat}{cs cs':List V}(h:Hp H base ((k,.sl b 0 n n k,cs)::os))(hm:isMap cs'=false)(hl:cs'.length=cs.length):Hp (H.set b (some cs')) base ((k,.sl b 0 n n k,cs')::os):=by
 have hh:=h.head;obtain⟨h0,h3⟩:=hh.blk (b:=b) rfl;have hd:=L8.1 h.dj;rcases hh with⟨hh,_⟩|⟨b',n',hv,hn,h1,h2⟩
 ·cases hh
 cases hv;refine⟨?_,by grind,fun o ho=>?_,L8.2 ⟨hd.1,hd.2⟩⟩
 ·rw[Mf h0,h.take]
 ·rcases Lt.1 ho with rfl|ho
  ·exact .inr ⟨_,_,rfl,by simp_all,h0,by simp_all⟩
  ·refine (h.own o (Lc _ ho)).of_blk fun c hc=>ak ?_;intro e;subst e;exact hd.1 o ho b rfl hc
theorem mf{a b:List V}(ha:isMap a=false)(hb:isMap b=false):isMap (a++b)=false:=by
 cases a with
 | nil=>exact hb
 | cons x a=>cases x<;>first|rfl|grind[isMap]
theorem dy{h:Heap}{b:Nat}{cs:List V}(hb:ab h b=some cs):isMap cs=false:=by
 grind[ab]
def Mid[I:Hid (List V->Heap->Prop)](fr:List V)(h:Heap):Prop:=I.val fr h
def kMid[I:Hid (List V->Heap->Prop)](e:Ex)(fr:List V)(h:Heap):Prop:=
 match e with
 | .normal=>@Mid I fr h
 | _=>False
@[simp] theorem HJ{I:List V->Heap->Prop}{fr:List V}{h:Heap}:@kMid ⟨I⟩ .normal fr h↔@Mid ⟨I⟩ fr h:=Mt
theorem bz{I:List V->Heap->Prop}{fr:List V}{h:Heap}(hi:I fr h):@Mid ⟨I⟩ fr h:=hi
section
variable {P:Program}{md:FuncId->Nat}{call:aF}{cfg:Cfg}{n:Nat}
theorem J4{c b:Code}{fr:List V}{h:Heap}{Q:dI}(I:List V->Heap->Prop)(h1:@wC P md call cfg n ⟨c⟩ fr h ⟨@kMid ⟨I⟩⟩)(h2:∀ fr h,I fr h->@wC P md call cfg n ⟨b⟩ fr h ⟨Q⟩):
  @wC P md call cfg n ⟨c⟩ fr h ⟨@yg P md call cfg n ⟨b⟩ ⟨Q⟩⟩:=by
 refine AH h1 fun e fr h hm=>?_;cases e with
 | normal=>exact h2 fr h hm
 | exit i=>exact hm.elim
 | ret=>exact hm.elim
theorem cg{dst:Option Tmp}{fr:List V}{ops:Array Oper}{rest:List Oper}{Q:ca}{h base:Heap}{os:List Own}{d:V}{cs new:List V}{k m y:Nat}(ho:Hp h base ((k,d,cs)::os))(h9:cfg.lo<=base.length)
  (h3:new.length=m*k) (h4:isMap new=false) (hm:0<m) (hk:0<k) (h0:(cs.length / k+m)*y<=1099511627776) (hlen:cs.length / k+m<=1099511627776)
  (H:∀ d' h',Hp h' base ((k,d',cs++new)::os)->@wO P md call cfg ⟨ops⟩ ⟨rest⟩ (put fr dst d') h' ⟨Q⟩):
  @wS P md call cfg ⟨dst⟩ ⟨fr⟩ (fX cfg h k y d m new) ⟨ops⟩ ⟨rest⟩ ⟨Q⟩:=by
 have hd:=L8.1 ho.dj;rcases ho.head with⟨hh,h7⟩|⟨b,n,hv,hn,h1,hb⟩
 ·subst hh h7;simp only[L3,Nat.zero_div,LU]at h0 hlen;rw[gL h0 hlen hm,dt];exact H _ _ (by simpa using ho.tail.new h4 h3 [])
 ·subst hv;rw[hn,Lw _ hk]at h0 hlen;have ha:=ao hb;have hw:cfg.wr b=true:=by simp only[Cfg.wr,LP,decide_eq_true_eq];omega
  rw[eN hb hw h0 hlen (by omega) (by omega),dt,<- hn,LF];refine H _ _ ?_;have h8:Hp (h.set b none) base os:=by
   refine⟨?_,by grind,fun o h6=>?_,hd.2⟩
   ·rw[Mf h1,ho.take]
   ·refine (ho.own o (Lc _ h6)).of_blk fun c hc=>ak ?_;intro e;subst e;exact hd.1 o h6 b rfl hc
  have:=h8.new (cs:=cs++new) (n:=n+m) (k:=k) (mf (dy hb) h4) (by grind) [];simp_all
end
end Go.Ab
namespace Go.Ab.Bi
def rr(p:Int->Bool):List Int->List Int->List Int
 | acc,[]=>acc
 | acc,x::l=>if p x then rr p (x::acc) l else acc++x::rr p [] l
theorem uo(p:Int->Bool):∀ (run acc rest:List Int),(∀ x∈run,p x=true)->rr p acc (run++rest)=rr p (run.reverse++acc) rest
 | [],acc,rest,_=>by simp
 | x::run,acc,rest,h=>by
  have hx:=h x (Ll ..);simp only[LM,rr,hx,if_true,List.reverse_cons,Ly,Mp];exact uo p run (x::acc) rest fun y hy=>h y (Lc _ hy)
theorem Ed(p:Int->Bool)(run:List Int)(h:∀ x∈run,p x=true):rr p [] run=run.reverse:=by
 have:=uo p run [] [] h;simpa[rr]using this
theorem fl{p:Int->Bool}{acc l:List Int}{x:Int}(h:p x=false):rr p acc (x::l)=acc++x::rr p [] l:=by simp[rr,h]
theorem Al(p:Int->Bool):∀ l:List Int,(∀ x∈l,p x=false)->rr p [] l=l
 | [],_=>rfl
 | x::l,h=>by
  rw[fl (h x (Ll ..)),Al p l fun y hy=>h y (Lc _ hy)];rfl
theorem nI(p:Int->Bool):∀ (l acc:List Int),(∀ x∈acc,p x=true)->rr p [] (rr p acc l)=acc.reverse++l
 | [],acc,h=>by simp[rr,Ed p acc h]
 | x::l,acc,h=>by
  cases hx:p x
  ·rw[fl hx,uo p acc [] _ h,fl hx,nI p l [] (by simp)];simp
  ·have e:rr p acc (x::l)=rr p (x::acc) l:=by simp[rr,hx]
   rw[e,nI p l (x::acc) (by
    intro y hy;rcases Lt.1 hy with rfl|hy
    ·exact hx
    ·exact h y hy)]
   simp
theorem Ee(p:Int->Bool)(l:List Int):rr p [] (rr p [] l)=l:=nI p l [] (by simp)
theorem wR{p q:Int->Bool}:∀ (l acc:List Int),(∀ x∈l,p x=q x)->rr p acc l=rr q acc l
 | [],_,_=>rfl
 | x::l,acc,h=>by
  have h1:=h x (Ll ..);have h2:=fun y hy=>h y (Lc _ hy);simp only[rr,h1,wR l _ h2]
theorem pt(p:Int->Bool):∀ (l acc:List Int),(rr p acc l).Perm (acc++l)
 | [],acc=>by simp[rr]
 | x::l,acc=>by
  cases hx:p x
  ·rw[fl hx];exact (List.Perm.append_left acc ((pt p l []).cons x))
  ·have e:rr p acc (x::l)=rr p (x::acc) l:=by simp[rr,hx]
   rw[e];exact (pt p l (x::acc)).trans (by simpa using List.perm_middle.symm)
theorem JN{p:Int->Bool}{l:List Int}{x:Int}:x∈rr p [] l↔x∈l:=by simpa using (pt p l []).mem_iff (a:=x)
def lvl(lv:List Int)(x:Int):Int:=lv.getD x.toNat 0
def ge(lv:List Int)(n:Int)(x:Int):Bool:=decide (n<=lvl lv x)
def kK(lv:List Int):Nat->List Int->List Int
 | 0,l=>l
 | n+1,l=>kK lv n (rr (ge lv (n+1:Nat)) [] l)
def idx(n:Nat):List Int:=(List.range n).map fun x:Nat=>(x:Int)
theorem F3(n:Nat):(idx n).length=n:=by simp[idx]
theorem F4{n:Nat}{x:Int}:x∈idx n↔0<=x/\x<n:=by
 simp only[idx,Me,NH];constructor
 ·rintro⟨a,h,rfl⟩;omega
 ·intro h;exact⟨x.toNat,by omega,by omega⟩
theorem wm(lv:List Int):∀ (n:Nat) (l:List Int),(kK lv n l).Perm l
 | 0,l=>List.Perm.refl _
 | n+1,l=>(wm lv n _).trans (by simpa using pt (ge lv (n+1:Nat)) l [])
theorem wj(lv : List Int)(l : List Int)(m : Nat): ∀ n : Nat, m <= n -> (∀ x ∈ l, lvl lv x <= m) -> kK lv n l = kK lv m l
  | 0, h, _ => by obtain rfl : m = 0 := by omega
                  rfl
  | n + 1, h, hx => by
    by_cases e : m = n + 1
    · rw[e]
    · rw[kK, Al _ _ fun x h0 => by
        have := hx x h0;simp only[ge, decide_eq_false_iff_not];omega]
      exact wj lv l m n (by omega) hx
theorem zX(lv:List Int)(l:List Int):∀ k:Nat,(∀ x∈l,lvl lv x<(2*k:Nat)->lvl lv x%2=0)->kK lv (2*k) l=l
 | 0,_=>rfl
 | k+1,h=>by
  rw[show 2*(k+1)=2*k+1+1 by omega,kK,kK];have e:rr (ge lv ((2*k+1:Nat):Int)) [] (rr (ge lv ((2*k+1+1:Nat):Int)) [] l)=l:=by
   rw[wR (q:=ge lv ((2*k+1+1:Nat):Int)) _ _ ?_,Ee];intro x hx;rw[JN]at hx;have:=h x hx;simp only[ge];by_cases hl:lvl lv x<(2*(k+1):Nat)
   ·have:=this hl;by_cases h2:((2*k+1:Nat):Int)<=lvl lv x
    ·omega
    ·rw[decide_eq_false h2,decide_eq_false (by omega)]
   ·rw[decide_eq_true (by omega),decide_eq_true (by omega)]
  rw[e];exact zX lv l k fun x hx h2=>h x hx (by omega)
def Swp(l:List Int)(i to k:Nat)(l':List Int):Prop:=l'.length=l.length/\∀ q,l'[q]?=if i<=q/\q<to/\(q<i+k\/to<=q+k) then l[i+to-1-q]? else l[q]?
theorem Swp.zero{l:List Int}{i to:Nat}:Swp l i to 0 l:=⟨rfl,fun q=>by rw[if_neg (by omega)]⟩
theorem Swp.at{l l':List Int}{i to k q:Nat}(h:Swp l i to k l')(h1:i+k<=q)(h2:q+k<to):l'[q]?=l[q]?:=by
 rw[h.2,if_neg (by omega)]
theorem Swp.step{l l':List Int}{i to k:Nat}{x y:Int}(h:Swp l i to k l')(hk:i+k+k+1<to)(ht:to<=l.length)(hx:l[i+k]?=some x)(hy:l[to-1-k]?=some y):
  Swp l i to (k+1) ((l'.set (i+k) y).set (to-1-k) x):=by
 refine⟨by simp[h.1],fun q=>?_⟩;rw[NJ,NJ,h.2];have hl:=h.1;by_cases e1:to-1-k=q
 ·subst e1;rw[if_pos rfl,if_pos (by simp;omega),if_pos (by omega),show i+to-1-(to-1-k)=i+k by omega,hx]
 ·rw[if_neg e1];by_cases e2:i+k=q
  ·subst e2;rw[if_pos rfl,if_pos (by omega),if_pos (by omega),show i+to-1-(i+k)=to-1-k by omega,hy]
  ·rw[if_neg e2];by_cases e3:i<=q/\q<to/\(q<i+k\/to<=q+k)
   ·rw[if_pos e3,if_pos (by omega)]
   ·rw[if_neg e3,if_neg (by omega)]
theorem Swp.fin{a run b l':List Int}{k:Nat}(h:Swp (a++run++b) a.length (a.length+run.length) k l')(hk:run.length<=k+k+1):l'=a++run.reverse++b:=by
 apply LJ;intro q;rw[h.2];by_cases h1:q<a.length
 ·rw[if_neg (by omega)];simp[K8,h1]
 ·by_cases h2:q<a.length+run.length
  ·have e:(a++run.reverse++b)[q]?=run.reverse[q-a.length]?:=by
    rw[Ly,Lg (by omega),K8 (by simp;omega)]
   have e':∀ p,a.length<=p->p<a.length+run.length->(a++run++b)[p]?=run[p-a.length]?:=fun p p1 p2=>by
    rw[Ly,Lg (by omega),K8 (by omega)]
   rw[e,List.getElem?_reverse (by omega)];split
   ·rw[e' _ (by omega) (by omega)];congr 1;omega
   ·rw[e' _ (by omega) (by omega)];congr 1;omega
  ·rw[if_neg (by omega)];rw[Lg (by simp;omega),Lg (by simp;omega)];simp
end Go.Ab.Bi
namespace Go.Ab.Bi
def ini(x:Int):Bool:=x==19||x==20||x==21
def gone(x:Int):Bool:=x==16||x==14||x==17||x==15||x==18||x==9
def aY:List Int->Nat->Option Nat
 | [],_=>none
 | x::r,d =>
  if ini x then (aY r (d+1)).map (·+1)
  else if x=22 then match d with
   | 0=>some 0
   | d+1=>(aY r d).map (·+1)
  else (aY r d).map (·+1)
theorem jX{x:Int}{r:List Int}{d:Nat}(h:ini x=true):aY (x::r) d=(aY r (d+1)).map (·+1):=by simp[aY,h]
theorem nB{r:List Int}:aY (22::r) 0=some 0:=by simp[aY,ini]
theorem gX{r:List Int}{d:Nat}:aY (22::r) (d+1)=(aY r d).map (·+1):=by simp[aY,ini]
theorem nA{x:Int}{r:List Int}{d:Nat}(h:ini x=false)(h2:x≠22):aY (x::r) d=(aY r d).map (·+1):=by simp[aY,h,h2]
theorem jD:∀ (l:List Int) (d m:Nat),aY l d=some m->m<l.length
 | [],_,_,h=>by simp[aY]at h
 | x::r,d,m,h=>by
  simp only[aY]at h;split at h
  ·obtain⟨k,hk,rfl⟩:=Lx.1 h;have:=jD r _ k hk;simp;omega
  ·split at h
   ·cases d with
    | zero=>cases h;simp
    | succ d =>
     obtain⟨k,hk,rfl⟩:=Lx.1 h;have:=jD r _ k hk;simp;omega
   ·obtain⟨k,hk,rfl⟩:=Lx.1 h;have:=jD r _ k hk;simp;omega
theorem qN:∀ (l:List Int) (k d:Nat),aY (l.take k) d=match aY l d with
  | some m=>if m<k then some m else none
  | none=>none
 | [],k,d=>by simp[aY]
 | x::r,0,d=>by
  simp only[NG,aY];cases (if ini x=true then Option.map (·+1) (aY r (d+1)) else if x=22 then match d with
   | 0=>some 0
   | d+1=>Option.map (·+1) (aY r d) else Option.map (·+1) (aY r d))<;>simp
 | x::r,k+1,d=>by
  have ih:=fun d=>qN r k d;simp only[NY,aY];split
  ·rw[ih];cases aY r (d+1) with
   | none=>rfl
   | some m=>simp only[LX];split<;>split<;>first|rfl|omega
  ·split
   ·cases d with
    | zero=>simp
    | succ d =>
     simp only[ih];cases aY r d with
     | none=>rfl
     | some m=>simp only[LX];split<;>split<;>first|rfl|omega
   ·rw[ih];cases aY r d with
    | none=>rfl
    | some m=>simp only[LX];split<;>split<;>first|rfl|omega
def fsL:Nat->List Int->Int
 | 0,_=>0
 | _+1,[]=>0
 | n+1,x::r =>
  if x=0 then 0 else if x=1\/x=2 then 1
  else if ini x then match aY r 0 with
   | some m=>fsL n (r.drop (m+1))
   | none=>0
  else fsL n r
def fs(l:List Int):Int:=fsL l.length l
theorem ma:∀ (n:Nat) (l:List Int),l.length<=n->fsL n l=fs l
 | 0,l,h=>by
  obtain rfl:l=[]:=LH.1 (by omega);rfl
 | n+1,[],_=>rfl
 | n+1,x::r,h=>by
  simp at h;have h1:fsL n r=fsL r.length r:=ma n r h;unfold fs;simp only[Lp,fsL];split
  ·rfl
  ·split
   ·rfl
   ·split
    ·cases hm:aY r 0 with
     | none=>rfl
     | some m =>
      simp only;rw[ma n _ (by simp;omega),ma r.length _ (by simp)]
    ·exact h1
theorem IK:fs []=0:=rfl
theorem FK(x:Int)(r:List Int):fs (x::r)=if x=0 then 0 else if x=1\/x=2 then 1 else if ini x then (match aY r 0 with
  | some m=>fs (r.drop (m+1))
  | none=>0) else fs r:=by
 unfold fs;simp only[Lp,fsL];split
 ·rfl
 ·split
  ·rfl
  ·split
   ·cases hm:aY r 0 with
    | none=>rfl
    | some m =>
     simp only;rw[ma _ _ (by simp)];rfl
   ·rfl
theorem tN:∀ (n:Nat) (l:List Int),fsL n l=0\/fsL n l=1
 | 0,_=>.inl rfl
 | _+1,[]=>.inl rfl
 | n+1,x::r=>by
  simp only[fsL];split
  ·exact .inl rfl
  ·split
   ·exact .inr rfl
   ·split
    ·split
     ·exact tN n _
     ·exact .inl rfl
    ·exact tN n r
def mt(c:List Int)(i:Nat):Int:=match aY (c.drop (i+1)) 0 with
 | some m=>((i+1+m:Nat):Int)
 | none=>-1
abbrev Ent:=Int×Int×Bool
structure ES where
 st:List Ent
 iso:Nat
 emb:Nat
 val:Nat
def nxt(n:Int)(odd:Bool):Int:=if (n%2==0)==odd then n+1 else n+2
def ovr(o x:Int):Int:=if 0<=o then o else x
def fE:List Ent->Ent
 | []=>(0,-1,false)
 | a::_=>a
def jJ:List Ent->List Ent
 | []=>[]
 | a::r=>if a.2.2 then r else jJ r
def yx(x:Int):Int:=if x=17 then 1 else if x=15 then 0 else -1
def bJ(e x:Int)(odd:Bool)(s:ES):Int×Int×ES:=
 if x=16\/x=14\/x=17\/x=15 then
  (((fE s.st).1,x,if nxt (fE s.st).1 (decide (x=16\/x=17))<=125/\s.iso=0/\s.emb=0 then { s with st:=(nxt (fE s.st).1 (decide (x=16\/x=17)),yx x,false)::s.st }
   else if s.iso=0 then { s with emb:=s.emb+1 } else s))
 else if ini x then
  ((fE s.st).1,ovr (fE s.st).2.1 x,if nxt (fE s.st).1 odd<=125/\s.iso=0/\s.emb=0 then { s with st:=(nxt (fE s.st).1 odd,-1,true)::s.st,val:=s.val+1 } else { s with iso:=s.iso+1 })
 else if x=22 then
  let s':ES:=if 0<s.iso then { s with iso:=s.iso-1 } else if 0<s.val then { s with st:=jJ s.st,emb:=0,val:=s.val-1 } else s
  ((fE s'.st).1,ovr (fE s'.st).2.1 x,s')
 else if x=18 then
  ((fE s.st).1,x,if 0<s.iso then s else if 0<s.emb then { s with emb:=s.emb-1 } else if (fE s.st).2.2=false/\1<s.st.length then { s with st:=s.st.tail } else s)
 else if x=10 then (e,x,s)
 else if x=9 then ((fE s.st).1,x,s)
 else ((fE s.st).1,ovr (fE s.st).2.1 x,s)
def gG(x:Int)(r:List Int):Bool:=
 if x=20 then true
 else if x=21 then decide (fs (match aY r 0 with
  | some m=>r.take m
  | none=>r)=1)
 else false
def qf(e:Int):List Int->ES->List (Int×Int)
 | [],_=>[]
 | x::r,s=>((bJ e x (gG x r) s).1,(bJ e x (gG x r) s).2.1)::qf e r (bJ e x (gG x r) s).2.2
def es0(e:Int):ES:=⟨[(e,-1,false)],0,0,0⟩
def gR(e:Int)(c:List Int):List (Int×Int):=qf e c (es0 e)
end Go.Ab.Bi
namespace Go.Ab
open Go.Proofs
namespace Bi
def md:FuncId->Nat
| 14=>2
| 279=>2
| 16=>1
| 48=>1
| 80=>1
| 120=>1
| 17=>1
| 22=>1
| 121=>1
| 280=>1
| 282=>1
| 283=>1
| 284=>1
| 285=>1
| 305=>1
| 289=>1
| 324=>1
| 331=>1
| 335=>1
| 336=>1
| 337=>1
| 339=>1
| 340=>1
| 341=>1
| 342=>1
| 345=>1
| 347=>1
| 348=>1
| 349=>1
| 350=>1
| 236=>3
| 238=>3
| 235=>3
| 237=>2
| 183=>3
| 297=>3
| 239=>4
| 261=>2
| 262=>1
| 290=>4
| 318=>4
| 293=>5
| 292=>5
| 294=>2
| 173=>5
| 171=>4
| 107=>4
| 172=>4
| 108=>4
| 106=>2
| 168=>2
| 275=>1
| 319=>2
| 320=>2
| 329=>2
| 180=>3
| 61=>2
| 57=>3
| 76=>2
| 197=>2
| 191=>2
| 123=>2
| 51=>2
| 54=>2
| 55=>2
| 87=>2
| 88=>2
| 89=>2
| 90=>2
| 91=>2
| 92=>2
| 93=>2
| 94=>2
| 95=>2
| 96=>2
| 97=>2
| 98=>2
| 99=>2
| 100=>2
| 101=>2
| 102=>2
| 103=>2
| 126=>2
| 135=>2
| 141=>2
| 145=>2
| 150=>2
| 153=>2
 | _=>0
def Du(f:FuncId):Bool:=f==13||f==99999||f==99999||f==99999||f==324
def HG(f:FuncId):Bool:=Du f||f==236||f==237||f==279||f==99999||f==329||f==61
abbrev Np2(f:FuncId):Prop:=Du f=false
abbrev Np5(f:FuncId):Prop:=HG f=false
theorem yt{f:FuncId}(h:Np5 f):Np2 f:=by
 unfold Np5 HG at h;simp only[MR]at h;exact h.1.1.1.1.1.1
noncomputable abbrev K(prim:FuncId->Option Prim)(d:Nat):aF:=aH Tryz.prog md prim 10000 d
abbrev il(l:List Int):V:=.lst (l.map fun n=>[.int .i64 n])
abbrev rl(l:List Int):V:=.lst (l.map fun n=>[.int .i32 n])
@[simp] theorem frzA_lst{h:Heap}{xs:List (List V)}:frzA h (.lst xs)=some (.lst xs):=rfl
@[simp] theorem frzA_int{h:Heap}{k:IntKind}{i:Int}:frzA h (.int k i)=some (.int k i):=rfl
@[simp] theorem Ki{h:Heap}{b:Bool}:frzA h (.bool b)=some (.bool b):=rfl
@[simp] theorem frzA_agg{h:Heap}{cs:List V}:frzA h (.agg cs)=(cs.mapM (frz h 0 5)).map .agg:=by
 unfold frzA;rw[FI];cases cs.mapM (frz h 0 5)<;>rfl
@[simp] theorem Kj{h:Heap}:frzA h .nils=some (.lst []):=rfl
@[simp] theorem Kb{cfg:Cfg}{h:Heap}{k y:Nat}:fX cfg h k y .nils 0 []=some (.nils,h):=by simp[fX,roomy]
@[simp] theorem Kh{k:IntKind}{l:List Int}:(l.map fun n=>[V.int k n]).flatten=l.map (V.int k):=by
 induction l with
 | nil=>rfl
 | cons x l ih=>simp[ih]
section
variable {prim:FuncId->Option Prim}(d:Nat) (cfg:Cfg) (h:Heap)
theorem yE(hp:prim 289=none)(a run c:List Int)(hr:run.length<=4000)(b cap:Nat)(hb:ab h b=some ((a++run++c).map (V.int .i64)))(hw:cfg.wr b=true):
  af md (K prim (d+1)) cfg 289 [.sl b a.length run.length cap 1] h=some (.tup [],h.set b (some ((a++run.reverse++c).map (V.int .i64)))):=by
 have h4:(Cfg.wr ⟨cfg.lo,cfg.ex,h.length⟩ b)=true:=hw;have h9:=ao hb;refine call1 rfl hp Tryz.func289 rfl rfl rfl ?_;simp(disch:=omega)[wrap64];refine ah (fun m fr H=>∃ (k:Nat) (l:List Int),m=run.length-k/\k<=run.length/\Swp (a++run++c) a.length (a.length+run.length) k l/\H=h.set b (some (l.map (V.int .i64))) /\
  Slots 28 [(0,.sl b a.length run.length cap 1),(2,.int .i64 k),(3,.int .i64 ((run.length:Int)-1-k))] fr) (m:=run.length) (by omega) ⟨0,_,by omega,by omega,Swp.zero,(eK hb).symm,by simp⟩ ?_
 rintro m fr H ⟨k,l,rfl,hk,hS,rfl,hs⟩;obtain⟨j,rfl⟩:=hs.ex;clear hs;by_cases h3:(k:Int)<(run.length:Int)-1-k
 ·have h6:=hS.1;simp only[Ln]at h6;obtain⟨x,hx⟩:∃ x,(a++run++c)[a.length+k]?=some x:=⟨_,K4 (by simp;omega)⟩;obtain⟨y,hy⟩:∃ y,(a++run++c)[a.length+run.length-1-k]?=some y:=⟨_,K4 (by simp;omega)⟩;have h7:=(hS.at (q:=a.length+k) (by omega) (by omega)).trans hx;have h8:=(hS.at (q:=a.length+run.length-1-k) (by omega) (by omega)).trans hy;have e1:((run.length:Int)-1-k).toNat=run.length-1-k:=by omega
  have e2:a.length+(run.length-1-k)=a.length+run.length-1-k:=by omega
  have l1:a.length+k+1<=l.length:=by omega
  have l2:a.length+run.length-1-k+1<=l.length:=by omega
  simp[h3];refine ai 12 (by kernel_rfl) ?_;simp(disch:=omega)[h7,h8,e1,e2,l1,h4,-getElem?_pos];rw[ints_set];simp[l2,-List.map_set];refine ae (m':=run.length-(k+1)) (by omega) ⟨k+1,_,rfl,by omega,hS.step (by omega) (by simp) hx hy,rfl,?_⟩;simp(disch:=omega)[wrap64];omega
 ·have h0:=hS.fin (by omega);subst h0;simp[h3];exact Li (by simp)
end
end Bi
end Go.Ab
namespace Go.Ab
open Go.RowKit
def zg(k:IntKind)(w:World)(a:Option Addr)(len cap:Nat)(zs:List Int):Prop:=
 (a=none/\len=0/\cap=0/\zs=[]) \/
 ∃ x,a=some x/\len<=cap/\cap<=maxLen/\zs.length=cap/\(∀ i,i<zs.length->w.cell? (x.add i)=some (.int k (zs.getD i 0)))/\∀ n∈zs,(Lit.int k n).wf=true
theorem Fk{w:World}{b o:Nat}{v:Value}(h:w.cell? ⟨b,o,none⟩=some v):b<w.heap.size:=by
 grind[Nat.lt_or_ge,World.cell?,Array.getElem?_eq_none]
theorem zL{k:IntKind}{w:World}{a:Option Addr}{len cap:Nat}{zs:List Int}(h:zg k w a len cap zs):R DP [] w (.lst ((zs.take len).map fun n=>[.int k n])) (.slice a len cap):=by
 rcases h with⟨rfl,rfl,rfl,rfl⟩|⟨x,rfl,hl,hm,hz,h3,_⟩
 ·exact .lst0 _ _ (fun _=>rfl)
 ·by_cases h0:len=0
  ·subst h0;exact .lst0 _ _ (fun h=>by cases h)
  ·obtain⟨b,off,spot⟩:=x;have h6:=h3 0 (by omega);have h4:spot=none:=by simpa[Addr.add]using World.cell?_spot h6
   subst h4;have hc:∀ i,i<cap->w.cell? ⟨b,off+i,none⟩=some (.int k (zs.getD i 0)):=fun i hi=>by
    grind[Addr.add]
   have h7:b<w.heap.size:=Fk (hc 0 (by omega));have hlen:((zs.take len).map fun n=>[V.int k n]).length=len:=by grind
   have key:∀ (i:Nat) (e:List V),((zs.take len).map fun n=>[V.int k n])[i]?=some e->i<len/\e=[.int k (zs.getD i 0)]:=by
    grind
   have:=R.lst (m:=DP) (h:=[]) (w:=w) (xs:=(zs.take len).map fun n=>[V.int k n]) (b:=b) (o:=off) (k:=1) (rc:=cap) (fun i _=>.int k (zs.getD i 0)) ⟨h7,fun h=>h,fun x hx=>by obtain⟨cs,hc⟩:=hx;grind⟩ (by omega)
    (fun i e he=>by grind)
    (fun i e j c he hj=>by
     grind)
    (fun i e j c he hj=>by
     obtain⟨hi,rfl⟩:=key i e he
     match j,hj with
     | 0,hj=>simp at hj;subst hj;rfl
     | j+1,hj=>grind)
    (fun i e j c he hj=>by
     obtain⟨hi,rfl⟩:=key i e he
     match j,hj with
     | 0,hj=>simp at hj;subst hj;exact .int _ _
     | j+1,hj=>grind)
   simp_all
theorem D4{m:Mu}{h:Heap}{w:World}:PW m h w [] #[]:=⟨rfl,by simp⟩
theorem Aj{m:Mu}{h:Heap}{w:World}{x:V}{v:Value}{xs:List V}{vs:List Value}(hr:R m h w x v)(ht:PW m h w xs vs.toArray):PW m h w (x::xs) (v::vs).toArray:=by
 refine⟨by have:=ht.1;simp_all,fun i c u hc hu=>?_⟩;cases i with
 | zero=>simp_all
 | succ i=>exact ht.2 i c u (by simp_all) (by simp_all)
theorem agg_R{m:Mu}{h:Heap}{w:World}{cs:List V}{vs:List Value}(hp:PW m h w cs vs.toArray):R m h w (.agg cs) (.agg vs.toArray):=.agg hp.1 hp.2
end Go.Ab
namespace Go.Ab
open Go.Proofs
namespace Bi
abbrev Row:=Int×Int×Int×Int×Int×Int×Int
def tab1:List Row:=[(0,8,3,0,7,9,0),(9,9,3,0,10,11,0),(10,10,2,1,3,10,0),(11,11,3,1,1,11,0),(12,12,3,1,1,12,0),(13,13,1,1,2,10,0),(14,31,3,0,7,9,0),(32,32,0,2,4,12,0),(33,33,0,0,15,13,0),(34,34,0,0,14,13,0),(35,37,0,0,0,5,0),(38,38,0,0,0,13,0),(39,39,0,7,14,13,0),(40,40,0,0,12,13,0),(41,41,0,0,13,13,0),(42,42,0,0,0,13,0),(43,43,0,0,0,4,0),(44,44,0,6,16,7,0),(45,45,0,0,11,4,0),(46,46,0,7,16,7,0),(47,47,0,0,10,7,0),(48,57,0,4,17,3,0),(58,58,0,5,16,7,0),(59,59,0,6,16,13,0),(60,62,0,0,0,13,0),(63,63,0,0,15,13,0),(64,64,0,0,0,13,0),(65,90,0,3,0,0,0),(91,91,0,0,12,13,0),(92,92,0,0,0,13,0),(93,93,0,0,13,13,0),(94,94,0,0,0,13,0),(95,95,0,8,0,13,0),(96,96,0,0,0,13,0),(97,122,0,3,0,0,0),(123,123,0,0,12,13,0),(124,124,0,0,10,13,0),(125,125,0,0,13,13,0),(126,126,0,0,0,13,0),(127,132,3,0,7,9,0),(133,133,3,1,1,10,0),(134,159,3,0,7,9,0),(160,160,0,0,9,7,0),(161,161,0,0,12,13,0)]
def tab2:List Row:=[(162,165,0,0,0,5,0),(166,169,0,0,0,13,0),(170,170,0,3,0,0,0),(171,171,0,0,14,13,0),(172,172,0,0,0,13,0),(173,173,3,10,10,9,4),(174,180,0,0,0,13,0),(181,181,0,3,0,0,0),(182,182,0,0,0,13,0),(183,183,0,5,0,13,0),(184,185,0,0,0,13,0),(186,186,0,3,0,0,0),(187,187,0,0,14,13,0),(188,191,0,0,0,13,0),(192,767,0,3,0,0,0),(768,879,4,10,7,8,4),(880,1423,0,3,0,0,0),(1424,1469,4,10,7,8,4),(1470,1470,0,0,10,1,0),(1471,1479,4,10,7,8,4),(1488,1514,0,3,0,1,0),(1536,1541,7,0,0,6,0),(1548,1548,0,6,16,7,0),(1552,1562,4,10,7,8,4),(1563,1563,0,0,15,2,0),(1564,1564,3,10,7,2,4),(1567,1567,0,0,15,2,0),(1568,1568,0,3,0,2,2),(1569,1569,0,3,0,2,0),(1570,1573,0,3,0,2,1),(1574,1574,0,3,0,2,2),(1575,1575,0,3,0,2,1),(1576,1576,0,3,0,2,2),(1577,1577,0,3,0,2,1),(1578,1582,0,3,0,2,2),(1583,1586,0,3,0,2,1),(1587,1599,0,3,0,2,2),(1600,1600,0,3,0,2,3),(1601,1607,0,3,0,2,2),(1608,1608,0,3,0,2,1),(1609,1610,0,3,0,2,2),(1611,1631,4,10,7,8,4),(1632,1641,0,4,17,6,0),(1642,1642,0,0,0,5,0)]
def tab3:List Row:=[(1643,1644,0,6,16,6,0),(1648,1648,4,10,7,8,4),(1649,1655,0,3,0,2,1),(1656,1671,0,3,0,2,2),(1672,1689,0,3,0,2,1),(1690,1727,0,3,0,2,2),(1728,1739,0,3,0,2,1),(1740,1747,0,3,0,2,2),(1750,1756,4,10,7,8,4),(1776,1785,0,4,17,3,0),(2304,2306,4,10,7,8,0),(2307,2307,8,10,7,0,0),(2308,2361,0,3,0,0,0),(2364,2364,4,10,7,8,0),(2366,2368,8,10,7,0,0),(2369,2376,4,10,7,8,0),(2377,2380,8,10,7,0,0),(2381,2381,4,10,7,8,0),(2406,2415,0,4,17,0,0),(4352,4447,9,3,18,0,0),(4448,4519,10,3,18,0,0),(4520,4607,11,3,18,0,0),(8192,8198,0,2,10,12,0),(8199,8199,0,0,9,12,0),(8200,8202,0,2,10,12,0),(8203,8203,3,0,5,9,0),(8204,8204,4,10,7,9,0),(8205,8205,5,11,6,9,3),(8206,8206,3,10,7,0,4),(8207,8207,3,10,7,1,4),(8208,8208,0,0,10,13,0),(8209,8209,0,0,9,13,0),(8210,8212,0,0,10,13,0),(8213,8215,0,0,0,13,0),(8216,8216,0,0,14,13,0),(8217,8217,0,7,14,13,0),(8218,8218,0,0,12,13,0),(8220,8221,0,0,14,13,0),(8232,8232,3,1,1,12,0),(8233,8233,3,1,1,10,0),(8234,8234,3,10,7,14,4),(8235,8235,3,10,7,16,4),(8236,8236,3,10,7,18,4),(8237,8237,3,10,7,15,4)]
def tab4:List Row:=[(8238,8238,3,10,7,17,4),(8240,8244,0,0,0,5,0),(8255,8256,0,8,0,13,0),(8288,8288,3,10,8,9,4),(8294,8294,3,10,7,19,0),(8295,8295,3,10,7,20,0),(8296,8296,3,10,7,21,0),(8297,8297,3,10,7,22,0),(8352,8399,0,0,0,5,0),(8400,8432,4,10,7,8,4),(8592,8959,0,0,0,13,0),(9728,10175,14,0,18,13,0),(12288,12288,0,2,10,12,0),(12289,12290,0,0,13,13,0),(12293,12295,0,0,18,0,0),(12296,12296,0,0,12,13,0),(12297,12297,0,0,13,13,0),(12298,12298,0,0,12,13,0),(12299,12299,0,0,13,13,0),(12300,12300,0,0,12,13,0),(12301,12301,0,0,13,13,0),(12302,12302,0,0,12,13,0),(12303,12303,0,0,13,13,0),(12304,12304,0,0,12,13,0),(12305,12305,0,0,13,13,0),(12353,12438,0,0,18,0,0),(12441,12442,4,10,7,8,4),(12449,12538,0,9,18,0,0),(12540,12540,0,9,18,0,0),(13312,40959,0,0,18,0,0),(64285,64335,0,3,0,1,0),(64336,65023,0,3,0,2,0),(65024,65039,4,10,7,8,4),(65136,65276,0,3,0,2,0),(65279,65279,3,10,8,9,4),(127462,127487,6,12,19,0,0),(127744,127994,14,0,18,13,0),(127995,127999,4,10,7,13,4),(128000,129791,14,0,18,13,0),(131072,262141,0,0,18,0,0),(917760,917999,4,10,7,8,4)]
def dT:Row->List V
 | (a,b,c,d,e,f,g)=>[.int .i32 a,.int .i32 b,.int .u8 c,.int .u8 d,.int .u8 e,.int .u8 f,.int .u8 g]
def kL:Row:=(0,0,0,0,0,0,0)
def aM(t:List Row):List V:=t.flatMap dT
theorem rm(x:Row):(dT x).length=7:=rfl
theorem dE:∀ t:List Row,(aM t).length=t.length*7
 | []=>rfl
 | x::t=>by
  have ih:=dE t;simp only[aM,Mj,Ln,rm,Lp]at ih ⊢;omega
theorem fU(t:List Row):(aM t).all V.rf=true:=by
 simp only[aM,Nq];rw[Lk];intro x _;rfl
theorem fB(t:List Row):(aM t).all V.leaf=true:=by
 simp only[aM,Nq];rw[Lk];intro x _;rfl
theorem B7(t:List Row):∀ c∈aM t,c≠V.nils:=by
 intro c hc;simp only[aM,M8]at hc;obtain⟨x,_,hx⟩:=hc;simp only[dT,Lt,MB,or_false]at hx;rcases hx with rfl|rfl|rfl|rfl|rfl|rfl|rfl<;>simp
theorem ef(t:List Row):isMap (aM t)=false:=by cases t<;>rfl
theorem mZ:∀ t:List Row,chunk 7 t.length (aM t)=t.map dT
 | []=>rfl
 | x::t=>by
  have e:aM (x::t)=dT x++aM t:=rfl;rw[e,Lp,chunk,Mk,Mz (rm x),List.drop_left' (rm x),mZ t]
theorem C9{h:Heap}{b:Nat}{t:List Row}(hb:ab h b=some (aM t)):frzA h (.sl b 0 t.length t.length 7)=some (.lst (t.map dT)):=by
 have ho:OwnC h 0 7 (.sl b 0 t.length t.length 7) (aM t):=.inr ⟨b,t.length,rfl,dE t,LA _,hb⟩;unfold frzA;rw[ho.frz (d:=4) (LA _) (fU t) (B7 t) (by omega),dE,Lw _ (by omega),mZ];rfl
def fp(t:List Row)(r:Int):Row:=match t.find? fun x=>decide (r<=x.2.1) with
 | some x=>if x.1<=r then x else kL
 | none=>kL
theorem FB(t:List Row)(p:Row->Bool):∀ i:Nat,(∀ (j:Nat) (x:Row),j<i->t[j]?=some x->p x=false)->(∀ x,t[i]?=some x->p x=true)->t.find? p=t[i]?:=by
 induction t with
 | nil=>intro i _ _;simp
 | cons a t ih =>
  intro i h1 h2;rcases i with _|i
  ·simp at h2;simp[h2]
  ·have h0:=h1 0 a (by omega) rfl;rw[List.find?_cons,h0];simp only;rw[ih i (fun j x hj hx=>h1 (j+1) x (by omega) (by simpa using hx)) (fun x hx=>h2 x (by simpa using hx))];simp
section
variable {prim:FuncId->Option Prim}(d:Nat) (cfg:Cfg) (h:Heap)
theorem BX(hp:prim 183=none)(t:List Row)(ht:t.length<=100)(h4:∀ (i j:Nat) (x y:Row),i<j->t[i]?=some x->t[j]?=some y->x.2.1<y.2.1)(r:Int){args:List V}(ha:args.mapM (frzA h)=some [.lst (t.map dT),.int .i32 r]):
  af md (K prim (d+1)) cfg 183 args h=some (.agg (dT (fp t r)),h):=by
 refine call3 rfl hp Tryz.func183 rfl rfl rfl (args':=[.lst (t.map dT),.int .i32 r]) ha ?_;simp;refine ah (fun m fr H=>∃ (lo hi:Nat),lo<=hi/\hi<=t.length/\m=hi-lo/\(∀ (j:Nat) (x:Row),j<lo->t[j]?=some x->x.2.1<r)/\(∀ (j:Nat) (x:Row),hi<=j->t[j]?=some x->r<=x.2.1)/\H=[some (dT kL)] /\
  Slots 45 [(0,.lst (t.map dT)),(1,.int .i32 r),(4,.ptr 0 0),(5,.int .i64 lo),(6,.int .i64 hi)] fr) (m:=t.length) (by omega) ⟨0,t.length,by omega,by omega,by omega,fun j x h=>by omega,(fun j x hj hx=>by rw[Lz hj]at hx;cases hx),rfl,by simp⟩ ?_
 rintro m fr H ⟨lo,hi,he,h8,rfl,h6,h7,rfl,hs⟩;obtain⟨j,rfl⟩:=hs.ex;clear hs;by_cases h0:lo<hi
 ·have hm:((lo:Int)+hi).tdiv 2=((lo+hi) / 2:Nat):=by rw[N1 (by omega)];omega
  have h9:(lo+hi) / 2<t.length:=by omega
  obtain⟨x,hx⟩:∃ x,t[(lo+hi) / 2]?=some x:=⟨_,K4 h9⟩;obtain⟨x1,x2,x3,x4,x5,x6,x7⟩:=x;have hm:((lo:Int)+hi).tdiv 2=((lo:Int)+hi) / 2:=N1 (by omega);have hd:(((lo:Int)+hi) / 2).toNat=(lo+hi) / 2:=by omega
  have hf:((lo:Int)+hi) / 2=((lo+hi) / 2:Nat):=by omega
  simp(disch:=omega)[h0,hm,hd,hx,dT,wrap64,-getElem?_pos];by_cases hc:x2<r
  ·simp(disch:=omega)[hc,wrap64];refine ae (m':=hi-((lo+hi) / 2+1)) (by omega) ⟨(lo+hi) / 2+1,hi,by omega,h8,rfl,fun j y hj hy=>?_,h7,rfl,by simp(disch:=omega)⟩;by_cases e:j=(lo+hi) / 2
   ·subst e;rw[hx]at hy;cases hy;exact hc
   ·have:=h4 j _ y _ (by omega) hy hx;simp only at this;omega
  ·simp[hc];refine ae (m':=(lo+hi) / 2-lo) (by omega) ⟨lo,(lo+hi) / 2,by omega,by omega,rfl,h6,fun j y hj hy=>?_,rfl,by simp⟩;by_cases e:j=(lo+hi) / 2
   ·subst e;rw[hx]at hy;cases hy;simp;omega
   ·have:=h4 _ j _ y (by omega) hx hy;simp at this;omega
 ·obtain rfl:lo=hi:=by omega
  have h3:t.find? (fun x=>decide (r<=x.2.1))=t[lo]?:=FB t _ lo (fun j x hj hx=>by have:=h6 j x hj hx;simp;omega) (fun x hx=>by have:=h7 lo x (La _) hx;simpa using this);unfold fp;rw[h3];by_cases h0:lo<t.length
  ·obtain⟨⟨x1,x2,x3,x4,x5,x6,x7⟩,hx⟩:∃ x,t[lo]?=some x:=⟨_,K4 h0⟩;by_cases hc:x1<=r
   ·simp(disch:=omega)[h0,hx,dT,hc,own,-getElem?_pos]
   ·simp(disch:=omega)[h0,hx,dT,hc,own,kL,-getElem?_pos]
  ·rw[Lz (by omega)];simp[h0,own,dT,kL]
end
end Bi
end Go.Ab
namespace Go.Ab
def Stk(h:Heap)(lo k:Nat)(v:V)(cs:List V):Prop:=
 (v=.nils/\cs=[])\/∃ b n cap J,v=.sl b 0 n cap k/\lo<=b/\cs.length=n*k/\ab h b=some (cs++J)/\(cs++J).length=cap*k/\n<=cap
theorem Stk.blk{h:Heap}{lo k:Nat}{v:V}{cs:List V}(ho:Stk h lo k v cs){b:Nat}(hb:cC v=some b):lo<=b/\b<h.length:=by
 rcases ho with⟨rfl,rfl⟩|⟨c,n,cap,J,rfl,h1,_,hc,_⟩
 ·cases hb
 ·cases hb;simp_all[ao]
theorem Stk.of_blk{h h':Heap}{lo k:Nat}{v:V}{cs:List V}(ho:Stk h lo k v cs)(hh:∀ b,cC v=some b->ab h' b=ab h b):Stk h' lo k v cs:=by
 rcases ho with⟨rfl,rfl⟩|⟨c,n,cap,J,rfl,h1,h2,hc,h3,h4⟩
 ·exact .inl ⟨rfl,rfl⟩
 ·exact .inr ⟨c,n,cap,J,rfl,h1,h2,by rw[hh c rfl];exact hc,h3,h4⟩
theorem Stk.push{h:Heap}{lo k:Nat}{v:V}{cs:List V}(ho:Stk h lo k v cs)(x:Heap):Stk (h++x) lo k v cs:=
 ho.of_blk fun _ hb=>aj (ho.blk hb).2
theorem Stk.set{h:Heap}{lo k c:Nat}{v:V}{cs:List V}(ho:Stk h lo k v cs)(hc:cC v≠some c)(x:Option (List V)):Stk (h.set c x) lo k v cs:=
 ho.of_blk fun b hb=>ak (by grind)
theorem Stk.leaf{h:Heap}{lo k:Nat}{v:V}{cs:List V}(ho:Stk h lo k v cs):v.leaf=true:=by
 rcases ho with⟨rfl,_⟩|⟨b,n,cap,J,rfl,_⟩<;>rfl
theorem Stk.cells{h:Heap}{lo k:Nat}{v:V}{cs:List V}(ho:Stk h lo k v cs):cellsOf v=some [v]:=by
 rcases ho with⟨rfl,_⟩|⟨b,n,cap,J,rfl,_⟩<;>rfl
theorem Stk.len{P:Program}{t e:TypeId}{h:Heap}{lo k:Nat}{v:V}{cs:List V}(hu:P.underlying t=some (.slice e))(hk:0<k)(ho:Stk h lo k v cs):dc P t v=some (.int .i64 (cs.length / k:Nat)):=by
 rcases ho with⟨rfl,rfl⟩|⟨b,n,cap,J,rfl,_,hn,_⟩
 ·rw[mh hu];simp
 simp_all[fg,Lw]
theorem Stk.pos{h:Heap}{lo k:Nat}{v:V}{cs:List V}(ho:Stk h lo k v cs)(hc:cs≠[]):∃ b n cap J,v=.sl b 0 n cap k/\lo<=b/\b<h.length/\cs.length=n*k/\ab h b=some (cs++J)/\(cs++J).length=cap*k/\n<=cap:=by
 rcases ho with⟨rfl,rfl⟩|⟨b,n,cap,J,rfl,h1,h2,h3,h4,h5⟩
 ·simp_all
 ·exact⟨b,n,cap,J,rfl,h1,ao h3,h2,h3,h4,h5⟩
theorem Stk.pop{h:Heap}{lo k b n cap m:Nat}{cs cs' r:List V}(ho:Stk h lo k (.sl b 0 n cap k) cs)(hc:cs=cs'++r)(hm:cs'.length=m*k)(hk:0<k):Stk h lo k (.sl b 0 m cap k) cs':=by
 rcases ho with⟨hh,_⟩|⟨b',n',cap',J,hv,h1,h2,h3,h4,h5⟩
 ·cases hh
 ·cases hv;subst hc;refine .inr ⟨b,m,cap,r++J,rfl,h1,hm,by simp_all,by simp_all,?_⟩;rw[Ln,hm]at h2;have:m*k<=n*k:=by omega
  have:=Nat.le_of_mul_le_mul_right this hk;omega
@[simp] theorem I8{k:IntKind}{l:List Int}{i:Nat}{x:Int}:isMap ((l.map (V.int k)).set i (.int k x))=false:=by rw[ints_set];exact gk
theorem ic:∀ (new a J:List V),new.length<=J.length->putAt (a++J) a.length new=a++new++J.drop new.length
 | [],a,J,_=>by simp
 | v::r,a,J,h=>by
  rcases J with _|⟨x,J⟩
  ·simp at h
  ·have e:bR (a++x::J) a.length v=(a++[v])++J:=by
    simp_all[bR,LO,La]
   have:=ic r (a++[v]) J (by simp_all);simp_all
section
variable {P:Program}{md:FuncId->Nat}{call:aF}{cfg:Cfg}{n:Nat}
theorem kB{dst:Option Tmp}{fr:List V}{ops:Array Oper}{rest:List Oper}{Q:ca}{h:Heap}{d:V}{cs new:List V}{lo k y:Nat}(ho:Stk h lo k d cs)(hd:cfg.lo<=lo)(h9:cfg.thr<=lo)(hH:lo<=h.length)
  (ha:new.length=k) (h8:isMap new=false) (hk:0<k) (h0:(cs.length / k+1)*y<=1099511627776) (hlen:cs.length / k+1<=1099511627776)
  (H:∀ d' h',Stk h' lo k d' (cs++new)->d'.leaf=true->h'.take lo=h.take lo->h.length<=h'.length->(∀ c,cC d≠some c->c<h.length->ab h' c=ab h c)->(cC d'=cC d\/cC d'=some h.length)->@wO P md call cfg ⟨ops⟩ ⟨rest⟩ (put fr dst d') h' ⟨Q⟩):
  @wS P md call cfg ⟨dst⟩ ⟨fr⟩ (fX cfg h k y d 1 new) ⟨ops⟩ ⟨rest⟩ ⟨Q⟩:=by
 rcases ho with⟨rfl,rfl⟩|⟨b,n,cap,J,rfl,h1,h2,h3,h4,h5⟩
 ·simp only[L3,Nat.zero_div,LU]at h0 hlen;rw[gL h0 hlen (by omega),dt];refine H _ _ (.inr ⟨h.length,1,1,[],rfl,hH,by simp_all,?_,by simp_all,La _⟩) rfl ?_ (by simp) (fun c _ hc=>aj hc) (.inr rfl)
  ·simp[h8]
  grind
 ·rw[h2,Lw _ hk]at h0 hlen;have he:=ao h3;have hw:cfg.wr b=true:=by simp only[Cfg.wr,LP,decide_eq_true_eq];omega
  by_cases hc:n+1<=cap
  ·have hr:roomy (n+1) y=true:=by grind[roomy]
   have hJ:new.length<=J.length:=by
    simp only[Ln]at h4;have:(n+1)*k<=cap*k:=NS _ hc
    grind
   have hf:aJ cfg h b (0+n*k) new=some (h.set b (some (cs++new++J.drop new.length))):=by
    rw[gI,h3];simp only[Md];rw[LU,<- h2,if_pos,ic _ _ _ hJ]
    grind
   have e:fX cfg h k y (.sl b 0 n cap k) 1 new=some (.sl b 0 (n+1) cap k,h.set b (some (cs++new++J.drop new.length))):=by
    simp_all[fX,M1,if_true,decide_true]
   rw[e,dt];have hg:isMap (cs++new++J.drop new.length)=false:=by
    have hh:=dy h3;cases cs with
    | nil =>
     cases new with
     | nil=>grind
     | cons x new=>cases x<;>first|rfl|grind[isMap]
    | cons x cs=>cases x<;>first|rfl|grind[isMap]
   refine H _ _ (.inr ⟨b,n+1,cap,J.drop new.length,rfl,h1,?_,?_,?_,hc⟩) rfl ?_ (by simp) (fun c h6 hc=>ak (by rintro rfl;exact h6 rfl)) (.inl rfl)
   ·grind
   ·simp_all
   ·simp_all
   ·rw[Mf h1]
  ·have h7:cap=n:=by omega
   subst h7;have hJ:J=[]:=by
    simp_all
   subst hJ;rw[Mg]at h3;rw[eN h3 hw h0 hlen (by omega) (by omega),dt,<- h2,LF];refine H _ _ (.inr ⟨h.length,cap+1,cap+1,[],rfl,hH,?_,?_,?_,La _⟩) rfl ?_ (by simp) (fun c h6 hc=>?_) (.inr rfl)
   ·grind
   ·have:=mf (dy h3) h8;simp[this]
   ·grind
   ·grind[List.take_set_of_le]
   ·rw[aj (by simp_all),ak (by rintro rfl;exact h6 rfl)]
end
end Go.Ab
