/- Several texts of this proof in one. -/
import Derived.Test.YtldfgkjmficliaaGreatPiFacts
import Derived.WalkKit
set_option linter.all false
set_option maxHeartbeats 1000000
namespace Go.Ab
@[simp] theorem ev_nilp{fr:List V}:ev fr (.const (.pointer none))=some .nilp:=rfl
@[simp] theorem ev_nilf{fr:List V}:ev fr (.const .nilFunc)=some .nilf:=rfl
@[simp] theorem ev_nilm{fr:List V}:ev fr (.const (.map none))=some .nilm:=rfl
theorem eR{h:Heap}{b:Nat}{cs:List V}(hb:ab h b=some cs):h.set b (some cs)=h:=by
 have:=aB hb;apply LY;intro i;by_cases hi:b=i
 ·subst hi;rw[Lo (al hb),this]
 ·rw[Li hi]
section
variable {P:Program}{md:FuncId->Nat}{cfg:Cfg}{n:Nat}{prim:FuncId->Option Prim}
theorem iL{d:Nat}{f:FuncId}{fn:Func}{c:Code}{k:Nat}{rs:List ResultVar}{args:List V}{h:Heap}{Post:V->Heap->Prop}(hm:md f=1)(hp:prim f=none)(hf:P.funcs[f]?=some fn)(hb:fn.body=some c)(hk:fn.ntmps=k)
  (hr:fn.results.toList=rs)
  (hw:@wC P md (aN P md prim n d) ⟨cfg.lo,cfg.ex,h.length⟩ n ⟨c⟩ (args++List.replicate (k-args.length) .no) h ⟨@kFn P ⟨rs⟩ ⟨fun r' h'=>∃ r,frz h' h.length 6 r'=some r/\Post r (h'.take h.length)⟩⟩):
  ∃ r h2,af md (aN P md prim n (d+1)) cfg f args h=some (r,h2)/\Post r h2:=by
 obtain⟨r',h',h1,r,h2,h3⟩:=cw hp hf hb hk hr hw;exact⟨r,_,by simp only[af,hm,h1,h2],h3⟩
theorem pG{d:Nat}{f:FuncId}{fn:Func}{c:Code}{k:Nat}{rs:List ResultVar}{args:List V}{h:Heap}{Post:V->Heap->Prop}(hm:md f=2)(hp:prim f=none)(hf:P.funcs[f]?=some fn)(hb:fn.body=some c)(hk:fn.ntmps=k)
  (hr:fn.results.toList=rs)
  (hw:@wC P md (aN P md prim n d) cfg n ⟨c⟩ (args++List.replicate (k-args.length) .no) h ⟨@kFn P ⟨rs⟩ ⟨Post⟩⟩):
  ∃ r h2,af md (aN P md prim n (d+1)) cfg f args h=some (r,h2)/\Post r h2:=by
 obtain⟨r',h',h1,h2⟩:=cw hp hf hb hk hr hw;exact⟨r',h',by simp only[af,hm,h1],h2⟩
end
@[simp] theorem Ik{h:Heap}{b off len cap:Nat}:jX h (.sl b off len cap 1)=(ab h b).bind fun cs=>if off+len<=cs.length then some ((cs.drop off).take len) else none:=by
 simp only[jX];cases ab h b with
 | none=>rfl
 | some cs=>simp
theorem rD{h:Heap}{n d:Nat}{k:IntKind}(l:List Int)(off len:Nat):(((l.map (V.int k)).drop off).take len).mapM (frz h n (d+1))=some (((l.drop off).take len).map (V.int k)):=by
 rw[<- List.map_drop,<- List.map_take];exact fy _
theorem CO{h:Heap}{n d b off len cap:Nat}{k:IntKind}{l:List Int}(hb:ab h b=some (l.map (V.int k)))(hn:n<=b)(hl:off+len<=l.length):frz h n (d+2) (.sl b off len cap 1)=some (.lst (((l.drop off).take len).map fun x=>[.int k x])):=by
 have e:¬ b<n:=by omega
 have hlen:((l.drop off).take len).length=len:=by simp;omega
 have e3:chunk 1 len (((l.drop off).take len).map (V.int k))=((l.drop off).take len).map fun x=>[V.int k x]:=by
  have:=ia (((l.drop off).take len).map (V.int k));simp only[MQ,hlen,Oe]at this;exact this
 have e4:(((l.drop off).take len).map (V.int k)).all V.rf=true:=by
  rw[Lp];intro c hc;obtain⟨x,_,rfl⟩:=Mp.1 hc;rfl
 rw[iR];simp only[e,if_false,hb,Ox,rD,e3,e4,if_true];rw[if_pos (by simpa using hl)]
theorem AV{h:Heap}{b off len cap:Nat}{k:IntKind}{l:List Int}(hb:ab h b=some (l.map (V.int k)))(hl:off+len<=l.length):frzA h (.sl b off len cap 1)=some (.lst (((l.drop off).take len).map fun x=>[.int k x])):=by
 unfold frzA;rw[CO (d:=4) hb (LJ _) hl];rfl
def OwnL(h:Heap)(lo:Nat)(k:IntKind)(v:V)(l:List Int):Prop:=(v=.nils/\l=[])\/(∃ b,v=.sl b 0 l.length l.length 1/\lo<=b/\ab h b=some (l.map (V.int k)))
theorem OwnL.frzA{h:Heap}{lo:Nat}{k:IntKind}{v:V}{l:List Int}(ho:OwnL h lo k v l):frzA h v=some (.lst (l.map fun x=>[.int k x])):=by
 rcases ho with⟨rfl,rfl⟩|⟨b,rfl,_,hb⟩
 ·rfl
 ·rw[AV hb (by omega)];simp
theorem OwnL.len{P:Program}{t e:TypeId}{h:Heap}{lo:Nat}{k:IntKind}{v:V}{l:List Int}(hu:P.underlying t=some (.slice e))(ho:OwnL h lo k v l):dy P t v=some (.int .i64 l.length):=by
 rcases ho with⟨rfl,rfl⟩|⟨b,rfl,_,hb⟩
 ·exact ml hu
 ·exact gL hu
theorem OwnL.mono{h h':Heap}{lo:Nat}{k:IntKind}{v:V}{l:List Int}(ho:OwnL h lo k v l)(hh:∀ b,lo<=b->b<h.length->ab h' b=ab h b):OwnL h' lo k v l:=by
 rcases ho with⟨rfl,rfl⟩|⟨b,rfl,h1,hb⟩
 ·exact .inl ⟨rfl,rfl⟩
 ·exact .inr ⟨b,rfl,h1,by rw[hh b h1 (al hb)];exact hb⟩
section
variable {P:Program}{md:FuncId->Nat}{call:aW}{cfg:Cfg}{n:Nat}
theorem Kb{dst:Option Tmp}{fr:List V}{ops:Array Oper}{rest:List Oper}{Q:bR}{h:Heap}{d:V}{l:List Int}{lo y:Nat}{k:IntKind}{x:Int}(ho:OwnL h lo k d l)(h3:cfg.lo<=lo)(hH:lo<=h.length)
  (h0:(l.length+1)*y<=1099511627776) (hlen:l.length+1<=1099511627776)
  (H:∀ d' h',OwnL h' lo k d' (l++[x])->h'.take lo=h.take lo->lo<=h'.length->@wO P md call cfg ⟨ops⟩ ⟨rest⟩ (put fr dst d') h' ⟨Q⟩):
  @wS P md call cfg ⟨dst⟩ ⟨fr⟩ (fP cfg h 1 y d 1 [.int k x]) ⟨ops⟩ ⟨rest⟩ ⟨Q⟩:=by
 rcases ho with⟨rfl,rfl⟩|⟨b,rfl,h1,hb⟩
 ·rw[jT (by simpa using h0) (by omega) (by omega),eC];refine H _ _ (.inr ⟨h.length,by simp,hH,by simp⟩) ?_ (by simp;omega);rw[LM hH]
 ·have h4:=al hb;have hw:cfg.wr b=true:=by simp[Cfg.wr];left;omega
  rw[fU hb hw h0 hlen (by omega) (by simp),eC];refine H _ _ (.inr ⟨h.length,by simp,hH,?_⟩) ?_ (by simp;omega)
  ·simp only[Ox];rw[Lu (by simp)];simp;exact nX rfl
  ·rw[LM (by simp;exact hH),Mw h1]
end
end Go.Ab
namespace Go.Ab
def cO:V->Option Nat
 | .sl b _ _ _ _=>some b
 | _=>none
def Dj(v d:V):Prop:=∀ b,cO v=some b->cO d≠some b
theorem Dj.nils{v:V}:Dj v .nils:=fun _ _ h=>by cases h
theorem Dj.symm{v d:V}(h:Dj v d):Dj d v:=fun b h1 h2=>h b h2 h1
section
variable {P:Program}{md:FuncId->Nat}{call:aW}{cfg:Cfg}{n:Nat}
theorem Am{dst:Option Tmp}{fr:List V}{ops:Array Oper}{rest:List Oper}{Q:bR}{h:Heap}{d:V}{l:List Int}{lo y:Nat}{k:IntKind}{x:Int}(ho:OwnL h lo k d l)(h3:cfg.lo<=lo)(hH:lo<=h.length)
  (h0:(l.length+1)*y<=1099511627776) (hlen:l.length+1<=1099511627776)
  (H:∀ d' h',OwnL h' lo k d' (l++[x])->h'.take lo=h.take lo->lo<=h'.length->h.length<=h'.length->(∀ v,Dj v d->(∀ b,cO v=some b->b<h.length)->Dj v d'/\∀ b,cO v=some b->ab h' b=ab h b)->@wO P md call cfg ⟨ops⟩ ⟨rest⟩ (put fr dst d') h' ⟨Q⟩):
  @wS P md call cfg ⟨dst⟩ ⟨fr⟩ (fP cfg h 1 y d 1 [.int k x]) ⟨ops⟩ ⟨rest⟩ ⟨Q⟩:=by
 rcases ho with⟨rfl,rfl⟩|⟨b,rfl,h1,hb⟩
 ·rw[jT (by simpa using h0) (by omega) (by omega),eC];refine H _ _ (.inr ⟨h.length,by simp,hH,by simp⟩) ?_ (by simp;omega) (by simp) ?_
  ·rw[LM hH]
  ·intro v _ hv;refine⟨fun c hc h2=>?_,fun c hc=>aj (hv c hc)⟩;simp only[cO,Ll]at h2;have:=hv c hc;omega
 ·have h4:=al hb;have hw:cfg.wr b=true:=by simp[Cfg.wr];left;omega
  rw[fU hb hw h0 hlen (by omega) (by simp),eC];refine H _ _ (.inr ⟨h.length,by simp,hH,?_⟩) ?_ (by simp;omega) (by simp) ?_
  ·simp only[Ox];rw[Lu (by simp)];simp;exact nX rfl
  ·rw[LM (by simp;exact hH),Mw h1]
  ·intro v hd hv;refine⟨fun c hc h2=>?_,fun c hc=>?_⟩
   ·simp only[cO,Ll]at h2;have:=hv c hc;omega
   ·have hne:b≠c:=fun e=>hd c hc (by rw[e];rfl);rw[aj (by simpa using hv c hc),ak hne]
end
theorem OwnL.blk{h:Heap}{lo:Nat}{k:IntKind}{v:V}{l:List Int}(ho:OwnL h lo k v l){b:Nat}(hb:cO v=some b):lo<=b/\b<h.length:=by
 rcases ho with⟨rfl,rfl⟩|⟨c,rfl,h1,hc⟩
 ·cases hb
 ·cases hb;exact⟨h1,al hc⟩
theorem OwnL.of_blk{h h':Heap}{lo:Nat}{k:IntKind}{v:V}{l:List Int}(ho:OwnL h lo k v l)(hh:∀ b,cO v=some b->ab h' b=ab h b):OwnL h' lo k v l:=by
 rcases ho with⟨rfl,rfl⟩|⟨c,rfl,h1,hc⟩
 ·exact .inl ⟨rfl,rfl⟩
 ·exact .inr ⟨c,rfl,h1,by rw[hh c rfl];exact hc⟩
def Upd(h:Heap)(b:Nat)(cs:List V)(H:Heap):Prop:=H.take h.length=h.set b (some cs)/\h.length<=H.length
theorem Upd.refl{h:Heap}{b:Nat}{cs:List V}(hb:ab h b=some cs):Upd h b cs h:=by
 refine⟨?_,Lh _⟩;rw[LQ];exact (eR hb).symm
theorem Upd.block{h H:Heap}{b:Nat}{cs:List V}(hu:Upd h b cs H)(hb:b<h.length)(hm:isMap cs=false):ab H b=some cs:=by
 have h1:H[b]?=(H.take h.length)[b]?:=by rw[LR hb]
 unfold ab;rw[h1,hu.1,Lo hb];simp[hm]
theorem Upd.set{h H:Heap}{b:Nat}{cs cs':List V}(hu:Upd h b cs H):Upd h b cs' (H.set b (some cs')):=by
 refine⟨?_,by simpa using hu.2⟩;rw[NP,hu.1];simp
theorem Upd.push{h H:Heap}{b:Nat}{cs:List V}(hu:Upd h b cs H)(x:Heap):Upd h b cs (H++x):=by
 refine⟨?_,by have:=hu.2;simp;omega⟩;rw[LM hu.2,hu.1]
theorem Upd.of_take{h H H':Heap}{b:Nat}{cs:List V}(hu:Upd h b cs H)(ht:H'.take h.length=H.take h.length)(hl:h.length<=H'.length):Upd h b cs H':=⟨ht.trans hu.1,hl⟩
end Go.Ab
namespace Go.Ab
def OwnC(h:Heap)(lo k:Nat)(v:V)(cs:List V):Prop:=
 (v=.nils/\cs=[])\/∃ b n,v=.sl b 0 n n k/\cs.length=n*k/\lo<=b/\ab h b=some cs
abbrev Own:=Nat×V×List V
structure Hp(H base:Heap)(os:List Own):Prop where
 take:H.take base.length=base
 le:base.length<=H.length
 own:∀ o∈os,OwnC H base.length o.1 o.2.1 o.2.2
 dj:os.Pairwise fun a b=>Dj a.2.1 b.2.1
theorem OwnC.blk{h:Heap}{lo k:Nat}{v:V}{cs:List V}(ho:OwnC h lo k v cs){b:Nat}(hb:cO v=some b):lo<=b/\b<h.length:=by
 rcases ho with⟨rfl,rfl⟩|⟨c,n,rfl,_,h1,hc⟩
 ·cases hb
 ·cases hb;exact⟨h1,al hc⟩
theorem OwnC.of_blk{h h':Heap}{lo k:Nat}{v:V}{cs:List V}(ho:OwnC h lo k v cs)(hh:∀ b,cO v=some b->ab h' b=ab h b):OwnC h' lo k v cs:=by
 rcases ho with⟨rfl,rfl⟩|⟨c,n,rfl,hn,h1,hc⟩
 ·exact .inl ⟨rfl,rfl⟩
 ·exact .inr ⟨c,n,rfl,hn,h1,by rw[hh c rfl];exact hc⟩
theorem OwnC.lo{h:Heap}{lo lo' k:Nat}{v:V}{cs:List V}(ho:OwnC h lo k v cs)(hl:lo'<=lo):OwnC h lo' k v cs:=by
 rcases ho with⟨rfl,rfl⟩|⟨c,n,rfl,hn,h1,hc⟩
 ·exact .inl ⟨rfl,rfl⟩
 ·exact .inr ⟨c,n,rfl,hn,by omega,hc⟩
theorem OwnC.pos{h:Heap}{lo k:Nat}{v:V}{cs:List V}(ho:OwnC h lo k v cs)(hc:cs≠[]):∃ b n,v=.sl b 0 n n k/\cs.length=n*k/\lo<=b/\b<h.length/\ab h b=some cs:=by
 rcases ho with⟨rfl,rfl⟩|⟨c,n,rfl,hn,h1,hb⟩
 ·exact absurd rfl hc
 ·exact⟨c,n,rfl,hn,h1,al hb,hb⟩
theorem OwnC.ints{h:Heap}{lo:Nat}{v:V}{kd:IntKind}{l:List Int}(ho:OwnC h lo 1 v (l.map (V.int kd)))(hc:0<l.length):∃ b,v=.sl b 0 l.length l.length 1/\lo<=b/\b<h.length/\ab h b=some (l.map (V.int kd)):=by
 obtain⟨b,n,rfl,hn,h1,h2,h3⟩:=ho.pos (by intro h;simp at h;subst h;simp at hc);simp at hn;subst hn;exact⟨b,rfl,h1,h2,h3⟩
theorem OwnC.len{P:Program}{t e:TypeId}{h:Heap}{lo k:Nat}{v:V}{cs:List V}(hu:P.underlying t=some (.slice e))(hk:0<k)(ho:OwnC h lo k v cs):dy P t v=some (.int .i64 (cs.length / k:Nat)):=by
 rcases ho with⟨rfl,rfl⟩|⟨b,n,rfl,hn,_,hb⟩
 ·rw[ml hu];simp
 ·rw[gL hu,hn,LI _ hk]
theorem OwnC.leaf{h:Heap}{lo k:Nat}{v:V}{cs:List V}(ho:OwnC h lo k v cs):v.leaf=true:=by
 rcases ho with⟨rfl,_⟩|⟨b,n,rfl,_⟩<;>rfl
theorem OwnC.cells{h:Heap}{lo k:Nat}{v:V}{cs:List V}(ho:OwnC h lo k v cs):cellsOf v=some [v]:=by
 rcases ho with⟨rfl,_⟩|⟨b,n,rfl,_⟩<;>rfl
theorem OwnC.len1{P:Program}{t e:TypeId}{h:Heap}{lo:Nat}{v:V}{cs:List V}(hu:P.underlying t=some (.slice e))(ho:OwnC h lo 1 v cs):dy P t v=some (.int .i64 cs.length):=by
 rw[ho.len hu (by omega),Oy]
theorem fG{h:Heap}{n d:Nat}:∀ {cs:List V},cs.all V.rf=true->(∀ c∈cs,c≠.nils)->cs.mapM (frz h n (d+1))=some cs
 | [],_,_=>rfl
 | c::cs,hr,hn=>by
  simp only[OP,Lq]at hr;have ih:=fG (h:=h) (n:=n) (d:=d) hr.2 (fun x hx=>hn x (Lm _ hx));have h0:frz h n (d+1) c=some c:=by
   have:=hr.1;have hc:=hn c (Lv ..);cases c<;>first|rfl|(exact absurd rfl hc)|(simp[V.rf]at this;done)
  simp[MC,h0,ih]
theorem OwnC.frz{h:Heap}{lo n d k:Nat}{v:V}{cs:List V}(ho:OwnC h lo k v cs)(hn:n<=lo)(hr:cs.all V.rf=true)(h0:∀ c∈cs,c≠.nils)(hk:0<k):frz h n (d+2) v=some (.lst (chunk k (cs.length / k) cs)):=by
 rcases ho with⟨rfl,rfl⟩|⟨b,m,rfl,hm,h1,hb⟩
 ·simp[chunk]
 ·rw[iR,if_neg (by omega),hb];have e:List.take (m*k) cs=cs:=by rw[<- hm,LQ]
  simp only[L3,ML,hm,Lh,if_true,e,fG hr h0,hr,LI _ hk]
theorem OwnC.frzI{h:Heap}{lo n d:Nat}{v:V}{kd:IntKind}{l:List Int}(ho:OwnC h lo 1 v (l.map (V.int kd)))(hn:n<=lo):Go.Ab.frz h n (d+2) v=some (.lst (l.map fun x=>[.int kd x])):=by
 rw[ho.frz hn (by simp) (by simp) (by omega)];simp only[Oy,ia,Oe];rfl
theorem OwnC.frzA{h:Heap}{lo:Nat}{v:V}{kd:IntKind}{l:List Int}(ho:OwnC h lo 1 v (l.map (V.int kd))):Go.Ab.frzA h v=some (.lst (l.map fun x=>[.int kd x])):=by
 unfold Go.Ab.frzA;rw[ho.frzI (d:=4) (LJ _)];rfl
theorem OwnC.own{h:Heap}{lo d k:Nat}{v:V}{cs:List V}(ho:OwnC h lo k v cs)(hr:∀ c∈cs,Go.Ab.own h (d+1) c=true):Go.Ab.own h (d+2) v=true:=by
 rcases ho with⟨rfl,rfl⟩|⟨b,n,rfl,hn,h1,hb⟩
 ·rfl
 ·show (match ab h b with
   | some cs=>((cs.drop 0).take (n*k)).all (Go.Ab.own h (d+1))
   | none=>false)=true
  rw[hb];simp only[ML,Lp];exact fun c hc=>hr c (Mz hc)
@[simp] theorem own_agg{h:Heap}{d:Nat}{cs:List V}:Go.Ab.own h (d+1) (.agg cs)=cs.all (Go.Ab.own h d):=rfl
@[simp] theorem own_tup{h:Heap}{d:Nat}{cs:List V}:Go.Ab.own h (d+1) (.tup cs)=cs.all (Go.Ab.own h d):=rfl
@[simp] theorem own_int{h:Heap}{d:Nat}{k:IntKind}{n:Int}:Go.Ab.own h (d+1) (.int k n)=true:=rfl
@[simp] theorem own_bool{h:Heap}{d:Nat}{b:Bool}:Go.Ab.own h (d+1) (.bool b)=true:=rfl
@[simp] theorem own_str{h:Heap}{d:Nat}{b:ByteArray}:Go.Ab.own h (d+1) (.str b)=true:=rfl
@[simp] theorem own_nils{h:Heap}{d:Nat}:Go.Ab.own h (d+1) .nils=true:=rfl
@[simp] theorem own_lst0{h:Heap}{d:Nat}:Go.Ab.own h (d+1) (.lst [])=true:=rfl
theorem Hp.start{H:Heap}:Hp H H []:=⟨LQ,Lh _,by simp,Oz⟩
theorem Hp.cut{H base:Heap}{os:List Own}{n:Nat}(h:Hp H base os)(hn:n<=base.length):Hp H (base.take n) os:=by
 have hl:(base.take n).length=n:=by simp;omega
 refine⟨?_,by rw[hl];have:=h.le;omega,fun o ho=>?_,h.dj⟩
 ·rw[hl]
  conv=>rhs;rw[<- h.take]
  rw[Nt,MR hn]
 ·rw[hl];exact (h.own o ho).lo hn
theorem Hp.block{H base:Heap}{os:List Own}{b:Nat}(h:Hp H base os)(hb:b<base.length):ab H b=ab base b:=by
 have:H[b]?=base[b]?:=by
  conv=>rhs;rw[<- h.take]
  rw[LR hb]
 simp[ab,this]
theorem Hp.push{H base:Heap}{os:List Own}(h:Hp H base os)(x:Heap):Hp (H++x) base os:=by
 refine⟨?_,by have:=h.le;simp;omega,fun o ho=>(h.own o ho).of_blk fun b hb=>aj ((h.own o ho).blk hb).2,h.dj⟩;rw[LM h.le,h.take]
theorem Hp.set{H base:Heap}{os:List Own}{b:Nat}(h:Hp H base os)(hb:b<base.length)(x:Option (List V)):Hp (H.set b x) (base.set b x) os:=by
 refine⟨?_,by simpa using h.le,fun o ho=>?_,h.dj⟩
 ·rw[LS,NP,h.take]
 ·rw[LS];exact (h.own o ho).of_blk fun c hc=>ak (by have:=((h.own o ho).blk hc).1;omega)
theorem Hp.new{H base:Heap}{os:List Own}{n k:Nat}{cs:List V}(h:Hp H base os)(hm:isMap cs=false)(hn:cs.length=n*k)(x:Heap):Hp (H++some cs::x) base ((k,.sl H.length 0 n n k,cs)::os):=by
 have hp:=h.push (some cs::x);refine⟨hp.take,hp.le,fun o ho=>?_,Mj.2 ⟨fun o ho=>?_,h.dj⟩⟩
 ·rcases Ly.1 ho with rfl|ho
  ·exact .inr ⟨_,n,rfl,hn,h.le,by simp[hm]⟩
  ·exact hp.own o ho
 ·intro b hb h0;cases hb;have:=((h.own o ho).blk h0).2;omega
theorem Hp.nil{H base:Heap}{os:List Own}(h:Hp H base os)(k:Nat):Hp H base ((k,.nils,[])::os):=by
 refine⟨h.take,h.le,fun o ho=>?_,Mj.2 ⟨fun o _ b hb=>by simp[cO]at hb,h.dj⟩⟩;rcases Ly.1 ho with rfl|ho
 ·exact .inl ⟨rfl,rfl⟩
 ·exact h.own o ho
theorem Hp.drop{H base:Heap}{os os':List Own}(h:Hp H base os)(hs:os'.Sublist os):Hp H base os':=
 ⟨h.take,h.le,fun o ho=>h.own o (hs.subset ho),h.dj.sublist hs⟩
theorem Hp.perm{H base:Heap}{os os':List Own}(h:Hp H base os)(hs:os.Perm os'):Hp H base os':=
 ⟨h.take,h.le,fun o ho=>h.own o (hs.mem_iff.2 ho),hs.pairwise h.dj (fun {_ _} h=>h.symm)⟩
theorem Hp.swap{H base:Heap}{a b:Own}{os:List Own}(h:Hp H base (a::b::os)):Hp H base (b::a::os):=h.perm (.swap ..)
theorem Hp.tail{H base:Heap}{a:Own}{os:List Own}(h:Hp H base (a::os)):Hp H base os:=h.drop (List.sublist_cons_self ..)
theorem Hp.head{H base:Heap}{k:Nat}{v:V}{cs:List V}{os:List Own}(h:Hp H base ((k,v,cs)::os)):OwnC H base.length k v cs:=h.own (k,v,cs) (Lv ..)
theorem Hp.snd{H base:Heap}{a:Own}{k:Nat}{v:V}{cs:List V}{os:List Own}(h:Hp H base (a::(k,v,cs)::os)):OwnC H base.length k v cs:=h.tail.head
theorem Hp.thd{H base:Heap}{a b:Own}{k:Nat}{v:V}{cs:List V}{os:List Own}(h:Hp H base (a::b::(k,v,cs)::os)):OwnC H base.length k v cs:=h.tail.tail.head
theorem Hp.setO{H base:Heap}{os:List Own}{k n b:Nat}{cs cs':List V}(h:Hp H base ((k,.sl b 0 n n k,cs)::os))(hm:isMap cs'=false)(hl:cs'.length=cs.length):Hp (H.set b (some cs')) base ((k,.sl b 0 n n k,cs')::os):=by
 have hh:=h.head;obtain⟨h0,h3⟩:=hh.blk (b:=b) rfl;have hd:=Mj.1 h.dj;rcases hh with⟨hh,_⟩|⟨b',n',hv,hn,h1,h2⟩
 ·cases hh
 cases hv;refine⟨?_,by simpa using h.le,fun o ho=>?_,Mj.2 ⟨hd.1,hd.2⟩⟩
 ·rw[Mw h0,h.take]
 ·rcases Ly.1 ho with rfl|ho
  ·exact .inr ⟨_,_,rfl,by rw[hl];exact hn,h0,by simp[h3,hm]⟩
  ·refine (h.own o (Lm _ ho)).of_blk fun c hc=>ak ?_;intro e;subst e;exact hd.1 o ho b rfl hc
theorem mi{a b:List V}(ha:isMap a=false)(hb:isMap b=false):isMap (a++b)=false:=by
 cases a with
 | nil=>exact hb
 | cons x a=>cases x<;>first|rfl|simp[isMap]at ha
theorem dP{h:Heap}{b:Nat}{cs:List V}(hb:ab h b=some cs):isMap cs=false:=by
 unfold ab at hb;split at hb
 ·rename_i x _;split at hb
  ·cases hb
  ·rename_i hx;cases hb;simpa using hx
 ·cases hb
def Mid[I:Hid (List V->Heap->Prop)](fr:List V)(h:Heap):Prop:=I.val fr h
def kMid[I:Hid (List V->Heap->Prop)](e:Ex)(fr:List V)(h:Heap):Prop:=
 match e with
 | .normal=>@Mid I fr h
 | _=>False
@[simp] theorem Ho{I:List V->Heap->Prop}{fr:List V}{h:Heap}:@kMid ⟨I⟩ .normal fr h↔@Mid ⟨I⟩ fr h:=ME
theorem ch{I:List V->Heap->Prop}{fr:List V}{h:Heap}(hi:I fr h):@Mid ⟨I⟩ fr h:=hi
section
variable {P:Program}{md:FuncId->Nat}{call:aW}{cfg:Cfg}{n:Nat}
theorem OS{c b:Code}{fr:List V}{h:Heap}{Q:dV}(I:List V->Heap->Prop)(h1:@wC P md call cfg n ⟨c⟩ fr h ⟨@kMid ⟨I⟩⟩)(h2:∀ fr h,I fr h->@wC P md call cfg n ⟨b⟩ fr h ⟨Q⟩):
  @wC P md call cfg n ⟨c⟩ fr h ⟨@A4 P md call cfg n ⟨b⟩ ⟨Q⟩⟩:=by
 refine GL h1 fun e fr h hm=>?_;cases e with
 | normal=>exact h2 fr h hm
 | exit i=>exact hm.elim
 | ret=>exact hm.elim
theorem bH{dst:Option Tmp}{fr:List V}{ops:Array Oper}{rest:List Oper}{Q:bR}{h base:Heap}{os:List Own}{d:V}{cs new:List V}{k m y:Nat}(ho:Hp h base ((k,d,cs)::os))(h9:cfg.lo<=base.length)
  (h0:new.length=m*k) (h4:isMap new=false) (hm:0<m) (hk:0<k) (h3:(cs.length / k+m)*y<=1099511627776) (hlen:cs.length / k+m<=1099511627776)
  (H:∀ d' h',Hp h' base ((k,d',cs++new)::os)->@wO P md call cfg ⟨ops⟩ ⟨rest⟩ (put fr dst d') h' ⟨Q⟩):
  @wS P md call cfg ⟨dst⟩ ⟨fr⟩ (fP cfg h k y d m new) ⟨ops⟩ ⟨rest⟩ ⟨Q⟩:=by
 have hd:=Mj.1 ho.dj;rcases ho.head with⟨hh,h7⟩|⟨b,n,hv,hn,h1,hb⟩
 ·subst hh h7;simp only[Me,Nat.zero_div,L3]at h3 hlen;rw[jT h3 hlen hm,eC];exact H _ _ (by simpa using ho.tail.new h4 h0 [])
 ·subst hv;rw[hn,LI _ hk]at h3 hlen;have ha:=al hb;have hw:cfg.wr b=true:=by simp only[Cfg.wr,Md,decide_eq_true_eq];left;omega
  rw[fU hb hw h3 hlen (by omega) (by omega),eC,<- hn,LQ];refine H _ _ ?_;have h8:Hp (h.set b none) base os:=by
   refine⟨?_,by simpa using ho.le,fun o h6=>?_,hd.2⟩
   ·rw[Mw h1,ho.take]
   ·refine (ho.own o (Lm _ h6)).of_blk fun c hc=>ak ?_;intro e;subst e;exact hd.1 o h6 b rfl hc
  have:=h8.new (cs:=cs++new) (n:=n+m) (k:=k) (mi (dP hb) h4) (by simp[hn,h0,Mc]) [];simpa using this
end
end Go.Ab
namespace Go.Ab.Bi
def rr(p:Int->Bool):List Int->List Int->List Int
 | acc,[]=>acc
 | acc,x::l=>if p x then rr p (x::acc) l else acc++x::rr p [] l
theorem tW(p:Int->Bool):∀ (run acc rest:List Int),(∀ x∈run,p x=true)->rr p acc (run++rest)=rr p (run.reverse++acc) rest
 | [],acc,rest,_=>by simp
 | x::run,acc,rest,h=>by
  have hx:=h x (Lv ..);simp only[L8,rr,hx,if_true,List.reverse_cons,LD,Mf];exact tW p run (x::acc) rest fun y hy=>h y (Lm _ hy)
theorem DZ(p:Int->Bool)(run:List Int)(h:∀ x∈run,p x=true):rr p [] run=run.reverse:=by
 have:=tW p run [] [] h;simpa[rr]using this
theorem fA{p:Int->Bool}{acc l:List Int}{x:Int}(h:p x=false):rr p acc (x::l)=acc++x::rr p [] l:=by simp[rr,h]
theorem zS(p:Int->Bool):∀ l:List Int,(∀ x∈l,p x=false)->rr p [] l=l
 | [],_=>rfl
 | x::l,h=>by
  rw[fA (h x (Lv ..)),zS p l fun y hy=>h y (Lm _ hy)];rfl
theorem nK(p:Int->Bool):∀ (l acc:List Int),(∀ x∈acc,p x=true)->rr p [] (rr p acc l)=acc.reverse++l
 | [],acc,h=>by simp[rr,DZ p acc h]
 | x::l,acc,h=>by
  cases hx:p x
  ·rw[fA hx,tW p acc [] _ h,fA hx,nK p l [] (by simp)];simp
  ·have e:rr p acc (x::l)=rr p (x::acc) l:=by simp[rr,hx]
   rw[e,nK p l (x::acc) (by
    intro y hy;rcases Ly.1 hy with rfl|hy
    ·exact hx
    ·exact h y hy)]
   simp
theorem D0(p:Int->Bool)(l:List Int):rr p [] (rr p [] l)=l:=nK p l [] (by simp)
theorem wE{p q:Int->Bool}:∀ (l acc:List Int),(∀ x∈l,p x=q x)->rr p acc l=rr q acc l
 | [],_,_=>rfl
 | x::l,acc,h=>by
  have h1:=h x (Lv ..);have h2:=fun y hy=>h y (Lm _ hy);simp only[rr,h1,wE l _ h2]
theorem pk(p:Int->Bool):∀ (l acc:List Int),(rr p acc l).Perm (acc++l)
 | [],acc=>by simp[rr]
 | x::l,acc=>by
  cases hx:p x
  ·rw[fA hx];exact (List.Perm.append_left acc ((pk p l []).cons x))
  ·have e:rr p acc (x::l)=rr p (x::acc) l:=by simp[rr,hx]
   rw[e];exact (pk p l (x::acc)).trans (by simpa using List.perm_middle.symm)
theorem JY{p:Int->Bool}{l:List Int}{x:Int}:x∈rr p [] l↔x∈l:=by simpa using (pk p l []).mem_iff (a:=x)
def lvl(lv:List Int)(x:Int):Int:=lv.getD x.toNat 0
def ge(lv:List Int)(n:Int)(x:Int):Bool:=decide (n<=lvl lv x)
def kN(lv:List Int):Nat->List Int->List Int
 | 0,l=>l
 | n+1,l=>kN lv n (rr (ge lv (n+1:Nat)) [] l)
def idx(n:Nat):List Int:=(List.range n).map fun x:Nat=>(x:Int)
theorem FM(n:Nat):(idx n).length=n:=by simp[idx]
theorem FN{n:Nat}{x:Int}:x∈idx n↔0<=x/\x<n:=by
 simp only[idx,Mp,NY];constructor
 ·rintro⟨a,h,rfl⟩;omega
 ·intro h;exact⟨x.toNat,by omega,by omega⟩
theorem wa(lv:List Int):∀ (n:Nat) (l:List Int),(kN lv n l).Perm l
 | 0,l=>List.Perm.refl _
 | n+1,l=>(wa lv n _).trans (by simpa using pk (ge lv (n+1:Nat)) l [])
theorem vZ(lv : List Int)(l : List Int)(m : Nat): ∀ n : Nat, m <= n -> (∀ x ∈ l, lvl lv x <= m) -> kN lv n l = kN lv m l
  | 0, h, _ => by obtain rfl : m = 0 := by omega
                  rfl
  | n + 1, h, hx => by
    by_cases e : m = n + 1
    · rw[e]
    · rw[kN, zS _ _ fun x h0 => by
        have := hx x h0;simp only[ge, decide_eq_false_iff_not];omega]
      exact vZ lv l m n (by omega) hx
theorem zL(lv:List Int)(l:List Int):∀ k:Nat,(∀ x∈l,lvl lv x<(2*k:Nat)->lvl lv x%2=0)->kN lv (2*k) l=l
 | 0,_=>rfl
 | k+1,h=>by
  rw[show 2*(k+1)=2*k+1+1 by omega,kN,kN];have e:rr (ge lv ((2*k+1:Nat):Int)) [] (rr (ge lv ((2*k+1+1:Nat):Int)) [] l)=l:=by
   rw[wE (q:=ge lv ((2*k+1+1:Nat):Int)) _ _ ?_,D0];intro x hx;rw[JY]at hx;have:=h x hx;simp only[ge];by_cases hl:lvl lv x<(2*(k+1):Nat)
   ·have:=this hl;by_cases h2:((2*k+1:Nat):Int)<=lvl lv x
    ·omega
    ·rw[decide_eq_false h2,decide_eq_false (by omega)]
   ·rw[decide_eq_true (by omega),decide_eq_true (by omega)]
  rw[e];exact zL lv l k fun x hx h2=>h x hx (by omega)
def Swp(l:List Int)(i to k:Nat)(l':List Int):Prop:=l'.length=l.length/\∀ q,l'[q]?=if i<=q/\q<to/\(q<i+k\/to<=q+k) then l[i+to-1-q]? else l[q]?
theorem Swp.zero{l:List Int}{i to:Nat}:Swp l i to 0 l:=⟨rfl,fun q=>by rw[if_neg (by omega)]⟩
theorem Swp.at{l l':List Int}{i to k q:Nat}(h:Swp l i to k l')(h1:i+k<=q)(h2:q+k<to):l'[q]?=l[q]?:=by
 rw[h.2,if_neg (by omega)]
theorem Swp.step{l l':List Int}{i to k:Nat}{x y:Int}(h:Swp l i to k l')(hk:i+k+k+1<to)(ht:to<=l.length)(hx:l[i+k]?=some x)(hy:l[to-1-k]?=some y):
  Swp l i to (k+1) ((l'.set (i+k) y).set (to-1-k) x):=by
 refine⟨by simp[h.1],fun q=>?_⟩;rw[Np,Np,h.2];have hl:=h.1;by_cases e1:to-1-k=q
 ·subst e1;rw[if_pos rfl,if_pos (by simp;omega),if_pos (by omega),show i+to-1-(to-1-k)=i+k by omega,hx]
 ·rw[if_neg e1];by_cases e2:i+k=q
  ·subst e2;rw[if_pos rfl,if_pos (by omega),if_pos (by omega),show i+to-1-(i+k)=to-1-k by omega,hy]
  ·rw[if_neg e2];by_cases e3:i<=q/\q<to/\(q<i+k\/to<=q+k)
   ·rw[if_pos e3,if_pos (by omega)]
   ·rw[if_neg e3,if_neg (by omega)]
theorem Swp.fin{a run b l':List Int}{k:Nat}(h:Swp (a++run++b) a.length (a.length+run.length) k l')(hk:run.length<=k+k+1):l'=a++run.reverse++b:=by
 apply LY;intro q;rw[h.2];by_cases h1:q<a.length
 ·rw[if_neg (by omega)];simp[Lf,h1]
 ·by_cases h2:q<a.length+run.length
  ·have e:(a++run.reverse++b)[q]?=run.reverse[q-a.length]?:=by
    rw[LD,Lk (by omega),Lf (by simp;omega)]
   have e':∀ p,a.length<=p->p<a.length+run.length->(a++run++b)[p]?=run[p-a.length]?:=fun p p1 p2=>by
    rw[LD,Lk (by omega),Lf (by omega)]
   rw[e,List.getElem?_reverse (by omega)];split
   ·rw[e' _ (by omega) (by omega)];congr 1;omega
   ·rw[e' _ (by omega) (by omega)];congr 1;omega
  ·rw[if_neg (by omega)];rw[Lk (by simp;omega),Lk (by simp;omega)];simp
end Go.Ab.Bi
namespace Go.Ab.Bi
def ini(x:Int):Bool:=x==19||x==20||x==21
def gone(x:Int):Bool:=x==16||x==14||x==17||x==15||x==18||x==9
def bn:List Int->Nat->Option Nat
 | [],_=>none
 | x::r,d =>
  if ini x then (bn r (d+1)).map (·+1)
  else if x=22 then match d with
   | 0=>some 0
   | d+1=>(bn r d).map (·+1)
  else (bn r d).map (·+1)
theorem kg{x:Int}{r:List Int}{d:Nat}(h:ini x=true):bn (x::r) d=(bn r (d+1)).map (·+1):=by simp[bn,h]
theorem nF{r:List Int}:bn (22::r) 0=some 0:=by simp[bn,ini]
theorem iq{r:List Int}{d:Nat}:bn (22::r) (d+1)=(bn r d).map (·+1):=by simp[bn,ini]
theorem nE{x:Int}{r:List Int}{d:Nat}(h:ini x=false)(h2:x≠22):bn (x::r) d=(bn r d).map (·+1):=by simp[bn,h,h2]
theorem jD:∀ (l:List Int) (d m:Nat),bn l d=some m->m<l.length
 | [],_,_,h=>by simp[bn]at h
 | x::r,d,m,h=>by
  simp only[bn]at h;split at h
  ·obtain⟨k,hk,rfl⟩:=LG.1 h;have:=jD r _ k hk;simp;omega
  ·split at h
   ·cases d with
    | zero=>cases h;simp
    | succ d =>
     obtain⟨k,hk,rfl⟩:=LG.1 h;have:=jD r _ k hk;simp;omega
   ·obtain⟨k,hk,rfl⟩:=LG.1 h;have:=jD r _ k hk;simp;omega
theorem qI:∀ (l:List Int) (k d:Nat),bn (l.take k) d=match bn l d with
  | some m=>if m<k then some m else none
  | none=>none
 | [],k,d=>by simp[bn]
 | x::r,0,d=>by
  simp only[NX,bn];cases (if ini x=true then Option.map (·+1) (bn r (d+1)) else if x=22 then match d with
   | 0=>some 0
   | d+1=>Option.map (·+1) (bn r d) else Option.map (·+1) (bn r d))<;>simp
 | x::r,k+1,d=>by
  have ih:=fun d=>qI r k d;simp only[List.take_succ_cons,bn];split
  ·rw[ih];cases bn r (d+1) with
   | none=>rfl
   | some m=>simp only[LW];split<;>split<;>first|rfl|omega
  ·split
   ·cases d with
    | zero=>simp
    | succ d =>
     simp only[ih];cases bn r d with
     | none=>rfl
     | some m=>simp only[LW];split<;>split<;>first|rfl|omega
   ·rw[ih];cases bn r d with
    | none=>rfl
    | some m=>simp only[LW];split<;>split<;>first|rfl|omega
def fsL:Nat->List Int->Int
 | 0,_=>0
 | _+1,[]=>0
 | n+1,x::r =>
  if x=0 then 0 else if x=1\/x=2 then 1
  else if ini x then match bn r 0 with
   | some m=>fsL n (r.drop (m+1))
   | none=>0
  else fsL n r
def fs(l:List Int):Int:=fsL l.length l
theorem mg:∀ (n:Nat) (l:List Int),l.length<=n->fsL n l=fs l
 | 0,l,h=>by
  obtain rfl:l=[]:=L9.1 (by omega);rfl
 | n+1,[],_=>rfl
 | n+1,x::r,h=>by
  simp at h;have h1:fsL n r=fsL r.length r:=mg n r h;unfold fs;simp only[Lx,fsL];split
  ·rfl
  ·split
   ·rfl
   ·split
    ·cases hm:bn r 0 with
     | none=>rfl
     | some m =>
      simp only;rw[mg n _ (by simp;omega),mg r.length _ (by simp)]
    ·exact h1
theorem Iv:fs []=0:=rfl
theorem Fx(x:Int)(r:List Int):fs (x::r)=if x=0 then 0 else if x=1\/x=2 then 1 else if ini x then (match bn r 0 with
  | some m=>fs (r.drop (m+1))
  | none=>0) else fs r:=by
 unfold fs;simp only[Lx,fsL];split
 ·rfl
 ·split
  ·rfl
  ·split
   ·cases hm:bn r 0 with
    | none=>rfl
    | some m =>
     simp only;rw[mg _ _ (by simp)];rfl
   ·rfl
theorem tx:∀ (n:Nat) (l:List Int),fsL n l=0\/fsL n l=1
 | 0,_=>.inl rfl
 | _+1,[]=>.inl rfl
 | n+1,x::r=>by
  simp only[fsL];split
  ·exact .inl rfl
  ·split
   ·exact .inr rfl
   ·split
    ·split
     ·exact tx n _
     ·exact .inl rfl
    ·exact tx n r
def mt(c:List Int)(i:Nat):Int:=match bn (c.drop (i+1)) 0 with
 | some m=>((i+1+m:Nat):Int)
 | none=>-1
abbrev Ent:=Int×Int×Bool
structure ES where
 st:List Ent
 iso:Nat
 emb:Nat
 val:Nat
def nxt(n:Int)(odd:Bool):Int:=if (n%2==0)==odd then n+1 else n+2
def ovr(o x:Int):Int:=if 0<=o then o else x
def fM:List Ent->Ent
 | []=>(0,-1,false)
 | a::_=>a
def jK:List Ent->List Ent
 | []=>[]
 | a::r=>if a.2.2 then r else jK r
def yf(x:Int):Int:=if x=17 then 1 else if x=15 then 0 else -1
def ca(e x:Int)(odd:Bool)(s:ES):Int×Int×ES:=
 if x=16\/x=14\/x=17\/x=15 then
  (((fM s.st).1,x,if nxt (fM s.st).1 (decide (x=16\/x=17))<=125/\s.iso=0/\s.emb=0 then { s with st:=(nxt (fM s.st).1 (decide (x=16\/x=17)),yf x,false)::s.st }
   else if s.iso=0 then { s with emb:=s.emb+1 } else s))
 else if ini x then
  ((fM s.st).1,ovr (fM s.st).2.1 x,if nxt (fM s.st).1 odd<=125/\s.iso=0/\s.emb=0 then { s with st:=(nxt (fM s.st).1 odd,-1,true)::s.st,val:=s.val+1 } else { s with iso:=s.iso+1 })
 else if x=22 then
  let s':ES:=if 0<s.iso then { s with iso:=s.iso-1 } else if 0<s.val then { s with st:=jK s.st,emb:=0,val:=s.val-1 } else s
  ((fM s'.st).1,ovr (fM s'.st).2.1 x,s')
 else if x=18 then
  ((fM s.st).1,x,if 0<s.iso then s else if 0<s.emb then { s with emb:=s.emb-1 } else if (fM s.st).2.2=false/\1<s.st.length then { s with st:=s.st.tail } else s)
 else if x=10 then (e,x,s)
 else if x=9 then ((fM s.st).1,x,s)
 else ((fM s.st).1,ovr (fM s.st).2.1 x,s)
def gP(x:Int)(r:List Int):Bool:=
 if x=20 then true
 else if x=21 then decide (fs (match bn r 0 with
  | some m=>r.take m
  | none=>r)=1)
 else false
def qd(e:Int):List Int->ES->List (Int×Int)
 | [],_=>[]
 | x::r,s=>((ca e x (gP x r) s).1,(ca e x (gP x r) s).2.1)::qd e r (ca e x (gP x r) s).2.2
def es0(e:Int):ES:=⟨[(e,-1,false)],0,0,0⟩
def ic(e:Int)(c:List Int):List (Int×Int):=qd e c (es0 e)
end Go.Ab.Bi
namespace Go.Ab
open Go.Proofs
namespace Bi
def md:FuncId->Nat
| 22=>2
| 100=>2
| 23=>1
| 66=>1
| 99=>1
| 140=>1
| 141=>1
| 105=>1
| 107=>1
| 108=>1
| 109=>1
| 110=>1
| 143=>1
| 133=>1
| 168=>1
| 175=>1
| 179=>1
| 180=>1
| 181=>1
| 183=>1
| 184=>1
| 185=>1
| 186=>1
| 189=>1
| 191=>1
| 192=>1
| 193=>1
| 194=>1
| 68=>3
| 94=>3
| 69=>3
| 67=>2
| 155=>3
| 70=>3
| 64=>1
| 65=>1
| 33=>1
| 34=>1
| 95=>4
| 8=>2
| 38=>2
| 39=>1
| 134=>4
| 164=>4
| 137=>5
| 136=>5
| 138=>2
| 57=>5
| 55=>4
| 26=>4
| 56=>4
| 27=>4
| 25=>2
| 52=>2
| 132=>1
| 165=>2
| 166=>2
| 174=>2
| 152=>3
 | _=>0
def C6(f:FuncId):Bool:=f==99999||f==10||f==17||f==168
def Hm(f:FuncId):Bool:=C6 f||f==68||f==67||f==100||f==99999||f==174
abbrev Np2(f:FuncId):Prop:=C6 f=false
abbrev Np5(f:FuncId):Prop:=Hm f=false
theorem yc{f:FuncId}(h:Np5 f):Np2 f:=by
 unfold Np5 Hm at h;simp only[Bool.or_eq_false_iff]at h;exact h.1.1.1.1.1
noncomputable abbrev K(prim:FuncId->Option Prim)(d:Nat):aW:=aN Tryz.prog md prim 10000 d
abbrev il(l:List Int):V:=.lst (l.map fun n=>[.int .i64 n])
abbrev rl(l:List Int):V:=.lst (l.map fun n=>[.int .i32 n])
@[simp] theorem frzA_lst{h:Heap}{xs:List (List V)}:frzA h (.lst xs)=some (.lst xs):=rfl
@[simp] theorem frzA_int{h:Heap}{k:IntKind}{i:Int}:frzA h (.int k i)=some (.int k i):=rfl
@[simp] theorem Kq{h:Heap}{b:Bool}:frzA h (.bool b)=some (.bool b):=rfl
@[simp] theorem frzA_agg{h:Heap}{cs:List V}:frzA h (.agg cs)=(cs.mapM (frz h 0 5)).map .agg:=by
 unfold frzA;rw[Fv];cases cs.mapM (frz h 0 5)<;>rfl
@[simp] theorem Kr{h:Heap}:frzA h .nils=some (.lst []):=rfl
@[simp] theorem Kj{cfg:Cfg}{h:Heap}{k y:Nat}:fP cfg h k y .nils 0 []=some (.nils,h):=by simp[fP,roomy]
@[simp] theorem Kp{k:IntKind}{l:List Int}:(l.map fun n=>[V.int k n]).flatten=l.map (V.int k):=by
 induction l with
 | nil=>rfl
 | cons x l ih=>simp[ih]
section
variable {prim:FuncId->Option Prim}(d:Nat) (cfg:Cfg) (h:Heap)
theorem yn(hp:prim 133=none)(a run c:List Int)(hr:run.length<=4000)(b cap:Nat)(hb:ab h b=some ((a++run++c).map (V.int .i64)))(hw:cfg.wr b=true):
  af md (K prim (d+1)) cfg 133 [.sl b a.length run.length cap 1] h=some (.tup [],h.set b (some ((a++run.reverse++c).map (V.int .i64)))):=by
 have h4:(Cfg.wr ⟨cfg.lo,cfg.ex,h.length⟩ b)=true:=hw;have h9:=al hb;refine call1 rfl hp Tryz.func133 rfl rfl rfl ?_;simp(disch:=omega)[wrap64];refine ai (fun m fr H=>∃ (k:Nat) (l:List Int),m=run.length-k/\k<=run.length/\Swp (a++run++c) a.length (a.length+run.length) k l/\H=h.set b (some (l.map (V.int .i64))) /\
  Slots 28 [(0,.sl b a.length run.length cap 1),(2,.int .i64 k),(3,.int .i64 ((run.length:Int)-1-k))] fr) (m:=run.length) (by omega) ⟨0,_,by omega,by omega,Swp.zero,(eR hb).symm,by simp⟩ ?_
 rintro m fr H ⟨k,l,rfl,hk,hS,rfl,hs⟩;obtain⟨j,rfl⟩:=hs.ex;clear hs;by_cases h3:(k:Int)<(run.length:Int)-1-k
 ·have h6:=hS.1;simp only[Lt]at h6;obtain⟨x,hx⟩:∃ x,(a++run++c)[a.length+k]?=some x:=⟨_,Lc (by simp;omega)⟩;obtain⟨y,hy⟩:∃ y,(a++run++c)[a.length+run.length-1-k]?=some y:=⟨_,Lc (by simp;omega)⟩;have h7:=(hS.at (q:=a.length+k) (by omega) (by omega)).trans hx;have h8:=(hS.at (q:=a.length+run.length-1-k) (by omega) (by omega)).trans hy;have e1:((run.length:Int)-1-k).toNat=run.length-1-k:=by omega
  have e2:a.length+(run.length-1-k)=a.length+run.length-1-k:=by omega
  have l1:a.length+k+1<=l.length:=by omega
  have l2:a.length+run.length-1-k+1<=l.length:=by omega
  simp[h3];refine ah 12 (by kernel_rfl) ?_;simp(disch:=omega)[h7,h8,e1,e2,l1,h4,-getElem?_pos];rw[ints_set];simp[l2,-List.map_set];refine ae (m':=run.length-(k+1)) (by omega) ⟨k+1,_,rfl,by omega,hS.step (by omega) (by simp) hx hy,rfl,?_⟩;simp(disch:=omega)[wrap64];omega
 ·have h0:=hS.fin (by omega);subst h0;simp[h3];exact Lu (by simp)
end
end Bi
end Go.Ab
namespace Go.Ab
open Go.RowKit
def yJ(k:IntKind)(w:World)(a:Option Addr)(len cap:Nat)(zs:List Int):Prop:=
 (a=none/\len=0/\cap=0/\zs=[]) \/
 ∃ x,a=some x/\len<=cap/\cap<=maxLen/\zs.length=cap/\(∀ i,i<zs.length->w.cell? (x.add i)=some (.int k (zs.getD i 0)))/\∀ n∈zs,(Lit.int k n).wf=true
theorem E1{w:World}{b o:Nat}{v:Value}(h:w.cell? ⟨b,o,none⟩=some v):b<w.heap.size:=by
 rcases LX b w.heap.size with hb|hb
 ·exact hb
 ·simp[World.cell?,NV hb]at h
theorem zn{k:IntKind}{w:World}{a:Option Addr}{len cap:Nat}{zs:List Int}(h:yJ k w a len cap zs):R Dv [] w (.lst ((zs.take len).map fun n=>[.int k n])) (.slice a len cap):=by
 rcases h with⟨rfl,rfl,rfl,rfl⟩|⟨x,rfl,hl,hm,hz,h3,_⟩
 ·exact .lst0 _ _ (fun _=>rfl)
 ·by_cases h0:len=0
  ·subst h0;exact .lst0 _ _ (fun h=>by cases h)
  ·obtain⟨b,off,spot⟩:=x;have h6:=h3 0 (by omega);have h4:spot=none:=by simpa[Addr.add]using World.cell?_spot h6
   subst h4;have hc:∀ i,i<cap->w.cell? ⟨b,off+i,none⟩=some (.int k (zs.getD i 0)):=fun i hi=>by
    have:=h3 i (by omega);by_cases h0:i=0
    ·subst h0;simpa[Addr.add]using this
    ·simpa[Addr.add,h0]using this
   have h7:b<w.heap.size:=E1 (hc 0 (by omega));have hlen:((zs.take len).map fun n=>[V.int k n]).length=len:=by simp;omega
   have key:∀ (i:Nat) (e:List V),((zs.take len).map fun n=>[V.int k n])[i]?=some e->i<len/\e=[.int k (zs.getD i 0)]:=by
    intro i e he;have hi:i<len:=by
     have:=(Ld.1 he).1;omega
    refine⟨hi,?_⟩;rw[Ln,LR hi,Lc (by omega:i<zs.length)]at he;simp only[LW,Ll]at he;rw[<- he,Lg,Lc (by omega:i<zs.length)];rfl
   have:=R.lst (m:=Dv) (h:=[]) (w:=w) (xs:=(zs.take len).map fun n=>[V.int k n]) (b:=b) (o:=off) (k:=1) (rc:=cap) (fun i _=>.int k (zs.getD i 0)) ⟨h7,fun h=>h,fun x hx=>by obtain⟨cs,hc⟩:=hx;simp at hc⟩ (by rw[hlen];exact hl)
    (fun i e he=>by rw[(key i e he).2];rfl)
    (fun i e j c he hj=>by
     obtain⟨hi,rfl⟩:=key i e he
     match j,hj with
     | 0,_=>simpa using hc i (by omega)
     | j+1,hj=>simp at hj)
    (fun i e j c he hj=>by
     obtain⟨hi,rfl⟩:=key i e he
     match j,hj with
     | 0,hj=>simp at hj;subst hj;rfl
     | j+1,hj=>simp at hj)
    (fun i e j c he hj=>by
     obtain⟨hi,rfl⟩:=key i e he
     match j,hj with
     | 0,hj=>simp at hj;subst hj;exact .int _ _
     | j+1,hj=>simp at hj)
   rwa [hlen]at this
theorem DN{m:Mu}{h:Heap}{w:World}:PW m h w [] #[]:=⟨rfl,by simp⟩
theorem zR{m:Mu}{h:Heap}{w:World}{x:V}{v:Value}{xs:List V}{vs:List Value}(hr:R m h w x v)(ht:PW m h w xs vs.toArray):PW m h w (x::xs) (v::vs).toArray:=by
 refine⟨by have:=ht.1;simp at this ⊢;omega,fun i c u hc hu=>?_⟩;cases i with
 | zero=>simp at hc hu;subst hc hu;exact hr
 | succ i=>exact ht.2 i c u (by simpa using hc) (by simpa using hu)
theorem agg_R{m:Mu}{h:Heap}{w:World}{cs:List V}{vs:List Value}(hp:PW m h w cs vs.toArray):R m h w (.agg cs) (.agg vs.toArray):=.agg hp.1 hp.2
end Go.Ab
namespace Go.Ab
open Go.Proofs
namespace Bi
abbrev Row:=Int×Int×Int×Int×Int×Int×Int
def tab1:List Row:=[(0,8,3,0,7,9,0),(9,9,3,0,10,11,0),(10,10,2,1,3,10,0),(11,11,3,1,1,11,0),(12,12,3,1,1,12,0),(13,13,1,1,2,10,0),(14,31,3,0,7,9,0),(32,32,0,2,4,12,0),(33,33,0,0,15,13,0),(34,34,0,0,14,13,0),(35,37,0,0,0,5,0),(38,38,0,0,0,13,0),(39,39,0,7,14,13,0),(40,40,0,0,12,13,0),(41,41,0,0,13,13,0),(42,42,0,0,0,13,0),(43,43,0,0,0,4,0),(44,44,0,6,16,7,0),(45,45,0,0,11,4,0),(46,46,0,7,16,7,0),(47,47,0,0,10,7,0),(48,57,0,4,17,3,0),(58,58,0,5,16,7,0),(59,59,0,6,16,13,0),(60,62,0,0,0,13,0),(63,63,0,0,15,13,0),(64,64,0,0,0,13,0),(65,90,0,3,0,0,0),(91,91,0,0,12,13,0),(92,92,0,0,0,13,0),(93,93,0,0,13,13,0),(94,94,0,0,0,13,0),(95,95,0,8,0,13,0),(96,96,0,0,0,13,0),(97,122,0,3,0,0,0),(123,123,0,0,12,13,0),(124,124,0,0,10,13,0),(125,125,0,0,13,13,0),(126,126,0,0,0,13,0),(127,132,3,0,7,9,0),(133,133,3,1,1,10,0),(134,159,3,0,7,9,0),(160,160,0,0,9,7,0),(161,161,0,0,12,13,0)]
def tab2:List Row:=[(162,165,0,0,0,5,0),(166,169,0,0,0,13,0),(170,170,0,3,0,0,0),(171,171,0,0,14,13,0),(172,172,0,0,0,13,0),(173,173,3,10,10,9,4),(174,180,0,0,0,13,0),(181,181,0,3,0,0,0),(182,182,0,0,0,13,0),(183,183,0,5,0,13,0),(184,185,0,0,0,13,0),(186,186,0,3,0,0,0),(187,187,0,0,14,13,0),(188,191,0,0,0,13,0),(192,767,0,3,0,0,0),(768,879,4,10,7,8,4),(880,1423,0,3,0,0,0),(1424,1469,4,10,7,8,4),(1470,1470,0,0,10,1,0),(1471,1479,4,10,7,8,4),(1488,1514,0,3,0,1,0),(1536,1541,7,0,0,6,0),(1548,1548,0,6,16,7,0),(1552,1562,4,10,7,8,4),(1563,1563,0,0,15,2,0),(1564,1564,3,10,7,2,4),(1567,1567,0,0,15,2,0),(1568,1568,0,3,0,2,2),(1569,1569,0,3,0,2,0),(1570,1573,0,3,0,2,1),(1574,1574,0,3,0,2,2),(1575,1575,0,3,0,2,1),(1576,1576,0,3,0,2,2),(1577,1577,0,3,0,2,1),(1578,1582,0,3,0,2,2),(1583,1586,0,3,0,2,1),(1587,1599,0,3,0,2,2),(1600,1600,0,3,0,2,3),(1601,1607,0,3,0,2,2),(1608,1608,0,3,0,2,1),(1609,1610,0,3,0,2,2),(1611,1631,4,10,7,8,4),(1632,1641,0,4,17,6,0),(1642,1642,0,0,0,5,0)]
def tab3:List Row:=[(1643,1644,0,6,16,6,0),(1648,1648,4,10,7,8,4),(1649,1655,0,3,0,2,1),(1656,1671,0,3,0,2,2),(1672,1689,0,3,0,2,1),(1690,1727,0,3,0,2,2),(1728,1739,0,3,0,2,1),(1740,1747,0,3,0,2,2),(1750,1756,4,10,7,8,4),(1776,1785,0,4,17,3,0),(2304,2306,4,10,7,8,0),(2307,2307,8,10,7,0,0),(2308,2361,0,3,0,0,0),(2364,2364,4,10,7,8,0),(2366,2368,8,10,7,0,0),(2369,2376,4,10,7,8,0),(2377,2380,8,10,7,0,0),(2381,2381,4,10,7,8,0),(2406,2415,0,4,17,0,0),(4352,4447,9,3,18,0,0),(4448,4519,10,3,18,0,0),(4520,4607,11,3,18,0,0),(8192,8198,0,2,10,12,0),(8199,8199,0,0,9,12,0),(8200,8202,0,2,10,12,0),(8203,8203,3,0,5,9,0),(8204,8204,4,10,7,9,0),(8205,8205,5,11,6,9,3),(8206,8206,3,10,7,0,4),(8207,8207,3,10,7,1,4),(8208,8208,0,0,10,13,0),(8209,8209,0,0,9,13,0),(8210,8212,0,0,10,13,0),(8213,8215,0,0,0,13,0),(8216,8216,0,0,14,13,0),(8217,8217,0,7,14,13,0),(8218,8218,0,0,12,13,0),(8220,8221,0,0,14,13,0),(8232,8232,3,1,1,12,0),(8233,8233,3,1,1,10,0),(8234,8234,3,10,7,14,4),(8235,8235,3,10,7,16,4),(8236,8236,3,10,7,18,4),(8237,8237,3,10,7,15,4)]
def tab4:List Row:=[(8238,8238,3,10,7,17,4),(8240,8244,0,0,0,5,0),(8255,8256,0,8,0,13,0),(8288,8288,3,10,8,9,4),(8294,8294,3,10,7,19,0),(8295,8295,3,10,7,20,0),(8296,8296,3,10,7,21,0),(8297,8297,3,10,7,22,0),(8352,8399,0,0,0,5,0),(8400,8432,4,10,7,8,4),(8592,8959,0,0,0,13,0),(9728,10175,14,0,18,13,0),(12288,12288,0,2,10,12,0),(12289,12290,0,0,13,13,0),(12293,12295,0,0,18,0,0),(12296,12296,0,0,12,13,0),(12297,12297,0,0,13,13,0),(12298,12298,0,0,12,13,0),(12299,12299,0,0,13,13,0),(12300,12300,0,0,12,13,0),(12301,12301,0,0,13,13,0),(12302,12302,0,0,12,13,0),(12303,12303,0,0,13,13,0),(12304,12304,0,0,12,13,0),(12305,12305,0,0,13,13,0),(12353,12438,0,0,18,0,0),(12441,12442,4,10,7,8,4),(12449,12538,0,9,18,0,0),(12540,12540,0,9,18,0,0),(13312,40959,0,0,18,0,0),(64285,64335,0,3,0,1,0),(64336,65023,0,3,0,2,0),(65024,65039,4,10,7,8,4),(65136,65276,0,3,0,2,0),(65279,65279,3,10,8,9,4),(127462,127487,6,12,19,0,0),(127744,127994,14,0,18,13,0),(127995,127999,4,10,7,13,4),(128000,129791,14,0,18,13,0),(131072,262141,0,0,18,0,0),(917760,917999,4,10,7,8,4)]
def ea:Row->List V
 | (a,b,c,d,e,f,g)=>[.int .i32 a,.int .i32 b,.int .u8 c,.int .u8 d,.int .u8 e,.int .u8 f,.int .u8 g]
def kQ:Row:=(0,0,0,0,0,0,0)
def aV(t:List Row):List V:=t.flatMap ea
theorem qW(x:Row):(ea x).length=7:=rfl
theorem dT:∀ t:List Row,(aV t).length=t.length*7
 | []=>rfl
 | x::t=>by
  have ih:=dT t;simp only[aV,L4,Lt,qW,Lx]at ih ⊢;omega
theorem gh(t:List Row):(aV t).all V.rf=true:=by
 simp only[aV,N2];rw[Lp];intro x _;rfl
theorem fK(t:List Row):(aV t).all V.leaf=true:=by
 simp only[aV,N2];rw[Lp];intro x _;rfl
theorem BD(t:List Row):∀ c∈aV t,c≠V.nils:=by
 intro c hc;simp only[aV,NI]at hc;obtain⟨x,_,hx⟩:=hc;simp only[ea,Ly,M0,or_false]at hx;rcases hx with rfl|rfl|rfl|rfl|rfl|rfl|rfl<;>simp
theorem eG(t:List Row):isMap (aV t)=false:=by cases t<;>rfl
theorem ni:∀ t:List Row,chunk 7 t.length (aV t)=t.map ea
 | []=>rfl
 | x::t=>by
  have e:aV (x::t)=ea x++aV t:=rfl;rw[e,Lx,chunk,MF,MS (qW x),List.drop_left' (qW x),ni t]
theorem CP{h:Heap}{b:Nat}{t:List Row}(hb:ab h b=some (aV t)):frzA h (.sl b 0 t.length t.length 7)=some (.lst (t.map ea)):=by
 have ho:OwnC h 0 7 (.sl b 0 t.length t.length 7) (aV t):=.inr ⟨b,t.length,rfl,dT t,LJ _,hb⟩;unfold frzA;rw[ho.frz (d:=4) (LJ _) (gh t) (BD t) (by omega),dT,LI _ (by omega),ni];rfl
def bQ(t:List Row)(r:Int):Row:=match t.find? fun x=>decide (r<=x.2.1) with
 | some x=>if x.1<=r then x else kQ
 | none=>kQ
theorem Fk(t:List Row)(p:Row->Bool):∀ i:Nat,(∀ (j:Nat) (x:Row),j<i->t[j]?=some x->p x=false)->(∀ x,t[i]?=some x->p x=true)->t.find? p=t[i]?:=by
 induction t with
 | nil=>intro i _ _;simp
 | cons a t ih =>
  intro i h1 h2;rcases i with _|i
  ·simp at h2;simp[h2]
  ·have h0:=h1 0 a (by omega) rfl;rw[Ob,h0];simp only;rw[ih i (fun j x hj hx=>h1 (j+1) x (by omega) (by simpa using hx)) (fun x hx=>h2 x (by simpa using hx))];simp
section
variable {prim:FuncId->Option Prim}(d:Nat) (cfg:Cfg) (h:Heap)
theorem Bw(hp:prim 155=none)(t:List Row)(ht:t.length<=100)(h4:∀ (i j:Nat) (x y:Row),i<j->t[i]?=some x->t[j]?=some y->x.2.1<y.2.1)(r:Int){args:List V}(ha:args.mapM (frzA h)=some [.lst (t.map ea),.int .i32 r]):
  af md (K prim (d+1)) cfg 155 args h=some (.agg (ea (bQ t r)),h):=by
 refine call3 rfl hp Tryz.func155 rfl rfl rfl (args':=[.lst (t.map ea),.int .i32 r]) ha ?_;simp;refine ai (fun m fr H=>∃ (lo hi:Nat),lo<=hi/\hi<=t.length/\m=hi-lo/\(∀ (j:Nat) (x:Row),j<lo->t[j]?=some x->x.2.1<r)/\(∀ (j:Nat) (x:Row),hi<=j->t[j]?=some x->r<=x.2.1)/\H=[some (ea kQ)] /\
  Slots 45 [(0,.lst (t.map ea)),(1,.int .i32 r),(4,.ptr 0 0),(5,.int .i64 lo),(6,.int .i64 hi)] fr) (m:=t.length) (by omega) ⟨0,t.length,by omega,by omega,by omega,fun j x h=>by omega,(fun j x hj hx=>by rw[Lw hj]at hx;cases hx),rfl,by simp⟩ ?_
 rintro m fr H ⟨lo,hi,he,h8,rfl,h6,h7,rfl,hs⟩;obtain⟨j,rfl⟩:=hs.ex;clear hs;by_cases h0:lo<hi
 ·have hm:((lo:Int)+hi).tdiv 2=((lo+hi) / 2:Nat):=by rw[Oi (by omega)];omega
  have h9:(lo+hi) / 2<t.length:=by omega
  obtain⟨x,hx⟩:∃ x,t[(lo+hi) / 2]?=some x:=⟨_,Lc h9⟩;obtain⟨x1,x2,x3,x4,x5,x6,x7⟩:=x;have hm:((lo:Int)+hi).tdiv 2=((lo:Int)+hi) / 2:=Oi (by omega);have hd:(((lo:Int)+hi) / 2).toNat=(lo+hi) / 2:=by omega
  have hf:((lo:Int)+hi) / 2=((lo+hi) / 2:Nat):=by omega
  simp(disch:=omega)[h0,hm,hd,hx,ea,wrap64,-getElem?_pos];by_cases hc:x2<r
  ·simp(disch:=omega)[hc,wrap64];refine ae (m':=hi-((lo+hi) / 2+1)) (by omega) ⟨(lo+hi) / 2+1,hi,by omega,h8,rfl,fun j y hj hy=>?_,h7,rfl,by simp(disch:=omega)⟩;by_cases e:j=(lo+hi) / 2
   ·subst e;rw[hx]at hy;cases hy;exact hc
   ·have:=h4 j _ y _ (by omega) hy hx;simp only at this;omega
  ·simp[hc];refine ae (m':=(lo+hi) / 2-lo) (by omega) ⟨lo,(lo+hi) / 2,by omega,by omega,rfl,h6,fun j y hj hy=>?_,rfl,by simp⟩;by_cases e:j=(lo+hi) / 2
   ·subst e;rw[hx]at hy;cases hy;simp;omega
   ·have:=h4 _ j _ y (by omega) hx hy;simp at this;omega
 ·obtain rfl:lo=hi:=by omega
  have h3:t.find? (fun x=>decide (r<=x.2.1))=t[lo]?:=Fk t _ lo (fun j x hj hx=>by have:=h6 j x hj hx;simp;omega) (fun x hx=>by have:=h7 lo x (Lh _) hx;simpa using this);unfold bQ;rw[h3];by_cases h0:lo<t.length
  ·obtain⟨⟨x1,x2,x3,x4,x5,x6,x7⟩,hx⟩:∃ x,t[lo]?=some x:=⟨_,Lc h0⟩;by_cases hc:x1<=r
   ·simp(disch:=omega)[h0,hx,ea,hc,own,-getElem?_pos]
   ·simp(disch:=omega)[h0,hx,ea,hc,own,kQ,-getElem?_pos]
  ·rw[Lw (by omega)];simp[h0,own,ea,kQ]
end
end Bi
end Go.Ab
namespace Go.Ab
def Stk(h:Heap)(lo k:Nat)(v:V)(cs:List V):Prop:=
 (v=.nils/\cs=[])\/∃ b n cap J,v=.sl b 0 n cap k/\lo<=b/\cs.length=n*k/\ab h b=some (cs++J)/\(cs++J).length=cap*k/\n<=cap
theorem Stk.blk{h:Heap}{lo k:Nat}{v:V}{cs:List V}(ho:Stk h lo k v cs){b:Nat}(hb:cO v=some b):lo<=b/\b<h.length:=by
 rcases ho with⟨rfl,rfl⟩|⟨c,n,cap,J,rfl,h1,_,hc,_⟩
 ·cases hb
 ·cases hb;exact⟨h1,al hc⟩
theorem Stk.of_blk{h h':Heap}{lo k:Nat}{v:V}{cs:List V}(ho:Stk h lo k v cs)(hh:∀ b,cO v=some b->ab h' b=ab h b):Stk h' lo k v cs:=by
 rcases ho with⟨rfl,rfl⟩|⟨c,n,cap,J,rfl,h1,h2,hc,h3,h4⟩
 ·exact .inl ⟨rfl,rfl⟩
 ·exact .inr ⟨c,n,cap,J,rfl,h1,h2,by rw[hh c rfl];exact hc,h3,h4⟩
theorem Stk.push{h:Heap}{lo k:Nat}{v:V}{cs:List V}(ho:Stk h lo k v cs)(x:Heap):Stk (h++x) lo k v cs:=
 ho.of_blk fun _ hb=>aj (ho.blk hb).2
theorem Stk.set{h:Heap}{lo k c:Nat}{v:V}{cs:List V}(ho:Stk h lo k v cs)(hc:cO v≠some c)(x:Option (List V)):Stk (h.set c x) lo k v cs:=
 ho.of_blk fun b hb=>ak (by rintro rfl;exact hc hb)
theorem Stk.leaf{h:Heap}{lo k:Nat}{v:V}{cs:List V}(ho:Stk h lo k v cs):v.leaf=true:=by
 rcases ho with⟨rfl,_⟩|⟨b,n,cap,J,rfl,_⟩<;>rfl
theorem Stk.cells{h:Heap}{lo k:Nat}{v:V}{cs:List V}(ho:Stk h lo k v cs):cellsOf v=some [v]:=by
 rcases ho with⟨rfl,_⟩|⟨b,n,cap,J,rfl,_⟩<;>rfl
theorem Stk.len{P:Program}{t e:TypeId}{h:Heap}{lo k:Nat}{v:V}{cs:List V}(hu:P.underlying t=some (.slice e))(hk:0<k)(ho:Stk h lo k v cs):dy P t v=some (.int .i64 (cs.length / k:Nat)):=by
 rcases ho with⟨rfl,rfl⟩|⟨b,n,cap,J,rfl,_,hn,_⟩
 ·rw[ml hu];simp
 ·rw[gL hu,hn,LI _ hk]
theorem Stk.pos{h:Heap}{lo k:Nat}{v:V}{cs:List V}(ho:Stk h lo k v cs)(hc:cs≠[]):∃ b n cap J,v=.sl b 0 n cap k/\lo<=b/\b<h.length/\cs.length=n*k/\ab h b=some (cs++J)/\(cs++J).length=cap*k/\n<=cap:=by
 rcases ho with⟨rfl,rfl⟩|⟨b,n,cap,J,rfl,h1,h2,h3,h4,h5⟩
 ·exact absurd rfl hc
 ·exact⟨b,n,cap,J,rfl,h1,al h3,h2,h3,h4,h5⟩
theorem Stk.pop{h:Heap}{lo k b n cap m:Nat}{cs cs' r:List V}(ho:Stk h lo k (.sl b 0 n cap k) cs)(hc:cs=cs'++r)(hm:cs'.length=m*k)(hk:0<k):Stk h lo k (.sl b 0 m cap k) cs':=by
 rcases ho with⟨hh,_⟩|⟨b',n',cap',J,hv,h1,h2,h3,h4,h5⟩
 ·cases hh
 ·cases hv;subst hc;refine .inr ⟨b,m,cap,r++J,rfl,h1,hm,by rw[h3,LD],by rw[<- List.append_assoc];exact h4,?_⟩;rw[Lt,hm]at h2;have:m*k<=n*k:=by omega
  have:=Nat.le_of_mul_le_mul_right this hk;omega
@[simp] theorem IW{k:IntKind}{l:List Int}{i:Nat}{x:Int}:isMap ((l.map (V.int k)).set i (.int k x))=false:=by rw[ints_set];exact dN
theorem iz:∀ (new a J:List V),new.length<=J.length->putAt (a++J) a.length new=a++new++J.drop new.length
 | [],a,J,_=>by simp
 | v::r,a,J,h=>by
  rcases J with _|⟨x,J⟩
  ·simp at h
  ·have e:bz (a++x::J) a.length v=(a++[v])++J:=by
    rw[bz,LU _ _ (Lh _)];simp
   have:=iz r (a++[v]) J (by simpa using h);rw[yl,e];simp only[Lt,Lx,Me]at this;rw[this];simp
section
variable {P:Program}{md:FuncId->Nat}{call:aW}{cfg:Cfg}{n:Nat}
theorem kI{dst:Option Tmp}{fr:List V}{ops:Array Oper}{rest:List Oper}{Q:bR}{h:Heap}{d:V}{cs new:List V}{lo k y:Nat}(ho:Stk h lo k d cs)(hh:cfg.lo<=lo)(ha:cfg.thr<=lo)(hH:lo<=h.length)
  (h0:new.length=k) (h7:isMap new=false) (hk:0<k) (h6:(cs.length / k+1)*y<=1099511627776) (hlen:cs.length / k+1<=1099511627776)
  (H:∀ d' h',Stk h' lo k d' (cs++new)->d'.leaf=true->h'.take lo=h.take lo->h.length<=h'.length->(∀ c,cO d≠some c->c<h.length->ab h' c=ab h c)->(cO d'=cO d\/cO d'=some h.length)->@wO P md call cfg ⟨ops⟩ ⟨rest⟩ (put fr dst d') h' ⟨Q⟩):
  @wS P md call cfg ⟨dst⟩ ⟨fr⟩ (fP cfg h k y d 1 new) ⟨ops⟩ ⟨rest⟩ ⟨Q⟩:=by
 rcases ho with⟨rfl,rfl⟩|⟨b,n,cap,J,rfl,h1,h2,h3,h4,h5⟩
 ·simp only[Me,Nat.zero_div,L3]at h6 hlen;rw[jT h6 hlen (by omega),eC];refine H _ _ (.inr ⟨h.length,1,1,[],rfl,hH,by simpa using h0,?_,by simpa using h0,Lh _⟩) rfl ?_ (by simp) (fun c _ hc=>aj hc) (.inr rfl)
  ·simp[h7]
  ·rw[LM hH]
 ·rw[h2,LI _ hk]at h6 hlen;have hd:=al h3;have hw:cfg.wr b=true:=by simp only[Cfg.wr,Md,decide_eq_true_eq];left;omega
  by_cases hc:n+1<=cap
  ·have hr:roomy (n+1) y=true:=by simp[roomy];omega
   have hJ:new.length<=J.length:=by
    simp only[Lt]at h4;have:(n+1)*k<=cap*k:=Nn _ hc;rw[Mc]at this;omega
   have he:aP cfg h b (0+n*k) new=some (h.set b (some (cs++new++J.drop new.length))):=by
    rw[gT,h3];simp only[Mb];rw[L3,<- h2,if_pos,iz _ _ _ hJ];simp only[hw,M3,Lq,decide_eq_true_eq,Md,Lt];exact⟨by omega,.inl (by omega)⟩
   have e:fP cfg h k y (.sl b 0 n cap k) 1 new=some (.sl b 0 (n+1) cap k,h.set b (some (cs++new++J.drop new.length))):=by
    simp only[fP,hr,M3,hc,if_true,he,decide_true]
   rw[e,eC];have hf:isMap (cs++new++J.drop new.length)=false:=by
    have hg:=dP h3;cases cs with
    | nil =>
     cases new with
     | nil=>simp at h0;omega
     | cons x new=>cases x<;>first|rfl|simp[isMap]at h7
    | cons x cs=>cases x<;>first|rfl|simp[isMap]at hg
   refine H _ _ (.inr ⟨b,n+1,cap,J.drop new.length,rfl,h1,?_,?_,?_,hc⟩) rfl ?_ (by simp) (fun c h8 hc=>ak (by rintro rfl;exact h8 rfl)) (.inl rfl)
   ·rw[Lt,h2,h0,Mc,Ov]
   ·rw[du hd,hf];rfl
   ·simp only[Lt,List.length_drop]at h4 ⊢;omega
   ·rw[Mw h1]
  ·have h9:cap=n:=by omega
   subst h9;have hJ:J=[]:=by
    simp only[Lt]at h4;exact L9.1 (by omega)
   subst hJ;rw[Mn]at h3;rw[fU h3 hw h6 hlen (by omega) (by omega),eC,<- h2,LQ];refine H _ _ (.inr ⟨h.length,cap+1,cap+1,[],rfl,hH,?_,?_,?_,Lh _⟩) rfl ?_ (by simp) (fun c h8 hc=>?_) (.inr rfl)
   ·rw[Lt,h2,h0,Mc,Ov]
   ·have:=mi (dP h3) h7;simp[this]
   ·rw[Mn,Lt,h2,h0,Mc,Ov]
   ·rw[LM (by simpa using hH),Mw h1]
   ·rw[aj (by simpa using hc),ak (by rintro rfl;exact h8 rfl)]
end
end Go.Ab
