/- Several texts of this proof in one. -/
import Derived.Test.YtldfgkjmficliaaGreatAbMap
import Derived.Scope
set_option linter.all false
set_option maxHeartbeats 2000000
namespace Go.Ab
inductive Bel (t:Nat):V->Prop where
 | rf {v:V} (h:v.rf=true):Bel t v
 | ptr {b off:Nat} (h:b<t):Bel t (.ptr b off)
 | sl {b off len cap k:Nat} (h:b<t):Bel t (.sl b off len cap k)
 | mref {b:Nat} (h:b<t):Bel t (.mref b)
 | func {fn:Fn} {f c:List V} (h:∀ x∈f,Bel t x) (h':∀ x∈c,Bel t x):Bel t (.func fn f c)
 | agg {cs:List V} (h:∀ x∈cs,Bel t x):Bel t (.agg cs)
 | tup {cs:List V} (h:∀ x∈cs,Bel t x):Bel t (.tup cs)
 | iface {ty:TypeId} {v:V} (h:Bel t v):Bel t (.iface ty v)
def Inv(D:Nat->Prop)(h:Heap)(t:Nat):Prop:=∀ b cs,b<t->D b->h[b]?=some (some cs)->∀ c∈cs,Bel t c
structure HS(cfg:Cfg)(h h':Heap):Prop where
 len:h.length<=h'.length
 prot:∀ b,b<h.length->cfg.wr b=false->h'[b]?=h[b]?
 inv:∀ (D:Nat->Prop) (t:Nat),t<=cfg.thr->t<=h.length->Inv D h t->Inv D h' t
theorem HS.refl(cfg:Cfg)(h:Heap):HS cfg h h:=⟨Lh _,fun _ _ _=>rfl,fun _ _ _ _ hi=>hi⟩
theorem HS.trans{cfg:Cfg}{h h' h0:Heap}(a:HS cfg h h')(b:HS cfg h' h0):HS cfg h h0:=
 ⟨Mv a.len b.len,fun x hx hw=>(b.prot x (LF hx a.len) hw).trans (a.prot x hx hw),fun D t h1 h2 hi=>b.inv D t h1 (Mv h2 a.len) (a.inv D t h1 h2 hi)⟩
theorem HS.push(cfg:Cfg)(h:Heap)(o:Option (List V)):HS cfg h (h++[o]):=
 ⟨by simp,fun b hb _=>Lf hb,fun D t _ h2 hi b cs hb hD hc c h0=>by
  rw[Lf (by omega)]at hc;exact hi b cs hb hD hc c h0⟩
theorem Bs{cs:List V}{off:Nat}{vs:List V}{c:V}(hc:c∈putAt cs off vs):c∈cs\/c∈vs:=by
 induction vs generalizing cs off with
 | nil=>exact .inl hc
 | cons v r ih =>
  rcases ih hc with h|h
  ·rcases Nk h with h|h
   ·exact .inl h
   ·exact .inr (by simp[h])
  ·exact .inr (Lm _ h)
theorem HS.storeCells{cfg:Cfg}{h h':Heap}{b off:Nat}{vs:List V}(hs:aP cfg h b off vs=some h'):HS cfg h h':=by
 unfold aP at hs;split at hs
 ·rename_i cs hb;split at hs
  ·rename_i hc;simp only[Lq,decide_eq_true_eq,Md]at hc;obtain⟨⟨_,hw⟩,h0⟩:=hc;cases hs;refine⟨by simp,fun x _ hx=>?_,fun D t h1 h2 hi x cs' hx hD hc c h4=>?_⟩
   ·have hne:b≠x:=fun e=>by subst e;rw[hw]at hx;cases hx
    rw[Li hne]
   ·by_cases h6:b=x
    ·subst h6;rw[Lo (fw ⟨cs,aB hb⟩)]at hc;cases hc;rcases Bs h4 with h|h
     ·exact hi b cs hx hD (aB hb) c h
     ·rcases h0 with h3|h3
      ·omega
      ·exact .rf (Lp.1 h3 c h)
    ·rw[Li h6]at hc;exact hi x cs' hx hD hc c h4
  ·cases hs
 ·cases hs
theorem HS.kill{cfg:Cfg}{h:Heap}{b:Nat}(hw:cfg.wr b=true)(o:Option (List V)):HS cfg h ((h.set b none)++[o]):=by
 refine⟨by simp,fun x hx h0=>?_,fun D t _ h2 hi x cs hx hD hc c h4=>?_⟩
 ·have hne:b≠x:=fun e=>by subst e;rw[hw]at h0;cases h0
  rw[Lf (by simpa using hx),Li hne]
 ·rw[Lf (by simp;omega)]at hc;by_cases h3:b=x
  ·subst h3;rw[Lo (by omega)]at hc;cases hc
  ·rw[Li h3]at hc;exact hi x cs hx hD hc c h4
theorem HS.store{P:Program}{cfg:Cfg}{h h':Heap}{t:TypeId}{a v:V}(hs:aQ P cfg h t a v=some h'):HS cfg h h':=by
 unfold aQ at hs;split at hs
 ·split at hs
  ·exact HS.storeCells hs
  ·cases hs
 ·cases hs
theorem HS.append{P:Program}{cfg:Cfg}{h h':Heap}{t u:TypeId}{d x y:V}(hy:cb P cfg h t u d x=some (y,h')):HS cfg h h':=by
 unfold cb at hy;split at hy
 ·split at hy
  ·split at hy
   ·split at hy
    ·split at hy
     ·split at hy
      ·split at hy
       ·cases hy;exact .refl _ _
       ·cases hy;exact .push _ _ _
      ·cases hy
     ·split at hy
      ·split at hy
       ·split at hy
        ·rename_i h2 h0;simp only[Ll,LL]at hy;obtain⟨_,rfl⟩:=hy;exact HS.storeCells h0
        ·cases hy
       ·split at hy
        ·split at hy
         ·rename_i hc;simp only[Lq,decide_eq_true_eq]at hc;simp only[Ll,LL]at hy;obtain⟨_,rfl⟩:=hy;exact HS.kill hc.1.2 _
         ·cases hy
        ·cases hy
      ·cases hy
     ·cases hy
    ·cases hy
   ·cases hy
  ·cases hy
 ·cases hy
theorem HS.clear{P:Program}{cfg:Cfg}{h h':Heap}{t:TypeId}{x:V}(hy:iP P cfg h t x=some h'):HS cfg h h':=by
 unfold iP at hy;split at hy
 ·cases hy;exact .refl _ _
 ·cases hy;exact .refl _ _
 ·split at hy
  ·cases hy;exact .refl _ _
  ·split at hy
   ·split at hy
    ·exact HS.storeCells hy
    ·cases hy
   ·cases hy
 ·cases hy
theorem HS.makeSlice{P:Program}{cfg:Cfg}{h h':Heap}{t:TypeId}{l c y:V}(hy:cE P h t l c=some (y,h')):HS cfg h h':=by
 unfold cE at hy;split at hy
 ·split at hy
  ·split at hy
   ·cases hy;exact .push _ _ _
   ·cases hy
  ·cases hy
 ·cases hy
theorem HS.buildSlice{P:Program}{cfg:Cfg}{h h':Heap}{t:TypeId}{n:Nat}{vs:List V}{y:V}(hy:aI P h t n vs=some (y,h')):HS cfg h h':=by
 unfold aI at hy;split at hy
 ·split at hy
  ·split at hy
   ·split at hy
    ·cases hy;exact .push _ _ _
    ·cases hy
   ·cases hy
  ·cases hy
 ·cases hy
theorem HS.makeMap{P:Program}{cfg:Cfg}{h h':Heap}{t:TypeId}{y:V}(hy:dQ P h t=some (y,h')):HS cfg h h':=by
 unfold dQ at hy;split at hy
 ·cases hy;exact .push _ _ _
 ·split at hy
  ·cases hy;exact .push _ _ _
  ·cases hy
theorem HS.setMap{cfg:Cfg}{h:Heap}{b:Nat}{k e:IntKind}{l l':List (Int×Int)}(hb:h[b]?=some (some [.mp k e l]))(hw:cfg.wr b=true):HS cfg h (h.set b (some [.mp k e l'])):=by
 refine⟨by simp,fun c hc h3=>?_,fun D t h1 h2 hi c cs hc hD h0 x hx=>?_⟩
 ·rw[Li];rintro rfl;rw[hw]at h3;cases h3
 ·by_cases h4:b=c
  ·subst h4;rw[Lo (Ld.1 hb).1]at h0;cases h0;rw[LP.1 hx];exact .rf rfl
  ·rw[Li h4]at h0;exact hi c cs hc hD h0 x hx
theorem HS.setMapS{cfg:Cfg}{h:Heap}{b:Nat}{l l':List (List V)}(hb:h[b]?=some (some [.mq l]))(hw:cfg.wr b=true):HS cfg h (h.set b (some [.mq l'])):=by
 refine⟨by simp,fun c hc h3=>?_,fun D t h1 h2 hi c cs hc hD h0 x hx=>?_⟩
 ·rw[Li];rintro rfl;rw[hw]at h3;cases h3
 ·by_cases h4:b=c
  ·subst h4;rw[Lo (Ld.1 hb).1]at h0;cases h0;rw[LP.1 hx];exact .rf rfl
  ·rw[Li h4]at h0;exact hi c cs hc hD h0 x hx
theorem HS.mapUpdateS{P:Program}{cfg:Cfg}{h h':Heap}{t:TypeId}{a b c:V}(hy:mapUpdateS P cfg h t a b c=some h'):HS cfg h h':=by
 unfold Go.Ab.mapUpdateS at hy;split at hy
 ·split at hy
  ·rename_i h0;split at hy
   ·rename_i hc;simp only[Lq,decide_eq_true_eq]at hc;split at hy
    ·cases hy;exact .setMapS (gy h0) hc.2
    ·cases hy
   ·cases hy
  ·cases hy
 ·cases hy
theorem HS.mapUpdate{P:Program}{cfg:Cfg}{h h':Heap}{t:TypeId}{a b c:V}(hy:cF P cfg h t a b c=some h'):HS cfg h h':=by
 unfold cF at hy;split at hy
 ·split at hy
  ·rename_i h0;split at hy
   ·rename_i hc;simp only[Lq,decide_eq_true_eq]at hc;obtain⟨⟨⟨⟨rfl,rfl⟩,rfl⟩,rfl⟩,hw⟩:=hc;cases hy;exact .setMap (gO h0) hw
   ·cases hy
  ·cases hy
 ·exact .mapUpdateS hy
 ·cases hy
theorem HS.conv{P:Program}{cfg:Cfg}{h h':Heap}{s d:TypeId}{x y:V}(hy:fB P h s d x=some (y,h')):HS cfg h h':=by
 unfold fB at hy;split at hy
 ·split at hy
  ·split at hy
   ·split at hy
    ·cases hy;exact .refl _ _
    ·cases hy
   ·cases hy
  ·split at hy
   ·split at hy
    ·cases hy;exact .refl _ _
    ·cases hy
   ·cases hy
  ·cases hy
 ·split at hy
  ·cases hy;exact .refl _ _
  ·cases hy
 ·split at hy
  ·cases hy;exact .refl _ _
  ·cases hy
 ·split at hy
  ·split at hy
   ·cases hy;exact .push _ _ _
   ·cases hy
  ·cases hy
 ·cases hy
section
variable {P:Program}{m:Mu}{h:Heap}{w:World}
def ExecOK(P:Program)(o:Oper)(a:Act)(m:Mu)(h:Heap)(w:World)(x:V)(h':Heap):Prop:=
 ∃ nx v w',(execOp a.eval o).run P w=.ok nx w'/\(nx=.value v\/(nx=.skip/\v=undef))/\Out m h w x h' v w'
theorem ExecOK.value{o:Oper}{a:Act}{x:V}{h':Heap}{v:Value}{w':World}{s:Sem Value}(he:execOp a.eval o=(do pure (.value (<- s))))(hs:s.run P w=.ok v w')(h0:Out m h w x h' v w'):ExecOK P o a m h w x h':=
 ⟨.value v,v,w',by rw[he];simp[hs],.inl rfl,h0⟩
theorem ExecOK.value'{o:Oper}{a:Act}{x:V}{h':Heap}{s:Sem Value}(he:execOp a.eval o=(do pure (.value (<- s))))(hs:∃ v w',s.run P w=.ok v w'/\Out m h w x h' v w'):ExecOK P o a m h w x h':=
 let ⟨_,_,h1,h2⟩:=hs
 .value he h1 h2
theorem ExecOK.same{o:Oper}{a:Act}{x:V}{s:Sem Value}(r:Rel m h w)(he:execOp a.eval o=(do pure (.value (<- s))))(hs:∃ v,s.run P w=.ok v w/\R m h w x v):ExecOK P o a m h w x h:=
 let ⟨_,h1,h2⟩:=hs
 .value he h1 (.same r h2)
theorem aF{α:Type}{e:Option V}{h h':α}{x:V}(hx:e.map (·,h)=some (x,h')):e=some x/\h'=h:=by
 simp only[LG,LL]at hx;obtain⟨y,h1,rfl,rfl⟩:=hx;exact⟨h1,rfl⟩
theorem Jt(r:Rel m h w){fr:List V}{a:Act}(f:FR m h w fr a){cfg:Cfg}{o:Oper}{op:Op}{x:V}{h':Heap}(h0:o.op=op)(hx:opV P cfg fr h op=some (x,h')):
  ExecOK P o a m h w x h'/\HS cfg h h':=by
 unfold opV at hx;split at hx
 case _ y => -- move
  obtain⟨h1,rfl⟩:=aF hx;exact⟨⟨.value (a.eval y),_,w,by simp only[execOp,h0,Sem.run_pure],.inl rfl,.same r (dc f h1)⟩,.refl _ _⟩
 case _ y => -- assign
  obtain⟨h1,rfl⟩:=aF hx;exact⟨⟨.value (a.eval y),_,w,by simp only[execOp,h0,Sem.run_pure],.inl rfl,.same r (dc f h1)⟩,.refl _ _⟩
 case _ c y z => -- pick
  split at hx
  ·rename_i hc;have h8:=dc f hc;generalize he:a.eval c=ce at h8;cases h8;obtain⟨h1,rfl⟩:=aF hx;exact⟨⟨.value (a.eval y),_,w,by simp only[execOp,h0,he,asBool,Sem.run_bind,Sem.run_pure,Result.andThen_ok,if_true],.inl rfl,.same r (dc f h1)⟩,.refl _ _⟩
  ·rename_i hc;have h8:=dc f hc;generalize he:a.eval c=ce at h8;cases h8;obtain⟨h1,rfl⟩:=aF hx;exact⟨⟨.value (a.eval z),_,w,by simp only[execOp,h0,he,asBool,Sem.run_bind,Sem.run_pure,Result.andThen_ok,LH,if_false],.inl rfl,.same r (dc f h1)⟩,.refl _ _⟩
  ·cases hx
 case _ t => -- alloc
  split at hx
  ·rename_i z hz;cases hx;exact⟨.value' (s:=Instr.alloc t true (.tuple #[])) (by simp only[execOp,h0]) (B2 r hz),.push _ _ _⟩
  ·cases hx
 case _ t y => -- box
  split at hx
  ·rename_i v hv;split at hx
   ·rename_i cs hf;cases hx;exact⟨.value' (s:=Instr.box t (a.eval y)) (by simp only[execOp,h0]) (HX r (dc f hv) hf),.push _ _ _⟩
   ·cases hx
  ·cases hx
 case _ t ps => -- build
  split at hx
  ·rename_i vs h9;obtain⟨h1,rfl⟩:=aF hx;obtain⟨hl,hr⟩:=sa f h9;obtain⟨v,hv,hn⟩:=Cf (P:=P) hl hr h1;refine⟨.value (s:=Instr.build t (ps.map fun (i,x)=>(i,a.eval x))) (by simp only[execOp,h0]) ?_ (.same r hn),.refl _ _⟩;rw[<- hv];congr 2;apply MZ;simp
  ·cases hx
 case _ t n ps => -- buildSlice
  split at hx
  ·rename_i vs h9;exact⟨.value' (s:=Instr.buildSlice t n (ps.map fun (i,x)=>(i,a.eval x))) (by simp only[execOp,h0]) (rB r f h9 hx),.buildSlice hx⟩
  ·cases hx
 case _ t p => -- load
  split at hx
  ·rename_i v hv;obtain⟨h1,rfl⟩:=aF hx;exact⟨.same r (s:=Instr.loadAt t (a.eval p)) (by simp only[execOp,h0]) (zH r (dc f hv) h1),.refl _ _⟩
  ·cases hx
 case _ t p y => -- store
  split at hx
  ·rename_i pv v hp hv;split at hx
   ·rename_i h2 ha;simp only[Ll,LL]at hx;obtain⟨rfl,rfl⟩:=hx;obtain⟨w',h7,e,r'⟩:=Ec (P:=P) r (dc f hp) (dc f hv) ha;exact⟨⟨.skip,undef,w',by simp only[execOp,h0,Sem.run_bind,h7,Result.andThen_ok,Sem.run_pure],.inr ⟨rfl,rfl⟩,m,e,r',.no⟩,.store ha⟩
   ·cases hx
  ·cases hx
 case _ y => -- nilCheck
  split at hx
  ·rename_i v hv;obtain⟨h1,rfl⟩:=aF hx;have hr:=dc f hv;obtain⟨rfl,h2⟩:=vU hr h1;refine⟨⟨.value (a.eval y),_,w,?_,.inl rfl,.same r hr⟩,.refl _ _⟩;rcases h2 with⟨ad,h2⟩|⟨g,b,c,h2⟩
   ·simp only[execOp,h0,h2,Sem.run_pure]
   ·simp only[execOp,h0,h2,Sem.run_pure]
  ·cases hx
 case _ op t y z _ => -- binOp
  split at hx
  ·rename_i b c hb hc;obtain⟨h1,rfl⟩:=aF hx;exact⟨.same r (s:=do eqGuard op t y z (a.eval y) (a.eval z);binOp op t (a.eval y) (a.eval z)) (by simp only[execOp,h0]) (xq (dc f hb) (dc f hc) h1),.refl _ _⟩
  ·cases hx
 case _ op t y => -- unOp
  split at hx
  ·rename_i b hb;obtain⟨h1,rfl⟩:=aF hx;exact⟨.same r (s:=Op.unary op (a.eval y)) (by simp only[execOp,h0]) (Ej (dc f hb) h1),.refl _ _⟩
  ·cases hx
 case _ s d y => -- convert
  split at hx
  ·rename_i b hb;exact⟨.value' (s:=convert s d (a.eval y)) (by simp only[execOp,h0]) (Fb r (dc f hb) hx),.conv hx⟩
  ·cases hx
 case _ fn f' c => -- makeFunc
  split at hx
  ·rename_i fs cs hu hf;cases hx;obtain⟨l1,r1⟩:=gJ f hu;obtain⟨l2,r2⟩:=gJ f hf;refine⟨.same r (s:=Instr.makeFunc fn (f'.map a.eval) (c.map a.eval)) (by simp only[execOp,h0]) ⟨.func fn (f'.map a.eval) (c.map a.eval),by simp[Instr.makeFunc],.func (by simpa using l1) (fun i x v hx hv=>r1 i x v hx ?_) (by simpa using l2) (fun i x v hx hv=>r2 i x v hx ?_)⟩,.refl _ _⟩
   ·simpa using hv
   ·simpa using hv
  ·cases hx
 case _ t l c => -- makeSlice
  split at hx
  ·rename_i b d hb hd;exact⟨.value' (s:=Instr.makeSlice t (a.eval l) (a.eval c)) (by simp only[execOp,h0]) (tK r (dc f hb) (dc f hd) hx),.makeSlice hx⟩
  ·cases hx
 case _ t y lo hi => -- slice
  split at hx
  ·rename_i b hb;obtain⟨h1,rfl⟩:=aF hx;refine⟨.same r (s:=Instr.sliceAt t (a.eval y) (lo.map a.eval) (hi.map a.eval) none) (by simp only[execOp,h0,Nl]) (D5 r (dc f hb) ?_ ?_ ?_ ?_ h1),.refl _ _⟩
   ·intro x v hx hv;cases lo with
    | none=>simp at hx
    | some o=>simp at hx hv;subst hv;exact dc f hx
   ·intro x v hx hv;cases hi with
    | none=>simp at hx
    | some o=>simp at hx hv;subst hv;exact dc f hx
   ·simp
   ·simp
  ·cases hx
 case _ s y g => -- fieldAddr
  split at hx
  ·rename_i b hb;obtain⟨h1,rfl⟩:=aF hx;exact⟨.same r (s:=Instr.fieldAt s (a.eval y) g) (by simp only[execOp,h0]) (tp (dc f hb) h1),.refl _ _⟩
  ·cases hx
 case _ s y g => -- field
  split at hx
  ·rename_i b hb;obtain⟨h1,rfl⟩:=aF hx;exact⟨.same r (s:=Instr.field s (a.eval y) g) (by simp only[execOp,h0]) (CF (dc f hb) h1),.refl _ _⟩
  ·cases hx
 case _ s y g => -- indexAddr
  split at hx
  ·rename_i b c hb hc;obtain⟨h1,rfl⟩:=aF hx;exact⟨.same r (s:=Instr.indexAt s (a.eval y) (a.eval g)) (by simp only[execOp,h0]) (tE (dc f hb) (dc f hc) h1),.refl _ _⟩
  ·cases hx
 case _ s y g => -- index
  split at hx
  ·rename_i b c hb hc;obtain⟨h1,rfl⟩:=aF hx;exact⟨.same r (s:=Instr.index s (a.eval y) (a.eval g)) (by simp only[execOp,h0]) (C4 (dc f hb) (dc f hc) h1),.refl _ _⟩
  ·cases hx
 case _ y i => -- extract
  split at hx
  ·rename_i b hb;obtain⟨h1,rfl⟩:=aF hx;exact⟨.same r (s:=Instr.extract (a.eval y) i) (by simp only[execOp,h0]) (xH (dc f hb) h1),.refl _ _⟩
  ·cases hx
 case _ t => -- makeMap
  exact⟨.value' (s:=Instr.makeMap t none) (by simp only[execOp,h0,Nl]) (xV r hx),.makeMap hx⟩
 case _ t p q y => -- mapUpdate
  split at hx
  ·rename_i pv qv yv hp hq hv;split at hx
   ·rename_i h2 ha;simp only[Ll,LL]at hx;obtain⟨rfl,rfl⟩:=hx;obtain⟨w',h7,e,r'⟩:=tL (P:=P) r (dc f hp) (dc f hq) (dc f hv) ha;exact⟨⟨.skip,undef,w',by simp only[execOp,h0,Sem.run_bind,h7,Result.andThen_ok,Sem.run_pure],.inr ⟨rfl,rfl⟩,m,e,r',.no⟩,.mapUpdate ha⟩
   ·cases hx
  ·cases hx
 case _ t p q ok => -- lookup
  split at hx
  ·rename_i pv qv hp hq;obtain⟨h1,rfl⟩:=aF hx;exact⟨.same r (s:=Instr.lookup t (a.eval p) (a.eval q) ok) (by simp only[execOp,h0]) (Be r (dc f hp) (dc f hq) h1),.refl _ _⟩
  ·cases hx
 case _ b args tys => -- builtins
  split at hx
  ·cases hx
  ·rename_i vs h9;obtain⟨hl,hr⟩:=gJ f h9;have hg:∀ (d:Sem Next),(execOp a.eval o)=(do let d <- resolve a.eval { callee:=.builtin b,args:=args,argTypes:=tys } o.type;invoke d.target d.args):=fun _=>by simp only[execOp,h0]
   have hex:(execOp a.eval o)=builtin b tys o.type (args.map fun|.const _=>true|_=>false) (args.map a.eval):=by
    rw[hg (pure .skip)];rfl
   split at hx
   ·rename_i t y h4;obtain⟨h1,rfl⟩:=aF hx;have ht:tys=#[t]:=by apply MZ;simpa using h4
    have h3:∃ v,args.map a.eval=#[v]/\R m h' w y v:=by
     have h2:(args.toList.map a.eval).length=1:=by simpa using hl
     match hm:args.toList.map a.eval,h2 with
     | [v],_=>exact⟨v,by apply MZ;simpa using hm,hr 0 y v rfl (by rw[hm];rfl)⟩
    obtain⟨v,hv,h6⟩:=h3;exact⟨.same r (s:=Builtin.len_ #[t] o.type #[v]) (by rw[hex,ht,hv];rfl) (I6 h6 h1),.refl _ _⟩
   ·rename_i t u d y h4;have ht:tys=#[t,u]:=by apply MZ;simpa using h4
    have h3:∃ v v',args.map a.eval=#[v,v']/\R m h w d v/\R m h w y v':=by
     have h2:(args.toList.map a.eval).length=2:=by simpa using hl
     match hm:args.toList.map a.eval,h2 with
     | [v,v'],_=>exact⟨v,v',by apply MZ;simpa using hm,hr 0 d v rfl (by rw[hm];rfl),hr 1 y v' rfl (by rw[hm];rfl)⟩
    obtain⟨v,v',hv,h6,hh⟩:=h3;obtain⟨rfl,hw⟩:=Ax (P:=P) (ty:=o.type) r h6 hh hx;exact⟨.value' (s:=Builtin.append_ #[t,t] o.type #[v,v']) (by rw[hex,ht,hv];rfl) hw,.append hx⟩
   ·obtain⟨h1,rfl⟩:=aF hx;obtain⟨v,hv,h6⟩:=xZ (P:=P) (ts:=tys) (ty:=o.type) (by simpa using hl) hr h1;refine⟨.same r (s:=Builtin.min_ tys o.type (args.map a.eval)) (by rw[hex];rfl) ⟨v,?_,h6⟩,.refl _ _⟩;rw[<- hv];congr 2;apply MZ;simp
   ·obtain⟨h1,rfl⟩:=aF hx;obtain⟨v,hv,h6⟩:=xX (P:=P) (ts:=tys) (ty:=o.type) (by simpa using hl) hr h1;refine⟨.same r (s:=Builtin.max_ tys o.type (args.map a.eval)) (by rw[hex];rfl) ⟨v,?_,h6⟩,.refl _ _⟩;rw[<- hv];congr 2;apply MZ;simp
   ·rename_i t y h4;have ht:tys=#[t]:=by apply MZ;simpa using h4
    have h3:∃ v,args.map a.eval=#[v]/\R m h w y v:=by
     have h2:(args.toList.map a.eval).length=1:=by simpa using hl
     match hm:args.toList.map a.eval,h2 with
     | [v],_=>exact⟨v,by apply MZ;simpa using hm,hr 0 y v rfl (by rw[hm];rfl)⟩
    obtain⟨v,hv,h6⟩:=h3;split at hx
    ·rename_i h2 hj;simp only[Ll,LL]at hx;obtain⟨rfl,rfl⟩:=hx;exact⟨.value' (s:=Builtin.clear_ #[t] o.type #[v]) (by rw[hex,ht,hv];rfl) (Co r h6 hj),.clear hj⟩
    ·cases hx
   ·cases hx
 case _=>cases hx
end
end Go.Ab
namespace Go.Ab
section
variable {P:Program}{m:Mu}{h:Heap}{w:World}
theorem R.bel{x:V}{v:Value}(hr:R m h w x v):Bel h.length x:=by
 induction hr with
 | ptr h0 _=>exact .ptr h0
 | sl h0 _ _ _=>exact .sl h0
 | agg hl _ ih =>
  refine .agg fun c hc=>?_;obtain⟨i,hi,rfl⟩:=Ma hc;exact ih i _ _ (Lc hi) (Lr (by omega))
 | tup hl _ ih =>
  refine .tup fun c hc=>?_;obtain⟨i,hi,rfl⟩:=Ma hc;exact ih i _ _ (Lc hi) (Lr (by omega))
 | func hl _ h3 _ ih ih' =>
  refine .func (fun c hc=>?_) (fun c hc=>?_)
  ·obtain⟨i,hi,rfl⟩:=Ma hc;exact ih i _ _ (Lc hi) (Lr (by omega))
  ·obtain⟨i,hi,rfl⟩:=Ma hc;exact ih' i _ _ (Lc hi) (Lr (by omega))
 | iface _ ih=>exact .iface ih
 | mref h0 _=>exact .mref h0
 | _=>exact .rf rfl
theorem BR.bel{cs:List V}{b:Nat}(hb:BR m h w cs b){c:V}(hc:c∈cs):Bel h.length c:=by
 rcases hb with⟨arr,T,ha,hl,hr⟩|⟨k,e,l,es,clock,rfl,_,_⟩|⟨l,es,clock,rfl,_,_⟩
 ·obtain⟨i,hi,rfl⟩:=Ma hc;obtain⟨v,_,hv⟩:=hr i _ (Lc hi);exact hv.bel
 ·rw[LP.1 hc];exact .rf rfl
 ·rw[LP.1 hc];exact .rf rfl
theorem bm{h:Heap}{n x:Nat}(hl:live (h.take n) x):x<n/\live h x:=by
 obtain⟨cs,hc⟩:=hl;rw[LN]at hc;split at hc
 ·rename_i hx;exact⟨hx,cs,hc⟩
 ·cases hc
theorem Imm.take{n b:Nat}(hi:Imm m h w b):Imm m (h.take n) w b:=⟨hi.1,hi.2.1,fun x hx=>hi.2.2 x (bm hx).2⟩
theorem R.take{n:Nat}(hn:n<=h.length){x:V}{v:Value}(hr:R m h w x v)(hb:Bel n x):R m (h.take n) w x v:=by
 have hlen:(h.take n).length=n:=by simp;omega
 induction hr with
 | any v=>exact .any v
 | no=>exact .no
 | bool b=>exact .bool b
 | int k n=>exact .int k n
 | str s=>exact .str s
 | nilp=>exact .nilp
 | ptr h4 hv =>
  cases hb with
  | rf h=>simp[V.rf]at h
  | ptr h0=>exact .ptr (by omega) fun hl=>hv (bm hl).2
 | lptr rv hi hc hf _ ih=>exact .lptr rv hi.take hc hf fun i c h6=>ih i c h6 (.rf (hf i c h6))
 | nils=>exact .nils
 | sl h4 h3 hlen hv =>
  cases hb with
  | rf h=>simp[V.rf]at h
  | sl h0=>exact .sl (by omega) h3 hlen fun hl=>hv (bm hl).2
 | lst0 a rc ha=>exact .lst0 a rc ha
 | lst rv hi h7 hk hc hf _ ih=>exact .lst rv hi.take h7 hk hc hf fun i e j c he hj=>ih i e j c he hj (.rf (hf i e j c he hj))
 | agg hl _ ih =>
  cases hb with
  | rf h=>simp[V.rf]at h
  | agg h=>exact .agg hl fun i c v hc hv=>ih i c v hc hv (h c (Le hc))
 | tup hl _ ih =>
  cases hb with
  | rf h=>simp[V.rf]at h
  | tup h=>exact .tup hl fun i c v hc hv=>ih i c v hc hv (h c (Le hc))
 | func hl _ h8 _ ih ih' =>
  cases hb with
  | rf h=>simp[V.rf]at h
  | func h h'=>exact .func hl (fun i c v hc hv=>ih i c v hc hv (h c (Le hc))) h8 (fun i c v hc hv=>ih' i c v hc hv (h' c (Le hc)))
 | nilf=>exact .nilf
 | nili=>exact .nili
 | nilm=>exact .nilm
 | iface _ ih =>
  cases hb with
  | rf h=>simp[V.rf]at h
  | iface h=>exact .iface (ih h)
 | mref h4 hv =>
  cases hb with
  | rf h=>simp[V.rf]at h
  | mref h0=>exact .mref (by omega) fun hl=>hv (bm hl).2
theorem mapM_some{f:V->Option V}:∀ {xs ys:List V},xs.mapM f=some ys->xs.length=ys.length/\∀ (i:Nat) (y:V),ys[i]?=some y->∃ x,xs[i]?=some x/\f x=some y
 | [],ys,hx=>by simp at hx;subst hx;simp
 | x::xs,ys,hx=>by
  simp only[MC,NK,NT,Oa]at hx;obtain⟨y,h1,ys',h2,h3⟩:=hx;cases h3;obtain⟨hl,ih⟩:=mapM_some h2;refine⟨by simp[hl],fun i z hz=>?_⟩;cases i with
  | zero=>simp at hz;subst hz;exact⟨x,rfl,h1⟩
  | succ i=>simpa using ih i z (by simpa using hz)
theorem iO(k:Nat):∀ (n:Nat) (cs:List V),(chunk k n cs).length=n
 | 0,_=>rfl
 | n+1,cs=>by simp[chunk,iO k n]
theorem gZ(k:Nat):∀ (n:Nat) (cs:List V) (i:Nat) (e:List V),n*k<=cs.length->(chunk k n cs)[i]?=some e->e.length=k/\i<n/\∀ (j:Nat) (c:V),e[j]?=some c->cs[i*k+j]?=some c
 | 0,cs,i,e,_,he=>by simp[chunk]at he
 | n+1,cs,i,e,hl,he=>by
  have hm:(n+1)*k=n*k+k:=by rw[Mc,Ov]
  cases i with
  | zero =>
   simp[chunk]at he;subst he;refine⟨by simp;omega,by omega,fun j c hj=>?_⟩;rw[LN]at hj;split at hj
   ·simpa using hj
   ·cases hj
  | succ i =>
   simp only[chunk,LV]at he;obtain⟨h1,h2,h3⟩:=gZ k n (cs.drop k) i e (by simp;omega) he;refine⟨h1,by omega,fun j c hj=>?_⟩;have:=h3 j c hj;rw[Mh]at this;rw[show (i+1)*k+j=k+(i*k+j) by rw[Mc];omega];exact this
theorem ny(r:Rel m h w){n:Nat}(hn:n<=h.length):∀ (d:Nat) {x y:V}{v:Value},R m h w x v->frz h n d x=some y->R m (h.take n) w y v
 | 0,x,y,v,_,hf=>by simp[frz]at hf
 | d+1,x,y,v,hr,hf=>by
  have hlen:(h.take n).length=n:=by simp;omega
  simp only[frz]at hf;split at hf
  ·rename_i b off len cap k;split at hf
   ·rename_i hb;cases hf;exact hr.take hn (.sl hb)
   ·rename_i hb;split at hf
    ·rename_i cs ht;split at hf
     ·rename_i hle;split at hf
      ·rename_i cs' h8;split at hf
       ·rename_i hI;cases hf;obtain⟨b',rc,arr,T,hv,rfl,hJ,hK,hO,ha,hP,hL⟩:=hr.sl_at r ht;obtain⟨hw,h9⟩:=mapM_some h8;have hF:cs'.length=len*k:=by rw[<- hw];simp;omega
        have hd:∀ (q:Nat) (c:V),cs'[q]?=some c->∃ u,w.cell? ⟨b',off+q,none⟩=some u/\R m (h.take n) w c u:=by
         intro q c hq;obtain⟨c0,hg,hh⟩:=h9 q c hq;obtain⟨u,hu,hy⟩:=(hL.drop_take off (len*k)) q c0 hg;rw[L3]at hu;exact⟨u,hu,ny r hn d hy hh⟩
        by_cases h0:len=0
        ·subst h0;exact .lst0 _ _ (fun h=>by cases h)
        ·have hA:Imm m (h.take n) w b':=by
          refine⟨r.lt b b' ⟨cs,aB ht⟩ hv,r.zo b b' ⟨cs,aB ht⟩ hv,fun z hz hM=>?_⟩;obtain⟨hQ,hN⟩:=bm hz;have:=r.inj z b b' hN ⟨cs,aB ht⟩ hM hv;omega
         have hD:(chunk k len cs').length=len:=iO _ _ _;let rv:Nat->Nat->Value:=fun i j=>((w.cell? ⟨b',off+(i*k+j),none⟩).getD undef)
         have hE:∀ (i:Nat) (e:List V) (j:Nat) (c:V),(chunk k len cs')[i]?=some e->e[j]?=some c->w.cell? ⟨b',off+i*k+j,none⟩=some (rv i j)/\R m (h.take n) w c (rv i j)/\c.rf=true:=by
          intro i e j c he hj;obtain⟨_,_,h3⟩:=gZ k len cs' i e (by omega) he;have hq:=h3 j c hj;obtain⟨u,hu,hy⟩:=hd _ c hq;have hH:rv i j=u:=by simp[rv,hu]
          refine⟨by rw[hH,NM];exact hu,by rw[hH];exact hy,Lp.1 hI c (Le hq)⟩
         have:=R.lst (m:=m) (h:=h.take n) (w:=w) (xs:=chunk k len cs') (b:=b') (o:=off) (k:=k) (rc:=rc) rv hA (by omega)
          (fun i e he=>(gZ k len cs' i e (by omega) he).1) (fun i e j c he hj=>(hE i e j c he hj).1) (fun i e j c he hj=>(hE i e j c he hj).2.2) (fun i e j c he hj=>(hE i e j c he hj).2.1)
         rwa [hD]at this
       ·cases hf
      ·cases hf
     ·cases hf
    ·cases hf
  ·rename_i b off;split at hf
   ·rename_i hb;cases hf;exact hr.take hn (.ptr hb)
   ·cases hf
  ·rename_i b;split at hf
   ·rename_i hb;cases hf;exact hr.take hn (.mref hb)
   ·cases hf
  ·cases hf;cases hr;exact .lst0 _ _ (fun _=>rfl)
  ·rename_i cs;split at hf
   ·rename_i cs' h8;cases hf;obtain⟨hw,h9⟩:=mapM_some h8;cases hr with
    | agg hl hr =>
     refine .agg (by omega) fun i c u hc hu=>?_;obtain⟨c0,hg,hh⟩:=h9 i c hc;exact ny r hn d (hr i c0 u hg hu) hh
   ·cases hf
  ·rename_i cs;split at hf
   ·rename_i cs' h8;cases hf;obtain⟨hw,h9⟩:=mapM_some h8;cases hr with
    | tup hl hr =>
     refine .tup (by omega) fun i c u hc hu=>?_;obtain⟨c0,hg,hh⟩:=h9 i c hc;exact ny r hn d (hr i c0 u hg hu) hh
   ·cases hf
  ·cases hf;exact hr.take hn (.func (by simp) (by simp))
  ·cases hf
  ·cases hf
  ·rename_i h1 h2 hm hR h3 h4 h5 h6 h7;cases hf;refine hr.take hn (.rf ?_);cases x<;>first|rfl|(exact absurd rfl (h1 _ _ _ _ _))|(exact absurd rfl (h2 _ _))|(exact absurd rfl (hm _))|(exact absurd rfl (h3 _))|(exact absurd rfl (h4 _))|(exact absurd rfl (h6 _ _ _))|(exact absurd rfl (h7 _ _))
def cZ(P:Program)(call:aW):Prop:=∀ cfg f args h r h',call cfg f args h=some (r,h')->HS cfg h h'/\(∃ fn,P.funcs[f]?=some fn/\fn.body.isNone=false) /\
 ∀ m w vs,Rel m h w->PW m h w args vs->Calls P f vs w fun e w'=>∃ v,e=.returned v/\Out m h w r h' v w'
theorem Inv.of_rel(r:Rel m h w):Inv (fun x=>∃ b,m x=some b) h h.length:=by
 rintro x cs hx ⟨b,hb⟩ hc c h0;rcases r.blk x cs b hc hb with⟨arr,T,ha,hl,hr⟩|⟨k,e,l,es,clock,rfl,_,_⟩|⟨l,es,clock,rfl,_,_⟩
 ·obtain⟨i,hi,rfl⟩:=Ma h0;obtain⟨v,_,hv⟩:=hr i _ (Lc hi);exact hv.bel
 ·rw[LP.1 h0];exact .rf rfl
 ·rw[LP.1 h0];exact .rf rfl
theorem Out.cut{x y:V}{h':Heap}{v:Value}{w':World}{cfg:Cfg}(r:Rel m h w)(hs:HS cfg h h')(h3:h.length<=cfg.thr)(ho:Out m h w x h' v w')(hf:frz h' h.length 6 x=some y):
  Out m h w y (h'.take h.length) v w':=by
 obtain⟨m',e,r',hr⟩:=ho;have hlen:(h'.take h.length).length=h.length:=by have:=hs.len;simp;omega
 have hinv:=hs.inv _ _ h3 (Lh _) (Inv.of_rel r);refine⟨m',⟨e.zeq,by omega,fun x hx hl=>e.keep x hx (bm hl).2,fun x b hl hb=>e.own x b (bm hl).2 hb,e.frame,e.size,e.rs,e.os,e.tape,e.output⟩,
  ⟨fun x b hl hb=>r'.zo x b (bm hl).2 hb,r'.zl,fun x y b hx hy=>r'.inj x y b (bm hx).2 (bm hy).2,fun x cs b hx hb=>?_⟩,ny r' hs.len 6 hr hf⟩
 have h0:x<h.length/\h'[x]?=some (some cs):=by
  rw[LN]at hx;split at hx
  ·rename_i h1;exact⟨h1,hx⟩
  ·cases hx
 have hk:=e.keep x h0.1 ⟨cs,h0.2⟩;exact (r'.blk x cs b h0.2 hb).carry rfl fun c u h4 h6=>h6.take hs.len (hinv x cs h0.1 ⟨b,hk.2 ▸ hb⟩ h0.2 c h4)
theorem HS.cut{cfg cfg':Cfg}{h':Heap}(hs:HS cfg' h h')(h0:h.length<=cfg'.thr)(hw:∀ b,b<h.length->cfg.wr b=false->cfg'.wr b=false):HS cfg h (h'.take h.length):=by
 refine⟨by have:=hs.len;simp;omega,fun b hb h3=>?_,fun D t _ h2 hi b cs hb hD hc c h4=>?_⟩
 ·rw[LN,if_pos hb];exact hs.prot b hb (hw b hb h3)
 ·rw[LN,if_pos (by omega)]at hc;exact hs.inv D t (by omega) h2 hi b cs hb hD hc c h4
theorem R.conv{m':Mu}{h':Heap}(hi:∀ b,Imm m h w b->Imm m' h' w b){x:V}{v:Value}(hr:R m h w x v)(hb:Bel 0 x):R m' h' w x v:=by
 induction hr with
 | any v=>exact .any v
 | no=>exact .no
 | bool b=>exact .bool b
 | int k n=>exact .int k n
 | str s=>exact .str s
 | nilp=>exact .nilp
 | ptr h3 hv =>
  cases hb with
  | rf h=>simp[V.rf]at h
  | ptr h0=>omega
 | lptr rv hm hc hf _ ih=>exact .lptr rv (hi _ hm) hc hf fun i c h4=>ih i c h4 (.rf (hf i c h4))
 | nils=>exact .nils
 | sl h3 h6 hlen hv =>
  cases hb with
  | rf h=>simp[V.rf]at h
  | sl h0=>omega
 | lst0 a rc ha=>exact .lst0 a rc ha
 | lst rv hm h7 hk hc hf _ ih=>exact .lst rv (hi _ hm) h7 hk hc hf fun i e j c he hj=>ih i e j c he hj (.rf (hf i e j c he hj))
 | agg hl _ ih =>
  cases hb with
  | rf h=>simp[V.rf]at h
  | agg h=>exact .agg hl fun i c v hc hv=>ih i c v hc hv (h c (Le hc))
 | tup hl _ ih =>
  cases hb with
  | rf h=>simp[V.rf]at h
  | tup h=>exact .tup hl fun i c v hc hv=>ih i c v hc hv (h c (Le hc))
 | func hl _ h8 _ ih ih' =>
  cases hb with
  | rf h=>simp[V.rf]at h
  | func h h'=>exact .func hl (fun i c v hc hv=>ih i c v hc hv (h c (Le hc))) h8 (fun i c v hc hv=>ih' i c v hc hv (h' c (Le hc)))
 | nilf=>exact .nilf
 | nili=>exact .nili
 | nilm=>exact .nilm
 | iface _ ih =>
  cases hb with
  | rf h=>simp[V.rf]at h
  | iface h=>exact .iface (ih h)
 | mref h3 hv =>
  cases hb with
  | rf h=>simp[V.rf]at h
  | mref h0=>omega
theorem R.unnil{x:V}{v:Value}(hr:R m h w x v):R m h w (unnil x) v:=by
 cases hr<;>first|exact .lst0 _ _ (fun _=>rfl)|exact .lst0 _ _ ‹_›|(simp only[Ab.unnil];constructor<;>assumption)
theorem AA{x:V}(hx:x.noref=true):Bel 0 x:=by
 have key:∀ cs:List V,cs.all V.rf=true->∀ c∈cs,Bel 0 c:=fun cs h c hc=>.rf (Lp.1 h c hc);cases x<;>first
  | (simp[V.noref,V.rf]at hx;done)
  | exact .rf rfl
  | exact .agg (key _ hx)
  | exact .tup (key _ hx)
  | (simp only[V.noref,Lq]at hx;exact .func (key _ hx.1) (key _ hx.2))
theorem sQ(r:Rel m h w):Rel m [] w:=
 ⟨fun _ _ h _=>by obtain⟨cs,hc⟩:=h;simp at hc,r.zl,fun _ _ _ h=>by obtain⟨cs,hc⟩:=h;simp at hc,fun _ _ _ h=>by simp at h⟩
theorem mr{x:Nat}(hl:live [] x):False:=by obtain⟨cs,hc⟩:=hl;simp at hc
theorem iU{m0 m':Mu}{h':Heap}{w':World}(r:Rel m h w)(e:Evo m0 [] w m' h' w'):Evo m h w m h w'/\Rel m h w':=by
 have h0:∀ b,b<w.heap.size->w'.heap[b]?=w.heap[b]?:=fun b hb=>e.frame b hb fun x hl=>(mr hl).elim;have ev:Evo m h w m h w':=⟨rfl,Lh _,fun x _ hl=>⟨hl,rfl⟩,fun x b hl hb=>.inl ⟨x,hl,hb⟩,fun b hb _=>h0 b hb,e.size,e.rs,e.os,e.tape,e.output⟩;refine⟨ev,r.zo,fun b hz=>LF (r.zl b hz) e.size,r.inj,fun x cs b hc hb=>?_⟩;exact (r.blk x cs b hc hb).carry (h0 b (r.lt x b ⟨cs,hc⟩ hb)) fun c v _ h3=>h3.evo ev r.lt
theorem oW{m':Mu}{h':Heap}{w':World}(r:Rel m' h' w')(h8:∀ x b,live h' x->m' x=some b->Imm m h w' b):
  ∀ (d:Nat) {x y:V} {v:Value},R m' h' w' x v->own h' d x=true->frz h' 0 d x=some y->R m h w' y v
 | 0,x,y,v,_,ho,hf=>by simp[frz]at hf
 | d+1,x,y,v,hr,ho,hf=>by
  simp only[frz]at hf;split at hf
  ·rename_i b off len cap k;split at hf
   ·omega
   ·split at hf
    ·rename_i cs ht;simp only[own,ht]at ho;split at hf
     ·rename_i hle;split at hf
      ·rename_i cs' h9;split at hf
       ·rename_i hF;cases hf;obtain⟨b',rc,arr,T,hH,rfl,hI,hJ,hM,ha,hN,hK⟩:=hr.sl_at r ht;obtain⟨hv,hg⟩:=mapM_some h9;have hD:cs'.length=len*k:=by rw[<- hv];simp;omega
        have hh:∀ (q:Nat) (c:V),cs'[q]?=some c->∃ u,w'.cell? ⟨b',off+q,none⟩=some u/\R m h w' c u:=by
         intro q c hq;obtain⟨c0,hd,hn⟩:=hg q c hq;obtain⟨u,hu,hw⟩:=(hK.drop_take off (len*k)) q c0 hd;rw[L3]at hu;exact⟨u,hu,oW r h8 d hw (Lp.1 ho c0 (Le hd)) hn⟩
        by_cases h0:len=0
        ·subst h0;exact .lst0 _ _ (fun h=>by cases h)
        ·have hy:Imm m h w' b':=h8 b b' ⟨cs,aB ht⟩ hH;have hz:(chunk k len cs').length=len:=iO _ _ _;let rv:Nat->Nat->Value:=fun i j=>((w'.cell? ⟨b',off+(i*k+j),none⟩).getD undef)
         have hA:∀ (i:Nat) (e:List V) (j:Nat) (c:V),(chunk k len cs')[i]?=some e->e[j]?=some c->w'.cell? ⟨b',off+i*k+j,none⟩=some (rv i j)/\R m h w' c (rv i j)/\c.rf=true:=by
          intro i e j c he hj;obtain⟨_,_,h3⟩:=gZ k len cs' i e (by omega) he;have hq:=h3 j c hj;obtain⟨u,hu,hw⟩:=hh _ c hq;have hE:rv i j=u:=by simp[rv,hu]
          refine⟨by rw[hE,NM];exact hu,by rw[hE];exact hw,Lp.1 hF c (Le hq)⟩
         have:=R.lst (m:=m) (h:=h) (w:=w') (xs:=chunk k len cs') (b:=b') (o:=off) (k:=k) (rc:=rc) rv hy (by omega)
          (fun i e he=>(gZ k len cs' i e (by omega) he).1) (fun i e j c he hj=>(hA i e j c he hj).1) (fun i e j c he hj=>(hA i e j c he hj).2.2) (fun i e j c he hj=>(hA i e j c he hj).2.1)
         rwa [hz]at this
       ·cases hf
      ·cases hf
     ·cases hf
    ·cases hf
  ·simp[own]at ho
  ·simp[own]at ho
  ·cases hf;cases hr;exact .lst0 _ _ (fun _=>rfl)
  ·rename_i cs;simp only[own]at ho;split at hf
   ·rename_i cs' h9;cases hf;obtain⟨hv,hg⟩:=mapM_some h9;cases hr with
    | agg hl hr =>
     refine .agg (by omega) fun i c u hc hu=>?_;obtain⟨c0,hd,hn⟩:=hg i c hc;exact oW r h8 d (hr i c0 u hd hu) (Lp.1 ho c0 (Le hd)) hn
   ·cases hf
  ·rename_i cs;simp only[own]at ho;split at hf
   ·rename_i cs' h9;cases hf;obtain⟨hv,hg⟩:=mapM_some h9;cases hr with
    | tup hl hr =>
     refine .tup (by omega) fun i c u hc hu=>?_;obtain⟨c0,hd,hn⟩:=hg i c hc;exact oW r h8 d (hr i c0 u hd hu) (Lp.1 ho c0 (Le hd)) hn
   ·cases hf
  ·simp[own]at ho
  ·simp[own]at ho
  ·simp[own]at ho
  ·rename_i h1 h2 hm hL h3 h4 h5 h6 h7;cases hf;cases hr with
   | any _=>simp[own]at ho
   | no=>exact .no
   | bool _=>exact .bool _
   | int _ _=>exact .int _ _
   | str _=>exact .str _
   | nilp=>exact .nilp
   | ptr _ _=>exact absurd rfl (h2 _ _)
   | lptr _ _ _ _ _=>simp[own]at ho
   | nils=>exact absurd rfl hL
   | sl _ _ _ _=>exact absurd rfl (h1 _ _ _ _ _)
   | lst0 a rc ha=>exact .lst0 a rc ha
   | lst rv hi hO hk hc hf hr =>
    rename_i xs _ _ _ _;cases xs with
    | nil=>exact .lst0 _ _ (fun h=>by cases h)
    | cons _ _=>simp[own]at ho
   | agg _ _=>exact absurd rfl (h3 _)
   | tup _ _=>exact absurd rfl (h4 _)
   | func _ _ _ _=>exact absurd rfl (h6 _ _ _)
   | nilf=>exact .nilf
   | nili=>exact .nili
   | nilm=>exact .nilm
   | iface _=>exact absurd rfl (h7 _ _)
   | mref _ _=>exact absurd rfl (hm _)
theorem gY{md:FuncId->Nat}{call:aW}(h4:cZ P call){cfg:Cfg}{f:FuncId}{args:List V}{h:Heap}{x:V}{h':Heap}(hx:af md call cfg f args h=some (x,h')):
  HS cfg h h'/\(∃ fn,P.funcs[f]?=some fn/\fn.body.isNone=false)/\∀ m w vs,Rel m h w->PW m h w args vs->Calls P f vs w fun e w'=>∃ v,e=.returned v/\Out m h w x h' v w':=by
 unfold af at hx;split at hx
 ·split at hx
  ·rename_i h9;split at hx
   ·rename_i r h2 hc;split at hx
    ·rename_i r' hf;simp only[Ll,LL]at hx;obtain⟨rfl,rfl⟩:=hx;obtain⟨hs,h6,h0⟩:=h4 _ _ _ _ _ _ hc;refine⟨.refl _ _,h6,fun m w vs hr hp=>?_⟩;let m0:Mu:=⟨fun _=>none,fun b=>b<w.heap.size/\(m.z b\/∃ x,live h x/\m x=some b)⟩
     have r0:Rel m0 [] w:=⟨fun _ _ h _=>(mr h).elim,fun b hb=>hb.1,fun _ _ _ h=>(mr h).elim,fun _ _ _ h=>by simp at h⟩;have hn:∀ b,Imm m h w b->Imm m0 [] w b:=by
      rintro b ⟨h1,h2,h3⟩;refine⟨h1,?_,fun x hl=>(mr hl).elim⟩;rintro⟨_,hz|⟨x,hl,hb⟩⟩
      ·exact h2 hz
      ·exact h3 x hl hb
     have ha:PW m0 [] w args vs:=⟨hp.1,fun i c v hc hv=>(hp.2 i c v hc hv).conv hn (AA (Lp.1 h9 c (Le hc)))⟩;refine (h0 m0 w vs r0 ha).mono ?_;rintro e w' ⟨v,he,m',ev,r',hd⟩;obtain⟨ev',rl'⟩:=iU hr ev;have hg:=ny r' (LJ _) 6 hd hf;rw[NX]at hg;refine⟨v,he,m,ev',rl',hg.conv (fun b hb=>?_) hg.bel⟩;obtain⟨h1,h2,_⟩:=hb;rw[ev.zeq]at h2;refine⟨h1,fun hz=>h2 ⟨hr.zl b hz,.inl hz⟩,fun x hl hj=>h2 ⟨hr.lt x b hl hj,.inr ⟨x,hl,hj⟩⟩⟩
    ·cases hx
   ·cases hx
  ·split at hx
   ·rename_i r h2 hc;split at hx
    ·rename_i r' hf;simp only[Ll,LL]at hx;obtain⟨rfl,rfl⟩:=hx;obtain⟨hs,h6,h0⟩:=h4 _ _ _ _ _ _ hc;refine⟨hs.cut (Lh _) fun b hb _=>?_,h6,fun m w vs hr hp=>(h0 m w vs hr hp).mono ?_⟩
     ·simp[Cfg.wr];omega
     ·rintro e w' ⟨v,he,ho⟩;exact⟨v,he,ho.cut hr hs (Lh _) hf⟩
    ·cases hx
   ·cases hx
 ·split at hx
  ·rename_i r h2 hc;split at hx
   ·rename_i r' hf;simp only[Ll,LL]at hx;obtain⟨rfl,rfl⟩:=hx;obtain⟨hs,h6,h0⟩:=h4 _ _ _ _ _ _ hc;refine⟨hs.cut (Lh _) fun b _ hw=>hw,h6,fun m w vs hr hp=>(h0 m w vs hr hp).mono ?_⟩;rintro e w' ⟨v,he,ho⟩;exact⟨v,he,ho.cut hr hs (Lh _) hf⟩
   ·cases hx
  ·cases hx
 ·split at hx
  ·rename_i r h2 hc;split at hx
   ·rename_i r' hf;simp only[Ll,LL]at hx;obtain⟨rfl,rfl⟩:=hx;obtain⟨hs,h6,h0⟩:=h4 _ _ _ _ _ _ hc;refine⟨hs.cut (Lh _) fun b _ hw=>hw,h6,fun m w vs hr hp=>(h0 m w vs hr hp).mono ?_⟩;rintro e w' ⟨v,he,ho⟩;exact⟨v,he,ho.cut hr hs (Lh _) hf⟩
   ·cases hx
  ·cases hx
 ·split at hx
  ·cases hx
  ·rename_i args' h7;split at hx
   ·rename_i r h2 hc;split at hx
    ·rename_i hh;split at hx
     ·rename_i r' hf;simp only[Ll,LL]at hx;obtain⟨rfl,rfl⟩:=hx;obtain⟨hs,h6,h0⟩:=h4 _ _ _ _ _ _ hc;refine⟨.refl _ _,h6,fun m w vs hr hp=>?_⟩;obtain⟨hq,ht⟩:=mapM_some h7;have ha:PW m [] w args' vs:=by
       refine⟨by rw[<- hq];exact hp.1,fun i c v hc hv=>?_⟩;obtain⟨c0,hu,h8⟩:=ht i c hc;simp only[frzA,LG]at h8;obtain⟨c1,h8,rfl⟩:=h8;have:=ny hr (LJ _) 6 (hp.2 i c0 v hu hv) h8;rw[NX]at this;exact this.unnil
      refine (h0 m w vs (sQ hr) ha).mono ?_;rintro e w' ⟨v,he,m',ev,r',hd⟩;obtain⟨ev',rl'⟩:=iU hr ev;refine⟨v,he,m,ev',rl',oW r' (fun x b hl hb=>?_) 6 hd hh hf⟩;have hm:w.heap.size<=b:=by
       rcases ev.own x b hl hb with⟨y,hy,_⟩|hm
       ·exact (mr hy).elim
       ·exact hm
      refine⟨r'.lt x b hl hb,fun hz=>?_,fun y hy hA=>?_⟩
      ·have:=hr.zl b hz;omega
      ·have:=hr.lt y b hy hA;omega
     ·cases hx
    ·cases hx
   ·cases hx
 ·exact h4 _ _ _ _ _ _ hx
end
end Go.Ab
namespace Go.Ab
def dG (P : Program) : Prop := ∀ (g : Nat) (fn : Func), P.funcs[g]? = some fn → (fn.name == "runtime.NumGoroutine") = false
section
variable {P:Program}{m:Mu}{h:Heap}{w:World}
theorem iG{ops:Array Oper}{fr:List V}{a:Act}{o:Oper}{b:Bool}(f:FR m h w fr a)(hw:cY ops fr o=some b):Region.wanted o (yielded ops a.tmps)=b:=by
 unfold cY at hw;split at hw
 ·rename_i hg;cases hw;simp[Region.wanted,hg]
 ·rename_i j want hg;split at hw
  ·rename_i p hp;split at hw
   ·rename_i d hd;split at hw
    ·rename_i b' hb;cases hw;have h0:d<a.tmps.size:=by rw[<- f.len];exact (Ld.1 hb).1
     have hr:=f.slot d _ _ hb (Lr h0);generalize hv:a.tmps[d]=v at hr;cases hr;have:a.tmps[d]?=some (.bool b'):=by rw[Lr h0,hv]
     simp[Region.wanted,hg,yielded,hp,hd,this]
    ·rename_i hb;cases hw;have h0:d<a.tmps.size:=by rw[<- f.len];exact (Ld.1 hb).1
     have hr:=f.slot d _ _ hb (Lr h0);generalize hv:a.tmps[d]=v at hr;cases hr;have:a.tmps[d]?=some undef:=by rw[Lr h0,hv]
     simp[Region.wanted,hg,yielded,hp,hd,this,undef]
    ·cases hw
   ·cases hw
  ·cases hw
theorem rR{xs ys:List V}{us vs:Array Value}(h1:PW m h w xs us)(h2:PW m h w ys vs):PW m h w (xs++ys) (us++vs):=by
 have:=PW.append (xs:=us.toList) (ys:=vs.toList) (by simpa using h1) (by simpa using h2);have e:(us.toList++vs.toList).toArray=us++vs:=by apply MZ;simp
 rwa [e]at this
theorem Js{cfg:Cfg}{fr:List V}{h h':Heap}{op:Op}{x:V}(hx:opV P cfg fr h op=some (x,h')):HS cfg h h':=by
 unfold opV at hx
 repeat' split at hx
 all_goals first
  | (cases hx;done)
  | (obtain⟨_,rfl⟩:=aF hx;exact .refl _ _)
  | (cases hx;exact .push _ _ _)
  | exact .buildSlice hx
  | exact .makeSlice hx
  | exact .conv hx
  | exact .append hx
  | exact .makeMap hx
  | (simp only[Ll,LL]at hx;obtain⟨_,rfl⟩:=hx;first|exact .refl _ _|exact .store ‹_›|exact .clear ‹_›|exact .mapUpdate ‹_›)
theorem my(hN:dG P){md:FuncId->Nat}{call:aW}(h4:cZ P call){cfg:Cfg}{fr:List V}{h h':Heap}{o:Oper}{x:V}(hx:aH P md call cfg fr h o.op=some (x,h')):
  (∀ m w a,Rel m h w->FR m h w fr a->∀ (K:Act->World->Prop) (Q:Exit->Act->World->Prop),(∀ v w',Out m h w x h' v w'->K (a.put o.dst v) w')->o.wp P a w K Q)/\HS cfg h h':=by
 unfold aH at hx;split at hx
 ·rename_i f args tys h9;split at hx
  ·rename_i g first captured vs hf ha
   obtain⟨hs,⟨fn,h7,h6⟩,h0⟩:=gY h4 hx;refine⟨fun m w a r fR K Q hK=>?_,hs⟩;have h8:=dc fR hf;obtain⟨hl,hr⟩:=gJ fR ha;generalize hd:a.eval f=fe at h8;cases h8 with
   | func he hg hh hj =>
    rename_i fs cs;have hm:PW m h w ((first++vs)++captured) ((fs++args.map a.eval)++cs):=
     rR (rR ⟨he,hg⟩ ⟨by simpa using hl,fun i c v hc hv=>hr i c v hc (by simpa using hv)⟩) ⟨hh,hj⟩
    have h3:(execOp a.eval o).run P w=.ok (.enter g ((fs++args.map a.eval)++cs)) w:=by
     simp only[execOp,h9,Sem.run_bind,resolve,hd,Deferred.ofValue,Sem.run_pure,Result.andThen_ok,invoke,callFunc,run_program,h7,hN g fn h7,h6,LH,if_false]
    unfold Oper.wp;rw[h3];refine (h0 m w _ r hm).mono ?_;rintro e w' ⟨v,rfl,ho⟩;exact hK v w' ho
  ·cases hx
 ·refine⟨fun m w a r fR K Q hK=>?_,Js hx⟩;obtain⟨⟨nx,v,w',h3,hn,ho⟩,_⟩:=Jt r fR rfl hx;unfold Oper.wp;rw[h3];rcases hn with rfl|⟨rfl,rfl⟩
  ·exact hK v w' ho
  ·exact hK undef w' ho
def After(m:Mu)(h:Heap)(w:World)(fr':List V)(h':Heap)(a':Act)(w':World):Prop:=∃ m',Evo m h w m' h' w'/\Rel m' h' w'/\FR m' h' w' fr' a'
theorem After.trans{fr2:List V}{h1 h2:Heap}{a2:Act}{w1 w2:World}{m1:Mu}(e:Evo m h w m1 h1 w1)(k:After m1 h1 w1 fr2 h2 a2 w2):After m h w fr2 h2 a2 w2:=
 let ⟨m',e',r',f'⟩:=k
 ⟨m',e.trans e',r',f'⟩
theorem kF(hN:dG P){md:FuncId->Nat}{call:aW}(h0:cZ P call){cfg:Cfg}{ops:Array Oper}{fr fr':List V}{h h':Heap}{o:Oper}(hx:gS P md call cfg ops o fr h=some (fr',h')):
  HS cfg h h'/\∀ m w a,Rel m h w->FR m h w fr a->∀ (K:Act->World->Prop) (Q:Exit->Act->World->Prop),(∀ a' w',After m h w fr' h' a' w'->K a' w') ->
   if Region.wanted o (yielded ops a.tmps) then o.wp P a w K Q\/(o.asks P a w/\LetsOut Q) else K (a.put o.dst undef) w:=by
 unfold gS at hx;split at hx
 ·rename_i hw;split at hx
  ·rename_i v h2 hv;simp only[Ll,LL]at hx;obtain⟨rfl,rfl⟩:=hx;obtain⟨h3,hs⟩:=my hN h0 hv;refine⟨hs,fun m w a r fR K Q hK=>?_⟩;rw[iG fR hw];simp only[if_true];refine .inl (h3 m w a r fR K Q fun u w' ⟨m',e,r',hr⟩=>hK _ _ ⟨m',e,r',(fR.evo r e).put hr o.dst⟩)
  ·cases hx
 ·rename_i hw;simp only[Ll,LL]at hx;obtain⟨rfl,rfl⟩:=hx;refine⟨.refl _ _,fun m w a r fR K Q hK=>?_⟩;rw[iG fR hw];simp only[LH,if_false];exact hK _ _ ⟨m,.refl _ _ _,r,fR.put .no o.dst⟩
 ·cases hx
theorem nL(hN:dG P){md:FuncId->Nat}{call:aW}(h0:cZ P call){cfg:Cfg}{ops:Array Oper}:∀ (l:List Oper) {fr fr':List V}{h h':Heap},dE P md call cfg ops l fr h=some (fr',h') ->
  HS cfg h h'/\∀ m w a,Rel m h w->FR m h w fr a->∀ (Q:Exit->Act->World->Prop),(∀ a' w',After m h w fr' h' a' w'->Q .normal a' w')->wpList P ops Q l a w
 | [],fr,fr',h,h',hx=>by
  simp only[dE,Ll,LL]at hx;obtain⟨rfl,rfl⟩:=hx;exact⟨.refl _ _,fun m w a r fR Q hQ=>hQ a w ⟨m,.refl _ _ _,r,fR⟩⟩
 | o::l,fr,fr',h,h',hx=>by
  simp only[dE]at hx;split at hx
  ·rename_i fr1 h1 h2;obtain⟨h6,h3⟩:=kF hN h0 h2;obtain⟨h7,h4⟩:=nL hN h0 l hx;refine⟨h6.trans h7,fun m w a r fR Q hQ=>?_⟩;simp only[wpList];exact h3 m w a r fR _ Q fun a' w' ⟨m',e,r',f'⟩=>h4 m' w' a' r' f' Q fun a2 w2 k=>hQ a2 w2 (k.trans e)
  ·cases hx
def CD:Ex->Exit
 | .normal=>.normal
 | .exit id=>.exit id
 | .ret=>.ret
def xk(P:Program)(draw:ur):Prop:=∀ cfg ops fr h fr' h',draw cfg ops fr h=some (fr',h')->HS cfg h h' /\
 ∀ m w a id,Rel m h w->FR m h w fr a->∀ (Q:Exit->Act->World->Prop),(∀ a' w',After m h w fr' h' a' w'->Q .normal a' w')->(Code.region id ops true).wp P Q a w
def BO(P:Program)(cfg:Cfg)(c:Code)(fr:List V)(h:Heap)(s:St):Prop:=HS cfg h s.2.2 /\
 ∀ m w a,Rel m h w->FR m h w fr a->∀ (Q:Exit->Act->World->Prop),(∀ a' w',After m h w s.2.1 s.2.2 a' w'->Q (CD s.1) a' w')->c.wp P Q a w
theorem zq{cfg:Cfg}{c:Code}{body:List V->Heap->Option St}(hb:∀ fr h s,body fr h=some s->BO P cfg c fr h s):∀ (n:Nat) (fr:List V) (h:Heap) (s:St),iter body n fr h=some s ->
  HS cfg h s.2.2/\s.1≠.normal/\∀ m w a,Rel m h w->FR m h w fr a->∀ (Q:Exit->Act->World->Prop),(∀ a' w',After m h w s.2.1 s.2.2 a' w'->Q (CD s.1) a' w')->Code.rounds P c Q n a w
 | 0,fr,h,s,hi=>by simp[iter]at hi
 | n+1,fr,h,s,hi=>by
  simp only[iter]at hi;split at hi
  ·rename_i fr1 h1 h4;obtain⟨h0,h3⟩:=hb _ _ _ h4;obtain⟨h6,hne,h7⟩:=zq hb n fr1 h1 s hi;refine⟨h0.trans h6,hne,fun m w a r fR Q hQ=>?_⟩;rw[rounds_succ];exact h3 m w a r fR _ fun a' w' ⟨m',e,r',f'⟩=>h7 m' w' a' r' f' Q fun a2 w2 k=>hQ a2 w2 (k.trans e)
  ·rename_i hne;obtain⟨h0,h3⟩:=hb _ _ _ hi;have hn:s.1≠.normal:=by
    intro e;obtain⟨e1,f1,h1⟩:=s;simp only at e;subst e;exact hne f1 h1 hi
   refine⟨h0,hn,fun m w a r fR Q hQ=>?_⟩;rw[rounds_succ];refine h3 m w a r fR _ fun a' w' k=>?_;have:=hQ a' w' k;revert this;cases hs:s.1 with
   | normal=>exact absurd hs hn
   | exit id=>exact fun x=>x
   | ret=>exact fun x=>x
theorem Fa(hN:dG P){md:FuncId->Nat}{call:aW}(h0:cZ P call){draw:ur}(h3:xk P draw){cfg:Cfg}{n:Nat}:∀ (c:Code) (fr:List V) (h:Heap) (s:St),
  code P md call draw cfg n c fr h=some s->BO P cfg c fr h s:=by
 intro c
 induction c with
 | skip =>
  intro fr h s hx;simp only[code,Ll]at hx;subst hx;exact⟨.refl _ _,fun m w a r fR Q hQ=>wp_skip (hQ a w ⟨m,.refl _ _ _,r,fR⟩)⟩
 | region id ops dr =>
  intro fr h s hx;cases dr with
  | false =>
   simp only[code]at hx;split at hx
   ·rename_i fr' h' hr;cases hx;obtain⟨hs,hw⟩:=nL hN h0 _ hr;exact⟨hs,fun m w a r fR Q hQ=>wp_region_list (hw m w a r fR Q hQ)⟩
   ·cases hx
  | true =>
   simp only[code]at hx;split at hx
   ·rename_i fr' h' hr;cases hx;obtain⟨hs,hw⟩:=h3 _ _ _ _ _ _ hr;exact⟨hs,fun m w a r fR Q hQ=>hw m w a id r fR Q hQ⟩
   ·cases hx
 | seq x y ihx ihy =>
  intro fr h s hx;simp only[code]at hx;split at hx
  ·rename_i fr1 h1 h2;obtain⟨h6,h7⟩:=ihx _ _ _ h2;obtain⟨h9,ha⟩:=ihy _ _ _ hx;refine⟨h6.trans h9,fun m w a r fR Q hQ=>wp_seq (h7 m w a r fR _ fun a' w' ⟨m',e,r',f'⟩=>ha m' w' a' r' f' Q fun a2 w2 k=>hQ a2 w2 (k.trans e))⟩
  ·rename_i hne;obtain⟨h6,h7⟩:=ihx _ _ _ hx;refine⟨h6,fun m w a r fR Q hQ=>wp_seq (h7 m w a r fR _ fun a' w' k=>?_)⟩;have:=hQ a' w' k;revert this;obtain⟨e1,f1,h1⟩:=s;cases e1 with
   | normal=>exact absurd hx (hne f1 h1)
   | exit id=>exact fun x=>x
   | ret=>exact fun x=>x
 | cond c x y ihx ihy =>
  intro fr h s hx;simp only[code]at hx;split at hx
  ·rename_i hc;obtain⟨hs,hw⟩:=ihx _ _ _ hx;refine⟨hs,fun m w a r fR Q hQ=>?_⟩;have h4:=dc fR hc;generalize h8:a.eval c=ce at h4;cases h4;exact wp_cond_true h8 (hw m w a r fR Q hQ)
  ·rename_i hc;obtain⟨hs,hw⟩:=ihy _ _ _ hx;refine⟨hs,fun m w a r fR Q hQ=>?_⟩;have h4:=dc fR hc;generalize h8:a.eval c=ce at h4;cases h4;exact wp_cond_false h8 (hw m w a r fR Q hQ)
  ·cases hx
 | block id b ih =>
  intro fr h s hx;simp only[code]at hx;split at hx
  ·rename_i i fr1 h1 h2;cases hx;obtain⟨hs,hw⟩:=ih _ _ _ h2;refine⟨hs,fun m w a r fR Q hQ=>wp_block (hw m w a r fR _ fun a' w' k=>?_)⟩;have:=hQ a' w' k;simp only[CD,Exit.inBlock];by_cases hi:i=id
   ·rw[if_pos hi];simpa[hi,CD]using this
   ·rw[if_neg hi];simpa[hi,CD]using this
  ·rename_i hne;obtain⟨hs,hw⟩:=ih _ _ _ hx;refine⟨hs,fun m w a r fR Q hQ=>wp_block (hw m w a r fR _ fun a' w' k=>?_)⟩;have:=hQ a' w' k;revert this;obtain⟨e1,f1,h1⟩:=s;cases e1 with
   | normal=>exact fun x=>x
   | exit id=>exact absurd hx (hne id f1 h1)
   | ret=>exact fun x=>x
 | loop b ih =>
  intro fr h s hx;simp only[code]at hx;obtain⟨hs,_,hw⟩:=zq (c:=b) (fun fr h s hb=>ih fr h s hb) n fr h s hx;exact⟨hs,fun m w a r fR Q hQ=>wp_loop_rounds n (hw m w a r fR Q hQ)⟩
 | exit id =>
  intro fr h s hx;simp only[code,Ll]at hx;subst hx;exact⟨.refl _ _,fun m w a r fR Q hQ=>wp_exit (hQ a w ⟨m,.refl _ _ _,r,fR⟩)⟩
 | ret =>
  intro fr h s hx;simp only[code,Ll]at hx;subst hx;exact⟨.refl _ _,fun m w a r fR Q hQ=>wp_ret (hQ a w ⟨m,.refl _ _ _,r,fR⟩)⟩
 | rangeFunc=>intro fr h s hx;simp[code]at hx
 | scope=>intro fr h s hx;simp[code]at hx
 | label=>intro fr h s hx;simp[code]at hx
 | goto=>intro fr h s hx;simp[code]at hx
 | refuse=>intro fr h s hx;simp[code]at hx
def tU(tmps:Array Value):ResultVar->Sem Value
 | .tmp t=>pure (tmps.getD t undef)
 | .cell b t=>do loadVar t (<- asAddr (tmps.getD b undef))
theorem tV(r:Rel m h w){fr:List V}{a:Act}(fR:FR m h w fr a):∀ (l:List ResultVar) (xs:List V),je P fr h l=some xs ->
  ∃ vs:List Value,(l.mapM (tU a.tmps)).run P w=.ok vs w/\vs.length=xs.length/\∀ (i:Nat) (c:V) (v:Value),xs[i]?=some c->vs[i]?=some v->R m h w c v
 | [],xs,hx=>by
  simp[je]at hx;subst hx;exact⟨[],by simp,rfl,by simp⟩
 | .tmp t::l,xs,hx=>by
  simp only[je]at hx;split at hx
  ·rename_i x h7;split at hx
   ·rename_i ys h6;cases hx;obtain⟨vs,h1,h2,h3⟩:=tV r fR l ys h6;have hr:R m h w x (a.tmps.getD t undef):=dc fR (o:=.tmp t) h7;refine⟨a.tmps.getD t undef::vs,?_,by simp[h2],fun i c v hc hv=>?_⟩
    ·rw[MC];simp only[tU,Sem.run_bind,Sem.run_pure,Result.andThen_ok,h1]
    ·cases i with
     | zero=>simp only[Nr,Ll]at hc hv;subst hc hv;exact hr
     | succ i=>exact h3 i c v (by simpa using hc) (by simpa using hv)
   ·cases hx
  ·cases hx
 | .cell b t::l,xs,hx=>by
  simp only[je]at hx;split at hx
  ·rename_i p h8;split at hx
   ·rename_i x h4;split at hx
    ·rename_i ys h6;cases hx;obtain⟨vs,h1,h2,h3⟩:=tV r fR l ys h6;have hp:R m h w p (a.tmps.getD b undef):=dc fR (o:=.tmp b) h8;obtain⟨v,hv,hr⟩:=zH (P:=P) r hp h4;have h0:(do loadVar t (<- asAddr (a.tmps.getD b undef)):Sem Value).run P w=.ok v w:=by
      have:∃ ad,a.tmps.getD b undef=.pointer (some ad):=by
       unfold fE at h4;split at h4
       ·generalize a.tmps.getD b undef=q at hp;cases hp;exact⟨_,rfl⟩
       ·generalize a.tmps.getD b undef=q at hp;cases hp;exact⟨_,rfl⟩
       ·cases h4
      obtain⟨ad,h9⟩:=this;rw[h9]at hv ⊢;simpa[Instr.loadAt,Instr.sureAddr,asAddr]using hv
     refine⟨v::vs,?_,by simp[h2],fun i c u hc hu=>?_⟩
     ·rw[MC];rw[Sem.run_bind,show (tU a.tmps (.cell b t)).run P w=.ok v w from h0];simp only[Sem.run_bind,Result.andThen_ok,h1,Sem.run_pure]
     ·cases i with
      | zero=>simp only[Nr,Ll]at hc hu;subst hc hu;exact hr
      | succ i=>exact h3 i c u (by simpa using hc) (by simpa using hu)
    ·cases hx
   ·cases hx
  ·cases hx
theorem Fp(hN:dG P){md:FuncId->Nat}{call:aW}(h0:cZ P call){draw:ur}(h4:xk P draw){cfg:Cfg}{n:Nat}{f:FuncId}{fn:Func}{args:List V}{h h':Heap}{x:V}
  (hf:P.funcs[f]?=some fn) (hx:Pj P md call draw n cfg fn args h=some (x,h')):
  HS cfg h h'/\(∃ fn,P.funcs[f]?=some fn/\fn.body.isNone=false)/\∀ m w vs,Rel m h w->PW m h w args vs->Calls P f vs w fun e w'=>∃ v,e=.returned v/\Out m h w x h' v w':=by
 unfold Pj at hx;split at hx
 ·cases hx
 ·rename_i c hb;split at hx
  ·cases hx
  ·rename_i e fr h2 hne hc;split at hx
   ·rename_i xs h9;simp only[Ll,LL]at hx;obtain⟨rfl,rfl⟩:=hx;obtain⟨hs,hw⟩:=Fa hN h0 h4 _ _ _ _ hc;refine⟨hs,⟨fn,hf,by simp[hb]⟩,fun m w vs r hp=>calls_of_wp hf hb (hw m w _ r ?_ _ ?_)⟩
    ·refine⟨by simp[hp.1],fun i y v hy hv=>?_,rfl⟩;by_cases hi:i<args.length
     ·rw[Lf hi]at hy;rw[MK (by rw[hp.1];exact hi)]at hv;exact hp.2 i y v hy hv
     ·rw[Lk (by omega)]at hy;rw[Od (by rw[hp.1];omega)]at hv;simp only[Ns,Na]at hy hv;split at hy
      ·split at hv
       ·cases hy;cases hv;exact .no
       ·cases hv
      ·cases hy
    ·rintro a' w' ⟨m',e',r',f'⟩;have h6:a'.defers=[]/\∃ v,(results fn a'.tmps).run P w'=.ok v w'/\∃ u,Ending.returned v=.returned u/\Out m h w (oneOf xs) h2 u w':=by
      refine⟨f'.defers,?_⟩;obtain⟨us,h1,h2',h3⟩:=tV (P:=P) r' f' _ _ h9;have h7:(results fn a'.tmps).run P w'=.ok (if h:us.toArray.size=1 then us.toArray[0] else .tuple us.toArray) w':=by
       unfold results;have:fn.results=fn.results.toList.toArray:=by simp
       rw[this,List.mapM_toArray,Sem.run_bind,Sem.run_map];have h8:∀ l:List ResultVar,(l.mapM fun
         | .tmp t=>pure (a'.tmps.getD t undef)
         | .cell a t=>do loadVar t (<- asAddr (a'.tmps.getD a undef)):Sem (List Value))=l.mapM (tU a'.tmps):=fun l=>by
        congr 1
       erw [h8,h1]
       rfl
      refine⟨_,h7,_,rfl,m',e',r',?_⟩;clear h7 h1 h9 hw hs
      match xs,us,h2',h3 with
      | [x1],[u1],_,h3=>exact h3 0 x1 u1 rfl rfl
      | [],[],_,_=>exact .tup rfl (by simp)
      | x1::x2::xs,u1::u2::us,hl,h3 =>
       have hne:¬ (u1::u2::us).toArray.size=1:=by simp
       rw[dif_neg hne];exact .tup (by simpa using hl) (fun i c v hc hv=>h3 i c v hc (by simpa using hv))
     cases e with
     | normal=>exact h6
     | exit id=>exact absurd rfl (hne id)
     | ret=>exact h6
   ·cases hx
  ·cases hx
end
end Go.Ab
namespace Go.Ab
structure Evw(m:Mu)(h:Heap)(w:World)(m':Mu)(h':Heap)(w':World):Prop where
 zeq:m'.z=m.z
 len:h.length<=h'.length
 keep:∀ x,x<h.length->live h' x->live h x/\∀ b,m x=some b->m' x=some b
 own:∀ (x b:Nat),live h' x->m' x=some b->(∃ y,live h y/\m y=some b)\/w.heap.size<=b
 frame:∀ b,b<w.heap.size->(∀ x,live h x->m x≠some b)->w'.heap[b]?=w.heap[b]?
 size:w.heap.size<=w'.heap.size
 rs:∀ b,b<w.heap.size->rsz w b<=rsz w' b
section
variable {m m':Mu}{h h':Heap}{w w':World}
theorem Imm.evw{b:Nat}(e:Evw m h w m' h' w')(hi:Imm m h w b):Imm m' h' w' b:=by
 refine⟨LF hi.1 e.size,by rw[e.zeq];exact hi.2.1,fun x hl hx=>?_⟩;rcases e.own x b hl hx with⟨y,hy,h0⟩|h3
 ·exact hi.2.2 y hy h0
 ·exact absurd hi.1 (Nat.not_lt.2 h3)
theorem Imm.cellw{b:Nat}(e:Evw m h w m' h' w')(hi:Imm m h w b)(o:Nat):w'.cell? ⟨b,o,none⟩=w.cell? ⟨b,o,none⟩:=
 cell?_of_block (e.frame b hi.1 hi.2.2) o
theorem R.evw(e:Evw m h w m' h' w')(h4:∀ (x b:Nat),live h x->m x=some b->b<w.heap.size){x:V}{v:Value}(hr:R m h w x v):R m' h' w' x v:=by
 induction hr with
 | any v=>exact .any v
 | no=>exact .no
 | bool b=>exact .bool b
 | int k n=>exact .int k n
 | str s=>exact .str s
 | nilp=>exact .nilp
 | ptr h0 hv =>
  refine .ptr (LF h0 e.len) fun hl=>?_;obtain⟨h3,hm⟩:=e.keep _ h0 hl;obtain⟨b,hb,h6⟩:=hv h3;exact⟨b,hm b hb,h6⟩
 | lptr rv hi hc hf _ ih=>exact .lptr rv (hi.evw e) (fun i c h8=>(hi.cellw e _).trans (hc i c h8)) hf ih
 | nils=>exact .nils
 | sl h0 h7 hlen hv =>
  refine .sl (LF h0 e.len) h7 hlen fun hl=>?_;obtain⟨h3,hm⟩:=e.keep _ h0 hl;obtain⟨b,hb,h6,hs⟩:=hv h3;exact⟨b,hm b hb,h6,Mv hs (e.rs b (h4 _ _ h3 hb))⟩
 | lst0 a rc ha=>exact .lst0 a rc ha
 | lst rv hi h9 hk hc hf _ ih=>exact .lst rv (hi.evw e) h9 hk (fun i x j c hx hj=>(hi.cellw e _).trans (hc i x j c hx hj)) hf ih
 | agg hl _ ih=>exact .agg hl ih
 | tup hl _ ih=>exact .tup hl ih
 | func hl _ hd _ ih ih'=>exact .func hl ih hd ih'
 | nilf=>exact .nilf
 | nili=>exact .nili
 | nilm=>exact .nilm
 | iface _ ih=>exact .iface ih
 | mref h0 hv =>
  refine .mref (LF h0 e.len) fun hl=>?_;obtain⟨h3,hm⟩:=e.keep _ h0 hl;exact hm _ (hv h3)
end
section
variable {m:Mu}{g:Heap}{w:World}
def Mu.cut(m:Mu)(g:Heap)(n:Nat):Mu:={ f:=fun x=>if x<n then m x else none,z:=fun b=>m.z b\/∃ x,n<=x/\live g x/\m x=some b }
theorem cV{n x:Nat}(hx:x<n):live (g.take n) x↔live g x:=by
 simp[live,hx]
theorem Imm.cut{n b:Nat}(hi:Imm m g w b):Imm (m.cut g n) (g.take n) w b:=by
 refine⟨hi.1,?_,fun x hx h0=>?_⟩
 ·rintro (h|⟨x,_,h2,h3⟩)
  ·exact hi.2.1 h
  ·exact hi.2.2 x h2 h3
 ·obtain⟨h1,h2⟩:=bm hx;simp only[Mu.cut,h1,if_true]at h0;exact hi.2.2 x h2 h0
theorem R.cut{n:Nat}(hn:n<=g.length){x:V}{v:Value}(hr:R m g w x v)(hb:Bel n x):R (m.cut g n) (g.take n) w x v:=by
 have hlen:(g.take n).length=n:=by simp;omega
 induction hr with
 | any v=>exact .any v
 | no=>exact .no
 | bool b=>exact .bool b
 | int k n=>exact .int k n
 | str s=>exact .str s
 | nilp=>exact .nilp
 | ptr h6 hv =>
  cases hb with
  | rf h=>simp[V.rf]at h
  | ptr h0 =>
   refine .ptr (by omega) fun hl=>?_;obtain⟨b,h1,h2⟩:=hv (bm hl).2;exact⟨b,by simp[Mu.cut,h0,h1],h2⟩
 | lptr rv hi hc hf _ ih=>exact .lptr rv hi.cut hc hf fun i c h7=>ih i c h7 (.rf (hf i c h7))
 | nils=>exact .nils
 | sl h6 h4 hlen hv =>
  cases hb with
  | rf h=>simp[V.rf]at h
  | sl h0 =>
   refine .sl (by omega) h4 hlen fun hl=>?_;obtain⟨b,h1,h2,h3⟩:=hv (bm hl).2;exact⟨b,by simp[Mu.cut,h0,h1],h2,h3⟩
 | lst0 a rc ha=>exact .lst0 a rc ha
 | lst rv hi h8 hk hc hf _ ih=>exact .lst rv hi.cut h8 hk hc hf fun i e j c he hj=>ih i e j c he hj (.rf (hf i e j c he hj))
 | agg hl _ ih =>
  cases hb with
  | rf h=>simp[V.rf]at h
  | agg h=>exact .agg hl fun i c v hc hv=>ih i c v hc hv (h c (Le hc))
 | tup hl _ ih =>
  cases hb with
  | rf h=>simp[V.rf]at h
  | tup h=>exact .tup hl fun i c v hc hv=>ih i c v hc hv (h c (Le hc))
 | func hl _ h9 _ ih ih' =>
  cases hb with
  | rf h=>simp[V.rf]at h
  | func h h'=>exact .func hl (fun i c v hc hv=>ih i c v hc hv (h c (Le hc))) h9 (fun i c v hc hv=>ih' i c v hc hv (h' c (Le hc)))
 | nilf=>exact .nilf
 | nili=>exact .nili
 | nilm=>exact .nilm
 | iface _ ih =>
  cases hb with
  | rf h=>simp[V.rf]at h
  | iface h=>exact .iface (ih h)
 | mref h6 hv =>
  cases hb with
  | rf h=>simp[V.rf]at h
  | mref h0=>exact .mref (by omega) fun hl=>by simp[Mu.cut,h0,hv (bm hl).2]
theorem Rel.cut{n:Nat}(hn:n<=g.length)(r:Rel m g w)(hb:∀ x cs b,x<n->g[x]?=some (some cs)->m x=some b->∀ c∈cs,Bel n c):Rel (m.cut g n) (g.take n) w:=by
 have hm:∀ x b,x<n->(m.cut g n) x=some b->m x=some b:=fun x b hx h0=>by simpa[Mu.cut,hx]using h0
 refine⟨fun x b hl h0=>?_,fun b hz=>?_,fun x y b hx hy h7 h8=>?_,fun x cs b hx h0=>?_⟩
 ·obtain⟨h1,h2⟩:=bm hl;have h3:=hm x b h1 h0;rintro (h|⟨y,h4,h5,h6⟩)
  ·exact r.zo x b h2 h3 h
  ·have:=r.inj x y b h2 h5 h3 h6;omega
 ·rcases hz with h|⟨y,_,h5,h6⟩
  ·exact r.zl b h
  ·exact r.lt y b h5 h6
 ·obtain⟨h1,h2⟩:=bm hx;obtain⟨h3,h4⟩:=bm hy;exact r.inj x y b h2 h4 (hm x b h1 h7) (hm y b h3 h8)
 ·obtain⟨h1,h2⟩:=bm ⟨cs,hx⟩;rw[LN,if_pos h1]at hx;have h3:=hm x b h1 h0;exact (r.blk x cs b hx h3).carry rfl fun c v h9 ha=>ha.cut hn (hb x cs b h1 hx h3 c h9)
def Mu.glue(m m':Mu)(n':Nat):Mu:={ f:=fun x=>if x<n' then m' x else m x,z:=m.z }
section
variable {m':Mu}{g':Heap}{w':World}{n n':Nat}
theorem Imm.glue(hz:m'.z=(m.cut g n).z)(h6:n<=n')(h0:∀ x,n'<=x->g'[x]?=g[x]?){b:Nat}(hi:Imm m' (g'.take n') w' b):Imm (m.glue m' n') g' w' b:=by
 refine⟨hi.1,fun h=>hi.2.1 (by rw[hz];exact .inl h),fun x hx h3=>?_⟩;by_cases h4:x<n'
 ·simp only[Mu.glue,h4,if_true]at h3;exact hi.2.2 x ((cV h4).2 hx) h3
 ·simp only[Mu.glue,h4,if_false]at h3;obtain⟨cs,hc⟩:=hx;rw[h0 x (by omega)]at hc;exact hi.2.1 (by rw[hz];exact .inr ⟨x,by omega,⟨cs,hc⟩,h3⟩)
theorem R.glue(hz:m'.z=(m.cut g n).z)(h8:n<=n')(h4:∀ x,n'<=x->g'[x]?=g[x]?)(hlen:n'<=g'.length){x:V}{v:Value}(hr:R m' (g'.take n') w' x v):R (m.glue m' n') g' w' x v:=by
 have h6:(g'.take n').length=n':=by simp;omega
 induction hr with
 | any v=>exact .any v
 | no=>exact .no
 | bool b=>exact .bool b
 | int k n=>exact .int k n
 | str s=>exact .str s
 | nilp=>exact .nilp
 | ptr h0 hv =>
  rw[h6]at h0;refine .ptr (by omega) fun hl=>?_;obtain⟨b,h1,h2⟩:=hv ((cV h0).2 hl);exact⟨b,by simp[Mu.glue,h0,h1],h2⟩
 | lptr rv hi hc hf _ ih=>exact .lptr rv (hi.glue hz h8 h4) hc hf ih
 | nils=>exact .nils
 | sl h0 h7 hlen hv =>
  rw[h6]at h0;refine .sl (by omega) h7 hlen fun hl=>?_;obtain⟨b,h1,h2,h3⟩:=hv ((cV h0).2 hl);exact⟨b,by simp[Mu.glue,h0,h1],h2,h3⟩
 | lst0 a rc ha=>exact .lst0 a rc ha
 | lst rv hi h9 hk hc hf _ ih=>exact .lst rv (hi.glue hz h8 h4) h9 hk hc hf ih
 | agg hl _ ih=>exact .agg hl ih
 | tup hl _ ih=>exact .tup hl ih
 | func hl _ h6 _ ih ih'=>exact .func hl ih h6 ih'
 | nilf=>exact .nilf
 | nili=>exact .nili
 | nilm=>exact .nilm
 | iface _ ih=>exact .iface ih
 | mref h0 hv =>
  rw[h6]at h0;exact .mref (by omega) fun hl=>by simp[Mu.glue,h0,hv ((cV h0).2 hl)]
theorem uO(_r:Rel m g w)(hn:n<=g.length)(ha:n<=n')(hlen:g'.length=g.length)(h3:∀ x,n'<=x->g'[x]?=g[x]?)(h4:∀ x,n<=x->x<n'->live g' x->live g x/\m x=none)
  (e:Evo (m.cut g n) (g.take n) w m' (g'.take n') w'):Evw m g w (m.glue m' n') g' w' where
 zeq:=rfl
 len:=by omega
 keep:=fun x hx hl=>by
  by_cases h6:x<n
  ·obtain⟨h1,h2⟩:=e.keep x (by simp;omega) ((cV (by omega)).2 hl);refine⟨(bm h1).2,fun b hb=>?_⟩;simp only[Mu.glue,show x<n' by omega,if_true,h2];simpa[Mu.cut,h6]using hb
  ·by_cases h0:x<n'
   ·obtain⟨h1,h2⟩:=h4 x (by omega) h0 hl;exact⟨h1,fun b hb=>by rw[h2]at hb;cases hb⟩
   ·obtain⟨cs,hc⟩:=hl;rw[h3 x (by omega)]at hc;exact⟨⟨cs,hc⟩,fun b hb=>by simp[Mu.glue,h0,hb]⟩
 own:=fun x b hl hb=>by
  by_cases h0:x<n'
  ·simp only[Mu.glue,h0,if_true]at hb;rcases e.own x b ((cV h0).2 hl) hb with⟨y,hy,h7⟩|h8
   ·obtain⟨h1,h2⟩:=bm hy;exact .inl ⟨y,h2,by simpa[Mu.cut,h1]using h7⟩
   ·exact .inr h8
  ·simp only[Mu.glue,h0,if_false]at hb;obtain⟨cs,hc⟩:=hl;rw[h3 x (by omega)]at hc;exact .inl ⟨x,⟨cs,hc⟩,hb⟩
 frame:=fun b hb hn=>e.frame b hb fun x hx h9=>by
  obtain⟨h1,h2⟩:=bm hx;exact hn x h2 (by simpa[Mu.cut,h1]using h9)
 size:=e.size
 rs:=e.rs
theorem DQ(r:Rel m g w)(hn:n<=g.length)(hh:n<=n')(hlen:g'.length=g.length)(hr:n'<=g.length)(h6:∀ x,n'<=x->g'[x]?=g[x]?)(hf:∀ x,n<=x->x<n'->live g' x->live g x/\m x=none)
  (e:Evo (m.cut g n) (g.take n) w m' (g'.take n') w') (r':Rel m' (g'.take n') w'):Rel (m.glue m' n') g' w':=by
 have ew:=uO r hn hh hlen h6 hf e;have hz:=e.zeq;have h7:∀ x b,x<n'->live g' x->(m.glue m' n') x=some b->live (g'.take n') x/\m' x=some b:=fun x b hx hl hb=>⟨(cV hx).2 hl,by simpa[Mu.glue,hx]using hb⟩;have h0:∀ x b,¬ x<n'->live g' x->(m.glue m' n') x=some b->live g x/\m x=some b:=fun x b hx hl hb=>by
  obtain⟨cs,hc⟩:=hl;rw[h6 x (by omega)]at hc;exact⟨⟨cs,hc⟩,by simpa[Mu.glue,hx]using hb⟩
 have hd:∀ x y b,x<n'->¬ y<n'->live g' x->live g' y->(m.glue m' n') x=some b->(m.glue m' n') y=some b->False:=by
  intro x y b hx hy hj hm h9 ha;obtain⟨h1,h2⟩:=h7 x b hx hj h9;obtain⟨h3,h4⟩:=h0 y b hy hm ha;exact r'.zo x b h1 h2 (by rw[hz];exact .inr ⟨y,by omega,h3,h4⟩)
 refine⟨fun x b hl hb=>?_,fun b hb=>LF (r.zl b hb) e.size,fun x y b hx hy h9 ha=>?_,fun x cs b hx hb=>?_⟩
 ·by_cases h8:x<n'
  ·obtain⟨h1,h2⟩:=h7 x b h8 hl hb;exact fun h=>r'.zo x b h1 h2 (by rw[hz];exact .inl h)
  ·obtain⟨h1,h2⟩:=h0 x b h8 hl hb;exact r.zo x b h1 h2
 ·by_cases h8:x<n'
  ·by_cases he:y<n'
   ·obtain⟨h1,h2⟩:=h7 x b h8 hx h9;obtain⟨h3,h4⟩:=h7 y b he hy ha;exact r'.inj x y b h1 h3 h2 h4
   ·exact (hd x y b h8 he hx hy h9 ha).elim
  ·by_cases he:y<n'
   ·exact (hd y x b he h8 hy hx ha h9).elim
   ·obtain⟨h1,h2⟩:=h0 x b h8 hx h9;obtain⟨h3,h4⟩:=h0 y b he hy ha;exact r.inj x y b h1 h3 h2 h4
 ·by_cases h8:x<n'
  ·obtain⟨h1,h2⟩:=h7 x b h8 ⟨cs,hx⟩ hb;exact (r'.blk x cs b (by rw[LN,if_pos h8];exact hx) h2).carry rfl fun c v _ hg=>hg.glue hz hh h6 (by omega)
  ·obtain⟨h1,h2⟩:=h0 x b h8 ⟨cs,hx⟩ hb;rw[h6 x (by omega)]at hx;refine (r.blk x cs b hx h2).carry (e.frame b (r.lt x b h1 h2) (fun y hy hq=>?_)) fun c v _ hg=>hg.evw ew r.lt;obtain⟨h3,h4⟩:=bm hy;have:=r.inj x y b h1 h4 h2 (by simpa[Mu.cut,h3]using hq);omega
end
end
end Go.Ab
namespace Go.Ab
section
variable {P:Program}
theorem gK{fr fr':List V}:∀ {l:List Operand},(∀ o∈l,ev fr o=ev fr' o)->cS fr l=cS fr' l
 | [],_=>rfl
 | o::l,h=>by
  simp only[cS,h o Lv,gK fun x hx=>h x (Lm _ hx)]
theorem kT{fr fr':List V}:∀ {l:List (Nat×Operand)},(∀ o∈l,ev fr o.2=ev fr' o.2)->dh fr l=dh fr' l
 | [],_=>rfl
 | (i,o)::l,h=>by
  simp only[dh,h (i,o) Lv,kT fun x hx=>h x (Lm _ hx)]
theorem gC{fr fr':List V}:∀ {l:List (Nat×Operand)}{i:Nat},(∀ o∈l,ev fr o.2=ev fr' o.2)->bc fr i l=bc fr' i l
 | [],_,_=>rfl
 | (i,o)::l,j,h=>by
  simp only[bc,h (i,o) Lv,gC fun x hx=>h x (Lm _ hx)]
theorem lK{md:FuncId->Nat}{call:aW}{cfg:Cfg}{fr fr':List V}{h:Heap}{op:Op}(hc:∀ o∈op.operands.toList,ev fr o=ev fr' o):aH P md call cfg fr h op=aH P md call cfg fr' h op:=by
 cases op
 case call c =>
  obtain⟨callee,args,tys⟩:=c;have h0:cS fr args.toList=cS fr' args.toList:=gK fun o ho=>hc o (by simp[Op.operands,Call.operands]at ho ⊢;exact .inr ho);cases callee with
  | value f =>
   have hf:ev fr f=ev fr' f:=hc f (by simp[Op.operands,Call.operands]);simp only[aH,hf,h0]
  | invoke r n=>simp only[aH,opV]
  | builtin b=>simp only[aH,opV,h0]
 case build t ps =>
  have hp:dh fr ps.toList=dh fr' ps.toList:=kT fun o ho=>hc o.2 (by simp[Op.operands]at ho ⊢;exact⟨o.1,ho⟩);simp only[aH,opV,hp]
 case buildSlice t n ps =>
  have hp:bc fr 0 ps.toList=bc fr' 0 ps.toList:=gC fun o ho=>hc o.2 (by simp[Op.operands]at ho ⊢;exact⟨o.1,ho⟩);simp only[aH,opV,hp]
 case makeFunc fn f c =>
  have h1:cS fr f.toList=cS fr' f.toList:=gK fun o ho=>hc o (by simp[Op.operands]at ho ⊢;exact .inl ho);have h2:cS fr c.toList=cS fr' c.toList:=gK fun o ho=>hc o (by simp[Op.operands]at ho ⊢;exact .inr ho);simp only[aH,opV,h1,h2]
 case slice t x l hh mx =>
  have h1:ev fr x=ev fr' x:=hc x (by simp[Op.operands]);have h2:l.map (ev fr)=l.map (ev fr'):=by
   cases l with
   | none=>rfl
   | some o=>simp[hc o (by simp[Op.operands])]
  have h3:hh.map (ev fr)=hh.map (ev fr'):=by
   cases hh with
   | none=>rfl
   | some o=>simp[hc o (by simp[Op.operands])]
  cases mx with
  | none=>simp only[aH,opV,h1,h2,h3]
  | some o=>simp only[aH,opV]
 case makeMap t r =>
  cases r with
  | none=>simp only[aH,opV]
  | some o=>simp only[aH,opV]
 all_goals
  simp only[Op.operands,Ly,M0,or_false,forall_eq_or_imp,forall_eq]at hc
  try simp only[aH,opV,hc]
def eY(P:Program):Op->Bool
 | .move _|.assign _|.pick ..|.build ..|.nilCheck _|.binOp ..|.unOp ..|.makeFunc ..|.fieldAddr ..|.field ..|.indexAddr ..|.index ..|.extract ..=>true
 | .load ..|.slice ..|.alloc _|.box ..|.buildSlice ..|.makeSlice ..=>true
 | .makeMap _ none=>true
 | .call { callee:=.builtin b,.. }=>match b with
  | .len|.min|.max=>true
  | _=>false
 | .convert _ d _=>match P.underlying d with
  | some (.int _)=>true
  | _=>false
 | _=>false
def eQ(fr:List V):Op->Option Nat
 | .load _ a=>match ev fr a with
  | some (.ptr b _)=>some b
  | _=>none
 | .slice _ x _ _ _=>match ev fr x with
  | some (.ptr b _)=>some b
  | _=>none
 | _=>none
theorem nQ{h:Heap}{x y:Nat}{o:Option (List V)}(hne:y≠x):ab (h.set x o) y=ab h y:=by
 simp[ab,Li (fun e=>hne e.symm)]
theorem Bb{h:Heap}{x:Nat}{o:Option (List V)}{t:TypeId}{p:V}(hne:∀ b off,p=.ptr b off->b≠x):fE P (h.set x o) t p=fE P h t p:=by
 cases p<;>simp only[fE];rename_i b off;rw[nQ (hne b off rfl)]
theorem yu{h:Heap}{x:Nat}{o:Option (List V)}{t:TypeId}{p:V}{lo hi:Option (Option V)}(hne:∀ b off,p=.ptr b off->b≠x):dz P (h.set x o) t p lo hi=dz P h t p lo hi:=by
 unfold dz;split<;>try rfl
 rename_i n elem b off hu;rw[nQ (hne b off rfl)]
theorem set_push{h:Heap}{x:Nat}{o n:Option (List V)}(hx:x<h.length):(h++[n]).set x o=h.set x o++[n]:=by
 rw[L5 _ _ hx]
theorem Gc{cfg:Cfg}{fr:List V}{h h':Heap}{op:Op}{v:V}{x:Nat}(o:Option (List V))(h0:eY P op=true)(hr:eQ fr op≠some x)(hx:x<h.length)(hv:opV P cfg fr h op=some (v,h')):
  opV P cfg fr (h.set x o) op=some (v,h'.set x o):=by
 have key:∀ {e:Option V},e.map (·,h)=some (v,h')->e.map (·,h.set x o)=some (v,h'.set x o):=by
  intro e he;obtain⟨h1,rfl⟩:=aF he;simp[h1]
 cases op<;>simp only[eY,LH]at h0
 case move y=>exact key hv
 case assign y=>exact key hv
 case pick c a b =>
  simp only[opV]at hv ⊢;split at hv
  ·rename_i hc;(try simp only[hc]);exact key hv
  ·rename_i hc;(try simp only[hc]);exact key hv
  ·cases hv
 case alloc t =>
  simp only[opV]at hv ⊢;split at hv
  ·rename_i z hz;cases hv;simp[set_push hx]
  ·cases hv
 case box t y =>
  simp only[opV]at hv ⊢;split at hv
  ·rename_i z hz;split at hv
   ·rename_i cs h6;cases hv;simp[set_push hx]
   ·cases hv
  ·cases hv
 case build t ps =>
  simp only[opV]at hv ⊢;split at hv
  ·rename_i vs h3;(try simp only[h3]);exact key hv
  ·cases hv
 case buildSlice t n ps =>
  simp only[opV]at hv ⊢;split at hv
  ·rename_i vs h3
   try simp only[h3]
   unfold aI at hv ⊢;split at hv
   ·rename_i e hu
    try simp only[hu]
    split at hv
    ·rename_i s hs
     try simp only[hs]
     split at hv
     ·rename_i cs h6
      try simp only[h6]
      split at hv
      ·rename_i hc;cases hv;rw[if_pos hc];simp[set_push hx]
      ·cases hv
     ·cases hv
    ·cases hv
   ·cases hv
  ·cases hv
 case load t a =>
  simp only[opV]at hv ⊢;split at hv
  ·rename_i p hp
   try simp only[hp]
   rw[Bb (fun b off h4=>by intro e;subst e;subst h4;exact hr (by simp[eQ,hp]))];exact key hv
  ·cases hv
 case nilCheck y =>
  simp only[opV]at hv ⊢;split at hv
  ·rename_i p hp;(try simp only[hp]);exact key hv
  ·cases hv
 case binOp b t y z u =>
  simp only[opV]at hv ⊢;split at hv
  ·rename_i p q hp hq;(try simp only[hp,hq]);exact key hv
  ·cases hv
 case unOp b t y =>
  simp only[opV]at hv ⊢;split at hv
  ·rename_i p hp;(try simp only[hp]);exact key hv
  ·cases hv
 case convert s d y =>
  simp only[opV]at hv ⊢;split at hv
  ·rename_i p hp
   try simp only[hp]
   split at h0
   ·rename_i k hd;unfold fB at hv ⊢;rw[hd]at hv ⊢;split at hv
    ·rename_i h1 h2;cases h2
    ·rename_i k' sd h1 h2;cases h2;split at hv
     ·cases hv;simp_all
     ·cases hv
    ·rename_i h1 h2;cases h2
    ·rename_i h1 h2;cases h2
    ·cases hv
   ·cases h0
  ·cases hv
 case makeFunc fn f c =>
  simp only[opV]at hv ⊢;split at hv
  ·rename_i p q hp hq;cases hv;simp
  ·cases hv
 case makeSlice t l c =>
  simp only[opV]at hv ⊢;split at hv
  ·rename_i p q hp hq
   try simp only[hp,hq]
   unfold cE at hv ⊢;split at hv
   ·rename_i e n m hu
    try simp only[hu]
    split at hv
    ·rename_i s y z hs hy hz
     try simp only[hs,hy,hz]
     split at hv
     ·rename_i hc;cases hv;rw[if_pos hc];simp[set_push hx]
     ·cases hv
    ·cases hv
   ·cases hv
  ·cases hv
 case makeMap t r =>
  cases r with
  | some o=>simp at h0
  | none =>
   simp only[opV]at hv ⊢;unfold dQ at hv ⊢;split at hv
   ·rename_i k e hk;cases hv;simp[set_push hx]
   ·rename_i hk;split at hv
    ·rename_i z hz;cases hv;simp[set_push hx]
    ·cases hv
 case slice t y l hh mx =>
  cases mx with
  | none =>
   simp only[opV]at hv ⊢;split at hv
   ·rename_i p hp
    try simp only[hp]
    rw[yu (fun b off h4=>by intro e;subst e;subst h4;exact hr (by simp[eQ,hp]))];exact key hv
   ·cases hv
  | some o=>simp[opV]at hv
 case fieldAddr s y f =>
  simp only[opV]at hv ⊢;split at hv
  ·rename_i p hp;(try simp only[hp]);exact key hv
  ·cases hv
 case field s y f =>
  simp only[opV]at hv ⊢;split at hv
  ·rename_i p hp;(try simp only[hp]);exact key hv
  ·cases hv
 case indexAddr s y f =>
  simp only[opV]at hv ⊢;split at hv
  ·rename_i p q hp hq;(try simp only[hp,hq]);exact key hv
  ·cases hv
 case index s y f =>
  simp only[opV]at hv ⊢;split at hv
  ·rename_i p q hp hq;(try simp only[hp,hq]);exact key hv
  ·cases hv
 case extract y i =>
  simp only[opV]at hv ⊢;split at hv
  ·rename_i p hp;(try simp only[hp]);exact key hv
  ·cases hv
 case call c =>
  obtain⟨callee,args,tys⟩:=c;cases callee with
  | value f=>simp at h0
  | invoke r n=>simp at h0
  | builtin b =>
   simp only[opV]at hv ⊢;split at hv
   ·cases hv
   ·rename_i vs h3
    try simp only[h3]
    split at hv
    ·exact key hv
    ·simp at h0
    ·exact key hv
    ·exact key hv
    ·simp at h0
    ·cases hv
end
end Go.Ab
namespace Go.Ab
section
variable {P:Program}{ops:Array Oper}{Q:Exit->Act->World->Prop}
def Ready(S:Nat->Bool)(o:Oper):Prop:=∀ e∈o.after.toList,Region.binds .any e=true->S e.on=true
def Closed(ops:Array Oper)(S:Nat->Bool):Prop:=∀ i o,ops[i]?=some o->S i=true->Ready S o
def bI(S:Nat->Bool)(i:Nat):Nat->Bool:=fun j=>if j=i then true else S j
theorem Ready.add{S:Nat->Bool}{o:Oper}{i:Nat}(h:Ready S o):Ready (bI S i) o:=fun e he hb=>by
 unfold bI;split
 ·rfl
 ·exact h e he hb
theorem Closed.add{S:Nat->Bool}{i:Nat}{o:Oper}(hi:ops[i]?=some o)(hr:Ready S o)(h:Closed ops S):Closed ops (bI S i):=fun j oj hj h0=>by
 by_cases h3:j=i
 ·subst h3;rw[hi]at hj;cases hj;exact hr.add
 ·simp only[bI,h3,if_false]at h0;exact (h j oj hj h0).add
def xi(ops:Array Oper):Prop:=∀ i o,ops[i]?=some o->∀ e∈o.after.toList,Region.binds .any e=true->e.on<i
def setOf(listed:Array Bool):Nat->Bool:=fun i=>listed.getD i false
theorem de{listed:Array Bool}{i:Nat}(hi:i<listed.size):setOf (listed.setIfInBounds i true)=bI (setOf listed) i:=by
 funext j;unfold setOf bI;by_cases h0:j=i
 ·subst h0;simp[hi]
 ·have:i≠j:=fun e=>h0 e.symm;simp[h0,Mg,M6 this]
theorem mem_ready{listed:Array Bool}{i:Nat}(hs:listed.size=ops.size):i∈Region.ready .any ops listed↔∃ o,ops[i]?=some o/\setOf listed i=false/\Ready (setOf listed) o:=by
 unfold Region.ready Ready setOf;simp only[List.mem_filter,NY,Lq,Mx];constructor
 ·rintro⟨hi,hl,ha⟩;have ho:ops[i]?=some ops[i]:=Lr hi;have h0:i<listed.size:=by omega
  refine⟨ops[i],ho,by simpa[Mg,h0]using hl,?_⟩;rw[ho]at ha;simp only[LW,MU,Array.all_eq_true]at ha;intro e he hb;obtain⟨k,hk,rfl⟩:=Ma he;have:=ha k (by simpa using hk);simp only[Md,Mx]at this;rcases this with h|h
  ·simp only[Array.getElem_toList]at hb;rw[hb]at h;cases h
  ·simpa using h
 ·rintro⟨o,ho,hl,ha⟩;have hi:i<ops.size:=(Lz.1 ho).1;have h0:i<listed.size:=by omega
  refine⟨hi,by simpa[Mg,h0]using hl,?_⟩;rw[ho];simp only[LW,MU,Array.all_eq_true];intro k hk;simp only[Md,Mx];by_cases hb:Region.binds .any o.after[k]=true
  ·exact .inr (ha o.after[k] (by simp) hb)
  ·exact .inl (by simpa using hb)
def iQ(listed:Array Bool):Nat:=listed.toList.count false
theorem lu{listed:Array Bool}{i:Nat}(hi:i<listed.size)(hf:setOf listed i=false):iQ (listed.setIfInBounds i true)+1=iQ listed:=by
 unfold iQ;have h1:listed[i]=false:=by simpa[setOf,Mg,hi]using hf
 have h0:i<listed.toList.length:=by simpa using hi
 have h2:listed.toList[i]=false:=by simpa using h1
 rw[Array.toList_setIfInBounds,List.count_set h0,h2,if_pos (by decide:(false==false)=true),if_neg (by decide:¬ (true==false)=true)];have h3:0<listed.toList.count false:=List.count_pos_iff.2 (by rw[<- h1];simp);omega
theorem nR{listed:Array Bool}(h0:iQ listed=0){i:Nat}(hi:i<listed.size):setOf listed i=true:=by
 unfold iQ at h0;rw[List.count_eq_zero]at h0;have:listed[i]≠false:=fun e=>h0 (by rw[<- e];simp);simpa[setOf,Mg,hi]using this
theorem gW(h0:xi ops){listed:Array Bool}(hs:listed.size=ops.size)(hr:Region.ready .any ops listed=[]):∀ i,i<ops.size->setOf listed i=true:=by
 intro i
 induction i using Nat.strongRecOn with
 | _ i ih =>
  intro hi;by_cases hl:setOf listed i=true
  ·exact hl
  ·have ho:ops[i]?=some ops[i]:=Lr hi;have:i∈Region.ready .any ops listed:=(mem_ready hs).2 ⟨ops[i],ho,by simpa using hl,fun e he hb=>by
    have h3:=h0 i _ ho e he hb;exact ih e.on h3 (by omega)⟩
   rw[hr]at this;cases this
theorem nk(h3:xi ops)(J:(Nat->Bool)->Act->World->Prop)
  (h4:∀ S a w,J S a w->Closed ops S->∀ i o,ops[i]?=some o->S i=false->Ready S o->wpOp P ops Q i (J (bI S i)) a w)
  (h6:∀ S a w,J S a w->(∀ i,i<ops.size->S i=true)->Q .normal a w):∀ (fuel:Nat) (listed:Array Bool) (a:Act) (w:World),listed.size=ops.size->iQ listed=fuel->Closed ops (setOf listed)->J (setOf listed) a w ->
  wpAny P .any ops Q fuel listed a w
 | 0,listed,a,w,hs,hc,_,hj=>by
  have h7:∀ i,i<ops.size->setOf listed i=true:=fun i hi=>nR hc (by omega);refine⟨?_,h6 _ a w hj h7⟩;apply M9.2;intro i hi;obtain⟨o,ho,hf,_⟩:=(mem_ready hs).1 hi;rw[h7 i (Lz.1 ho).1]at hf;cases hf
 | fuel+1,listed,a,w,hs,hc,h9,hj=>by
  refine⟨fun hr=>h6 _ a w hj (gW h3 hs hr),fun i hi=>?_⟩;obtain⟨o,ho,hf,h0⟩:=(mem_ready hs).1 hi;have ha:i<listed.size:=by rw[hs];exact (Lz.1 ho).1
  refine wpOp_mono (fun a' w' hd=>?_) (h4 _ a w hj h9 i o ho hf h0);have h8:=de ha;refine nk h3 J h4 h6 fuel _ a' w' (by simp[hs]) ?_ ?_ (by rw[h8];exact hd)
  ·have:=lu ha hf;omega
  ·rw[h8];exact h9.add ho h0
theorem rK(hm:P.follows .mixedOrders=true)(h3:xi ops)(J:(Nat->Bool)->Act->World->Prop)
  (h4:∀ S a w,J S a w->Closed ops S->∀ i o,ops[i]?=some o->S i=false->Ready S o->wpOp P ops Q i (J (bI S i)) a w)
  (h7:∀ S a w,J S a w->(∀ i,i<ops.size->S i=true)->Q .normal a w) {id:Nat} {a:Act} {w:World} (h0:J (fun _=>false) a { w with drawn:=w.drawn+1 }):(Code.region id ops true).wp P Q a w:=by
 have h6:setOf (Array.replicate ops.size false)=fun _=>false:=by
  funext i;simp[setOf,Mg,Na];split<;>rfl
 refine wp_region_any hm (nk h3 J h4 h7 ops.size _ a _ (by simp) ?_ ?_ ?_)
 ·simp[iQ]
 ·rw[h6];intro i o _ h;cases h
 ·rw[h6];exact h0
/-! ### What comes before what, by bits -/
def oO(acc:List Nat)(o:Oper):Nat:=o.after.toList.foldl (fun s e=>if Region.binds .any e then s ||| 2 ^ e.on ||| acc.getD e.on 0 else s) 0
def ju:List Nat->List Oper->List Nat
 | acc,[]=>acc
 | acc,o::r=>ju (acc++[oO acc o]) r
theorem rT:∀ (l:List Oper) (acc:List Nat),(∀ j,j<acc.length->(ju acc l)[j]?=acc[j]?)/\∀ j o,l[j]?=some o->(ju acc l)[acc.length+j]?=some (oO ((ju acc l).take (acc.length+j)) o)
 | [],acc=>⟨fun _ _=>rfl,fun j o h=>by simp at h⟩
 | o::r,acc=>by
  obtain⟨h1,h2⟩:=rT r (acc++[oO acc o]);refine⟨fun j hj=>?_,fun j oj hj=>?_⟩
  ·simp only[ju];rw[h1 j (by simp;omega),Lf hj]
  ·cases j with
   | zero =>
    simp only[Nr,Ll]at hj;subst hj;simp only[ju,MT];rw[h1 acc.length (by simp)];simp only[List.getElem?_concat_length,Ll];congr 1;apply LY;intro q;rw[LN];split
    ·rename_i hq;rw[h1 q (by simp;omega),Lf hq]
    ·rename_i hq;rw[Lw (by omega)]
   | succ j =>
    have:=h2 j oj (by simpa using hj);simp only[Lt,Ml]at this;simp only[ju];rw[show acc.length+(j+1)=acc.length+1+j by omega];exact this
theorem nj(acc:List Nat)(i:Nat):∀ (es:List Edge) (s:Nat),(es.foldl (fun s e=>if Region.binds .any e then s ||| 2 ^ e.on ||| acc.getD e.on 0 else s) s).testBit i=true ->
  s.testBit i=true\/∃ e∈es,Region.binds .any e=true/\(i=e.on\/(acc.getD e.on 0).testBit i=true)
 | [],s,h=>.inl h
 | e::es,s,h=>by
  rw[MP]at h;rcases nj acc i es _ h with h|⟨e',h0,hb,h⟩
  ·split at h
   ·rename_i hb;simp only[Nat.testBit_or,Md,Nat.testBit_two_pow,decide_eq_true_eq]at h;rcases h with (h|h)|h
    ·exact .inl h
    ·exact .inr ⟨e,Lv,hb,.inl h.symm⟩
    ·exact .inr ⟨e,Lv,hb,.inr h⟩
   ·exact .inl h
  ·exact .inr ⟨e',Lm _ h0,hb,h⟩
def ord(ops:Array Oper)(i j:Nat):Bool:=((ju [] ops.toList).getD j 0).testBit i
theorem cN(h3:xi ops){S:Nat->Bool}(h7:Closed ops S){i:Nat}:∀ (j:Nat) (o:Oper),ops[j]?=some o->Ready S o->ord ops i j=true->S i=true:=by
 intro j
 induction j using Nat.strongRecOn with
 | _ j ih =>
  intro o ho hr h0;unfold ord at h0;have hm:=(rT ops.toList []).2 j o (by simpa using ho);simp only[Me,L3]at hm;rw[Lg,hm,MU,oO]at h0;rcases nj _ i _ 0 h0 with h|⟨e,he,hb,h⟩
  ·simp at h
  ·have h4:=h3 j o ho e he hb;have hS:=hr e he hb;rcases h with rfl|h
   ·exact hS
   ·have h8:j<ops.size:=(Lz.1 ho).1;have h6:ops[e.on]?=some ops[e.on]:=Lr (by omega);refine ih e.on h4 _ h6 (h7 e.on _ h6 hS) ?_;unfold ord;rw[Lg]at h ⊢;rw[LN,if_pos h4]at h;exact h
end
end Go.Ab
