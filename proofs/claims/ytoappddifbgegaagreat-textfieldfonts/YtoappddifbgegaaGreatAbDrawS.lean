/- Several texts of this proof in one. -/
import Derived.Test.YtoappddifbgegaaGreatAbDraw4
set_option linter.all false
namespace Go.Ab
section
variable {P:Program}{ops:Array Oper}
theorem kV{cfg:Cfg}{fr:List V}{h h':Heap}{op:Op}{v:V}(h0:eF P op=true)(hv:opV P cfg fr h op=some (v,h')):h'=h\/∃ n,h'=h++[n]:=by
 cases op<;>simp only[eF,Lv]at h0
 case call c =>
  obtain⟨callee,args,tys⟩:=c;cases callee with
  | value f=>grind
  | invoke r n=>grind
  | builtin b =>
   simp only[opV]at hv;split at hv
   ·cases hv
   ·split at hv
    ·exact .inl (ay hv).2
    ·grind
    ·exact .inl (ay hv).2
    ·exact .inl (ay hv).2
    ·grind
    grind
 case convert s d y =>
  simp only[opV]at hv;split at hv
  ·split at h0
   ·rename_i k hd;unfold eh at hv
    grind
   grind
  grind
 case makeMap t r =>
  cases r with
  | some o=>simp_all
  | none =>
   simp only[opV]at hv;unfold dA at hv
   grind
 case slice t y l hh mx =>
  cases mx with
  | none =>
   simp only[opV]at hv;split at hv
   ·exact .inl (ay hv).2
   grind
  | some o=>grind[opV]
 all_goals
  simp only[opV]at hv
  repeat' split at hv
  all_goals first
   | (cases hv;done)
   | exact .inl (ay hv).2
   | (cases hv;simp)
   | (unfold aI at hv;grind)
   | (unfold cB at hv;grind)
theorem rX{c:Cfg}{fr:List V}{h h':Heap}{t:TypeId}{p y:Operand}{v:V}(hv:opV P c fr h (.store t p y)=some (v,h')):h'.length=h.length:=by
 simp only[opV]at hv;split at hv
 ·split at hv
  ·rename_i h1 hs;cases hv;unfold aN at hs
   grind[aJ]
  grind
 grind
theorem qS{c:Cfg}{fr:List V}{h h':Heap}{t:TypeId}{p y:Operand}{v:V}{b off:Nat}(hp:ev fr p=some (.ptr b off))(hv:opV P c fr h (.store t p y)=some (v,h')):∃ cs,ab h b=some cs:=by
 simp only[opV,hp]at hv;split at hv
 ·rename_i q z hq hz;cases hq;split at hv
  ·rename_i h1 hs;unfold aN at hs
   grind[aJ]
  grind
 grind
def Kind(P:Program)(md:FuncId->Nat)(call:aF)(cfg:Cfg)(n0:Nat)(ops:Array Oper)(o:Oper)(fr:List V)(h:Heap)(v:V)(h':Heap)(x:List Nat):Prop:=
 (cy ops fr o=some false/\v=.no/\h'=h) \/
 (cy ops fr o=some true/\aU o=false/\eF P o.op=true/\opV P cfg fr h o.op=some (v,h')/\∀ b∈x,eJ fr o.op≠some b) \/
 (cy ops fr o=some true/\aU o=true/\h.length<=h'.length/\∃ c:Cfg,c.thr=h.length/\aB P md call c fr h o.op=some (v,h')/\(∀ b,b<h.length->¬ b∈x->c.wr b=false) /\
  (∀ b,n0<=b->b<h.length->c.wr b=true->∃ t p y off cs,o.op=.store t p y/\ev fr p=some (.ptr b off)/\ab h b=some cs))
theorem Bl(_hN:ck P){md:FuncId->Nat}{call:aF}(h0:bA P call){cfg:Cfg}{n0:Nat}{o:Oper}{fr:List V}{h h':Heap}{x x':List Nat}{ld ld':List Nat}{v:V}
  (hs:cL P md call cfg n0 ops o fr h x ld=some (v,h',x',ld')):
  (∀ b∈x,b∈x')/\(∀ b∈x',b∈x\/cfg.wr b=true)/\(∀ b∈ld,b∈ld') /\
   ∀ y:List Nat,(∀ b∈x',b∈y)->(∀ b∈y,¬ b∈ld')->Kind P md call cfg n0 ops o fr h v h' y:=by
 unfold cL at hs;split at hs
 ·cases hs
 ·rename_i hw;simp only[K7,Lj]at hs;obtain⟨rfl,rfl,rfl,rfl⟩:=hs;exact⟨fun b h=>h,fun b h=>.inl h,fun b h=>h,fun y _ _=>.inl ⟨hw,rfl,rfl⟩⟩
 ·rename_i hw;split at hs
  ·rename_i f args tys ha;have h4:aU o=true:=by grind[aU]
   split at hs
   ·rename_i g first captured vs hf hg
    split at hs
    ·rename_i hm;split at hs
     ·rename_i v1 h1 hc;simp only[K7,Lj]at hs;obtain⟨rfl,rfl,rfl,rfl⟩:=hs;obtain⟨h6,_⟩:=gN h0 hc;refine⟨fun b h=>h,fun b h=>.inl h,fun b h=>h,fun y _ _=>.inr (.inr ⟨hw,h4,h6.len,⟨h.length,[],h.length⟩,rfl,?_,fun b hb _=>?_,fun b _ hb h8=>?_⟩)⟩<;>grind[aB,Cfg.wr]
     grind
    ·rename_i hm;split at hs
     ·rename_i v1 h1 hc;simp only[K7,Lj]at hs;obtain⟨rfl,rfl,rfl,rfl⟩:=hs;obtain⟨h6,_⟩:=gN h0 hc;refine⟨fun b h=>h,fun b h=>.inl h,fun b h=>h,fun y _ _=>.inr (.inr ⟨hw,h4,h6.len,⟨h.length,[],h.length⟩,rfl,?_,fun b hb _=>?_,fun b _ hb h8=>?_⟩)⟩<;>grind[aB,Cfg.wr]
     grind
    ·rename_i hm;split at hs
     ·rename_i b off rest has;split at hs
      ·rename_i h3;simp only[Ld,decide_eq_true_eq]at h3;split at hs
       ·rename_i v1 h1 hc;simp only[K7,Lj]at hs;obtain⟨rfl,rfl,rfl,rfl⟩:=hs;rw[has]at hc;obtain⟨h6,_⟩:=gN h0 hc;refine⟨fun c h7=>Lc _ h7,fun c h7=>?_,fun b h=>h,fun y hy _=>.inr (.inr ⟨hw,h4,h6.len,⟨h.length,[b],h.length⟩,rfl,?_,fun c h9 hd=>?_,fun c he h9 h8=>?_⟩)⟩
        ·grind
        ·grind[aB]
        ·grind[List.mem_cons_self,Cfg.wr]
        grind[Cfg.wr]
       grind
      grind
     grind
    ·rename_i hm;split at hs
     ·rename_i v1 h1 hc;simp only[K7,Lj]at hs;obtain⟨rfl,rfl,rfl,rfl⟩:=hs;obtain⟨h6,_⟩:=gN h0 hc;refine⟨fun b h=>h,fun b h=>.inl h,fun b h=>h,fun y _ _=>.inr (.inr ⟨hw,h4,h6.len,⟨h.length,[],h.length⟩,rfl,?_,fun b hb _=>?_,fun b _ hb h8=>?_⟩)⟩<;>grind[aB,Cfg.wr]
     grind
    ·split at hs
     ·rename_i h3;simp only[Ld,Lk,decide_eq_true_eq]at h3;split at hs
      ·rename_i v1 h1 hc;simp only[K7,Lj]at hs;obtain⟨rfl,rfl,rfl,rfl⟩:=hs;obtain⟨h6,_⟩:=gN h0 hc;refine⟨fun c h7=>List.mem_append_right _ h7,fun c h7=>?_,fun b h=>h,fun y hy _=>.inr (.inr ⟨hw,h4,h6.len,⟨h.length,mapsIn h,h.length⟩,rfl,?_,fun c h9 hd=>?_,fun c he h9 h8=>?_⟩)⟩<;>grind[aB,mapsIn,List.mem_append_left,Cfg.wr]
      grind
     grind
   grind
  ·rename_i t p y ha;have h4:aU o=true:=by grind[aU]
   split at hs
   ·rename_i b off hp;split at hs
    ·rename_i h3;split at hs
     ·rename_i v1 h1 hv;simp only[K7,Lj]at hs;obtain⟨rfl,rfl,rfl,rfl⟩:=hs;refine⟨fun c h7=>Lc _ h7,fun c h7=>?_,fun b h=>h,fun y' hy _=>.inr (.inr ⟨hw,h4,by rw[rX hv];omega,⟨h.length,[b],h.length⟩,rfl,?_,fun c h9 hd=>?_,fun c he h9 h8=>?_⟩)⟩
      ·grind
      ·rw[ha];exact hv
      ·grind[List.mem_cons_self,Cfg.wr]
      grind[Cfg.wr,qS]
     grind
    grind
   grind
  ·rename_i hj hl;have h4:aU o=false:=by
    grind[aU,absurd]
   split at hs
   ·rename_i hh;split at hs
    ·rename_i v1 h1 hv;simp only[K7,Lj]at hs;obtain⟨rfl,rfl,rfl,rfl⟩:=hs;refine⟨fun b h=>h,fun b h=>.inl h,fun b h=>?_,fun y hy hn=>.inr (.inl ⟨hw,h4,hh,hv,fun b hb hr=>?_⟩)⟩<;>grind
    grind
   grind
structure Tr(P:Program)(md:FuncId->Nat)(call:aF)(cfg:Cfg)(ops:Array Oper)(N:Nat)(x:List Nat)(F:Nat->List V)(H:Nat->Heap)(v:Nat->V):Prop where
 xwr:∀ b∈x,cfg.wr b=true
 step:∀ i o,i<N->ops[i]?=some o->F (i+1)=put (F i) o.dst (v i)/\Kind P md call cfg (H 0).length ops o (F i) (H i) (v i) (H (i+1)) x
theorem EM{p:Nat->Prop}{N:Nat}(hs:∀ i,i<N->p i->p (i+1)){i:Nat}(hi:p i):∀ (j:Nat),i<=j->j<=N->p j:=by
 intro j h0
 induction h0 with
 | refl=>simp_all
 | step _ ih=>grind
theorem B8(hN:ck P){md:FuncId->Nat}{call:aF}(h0:bA P call){cfg:Cfg}{N:Nat}(hle:N<=ops.size){fr fr1:List V}{h h1:Heap}{x:List Nat}{ld:List Nat}
  (hr:cW P md call cfg h.length ops (ops.toList.take N) fr h [] []=some (fr1,h1,x,ld)) (hx:nu ld x=true):
  ∃ F H v,F 0=fr/\H 0=h/\F N=fr1/\H N=h1/\Tr P md call cfg ops N x F H v:=by
 obtain⟨F,H,X,D,v,e1,e2,e3,e4,e5,e6,e7,e8,h6⟩:=qB _ _ _ _ _ hr;have hlen:(ops.toList.take N).length=N:=by grind
 rw[hlen]at e5 e6 e7 e8;have h3:∀ i o,i<N->ops[i]?=some o->(ops.toList.take N)[i]?=some o:=fun i o hi ho=>by grind
 have info:=fun i o (hi:i<N) (ho:ops[i]?=some o)=>Bl hN h0 (h6 i o (h3 i o hi ho)).1
 -- x and ld only grow
 have h7:∀ i,i<=N->∀ b∈X i,b∈x:=by
  intro i hi b hb;rw[<- e7];exact EM (p:=fun j=>b∈X j) (N:=N) (fun j hj h4=>(info j ops[j] hj (Lf (by omega))).1 b h4) hb N hi (La _)
 have h8:∀ i,i<=N->∀ b∈D i,b∈ld:=by
  intro i hi b hb;rw[<- e8];exact EM (p:=fun j=>b∈D j) (N:=N) (fun j hj h4=>(info j ops[j] hj (Lf (by omega))).2.2.1 b h4) hb N hi (La _)
 have h9:∀ b∈x,¬ b∈ld:=by
  intro b hb;have h1:=Lk.1 hx b hb;simp_all
 refine⟨F,H,v,e1,e2,e5,e6,fun b hb=>?_,fun i o hi ho=>?_⟩
 ·have key:∀ i,i<=N->∀ b∈X i,cfg.wr b=true:=by
   intro i
   induction i with
   | zero=>simp_all
   | succ i ih =>
    intro hi b hb;rcases (info i ops[i] (by omega) (Lf (by omega))).2.1 b hb with h1|h1<;>grind
  grind
 grind
end
end Go.Ab
namespace Go.Ab
variable [Base]
theorem Bel.mono{s t:Nat}(h0:s<=t){v:V}(h:Bel s v):Bel t v:=by
 induction h with
 | rf h=>exact .rf h
 | ptr h=>exact .ptr (by omega)
 | sl h=>exact .sl (by omega)
 | mref h=>exact .mref (by omega)
 | func _ _ ih ih'=>exact .func ih ih'
 | agg _ ih=>exact .agg ih
 | tup _ ih=>exact .tup ih
 | iface _ ih=>exact .iface ih
section
variable {P:Program}{md:FuncId->Nat}{call:aF}{cfg:Cfg}{ops:Array Oper}{N:Nat}{x:List Nat}{F:Nat->List V}{H:Nat->Heap}{v:Nat->V}
theorem Tr.len1(tr:Tr P md call cfg ops N x F H v)(hle:N<=ops.size){i:Nat}(hi:i<N):(H i).length<=(H (i+1)).length:=by
 obtain⟨_,hk⟩:=tr.step i ops[i] hi (Lf (by omega));rcases hk with⟨_,_,h⟩|⟨_,_,h1,h2,_⟩|⟨_,_,h,_⟩
 ·simp_all
 ·rcases kV h1 h2 with h|⟨n,h⟩<;>rw[h]<;>simp
 ·omega
theorem Tr.len(tr:Tr P md call cfg ops N x F H v)(hle:N<=ops.size){i j:Nat}(h0:i<=j)(hj:j<=N):(H i).length<=(H j).length:=
 EM (p:=fun j=>(H i).length<=(H j).length) (N:=N) (fun _ hk h=>L9 h (tr.len1 hle hk)) (La _) j h0 hj
theorem Tr.hs(hN:ck P)(h0:bA P call)(tr:Tr P md call cfg ops N x F H v)(hle:N<=ops.size){i:Nat}(hi:i<N):
  (∀ b,b<(H i).length->¬ b∈x->(H (i+1))[b]?=(H i)[b]?)/\(aU ops[i]=false->∀ b,b<(H i).length->(H (i+1))[b]?=(H i)[b]?)/\(∀ (D:Nat->Prop) (t:Nat),t<=(H i).length->Inv D (H i) t->Inv D (H (i+1)) t):=by
 obtain⟨_,hk⟩:=tr.step i ops[i] hi (Lf (by omega));rcases hk with⟨_,_,h⟩|⟨_,h4,h1,h2,_⟩|⟨_,h4,_,c,h6,h7,h8,_⟩
 ·simp_all
 ·have key:∀ b,b<(H i).length->(H (i+1))[b]?=(H i)[b]?:=by
   grind[kV,List.getElem?_append_left]
  refine⟨fun b hb _=>key b hb,fun _ b hb=>key b hb,fun D t ht hinv b cs hb hD hc c h9=>?_⟩;rw[key b (by omega)]at hc;exact hinv b cs hb hD hc c h9
 ·obtain⟨_,h3⟩:=eG hN h0 h7;refine⟨fun b hb hx=>h3.prot b hb (h8 b hb hx),(fun h=>by simp_all),fun D t ht hinv=>h3.inv D t (by omega) ht hinv⟩
theorem Tr.same(hN:ck P)(h0:bA P call)(tr:Tr P md call cfg ops N x F H v)(hle:N<=ops.size){i j b:Nat}(h3:i<=j)(hj:j<=N)(hb:b<(H i).length)(hx:¬ b∈x):(H j)[b]?=(H i)[b]?:=by
 have:=EM (p:=fun j=>b<(H j).length/\(H j)[b]?=(H i)[b]?) (N:=N) (fun k hk h=>⟨Lu h.1 (tr.len1 hle hk),((tr.hs hN h0 hle hk).1 b h.1 hx).trans h.2⟩) ⟨hb,rfl⟩ j h3 hj
 grind
theorem Tr.xsame(hN:ck P)(h0:bA P call)(tr:Tr P md call cfg ops N x F H v)(hle:N<=ops.size){i j b:Nat}(h3:i<=j)(hj:j<=N)(hb:b<(H i).length)(h4:∀ k (hk:k<ops.size),i<=k->k<j->aU ops[k]=false):(H j)[b]?=(H i)[b]?:=by
 have:=EM (p:=fun q=>b<(H q).length/\(H q)[b]?=(H i)[b]?/\i<=q) (N:=j) (fun k hk h=>⟨Lu h.1 (tr.len1 hle (by omega)),((tr.hs hN h0 hle (by omega)).2.1 (h4 k (by omega) h.2.2 hk) b h.1).trans h.2.1,by omega⟩) ⟨hb,rfl,La _⟩ j h3 (La _)
 grind
def fa(h:Heap)(src:Nat->Option (List V)):List Nat->Heap
 | []=>h
 | b::r=>(fa h src r).set b (src b)
theorem dD(h:Heap)(src:Nat->Option (List V)):∀ x,(fa h src x).length=h.length
 | []=>rfl
 | b::r=>by rw[fa,LC,dD h src r]
theorem gw{h:Heap}{src:Nat->Option (List V)}{b:Nat}:∀ {x:List Nat},¬ b∈x->(fa h src x)[b]?=h[b]?
 | [],_=>rfl
 | c::r,hb=>by
  rw[fa,Lb (fun e=>hb (by simp_all)),gw fun h=>hb (Lc _ h)]
theorem im{h:Heap}{src:Nat->Option (List V)}{b:Nat}(h1:b<h.length):∀ {x:List Nat},b∈x->(fa h src x)[b]?=some (src b)
 | c::r,hb=>by
  rw[fa];by_cases h0:c=b
  ·grind[List.getElem?_set_self,dD]
  ·rw[Lb h0];rcases Lt.1 hb with h|h
   ·omega
   ·exact im h1 h
theorem bE{h:Heap}{b:Nat}{o:Option (List V)}(hb:h[b]?=some o):h.set b o=h:=by
 apply LJ
 grind
theorem qR{cfg:Cfg}{fr:List V}{h h':Heap}{src:Nat->Option (List V)}{op:Op}{v:V}(h0:eF P op=true)(hv:opV P cfg fr h op=some (v,h'))(hle:h.length<=h'.length):∀ {x:List Nat},(∀ b∈x,eJ fr op≠some b)->(∀ b∈x,h.length<=b->b<h'.length->h'[b]?=some (src b)) ->
  opV P cfg fr (fa h src x) op=some (v,fa h' src x)
 | [],_,_=>hv
 | b::r,hr,hx=>by
  have ih:=qR (src:=src) h0 hv hle (x:=r) (fun c hc=>hr c (Lc _ hc)) fun c hc=>hx c (Lc _ hc);by_cases hb:b<h.length
  ·exact Gu _ h0 (hr b Ll) (by grind[dD]) ih
  ·rw[fa,fa,Nw (by grind[dD])];by_cases h3:b<h'.length
   ·rw[bE]
    ·exact ih
    grind[im,gw,List.mem_cons_self]
   grind[List.set_eq_of_length_le,dD]
def bi(H:Nat->Heap)(b:Nat):Nat->Nat
 | 0=>0
 | n+1=>if b<(H (bi H b n)).length then bi H b n else n+1
theorem lR(H:Nat->Heap)(b:Nat):∀ n,(∀ j,j<bi H b n->¬ b<(H j).length)/\bi H b n<=n/\∀ j,j<=n->b<(H j).length->b<(H (bi H b n)).length
 | 0=>⟨fun j hj=>by grind[bi],La _,fun j hj h=>by
   obtain rfl:j=0:=by omega
   exact h⟩
 | n+1=>by
  obtain⟨h1,h2,h3⟩:=lR H b n;unfold bi
  grind
theorem uQ{H:Nat->Heap}{b N i:Nat}(hb:b<(H i).length):bi H b N<=i:=by
 grind[Nat.lt_or_ge,bi,absurd,lR]
theorem si{H:Nat->Heap}{b N i:Nat}(hi:i<=N)(hb:b<(H i).length):b<(H (bi H b N)).length:=(lR H b N).2.2 i hi hb
theorem bi_at{H:Nat->Heap}{b N a:Nat}(hm:∀ j,j<=a->(H j).length<=(H a).length)(ha:a+1<=N)(h1:(H a).length<=b)(h2:b<(H (a+1)).length):bi H b N=a+1:=by
 have h3:=uQ (N:=N) h2
 grind[si,Nat.lt_or_ge,bi]
def src(H:Nat->Heap)(N k b:Nat):Option (List V):=(H (max k (bi H b N))).getD b none
def G(H:Nat->Heap)(N:Nat)(x:List Nat)(k:Nat):Heap:=fa (H N) (src H N k) x
theorem lN(k:Nat):(G H N x k).length=(H N).length:=dD _ _ _
theorem lO{k b:Nat}(hx:¬ b∈x):(G H N x k)[b]?=(H N)[b]?:=gw hx
theorem yQ(tr:Tr P md call cfg ops N x F H v)(hle:N<=ops.size){k b i:Nat}(hk:k<=N)(hi:i<=N)(hb:b<(H i).length):(H (max k (bi H b N)))[b]?=some (src H N k b):=by
 have h1:=si hi hb;have h2:=(lR H b N).2.1;have h3:b<(H (max k (bi H b N))).length:=Lu h1 (tr.len hle (by omega) (by omega))
 grind[src,List.getElem?_eq_getElem]
theorem G_x(tr:Tr P md call cfg ops N x F H v)(hle:N<=ops.size){k b:Nat}(hk:k<=N)(hx:b∈x)(h1:b<(H N).length):(G H N x k)[b]?=(H (max k (bi H b N)))[b]?:=by
 unfold G;rw[im h1 hx,yQ tr hle hk (La _) h1]
def Hx(H:Nat->Heap)(N:Nat)(x:List Nat)(k i:Nat):Heap:=fa (H i) (src H N k) x
theorem pD(hN:ck P)(h0:bA P call)(tr:Tr P md call cfg ops N x F H v)(hle:N<=ops.size){i k:Nat}(hi:i<=N):(G H N x k).take (H i).length=Hx H N x k i:=by
 have hl:=tr.len hle hi (La _);apply LJ;intro b;rw[L7];split
 ·rename_i hb;by_cases hx:b∈x
  ·grind[G,Hx,im]
  ·rw[lO hx,tr.same hN h0 hle hi (La _) hb hx]
   grind[Hx,gw]
 grind[Hx,List.getElem?_eq_none,dD]
theorem oU(tr:Tr P md call cfg ops N x F H v)(hle:N<=ops.size){i k:Nat}(hi:i<=N)(hk:k<=N)(h0:∀ b∈x,b<(H i).length->(H i)[b]?=(H (max k (bi H b N)))[b]?):Hx H N x k i=H i:=by
 unfold Hx;apply LJ
 grind[im,yQ,List.getElem?_eq_none,dD,gw]
structure JH(ops:Array Oper)(N:Nat)(x:List Nat)(F:Nat->List V)(H:Nat->Heap)(v:Nat->V)(m0:Mu)(w0:World)(S:Nat->Bool)(a:Act)(w:World)(m:Mu)(k:Nat):Prop where
 kle:k<=N
 kcall:∀ i (hi:i<ops.size),i<N->aU ops[i]=true->(S i=true↔i<k)
 tail:∀ i,N<=i->S i=false
 born:∀ b∈x,∀ c,c<N->(H c).length<=b->b<(H (c+1)).length->S c=false->(H (max k (c+1)))[b]?=(H (c+1))[b]?
 evo:Evo m0 (H 0) w0 m (G H N x k) w
 rel:Rel m (G H N x k) w
 fR:FR m (G H N x k) w (frS ops v S (F 0) N) a
 dom:∀ b c,live (G H N x k) b->m b=some c->b<(H 0).length\/∃ i,S i=true/\i<N/\(H i).length<=b/\b<(H (i+1)).length
 bel:∀ b c cs,(G H N x k)[b]?=some (some cs)->m b=some c->∀ j,j<=N->b<(H j).length->∀ e∈cs,Bel (H j).length e
 vb:∀ i,S i=true->i<N->Bel (H (i+1)).length (v i)
theorem Ha(tr:Tr P md call cfg ops N x F H v)(hle:N<=ops.size){i:Nat}(hi:i<=N):F i=frS ops v (fun _=>true) (F 0) i:=by
 induction i with
 | zero=>rfl
 | succ i ih =>
  have ho:ops[i]?=some ops[i]:=Lf (by omega);rw[(tr.step i ops[i] (by omega) ho).1,ih (by omega)];simp[frS,ho]
theorem Av(st:Static P ops N)(tr:Tr P md call cfg ops N x F H v){S:Nat->Bool}(h3:Closed ops S){i:Nat}{o:Oper}(hi:i<N)(ho:ops[i]?=some o)(hS:S i=false)(hr:Ready S o){s:Nat}(hs:s∈o.looksAt ops):
  (frS ops v S (F 0) N)[s]?=(F i)[s]?:=by
 rw[Ha tr st.le (by omega:i<=N),<- Bc (ops:=ops) (v:=v) (fr:=F 0) N (by omega:i<=N)];refine C7 N fun j oj hj h0=>?_;by_cases h4:j<i
 ·simp only[h4,decide_true];by_cases h6:S j=true
  ·simp_all
  ·right;rcases st.head j i oj o h4 hi h0 ho with h|⟨h,_⟩
   ·exact absurd (bm st.back h3 i o ho hr h) h6
   grind[Oper.apart_spec]
 ·simp only[h4,decide_false];by_cases h6:S j=true
  ·right;have h7:i<j:=by
    grind
   rcases st.head i j o oj h7 hj ho h0 with h|⟨h,_⟩
   ·have:=bm st.back h3 j oj h0 (h3 j oj h0 h6) h;simp_all
   grind[Oper.apart_spec]
  simp_all
theorem vX(st:Static P ops N){S:Nat->Bool}(h3:Closed ops S){i:Nat}{o:Oper}(ho:ops[i]?=some o)(hS:S i=false):
  ∀ j oj,i<j->j<N->ops[j]?=some oj->S j=true->∀ s,o.dst=some s->oj.dst≠some s:=by
 intro j oj h4 hj h0 h6 s hs;rcases st.head i j o oj h4 hj ho h0 with h|⟨h,_⟩
 ·have:=bm st.back h3 j oj h0 (h3 j oj h0 h6) h;simp_all
 grind[Oper.apart_spec]
theorem wZ(tr:Tr P md call cfg ops N x F H v)(hle:N<=ops.size){s:Nat}(h0:∀ c,(F 0)[s]?=some c->Bel (H 0).length c):∀ (i:Nat),i<=N->(∀ j o,j<i->ops[j]?=some o->o.dst=some s->Bel (H (j+1)).length (v j)) ->
  ∀ c,(F i)[s]?=some c->Bel (H i).length c:=by
 intro i
 induction i with
 | zero=>simp_all
 | succ i ih =>
  intro hi hw c hc;have ho:ops[i]?=some ops[i]:=Lf (by omega);rw[(tr.step i ops[i] (by omega) ho).1]at hc;by_cases hd:ops[i].dst=some s
  ·grind[put,List.getElem?_set_self,List.set_eq_of_length_le,List.getElem?_eq_none]
  ·rw[Ai hd]at hc;exact (ih (by omega) (fun j o hj=>hw j o (by omega)) c hc).mono (tr.len1 hle (by omega))
end
end Go.Ab
namespace Go.Ab
variable [Base]
section
variable {P:Program}{md:FuncId->Nat}{call:aF}{cfg:Cfg}{ops:Array Oper}{N:Nat}{x:List Nat}{F:Nat->List V}{H:Nat->Heap}{v:Nat->V}{m0:Mu}{w0:World}
theorem fW(S:Nat->Bool)(i:Nat):ba S i i=true:=by simp[ba]
theorem pI{S:Nat->Bool}{i j:Nat}(h:S j=true):ba S i j=true:=by grind[ba]
theorem cI{S:Nat->Bool}{i j:Nat}(h:j≠i):ba S i j=S j:=by simp[ba,h]
theorem pR(st:Static P ops N){S:Nat->Bool}{k:Nat}(hk:∀ i (hi:i<ops.size),i<N->aU ops[i]=true->(S i=true↔i<k))(h0:Closed ops S){i:Nat}{o:Oper}(hi:i<N)(ho:ops[i]?=some o)(hS:S i=false)(hr:Ready S o)(hc:aU o=true):
  k<=i/\(∀ j (hj:j<ops.size),k<=j->j<i->aU ops[j]=false)/\∀ j (hj:j<ops.size),j<N->aU ops[j]=true->(ba S i j=true↔j<i+1):=by
 have h6:i<ops.size:=(Lo.1 ho).1;have h7:ops[i]=o:=(Lo.1 ho).2;have h8:k<=i:=by
  grind
 have h3:∀ j (hj:j<ops.size),j<i->aU ops[j]=true->S j=true:=by
  intro j hj h4 h9;rcases st.head j i ops[j] o h4 hi (Lf hj) ho with h|⟨_,h⟩
  ·exact bm st.back h0 i o ho hr h
  simp_all
 grind[aU,fW,cI,Nat.lt_or_ge,Array.getElem?_eq_getElem,bm]
theorem lq{S:Nat->Bool}{k:Nat}(hk:∀ i (hi:i<ops.size),i<N->aU ops[i]=true->(S i=true↔i<k)){i:Nat}{o:Oper}(ho:ops[i]?=some o)(hc:aU o=false):
  ∀ j (hj:j<ops.size),j<N->aU ops[j]=true->(ba S i j=true↔j<k):=by
 intro j hj h0 h3;have h4:j≠i:=by
  grind
 grind[cI]
theorem yf(st:Static P ops N)(_hN:ck P)(_hcall:bA P call)(tr:Tr P md call cfg ops N x F H v){S:Nat->Bool}{a:Act}{w:World}{m:Mu}{k:Nat}(J:JH ops N x F H v m0 w0 S a w m k)(hE:Closed ops S)
  {i:Nat} {o:Oper} (hi:i<N) (ho:ops[i]?=some o) (hS:S i=false) {k':Nat} (hF:k'<=N) (hH:k'=k\/k<=i/\k'=i+1) (h7:∀ b∈x,∀ c,c<N->(H c).length<=b->b<(H (c+1)).length->ba S i c=false->(H (max k' (c+1)))[b]?=(H (c+1))[b]?) (hI:∀ j (hj:j<ops.size),j<N->aU ops[j]=true->(ba S i j=true↔j<k'))
  {m':Mu} {w':World} {u:Value} (e:Evo (m.cut (G H N x k) (H i).length) ((G H N x k).take (H i).length) w m' ((G H N x k').take (H (i+1)).length) w') (r':Rel m' ((G H N x k').take (H (i+1)).length) w')
  (hn:R m' ((G H N x k').take (H (i+1)).length) w' (v i) u)
  (hJ:∀ b c cs,b<(H i).length->b∈x->(G H N x k')[b]?=some (some cs)->m' b=some c->∀ j,j<=N->b<(H j).length->∀ e∈cs,Bel (H j).length e):
  JH ops N x F H v m0 w0 (ba S i) (a.put o.dst u) w' (m.glue m' (H (i+1)).length) k':=by
 have hle:=st.le;have he:=tr.len1 hle hi;have hQ:=tr.len hle (LA i) (by omega:i<=N);have hn'N:=tr.len hle (by omega:i+1<=N) (La N);have hR:∀ q,(G H N x q).length=(H N).length:=lN;have h8:∀ b,(H i).length<=b->(G H N x k')[b]?=(G H N x k)[b]?:=by
  intro b hb;rcases hH with h|⟨h1,h2⟩
  ·rw[h]
  ·by_cases hJ:b∈x
   ·by_cases hK:b<(H N).length
    ·have hT:i<bi H b N:=by
      rcases LS i (bi H b N) with h|h
      ·exact h
      ·have h3:=si (La _) hK;have h4:=tr.len hle h (by omega:i<=N);omega
     grind[G_x,max,bi]
    simp_all
   grind[lO]
 have h0:∀ b,(H (i+1)).length<=b->(G H N x k')[b]?=(G H N x k)[b]?:=fun b hb=>h8 b (by omega);have h9:∀ b,(H i).length<=b->b<(H (i+1)).length->live (G H N x k') b->live (G H N x k) b/\m b=none:=by
  intro b h1 h2 hl;have hq:live (G H N x k) b:=by
   obtain⟨cs,hc⟩:=hl;exact⟨cs,by simp_all⟩
  refine⟨hq,?_⟩;cases hm:m b with
  | none=>rfl
  | some c =>
   exfalso;rcases J.dom b c hq hm with h|⟨j,ha,hr,ht,hu⟩
   ·omega
   ·rcases Mr j i with h|h|h
    ·have:=tr.len hle (by omega:j+1<=i) (by omega);omega
    ·simp_all
    ·have:=tr.len hle (by omega:i+1<=j) (by omega);omega
 have hL:=e.zeq;have ew:=vg (n:=(H i).length) (n':=(H (i+1)).length) J.rel (by grind) he (by simp_all) h0 h9 e;have rg:=D5 (n:=(H i).length) (n':=(H (i+1)).length) J.rel (by grind) he (by simp_all) (by simp_all) h0 h9 e r';have rglue:∀ {y:V} {z:Value},R m' ((G H N x k').take (H (i+1)).length) w' y z->R (m.glue m' (H (i+1)).length) (G H N x k') w' y z:=fun h=>h.glue (n:=(H i).length) hL he h0 (by simp_all);have hM:((G H N x k').take (H (i+1)).length).length=(H (i+1)).length:=by simp_all
 have hN:((G H N x k).take (H i).length).length=(H i).length:=by grind
 have h6:∀ b c,b<(H i).length->live (G H N x k') b->m' b=some c->live (G H N x k) b/\m b=some c:=by
  intro b c hb hl hm;obtain⟨h1,h2⟩:=e.keep b (by omega) ((cM (by omega)).2 hl)
  grind[aX,Mu.cut]
 refine⟨hF,hI,fun j hj=>?_,h7,?_,rg,?_,fun b c hl hm=>?_,fun b c cs hc hm j hj hv f hf=>?_,fun j ha hj=>?_⟩
 ·rw[cI (by omega)];exact J.tail j hj
 ·have E:=J.evo;refine⟨E.zeq,by grind,fun b hb hl=>?_,fun b c hl hb=>?_,fun b hb hO=>?_,L9 E.size e.size,fun b hb=>L9 (E.rs b hb) (e.rs b (Lu hb E.size)),e.os.trans E.os,e.tape.trans E.tape,e.output.trans E.output⟩
  ·obtain⟨h1,h2⟩:=e.keep b (by omega) ((cM (by omega)).2 hl);obtain⟨h3,h4⟩:=E.keep b hb (aX h1).2;refine⟨h3,?_⟩;simp only[Mu.glue,show b<(H (i+1)).length by omega,if_true,h2]
   grind[Mu.cut]
  ·rcases ew.own b c hl hb with⟨y,hy,hg⟩|hw
   ·exact E.own y c hy hg
   ·exact .inr (L9 E.size hw)
  ·refine (ew.frame b (Lu hb E.size) fun y hy hg=>?_).trans (E.frame b hb hO);rcases E.own y b hy hg with⟨z,hz,hX⟩|hw<;>grind
 ·rw[zF ho hS N hi (vX st hE ho hS)];have f1:FR (m.glue m' (H (i+1)).length) (G H N x k') w' (frS ops v S (F 0) N) a:=⟨J.fR.len,fun s y z hy hz=>(J.fR.slot s y z hy hz).evw ew J.rel.lt,J.fR.defers.frame J.rel e.size ew.frame⟩;exact f1.put (rglue hn) o.dst
 ·by_cases hh:b<(H i).length
  ·simp only[Mu.glue,show b<(H (i+1)).length by omega,if_true]at hm;obtain⟨h1,h2⟩:=h6 b c hh hl hm;rcases J.dom b c h1 h2 with h|⟨j,ha,hr,ht,hu⟩<;>grind[pI]
  ·by_cases hd:b<(H (i+1)).length
   ·grind[fW]
   ·simp only[Mu.glue,hd,if_false]at hm;obtain⟨cs,hc⟩:=hl;rw[h0 b (by omega)]at hc;rcases J.dom b c ⟨cs,hc⟩ hm with h|⟨j,ha,hr,ht,hu⟩<;>grind[pI]
 ·by_cases hh:b<(H i).length
  ·simp only[Mu.glue,show b<(H (i+1)).length by omega,if_true]at hm;by_cases hx:b∈x
   ·grind
   ·obtain⟨h1,h2⟩:=h6 b c hh ⟨cs,hc⟩ hm;rw[lO hx,<- lO (k:=k) hx]at hc;exact J.bel b c cs hc h2 j hj hv f hf
  ·by_cases hd:b<(H (i+1)).length
   ·simp only[Mu.glue,hd,if_true]at hm;have hA:=(r'.blk b cs c (by grind) hm).bel hf;rw[hM]at hA;have hP:i+1<=j:=by
     rcases LS i j with h|h
     ·omega
     ·have:=tr.len hle h (by omega);omega
    exact hA.mono (tr.len hle hP hj)
   ·simp only[Mu.glue,hd,if_false]at hm;rw[h0 b (by omega)]at hc;exact J.bel b c cs hc hm j hj hv f hf
 ·by_cases hD:j=i
  ·subst hD;have:=hn.bel;simp_all
  ·rw[cI hD]at ha;exact J.vb j ha hj
end
end Go.Ab
namespace Go.Ab
variable [Base]
def eW(looks:List Nat)(fr:List V):List V:=fr.mapIdx fun s c=>if looks.contains s then c else .any
theorem kU(looks:List Nat)(fr:List V):(eW looks fr).length=fr.length:=by simp[eW]
theorem jZ{looks:List Nat}{fr:List V}{s:Nat}(hs:s∈looks):(eW looks fr)[s]?=fr[s]?:=by
 grind[eW]
theorem qQ{looks:List Nat}{fr:List V}{s:Nat}(hs:¬ s∈looks){c:V}(hc:(eW looks fr)[s]?=some c):c=.any:=by
 grind[eW]
theorem oI{ops:Array Oper}{o:Oper}{fr fr':List V}(h:∀ s∈o.looksAt ops,fr[s]?=fr'[s]?):cy ops fr o=cy ops fr' o:=by
 unfold cy;cases hg:o.guard with
 | none=>rfl
 | some g =>
  grind[Oper.looksAt]
theorem jv{ops:Array Oper}{o:Oper}{fr fr':List V}(h:∀ s∈o.looksAt ops,fr[s]?=fr'[s]?):∀ p∈o.op.operands.toList,ev fr p=ev fr' p:=by
 intro p hp;cases p with
 | tmp t =>
  simp only[ev];refine h t ?_;simp only[Oper.looksAt,LB,List.mem_filterMap]
  grind
 | const v=>rfl
 | global g=>rfl
 | func f=>rfl
theorem fx{P:Program}{md:FuncId->Nat}{call:aF}{c:Cfg}{fr:List V}{h:Heap}{o:Oper}(hc:aU o=false):aB P md call c fr h o.op=opV P c fr h o.op:=by
 grind[aU,aB,absurd]
theorem BE{v:Value}{b off:Nat}:¬ jF v=some (.ptr b off):=by
 intro h;unfold jF at h;split at h
 ·simp_all
 ·split at h<;>cases h
 ·unfold iP at h;split at h<;>cases h
section
variable {P:Program}{md:FuncId->Nat}{call:aF}{cfg:Cfg}{ops:Array Oper}{N:Nat}{x:List Nat}{F:Nat->List V}{H:Nat->Heap}{v:Nat->V}{m0:Mu}{w0:World}
theorem F6(st:Static P ops N)(hN:ck P)(h0:bA P call)(tr:Tr P md call cfg ops N x F H v)(k3:∀ (s:Nat) (c:V),(F 0)[s]?=some c->Bel (H 0).length c){S:Nat->Bool}{a:Act}{w:World}{m:Mu}{k:Nat}
  (J:JH ops N x F H v m0 w0 S a w m k) (hI:Closed ops S) {i:Nat} {o:Oper} (hi:i<N) (ho:ops[i]?=some o) (hS:S i=false) (hr:Ready S o) (Q:Exit->Act->World->Prop):
  wpOp P ops Q i (fun a' w'=>∃ m' k',JH ops N x F H v m0 w0 (ba S i) a' w' m' k') a w:=by
 have hle:=st.le;have z9:i<ops.size:=(Lo.1 ho).1;have hoe:ops[i]=o:=(Lo.1 ho).2;have hK:∀ s∈o.looksAt ops,(frS ops v S (F 0) N)[s]?=(F i)[s]?:=fun s hs=>Av st tr hI hi ho hS hr hs;have g6:∀ q,(G H N x q).length=(H N).length:=lN;have hiN:=tr.len hle (by omega:i<=N) (La N);have hn0:=tr.len hle (LA i) (by omega:i<=N);obtain⟨hFs,hL⟩:=tr.step i o hi ho;have hY:∀ b,cy ops (F i) o=some b->Region.wanted o (yielded ops a.tmps)=b:=fun b hb=>dH J.fR (by grind[oI])
 -- the slots that are looked at, cut to what was there
 have h9:∀ s∈o.looksAt ops,∀ c,(F i)[s]?=some c->Bel (H i).length c:=by
  intro s hs;refine wZ tr hle (k3 s) i (by omega) fun j oj hj k4 hd=>?_;have hM:S j=true:=by
   rcases st.head j i oj o hj hi k4 ho with h|⟨h,_⟩
   ·exact bm st.back hI i o ho hr h
   grind[absurd,Oper.apart_spec]
  exact J.vb j hM (by omega)
 have h8:Rel (m.cut (G H N x k) (H i).length) ((G H N x k).take (H i).length) w:=J.rel.cut (by simp_all) fun b cs c hb hc hm e he=>J.bel b c cs hc hm i (by omega) hb e he;have ha:FR (m.cut (G H N x k) (H i).length) ((G H N x k).take (H i).length) w (eW (o.looksAt ops) (frS ops v S (F 0) N)) a:=by
  refine⟨by rw[kU];exact J.fR.len,fun s y z hy hz=>?_,J.fR.defers⟩;by_cases hs:s∈o.looksAt ops
  ·rw[jZ hs]at hy;exact (J.fR.slot s y z hy hz).cut (by simp_all) (h9 s hs y (by simp_all))
  ·rw[qQ hs hy];exact .any _
 have hD:∀ s∈o.looksAt ops,(F i)[s]?=(eW (o.looksAt ops) (frS ops v S (F 0) N))[s]?:=fun s hs=>by grind[jZ]
 -- calls in their one order
 -- a block of x, from where the calls below k have been carried out up to here
 have g7:(∀ j (hj:j<ops.size),k<=j->j<i->aU ops[j]=false)->k<=i->∀ b,b<(H i).length->(H i)[b]?=(H (max k (bi H b N)))[b]?:=by
  intro hu hE b hb;have h1:=uQ (N:=N) hb;have h2:=si (N:=N) (by omega:i<=N) hb;have h3:b<(H (max k (bi H b N))).length:=Lu h2 (tr.len hle (by omega) (by omega));exact tr.xsame hN h0 hle (by omega) (by omega) h3 fun q hq h4 h5=>hu q hq (by omega) h5
 have hn:∀ b∈x,∀ c,c<N->(H c).length<=b->b<(H (c+1)).length->ba S i c=false->(H (max k (c+1)))[b]?=(H (c+1))[b]?:=by
  intro b hb c hc h1 h2 h3;refine J.born b hb c hc h1 h2 ?_
  grind[cI]
 -- and one call further, where it does not write a block that is to come
 have ht:(∀ j (hj:j<ops.size),k<=j->j<i->aU ops[j]=false)->k<=i->(∀ b∈x,∀ c,c<i->(H c).length<=b->b<(H (c+1)).length->S c=false->(H (i+1))[b]?=(H i)[b]?) ->
   ∀ b∈x,∀ c,c<N->(H c).length<=b->b<(H (c+1)).length->ba S i c=false->(H (max (i+1) (c+1)))[b]?=(H (c+1))[b]?:=by
  intro hu hE hw b hb c hc h1 h2 h3;by_cases k5:c=i
  ·simp_all
  ·rw[cI k5]at h3;rcases LS i c with h|h
   ·grind
   ·have h4:=J.born b hb c hc h1 h2 h3;have h5:b<(H (max k (c+1))).length:=Lu h2 (tr.len hle (by omega) (by omega));rw[show max (i+1) (c+1)=i+1 by omega,hw b hb c (by omega) h1 h2 h3,<- h4];exact tr.xsame hN h0 hle (by omega) (by omega) h5 fun q hq h6 h7=>hu q hq (by omega) h7
 unfold wpOp;rw[ho];simp only;rcases hL with⟨hw,hv,hH⟩|⟨hw,hJ,hh,hZ,k6⟩|⟨hw,hJ,hlen,c,k7,hX,hwr,k8⟩
 · -- it is not carried out
  rw[hY false hw];simp only[Lv,if_false];have fin:∀ k',k'<=N->(∀ b∈x,∀ c,c<N->(H c).length<=b->b<(H (c+1)).length->ba S i c=false->(H (max k' (c+1)))[b]?=(H (c+1))[b]?)->G H N x k'=G H N x k->(∀ j (hj:j<ops.size),j<N->aU ops[j]=true->(ba S i j=true↔j<k'))->JH ops N x F H v m0 w0 (ba S i) (a.put o.dst undef) w m k':=by
   intro k' k9 w7 hG hO;refine⟨k9,hO,fun j hj=>?_,w7,by rw[hG];exact J.evo,by rw[hG];exact J.rel,?_,fun b c hl hm=>?_,fun b c cs hc=>?_,fun j hM hj=>?_⟩
   ·rw[cI (by omega)];exact J.tail j hj
   ·rw[zF ho hS N hi (vX st hI ho hS),hv,hG];exact J.fR.put .no o.dst
   ·rw[hG]at hl;rcases J.dom b c hl hm with h|⟨j,hM,h⟩<;>grind[pI]
   ·rw[hG]at hc;exact J.bel b c cs hc
   ·by_cases g8:j=i
    ·subst g8;rw[hv];exact .rf rfl
    ·rw[cI g8]at hM;exact J.vb j hM hj
  cases hJ:aU o with
  | false=>exact⟨m,k,fin k J.kle hn rfl (lq J.kcall ho hJ)⟩
  | true =>
   obtain⟨hE,hu,hO⟩:=pR st J.kcall hI hi ho hS hr hJ;refine⟨m,i+1,fin (i+1) (by omega) (ht hu hE fun b _ c _ _ _ _=>by rw[hH]) ?_ hO⟩;refine LJ fun b=>?_;by_cases g0:b∈x
   ·by_cases hP:b<(H N).length
    ·rw[G_x tr hle (by omega) g0 hP,G_x tr hle J.kle g0 hP];rcases LS i (bi H b N) with h|h
     ·grind
     ·have h1:=si (La _) hP;have h2:b<(H i).length:=Lu h1 (tr.len hle h (by omega));rw[show max (i+1) (bi H b N)=i+1 by omega,hH,g7 hu hE b h2]
    simp_all
   grind[lO]
 · -- it reads, computes or makes memory
  rw[hY true hw];simp only[if_true];have hgt:=pD (k:=k) hN h0 tr hle (by omega:i<=N);have hA:=pD (k:=k) hN h0 tr hle (by omega:i+1<=N);have w8:opV P cfg (F i) (Hx H N x k i) o.op=some (v i,Hx H N x k (i+1)):=by
   unfold Hx;refine qR hh hZ (tr.len1 hle hi) k6 fun b hb h1 h2=>?_;have h3:=bi_at (N:=N) (fun j hj=>tr.len hle hj (by omega)) (by omega) h1 h2;rw[<- J.born b hb i hi h1 h2 hS,<- h3];exact yQ tr hle J.kle (by omega) h2
  have hX:aB P md call cfg (eW (o.looksAt ops) (frS ops v S (F 0) N)) ((G H N x k).take (H i).length) o.op=some (v i,(G H N x k).take (H (i+1)).length):=by
   rw[<- iR (jv hD),fx hJ,hgt,hA];omega
  refine .inl ((eG hN h0 hX).1 _ w a h8 ha _ Q fun u w' ⟨m',e,r',g1⟩=>⟨_,k,yf st hN h0 tr J hI hi ho hS J.kle (.inl rfl) hn (lq J.kcall ho hJ) e r' g1 ?_⟩);intro b cc cs hb hx hc hm j hj g2 f hf;have hQ:((G H N x k).take (H i).length).length=(H i).length:=by grind
  have hnn:=tr.len1 hle hi;obtain⟨_,h2⟩:=e.keep b (by omega) ((cM (by omega)).2 ⟨cs,hc⟩);rw[h2]at hm;exact J.bel b cc cs hc (by grind[Mu.cut]) j hj g2 f hf
 · -- it is a call
  rw[hY true hw];simp only[if_true];obtain⟨hE,hu,hO⟩:=pR st J.kcall hI hi ho hS hr hJ;have hgt:=pD (k:=k) hN h0 tr hle (by omega:i<=N);rw[oU tr hle (by omega) J.kle fun b _ hb=>g7 hu hE b hb]at hgt;have hA:=pD (k:=i+1) hN h0 tr hle (by omega:i+1<=N);rw[oU tr hle (by omega) (by omega) fun b _ hb=>by rw[show max (i+1) (bi H b N)=i+1 by simp_all[uQ]]]at hA;have g3:aB P md call c (eW (o.looksAt ops) (frS ops v S (F 0) N)) ((G H N x k).take (H i).length) o.op=some (v i,(G H N x (i+1)).take (H (i+1)).length):=by
   rw[<- iR (jv hD),hgt,hA];exact hX
  -- it writes no block that is to come
  have w9:∀ b∈x,∀ q,q<i->(H q).length<=b->b<(H (q+1)).length->S q=false->(H (i+1))[b]?=(H i)[b]?:=by
   intro b g0 q hq h1 h2 h3;have g4:b<(H i).length:=Lu h2 (tr.len hle (by omega) (by omega));cases g9:c.wr b with
   | false=>exact (eG hN h0 hX).2.prot b g4 g9
   | true =>
    exfalso;have h0q:=tr.len hle (LA q) (by omega);obtain⟨t,p,y,off,cs,hZ,hp,z0⟩:=k8 b (by omega) g4 g9;cases p with
    | tmp s =>
     have z1:(F i)[s]?=some (.ptr b off):=hp;have hs:s∈o.looksAt ops:=by
      simp only[Oper.looksAt,LB,List.mem_filterMap];exact .inl ⟨.tmp s,by simp[hZ,Op.operands],rfl⟩
     have hg:=hK s hs;rw[z1]at hg;have k0:s<a.tmps.size:=by rw[<- J.fR.len];exact (K5.1 hg).1
     have hR:=J.fR.slot s _ _ hg (Lf k0);have hF:live (G H N x k) b:=by
      have h5:((G H N x k).take (H i).length)[b]?=some (some cs):=by rw[hgt];exact aA z0
      rw[L7,if_pos g4]at h5;exact⟨cs,h5⟩
     generalize a.tmps[s]=z at hR;cases hR with
     | ptr k0 hv =>
      obtain⟨d,hd,_⟩:=hv hF;rcases J.dom b d hF hd with h6|⟨q',k1,hq2,hq3,hq4⟩
      ·omega
      ·have:q'=q:=by
        rcases Mr q' q with h|h|h
        ·have:=tr.len hle (by omega:q'+1<=q) (by omega);omega
        ·exact h
        ·have:=tr.len hle (by omega:q+1<=q') (by omega);omega
       rw[this,h3]at k1;cases k1
    | const v=>exact absurd hp (by simp only[ev];exact BE)
    | global g=>simp[ev]at hp
    | func f=>simp[ev]at hp
  refine .inl ((eG hN h0 g3).1 _ w a h8 ha _ Q fun u w' ⟨m',e,r',g1⟩=>⟨_,i+1,yf st hN h0 tr J hI hi ho hS (by omega) (.inr ⟨hE,rfl⟩) (ht hu hE w9) hO e r' g1 ?_⟩);intro b cc cs hb hx hc hm j hj g2 f hf;have hQ:((G H N x k).take (H i).length).length=(H i).length:=by rw[L6,g6];omega
  have hP:b<(H N).length:=by omega
  have z2:=tr.len hle (by omega:i+1<=N) (La N);have z3:(H (i+1))[b]?=some (some cs):=by
   rw[G_x tr hle (by omega) hx hP,show max (i+1) (bi H b N)=i+1 by have:=uQ (N:=N) hb;omega]at hc;exact hc
  rcases LS i j with g5|g5
  ·have z4:((G H N x (i+1)).take (H (i+1)).length).length=(H (i+1)).length:=by rw[L6,g6];omega
   have k2:=(r'.blk b cs cc (by rw[L7,if_pos (by omega)];exact hc) hm).bel hf;rw[z4]at k2;exact k2.mono (tr.len hle g5 hj)
  ·have z5:=tr.len hle g5 (by omega);have hinv:Inv (fun q=>∃ d,m q=some d) (H i) (H j).length:=by
    rintro q cs' hq ⟨d,hd⟩ z6 g hg;have z7:q<(H i).length:=by omega
    have z8:(G H N x k)[q]?=some (some cs'):=by
     have h3:((G H N x k).take (H i).length)[q]?=some (some cs'):=by rw[hgt];exact z6
     rwa [L7,if_pos z7]at h3
    exact J.bel q d cs' z8 hd j hj hq g hg
   have hT:=(tr.hs hN h0 hle hi).2.2 _ _ z5 hinv;obtain⟨_,h2⟩:=e.keep b (by rw[hQ];exact hb) ((cM (by omega)).2 ⟨cs,hc⟩);rw[h2]at hm;exact hT b cs g2 ⟨cc,by simpa[Mu.cut,hb]using hm⟩ z3 f hf
end
end Go.Ab
namespace Go.Ab
variable [Base]
theorem xU{p:Nat->Prop}(h:∃ i,p i):∃ i,p i/\∀ j,j<i->¬ p j:=by
 obtain⟨i,hi⟩:=h
 induction i using Nat.strongRecOn with
 | _ i ih =>
  grind
section
variable {P:Program}{ops:Array Oper}{N:Nat}{Q:Exit->Act->World->Prop}
theorem vA(st:Static P ops N){L:Nat->Bool}(hL:Closed ops L){i:Nat}{oi:Oper}(hi:ops[i]?=some oi)(hr:Ready L oi){j:Nat}{oj:Oper}(hj:ops[j]?=some oj)(h8:j≠i)(h9:L j=false)
  {S:Nat->Bool} (ha:S i=false) (h6:Closed ops S) (h7:Ready S oj):Ap ops oi oj:=by
 rcases LS j i with h0|hc
 ·have h:ord ops j i=true\/oj.apart ops oi=true:=by
   rcases LS i N with h3|h3
   ·rcases st.head j i oj oi h0 h3 hj hi with h|h<;>grind
   ·rcases st.tail j i oj oi h3 h0 hj hi with h|h<;>grind
  rcases h with h|h
  ·have:=bm st.back hL i oi hi hr h;simp_all
  ·exact (Ap.of h).symm
 ·have h0:i<j:=by omega
  have h:ord ops i j=true\/oi.apart ops oj=true:=by
   rcases LS j N with h4|h4
   ·rcases st.head i j oi oj h0 h4 hi hj with h|h<;>grind
   ·rcases st.tail i j oi oj h4 h0 hi hj with h|h<;>grind
  rcases h with h|h
  ·have:=bm st.back h6 j oj hj h7 h;simp_all
  ·exact Ap.of h
theorem jR(st:Static P ops N)(J:(Nat->Bool)->Act->World->Prop)
  (h0:∀ S a w,J S a w->Closed ops S->∀ i o,ops[i]?=some o->S i=false->Ready S o->cJ P o=true->(∀ p q,p<i->ops[p]?=some q->S p=false->cJ P q=true->¬ Ready S q)->∃ u,Blind P ops o a u/\J (ba S i) (a.put o.dst u) w)
  (h3:∀ S a w,J S a w->Closed ops S->(∀ p q,ops[p]?=some q->S p=false->cJ P q=true->¬ Ready S q)->∀ i o,ops[i]?=some o->S i=false->Ready S o->wpOp P ops (only Q) i (J (ba S i)) a w)
  (h6:∀ S a w,J S a w->(∀ i,i<ops.size->S i=true)->Q .normal a w):∀ (fuel:Nat) (listed:Array Bool) (a:Act) (w:World),listed.size=ops.size->iE listed=fuel->Closed ops (setOf listed)->J (setOf listed) a w ->
  wpAny P .any ops (only Q) fuel listed a w
 | 0,listed,a,w,hs,hc,_,hj=>by
  have h9:∀ i,i<ops.size->setOf listed i=true:=fun i hi=>nS hc (by omega);refine⟨?_,h6 _ a w hj h9⟩;simp_all[MP,mem_ready,Lo]
 | fuel+1,listed,a,w,hs,hc,h8,hj=>by
  by_cases hex:∃ i,∃ o,ops[i]?=some o/\setOf listed i=false/\cJ P o=true/\Ready (setOf listed) o
  ·obtain⟨i,⟨o,ho,hf,hl,hr⟩,ha⟩:=xU hex;obtain⟨u,hb,hJ⟩:=h0 _ a w hj h8 i o ho hf hr hl fun p q hp hq hd he hg=>ha p hp ⟨q,hq,hd,he,hg⟩;have hh:i<listed.size:=by grind
   refine wpAny_first st.nosel ho fuel listed a w hs hf hr (fun j oj hm hn ht S _ hu hv hw=>vA st h8 ho hr hm hn ht hu hv hw) h8 hb ?_;have h7:=cS hh;refine jR st J h0 h3 h6 fuel _ _ w (by simp[hs]) ?_ ?_ (by simp_all)
   ·grind[lz]
   ·rw[h7];exact h8.add ho hr
  ·refine⟨fun hr=>h6 _ a w hj (gK st.back hs hr),fun i hi=>?_⟩;obtain⟨o,ho,hf,h4⟩:=(mem_ready hs).1 hi;have hh:i<listed.size:=by grind
   refine wpOp_mono (fun a' w' hy=>?_) (h3 _ a w hj h8 (fun p q hq hd he hg=>hex ⟨p,q,hq,hd,he,hg⟩) i o ho hf h4);have h7:=cS hh;refine jR st J h0 h3 h6 fuel _ a' w' (by simp[hs]) ?_ ?_ (by simp_all)
   ·grind[lz]
   ·rw[h7];exact h8.add ho h4
theorem tx(st:Static P ops N)(J:(Nat->Bool)->Act->World->Prop)
  (h3:∀ S a w,J S a w->Closed ops S->∀ i o,ops[i]?=some o->S i=false->Ready S o->cJ P o=true->(∀ p q,p<i->ops[p]?=some q->S p=false->cJ P q=true->¬ Ready S q)->∃ u,Blind P ops o a u/\J (ba S i) (a.put o.dst u) w)
  (h4:∀ S a w,J S a w->Closed ops S->(∀ p q,ops[p]?=some q->S p=false->cJ P q=true->¬ Ready S q)->∀ i o,ops[i]?=some o->S i=false->Ready S o->wpOp P ops (only Q) i (J (ba S i)) a w)
  (h6:∀ S a w,J S a w->(∀ i,i<ops.size->S i=true)->Q .normal a w) {a:Act} {w:World} (h0:J (fun _=>false) a w):wpAny P .any ops (only Q) ops.size (Array.replicate ops.size false) a w:=by
 have h7:setOf (Array.replicate ops.size false)=fun _=>false:=by
  funext i;simp[setOf,L4,MQ];split<;>rfl
 refine jR st J h3 h4 h6 ops.size _ a _ (by simp) ?_ ?_ ?_
 ·simp[iE]
 ·rw[h7];intro i o _ h;cases h
 simp_all
theorem kY(hm:P.follows .mixedOrders=true){id:Nat}{a:Act}{w:World}(h:wpAny P .any ops (only Q) ops.size (Array.replicate ops.size false) a { w with drawn:=w.drawn+1 }):(Code.region id ops true).wp P Q a w:=by
 refine Code.wp_mono (Q:=only Q) ?_ (wp_region_any hm h);intro e a w h;cases e<;>first|exact h|exact h.elim
theorem ze{o:Oper}(hg:∀ (i:Nat) (q:Oper),ops[i]?=some q->q.guard=none)(hb:xy ops):∀ (fuel:Nat) (listed:Array Bool) (a:Act) (w:World),listed.size=ops.size->wpAny P .any ops (only Q) fuel listed a w->wpAny P .any (ops.push o) (only Q) fuel (listed.push true) a w:=by
 have h4:∀ (listed:Array Bool),listed.size=ops.size->∀ i,i<ops.size->setOf (listed.push true) i=setOf listed i:=fun listed hs i hi=>by
  simp[setOf,L4,MV,hs,show ¬ i=ops.size by omega]
 have h6:∀ (listed:Array Bool),listed.size=ops.size->∀ i,i∈Region.ready .any (ops.push o) (listed.push true)->i∈Region.ready .any ops listed:=fun listed hs i hi=>by
  obtain⟨q,hq,hf,hr⟩:=(mem_ready (by simp[hs])).1 hi;rw[MV]at hq;split at hq
  ·rename_i e;subst e;have h9:setOf (listed.push true) ops.size=true:=by rw[<- hs];simp[setOf]
   rw[h9]at hf;cases hf
  ·have h0:=(Lo.1 hq).1;refine (mem_ready hs).2 ⟨q,hq,by rw[<- h4 listed hs i h0];exact hf,fun e he h3=>?_⟩;rw[<- h4 listed hs e.on (by have:=hb i q hq e he h3;omega)];exact hr e he h3
 have h8:∀ (listed:Array Bool),listed.size=ops.size->∀ i,i∈Region.ready .any ops listed->i∈Region.ready .any (ops.push o) (listed.push true):=fun listed hs i hi=>by
  obtain⟨q,hq,hf,hr⟩:=(mem_ready hs).1 hi;have h0:=(Lo.1 hq).1;refine (mem_ready (by simp[hs])).2 ⟨q,by rw[MV,if_neg (by omega)];exact hq,by rw[h4 listed hs i h0];exact hf,fun e he h3=>?_⟩;rw[h4 listed hs e.on (by have:=hb i q hq e he h3;omega)];exact hr e he h3
 intro fuel
 induction fuel with
 | zero =>
  intro listed a w hs h;refine⟨?_,h.2⟩;apply MP.2;intro i hi;have:=h6 listed hs i hi;rw[h.1]at this;cases this
 | succ fuel ih =>
  intro listed a w hs h;refine⟨fun hn=>h.1 ?_,fun i hi=>?_⟩
  ·apply MP.2;intro i hi;have:=h8 listed hs i hi;rw[hn]at this;cases this
  ·have h7:=h6 listed hs i hi;obtain⟨q,hq,_,_⟩:=(mem_ready hs).1 h7;have h0:=(Lo.1 hq).1;have ha:(listed.push true).setIfInBounds i true=(listed.setIfInBounds i true).push true:=by
    apply Array.ext_getElem?;intro z;simp only[Array.getElem?_setIfInBounds,MV,Array.size_push,Array.size_setIfInBounds];by_cases hz:i=z
    ·subst hz;simp[hs,h0,show ¬ i=ops.size by omega];omega
    ·simp[hz]
   have h2:=wpOp_mono (fun a w hk=>ih (listed.setIfInBounds i true) a w (by simp[hs]) hk) (h.2 i h7);rw[ha];have hc:(ops.push o)[i]?=some q:=by rw[MV,if_neg (by omega)];exact hq
   have hd:=hg i q hq;unfold wpOp at h2 ⊢;rw[hq]at h2;rw[hc];simp only[Region.wanted,hd]at h2 ⊢;exact h2
theorem pN(st:Static P ops N){S:Nat->Bool}(h4:Closed ops S){i:Nat}{o:Oper}(hi:N<=i)(ho:ops[i]?=some o)(hr:Ready S o)
  (h0:∀ p q,p<i->ops[p]?=some q->S p=false->cJ P q=true->¬ Ready S q):∀ p,p<i->S p=true:=by
 intro p
 induction p using Nat.strongRecOn with
 | _ p ih =>
  intro hp;have h6:i<ops.size:=(Lo.1 ho).1;have h3:ops[p]?=some ops[p]:=Lf (by omega);rcases st.tail p i ops[p] o hi hp h3 ho with h|⟨h,_⟩
  ·exact bm st.back h4 i o ho hr h
  ·cases hS:S p with
   | true=>rfl
   | false =>
    refine absurd ?_ (h0 p _ hp h3 hS h);intro e he hb;have h7:=st.back p _ h3 e he hb
    grind
/-! ### What cJ -/
def eX:V->Bool
 | .bool _|.int ..|.str _=>true
 | _=>false
theorem R.plain{m m':Mu}{h h':Heap}{w w':World}{x:V}{v:Value}(hp:eX x=true)(hr:R m h w x v):R m' h' w' x v:=by
 cases hr<;>simp only[eX,Lv]at hp
 ·exact .bool _
 ·exact .int _ _
 ·exact .str _
theorem R.plain_eq{m m':Mu}{h h':Heap}{w w':World}{x:V}{v v':Value}(hp:eX x=true)(hr:R m h w x v)(h0:R m' h' w' x v'):v=v':=by
 cases hr<;>simp only[eX,Lv]at hp<;>cases h0<;>rfl
theorem xD{op:BinOp}{t:TypeId}{k:IntKind}{x y z:V}(ht:P.underlying t=some (.int k))(hz:cw P op t x y=some z):eX x=true/\eX y=true/\eX z=true:=by
 have heq:∀ x y,eqV P t x y=none:=by
  intro x y;unfold eqV;split<;>simp[ht]
 unfold cw at hz;split at hz
 ·split at hz
  ·cases hz
  ·cases hz;exact⟨rfl,rfl,rfl⟩
 ·split at hz
  ·cases hz
  ·cases hz;exact⟨rfl,rfl,rfl⟩
 ·split at hz
  ·refine⟨rfl,rfl,?_⟩;unfold bx at hz;split at hz
   all_goals first
    | (cases hz;done)
    | (cases hz;rfl)
    | (split at hz<;>first|(cases hz;done)|(cases hz;rfl))
  ·cases hz
 ·refine⟨rfl,rfl,?_⟩;unfold uz at hz;split at hz
  all_goals first
   | (cases hz;done)
   | (cases hz;rfl)
   | (split at hz<;>first|(cases hz;done)|(cases hz;rfl))
 ·rw[heq]at hz;cases hz
 ·rw[heq]at hz;cases hz
 ·cases hz
theorem B9{op:UnOp}{x z:V}(hz:unV op x=some z):eX x=true/\eX z=true:=by
 unfold unV at hz;split at hz
 ·cases hz;exact⟨rfl,rfl⟩
 ·simp only[bx]at hz;cases hz;exact⟨rfl,rfl⟩
 ·cases hz;exact⟨rfl,rfl⟩
 ·cases hz
theorem yn{xs:List V}{y:V}(hy:oN xs=some y):(∀ c∈xs,eX c=true)/\eX y=true:=by
 unfold oN at hy;split at hy
 ·cases hy;exact⟨fun c hc=>by simp at hc;rcases hc with rfl|rfl<;>rfl,rfl⟩
 ·cases hy;exact⟨fun c hc=>by simp at hc;rcases hc with rfl|rfl|rfl<;>rfl,rfl⟩
 grind
theorem yp{xs:List V}{y:V}(hy:uc xs=some y):(∀ c∈xs,eX c=true)/\eX y=true:=by
 unfold uc at hy;split at hy
 ·cases hy;exact⟨fun c hc=>by simp at hc;rcases hc with rfl|rfl<;>rfl,rfl⟩
 ·cases hy;exact⟨fun c hc=>by simp at hc;rcases hc with rfl|rfl|rfl<;>rfl,rfl⟩
 grind
theorem Ge{m:Mu}{h:Heap}{w:World}{t ty:TypeId}{x y:V}{xv:Value}(hx:R m h w x xv)(hy:dc P t x=some y):∃ v,(∀ w':World,(Builtin.len_ #[t] ty #[xv]).run P w'=.ok v w')/\R m h w y v:=by
 unfold dc at hy;split at hy
 ·rename_i s hu;cases hx;cases hy;exact⟨_,fun w'=>by simp[Builtin.len_,run_underlying hu,goInt],.int _ _⟩
 ·rename_i e b off len cap k hu;cases hx;cases hy;exact⟨_,fun w'=>by simp[Builtin.len_,run_underlying hu,goInt],.int _ _⟩
 ·rename_i e xs hu;cases hy;cases hx with
  | lst0 a rc _=>exact⟨_,fun w'=>by simp[Builtin.len_,run_underlying hu,goInt],.int _ _⟩
  | lst rv h0 h3 hk hc hf hr=>exact⟨_,fun w'=>by simp[Builtin.len_,run_underlying hu,goInt],.int _ _⟩
 ·rename_i e hu;cases hx;cases hy;exact⟨_,fun w'=>by simp[Builtin.len_,run_underlying hu,goInt],.int _ _⟩
 ·rename_i n e hu;cases hy;exact⟨_,fun w'=>by simp[Builtin.len_,run_underlying hu,goInt],.int _ _⟩
 grind
theorem qw{o:Oper}(hf:cJ P o=true){cfg:Cfg}{fr:List V}{h h':Heap}{v:V}(hv:opV P cfg fr h o.op=some (v,h')):h'=h/\∀ g,opV P cfg fr g o.op=some (v,g):=by
 unfold cJ at hf;split at hf
 ·rename_i h0;rw[h0]at hv ⊢;simp only[opV]at hv ⊢;obtain⟨h1,h2⟩:=ay hv;simp_all
 ·rename_i h0;rw[h0]at hv ⊢;simp only[opV]at hv ⊢;split at hv
  ·obtain⟨h1,h2⟩:=ay hv;simp_all
  grind
 ·rename_i h0;rw[h0]at hv ⊢;simp only[opV]at hv ⊢;split at hv
  ·obtain⟨h1,h2⟩:=ay hv;simp_all
  grind
 ·rename_i h0;rw[h0]at hv ⊢;simp only[opV]at hv ⊢;split at hv
  ·obtain⟨h1,h2⟩:=ay hv;simp_all
  grind
 ·rename_i h0;rw[h0]at hv ⊢;simp only[opV]at hv ⊢;split at hv
  ·cases hv
  ·obtain⟨h1,h2⟩:=ay hv;simp_all
 ·rename_i h0;rw[h0]at hv ⊢;simp only[opV]at hv ⊢;split at hv
  ·cases hv
  ·obtain⟨h1,h2⟩:=ay hv;simp_all
 ·rename_i args tys h0;obtain⟨t,rfl⟩:=sH hf;rw[h0]at hv ⊢;simp only[opV]at hv ⊢;split at hv
  ·cases hv
  ·rename_i vs h3
   match vs,hv with
   | [x],hv =>
    obtain⟨h1,h2⟩:=ay hv;simp_all
   | [],hv=>cases hv
   | _::_::_,hv=>cases hv
 grind
theorem qx{o:Oper}(hf:cJ P o=true){cfg:Cfg}{fr:List V}{h h':Heap}{v:V}(hv:opV P cfg fr h o.op=some (v,h')){m:Mu}{g:Heap}{w:World}{a:Act}(f:FR m g w fr a):
  ∃ u,(∀ w',(execOp a.eval o).run P w'=.ok (.value u) w')/\R m g w v u:=by
 unfold cJ at hf;split at hf
 ·rename_i y h3;rw[h3]at hv;simp only[opV]at hv;obtain⟨h1,_⟩:=ay hv;exact⟨a.eval y,fun w'=>by grind[execOp,Sem.run_pure],cq f h1⟩
 ·rename_i y i h3;rw[h3]at hv;simp only[opV]at hv;split at hv
  ·rename_i b hb;obtain⟨h1,_⟩:=ay hv;have hx:=cq f hb;unfold gS at h1;split at h1
   ·generalize hh:a.eval y=vy at hx;cases hx with
    | tup hl hr =>
     have h9:=(K5.1 h1).1;rw[<- hl]at h9;exact⟨_,fun w'=>by simp[execOp,h3,hh,Instr.extract,h9],hr i v _ h1 (Lf h9)⟩
   grind
  grind
 ·rename_i op t y h3;rw[h3]at hv;simp only[opV]at hv;split at hv
  ·rename_i b hb;obtain⟨h1,_⟩:=ay hv;have hx:=cq f hb;obtain⟨p1,p2⟩:=B9 h1;obtain⟨u,hu,h4⟩:=EJ (P:=P) hx h1;refine⟨u,fun w'=>?_,h4⟩;obtain⟨u',h8,h0⟩:=EJ (P:=P) (w:=w') (hx.plain (m':=m) (h':=g) (w':=w') p1) h1;rw[h4.plain_eq p2 h0]
   grind[execOp,Sem.run_bind,Result.andThen_ok,Sem.run_pure]
  grind
 ·rename_i op t y z c h3;split at hf
  ·rename_i k ht;rw[h3]at hv;simp only[opV]at hv;split at hv
   ·rename_i b d hb hd;obtain⟨h1,_⟩:=ay hv;have hx:=cq f hb;have hy:=cq f hd;obtain⟨p1,p2,p3⟩:=xD ht h1;obtain⟨u,hu,h4⟩:=xE (P:=P) (ox:=y) (oy:=z) hx hy h1;refine⟨u,fun w'=>?_,h4⟩;obtain⟨u',h8,h0⟩:=xE (P:=P) (ox:=y) (oy:=z) (w:=w') (hx.plain (m':=m) (h':=g) (w':=w') p1) (hy.plain p2) h1;rw[h4.plain_eq p3 h0];have:(execOp a.eval o)=(do let v <- (do eqGuard op t y z (a.eval y) (a.eval z);binOp op t (a.eval y) (a.eval z):Sem Value);pure (.value v)):=by grind[execOp]
    rw[this,Sem.run_bind,h8];rfl
   grind
  grind
 ·rename_i args tys h3;rw[h3]at hv;simp only[opV]at hv;split at hv
  ·cases hv
  ·rename_i vs h7;obtain⟨h1,_⟩:=ay hv;obtain⟨hl,hr⟩:=fH f h7;obtain⟨he,hg⟩:=yn h1;have h6:∀ (d:Sem Next),(execOp a.eval o)=(do let d <- resolve a.eval { callee:=.builtin .max,args:=args,argTypes:=tys } o.type;invoke d.target d.args):=fun _=>by grind[execOp]
   have hex:(execOp a.eval o)=(do let v <- Builtin.max_ tys o.type (args.map a.eval);pure (.value v)):=by
    rw[h6 (pure .skip)];rfl
   have ha:(args.toList.map a.eval).toArray=args.map a.eval:=by grind
   obtain⟨u,hu,h4⟩:=yo (P:=P) (ts:=tys) (ty:=o.type) (by omega) hr h1;refine⟨u,fun w'=>?_,h4⟩;obtain⟨u',h8,h0⟩:=yo (P:=P) (ts:=tys) (ty:=o.type) (w:=w') (m:=m) (h:=g) (by omega) (fun i c v hc hv=>(hr i c v hc hv).plain (he c (K6 hc))) h1;rw[h4.plain_eq hg h0,hex,Sem.run_bind,<- ha,h8];rfl
 ·rename_i args tys h3;rw[h3]at hv;simp only[opV]at hv;split at hv
  ·cases hv
  ·rename_i vs h7;obtain⟨h1,_⟩:=ay hv;obtain⟨hl,hr⟩:=fH f h7;obtain⟨he,hg⟩:=yp h1;have h6:∀ (d:Sem Next),(execOp a.eval o)=(do let d <- resolve a.eval { callee:=.builtin .min,args:=args,argTypes:=tys } o.type;invoke d.target d.args):=fun _=>by grind[execOp]
   have hex:(execOp a.eval o)=(do let v <- Builtin.min_ tys o.type (args.map a.eval);pure (.value v)):=by
    rw[h6 (pure .skip)];rfl
   have ha:(args.toList.map a.eval).toArray=args.map a.eval:=by grind
   obtain⟨u,hu,h4⟩:=yq (P:=P) (ts:=tys) (ty:=o.type) (by omega) hr h1;refine⟨u,fun w'=>?_,h4⟩;obtain⟨u',h8,h0⟩:=yq (P:=P) (ts:=tys) (ty:=o.type) (w:=w') (m:=m) (h:=g) (by omega) (fun i c v hc hv=>(hr i c v hc hv).plain (he c (K6 hc))) h1;rw[h4.plain_eq hg h0,hex,Sem.run_bind,<- ha,h8];rfl
 ·rename_i args tys h3;obtain⟨t,rfl⟩:=sH hf;rw[h3]at hv;simp only[opV]at hv;split at hv
  ·cases hv
  ·rename_i vs h7
   match vs,h7,hv with
   | [x],h7,hv =>
    obtain⟨h1,_⟩:=ay hv;obtain⟨hl,hr⟩:=fH f h7;have h6:∀ (d:Sem Next),(execOp a.eval o)=(do let d <- resolve a.eval { callee:=.builtin .len,args:=args,argTypes:=#[t] } o.type;invoke d.target d.args):=fun _=>by grind[execOp]
    have hex:(execOp a.eval o)=(do let v <- Builtin.len_ #[t] o.type (args.map a.eval);pure (.value v)):=by
     rw[h6 (pure .skip)];rfl
    have ha:(args.toList.map a.eval).toArray=args.map a.eval:=by grind
    obtain⟨xv,hj⟩:∃ xv,args.toList.map a.eval=[xv]:=by
     generalize args.toList.map a.eval=l at hl
     match l,hl with
     | [xv],_=>simp
    rw[hj]at ha hr;obtain⟨u,hu,h4⟩:=Ge (P:=P) (ty:=o.type) (hr 0 x xv rfl rfl) h1;exact⟨u,fun w'=>by rw[hex,Sem.run_bind,<- ha,hu w'];rfl,h4⟩
   | [],_,hv=>cases hv
   | _::_::_,_,hv=>cases hv
 grind
end
end Go.Ab
namespace Go.Ab
variable [Base]
def stS(E:Nat->Eff)(st0:List V×Heap)(S:Nat->Bool):Nat->List V×Heap
 | 0=>st0
 | n+1=>if S n=true then eO (stS E st0 S n) (E n) else stS E st0 S n
theorem fT{E:Nat->Eff}{st0:List V×Heap}{S T:Nat->Bool}:∀ n,(∀ j,j<n->S j=T j)->stS E st0 S n=stS E st0 T n
 | 0,_=>rfl
 | n+1,h=>by rw[stS,stS,h n (by omega),fT n fun j hj=>h j (by omega)]
theorem ir{E : Nat -> Eff}{st0 : List V×Heap}{i : Nat}: ∀ n, i <= n -> stS E st0 (fun j => decide (j < i)) n = stS E st0 (fun _ => true) i
  | 0, h => by obtain rfl : i = 0 := by omega
               rfl
  | n + 1, h => by
    by_cases hi : i = n + 1
    · grind[fT]
    · rw[stS, if_neg (by grind), ir n (by omega)]
theorem D3{fr:List V}{d:Option Tmp}{v:V}{s:Nat}(h:d≠some s):(put fr d v)[s]?=fr[s]?:=by
 cases d with
 | none=>rfl
 | some d=>exact Lb (fun e=>h (by rw[e]))
theorem put_len{fr:List V}{d:Option Tmp}{v:V}:(put fr d v).length=fr.length:=by
 cases d with
 | none=>rfl
 | some d=>exact LC
theorem px{E:Nat->Eff}{st0:List V×Heap}{S:Nat->Bool}:∀ n,(stS E st0 S n).1.length=st0.1.length
 | 0=>rfl
 | n+1=>by
  rw[stS];split
  ·exact put_len.trans (px n)
  ·exact px n
theorem rE{E:Nat->Eff}{st0:List V×Heap}{S T:Nat->Bool}{s:Nat}:∀ n,(∀ j,j<n->(E j).1=some s->S j=T j)->(stS E st0 S n).1[s]?=(stS E st0 T n).1[s]?
 | 0,_=>rfl
 | n+1,h=>by
  have ih:=rE (E:=E) (st0:=st0) n fun j hj=>h j (by omega);have h0:=px (E:=E) (st0:=st0) (S:=S) n;have h3:=px (E:=E) (st0:=st0) (S:=T) n;rw[stS,stS];by_cases hd:(E n).1=some s
  ·grind[eO,put,List.getElem?_set_self,List.getElem?_eq_none]
  ·have h1:∀ st,(eO st (E n)).1[s]?=st.1[s]?:=fun st=>D3 hd;by_cases hS:S n=true<;>by_cases hT:T n=true
   ·simp_all
   ·simp_all
   ·simp_all
   simp_all
theorem Bp{cs:List V}{k:Nat}{u:V}(hu:u.leaf=true)(hc:isMap cs=false):isMap (cs.set k u)=false:=by
 cases cs with
 | nil=>rfl
 | cons c cs =>
  cases k with
  | zero=>cases u<;>first|rfl|grind[V.leaf]
  | succ k=>cases c<;>first|rfl|grind[isMap]
theorem dd{h:Heap}{b k:Nat}{u:V}(hu:u.leaf=true){c:Nat}:ab (ja h b k u) c=if c=b then (ab h b).map (fun cs=>cs.set k u) else ab h c:=by
 unfold ja;cases hb:ab h b with
 | none =>
  simp_all
 | some cs =>
  have h0:b<h.length:=(K5.1 (aA hb)).1;by_cases e:c=b
  ·grind[ab,List.getElem?_set_self,Bp,cX]
  ·simp only[if_neg e]
   grind[ab,List.getElem?_set_ne]
theorem B2{h:Heap}{b k c:Nat}{u:V}(hc:ab h c=none):(ja h b k u)[c]?=h[c]?:=by
 grind[ja,List.getElem?_set_ne]
theorem B1{h:Heap}{b k b' k':Nat}{u u':V}(hu:u.leaf=true)(h0:u'.leaf=true)(hne:(b,k)≠(b',k')):ja (ja h b k u) b' k' u'=ja (ja h b' k' u') b k u:=by
 apply LJ;intro c;cases hc:ab h c with
 | none =>
  grind[ab,ja,dd,B2]
 | some cs =>
  have e1:ab (ja (ja h b k u) b' k' u') c=ab (ja (ja h b' k' u') b k u) c:=by
   grind[dd,List.set_comm]
  obtain⟨d,hd⟩:∃ d,ab (ja (ja h b k u) b' k' u') c=some d:=by
   rw[dd h0];split
   ·rename_i e;subst e;rw[dd hu]
    grind
   ·rw[dd hu]
    grind
  grind[aA]
def ComE(x y:Eff):Prop:=(x.1=none\/x.1≠y.1)/\(∀ b k u,x.2.2=some (b,k,u)->u.leaf=true)/\(∀ b k u,y.2.2=some (b,k,u)->u.leaf=true)/\∀ b k u b' k' u',x.2.2=some (b,k,u)->y.2.2=some (b',k',u')->(b,k)≠(b',k')
theorem AP{x y:Eff}(h:ComE x y)(st:List V×Heap):eO (eO st x) y=eO (eO st y) x:=by
 obtain⟨xd,xv,xw⟩:=x;obtain⟨yd,yv,yw⟩:=y;obtain⟨h1,h2,h3,h4⟩:=h;simp only at h1 h2 h3 h4;refine Prod.ext ?_ ?_
 ·simp only[eO];cases xd with
  | none=>rfl
  | some d =>
   cases yd with
   | none=>rfl
   | some d' =>
    have:d≠d':=fun e=>by simp_all
    exact NR _ _ this
 ·simp only[eO];cases xw with
  | none=>cases yw<;>rfl
  | some p =>
   cases yw with
   | none=>rfl
   | some q =>
    obtain⟨b,k,u⟩:=p;obtain⟨b',k',u'⟩:=q;exact B1 (h2 _ _ _ rfl) (h3 _ _ _ rfl) (h4 _ _ _ _ _ _ rfl rfl)
theorem uy{E:Nat->Eff}{st0:List V×Heap}{S:Nat->Bool}{i:Nat}(hS:S i=false):∀ n,i<n->(∀ j,i<j->j<n->ComE (E i) (E j))->stS E st0 (ba S i) n=eO (stS E st0 S n) (E i)
 | 0,h,_=>absurd h (by omega)
 | n+1,h,hc=>by
  by_cases hi:i=n
  ·subst hi;rw[stS,stS,fW,if_pos rfl,if_neg (by simp_all)]
   grind[fT,cI]
  ·have ih:=uy (E:=E) (st0:=st0) hS n (by omega) fun j h1 h2=>hc j h1 (by omega)
   grind[stS,cI,AP]
def nv(h:Heap)(b:Nat):Option Nat:=(ab h b).map List.length
def kN(h:Heap)(b k:Nat):Option V:=(ab h b).bind fun cs=>cs[k]?
theorem DA{st:List V×Heap}{e:Eff}(he:∀ b k u,e.2.2=some (b,k,u)->u.leaf=true)(b:Nat):nv (eO st e).2 b=nv st.2 b:=by
 obtain⟨d,v,w⟩:=e;cases w with
 | none=>rfl
 | some p =>
  obtain⟨b',k,u⟩:=p;simp only[eO,nv,dd (he _ _ _ rfl)]
  grind[ab]
theorem AX{st:List V×Heap}{e:Eff}(he:∀ b k u,e.2.2=some (b,k,u)->u.leaf=true){b k:Nat}(hn:∀ u,e.2.2≠some (b,k,u)):kN (eO st e).2 b k=kN st.2 b k:=by
 obtain⟨d,v,w⟩:=e;cases w with
 | none=>rfl
 | some p =>
  obtain⟨b',k',u⟩:=p;simp only[eO,kN,dd (he _ _ _ rfl)]
  grind[ab,List.getElem?_set_ne]
theorem mY{E:Nat->Eff}{st0:List V×Heap}{S:Nat->Bool}(he:∀ j b k u,(E j).2.2=some (b,k,u)->u.leaf=true)(b:Nat):∀ n,nv (stS E st0 S n).2 b=nv st0.2 b
 | 0=>rfl
 | n+1=>by
  rw[stS];split
  ·rw[DA (he n)];exact mY he b n
  ·exact mY he b n
theorem kz{E:Nat->Eff}{st0:List V×Heap}{S:Nat->Bool}(he:∀ j b k u,(E j).2.2=some (b,k,u)->u.leaf=true){b k:Nat}:∀ n,(∀ j u,j<n->(E j).2.2≠some (b,k,u))->kN (stS E st0 S n).2 b k=kN st0.2 b k
 | 0,_=>rfl
 | n+1,h=>by
  rw[stS];split
  ·rw[AX (he n) fun u=>h n u (by omega)];exact kz he n fun j u hj=>h j u (by omega)
  ·exact kz he n fun j u hj=>h j u (by omega)
section
variable {P:Program}{cfg:Cfg}
theorem Bx{t:TypeId}{h g:Heap}{x v:V}(hv:ej P h t x=some v)(hl:v.leaf=true)(hc:∀ b k,x=.ptr b k->kN g b k=kN h b k/\nv g b=nv h b):ej P g t x=some v:=by
 unfold ej at hv ⊢;cases x<;>simp only at hv ⊢
 case ptr b k =>
  obtain⟨h1,h2⟩:=hc b k rfl;cases hb:ab h b with
  | none=>simp_all
  | some cs =>
   rw[hb]at hv;simp only[kN,nv,hb]at h1 h2;cases hg:ab g b with
   | none=>simp_all
   | some cs' =>
    rw[hg]at h1;simp only[Md]at h1;simp only at hv ⊢;unfold part at hv ⊢;cases ha:oL P t with
    | none=>simp_all
    | some q =>
     rw[ha]at hv;cases q with
     | false=>simp_all
     | true =>
      simp only at hv;split at hv
      ·split at hv
       ·cases hv;cases hl
       grind
      omega
 all_goals exact hv
theorem yU{t:TypeId}{h g h':Heap}{b k:Nat}{u:V}(hu:u.leaf=true)(hv:aN P cfg h t (.ptr b k) u=some h')(hl:nv g b=nv h b):h'=ja h b k u/\aN P cfg g t (.ptr b k) u=some (ja g b k u):=by
 have h0:cellsOf u=some [u]:=by cases u<;>first|rfl|(simp[V.leaf]at hu;done)
 unfold aN at hv ⊢;cases hs:cj P t with
 | none=>simp_all
 | some s =>
  rw[hs,h0]at hv;rw[h0];simp only at hv ⊢;split at hv
  ·rename_i h3;rw[if_pos h3];unfold aJ at hv ⊢;cases hb:ab h b with
   | none=>simp_all
   | some cs =>
    rw[hb]at hv;simp only[nv,hb,LX]at hl;cases hg:ab g b with
    | none=>simp_all
    | some cs' =>
     simp_all[LX,K7,if_pos,ja,putAt]
  grind
theorem Ez{o:Oper}{fr f:List V}{h g h':Heap}{v:V}{e:Eff}(hk:sOp o=true)(hv:opV P cfg fr h o.op=some (v,h'))(he:rQ fr o v=some e)
  (hf:∀ p∈o.op.operands.toList,ev f p=ev fr p) (hl:∀ b k w,lP fr o=some (w,b,k)->nv g b=nv h b/\(w=false->kN g b k=kN h b k)):
  e.1=o.dst/\e.2.1=v/\h'=(eO (fr,h) e).2/\opV P cfg f g o.op=some (v,(eO (f,g) e).2)/\∀ b k u,e.2.2=some (b,k,u)->u.leaf=true/\lP fr o=some (true,b,k):=by
 unfold sOp at hk;split at hk
 ·rename_i x h0;rw[h0]at hv hf;unfold rQ at he;rw[h0]at he;cases he;have e1:=hf x (by simp[Op.operands]);simp only[opV]at hv;obtain⟨h1,rfl⟩:=ay hv;exact⟨rfl,rfl,rfl,by rw[h0];simp only[opV,e1,h1];rfl,fun _ _ _ h=>by cases h⟩
 ·rename_i s x q h0;rw[h0]at hv hf;unfold rQ at he;rw[h0]at he;cases he;have e1:=hf x (by simp[Op.operands]);simp only[opV]at hv;split at hv
  ·rename_i a ha;obtain⟨h1,rfl⟩:=ay hv;exact⟨rfl,rfl,rfl,by rw[h0];simp only[opV,e1,ha,h1];rfl,fun _ _ _ h=>by cases h⟩
  grind
 ·rename_i s x q h0;rw[h0]at hv hf;unfold rQ at he;rw[h0]at he;cases he;have e1:=hf x (by simp[Op.operands]);have e2:=hf q (by simp[Op.operands]);simp only[opV]at hv;split at hv
  ·rename_i a b ha hb;obtain⟨h1,rfl⟩:=ay hv;exact⟨rfl,rfl,rfl,by rw[h0];simp only[opV,e1,e2,ha,hb,h1];rfl,fun _ _ _ h=>by cases h⟩
  grind
 ·rename_i s x h0;rw[h0]at hv hf;unfold rQ at he;unfold lP at hl;rw[h0]at he hl;simp only at he hl;split at he
  ·rename_i h4;cases he;have e1:=hf x (by simp[Op.operands]);simp only[opV]at hv;split at hv
   ·rename_i a ha;obtain⟨h1,rfl⟩:=ay hv;refine⟨rfl,rfl,rfl,?_,fun _ _ _ h=>by cases h⟩;rw[h0];simp only[opV,e1,ha];rw[Bx (g:=g) h1 h4 fun b k hx=>by
     simp_all]
    rfl
   grind
  grind
 ·rename_i s x q h0;rw[h0]at hv hf;have h3:lP fr o=match ev fr x with|some (.ptr b k)=>some (true,b,k)|_=>none:=by grind[lP]
  unfold rQ at he;rw[h0]at he;simp only at he;have e1:=hf x (by simp[Op.operands]);have e2:=hf q (by simp[Op.operands]);split at he
  ·rename_i b k u ha hb;split at he
   ·rename_i h4;cases he;rw[ha]at h3;have h6:=(hl b k true h3).1;simp only[opV,ha,hb]at hv;split at hv
    ·rename_i h2 h7;cases hv;obtain⟨g1,g2⟩:=yU (g:=g) h4 h7 h6;refine⟨rfl,rfl,g1,?_,fun _ _ _ h=>by simp_all⟩;rw[h0];simp only[opV,e1,e2,ha,hb,g2];rfl
    grind
   grind
  grind
 ·rename_i bo s x q c h0;rw[h0]at hv hf;unfold rQ at he;rw[h0]at he;cases he;have e1:=hf x (by simp[Op.operands]);have e2:=hf q (by simp[Op.operands]);simp only[opV]at hv;split at hv
  ·rename_i a b ha hb;obtain⟨h1,rfl⟩:=ay hv;exact⟨rfl,rfl,rfl,by rw[h0];simp only[opV,e1,e2,ha,hb,h1];rfl,fun _ _ _ h=>by cases h⟩
  grind
 grind
theorem H7:∀ (l:List Oper) (st:List V×Heap) (acc:List (Option (Bool×Nat×Nat))) (E:List Eff),runS P cfg l st acc=some E->E.length=l.length /\
  ∀ i o,l[i]?=some o->∃ v h' e,E[i]?=some e/\opV P cfg ((E.take i).foldl eO st).1 ((E.take i).foldl eO st).2 o.op=some (v,h')/\rQ ((E.take i).foldl eO st).1 o v=some e /\
   (∀ y∈acc,oA (lP ((E.take i).foldl eO st).1 o) [y]=true)/\∀ j o',j<i->l[j]?=some o'->oA (lP ((E.take i).foldl eO st).1 o) [lP ((E.take j).foldl eO st).1 o']=true
 | [],st,acc,E,h=>by cases h;simp
 | o::r,st,acc,E,h=>by
  unfold runS at h;split at h
  ·rename_i v h' hv;split at h
   ·rename_i e he;split at h
    ·rename_i h4;obtain⟨E',h0,rfl⟩:=Lx.1 h;obtain⟨hl,ih⟩:=H7 r (eO st e) _ E' h0;have h3:∀ y∈acc,oA (lP st.1 o) [y]=true:=fun y hy=>by
      grind[List.all_eq_true,oA]
     refine⟨by simp[hl],fun i q hq=>?_⟩;cases i with
     | zero =>
      simp_all
     | succ i =>
      obtain⟨v2,h2,e2,g1,g2,g3,g4,g5⟩:=ih i q (by simp_all);refine⟨v2,h2,e2,by simp_all,g2,g3,fun y hy=>g4 y (Mv _ hy),fun j o' hj h6=>?_⟩;cases j with
      | zero=>simp_all
      | succ j=>simp_all
    grind
   grind
  grind
theorem vF{E:List Eff}{st0:List V×Heap}:∀ n,n<=E.length->(E.take n).foldl eO st0=stS (fun i=>E.getD i (none,.no,none)) st0 (fun _=>true) n
 | 0,_=>rfl
 | n+1,h=>by
  have e1:E.take (n+1)=E.take n++[E[n]]:=by simp
  have e2:E.getD n ((none,.no,none):Eff)=E[n]:=by grind
  rw[e1,NI,stS,if_pos rfl,<- vF n (by omega),e2];rfl
theorem zx{l:List Oper}(h:qd l=true):∀ (i j:Nat) (oi oj:Oper),i<j->l[i]?=some oi->l[j]?=some oj->oi.dst=none\/oi.dst≠oj.dst:=by
 induction l with
 | nil=>simp
 | cons o r ih =>
  simp only[qd,Ld]at h;intro i j oi oj h0 hi hj;cases j with
  | zero=>omega
  | succ j =>
   cases i with
   | zero =>
    cases hi;have:=Lk.1 h.1 oj (K6 (by simpa using hj));simp only[LP,Ns,bne_iff_ne]at this
    grind
   | succ i=>grind
theorem qP{x y:Bool×Nat×Nat}(h:oA (some x) [some y]=true)(hw:x.1=true\/y.1=true):x.2≠y.2:=by
 obtain⟨w,c⟩:=x;obtain⟨w',c'⟩:=y;simp only[oA,Nv,Np,M1,LP,Mq,decide_eq_true_eq]at h
 grind
end
section
variable {P:Program}
theorem CW{md:FuncId->Nat}{call:aF}(hm:P.follows .mixedOrders=true)(hN:ck P)(h7:bA P call){cfg:Cfg}{ops:Array Oper}{fr:List V}{h:Heap}{fr':List V}{h':Heap}(hs:sOK P ops=true)(hd:Hw P cfg ops fr h=some (fr',h')):
  HS cfg h h'/\∀ m w a id,Rel m h w->FR m h w fr a->∀ (Q:Exit->Act->World->Prop),(∀ a' w',After m h w fr' h' a' w'->Q .normal a' w')->(Code.region id ops true).wp P Q a w:=by
 unfold sOK at hs;simp only[Ld]at hs;obtain⟨⟨⟨⟨hk,hg⟩,hM⟩,-⟩,hO⟩:=hs;have st:=jd hO;obtain⟨E,hE,g6⟩:=Lx.1 hd;obtain⟨hlen,hy⟩:=H7 _ _ _ _ hE;have hn:E.length=ops.size:=by omega
 generalize g7:(fun i=>E.getD i ((none,.no,none):Eff))=En;have hC:∀ i,i<=ops.size->(E.take i).foldl eO (fr,h)=stS En (fr,h) (fun _=>true) i:=fun i hi=>by grind[vF]
 have hP:stS En (fr,h) (fun _=>true) ops.size=(fr',h'):=by
  grind
 have hl:∀ i o,ops[i]?=some o->∃ v hh,opV P cfg (stS En (fr,h) (fun _=>true) i).1 (stS En (fr,h) (fun _=>true) i).2 o.op=some (v,hh)/\rQ (stS En (fr,h) (fun _=>true) i).1 o v=some (En i) /\
   ∀ j o',j<i->ops[j]?=some o'->oA (lP (stS En (fr,h) (fun _=>true) i).1 o) [lP (stS En (fr,h) (fun _=>true) j).1 o']=true:=fun i o ho=>by
  have hi:=(Lo.1 ho).1;obtain⟨v,hh,e,g1,g2,g3,_,g5⟩:=hy i o (by simp_all)
  grind
 have h4:∀ i o,ops[i]?=some o->(En i).1=o.dst/\(∀ b k u,(En i).2.2=some (b,k,u)->u.leaf=true/\lP (stS En (fr,h) (fun _=>true) i).1 o=some (true,b,k)):=fun i o ho=>by
  obtain⟨v,hh,g2,g3,_⟩:=hl i o ho;have hq:=Lk.1 hk o (K6 (by simpa using ho));obtain⟨a1,_,_,_,a5⟩:=Ez (f:=(stS En (fr,h) (fun _=>true) i).1) (g:=(stS En (fr,h) (fun _=>true) i).2) hq g2 g3 (fun _ _=>rfl) fun _ _ _ _=>⟨rfl,fun _=>rfl⟩
  grind
 have h0:∀ j b k u,(En j).2.2=some (b,k,u)->u.leaf=true:=fun j b k u hj=>by
  cases ho:ops[j]? with
  | none =>
   grind
  | some o=>grind
 have hz:∀ i j,i<j->j<ops.size->ComE (En i) (En j):=fun i j hR hj=>by
  have hI:ops[i]?=some ops[i]:=Lf (by omega);have h6:ops[j]?=some ops[j]:=Lf hj;refine⟨?_,h0 i,h0 j,fun b k u b' k' u' h1 h2 e=>?_⟩
  ·grind[zx]
  ·obtain⟨_,_,_,_,g5⟩:=hl j _ h6;have:=g5 i _ hR hI;rw[((h4 i _ hI).2 b k u h1).2,((h4 j _ h6).2 b' k' u' h2).2]at this;exact qP this (.inl rfl) e.symm
 have h8:∀ (S:Nat->Bool),Closed ops S->∀ i o,ops[i]?=some o->S i=false->Ready S o->cZ P md call cfg ops o (stS En (fr,h) S ops.size).1 (stS En (fr,h) S ops.size).2=some ((stS En (fr,h) (ba S i) ops.size).1,(stS En (fr,h) (ba S i) ops.size).2):=fun S h9 i o ho hT hr=>by
  have hi:=(Lo.1 ho).1;have hq:=Lk.1 hk o (K6 (by simpa using ho));have hX:o.guard=none:=by simpa using Lk.1 hg o (K6 (by simpa using ho))
  obtain⟨v,hh,g2,g3,g5⟩:=hl i o ho;have hY:stS En (fr,h) (fun _=>true) i=stS En (fr,h) (fun j=>decide (j<i)) ops.size:=(ir _ (by omega)).symm;have ha:∀ s∈o.looksAt ops,(stS En (fr,h) S ops.size).1[s]?=(stS En (fr,h) (fun _=>true) i).1[s]?:=fun s hs=>by
   rw[hY];refine rE _ fun j hj hZ=>?_;have h6:ops[j]?=some ops[j]:=Lf hj;rw[(h4 j _ h6).1]at hZ;rcases Mr j i with hv|rfl|hgt
   ·rw[decide_eq_true hv];rcases st.head j i _ o hv hi h6 ho with h|⟨h,_⟩
    ·exact bm st.back h9 i o ho hr h
    grind[absurd,Oper.apart_spec]
   ·simp_all
   ·rw[decide_eq_false (by omega)];cases g0:S j with
    | false=>rfl
    | true =>
     rcases st.head i j o _ hgt hj ho h6 with h|⟨h,_⟩
     ·have:=bm st.back h9 j _ h6 (h9 j _ h6 g0) h;simp_all
     grind[absurd,Oper.apart_spec]
  obtain⟨a1,a2,_,a4,_⟩:=Ez (f:=(stS En (fr,h) S ops.size).1) (g:=(stS En (fr,h) S ops.size).2) hq g2 g3 (fun p hp=>(jv ha p hp)) fun b k w hc=>by
   refine⟨by rw[mY h0,mY h0],fun hw=>?_⟩;subst hw;have hK:∀ j u,j<ops.size->(En j).2.2≠some (b,k,u):=fun j u hj hw=>by
    have h6:ops[j]?=some ops[j]:=Lf hj;have hA:=((h4 j _ h6).2 b k u hw).2;rcases Mr j i with hv|rfl|hgt
    ·have:=g5 j _ hv h6;rw[hc,hA]at this;exact qP this (.inr rfl) rfl
    ·simp_all
    ·obtain⟨_,_,_,_,q5⟩:=hl j _ h6;have:=q5 i _ hgt ho;rw[hc,hA]at this;exact qP this (.inl rfl) rfl
   rw[kz h0 _ hK,kz h0 _ fun j u hj=>hK j u (by omega)]
  have hD:aU o=false\/∃ t x y,o.op=.store t x y:=by
   unfold sOp at hq
   grind[aU]
  have hF:aB P md call cfg (stS En (fr,h) S ops.size).1 (stS En (fr,h) S ops.size).2 o.op=opV P cfg (stS En (fr,h) S ops.size).1 (stS En (fr,h) S ops.size).2 o.op:=by
   rcases hD with hD|⟨t,x,y,hF⟩
   ·exact fx hD
   ·rw[hF];rfl
  have hH:=uy (E:=En) (st0:=(fr,h)) hT ops.size hi fun j h1 h2=>hz i j h1 h2;unfold cZ cy;rw[hX];simp only[hF,a4,hH];rw[<- a1,<- a2];rfl
 have hf:∀ n,n<=ops.size->HS cfg h (stS En (fr,h) (fun j=>decide (j<n)) ops.size).2:=by
  intro n
  induction n with
  | zero =>
   intro _;have:stS En (fr,h) (fun j=>decide (j<0)) ops.size=(fr,h):=by rw[ir _ (LA _)];rfl
   rw[this];exact .refl _ _
  | succ n ih =>
   intro g8;have hL:ops[n]?=some ops[n]:=Lf (by omega);have h9:Closed ops fun j=>decide (j<n):=fun i o ho hi e he hb=>by
    have:=st.back i o ho e he hb
    grind
   have h1:=h8 (fun j=>decide (j<n)) h9 n _ hL (by simp) fun e he hb=>by
    have:=st.back n _ hL e he hb;simp_all
   have h2:=(iu hN h7 h1).1;have h3:stS En (fr,h) (ba (fun j=>decide (j<n)) n) ops.size=stS En (fr,h) (fun j=>decide (j<n+1)) ops.size:=fT _ fun j _=>by
    unfold ba;by_cases g9:j=n<;>grind
   rw[h3]at h2;exact (ih (by omega)).trans h2
 refine⟨?_,fun m w a id r fR Q hQ=>?_⟩
 ·have:=hf ops.size (La _);simp_all[ir,La]
 ·refine kZ hm st.back (fun S a' w'=>After m h w (stS En (fr,h) S ops.size).1 (stS En (fr,h) S ops.size).2 a' w') (fun S a' w' hJ h9 i o ho hS hr=>?_) (fun S a' w' hJ hf=>?_) ?_
  ·obtain⟨m',e',r',f'⟩:=hJ;obtain⟨_,g4⟩:=iu hN h7 (h8 S h9 i o ho hS hr);unfold wpOp;rw[ho];simp only;exact g4 m' w' a' r' f' _ Q fun a2 w2 k2=>k2.trans e'
  ·grind[stS,fT]
  ·have:stS En (fr,h) (fun _=>false) ops.size=(fr,h):=by
    have h1:∀ n,stS En (fr,h) (fun _=>false) n=(fr,h):=by
     intro n
     induction n with
     | zero=>rfl
     | succ n ih=>simp_all[stS,if_neg]
    grind
   rw[this];generalize k0:({ w with drawn:=w.drawn+1 }:World)=w1;have hh:w1.heap=w.heap:=by grind
   have ho:w1.os=w.os:=by grind
   have ht:w1.tape=w.tape:=by grind
   have hu:w1.output=w.output:=by grind
   have e1:Evo m h w m h w1:=fq hh ho ht hu;exact⟨m,e1,ie r hh ho ht hu,fR.evo r e1⟩
end
end Go.Ab
