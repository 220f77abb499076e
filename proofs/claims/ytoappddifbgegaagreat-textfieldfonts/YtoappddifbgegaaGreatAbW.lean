/- Several texts of this proof in one. -/
import Derived.Test.YtoappddifbgegaaGreatAbDrawS
set_option linter.all false
namespace Go.Ab
variable [Base]
section
variable {P:Program}{md:FuncId->Nat}{call:aF}{cfg:Cfg}{n0:Nat}
theorem DD{t:TypeId}{h g:Heap}{a:V}(hb:∀ b k,a=.ptr b k->g[b]?=h[b]?):ej P g t a=ej P h t a:=by
 unfold ej;cases a<;>simp only
 case ptr b k =>
  have:ab g b=ab h b:=by unfold ab;rw[hb b k rfl]
  rw[this]
def Ci(P:Program)(md:FuncId->Nat)(call:aF)(cfg:Cfg)(n0:Nat)(o:Oper)(fr:List V)(h:Heap)(v:V)(h':Heap)(x ld:List Nat):Prop:=
 (isW o=false/\h'=h/\∀ f g,(∀ p∈o.op.operands.toList,ev f p=ev fr p)->(Bo o=true->∀ b∈ld,b<n0->g[b]?=h[b]?)->aB P md call cfg f g o.op=some (v,g)) \/
 (isW o=true/\∃ c:Cfg,aB P md call c fr h o.op=some (v,h')/\HS cfg h h'/\(n0<=h.length->∀ b∈ld,b<n0->(tT o=true->¬ b∈x)->h'[b]?=h[b]?))
theorem oK{t:TypeId}{n:Nat}{vs:List V}{h h':Heap}{v:V}(hx:aI P h t n vs=some (v,h')):∀ b,b<h.length->h'[b]?=h[b]?:=by
 grind[aI,List.getElem?_append_left]
theorem uO{t u:TypeId}{x:V}{h h':Heap}{v:V}(hx:bV P cfg h t u .nils x=some (v,h')):∀ b,b<h.length->h'[b]?=h[b]?:=by
 grind[bV,List.getElem?_append_left]
theorem yN{t:TypeId}{g h:Heap}{x:V}{lo hi:Option (Option V)}(hp:∀ b k,x≠.ptr b k):cN P g t x lo hi=cN P h t x lo hi:=by
 unfold cN;split<;>first|rfl|simp_all
theorem yR(hN : ck P)(h4 : bA P call){o : Oper}{fr : List V}{h h' : Heap}{x ld x' ld' : List Nat}{v : V}(hk : oOp o = true)(hs : ln P md call cfg n0 o fr h x ld = some (v, h', x', ld')):
    (∀ b ∈ x, b ∈ x') /\ (∀ b ∈ ld, b ∈ ld') /\ ∀ X L : List Nat, (∀ b ∈ x', b ∈ X) -> (∀ b ∈ ld', b ∈ L) -> Ci P md call cfg n0 o fr h v h' X L := by
  unfold oOp at hk;unfold ln at hs;split at hk
  case h_9 f args tys h0 =>
    rw[h0]at hs;simp only at hs;split at hs
    · split at hs
      · rename_i hm
        split at hs
        · rename_i v1 h1 he
          simp only[K7, Lj]at hs;obtain⟨rfl, rfl, rfl, rfl⟩ := hs;rw[<- h0]at he;obtain⟨-, h6⟩ := eG hN h4 he;refine⟨fun _ hb => hb, fun _ hb => hb, fun X L _ _ => .inr ⟨by grind[isW], _, he, ⟨h6.len, fun b hb _ => h6.prot b hb (by grind[Cfg.wr]), fun D t _ h2 => h6.inv D t h2 h2⟩, fun hn b _ h8 _ => h6.prot b (by omega) (by grind[Cfg.wr])⟩⟩
        grind
      grind
    grind
  case h_11 t n ps h0 =>
    rw[h0]at hs;simp only at hs;split at hs
    · rename_i v1 h1 he
      simp only[K7, Lj]at hs;obtain⟨rfl, rfl, rfl, rfl⟩ := hs;have h7 : aB P md call cfg fr h o.op = some (v1, h1) := by rw[h0];exact he
      obtain⟨-, h6⟩ := eG hN h4 h7;refine⟨fun _ hb => hb, fun _ hb => hb, fun X L _ _ => .inr ⟨by grind[isW], _, h7, h6, fun hn b _ h8 _ => ?_⟩⟩
      grind[opV,oK]
    grind
  case h_12 args tys h0 =>
    rw[h0]at hs;simp only at hs;split at hs
    · rename_i vs h9
      split at hs
      · rename_i v1 h1 he
        simp only[K7, Lj]at hs;obtain⟨rfl, rfl, rfl, rfl⟩ := hs;have h7 : aB P md call cfg fr h o.op = some (v1, h1) := by rw[h0];exact he
        obtain⟨-, h6⟩ := eG hN h4 h7;refine⟨fun _ hb => hb, fun _ hb => hb, fun X L _ _ => .inr ⟨by grind[isW], _, h7, h6, fun hn b _ h8 _ => ?_⟩⟩;simp only[opV, h9]at he;split at he
        · simp_all
        · rename_i hq
          simp only[Ny]at hq;obtain⟨rfl, rfl⟩ := hq
          grind[uO]
        all_goals first|cases ‹Builtin.append = _›|cases he
      grind
    grind
  case h_10 t y lo hi h0 =>
    rw[h0]at hs;simp only at hs;split at hs
    · cases hs
    · rename_i hd
      split at hs
      · rename_i v1 h1 he
        simp only[K7, Lj]at hs;obtain⟨rfl, rfl, rfl, rfl⟩ := hs;refine⟨fun _ hb => hb, fun _ hb => hb, fun X L _ _ => .inl ⟨by grind[isW], ?_⟩⟩;simp only[opV]at he;split at he
        · rename_i a ha
          obtain⟨h3, rfl⟩ := ay he;refine⟨rfl, fun f g hf _ => ?_⟩;have e1 := hf y (by grind[Op.operands]);have e2 : lo.map (ev f) = lo.map (ev fr) := by
            cases lo with
            | none => rfl
            | some q => exact congrArg some (hf q (by grind[Op.operands]))
          have e3 : hi.map (ev f) = hi.map (ev fr) := by
            cases hi with
            | none => rfl
            | some q => exact congrArg some (hf q (by grind[Op.operands]))
          rw[h0];show opV P cfg f g (.slice t y lo hi none) = _;simp only[opV, e1, ha, e2, e3];rw[yN (h := h1) fun b k e => hd b k (by grind), h3];rfl
        grind
      grind
  case h_6 t p y h0 =>
    rw[h0]at hs;simp only at hs;split at hs
    · rename_i b k hp
      split at hs
      · rename_i v1 h1 he
        simp only[K7, Lj]at hs;obtain⟨rfl, rfl, rfl, rfl⟩ := hs;have h7 : aB P md call cfg fr h o.op = some (v1, h1) := by rw[h0];exact he
        obtain⟨-, h6⟩ := eG hN h4 h7;refine⟨fun _ hb => Lc _ hb, fun _ hb => hb, fun X L hX _ => .inr ⟨by grind[isW], _, h7, h6, fun hn c hc hl hh => ?_⟩⟩;have hne : c ≠ b := fun e => hh (by grind[tT]) (by simp_all);simp only[opV, hp]at he;split at he
        · rename_i q z hq hz
          cases hq;split at he
          · rename_i h2 hj
            cases he;unfold aN at hj
            grind[aJ,List.getElem?_set_ne]
          grind
        grind
      grind
    grind
  case h_5 t p h0 =>
    rw[h0]at hs;simp only at hs;split at hs
    · rename_i v1 h1 he
      simp only[opV]at he;split at he
      · rename_i a ha
        obtain⟨h3, rfl⟩ := ay he;have main : ∀ X L : List Nat, (∀ b k, a = .ptr b k -> b ∈ L /\ b < n0) -> Ci P md call cfg n0 o fr h1 v1 h1 X L := fun X L hL => .inl ⟨by grind[isW], rfl, fun f g hf hg => by
          have e1 := hf p (by grind[Op.operands]);rw[h0];show opV P cfg f g (.load t p) = _
          grind[opV,DD,Bo]⟩
        grind
      grind
    grind
  case h_13 => cases hk
  all_goals
    rename_i h0;rw[h0]at hs;simp only at hs;split at hs
    · rename_i v1 h1 he
      simp only[K7, Lj]at hs;obtain⟨rfl, rfl, rfl, rfl⟩ := hs;refine⟨fun _ hb => hb, fun _ hb => hb, fun X L _ _ => .inl ⟨by simp[isW, h0], ?_⟩⟩;simp only[opV]at he
      repeat' split at he
      all_goals first
        | (cases he;done)
        | (obtain⟨h3, rfl⟩ := ay he
           refine⟨rfl, fun f g hf _ => ?_⟩;rw[h0]at hf ⊢;simp only[Op.operands, Lt, MB, or_false, forall_eq_or_imp, forall_eq]at hf;simp_all[aB, opV])
    · cases hs
structure TrO(P:Program)(md:FuncId->Nat)(call:aF)(cfg:Cfg)(n0:Nat)(l:List Oper)(X L:List Nat)(F:Nat->List V)(H:Nat->Heap)(v:Nat->V):Prop where
 fr:∀ i o,l[i]?=some o->F (i+1)=put (F i) o.dst (v i)
 kd:∀ i o,l[i]?=some o->Ci P md call cfg n0 o (F i) (H i) (v i) (H (i+1)) X L
theorem Am(hN:ck P)(h0:bA P call):∀ (l:List Oper) {fr fr':List V}{h h':Heap}{x ld x' ld':List Nat},l.all oOp=true->oP P md call cfg n0 l fr h x ld=some (fr',h',x',ld') ->
  (∀ b∈x,b∈x')/\(∀ b∈ld,b∈ld')/\∀ X L:List Nat,(∀ b∈x',b∈X)->(∀ b∈ld',b∈L)->∃ F H v,F 0=fr/\H 0=h/\F l.length=fr'/\H l.length=h'/\TrO P md call cfg n0 l X L F H v
 | [],fr,fr',h,h',x,ld,x',ld',_,hr=>by
  simp only[oP,K7,Lj]at hr;obtain⟨rfl,rfl,rfl,rfl⟩:=hr;exact⟨fun _ hb=>hb,fun _ hb=>hb,fun X L _ _=>⟨fun _=>fr,fun _=>h,fun _=>.no,rfl,rfl,rfl,rfl,⟨fun i o ho=>by grind,fun i o ho=>by grind⟩⟩⟩
 | o::r,fr,fr',h,h',x,ld,x',ld',hk,hr=>by
  simp only[Nv,Ld]at hk;unfold oP at hr;split at hr
  ·rename_i v1 h1 x1 ld1 hs;obtain⟨a1,a2,a3⟩:=yR hN h0 hk.1 hs;obtain⟨b1,b2,b3⟩:=Am hN h0 r hk.2 hr;refine⟨fun b hb=>b1 b (a1 b hb),fun b hb=>b2 b (a2 b hb),fun X L hX hL=>?_⟩;obtain⟨F,H,v,c1,c2,c3,c4,c5⟩:=b3 X L hX hL;have k1:=a3 X L (fun b hb=>hX b (b1 b hb)) fun b hb=>hL b (b2 b hb);refine⟨fun i=>if i=0 then fr else F (i-1),fun i=>if i=0 then h else H (i-1),fun i=>if i=0 then v1 else v (i-1),rfl,rfl,by simp_all,by simp_all,⟨fun i q hq=>?_,fun i q hq=>?_⟩⟩
   ·cases i with
    | zero=>simp_all
    | succ i=>simpa using c5.fr i q (by simp_all)
   ·cases i with
    | zero=>simp_all
    | succ i=>simpa using c5.kd i q (by simp_all)
  grind
def hpO(ops:Array Oper)(H:Nat->Heap)(S:Nat->Bool):Nat->Heap
 | 0=>H 0
 | n+1=>match ops[n]? with
  | some o=>if S n=true/\isW o=true then H (n+1) else hpO ops H S n
  | none=>hpO ops H S n
theorem qC{ops:Array Oper}{H:Nat->Heap}{S:Nat->Bool}{i:Nat}(h0:∀ j o,ops[j]?=some o->isW o=false->H (j+1)=H j)(h3:∀ j o,j<i->ops[j]?=some o->isW o=true->S j=true):
  ∀ n,(∀ j o,i<=j->j<n->ops[j]?=some o->isW o=true->S j=false)->i<=ops.size->n<=ops.size->hpO ops H S n=H (min i n)
 | 0,_,_,_=>by simp[hpO]
 | n+1,h4,hi,hn=>by
  have ih:=qC h0 h3 n (fun j o h1 h2=>h4 j o h1 (by omega)) hi (by omega)
  grind[Array.getElem?_eq_getElem,hpO,min,isW,absurd]
theorem me{ops:Array Oper}{H:Nat->Heap}{S T:Nat->Bool}(h0:∀ j o,ops[j]?=some o->isW o=true->S j=T j):∀ n,hpO ops H S n=hpO ops H T n
 | 0=>rfl
 | n+1=>by
  rw[hpO,hpO];cases ho:ops[n]? with
  | none=>exact me h0 n
  | some o =>
   simp only;by_cases hc:isW o=true
   ·rw[h0 n o ho hc,me h0 n]
   ·simp only[hc,and_false,Lv,if_false];exact me h0 n
theorem vL{ops:Array Oper}{H:Nat->Heap}{S:Nat->Bool}:∀ n,∃ j,j<=n/\hpO ops H S n=H j/\(j=0\/∃ i o,j=i+1/\ops[i]?=some o/\S i=true/\isW o=true)/\∀ p o,j<=p->p<n->ops[p]?=some o->isW o=true->S p=false
 | 0=>⟨0,La _,rfl,.inl rfl,fun p o h1 h2=>by omega⟩
 | n+1=>by
  obtain⟨j,h1,h2,h3,h4⟩:=vL (ops:=ops) (H:=H) (S:=S) n;rw[hpO]
  grind
theorem yV{c c':Cfg}{t:TypeId}{p y:Operand}{fr:List V}{h:Heap}{a b:V×Heap}(h1:opV P c fr h (.store t p y)=some a)(h2:opV P c' fr h (.store t p y)=some b):a=b:=by
 simp only[opV]at h1 h2;split at h1
 ·rename_i q z hq hz;rw[hq,hz]at h2;simp only at h2;unfold aN at h1 h2;cases q
  case ptr b k =>
   split at h1
   ·rename_i g1 e1;split at h2
    ·rename_i g2 e2;cases h1;cases h2;split at e1
     ·rename_i heq h0 h3;cases heq;rw[h0,h3]at e2;simp only at e2;split at e1
      ·rename_i hl;rw[if_pos hl]at e2
       grind[aJ]
      grind
     grind
    grind
   grind
  all_goals (simp at h1;done)
 grind
theorem Bm{n1 : Nat}{ops : Array Oper}{o : Oper}{fr : List V}{h h1 h2 : Heap}{v1 v2 : V}{x ld x1 ld1 x' ld' x2 ld2 : List Nat}(hg : o.guard = none)(hk : oOp o = true)(ha : cL P md call cfg n1 ops o fr h x ld = some (v1, h1, x1, ld1))(hb : ln P md call cfg n0 o fr h x' ld' = some (v2, h2, x2, ld2)): v1 = v2 /\ h1 = h2 := by
  unfold cL cy at ha;rw[hg]at ha;simp only at ha;unfold oOp at hk;unfold ln at hb;split at hk
  case h_9 f args tys h0 =>
    rw[h0]at ha hb;simp only at ha hb;split at hb
    · rename_i g first captured hf
      split at hb
      · rename_i hm
        split at hb
        · rename_i he
          simp only[K7, Lj]at hb;obtain⟨rfl, rfl, rfl, rfl⟩ := hb
          grind[aB,cH,Option.some.injEq,Prod.mk.injEq]
        grind
      grind
    grind
  case h_6 t p y h0 =>
    rw[h0]at ha hb;simp only at ha hb;split at hb
    · rename_i b k hp
      rw[hp]at ha;simp only at ha;split at hb
      · rename_i he
        simp only[K7, Lj]at hb;obtain⟨rfl, rfl, rfl, rfl⟩ := hb;split at ha
        · split at ha
          · rename_i h3
            simp only[K7, Lj]at ha;obtain⟨rfl, rfl, rfl, rfl⟩ := ha;have := yV h3 he;simp_all
          grind
        grind
      grind
    grind
  case h_5 t p h0 =>
    rw[h0]at ha hb
    grind
  case h_13 => cases hk
  all_goals
    rename_i h0;rw[h0]at ha hb;simp only at ha hb;split at ha
    · rename_i hh
      first
      | (simp[eF]at hh;done)
      | (split at ha
         · rename_i h3
           rw[h3]at hb;simp only[K7, Lj]at ha;obtain⟨rfl, rfl, rfl, rfl⟩ := ha;simp only at hb
           repeat' split at hb
           all_goals first
             | (cases hb;done)
             | (simp only[K7, Lj]at hb;exact⟨hb.1, hb.2.1⟩)
         · cases ha)
    · cases ha
theorem B6{ops : Array Oper}{o : Oper}{fr fr1 : List V}{h h1 h2 : Heap}{v2 : V}{x' ld' x2 ld2 : List Nat}(hg : o.guard = none)(hv : nN o = false)(ha : cZ P md call cfg ops o fr h = some (fr1, h1))(hb : ln P md call cfg n0 o fr h x' ld' = some (v2, h2, x2, ld2)): fr1 = put fr o.dst v2 /\ h1 = h2 := by
  unfold cZ cy at ha;rw[hg]at ha;simp only at ha;have h0 : aB P md call cfg fr h o.op = opV P cfg fr h o.op := by
    grind[nN,aB]
  rw[h0]at ha;split at ha
  · rename_i v1 h3 he
    simp only[K7, Lj]at ha;obtain⟨rfl, rfl⟩ := ha;have : v1 = v2 /\ h3 = h2 := by
      unfold ln at hb;split at hb
      · grind[nN]
      all_goals
        first
        | (rename_i h4;rw[h4]at he)
        | skip
        repeat' split at hb
        all_goals first
          | (cases hb;done)
          | (simp only[K7, Lj]at hb
             obtain⟨rfl, rfl, rfl, rfl⟩ := hb;simp_all)
    simp_all
  grind
theorem lf{ops:Array Oper}:∀ (l:List Oper) {fr:List V}{h:Heap}{x ld:List Nat}{r:List V×Heap}{q:List V×Heap×List Nat×List Nat},(∀ o∈l,o.guard=none/\oOp o=true/\nN o=false)->cm P md call cfg ops l fr h=some r->oP P md call cfg n0 l fr h x ld=some q->r=(q.1,q.2.1)
 | [],fr,h,x,ld,r,q,_,h1,h2=>by cases h1;cases h2;rfl
 | o::l,fr,h,x,ld,r,q,hl,h1,h2=>by
  unfold cm at h1;unfold oP at h2;obtain⟨g1,-,g3⟩:=hl o Ll;split at h1
  ·rename_i e1;split at h2
   ·rename_i e2;obtain⟨rfl,rfl⟩:=B6 g1 g3 e1 e2;exact lf l (fun p hp=>hl p (Lc _ hp)) h1 h2
   grind
  grind
theorem wW{n1:Nat}{ops:Array Oper}:∀ (l tl:List Oper) {fr fr1:List V}{h h1:Heap}{x ld x' ld' x1 ld1:List Nat}{r:List V×Heap}{q:List V×Heap×List Nat×List Nat},(∀ o∈l,o.guard=none/\oOp o=true)->(∀ o∈tl,o.guard=none/\oOp o=true/\nN o=false)->cW P md call cfg n1 ops l fr h x' ld'=some (fr1,h1,x1,ld1)->cm P md call cfg ops tl fr1 h1=some r->oP P md call cfg n0 (l++tl) fr h x ld=some q->r=(q.1,q.2.1)
 | [],tl,fr,fr1,h,h1,x,ld,x',ld',x1,ld1,r,q,_,ht,e1,e2,e3=>by
  simp only[cW,K7,Lj]at e1;obtain⟨rfl,rfl,rfl,rfl⟩:=e1
  grind[lf]
 | o::l,tl,fr,fr1,h,h1,x,ld,x',ld',x1,ld1,r,q,hl,ht,e1,e2,e3=>by
  unfold cW at e1;rw[LM]at e3;unfold oP at e3;obtain⟨g1,g2⟩:=hl o Ll;split at e1
  ·rename_i k1;split at e3
   ·rename_i k2;obtain⟨rfl,rfl⟩:=Bm g1 g2 k1 k2;exact wW l tl (fun p hp=>hl p (Lc _ hp)) ht e1 e2 e3
   grind
  grind
theorem xP{ops:Array Oper}{fr:List V}{h:Heap}{r q:List V×Heap}(hs:oOK P ops=true)(h1:fC P md call cfg ops fr h=some r)(h2:nT P md call cfg ops fr h=some q):r=q:=by
 unfold oOK at hs;simp only[Ld,Lk,Ns,Mq]at hs;obtain⟨⟨⟨⟨⟨hk,hg⟩,-⟩,-⟩,-⟩,hv⟩:=hs;unfold fC at h1;unfold nT at h2;simp only at h1;split at h1
 ·split at h1
  ·rename_i e1;split at h1
   ·split at h2
    ·rename_i e2;split at h2
     ·cases h2;rw[<- List.take_append_drop (iI (ei P 0 ops.toList) (gC [] ops.toList) ops.size) ops.toList]at e2;exact wW _ _ (fun o ho=>⟨hg o (LQ ho),hk o (LQ ho)⟩) (fun o ho=>⟨hg o (MG ho),hk o (MG ho),hv o ho⟩) e1 h1 e2
     grind
    grind
   grind
  grind
 grind
theorem CV(hm:P.follows .mixedOrders=true)(hN:ck P)(h8:bA P call){ops:Array Oper}{fr:List V}{h:Heap}{fr':List V}{h':Heap}(hs:oOK P ops=true)(hd:nT P md call cfg ops fr h=some (fr',h')):
  HS cfg h h'/\∀ m w a id,Rel m h w->FR m h w fr a->∀ (Q:Exit->Act->World->Prop),(∀ a' w',After m h w fr' h' a' w'->Q .normal a' w')->(Code.region id ops true).wp P Q a w:=by
 unfold oOK at hs;simp only[Ld]at hs;obtain⟨⟨⟨⟨⟨hk,hg⟩,hI⟩,k0⟩,hK⟩,-⟩:=hs;have st:=jd k0;unfold nT at hd;split at hd
 case h_2=>cases hd
 rename_i fr1 h1 x ld he;split at hd
 case isFalse=>cases hd
 rename_i k1;simp only[K7,Lj]at hd;obtain⟨rfl,rfl⟩:=hd;obtain⟨-,-,k3⟩:=Am hN h8 _ hk he;obtain⟨F,H,v,rfl,rfl,rfl,rfl,tr⟩:=k3 x ld (fun _ hb=>hb) fun _ hb=>hb;have hlen:ops.toList.length=ops.size:=by simp
 rw[hlen]at he ⊢;have at':∀ {i:Nat} {o:Oper},ops[i]?=some o->ops.toList[i]?=some o:=fun {i o} ho=>by simpa using ho
 have hz:∀ j o,ops[j]?=some o->isW o=false->H (j+1)=H j:=fun j o ho hc=>by
  rcases tr.kd j o (at' ho) with⟨_,e,_⟩|⟨e,_⟩
  ·exact e
  ·rw[hc]at e;cases e
 have hZ:∀ n,n<=ops.size->HS cfg (H 0) (H n):=by
  intro n
  induction n with
  | zero=>exact fun _=>.refl _ _
  | succ n ih =>
   intro hn;refine (ih (by omega)).trans ?_;rcases tr.kd n _ (at' (Lf (by omega))) with⟨_,e,_⟩|⟨_,c,_,e,_⟩
   ·rw[e];exact .refl _ _
   ·exact e
 have hf:∀ b∈ld,b<(H 0).length->∀ k n,k+n<=ops.size->(∀ p o,k<=p->p<k+n->ops[p]?=some o->tT o=true->¬ b∈x)->(H (k+n))[b]?=(H k)[b]?:=by
  intro b hb hA k n
  induction n with
  | zero=>exact fun _ _=>rfl
  | succ n ih =>
   intro hn g0;rw[<- ih (by omega) fun p o h1 h2=>g0 p o h1 (by omega),<- Nat.add_assoc];have ho:ops[k+n]?=some ops[k+n]:=Lf (by omega);rcases tr.kd (k+n) _ (at' ho) with⟨_,e,_⟩|⟨_,c,_,_,e⟩
   ·rw[e]
   ·exact e (hZ (k+n) (by omega)).len b hb hA fun hs=>g0 _ _ (by omega) (by omega) ho hs
 let E:Nat->Eff:=fun j=>match ops[j]? with
  | some o=>(o.dst,v j,none)
  | none=>(none,.no,none)
 have hE:∀ {j o},ops[j]?=some o->E j=(o.dst,v j,none):=fun {j o} ho=>by simp only[E,ho]
 have hF:∀ n,n<=ops.size->(stS E (F 0,[]) (fun _=>true) n).1=F n:=by
  intro n
  induction n with
  | zero=>exact fun _=>rfl
  | succ n ih =>
   intro hn;have ho:ops[n]?=some ops[n]:=Lf (by omega);rw[stS,if_pos rfl,hE ho,tr.fr n _ (at' ho),<- ih (by omega)];rfl
 have hL:∀ i j,i<j->j<ops.size->ComE (E i) (E j):=fun i j g1 hj=>by
  have g2:ops[i]?=some ops[i]:=Lf (by omega);have h9:ops[j]?=some ops[j]:=Lf hj;rw[hE g2,hE h9];have hM:∀ (q:Oper) (u:V) (b k:Nat) (z:V),((q.dst,u,none):Eff).2.2≠some (b,k,z):=fun _ _ _ _ _ h=>by cases h
  exact⟨zx hI i j _ _ g1 (at' g2) (at' h9),fun b k u h=>absurd h (hM _ _ _ _ _),fun b k u h=>absurd h (hM _ _ _ _ _),fun b k u b' k' u' h _=>absurd h (hM _ _ _ _ _)⟩
 refine⟨hZ _ (La _),fun m w a id r fR Q hQ=>?_⟩;refine kZ hm st.back (fun S a' w'=>After m (H 0) w (stS E (F 0,[]) S ops.size).1 (hpO ops H S ops.size) a' w') (fun S a' w' hJ h4 i o ho ha hr=>?_) (fun S a' w' hJ hl=>?_) ?_
 ·have hi:=(Lo.1 ho).1;have k4:o.guard=none:=by simpa using Lk.1 hg o (K6 (at' ho))
  have k5:F i=(stS E (F 0,[]) (fun j=>decide (j<i)) ops.size).1:=by rw[ir _ (by omega),hF i (by omega)]
  have hv:∀ s∈o.looksAt ops,(stS E (F 0,[]) S ops.size).1[s]?=(F i)[s]?:=fun s hs=>by
   rw[k5];refine rE _ fun j hj hO=>?_;have h9:ops[j]?=some ops[j]:=Lf hj;rw[hE h9]at hO;rcases Mr j i with g3|rfl|hgt
   ·rw[decide_eq_true g3];rcases st.head j i _ o g3 hi h9 ho with h|⟨h,_⟩
    ·exact bm st.back h4 i o ho hr h
    ·exact absurd hs ((Oper.apart_spec h).1 s hO)
   ·rw[ha];simp
   ·rw[decide_eq_false (by omega)];cases hP:S j with
    | false=>rfl
    | true =>
     rcases st.head i j o _ hgt hj ho h9 with h|⟨h,_⟩
     ·have:=bm st.back h4 j _ h9 (h4 j _ h9 hP) h;rw[ha]at this;cases this
     ·exact absurd hs ((Oper.apart_spec h).2.2 s hO)
  have g4:∀ p∈o.op.operands.toList,ev (stS E (F 0,[]) S ops.size).1 p=ev (F i) p:=jv hv;have hR:(stS E (F 0,[]) (ba S i) ops.size).1=put (stS E (F 0,[]) S ops.size).1 o.dst (v i):=by
   rw[uy (E:=E) (st0:=(F 0,[])) ha ops.size hi fun j h1 h2=>hL i j h1 h2,hE ho];rfl
  have h6:∃ c:Cfg,aB P md call c (stS E (F 0,[]) S ops.size).1 (hpO ops H S ops.size) o.op=some (v i,hpO ops H (ba S i) ops.size):=by
   rcases tr.kd i o (at' ho) with⟨hw,_,k6⟩|⟨hw,c,hS,_,_⟩
   ·refine⟨cfg,?_⟩;rw[k6 _ (hpO ops H S ops.size) g4 fun hy b hb hA=>?_]
    ·rw[me (S:=ba S i) (T:=S) fun j q hq h0=>cI fun e=>by
      subst e;rw[ho]at hq;cases hq;rw[hw]at h0;cases h0]
    ·obtain⟨j,hj,e,k7,k8⟩:=vL (ops:=ops) (H:=H) (S:=S) ops.size;have g5:∀ p q,(i<=p/\p<j\/j<=p/\p<i)->ops[p]?=some q->tT q=true->¬ b∈x:=by
      rcases LP _ _ ▸ k1 with hx|g6
      ·intro p q _ _ _ k9;have:=Lk.1 hx b k9;simp[hb]at this
      ·intro p q hT hq h7;exfalso;have hD:isW q=true:=by
        unfold tT at h7;split at h7
        ·rename_i hS;simp[isW,hS]
        ·cases h7
       rcases hT with⟨h1,h2⟩|⟨h1,h2⟩
       ·have z0:i≠p:=fun e=>by
         subst e;rw[ho]at hq;cases hq;rw[hw]at hD;cases hD
        have hX:S p=true:=by
         rcases k7 with rfl|⟨i',o',rfl,hY,g7,w7⟩
         ·omega
         ·by_cases e:p=i'
          ·rw[e];exact g7
          ·exact bm st.back h4 i' o' hY (h4 i' o' hY g7) (nC hK (by omega) (at' hq) (at' hY) hD w7)
        have:=bm st.back h4 p q hq (h4 p q hq hX) (vZ g6 (by omega) (at' ho) (at' hq) (.inl ⟨hy,h7⟩));rw[ha]at this;cases this
       ·have hX:S p=true:=bm st.back h4 i o ho hr (vZ g6 h2 (at' hq) (at' ho) (.inr ⟨h7,hy⟩));have:=k8 p q h1 (by omega) hq hD;rw[hX]at this;cases this
     rw[e];rcases Nat.le_total j i with z1|g1
     ·have:=hf b hb hA j (i-j) (by omega) fun p q h1 h2 hq h7=>g5 p q (.inr ⟨h1,by omega⟩) hq h7;rw[show j+(i-j)=i by omega]at this;exact this.symm
     ·have:=hf b hb hA i (j-i) (by omega) fun p q h1 h2 hq h7=>g5 p q (.inl ⟨h1,by omega⟩) hq h7;rwa [show i+(j-i)=j by omega]at this
   ·refine⟨c,?_⟩;have g8:∀ j q,j<i->ops[j]?=some q->isW q=true->S j=true:=fun j q hj hq h0=>by
     exact bm st.back h4 i o ho hr (nC hK hj (at' hq) (at' ho) h0 hw)
    have g9:∀ j q,i<j->j<ops.size->ops[j]?=some q->isW q=true->S j=false:=fun j q hj z2 hq h0=>by
     cases hP:S j with
     | false=>rfl
     | true =>
      have:=bm st.back h4 j q hq (h4 j q hq hP) (nC hK hj (at' ho) (at' hq) hw h0);rw[ha]at this;cases this
    have e1:hpO ops H S ops.size=H i:=by
     have:=qC (S:=S) (i:=i) hz g8 ops.size (fun j q h1 h2 hq h0=>by
      rcases Nat.eq_or_lt_of_le h1 with rfl|h3
      ·exact ha
      ·exact g9 j q h3 h2 hq h0) (by omega) (La _)
     rwa [show min i ops.size=i by omega]at this
    have e2:hpO ops H (ba S i) ops.size=H (i+1):=by
     have:=qC (S:=ba S i) (i:=i+1) hz (fun j q h1 hq h0=>by
      by_cases e:j=i
      ·subst e;exact fW _ _
      ·rw[cI e];exact g8 j q (by omega) hq h0) ops.size (fun j q h1 h2 hq h0=>by
      rw[cI (by omega)];exact g9 j q (by omega) h2 hq h0) (by omega) (La _)
     rwa [show min (i+1) ops.size=i+1 by omega]at this
    rw[e1,e2,iR g4];exact hS
  obtain⟨c,h6⟩:=h6;obtain⟨m',e',r',f'⟩:=hJ;have w8:cZ P md call c ops o (stS E (F 0,[]) S ops.size).1 (hpO ops H S ops.size)=some ((stS E (F 0,[]) (ba S i) ops.size).1,hpO ops H (ba S i) ops.size):=by
   unfold cZ cy;rw[k4];simp only[h6,hR]
  obtain⟨_,w9⟩:=iu hN h8 w8;unfold wpOp;rw[ho];simp only;exact w9 m' w' a' r' f' _ Q fun a2 w2 k2=>k2.trans e'
 ·have e1:(stS E (F 0,[]) S ops.size).1=F ops.size:=by rw[<- hF _ (La _)];exact congrArg Prod.fst (fT _ fun j hj=>hl j hj)
  have e2:hpO ops H S ops.size=H ops.size:=by
   have:=qC (S:=S) (i:=ops.size) hz (fun j q h1 _ _=>hl j h1) ops.size (fun j q h1 h2=>by omega) (La _) (La _);rwa [Nat.min_self]at this
  rw[e1,e2]at hJ;exact hQ a' w' hJ
 ·have e1:∀ n,stS E (F 0,[]) (fun _=>false) n=(F 0,[]):=by
   intro n
   induction n with
   | zero=>rfl
   | succ n ih=>rw[stS,if_neg (by simp),ih]
  have e2:hpO ops H (fun _=>false) ops.size=H 0:=by
   have:=qC (H:=H) (S:=fun _=>false) (i:=0) hz (fun j q h1=>by omega) ops.size (fun j q h1 h2 _ _=>rfl) (by omega) (La _);rwa [Nat.zero_min]at this
  rw[e1,e2];generalize hH:({ w with drawn:=w.drawn+1 }:World)=w1;have hh:w1.heap=w.heap:=by rw[<- hH]
  have ho:w1.os=w.os:=by rw[<- hH]
  have ht:w1.tape=w.tape:=by rw[<- hH]
  have hu:w1.output=w.output:=by rw[<- hH]
  have e1:Evo m (H 0) w m (H 0) w1:=fq hh ho ht hu;exact⟨m,e1,ie r hh ho ht hu,fR.evo r e1⟩
end
end Go.Ab
namespace Go.Ab
variable [Base]
section
variable {P:Program}{md:FuncId->Nat}{call:aF}{cfg:Cfg}{ops:Array Oper}{N:Nat}{x:List Nat}{F:Nat->List V}{H:Nat->Heap}{v:Nat->V}
theorem tr_HS(hN:ck P)(h0:bA P call)(tr:Tr P md call cfg ops N x F H v)(hle:N<=ops.size):∀ i,i<=N->HS cfg (H 0) (H i):=by
 intro i
 induction i with
 | zero=>intro _;exact .refl _ _
 | succ i ih =>
  intro hi;refine (ih (by omega)).trans ⟨tr.len1 hle (by omega),fun b hb hw=>(tr.hs hN h0 hle (by omega)).1 b hb fun hx=>?_,fun D t _ h2 hinv=>(tr.hs hN h0 hle (by omega)).2.2 D t h2 hinv⟩;rw[tr.xwr b hx]at hw;cases hw
theorem C6(fr:List V)(n:Nat):frS ops v (fun _=>false) fr n=fr:=by
 induction n with
 | zero=>rfl
 | succ n ih=>simp only[frS,Lv,if_false,ih];split<;>rfl
theorem FH{S:Nat->Bool}(fr:List V)(n:Nat)(hS:∀ j,j<n->S j=true):frS ops v S fr n=frS ops v (fun _=>true) fr n:=by
 induction n with
 | zero=>rfl
 | succ n ih=>grind[frS]
theorem G_all(hN:ck P)(h0:bA P call)(tr:Tr P md call cfg ops N x F H v)(hle:N<=ops.size){k:Nat}(hk:k<=N)(h6:∀ j (hj:j<ops.size),k<=j->j<N->aU ops[j]=false):G H N x k=H N:=
 oU tr hle (La N) hk fun b _ hb=>by
  have h1:=(lR H b N).2.1;have h2:b<(H (max k (bi H b N))).length:=Lu (si (La _) hb) (tr.len hle (by omega) (by omega));exact tr.xsame hN h0 hle (by omega) (La _) h2 fun j hj h3 h4=>h6 j hj (by omega) h4
theorem Dw(hN:ck P)(h6:bA P call)(tr:Tr P md call cfg ops N x F H v)(hle:N<=ops.size){m:Mu}{w:World}{a:Act}(r:Rel m (H 0) w)(fR:FR m (H 0) w (F 0) a):
  ∃ m',JH ops N x F H v m w (fun _=>false) a { w with drawn:=w.drawn+1 } m' 0:=by
 generalize hv:({ w with drawn:=w.drawn+1 }:World)=w1;have hh:w1.heap=w.heap:=by grind
 have ho:w1.os=w.os:=by grind
 have ht:w1.tape=w.tape:=by grind
 have hu:w1.output=w.output:=by grind
 have r1:Rel m (H 0) w1:=ie r hh ho ht hu;have e1:Evo m (H 0) w m (H 0) w1:=fq hh ho ht hu;have hgt:(G H N x 0).take (H 0).length=H 0:=by
  rw[pD hN h6 tr hle (LA _),oU tr hle (LA _) (LA _) fun b _ hb=>by rw[show max 0 (bi H b N)=0 by have:=uQ (N:=N) hb;omega]]
 have hw:(G H N x 0).length=(H N).length:=lN 0;have hA:=tr.len hle (LA N) (La N);have h7:∀ b,b<(H 0).length->(G H N x 0)[b]?=(H 0)[b]?:=by
  grind
 have h8:∀ b,b<(H 0).length->(live (G H N x 0) b↔live (H 0) b):=fun b hb=>by grind[live]
 generalize h9:(⟨fun b=>if b<(H 0).length then m b else none,m.z⟩:Mu)=m1;have ha:m1.z=m.z:=by grind
 have h0:∀ b c,m1 b=some c->b<(H 0).length/\m b=some c:=by
  intro b c hf;rw[<- h9]at hf;simp_all
 have hg:∀ b,b<(H 0).length->m1 b=m b:=fun b hb=>by rw[<- h9];simp[hb]
 have hR:∀ {y:V} {z:Value},R m (H 0) w1 y z->R m1 (G H N x 0) w1 y z:=by
  intro y z hD;have hz:m.z=(Mu.cut ⟨fun _=>none,m.z⟩ (G H N x 0) (H 0).length).z:=by
   grind[Mu.cut]
  have:=R.glue (m:=⟨fun _=>none,m.z⟩) (g:=G H N x 0) (m':=m) (g':=G H N x 0) (w':=w1) (n:=(H 0).length) (n':=(H 0).length) hz (La _) (fun _ _=>rfl) (by omega) (x:=y) (v:=z) (by grind)
  grind[Mu.glue]
 refine⟨m1,LA _,fun i _ _ _=>by simp,fun _ _=>rfl,fun b _ c _ _ _ _=>by rfl,?_,?_,?_,fun b c hl hm=>.inl (h0 b c hm).1,fun b c cs hc hm j hj hE e he=>?_,fun i h=>by cases h⟩
 ·refine⟨ha,by omega,fun b hb hl=>⟨(h8 b hb).1 hl,hg b hb⟩,fun b c hl hc=>?_,e1.frame,e1.size,e1.rs,ho,ht,hu⟩
  grind
 ·refine⟨fun b c hl hc=>?_,fun b hb=>r1.zl b (by simp_all),fun b b' c hl hn hc hq=>?_,fun b cs c hd hc=>?_⟩
  ·obtain⟨h1,h2⟩:=h0 b c hc;rw[ha];exact r1.zo b c ((h8 b h1).1 hl) h2
  ·obtain⟨h1,h2⟩:=h0 b c hc;obtain⟨h3,h4⟩:=h0 b' c hq;exact r1.inj b b' c ((h8 b h1).1 hl) ((h8 b' h3).1 hn) h2 h4
  ·obtain⟨h1,h2⟩:=h0 b c hc;rw[h7 b h1]at hd;exact (r1.blk b cs c hd h2).carry rfl fun d z _ hr=>hR hr
 ·rw[C6];exact⟨fR.len,fun s y z hy hz=>hR ((fR.slot s y z hy hz).evo e1 r.lt),fR.defers.frame r e1.size e1.frame⟩
 ·obtain⟨h1,h2⟩:=h0 b c hm;rw[h7 b h1]at hc;exact ((r1.blk b cs c hc h2).bel he).mono (tr.len hle (LA j) hj)
theorem Dv{m0:Mu}{w0:World}(st:Static P ops N)(hN:ck P)(h7:bA P call)(tr:Tr P md call cfg ops N x F H v)(hD:∀ (s:Nat) (c:V),(F 0)[s]?=some c->Bel (H 0).length c){S:Nat->Bool}{a:Act}{w:World}{m:Mu}{k:Nat}
  (J:JH ops N x F H v m0 w0 S a w m k) (hf:Closed ops S) {i:Nat} {o:Oper} (hi:i<N) (ho:ops[i]?=some o) (hS:S i=false) (hr:Ready S o) (hl:cJ P o=true):
  ∃ u,Blind P ops o a u/\∃ m' k',JH ops N x F H v m0 w0 (ba S i) (a.put o.dst u) w m' k':=by
 have hle:=st.le;have hn:∀ s∈o.looksAt ops,(frS ops v S (F 0) N)[s]?=(F i)[s]?:=fun s hs=>Av st tr hf hi ho hS hr hs;have hL:∀ q,(G H N x q).length=(H N).length:=lN;have hM:=tr.len hle (by omega:i<=N) (La N);obtain⟨hO,h8⟩:=tr.step i o hi ho;have hq:∀ b,cy ops (F i) o=some b->Region.wanted o (yielded ops a.tmps)=b:=fun b hb=>dH J.fR (by grind[oI]);have h0:∀ s∈o.looksAt ops,∀ c,(F i)[s]?=some c->Bel (H i).length c:=by
  intro s hs;refine wZ tr hle (hD s) i (by omega) fun j oj hj hE hd=>?_;have hF:S j=true:=by
   rcases st.head j i oj o hj hi hE ho with h|⟨h,_⟩
   ·exact bm st.back hf i o ho hr h
   grind[absurd,Oper.apart_spec]
  exact J.vb j hF (by omega)
 have ha:Rel (m.cut (G H N x k) (H i).length) ((G H N x k).take (H i).length) w:=J.rel.cut (by simp_all) fun b cs c hb hc hm e he=>J.bel b c cs hc hm i (by omega) hb e he;have h4:FR (m.cut (G H N x k) (H i).length) ((G H N x k).take (H i).length) w (eW (o.looksAt ops) (frS ops v S (F 0) N)) a:=by
  refine⟨by rw[kU];exact J.fR.len,fun s y z hy hz=>?_,J.fR.defers⟩;by_cases hs:s∈o.looksAt ops
  ·rw[jZ hs]at hy;exact (J.fR.slot s y z hy hz).cut (by simp_all) (h0 s hs y (by simp_all))
  ·rw[qQ hs hy];exact .any _
 have h9:∀ s∈o.looksAt ops,(F i)[s]?=(eW (o.looksAt ops) (frS ops v S (F 0) N))[s]?:=fun s hs=>by grind[jZ]
 have ht:aU o=false:=by
  grind[cJ,aU]
 have h6:∀ b∈x,∀ c,c<N->(H c).length<=b->b<(H (c+1)).length->ba S i c=false->(H (max k (c+1)))[b]?=(H (c+1))[b]?:=by
  intro b hb c hc h1 h2 h3;refine J.born b hb c hc h1 h2 ?_
  grind[cI]
 -- what it leaves, and the step
 have fin:∀ u,H (i+1)=H i->R (m.cut (G H N x k) (H i).length) ((G H N x k).take (H i).length) w (v i) u->∃ m' k',JH ops N x F H v m0 w0 (ba S i) (a.put o.dst u) w m' k':=by
  intro u hH hA;refine⟨_,k,yf st hN h7 tr J hf hi ho hS J.kle (.inl rfl) h6 (lq J.kcall ho ht) (m':=m.cut (G H N x k) (H i).length) (w':=w) (u:=u) (by rw[hH];exact .refl _ _ _) (by simp_all) (by simp_all) ?_⟩;intro b c cs hb _ hc hm j hj hI e he;exact J.bel b c cs hc (by grind[Mu.cut]) j hj hI e he
 rcases h8 with⟨hw,hv,hH⟩|⟨hw,hJ,hh,hK,hP⟩|⟨hw,hJ,_⟩
 ·exact⟨undef,.inr ⟨hq false hw,rfl⟩,fin undef hH (by rw[hv];exact .no)⟩
 ·obtain⟨hH,_⟩:=qw hl hK;have hg:opV P cfg (eW (o.looksAt ops) (frS ops v S (F 0) N)) (H i) o.op=some (v i,H (i+1)):=by
   have h1:aB P md call cfg (F i) (H i) o.op=some (v i,H (i+1)):=by grind[fx]
   rw[iR (jv h9),fx ht]at h1;exact h1
  obtain⟨u,hu,hA⟩:=qx hl hg h4;exact⟨u,.inl ⟨hq true hw,hu⟩,fin u hH hA⟩
 simp_all
theorem yT{m0:Mu}{h0:Heap}{w0:World}{o:Oper}(h4:cJ P o=true){fr fr2:List V}{h h2:Heap}(h3:cZ P md call cfg ops o fr h=some (fr2,h2)){a:Act}{w:World}(k:After m0 h0 w0 fr h a w):
  ∃ u,Blind P ops o a u/\After m0 h0 w0 fr2 h2 (a.put o.dst u) w:=by
 obtain⟨m,e,r,f⟩:=k;have h7:aU o=false:=by
  unfold cJ at h4;unfold aU;split at h4<;>rename_i h6<;>first
   | (rw[h6];done)
   | (split at h4<;>first|(rw[h6];done)|(cases h4;done))
   | (cases h4;done)
 unfold cZ at h3;split at h3
 ·rename_i hw;rw[fx h7]at h3;split at h3
  ·rename_i y h1 h6;simp only[K7,Lj]at h3;obtain⟨rfl,rfl⟩:=h3;obtain⟨rfl,_⟩:=qw h4 h6;obtain⟨u,hu,h8⟩:=qx h4 h6 f;exact⟨u,.inl ⟨dH f hw,hu⟩,m,e,r,f.put h8 o.dst⟩
  ·cases h3
 ·rename_i hw;simp only[K7,Lj]at h3;obtain⟨rfl,rfl⟩:=h3;exact⟨undef,.inr ⟨dH f hw,rfl⟩,m,e,r,f.put .no o.dst⟩
 ·cases h3
theorem qc(hN:ck P)(h0:bA P call){cfg:Cfg}{ops:Array Oper}{fr:List V}{h:Heap}{fr':List V}{h':Heap}(hd:fC P md call cfg ops fr h=some (fr',h')):xy ops/\(∀ (j:Nat) (o:Oper) cs b,ops[j]?=some o->o.op≠.select cs b)/\HS cfg h h' /\
  ∀ m w a,Rel m h w->FR m h w fr a->∀ (Q:Exit->Act->World->Prop),(∀ a' w',After m h w fr' h' a' w'->Q .normal a' w')->wpAny P .any ops (only Q) ops.size (Array.replicate ops.size false) a { w with drawn:=w.drawn+1 }:=by
 unfold fC at hd;simp only at hd;split at hd
 ·rename_i hw;split at hd
  ·rename_i fr1 h1 x ld h9;split at hd
   ·rename_i hy;have st:=jd hw;generalize iI (ei P 0 ops.toList) (gC [] ops.toList) ops.size=N at st h9 hd;obtain⟨F,H,v,hz,hA,hD,hE,tr⟩:=B8 hN h0 st.le h9 hy;subst hz hA hD hE;obtain⟨hF,_⟩:=nJ hN h0 _ hd;refine⟨st.back,st.nosel,(tr_HS hN h0 tr st.le N (La _)).trans hF,fun m w a r fR Q hQ=>?_⟩;have hH:∀ (s:Nat) (c:V),(F 0)[s]?=some c->Bel (H 0).length c:=by
     intro s c hc;have hI:s<a.tmps.size:=by rw[<- fR.len];grind
     exact (fR.slot s c _ hc (Lf hI)).bel
    -- all of the first ones have been carried out
    have done:∀ (S:Nat->Bool) (a':Act) (w':World) (m':Mu) (k:Nat),JH ops N x F H v m w S a' w' m' k->(∀ j,j<N->S j=true)->After m (H 0) w (F N) (H N) a' w':=by
     intro S a' w' m' k J h3;have hG:G H N x k=H N:=G_all hN h0 tr st.le J.kle fun j hj hR hu=>by
      cases hc:aU ops[j]with
      | false=>rfl
      | true=>have:=(J.kcall j hj hu hc).1 (h3 j hu);omega
     have hf:frS ops v S (F 0) N=F N:=by rw[FH (F 0) N h3,<- Ha tr st.le (La N)]
     exact⟨m',by rw[<- hG];exact J.evo,by rw[<- hG];exact J.rel,by rw[<- hG,<- hf];exact J.fR⟩
    let J:(Nat->Bool)->Act->World->Prop:=fun S a' w'=>(∃ m' k,JH ops N x F H v m w S a' w' m' k) \/
     ∃ t frt ht,N<t/\t<=ops.size/\(∀ i,i<ops.size->(S i=true↔i<t))/\After m (H 0) w frt ht a' w'/\cm P md call cfg ops (ops.toList.drop t) frt ht=some (fr',h')
    obtain⟨m1,h6⟩:=Dw hN h0 tr st.le r fR
    -- one of the last ones
    have unroll:∀ (t:Nat) (o:Oper) (frt:List V) (ht:Heap),ops[t]?=some o->cm P md call cfg ops (ops.toList.drop t) frt ht=some (fr',h') ->
      ∃ fr2 h2,cZ P md call cfg ops o frt ht=some (fr2,h2)/\cm P md call cfg ops (ops.toList.drop (t+1)) fr2 h2=some (fr',h'):=by
     grind[Array.getElem?_eq_some_iff,List.drop_eq_getElem_cons,cm]
    have grow:∀ (S:Nat->Bool) (t:Nat),(∀ i,i<ops.size->(S i=true↔i<t))->∀ i,i<ops.size->(ba S t i=true↔i<t+1):=by
     grind[fW,cI]
    -- where one of the last ones stands when it comes up
    have place:∀ (S:Nat->Bool) (a':Act) (w':World),J S a' w'->∀ (i:Nat) (o:Oper),N<=i->ops[i]?=some o->S i=false->(∀ p,p<i->S p=true) ->
      (∀ j,j<ops.size->(S j=true↔j<i))/\∃ frt ht,After m (H 0) w frt ht a' w'/\cm P md call cfg ops (ops.toList.drop i) frt ht=some (fr',h'):=by
     intro S a' w' hJ i o h4 ho hS h3;have hv:i<ops.size:=(Lo.1 ho).1;rcases hJ with⟨m',k,JJ⟩|⟨t,frt,ht,hK,hL,ha,h7,he⟩
     ·have hh:i=N:=by
       rcases LS N i with h|h
       ·have h1:=h3 N h;rw[JJ.tail N (La _)]at h1;cases h1
       ·omega
      subst hh;refine⟨fun j hj=>⟨fun h=>?_,fun h=>h3 j h⟩,_,_,done S a' w' m' k JJ h3,hd⟩;rcases LS j i with h2|h2
      ·exact h2
      ·rw[JJ.tail j h2]at h;cases h
     grind
    have early:∀ (S:Nat->Bool) (a':Act) (w':World),J S a' w'->∀ i,i<N->S i=false->∃ m' k,JH ops N x F H v m w S a' w' m' k:=by
     grind
    refine tx st J ?_ ?_ ?_ (.inl ⟨m1,0,h6⟩)
    ·intro S a' w' hJ hl i o ho hS hr hM hm;have hv:i<ops.size:=(Lo.1 ho).1;rcases LS i N with h4|h4
     ·grind[Dv]
     ·obtain⟨ha,frt,ht,h7,he⟩:=place S a' w' hJ i o h4 ho hS (pN st hl h4 ho hr hm);obtain⟨fr2,h2,hn,h8⟩:=unroll i o frt ht ho he;obtain⟨u,hb,hg⟩:=yT hM hn h7;exact⟨u,hb,.inr ⟨i+1,fr2,h2,by omega,by omega,grow S i ha,hg,h8⟩⟩
    ·intro S a' w' hJ hl hq i o ho hS hr;have hv:i<ops.size:=(Lo.1 ho).1;rcases LS i N with h4|h4
     ·grind[wpOp_mono,F6,only]
     ·obtain⟨ha,frt,ht,⟨m',e',r',f'⟩,he⟩:=place S a' w' hJ i o h4 ho hS (pN st hl h4 ho hr fun p q _=>hq p q);obtain⟨fr2,h2,hn,h8⟩:=unroll i o frt ht ho he;obtain⟨_,hO⟩:=iu hN h0 hn;unfold wpOp;rw[ho];simp only;exact hO m' w' a' r' f' _ (only Q) fun a2 w2 k2=>.inr ⟨i+1,fr2,h2,by omega,by omega,grow S i ha,k2.trans e',h8⟩
    ·intro S a' w' hJ h3;rcases hJ with⟨m',k,JJ⟩|⟨t,frt,ht,hK,hL,ha,h7,he⟩
     ·have hT:N=ops.size:=by
       rcases LS N ops.size with h|h
       ·have:=h3 N h;rw[JJ.tail N (La _)]at this;grind
       ·have:=st.le;omega
      grind[List.drop_of_length_le,cm,Option.some.injEq,Prod.mk.injEq]
     ·have hP:t=ops.size:=by
       rcases LS t ops.size with h|h<;>grind
      grind[List.drop_of_length_le,cm,Option.some.injEq,Prod.mk.injEq]
   grind
  grind
 grind
theorem uX(hm:P.follows .mixedOrders=true)(hN:ck P)(h0:bA P call):tv P (ez P md call):=by
 intro cfg ops fr h fr' h' hd;unfold ez at hd;split at hd
 ·rename_i h3;unfold Ah at h3;split at hd
  ·rename_i o ho;rw[ho]at h3;simp only[Ld,Lk,Ns]at h3;obtain⟨⟨⟨hg,hn⟩,-⟩,hr⟩:=h3;split at hd
   ·rename_i x hA;split at hd
    ·rename_i v hv;have hne:ops.toList≠[]:=fun e=>by simp_all
     have hh:ops.toList.getLast hne=o:=by
      grind
     obtain⟨ops0,h6⟩:∃ ops0,ops.toList.dropLast.toArray=ops0:=⟨_,rfl⟩;rw[h6]at hd;have h7:ops=ops0.push o:=by
      grind
     obtain⟨h8,ht,hs,hw⟩:=qc hN h0 hd;have hy:∀ (i:Nat) (q:Oper),ops0[i]?=some q->q.guard=none:=fun i q hq=>hn q (by grind);have ha:ops[ops0.size]?=some o:=by simp_all
     have hc:o.after=#[]:=by
      grind[Hz]
     refine⟨hs,fun m w a id r fR Q hQ=>kY hm ?_⟩;have hz:∃ u,Blind P ops o a u/\R m h w v u:=by
      obtain⟨u,hu,hf⟩:=qx (P:=P) (o:=o) (cfg:=cfg) (h:=h) (h':=h) (v:=v) (by grind[cJ]) (by grind[opV]) fR;exact⟨u,.inl ⟨by grind[Region.wanted,Array.toList_push],hu⟩,hf⟩
     obtain⟨u,hb,hf⟩:=hz;have hl:ops.size=ops0.size+1:=by simp_all
     have h9:(Array.replicate ops.size false).setIfInBounds ops0.size true=(Array.replicate ops0.size false).push true:=by
      grind
     have h4:setOf (Array.replicate ops.size false)=fun _=>false:=by
      funext i;simp[setOf,L4,MQ];split<;>rfl
     rw[hl];rw[hl]at h9 h4;refine wpAny_first (ops:=ops) (fun j q cs b hq=>?_) ha ops0.size _ a _ (by grind) (by rw[h4]) (by rw[h4];intro e he;simp_all) (fun j oj hj hD _ S _ _ _ _=>?_) (by rw[h4];intro i o _ h;cases h) hb ?_
     ·rw[h7,MV]at hq;split at hq<;>grind
     ·refine Ap.of (hr oj ?_)
      grind
     ·rw[h9,h7];exact ze hy h8 _ _ _ _ (by simp) (hw m w _ r (fR.put hf o.dst) Q hQ)
    grind
   grind
  grind
 ·split at hd
  ·exact CW (md:=md) (call:=call) hm hN h0 (by omega) hd
  ·split at hd
   ·rename_i heq;cases hd;obtain⟨_,_,hs,hw⟩:=qc hN h0 heq
    grind[id,kY]
   grind[CV]
end
end Go.Ab
namespace Go.Ab
open Go.RowKit (Below)
abbrev Prim:=Cfg->List V->Heap->Option (V×Heap)
def aH(P:Program)(md:FuncId->Nat)(prim:FuncId->Option Prim)(n:Nat):Nat->aF
 | 0=>fun _ _ _ _=>none
 | d+1=>fun cfg f args h=>match prim f with
  | some p=>p cfg args h
  | none=>match P.funcs[f]? with
   | none=>none
   | some fn=>xZ P md (aH P md prim n d) (ez P md (aH P md prim n d)) n cfg fn args h
def bw(P:Program)(f:FuncId)(p:Prim):Prop:=∀ cfg args h r h',p cfg args h=some (r,h')->HS cfg h h'/\(∃ fn,P.funcs[f]?=some fn/\fn.body.isNone=false) /\
 ∀ m w vs,Rel m h w->PW m h w args vs->Calls P f vs w fun e w'=>∃ v,e=.returned v/\Out m h w r h' v w'
section
variable {P:Program}{md:FuncId->Nat}{prim:FuncId->Option Prim}{n:Nat}
theorem dx(hm:P.follows .mixedOrders=true)(hN:ck P)(hp:∀ f p,prim f=some p->bw P f p):∀ d,bA P (aH P md prim n d)
 | 0=>fun cfg f args h r h' hx=>by grind[aH]
 | d+1=>fun cfg f args h r h' hx=>by
  have ih:=dx hm hN hp d;simp only[aH]at hx;split at hx
  ·rename_i p h0;exact hp f p h0 cfg args h r h' hx
  grind[FE,uX]
def DP:Mu:=⟨fun _=>none,fun _=>False⟩
theorem JI(w:World):Rel DP [] w:=
 ⟨fun _ _ h _=>by obtain⟨cs,hc⟩:=h;grind,fun _ h=>h.elim,fun _ _ _ h=>by obtain⟨cs,hc⟩:=h;grind,fun _ _ _ h=>by simp at h⟩
theorem sG(hm:P.follows .mixedOrders=true)(hN:ck P)(hp:∀ f p,prim f=some p->bw P f p){d:Nat}{f:FuncId}{args:List V}{h':Heap}
  (hx:aH P md prim n d ⟨0,[],0⟩ f args []=some (.bool true,h')) {w:World} {vs:Array Value} (h0:PW DP [] w args vs):
  Calls P f vs w fun e w'=>e=.returned (.bool true)/\Below w.heap.size w w':=by
 obtain⟨_,_,hs⟩:=dx (md:=md) (n:=n) hm hN hp d _ _ _ _ _ _ hx;refine (hs DP w vs (JI w) h0).mono ?_;rintro e w' ⟨v,rfl,m',ev,_,hr⟩;cases hr;exact⟨rfl,ev.os,ev.tape,ev.output,ev.size,fun b hb=>ev.frame b hb fun x hx=>by obtain⟨cs,hc⟩:=hx;grind⟩
end
end Go.Ab
namespace Go.Ab
abbrev dI:=Ex->List V->Heap->Prop
def slot{α:Type}(l:List α)(t:Nat):Option α:=l[t]?
def bR(l:List V)(d:Nat)(v:V):List V:=l.set d v
@[simp] theorem KZ{α:Type}{a:α}{l:List α}:slot (a::l) 0=some a:=rfl
@[simp] theorem KY{α:Type}{a:α}{l:List α}{t:Nat}:slot (a::l) (t+1)=slot l t:=by rfl
@[simp] theorem slot_nil{α:Type}{t:Nat}:slot ([]:List α) t=none:=rfl
@[simp] theorem KU{a v:V}{l:List V}:bR (a::l) 0 v=v::l:=rfl
@[simp] theorem KS{a v:V}{l:List V}{t:Nat}:bR (a::l) (t+1) v=a::bR l t v:=rfl
class Hid (α:Type) where
 val:α
abbrev ca:=List V->Heap->Prop
section
variable (P:Program) (md:FuncId->Nat) (call:aF) (cfg:Cfg) (n:Nat)
def wC[c:Hid Code](fr:List V)(h:Heap)[Q:Hid dI]:Prop:=∃ st,code P md call (ez P md call) cfg n c.val fr h=some st/\Q.val st.1 st.2.1 st.2.2
def wO[ops:Hid (Array Oper)][l:Hid (List Oper)](fr:List V)(h:Heap)[Q:Hid ca]:Prop:=∃ st,cm P md call cfg ops.val l.val fr h=some st/\Q.val st.1 st.2
def wS[dst:Hid (Option Tmp)][fr:Hid (List V)](r:Option (V×Heap))[ops:Hid (Array Oper)][l:Hid (List Oper)][Q:Hid ca]:Prop:=
 ∃ x,r=some x/\@wO P md call cfg ops l (put fr.val dst.val x.1) x.2 Q
def wIf(b:Bool)[A:Hid Prop][B:Hid Prop]:Prop:=if b=true then A.val else B.val
def Bg(ops:Array Oper)(fr:List V)(j:Nat):Option V:=
 match ops[j]? with
 | some p=>match p.dst with
  | some d=>fr[d]?
  | none=>none
 | none=>none
def wG(g:Option V)[want:Hid Bool][dst:Hid (Option Tmp)][op:Hid Op][ops:Hid (Array Oper)][l:Hid (List Oper)][fr:Hid (List V)][h:Hid Heap][Q:Hid ca]:Prop:=
 match g with
 | some (.bool b)=>@wIf (b==want.val) ⟨@wS P md call cfg dst fr (aB P md call cfg fr.val h.val op.val) ops l Q⟩ ⟨@wO P md call cfg ops l (put fr.val dst.val .no) h.val Q⟩
 | some .no=>@wO P md call cfg ops l (put fr.val dst.val .no) h.val Q
 | _=>False
def wB(c:Option V)[t:Hid Code][e:Hid Code][fr:Hid (List V)][h:Hid Heap][Q:Hid dI]:Prop:=
 match c with
 | some (.bool b)=>@wIf b ⟨@wC P md call cfg n t fr.val h.val Q⟩ ⟨@wC P md call cfg n e fr.val h.val Q⟩
 | _=>False
def yg[b:Hid Code][Q:Hid dI](e:Ex)(fr:List V)(h:Heap):Prop:=
 match e with
 | .normal=>@wC P md call cfg n b fr h Q
 | e=>Q.val e fr h
def qE[id:Hid Nat][Q:Hid dI](e:Ex)(fr:List V)(h:Heap):Prop:=
 match e with
 | .exit i=>Q.val (if i=id.val then .normal else .exit i) fr h
 | e=>Q.val e fr h
def Rnd[I:Hid (Nat->List V->Heap->Prop)][m:Hid Nat](fr:List V)(h:Heap):Prop:=∃ m',m'<m.val/\I.val m' fr h
def zO[I:Hid (Nat->List V->Heap->Prop)][m:Hid Nat][Q:Hid dI](e:Ex)(fr:List V)(h:Heap):Prop:=
 match e with
 | .normal=>@Rnd I m fr h
 | e=>Q.val e fr h
end
section
variable {P:Program}{md:FuncId->Nat}{call:aF}{cfg:Cfg}{n:Nat}
@[simp] theorem E0{A B:Prop}:@wIf true ⟨A⟩ ⟨B⟩↔A:=by rfl
@[simp] theorem Cd{A B:Prop}:@wIf false ⟨A⟩ ⟨B⟩↔B:=by rfl
theorem ar{b:Bool}{A B:Prop}(ha:b=true->A)(hb:b=false->B):@wIf b ⟨A⟩ ⟨B⟩:=by cases b<;>simp_all
@[simp] theorem om{b:Code}{Q:dI}{fr:List V}{h:Heap}:@yg P md call cfg n ⟨b⟩ ⟨Q⟩ .normal fr h↔@wC P md call cfg n ⟨b⟩ fr h ⟨Q⟩:=Mt
@[simp] theorem Ks{b:Code}{Q:dI}{i:Nat}{fr:List V}{h:Heap}:@yg P md call cfg n ⟨b⟩ ⟨Q⟩ (.exit i) fr h↔Q (.exit i) fr h:=Mt
@[simp] theorem kSeq_ret{b:Code}{Q:dI}{fr:List V}{h:Heap}:@yg P md call cfg n ⟨b⟩ ⟨Q⟩ .ret fr h↔Q .ret fr h:=Mt
@[simp] theorem E8{id:Nat}{Q:dI}{fr:List V}{h:Heap}:@qE ⟨id⟩ ⟨Q⟩ .normal fr h↔Q .normal fr h:=Mt
@[simp] theorem HI{id i:Nat}{Q:dI}{fr:List V}{h:Heap}:@qE ⟨id⟩ ⟨Q⟩ (.exit i) fr h↔Q (if i=id then .normal else .exit i) fr h:=Mt
@[simp] theorem Ja{id:Nat}{Q:dI}{fr:List V}{h:Heap}:@qE ⟨id⟩ ⟨Q⟩ .ret fr h↔Q .ret fr h:=Mt
@[simp] theorem F7{I:Nat->List V->Heap->Prop}{m:Nat}{Q:dI}{fr:List V}{h:Heap}:@zO ⟨I⟩ ⟨m⟩ ⟨Q⟩ .normal fr h↔@Rnd ⟨I⟩ ⟨m⟩ fr h:=Mt
theorem ae{I:Nat->List V->Heap->Prop}{m:Nat}{fr:List V}{h:Heap}{m':Nat}(h1:m'<m)(h2:I m' fr h):@Rnd ⟨I⟩ ⟨m⟩ fr h:=⟨m',h1,h2⟩
@[simp] theorem Jc{I:Nat->List V->Heap->Prop}{m:Nat}{Q:dI}{i:Nat}{fr:List V}{h:Heap}:@zO ⟨I⟩ ⟨m⟩ ⟨Q⟩ (.exit i) fr h↔Q (.exit i) fr h:=Mt
@[simp] theorem Kp{I:Nat->List V->Heap->Prop}{m:Nat}{Q:dI}{fr:List V}{h:Heap}:@zO ⟨I⟩ ⟨m⟩ ⟨Q⟩ .ret fr h↔Q .ret fr h:=Mt
@[simp] theorem AI{fr:List V}{h:Heap}{Q:dI}:@wC P md call cfg n ⟨.skip⟩ fr h ⟨Q⟩↔Q .normal fr h:=by simp[wC,code]
@[simp] theorem wC_exit{id:Nat}{fr:List V}{h:Heap}{Q:dI}:@wC P md call cfg n ⟨.exit id⟩ fr h ⟨Q⟩↔Q (.exit id) fr h:=by simp[wC,code]
@[simp] theorem wC_ret{fr:List V}{h:Heap}{Q:dI}:@wC P md call cfg n ⟨.ret⟩ fr h ⟨Q⟩↔Q .ret fr h:=by simp[wC,code]
@[simp] theorem dp{a b:Code}{fr:List V}{h:Heap}{Q:dI}:@wC P md call cfg n ⟨.seq a b⟩ fr h ⟨Q⟩↔@wC P md call cfg n ⟨a⟩ fr h ⟨@yg P md call cfg n ⟨b⟩ ⟨Q⟩⟩:=by
 unfold wC;simp only[code];cases ha:code P md call (ez P md call) cfg n a fr h with
 | none=>simp
 | some st =>
  obtain⟨e,fr',h'⟩:=st;cases e<;>simp[yg,wC]
@[simp] theorem wC_block{id:Nat}{b:Code}{fr:List V}{h:Heap}{Q:dI}:@wC P md call cfg n ⟨.block id b⟩ fr h ⟨Q⟩↔@wC P md call cfg n ⟨b⟩ fr h ⟨@qE ⟨id⟩ ⟨Q⟩⟩:=by
 unfold wC;simp only[code];cases ha:code P md call (ez P md call) cfg n b fr h with
 | none=>simp
 | some st =>
  obtain⟨e,fr',h'⟩:=st;cases e<;>simp[qE]
@[simp] theorem G6{c:Operand}{t e:Code}{fr:List V}{h:Heap}{Q:dI}:@wC P md call cfg n ⟨.cond c t e⟩ fr h ⟨Q⟩↔@wB P md call cfg n (ev fr c) ⟨t⟩ ⟨e⟩ ⟨fr⟩ ⟨h⟩ ⟨Q⟩:=by
 unfold wC;simp only[code,wB];split<;>rename_i hc
 ·simp[wIf,wC,hc]
 ·simp[wIf,wC,hc]
 ·rename_i h1;split
  ·rename_i b hb;cases b
   ·exact absurd hb hc
   ·exact absurd hb h1
  ·simp
@[simp] theorem G5{b:Bool}{t e:Code}{fr:List V}{h:Heap}{Q:dI}:@wB P md call cfg n (some (.bool b)) ⟨t⟩ ⟨e⟩ ⟨fr⟩ ⟨h⟩ ⟨Q⟩↔@wIf b ⟨@wC P md call cfg n ⟨t⟩ fr h ⟨Q⟩⟩ ⟨@wC P md call cfg n ⟨e⟩ fr h ⟨Q⟩⟩:=Mt
@[simp] theorem K1{id:Nat}{ops:Array Oper}{fr:List V}{h:Heap}{Q:dI}:@wC P md call cfg n ⟨.region id ops false⟩ fr h ⟨Q⟩↔@wO P md call cfg ⟨ops⟩ ⟨ops.toList⟩ fr h ⟨Q .normal⟩:=by
 unfold wC wO;simp only[code];cases ha:cm P md call cfg ops ops.toList fr h with
 | none=>simp
 | some st=>obtain⟨fr',h'⟩:=st;simp
@[simp] theorem wO_list{ops:Array Oper}{l:List Oper}{fr:List V}{h:Heap}{Q:ca}:@wO P md call cfg ⟨ops⟩ ⟨l.toArray.toList⟩ fr h ⟨Q⟩↔@wO P md call cfg ⟨ops⟩ ⟨l⟩ fr h ⟨Q⟩:=Mt
@[simp] theorem wO_nil{ops:Array Oper}{fr:List V}{h:Heap}{Q:ca}:@wO P md call cfg ⟨ops⟩ ⟨[]⟩ fr h ⟨Q⟩↔Q fr h:=by simp[wO,cm]
@[simp] theorem wO_cons{ops:Array Oper}{dst:Option Tmp}{op:Op}{ty:TypeId}{pos:String}{after:Array Edge}{l:List Oper}{fr:List V}{h:Heap}{Q:ca}:
  @wO P md call cfg ⟨ops⟩ ⟨{ dst:=dst,op:=op,type:=ty,pos:=pos,after:=after,guard:=none }::l⟩ fr h ⟨Q⟩↔@wS P md call cfg ⟨dst⟩ ⟨fr⟩ (aB P md call cfg fr h op) ⟨ops⟩ ⟨l⟩ ⟨Q⟩:=by
 unfold wO wS;simp only[cm,cZ,cy];cases ha:aB P md call cfg fr h op with
 | none=>simp
 | some x=>obtain⟨v,h'⟩:=x;simp[wO]
@[simp] theorem wO_guard{ops:Array Oper}{dst:Option Tmp}{op:Op}{ty:TypeId}{pos:String}{after:Array Edge}{j:Nat}{want:Bool}{l:List Oper}{fr:List V}{h:Heap}{Q:ca}:
  @wO P md call cfg ⟨ops⟩ ⟨{ dst:=dst,op:=op,type:=ty,pos:=pos,after:=after,guard:=some (j,want) }::l⟩ fr h ⟨Q⟩↔@wG P md call cfg (Bg ops fr j) ⟨want⟩ ⟨dst⟩ ⟨op⟩ ⟨ops⟩ ⟨l⟩ ⟨fr⟩ ⟨h⟩ ⟨Q⟩:=by
 unfold wO wG Bg;simp only[cm,cZ,cy];cases hj:ops[j]? with
 | none=>simp
 | some p =>
  cases hd:p.dst with
  | none=>simp[hd]
  | some d =>
   simp only[hd];cases hf:fr[d]? with
   | none=>simp
   | some v =>
    cases v<;>simp only[reduceCtorEq,false_and,exists_false]
    ·simp[wO]
    ·rename_i b;cases h0:(b==want)<;>simp only[wIf,wS,wO,if_true,Lv,if_false];cases ha:aB P md call cfg fr h op with
     | none=>simp
     | some x=>obtain⟨v,h'⟩:=x;simp
@[simp] theorem au{b want:Bool}{dst:Option Tmp}{op:Op}{ops:Array Oper}{l:List Oper}{fr:List V}{h:Heap}{Q:ca}:
  @wG P md call cfg (some (.bool b)) ⟨want⟩ ⟨dst⟩ ⟨op⟩ ⟨ops⟩ ⟨l⟩ ⟨fr⟩ ⟨h⟩ ⟨Q⟩↔@wIf (b==want) ⟨@wS P md call cfg ⟨dst⟩ ⟨fr⟩ (aB P md call cfg fr h op) ⟨ops⟩ ⟨l⟩ ⟨Q⟩⟩ ⟨@wO P md call cfg ⟨ops⟩ ⟨l⟩ (put fr dst .no) h ⟨Q⟩⟩:=Mt
@[simp] theorem wG_no{want:Bool}{dst:Option Tmp}{op:Op}{ops:Array Oper}{l:List Oper}{fr:List V}{h:Heap}{Q:ca}:
  @wG P md call cfg (some .no) ⟨want⟩ ⟨dst⟩ ⟨op⟩ ⟨ops⟩ ⟨l⟩ ⟨fr⟩ ⟨h⟩ ⟨Q⟩↔@wO P md call cfg ⟨ops⟩ ⟨l⟩ (put fr dst .no) h ⟨Q⟩:=Mt
@[simp] theorem dt{dst:Option Tmp}{fr:List V}{v:V}{h:Heap}{ops:Array Oper}{l:List Oper}{Q:ca}:
  @wS P md call cfg ⟨dst⟩ ⟨fr⟩ (some (v,h)) ⟨ops⟩ ⟨l⟩ ⟨Q⟩↔@wO P md call cfg ⟨ops⟩ ⟨l⟩ (put fr dst v) h ⟨Q⟩:=by simp[wS]
@[simp] theorem put_none{fr:List V}{v:V}:put fr none v=fr:=rfl
@[simp] theorem put_some{fr:List V}{d:Tmp}{v:V}:put fr (some d) v=bR fr d v:=rfl
@[simp] theorem gdOf_mk{ops:Array Oper}{fr:List V}{j:Nat}:Bg ops fr j=((slot ops.toList j).bind (·.dst)).bind (slot fr ·):=by
 unfold Bg;simp only[slot,Ng];cases h:ops[j]? with
 | none=>simp
 | some p=>cases hd:p.dst<;>simp[hd]
@[simp] theorem ev_tmp{fr:List V}{t:Tmp}:ev fr (.tmp t)=slot fr t:=rfl
@[simp] theorem ev_func{fr:List V}{f:FuncId}:ev fr (.func f)=some (.func (.func f) [] []):=rfl
@[simp] theorem ev_int{fr:List V}{k:IntKind}{i:Int}:ev fr (.const (.int k i))=some (.int k i):=rfl
@[simp] theorem ev_bool{fr:List V}{b:Bool}:ev fr (.const (.bool b))=some (.bool b):=rfl
@[simp] theorem ev_str{fr:List V}{s:ByteArray}:ev fr (.const (.string s))=some (.str s):=rfl
@[simp] theorem ev_nils{fr:List V}:ev fr (.const (.slice none 0 0))=some .nils:=rfl
@[simp] theorem ev_agg{fr:List V}{cs:Array Value}:ev fr (.const (.agg cs))=(cs.toList.mapM iP).map .agg:=rfl
@[simp] theorem Ke{fr:List V}:cH fr []=some []:=rfl
@[simp] theorem IE{fr:List V}{x:Operand}{r:List Operand}:cH fr (x::r)=(ev fr x).bind fun v=>(cH fr r).map (v::·):=by
 simp only[cH];cases ev fr x<;>simp;cases cH fr r<;>simp
@[simp] theorem KL{fr:List V}{h:Heap}{x:Operand}:aB P md call cfg fr h (.move x)=(ev fr x).map (·,h):=rfl
@[simp] theorem HT{fr:List V}{h:Heap}{x:Operand}:aB P md call cfg fr h (.assign x)=(ev fr x).map (·,h):=rfl
def oD(c a b:Option V)(h:Heap):Option (V×Heap):=
 match c with
 | some (.bool true)=>a.map (·,h)
 | some (.bool false)=>b.map (·,h)
 | _=>none
@[simp] theorem KM{fr:List V}{h:Heap}{c a b:Operand}:aB P md call cfg fr h (.pick c a b)=oD (ev fr c) (ev fr a) (ev fr b) h:=rfl
@[simp] theorem JE{a b:Option V}{h:Heap}:oD (some (.bool true)) a b h=a.map (·,h):=rfl
@[simp] theorem HW{a b:Option V}{h:Heap}:oD (some (.bool false)) a b h=b.map (·,h):=rfl
@[simp] theorem KO{x y:Bool}{h:Heap}:oD (some (.bool x)) (some (.bool y)) (some (.bool false)) h=some (.bool (x&&y),h):=by cases x<;>rfl
@[simp] theorem pickV_or{x y:Bool}{h:Heap}:oD (some (.bool x)) (some (.bool true)) (some (.bool y)) h=some (.bool (x||y),h):=by cases x<;>rfl
@[simp] theorem Jo{fr:List V}{h:Heap}{t:TypeId}:aB P md call cfg fr h (.alloc t)=(zeroOf P t).map fun z=>(.ptr h.length 0,h++[some (cG z)]):=by
 simp only[aB,opV];cases zeroOf P t<;>rfl
@[simp] theorem opEv_box{fr:List V}{h:Heap}{t:TypeId}{x:Operand}:aB P md call cfg fr h (.box t x)=((ev fr x).bind cellsOf).map fun cs=>(.ptr h.length 0,h++[some cs]):=by
 simp only[aB,opV];cases ev fr x with
 | none=>rfl
 | some v=>simp only[Md];cases cellsOf v<;>rfl
@[simp] theorem Jq{fr:List V}{h:Heap}{t:TypeId}{ps:Array (Nat×Operand)}:aB P md call cfg fr h (.build t ps)=((cU fr ps.toList).bind (bW P t)).map (·,h):=by
 simp only[aB,opV];cases cU fr ps.toList<;>rfl
@[simp] theorem Cg{fr:List V}{h:Heap}{t:TypeId}{len:Nat}{ps:Array (Nat×Operand)}:aB P md call cfg fr h (.buildSlice t len ps)=(aV fr 0 ps.toList).bind (aI P h t len):=by
 simp only[aB,opV];cases aV fr 0 ps.toList<;>rfl
@[simp] theorem KK{fr:List V}{h:Heap}{t:TypeId}{a:Operand}:aB P md call cfg fr h (.load t a)=((ev fr a).bind (ej P h t)).map (·,h):=by
 simp only[aB,opV];cases ev fr a<;>rfl
@[simp] theorem Ju{fr:List V}{h:Heap}{t:TypeId}{a x:Operand}:aB P md call cfg fr h (.store t a x)=((ev fr a).bind fun p=>(ev fr x).bind fun v=>aN P cfg h t p v).map (.no,·):=by
 simp only[aB,opV];cases ev fr a with
 | none=>rfl
 | some p=>cases ev fr x with
  | none=>rfl
  | some v=>simp only[Md];cases aN P cfg h t p v<;>rfl
@[simp] theorem Fb{fr:List V}{h:Heap}{x:Operand}:aB P md call cfg fr h (.nilCheck x)=((ev fr x).bind eV).map (·,h):=by
 simp only[aB,opV];cases ev fr x<;>rfl
@[simp] theorem Jp{fr:List V}{h:Heap}{op:BinOp}{t u:TypeId}{x y:Operand}:aB P md call cfg fr h (.binOp op t x y u)=((ev fr x).bind fun a=>(ev fr y).bind fun b=>cw P op t a b).map (·,h):=by
 simp only[aB,opV];cases ev fr x with
 | none=>rfl
 | some p=>cases ev fr y with
  | none=>rfl
  | some v=>rfl
@[simp] theorem KN{fr:List V}{h:Heap}{op:UnOp}{t:TypeId}{x:Operand}:aB P md call cfg fr h (.unOp op t x)=((ev fr x).bind (unV op)).map (·,h):=by
 simp only[aB,opV];cases ev fr x<;>rfl
@[simp] theorem Gp{fr:List V}{h:Heap}{s d:TypeId}{x:Operand}:aB P md call cfg fr h (.convert s d x)=(ev fr x).bind (eh P h s d):=by
 simp only[aB,opV];cases ev fr x<;>rfl
@[simp] theorem Fa{fr:List V}{h:Heap}{fn:Fn}{a c:Array Operand}:aB P md call cfg fr h (.makeFunc fn a c)=(cH fr a.toList).bind fun f=>(cH fr c.toList).map fun c=>(.func fn f c,h):=by
 simp only[aB,opV];cases cH fr a.toList with
 | none=>rfl
 | some p=>cases cH fr c.toList<;>rfl
@[simp] theorem DT{fr:List V}{h:Heap}{t:TypeId}{l c:Operand}:aB P md call cfg fr h (.makeSlice t l c)=(ev fr l).bind fun a=>(ev fr c).bind fun b=>cB P h t a b:=by
 simp only[aB,opV];cases ev fr l with
 | none=>rfl
 | some p=>cases ev fr c<;>rfl
@[simp] theorem Jt{fr:List V}{h:Heap}{t:TypeId}{x:Operand}{lo hi:Option Operand}:aB P md call cfg fr h (.slice t x lo hi none)=((ev fr x).bind fun a=>cN P h t a (lo.map (ev fr)) (hi.map (ev fr))).map (·,h):=by
 simp only[aB,opV];cases ev fr x<;>rfl
@[simp] theorem DR{fr:List V}{h:Heap}{s:TypeId}{x:Operand}{f:Nat}:aB P md call cfg fr h (.fieldAddr s x f)=((ev fr x).bind fun a=>ag P s a f).map (·,h):=by
 simp only[aB,opV];cases ev fr x<;>rfl
@[simp] theorem Jr{fr:List V}{h:Heap}{s:TypeId}{x:Operand}{f:Nat}:aB P md call cfg fr h (.field s x f)=((ev fr x).bind fun a=>jx P s a f).map (·,h):=by
 simp only[aB,opV];cases ev fr x<;>rfl
@[simp] theorem DS{fr:List V}{h:Heap}{t:TypeId}{x i:Operand}:aB P md call cfg fr h (.indexAddr t x i)=((ev fr x).bind fun a=>(ev fr i).bind fun b=>ax P t a b).map (·,h):=by
 simp only[aB,opV];cases ev fr x with
 | none=>rfl
 | some p=>cases ev fr i<;>rfl
@[simp] theorem Js{fr:List V}{h:Heap}{t:TypeId}{x i:Operand}:aB P md call cfg fr h (.index t x i)=((ev fr x).bind fun a=>(ev fr i).bind fun b=>lC P t a b).map (·,h):=by
 simp only[aB,opV];cases ev fr x with
 | none=>rfl
 | some p=>cases ev fr i<;>rfl
@[simp] theorem Gq{fr:List V}{h:Heap}{x:Operand}{i:Nat}:aB P md call cfg fr h (.extract x i)=((ev fr x).bind fun a=>gS a i).map (·,h):=by
 simp only[aB,opV];cases ev fr x<;>rfl
def biV(P:Program)(cfg:Cfg)(h:Heap)(b:Builtin)(tys:List TypeId)(vs:List V):Option (V×Heap):=
 match b,tys,vs with
 | .len,[t],[x]=>(dc P t x).map (·,h)
 | .append,[t,u],[d,x]=>bV P cfg h t u d x
 | .min,_,vs=>(uc vs).map (·,h)
 | .max,_,vs=>(oN vs).map (·,h)
 | .clear,[t],[x]=>(iD P cfg h t x).map (.tup [],·)
 | _,_,_=>none
@[simp] theorem Gm{fr:List V}{h:Heap}{b:Builtin}{args:Array Operand}{tys:Array TypeId}:aB P md call cfg fr h (.call { callee:=.builtin b,args:=args,argTypes:=tys })=(cH fr args.toList).bind (biV P cfg h b tys.toList):=by
 simp only[aB,opV];cases cH fr args.toList with
 | none=>rfl
 | some vs =>
  simp only[Md,biV];generalize tys.toList=tl;rcases tl with _|⟨t,_|⟨u,_|⟨_,_⟩⟩⟩<;>rcases vs with _|⟨x,_|⟨y,_|⟨_,_⟩⟩⟩<;>cases b<;>first|rfl|(simp only[];cases iD P cfg h t x<;>rfl)|(simp only;cases iD P cfg h t x<;>rfl)
@[simp] theorem biV_len{h:Heap}{t:TypeId}{x:V}:biV P cfg h .len [t] [x]=(dc P t x).map (·,h):=rfl
@[simp] theorem Io{h:Heap}{t u:TypeId}{d x:V}:biV P cfg h .append [t,u] [d,x]=bV P cfg h t u d x:=rfl
@[simp] theorem biV_min{h:Heap}{ts:List TypeId}{vs:List V}:biV P cfg h .min ts vs=(uc vs).map (·,h):=by rfl
@[simp] theorem biV_max{h:Heap}{ts:List TypeId}{vs:List V}:biV P cfg h .max ts vs=(oN vs).map (·,h):=by rfl
@[simp] theorem Kd{h:Heap}{t:TypeId}{x:V}:biV P cfg h .clear [t] [x]=(iD P cfg h t x).map (.tup [],·):=rfl
def Cz(md:FuncId->Nat)(call:aF)(cfg:Cfg)(h:Heap)(f:Option V)(vs:Option (List V)):Option (V×Heap):=
 match f,vs with
 | some (.func (.func g) first captured),some vs=>af md call cfg g ((first++vs)++captured) h
 | _,_=>none
@[simp] theorem KJ{fr:List V}{h:Heap}{f:Operand}{args:Array Operand}{tys:Array TypeId}:aB P md call cfg fr h (.call { callee:=.value f,args:=args,argTypes:=tys })=Cz md call cfg h (ev fr f) (cH fr args.toList):=rfl
@[simp] theorem Hn{h:Heap}{g:FuncId}{first captured vs:List V}:Cz md call cfg h (some (.func (.func g) first captured)) (some vs)=af md call cfg g ((first++vs)++captured) h:=rfl
theorem ah{body:Code}{fr:List V}{h:Heap}{Q:dI}(I:Nat->List V->Heap->Prop){m:Nat}(hm:m<n)(h0:I m fr h)
  (step:∀ m fr h,I m fr h->@wC P md call cfg n ⟨body⟩ fr h ⟨@zO ⟨I⟩ ⟨m⟩ ⟨Q⟩⟩):@wC P md call cfg n ⟨.loop body⟩ fr h ⟨Q⟩:=by
 have key:∀ k m fr h,m<k->I m fr h->∃ st,iter (code P md call (ez P md call) cfg n body) k fr h=some st/\Q st.1 st.2.1 st.2.2:=by
  intro k
  induction k with
  | zero=>omega
  | succ k ih =>
   intro m fr h hm hI;obtain⟨⟨e,fr',h'⟩,h3,hq⟩:=step m fr h hI;replace h3:code P md call (ez P md call) cfg n body fr h=some (e,fr',h'):=h3;simp only[iter,h3];cases e with
   | normal =>
    obtain⟨m',h4,h6⟩:=hq
    grind
   | exit i=>simp_all
   | ret=>simp_all
 obtain⟨st,h1,h2⟩:=key n m fr h hm h0;exact⟨st,by grind[code,ez],h2⟩
theorem AH{c:Code}{fr:List V}{h:Heap}{Q Q':dI}(hw:@wC P md call cfg n ⟨c⟩ fr h ⟨Q⟩)(hq:∀ e fr h,Q e fr h->Q' e fr h):@wC P md call cfg n ⟨c⟩ fr h ⟨Q'⟩:=by
 obtain⟨st,h1,h2⟩:=hw;exact⟨st,h1,hq _ _ _ h2⟩
def look:List (Nat×V)->Nat->Option V
 | [],_=>none
 | (a,v)::r,k=>if a=k then some v else look r k
def qi(l:List (Nat×V))(j:Nat->V):Nat->Nat->List V
 | 0,_=>[]
 | c+1,k=>(look l k).getD (j k)::qi l j c (k+1)
def xx:List (Nat×V)->List V->Prop
 | [],_=>True
 | (k,v)::r,fr=>slot fr k=some v/\xx r fr
def Slots(N:Nat)(l:List (Nat×V))(fr:List V):Prop:=fr.length=N/\xx l fr
@[simp] theorem AllS_nil{fr:List V}:xx [] fr↔True:=Mt
@[simp] theorem J6{k:Nat}{v:V}{r:List (Nat×V)}{fr:List V}:xx ((k,v)::r) fr↔slot fr k=some v/\xx r fr:=Mt
@[simp] theorem J7{N:Nat}{l:List (Nat×V)}{fr:List V}:Slots N l fr↔fr.length=N/\xx l fr:=Mt
@[simp] theorem look_nil{k:Nat}:look [] k=none:=rfl
@[simp] theorem Bz{a k:Nat}{v:V}{r:List (Nat×V)}:look ((a,v)::r) k=if a=k then some v else look r k:=rfl
@[simp] theorem IG{l:List (Nat×V)}{j:Nat->V}{k:Nat}:qi l j 0 k=[]:=rfl
@[simp] theorem xX{l:List (Nat×V)}{j:Nat->V}{c k:Nat}:qi l j (c+1) k=(look l k).getD (j k)::qi l j c (k+1):=rfl
theorem se{fr:List V}:∀ {l:List (Nat×V)},xx l fr->∀ k v,look l k=some v->fr[k]?=some v
 | [],_,k,v,h=>by simp at h
 | (a,u)::r,hs,k,v,h=>by
  simp only[Bz]at h;split at h
  ·rename_i h0;subst h0;cases h;exact hs.1
  ·exact se hs.2 k v h
theorem vm(l:List (Nat×V))(j:Nat->V):∀ (c k i:Nat),i<c->(qi l j c k)[i]?=some ((look l (k+i)).getD (j (k+i)))
 | 0,_,_,h=>by omega
 | c+1,k,0,_=>by simp
 | c+1,k,i+1,h=>by
  simp only[xX,LG];rw[vm l j c (k+1) i (by omega),show k+1+i=k+(i+1) by omega]
theorem vn(l:List (Nat×V))(j:Nat->V):∀ (c k:Nat),(qi l j c k).length=c
 | 0,_=>rfl
 | c+1,k=>by simp[vn l j c]
theorem Slots.ex{N:Nat}{l:List (Nat×V)}{fr:List V}(hs:Slots N l fr):∃ j,fr=qi l j N 0:=by
 obtain⟨hl,ha⟩:=hs;refine⟨fun k=>fr.getD k .no,LJ fun i=>?_⟩;by_cases hi:i<N
 ·rw[vm _ _ _ _ _ hi,LU];have h0:fr[i]?=some fr[i]:=K4 (by omega);cases hk:look l i with
  | none=>grind
  | some v=>grind[se]
 grind[List.getElem?_eq_none,vn]
end
end Go.Ab
