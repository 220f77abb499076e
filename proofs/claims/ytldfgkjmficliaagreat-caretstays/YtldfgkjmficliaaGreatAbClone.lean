/- Several texts of this proof in one. -/
import Derived.Test.YtldfgkjmficliaaGreatAbW
set_option linter.all false
namespace Go.Ab
def LeC(c c':aW):Prop:=∀ cfg f args h r,c cfg f args h=some r->c' cfg f args h=some r
section
variable {P:Program}{md:FuncId->Nat}{c c':aW}{n:Nat}
theorem yt(hc:LeC c c'){cfg:Cfg}{f:FuncId}{args:List V}{h:Heap}{r:V×Heap}(hx:af md c cfg f args h=some r):af md c' cfg f args h=some r:=by
 rcases hm:md f with _|_|_|_|_|k
 ·simp only[af,hm]at hx ⊢;split at hx
  ·rename_i ha;rw[if_pos ha];split at hx
   ·rename_i heq;rw[hc _ _ _ _ _ heq];exact hx
   ·cases hx
  ·rename_i ha;rw[if_neg ha];split at hx
   ·rename_i heq;rw[hc _ _ _ _ _ heq];exact hx
   ·cases hx
 ·simp only[af,hm]at hx ⊢;split at hx
  ·rename_i heq;rw[hc _ _ _ _ _ heq];exact hx
  ·cases hx
 ·simp only[af,hm]at hx ⊢;exact hc _ _ _ _ _ hx
 ·simp only[af,hm]at hx ⊢;split at hx
  ·cases hx
  ·split at hx
   ·rename_i heq;rw[hc _ _ _ _ _ heq];exact hx
   ·cases hx
 ·simp only[af,hm]at hx ⊢;split at hx
  ·rename_i heq;rw[hc _ _ _ _ _ heq];exact hx
  ·cases hx
 ·simp only[af,hm]at hx ⊢;exact hc _ _ _ _ _ hx
theorem Ps(hc:LeC c c'){cfg:Cfg}{fr:List V}{h:Heap}{op:Op}{r:V×Heap}(hx:aH P md c cfg fr h op=some r):aH P md c' cfg fr h op=some r:=by
 unfold aH at hx ⊢;split at hx
 ·split at hx
  ·exact yt hc hx
  ·cases hx
 ·exact hx
theorem Pf(hc:LeC c c'){cfg:Cfg}{ops:Array Oper}{o:Oper}{fr:List V}{h:Heap}{r:List V×Heap}(hx:gS P md c cfg ops o fr h=some r):gS P md c' cfg ops o fr h=some r:=by
 unfold gS at hx ⊢;split at hx
 ·split at hx
  ·rename_i heq;rw[Ps hc heq];exact hx
  ·cases hx
 ·exact hx
 ·cases hx
theorem OT(hc:LeC c c'){cfg:Cfg}{ops:Array Oper}:∀ {l:List Oper}{fr:List V}{h:Heap}{r:List V×Heap},dE P md c cfg ops l fr h=some r->dE P md c' cfg ops l fr h=some r
 | [],_,_,_,hx=>hx
 | o::l,fr,h,r,hx=>by
  unfold dE at hx ⊢;split at hx
  ·rename_i heq;rw[Pf hc heq];exact OT hc hx
  ·cases hx
theorem O4(hc:LeC c c'){cfg:Cfg}{n0:Nat}{ops:Array Oper}{o:Oper}{fr:List V}{h:Heap}{x:List Nat}{ld:List Nat}{r:V×Heap×List Nat×List Nat}(hx:ei P md c cfg n0 ops o fr h x ld=some r):ei P md c' cfg n0 ops o fr h x ld=some r:=by
 unfold ei at hx ⊢;split at hx
 ·cases hx
 ·exact hx
 ·split at hx
  ·split at hx
   ·split at hx
    ·split at hx
     ·rename_i heq;rw[yt hc heq];exact hx
     ·cases hx
    ·split at hx
     ·rename_i heq;rw[yt hc heq];exact hx
     ·cases hx
    ·split at hx
     ·split at hx
      ·rename_i hw;split at hx
       ·rename_i heq;rw[if_pos hw,yt hc heq];exact hx
       ·cases hx
      ·cases hx
     ·cases hx
    ·split at hx
     ·rename_i heq;rw[yt hc heq];exact hx
     ·cases hx
    ·split at hx
     ·rename_i hw;split at hx
      ·rename_i heq;rw[if_pos hw,yt hc heq];exact hx
      ·cases hx
     ·cases hx
   ·cases hx
  ·exact hx
  ·exact hx
theorem OU(hc:LeC c c'){cfg:Cfg}{n0:Nat}{ops:Array Oper}:∀ {l:List Oper}{fr:List V}{h:Heap}{x:List Nat}{ld:List Nat}{r:List V×Heap×List Nat×List Nat},eO P md c cfg n0 ops l fr h x ld=some r->eO P md c' cfg n0 ops l fr h x ld=some r
 | [],_,_,_,_,_,hx=>hx
 | o::l,fr,h,x,ld,r,hx=>by
  unfold eO at hx ⊢;split at hx
  ·rename_i heq;rw[O4 hc heq];exact OU hc hx
  ·cases hx
theorem OX(hc:LeC c c'){cfg:Cfg}{ops:Array Oper}{fr:List V}{h:Heap}{r:List V×Heap}(hx:pX P md c cfg ops fr h=some r):pX P md c' cfg ops fr h=some r:=by
 unfold pX at hx ⊢;simp only at hx ⊢;split at hx
 ·rename_i h0;rw[if_pos h0];split at hx
  ·rename_i heq;rw[OU hc heq];simp only at hx ⊢;split at hx
   ·rename_i hl;rw[if_pos hl];exact OT hc hx
   ·cases hx
  ·cases hx
 ·cases hx
theorem Ph(hc:LeC c c'){cfg:Cfg}{ops:Array Oper}{fr:List V}{h:Heap}{r:List V×Heap}(hx:fC P md c cfg ops fr h=some r):fC P md c' cfg ops fr h=some r:=by
 unfold fC at hx ⊢;split at hx
 ·rename_i hp;rw[if_pos hp];split at hx
  ·split at hx
   ·split at hx
    ·exact OX hc hx
    ·cases hx
   ·cases hx
  ·cases hx
 ·rename_i hp;rw[if_neg hp];split at hx
  ·rename_i h0;rw[if_pos h0];exact hx
  rename_i h0;rw[if_neg h0];exact OX hc hx
theorem O5{b b':List V->Heap->Option St}(hb:∀ fr h r,b fr h=some r->b' fr h=some r):∀ {n:Nat}{fr:List V}{h:Heap}{r:St},iter b n fr h=some r->iter b' n fr h=some r
 | 0,_,_,_,hx=>by cases hx
 | n+1,fr,h,r,hx=>by
  unfold iter at hx ⊢;split at hx
  ·rename_i heq;rw[hb _ _ _ heq];exact O5 hb hx
  ·rename_i hne;rw[hb _ _ _ hx];cases r with
   | mk e p =>
    cases e with
    | normal=>exact absurd hx (hne _ _)
    | exit i=>rfl
    | ret=>rfl
theorem Po(hc:LeC c c'){cfg:Cfg}:∀ (cd:Code) {fr:List V}{h:Heap}{r:St},code P md c (fC P md c) cfg n cd fr h=some r->code P md c' (fC P md c') cfg n cd fr h=some r:=by
 intro cd
 induction cd with
 | skip=>intro fr h r hx;exact hx
 | region i ops dr =>
  intro fr h r hx;cases dr
  ·simp only[code]at hx ⊢;split at hx
   ·rename_i heq;rw[OT hc heq];exact hx
   ·cases hx
  ·simp only[code]at hx ⊢;split at hx
   ·rename_i heq;rw[Ph hc heq];exact hx
   ·cases hx
 | seq a b iha ihb =>
  intro fr h r hx;simp only[code]at hx ⊢;split at hx
  ·rename_i heq;rw[iha heq];exact ihb hx
  ·rename_i hne;rw[iha hx];obtain⟨e,p⟩:=r;cases e with
   | normal=>exact absurd hx (hne _ _)
   | exit i=>rfl
   | ret=>rfl
 | cond o a b iha ihb =>
  intro fr h r hx;simp only[code]at hx ⊢;split at hx
  ·exact iha hx
  ·exact ihb hx
  ·cases hx
 | block i b ih =>
  intro fr h r hx;simp only[code]at hx ⊢;split at hx
  ·rename_i heq;rw[ih heq];exact hx
  ·rename_i hne;rw[ih hx];obtain⟨e,p⟩:=r;cases e with
   | normal=>rfl
   | exit i=>exact absurd hx (hne _ _ _)
   | ret=>rfl
 | loop b ih =>
  intro fr h r hx;simp only[code]at hx ⊢;exact O5 (fun _ _ _ h=>ih h) hx
 | _=>intro fr h r hx;exact hx
theorem Pp(hc:LeC c c'){cfg:Cfg}{fn:Func}{args:List V}{h:Heap}{r:V×Heap}(hx:Pj P md c (fC P md c) n cfg fn args h=some r):Pj P md c' (fC P md c') n cfg fn args h=some r:=by
 unfold Pj at hx ⊢;split at hx
 ·cases hx
 ·split at hx
  ·cases hx
  ·rename_i hne heq;rw[Po hc _ heq];split
   ·rename_i h';cases h';exact absurd rfl (hne _)
   ·rename_i h';cases h';exact hx
   ·rename_i h';cases h'
  ·cases hx
end
section
variable {P:Program}{md:FuncId->Nat}{prim:FuncId->Option Prim}{n:Nat}
theorem OY:∀ (d:Nat),LeC (aN P md prim n d) (aN P md prim n (d+1))
 | 0=>fun _ _ _ _ _ hx=>by cases hx
 | d+1=>fun cfg f args h r hx=>by
  have ih:=OY d;unfold aN at hx ⊢;split at hx
  ·exact hx
  ·split at hx
   ·cases hx
   ·exact Pp ih hx
theorem Pg(d k:Nat){cfg:Cfg}{f:FuncId}{args:List V}{h:Heap}{r:V×Heap}(hx:af md (aN P md prim n d) cfg f args h=some r):af md (aN P md prim n (d+k)) cfg f args h=some r:=by
 induction k with
 | zero=>exact hx
 | succ k ih=>exact yt (OY (d+k)) ih
end
end Go.Ab
namespace Go.Ab
def pO(base:Prim):Prim:=fun cfg args h=>match args with
 | [.lst []]=>some (.lst [],h)
 | _=>base cfg args h
theorem iu{x:Nat}(hl:live [none] x):False:=by
 obtain⟨cs,hc⟩:=hl;cases x with
 | zero=>simp at hc
 | succ x=>simp at hc
theorem AI{P:Program}{f:FuncId}{base:Prim}(hb:cM P f base)(h1:base ⟨0,[],0⟩ [.nils] []=some (.nils,[])){b2:Nat}{h2':Heap}(h2:base ⟨0,[],0⟩ [.sl 0 0 0 0 1] [none]=some (.sl b2 0 0 0 1,h2')):cM P f (pO base):=by
 intro cfg args h r h' hx;unfold pO at hx;split at hx
 ·simp only[Ll,LL]at hx;obtain⟨rfl,rfl⟩:=hx;obtain⟨_,h4,h6⟩:=hb _ _ _ _ _ h1;obtain⟨_,_,h7⟩:=hb _ _ _ _ _ h2;refine⟨.refl _ _,h4,fun m w vs hr hp=>?_⟩;have hl:vs.size=1:=hp.1;obtain⟨v,rfl⟩:∃ v,vs=#[v]:=by
   obtain⟨l⟩:=vs
   match l,hl with
   | [v],_=>exact⟨v,rfl⟩
  have hv:=hp.2 0 (.lst []) v rfl rfl;have h3:∃ a rc,v=.slice a 0 rc/\(a=none->rc=0):=by
   generalize hg:([]:List (List V))=l at hv;cases hv with
   | lst0 a rc ha=>exact⟨a,rc,rfl,ha⟩
   | lst rv hi h9 hk hc hf hd=>subst hg;exact⟨_,_,rfl,fun h=>by cases h⟩
  obtain⟨a,rc,rfl,ha⟩:=h3;cases a with
  | none =>
   have h0:=ha rfl;subst h0;refine (h6 m w _ (sQ hr) ⟨rfl,fun i c u hc hu=>?_⟩).mono ?_
   ·rcases i with _|i
    ·simp at hc hu;subst hc hu;exact .nils
    ·simp at hc
   ·rintro e w' ⟨u,he,m',ev,r',hu⟩;obtain⟨ev',rl'⟩:=iU hr ev;cases hu;exact⟨_,he,m,ev',rl',.lst0 _ _ (fun _=>rfl)⟩
  | some a =>
   refine (h7 m w _ ⟨fun _ _ h _=>(iu h).elim,hr.zl,fun _ _ _ h=>(iu h).elim,fun x cs _ h _=>(iu ⟨cs,h⟩).elim⟩ ⟨rfl,fun i c u hc hu=>?_⟩).mono ?_
   ·rcases i with _|i
    ·simp at hc hu;subst hc hu;exact .sl (by simp) (LJ _) (LJ _) (fun h=>(iu h).elim)
    ·simp at hc
   ·rintro e w' ⟨u,he,m',ev,r',hu⟩;have ev0:Evo m [] w m' h2' w':=⟨ev.zeq,LJ _,fun x hx _=>absurd hx (by simp),fun x b hl hb=>by
     rcases ev.own x b hl hb with⟨y,hy,_⟩|h8
     ·exact (iu hy).elim
     ·exact .inr h8,fun b hb _=>ev.frame b hb fun x hl=>(iu hl).elim,ev.size,ev.rs,ev.os,ev.tape,ev.output⟩
    obtain⟨ev',rl'⟩:=iU hr ev0;cases hu;exact⟨_,he,m,ev',rl',.lst0 _ _ (fun h=>by cases h)⟩
 ·exact hb _ _ _ _ _ hx
theorem AH{base:Prim}{cfg:Cfg}{xs:List (List V)}{h:Heap}(hx:xs≠[]):pO base cfg [.lst xs] h=base cfg [.lst xs] h:=by
 unfold pO;split
 ·rename_i h;simp at h;exact absurd h hx
 ·rfl
end Go.Ab
