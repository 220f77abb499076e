/- Several texts of this proof in one. -/
import Derived.Test.YtldfgkjmficliaaGreatAbW2
set_option linter.unusedSimpArgs false
set_option linter.unusedVariables false
namespace Go.Ab
def Le(c c':aR):Prop:=∀ cfg f args h r,c cfg f args h=some r→c' cfg f args h=some r
section
variable {P:Program}{md:FuncId→Nat}{c c':aR}{n:Nat}
theorem dX(hc:Le c c'){cfg:Cfg}{f:FuncId}{args:List V}{h:Heap}{r:V×Heap}(hx:af md c cfg f args h=some r):af md c' cfg f args h=some r:=by
 rcases hm:md f with _|_|_|_|_|k
 ·simp only[af,hm]at hx ⊢
  split at hx
  ·rename_i ha
   rw[if_pos ha]
   split at hx
   ·rename_i heq
    rw[hc _ _ _ _ _ heq]
    exact hx
   ·cases hx
  ·rename_i ha
   rw[if_neg ha]
   split at hx
   ·rename_i heq
    rw[hc _ _ _ _ _ heq]
    exact hx
   ·cases hx
 ·simp only[af,hm]at hx ⊢
  split at hx
  ·rename_i heq
   rw[hc _ _ _ _ _ heq]
   exact hx
  ·cases hx
 ·simp only[af,hm]at hx ⊢
  exact hc _ _ _ _ _ hx
 ·simp only[af,hm]at hx ⊢
  split at hx
  ·cases hx
  ·split at hx
   ·rename_i heq
    rw[hc _ _ _ _ _ heq]
    exact hx
   ·cases hx
 ·simp only[af,hm]at hx ⊢
  split at hx
  ·rename_i heq
   rw[hc _ _ _ _ _ heq]
   exact hx
  ·cases hx
 ·simp only[af,hm]at hx ⊢
  exact hc _ _ _ _ _ hx
theorem Ay(hc:Le c c'){cfg:Cfg}{fr:List V}{h:Heap}{op:Op}{r:V×Heap}(hx:aF P md c cfg fr h op=some r):aF P md c' cfg fr h op=some r:=by
 unfold aF at hx ⊢
 split at hx
 ·split at hx
  ·exact dX hc hx
  ·cases hx
 ·exact hx
theorem vP(hc:Le c c'){cfg:Cfg}{ops:Array Oper}{o:Oper}{fr:List V}{h:Heap}{r:List V×Heap}(hx:gg P md c cfg ops o fr h=some r):gg P md c' cfg ops o fr h=some r:=by
 unfold gg at hx ⊢
 split at hx
 ·split at hx
  ·rename_i heq
   rw[Ay hc heq]
   exact hx
  ·cases hx
 ·exact hx
 ·cases hx
theorem jn(hc:Le c c'){cfg:Cfg}{ops:Array Oper}:∀ {l:List Oper}{fr:List V}{h:Heap}{r:List V×Heap},cT P md c cfg ops l fr h=some r→cT P md c' cfg ops l fr h=some r
 | [],_,_,_,hx=>hx
 | o::l,fr,h,r,hx=>by
  unfold cT at hx ⊢
  split at hx
  ·rename_i heq
   rw[vP hc heq]
   exact jn hc hx
  ·cases hx
theorem qG(hc:Le c c'){cfg:Cfg}{n0:Nat}{ops:Array Oper}{o:Oper}{fr:List V}{h:Heap}{x:List Nat}{ld:List Nat}{r:V×Heap×List Nat×List Nat}(hx:de P md c cfg n0 ops o fr h x ld=some r):de P md c' cfg n0 ops o fr h x ld=some r:=by
 unfold de at hx ⊢
 split at hx
 ·cases hx
 ·exact hx
 ·split at hx
  ·split at hx
   ·split at hx
    ·split at hx
     ·rename_i heq
      rw[dX hc heq]
      exact hx
     ·cases hx
    ·split at hx
     ·rename_i heq
      rw[dX hc heq]
      exact hx
     ·cases hx
    ·split at hx
     ·split at hx
      ·rename_i hw
       split at hx
       ·rename_i heq
        rw[if_pos hw,dX hc heq]
        exact hx
       ·cases hx
      ·cases hx
     ·cases hx
    ·split at hx
     ·rename_i heq
      rw[dX hc heq]
      exact hx
     ·cases hx
    ·split at hx
     ·rename_i hw
      split at hx
      ·rename_i heq
       rw[if_pos hw,dX hc heq]
       exact hx
      ·cases hx
     ·cases hx
   ·cases hx
  ·exact hx
  ·exact hx
theorem ln(hc:Le c c'){cfg:Cfg}{n0:Nat}{ops:Array Oper}:∀ {l:List Oper}{fr:List V}{h:Heap}{x:List Nat}{ld:List Nat}{r:List V×Heap×List Nat×List Nat},dw P md c cfg n0 ops l fr h x ld=some r→dw P md c' cfg n0 ops l fr h x ld=some r
 | [],_,_,_,_,_,hx=>hx
 | o::l,fr,h,x,ld,r,hx=>by
  unfold dw at hx ⊢
  split at hx
  ·rename_i heq
   rw[qG hc heq]
   exact ln hc hx
  ·cases hx
theorem wD(hc:Le c c'){cfg:Cfg}{ops:Array Oper}{fr:List V}{h:Heap}{r:List V×Heap}(hx:ef P md c cfg ops fr h=some r):ef P md c' cfg ops fr h=some r:=by
 unfold ef at hx ⊢
 simp only at hx ⊢
 split at hx
 ·rename_i hok
  rw[if_pos hok]
  split at hx
  ·rename_i heq
   rw[ln hc heq]
   simp only at hx ⊢
   split at hx
   ·rename_i hl
    rw[if_pos hl]
    exact jn hc hx
   ·cases hx
  ·cases hx
 ·cases hx
theorem rn{b b':List V→Heap→Option St}(hb:∀ fr h r,b fr h=some r→b' fr h=some r):∀ {n:Nat}{fr:List V}{h:Heap}{r:St},iter b n fr h=some r→iter b' n fr h=some r
 | 0,_,_,_,hx=>by cases hx
 | n+1,fr,h,r,hx=>by
  unfold iter at hx ⊢
  split at hx
  ·rename_i heq
   rw[hb _ _ _ heq]
   exact rn hb hx
  ·rename_i hne
   rw[hb _ _ _ hx]
   cases r with
   | mk e p =>
    cases e with
    | normal=>exact absurd hx (hne _ _)
    | exit i=>rfl
    | ret=>rfl
theorem zI(hc:Le c c'){cfg:Cfg}:∀ (cd:Code) {fr:List V}{h:Heap}{r:St},code P md c (ef P md c) cfg n cd fr h=some r→code P md c' (ef P md c') cfg n cd fr h=some r:=by
 intro cd
 induction cd with
 | skip=>intro fr h r hx;exact hx
 | region i ops dr =>
  intro fr h r hx
  cases dr
  ·simp only[code]at hx ⊢
   split at hx
   ·rename_i heq
    rw[jn hc heq]
    exact hx
   ·cases hx
  ·simp only[code]at hx ⊢
   split at hx
   ·rename_i heq
    rw[wD hc heq]
    exact hx
   ·cases hx
 | seq a b iha ihb =>
  intro fr h r hx
  simp only[code]at hx ⊢
  split at hx
  ·rename_i heq
   rw[iha heq]
   exact ihb hx
  ·rename_i hne
   rw[iha hx]
   obtain⟨e,p⟩:=r
   cases e with
   | normal=>exact absurd hx (hne _ _)
   | exit i=>rfl
   | ret=>rfl
 | cond o a b iha ihb =>
  intro fr h r hx
  simp only[code]at hx ⊢
  split at hx
  ·exact iha hx
  ·exact ihb hx
  ·cases hx
 | block i b ih =>
  intro fr h r hx
  simp only[code]at hx ⊢
  split at hx
  ·rename_i heq
   rw[ih heq]
   exact hx
  ·rename_i hne
   rw[ih hx]
   obtain⟨e,p⟩:=r
   cases e with
   | normal=>rfl
   | exit i=>exact absurd hx (hne _ _ _)
   | ret=>rfl
 | loop b ih =>
  intro fr h r hx
  simp only[code]at hx ⊢
  exact rn (fun _ _ _ h=>ih h) hx
 | _=>intro fr h r hx;exact hx
theorem zQ(hc:Le c c'){cfg:Cfg}{fn:Func}{args:List V}{h:Heap}{r:V×Heap}(hx:wM P md c (ef P md c) n cfg fn args h=some r):wM P md c' (ef P md c') n cfg fn args h=some r:=by
 unfold wM at hx ⊢
 split at hx
 ·cases hx
 ·split at hx
  ·cases hx
  ·rename_i hne heq
   rw[zI hc _ heq]
   split
   ·rename_i h'
    cases h'
    exact absurd rfl (hne _)
   ·rename_i h'
    cases h'
    exact hx
   ·rename_i h'
    cases h'
  ·cases hx
end
section
variable {P:Program}{md:FuncId→Nat}{prim:FuncId→Option Prim}{n:Nat}
theorem oK:∀ (d:Nat),Le (aI P md prim n d) (aI P md prim n (d+1))
 | 0=>fun _ _ _ _ _ hx=>by cases hx
 | d+1=>fun cfg f args h r hx=>by
  have ih:=oK d
  unfold aI at hx ⊢
  split at hx
  ·exact hx
  ·split at hx
   ·cases hx
   ·exact zQ ih hx
theorem wo(d k:Nat){cfg:Cfg}{f:FuncId}{args:List V}{h:Heap}{r:V×Heap}(hx:af md (aI P md prim n d) cfg f args h=some r):af md (aI P md prim n (d+k)) cfg f args h=some r:=by
 induction k with
 | zero=>exact hx
 | succ k ih=>exact dX (oK (d+k)) ih
end
end Go.Ab
namespace Go.Ab
def oQ(base:Prim):Prim:=fun cfg args h=>match args with
 | [.lst []]=>some (.lst [],h)
 | _=>base cfg args h
theorem gQ{x:Nat}(hl:live [none] x):False:=by
 obtain⟨cs,hc⟩:=hl
 cases x with
 | zero=>simp at hc
 | succ x=>simp at hc
theorem zH{P:Program}{f:FuncId}{base:Prim}(hb:cj P f base)(h1:base ⟨0,[],0⟩ [.nils] []=some (.nils,[])){b2:Nat}{h2':Heap}(h2:base ⟨0,[],0⟩ [.sl 0 0 0 0 1] [none]=some (.sl b2 0 0 0 1,h2')):cj P f (oQ base):=by
 intro cfg args h r h' hx
 unfold oQ at hx
 split at hx
 ·simp only[Option.some.injEq,Prod.mk.injEq]at hx
  obtain⟨rfl,rfl⟩:=hx
  obtain⟨_,hfn,hs1⟩:=hb _ _ _ _ _ h1
  obtain⟨_,_,hs2⟩:=hb _ _ _ _ _ h2
  refine⟨.refl _ _,hfn,fun m w vs hr hp=>?_⟩
  have hl:vs.size=1:=hp.1
  obtain⟨v,rfl⟩:∃ v,vs=#[v]:=by
   obtain⟨l⟩:=vs
   match l,hl with
   | [v],_=>exact⟨v,rfl⟩
  have hv:=hp.2 0 (.lst []) v rfl rfl
  have hcase:∃ a rc,v=.slice a 0 rc∧(a=none→rc=0):=by
   generalize hg:([]:List (List V))=l at hv
   cases hv with
   | lst0 a rc ha=>exact⟨a,rc,rfl,ha⟩
   | lst rv hi hrc hk hc hf hr'=>subst hg;exact⟨_,_,rfl,fun h=>by cases h⟩
  obtain⟨a,rc,rfl,ha⟩:=hcase
  cases a with
  | none =>
   have h0:=ha rfl
   subst h0
   refine (hs1 m w _ (rP hr) ⟨rfl,fun i c u hc hu=>?_⟩).mono ?_
   ·rcases i with _|i
    ·simp at hc hu;subst hc hu;exact .nils
    ·simp at hc
   ·rintro e w' ⟨u,he,m',ev,r',hu⟩
    obtain⟨ev',rl'⟩:=ix hr ev
    cases hu
    exact⟨_,he,m,ev',rl',.lst0 _ _ (fun _=>rfl)⟩
  | some a =>
   refine (hs2 m w _ ⟨fun _ _ h _=>(gQ h).elim,hr.zl,fun _ _ _ h=>(gQ h).elim,fun x cs _ h _=>(gQ ⟨cs,h⟩).elim⟩ ⟨rfl,fun i c u hc hu=>?_⟩).mono ?_
   ·rcases i with _|i
    ·simp at hc hu
     subst hc hu
     exact .sl (by simp) (Nat.zero_le _) (Nat.zero_le _) (fun h=>(gQ h).elim)
    ·simp at hc
   ·rintro e w' ⟨u,he,m',ev,r',hu⟩
    have ev0:Evo m [] w m' h2' w':=⟨ev.zeq,Nat.zero_le _,fun x hx _=>absurd hx (by simp),fun x b hl hb=>by
     rcases ev.own x b hl hb with⟨y,hy,_⟩|hge
     ·exact (gQ hy).elim
     ·exact .inr hge,fun b hb _=>ev.frame b hb fun x hl=>(gQ hl).elim,ev.size,ev.rs,ev.os,ev.tape,ev.output⟩
    obtain⟨ev',rl'⟩:=ix hr ev0
    cases hu
    exact⟨_,he,m,ev',rl',.lst0 _ _ (fun h=>by cases h)⟩
 ·exact hb _ _ _ _ _ hx
theorem zG{base:Prim}{cfg:Cfg}{xs:List (List V)}{h:Heap}(hx:xs≠[]):oQ base cfg [.lst xs] h=base cfg [.lst xs] h:=by
 unfold oQ
 split
 ·rename_i h;simp at h;exact absurd h hx
 ·rfl
end Go.Ab
