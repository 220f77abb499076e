/- Several texts of this proof in one. -/
import Derived.Test.YtoappddifbgegaaGreatAbRm
set_option linter.all false
namespace Go.Ab
open Go.Proofs
namespace Bi
noncomputable def clR:Prim:=fun cfg args h=>aH Tryz.prog md (fun _=>none) 10000 30 cfg 61 args h
section
variable {prim:FuncId->Option Prim}(d:Nat)
theorem A1(hC:prim 61=some (ed clR))(t:List Int)(ht:t.length<=2000)(cfg:Cfg)(h:Heap)(h3:cfg.lo<=h.length):
  af md (K prim (d+1)) cfg 61 [rl t] h=some (if t=[] then (.lst [],h) else (.sl (h.length+1) 0 t.length t.length 1,h++[none,some (t.map (V.int .i32))])):=by
 have hm:md 61=2:=rfl;have e1:af md (K prim (d+1)) cfg 61 [rl t] h=ed clR cfg [rl t] h:=by
  simp only[af,hm];simp only[K,aH,hC]
 rw[e1];by_cases h0:t=[]
 ·subst h0;rfl
 rw[sr (by simpa using h0),if_neg h0];have h4:0<t.length:=LW.2 h0;obtain⟨r',h',h1,rfl,rfl⟩:=cn (prim:=fun _=>none) (md:=md) (n:=10000) (d:=29) (cfg:=cfg) (args:=[rl t]) (h:=h) (R:=fun r H=>r=.sl (h.length+1) 0 t.length t.length 1/\H=h++[none,some (t.map (V.int .i32))]) rfl Tryz.func61 rfl rfl rfl (by
  obtain⟨x,u,rfl⟩:=List.exists_cons_of_ne_nil h0;have h6:cw Tryz.prog .eql 25 (rl (x::u)) .nils=some (.bool false):=by kernel_rfl
  simp only[Lp]at ht;simp(disch:=omega)[h6];rw[eN (cs:=[]) (by simp[ab,isMap]) (bH h3) (by omega) (by omega) (by omega) (by simp),dt];simp)
 exact h1
end
end Bi
end Go.Ab
namespace Go.Ab
def LeC(c c':aF):Prop:=∀ cfg f args h r,c cfg f args h=some r->c' cfg f args h=some r
section
variable {P:Program}{md:FuncId->Nat}{c c':aF}{n:Nat}
theorem ec(hc:LeC c c'){cfg:Cfg}{f:FuncId}{args:List V}{h:Heap}{r:V×Heap}(hx:af md c cfg f args h=some r):af md c' cfg f args h=some r:=by
 rcases hm:md f with _|_|_|_|_|k
 ·simp only[af,hm]at hx ⊢;split at hx
  ·rename_i ha;rw[if_pos ha];split at hx
   ·rename_i heq;rw[hc _ _ _ _ _ heq];exact hx
   ·cases hx
  ·rename_i ha;rw[if_neg ha];split at hx
   ·rename_i heq;rw[hc _ _ _ _ _ heq];exact hx
   ·cases hx
 ·simp only[af,hm]at hx ⊢;split at hx
  ·rename_i heq;rw[hc _ _ _ _ _ heq];exact hx
  ·cases hx
 ·simp only[af,hm]at hx ⊢;exact hc _ _ _ _ _ hx
 ·simp only[af,hm]at hx ⊢;split at hx
  ·cases hx
  ·split at hx
   ·rename_i heq;rw[hc _ _ _ _ _ heq];exact hx
   ·cases hx
 ·simp only[af,hm]at hx ⊢;split at hx
  ·rename_i heq;rw[hc _ _ _ _ _ heq];exact hx
  ·cases hx
 ·simp only[af,hm]at hx ⊢;exact hc _ _ _ _ _ hx
theorem sT(hc:LeC c c'){cfg:Cfg}{fr:List V}{h:Heap}{op:Op}{r:V×Heap}(hx:aB P md c cfg fr h op=some r):aB P md c' cfg fr h op=some r:=by
 unfold aB at hx ⊢
 grind[ec]
theorem xi(hc:LeC c c'){cfg:Cfg}{ops:Array Oper}{o:Oper}{fr:List V}{h:Heap}{r:List V×Heap}(hx:cZ P md c cfg ops o fr h=some r):cZ P md c' cfg ops o fr h=some r:=by
 grind[cZ,sT]
theorem jN(hc:LeC c c'){cfg:Cfg}{ops:Array Oper}:∀ {l:List Oper}{fr:List V}{h:Heap}{r:List V×Heap},cm P md c cfg ops l fr h=some r->cm P md c' cfg ops l fr h=some r
 | [],_,_,_,hx=>hx
 | o::l,fr,h,r,hx=>by
  unfold cm at hx ⊢;split at hx
  ·rename_i heq;rw[xi hc heq];exact jN hc hx
  grind
theorem rR(hc:LeC c c'){cfg:Cfg}{n0:Nat}{ops:Array Oper}{o:Oper}{fr:List V}{h:Heap}{x:List Nat}{ld:List Nat}{r:V×Heap×List Nat×List Nat}(hx:cL P md c cfg n0 ops o fr h x ld=some r):cL P md c' cfg n0 ops o fr h x ld=some r:=by
 unfold cL at hx ⊢;split at hx
 ·cases hx
 ·exact hx
 ·split at hx
  ·split at hx
   ·split at hx
    ·grind[ec]
    ·grind[ec]
    ·split at hx
     ·split at hx
      ·rename_i hw;split at hx
       ·rename_i heq;rw[if_pos hw,ec hc heq];exact hx
       grind
      grind
     omega
    ·grind[ec]
    ·split at hx
     ·rename_i hw;split at hx
      ·rename_i heq;rw[if_pos hw,ec hc heq];exact hx
      grind
     grind
   omega
  ·exact hx
  omega
theorem mc(hc:LeC c c'){cfg:Cfg}{n0:Nat}{ops:Array Oper}:∀ {l:List Oper}{fr:List V}{h:Heap}{x:List Nat}{ld:List Nat}{r:List V×Heap×List Nat×List Nat},cW P md c cfg n0 ops l fr h x ld=some r->cW P md c' cfg n0 ops l fr h x ld=some r
 | [],_,_,_,_,_,hx=>hx
 | o::l,fr,h,x,ld,r,hx=>by
  unfold cW at hx ⊢;split at hx
  ·rename_i heq;rw[rR hc heq];exact mc hc hx
  grind
theorem nU(hc:LeC c c'){cfg:Cfg}{ops:Array Oper}{fr:List V}{h:Heap}{r:List V×Heap}(hx:fC P md c cfg ops fr h=some r):fC P md c' cfg ops fr h=some r:=by
 unfold fC at hx ⊢;simp only at hx ⊢;split at hx
 ·rename_i h0;rw[if_pos h0];split at hx
  ·rename_i heq;rw[mc hc heq];simp only at hx ⊢;split at hx
   ·rename_i hl;rw[if_pos hl]
    grind[jN]
   grind
  grind
 grind
theorem yS(hc:LeC c c'){cfg:Cfg}{n0:Nat}{o:Oper}{fr:List V}{h:Heap}{x ld:List Nat}{r:V×Heap×List Nat×List Nat}(hx:ln P md c cfg n0 o fr h x ld=some r):ln P md c' cfg n0 o fr h x ld=some r:=by
 unfold ln at hx ⊢;split at hx
 ·split at hx
  ·split at hx
   ·rename_i hm;split at hx
    ·rename_i heq;rw[if_pos hm,sT hc heq];exact hx
    grind
   grind
  omega
 all_goals exact hx
theorem ti(hc:LeC c c'){cfg:Cfg}{n0:Nat}:∀ {l:List Oper}{fr:List V}{h:Heap}{x ld:List Nat}{r:List V×Heap×List Nat×List Nat},oP P md c cfg n0 l fr h x ld=some r->oP P md c' cfg n0 l fr h x ld=some r
 | [],_,_,_,_,_,hx=>hx
 | o::l,fr,h,x,ld,r,hx=>by
  unfold oP at hx ⊢;split at hx
  ·rename_i heq;rw[yS hc heq];exact ti hc hx
  grind
theorem xO(hc:LeC c c'){cfg:Cfg}{ops:Array Oper}{fr:List V}{h:Heap}{r:List V×Heap}(hx:nT P md c cfg ops fr h=some r):nT P md c' cfg ops fr h=some r:=by
 grind[nT,ti]
theorem xQ(hc:LeC c c'){cfg:Cfg}{ops:Array Oper}{fr:List V}{h:Heap}{r:List V×Heap}(hx:ez P md c cfg ops fr h=some r):ez P md c' cfg ops fr h=some r:=by
 unfold ez at hx ⊢;split at hx
 ·rename_i hp;rw[if_pos hp];split at hx<;>grind[nU]
 ·rename_i hp;rw[if_neg hp];split at hx
  ·simp_all
  rename_i h0;rw[if_neg h0];split at hx
  ·grind[nU]
  ·split at hx
   ·rename_i ho;have h2:=xO hc hx;cases hq:fC P md c' cfg ops fr h with
    | some r'=>grind[xP]
    | none =>
     simp_all
   grind
theorem sC{b b':List V->Heap->Option St}(hb:∀ fr h r,b fr h=some r->b' fr h=some r):∀ {n:Nat}{fr:List V}{h:Heap}{r:St},iter b n fr h=some r->iter b' n fr h=some r
 | 0,_,_,_,hx=>by cases hx
 | n+1,fr,h,r,hx=>by
  unfold iter at hx ⊢;split at hx
  ·rename_i heq;rw[hb _ _ _ heq];exact sC hb hx
  grind
theorem A2(hc:LeC c c'){cfg:Cfg}:∀ (cd:Code) {fr:List V}{h:Heap}{r:St},code P md c (ez P md c) cfg n cd fr h=some r->code P md c' (ez P md c') cfg n cd fr h=some r:=by
 intro cd
 induction cd with
 | skip=>intro fr h r hx;exact hx
 | region i ops dr =>
  intro fr h r hx;cases dr<;>grind[code,jN,xQ]
 | seq a b iha ihb =>
  grind[code,absurd]
 | cond o a b iha ihb =>
  grind[code]
 | block i b ih =>
  grind[code,absurd]
 | loop b ih =>
  grind[code,sC]
 | _=>intro fr h r hx;exact hx
theorem Ba(hc:LeC c c'){cfg:Cfg}{fn:Func}{args:List V}{h:Heap}{r:V×Heap}(hx:xZ P md c (ez P md c) n cfg fn args h=some r):xZ P md c' (ez P md c') n cfg fn args h=some r:=by
 unfold xZ at hx ⊢;split at hx
 ·cases hx
 ·split at hx
  ·cases hx
  ·rename_i hne heq;rw[A2 hc _ heq];simp_all
  grind
end
section
variable {P:Program}{md:FuncId->Nat}{prim:FuncId->Option Prim}{n:Nat}
theorem pQ:∀ (d:Nat),LeC (aH P md prim n d) (aH P md prim n (d+1))
 | 0=>fun _ _ _ _ _ hx=>by cases hx
 | d+1=>fun cfg f args h r hx=>by
  have ih:=pQ d
  grind[aH,Ba]
theorem xJ(d k:Nat){cfg:Cfg}{f:FuncId}{args:List V}{h:Heap}{r:V×Heap}(hx:af md (aH P md prim n d) cfg f args h=some r):af md (aH P md prim n (d+k)) cfg f args h=some r:=by
 induction k with
 | zero=>exact hx
 | succ k ih=>grind[ec,pQ]
end
end Go.Ab
