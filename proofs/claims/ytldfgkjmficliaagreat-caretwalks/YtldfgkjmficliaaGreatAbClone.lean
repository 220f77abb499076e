/- Several texts of this proof in one. -/
import Derived.Test.YtldfgkjmficliaaGreatAbW
set_option linter.all false
namespace Go.Ab
section
variable {P:Program}{md:FuncId->Nat}{c c':aW}{n:Nat}
end
section
variable {P:Program}{md:FuncId->Nat}{prim:FuncId->Option Prim}{n:Nat}
end
end Go.Ab
namespace Go.Ab
def pO(base:Prim):Prim:=fun cfg args h=>match args with
 | [.lst []]=>some (.lst [],h)
 | _=>base cfg args h
theorem iu{x:Nat}(hl:live [none] x):False:=by
 obtain⟨cs,hc⟩:=hl;cases x with
 | zero=>simp at hc
 | succ x=>simp at hc
theorem AI{P:Program}{f:FuncId}{base:Prim}(hb:cM P f base)(h1:base ⟨0,[],0⟩ [.nils] []=some (.nils,[])){b2:Nat}{h2':Heap}(h2:base ⟨0,[],0⟩ [.sl 0 0 0 0 1] [none]=some (.sl b2 0 0 0 1,h2')):cM P f (pO base):=by
 intro cfg args h r h' hx;unfold pO at hx;split at hx
 ·simp only[Ll,LL]at hx;obtain⟨rfl,rfl⟩:=hx;obtain⟨_,h4,h6⟩:=hb _ _ _ _ _ h1;obtain⟨_,_,h7⟩:=hb _ _ _ _ _ h2;refine⟨.refl _ _,h4,fun m w vs hr hp=>?_⟩;have hl:vs.size=1:=hp.1;obtain⟨v,rfl⟩:∃ v,vs=#[v]:=by
   obtain⟨l⟩:=vs
   match l,hl with
   | [v],_=>exact⟨v,rfl⟩
  have hv:=hp.2 0 (.lst []) v rfl rfl;have h3:∃ a rc,v=.slice a 0 rc/\(a=none->rc=0):=by
   generalize hg:([]:List (List V))=l at hv;cases hv with
   | lst0 a rc ha=>exact⟨a,rc,rfl,ha⟩
   | lst rv hi h9 hk hc hf hd=>subst hg;exact⟨_,_,rfl,fun h=>by cases h⟩
  obtain⟨a,rc,rfl,ha⟩:=h3;cases a with
  | none =>
   have h0:=ha rfl;subst h0;refine (h6 m w _ (sQ hr) ⟨rfl,fun i c u hc hu=>?_⟩).mono ?_
   ·rcases i with _|i
    ·simp at hc hu;subst hc hu;exact .nils
    ·simp at hc
   ·rintro e w' ⟨u,he,m',ev,r',hu⟩;obtain⟨ev',rl'⟩:=iU hr ev;cases hu;exact⟨_,he,m,ev',rl',.lst0 _ _ (fun _=>rfl)⟩
  | some a =>
   refine (h7 m w _ ⟨fun _ _ h _=>(iu h).elim,hr.zl,fun _ _ _ h=>(iu h).elim,fun x cs _ h _=>(iu ⟨cs,h⟩).elim⟩ ⟨rfl,fun i c u hc hu=>?_⟩).mono ?_
   ·rcases i with _|i
    ·simp at hc hu;subst hc hu;exact .sl (by simp) (LJ _) (LJ _) (fun h=>(iu h).elim)
    ·simp at hc
   ·rintro e w' ⟨u,he,m',ev,r',hu⟩;have ev0:Evo m [] w m' h2' w':=⟨ev.zeq,LJ _,fun x hx _=>absurd hx (by simp),fun x b hl hb=>by
     rcases ev.own x b hl hb with⟨y,hy,_⟩|h8
     ·exact (iu hy).elim
     ·exact .inr h8,fun b hb _=>ev.frame b hb fun x hl=>(iu hl).elim,ev.size,ev.rs,ev.os,ev.tape,ev.output⟩
    obtain⟨ev',rl'⟩:=iU hr ev0;cases hu;exact⟨_,he,m,ev',rl',.lst0 _ _ (fun h=>by cases h)⟩
 ·exact hb _ _ _ _ _ hx
theorem AH{base:Prim}{cfg:Cfg}{xs:List (List V)}{h:Heap}(hx:xs≠[]):pO base cfg [.lst xs] h=base cfg [.lst xs] h:=by
 unfold pO;split
 ·rename_i h;simp at h;exact absurd h hx
 ·rfl
end Go.Ab
