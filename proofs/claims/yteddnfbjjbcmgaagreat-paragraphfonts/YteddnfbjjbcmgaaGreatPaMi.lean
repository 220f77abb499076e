/- The program: the other rune of a pair. -/
import Derived.Test.YteddnfbjjbcmgaaGreatPiSpec4
set_option linter.unusedSimpArgs false
set_option linter.unusedVariables false
namespace Go.Ab
open Go.Proofs
namespace Bi
def otTab:List (Int×Int):=[(60,62),(171,187),(8804,8805)]
def mirS(r:Int):Int:=if (iU brTab r).2<0 then (iU otTab r).1 else (iU brTab r).1
section
variable {prim:FuncId→Option Prim}(d:Nat) (cfg:Cfg) (h:Heap)
theorem A5(hp:prim 133=none):af md (K prim (d+1)) cfg 133 [] h=some (prl otTab,h):=by
 have hk:∃ v H,K prim (d+1) ⟨0,[],0⟩ 133 [] []=some (v,H)∧frz H 0 6 v=some (prl otTab):=by
  simp only[K,aF,hp]
  exact⟨.sl 0 0 3 3 2,[some (otTab.flatMap fun x=>[.int .i32 x.1,.int .i32 x.2])],by kernel_rfl,by kernel_rfl⟩
 obtain⟨v,H,h1,h2⟩:=hk
 simp only[af,show md 133=0 from rfl,List.all_nil,if_true,h1,h2]
theorem E5(hp:∀ f,Np5 f→prim f=none)(r:Int):af md (K prim (d+2)) cfg 114 [.int .i32 r] h=some (.int .i32 (mirS r),h):=by
 refine aZ rfl (hp 114 (by decide)) Tryz.func114 rfl rfl rfl (by simp) ?_
 have h1:=fun cfg h=>kB (prim:=prim) d cfg h (hp 132 (by decide))
 have h2:=fun cfg h=>qn (prim:=prim) d cfg h (hp 131 (by decide)) brTab (by decide) r
 have h3:=fun cfg h=>A5 (prim:=prim) d cfg h (hp 133 (by decide))
 have h4:=fun cfg h=>qn (prim:=prim) d cfg h (hp 131 (by decide)) otTab (by decide) r
 unfold mirS
 generalize iU brTab r=x at *
 generalize iU otTab r=y at *
 obtain⟨x1,x2⟩:=x
 generalize brTab=bt at *
 generalize otTab=ot at *
 by_cases c1:x2<0
 ·simp[h1,h2,h3,h4,c1]
 ·simp[h1,h2,c1]
end
end Bi
end Go.Ab
