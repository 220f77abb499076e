/- The law TextfieldConfigs: walked. -/
import Derived.Test.YtoappddifbgegaaGreatAbRound
import Derived.Test.YtoappddifbgegaaGreatPbW
set_option linter.all false
namespace Go.Ab
open Go.Proofs
namespace Bi
theorem clR_ok : PrimOK Tryz.prog 61 (cloneP clR) := by
  refine cloneP_ok (fun _ _ _ _ _ hx => callN_ok Aw.hfol Aw.hnam (fun _ _ h => by cases h) 30 _ _ _ _ _ _ hx) (b2 := 1) (k := 1) (h2' := [none, some []]) ?_ ?_
  · kernel_rfl
  · kernel_rfl
noncomputable def pT (f : FuncId) : Option Prim := if f = 13 then some (memoP Aw.t13) else if f = 61 then some (cloneP clR) else none
theorem pT_ok : ∀ f p, pT f = some p → PrimOK Tryz.prog f p := by
  intro f p h
  unfold pT at h
  split at h
  · rename_i hf
    cases h
    subst hf
    exact Aw.pk30 _ _ List.mem_cons_self
  · split at h
    · rename_i hf
      cases h
      subst hf
      exact clR_ok
    · cases h
theorem pT_none : ∀ f, Np5 f → pT f = none := by
  intro f h
  unfold pT
  rw [if_neg, if_neg]
  · intro e; subst e; exact absurd h (by decide)
  · intro e; subst e; exact absurd h (by decide)
theorem awakeT (d : Nat) (cfg : Cfg) (h : Heap) : callM md (K pT (d + 1)) cfg 13 [] h = some (.bool true, h) := by kernel_rfl
section
attribute [local congr] wGq_congr
end
end Bi
end Go.Ab
