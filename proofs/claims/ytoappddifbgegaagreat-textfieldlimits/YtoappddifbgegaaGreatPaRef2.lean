/- Several texts of this proof in one. -/
import Derived.Test.YtoappddifbgegaaGreatPiN
import Derived.Test.YtoappddifbgegaaGreatAbW7
import Derived.Test.YtoappddifbgegaaGreatPaRef
set_option linter.all false
namespace Go.Ab
open Go.Proofs
namespace Bi
section
variable {prim : FuncId → Option Prim} (d : Nat) (cfg : Cfg) (h : Heap)
end
end Bi
end Go.Ab
namespace Go.Ab.Bi
end Go.Ab.Bi
namespace Go.Ab
open Go.Proofs
namespace Bi
section
variable {prim : FuncId → Option Prim} (d : Nat) (cfg : Cfg) (h : Heap)
end
end Bi
end Go.Ab
namespace Go.Ab.Bi
abbrev OStk := List (Int × Nat)
structure PS where
  st : OStk
  out : List (Nat × Nat)
structure POK (k : Nat) (p : PS) : Prop where
  lt : ∀ a ∈ p.st, a.2 < k
  ord : ∀ x ∈ p.out, x.1 < x.2 ∧ x.2 < k
  len : p.st.length ≤ 63
  olen : p.out.length ≤ k
end Go.Ab.Bi
namespace Go.Ab
open Go.Proofs
namespace Bi
section
variable {P : Program} {md' : FuncId → Nat} {n : Nat} {prim : FuncId → Option Prim} {cfg : Cfg}
theorem call0rx {d : Nat} {f : FuncId} {fn : Func} {c : Code} {k : Nat} {rs : List ResultVar} {args : List V} {h : Heap} {Post : V → Heap → Prop} (hm : md' f = 0) (hp : prim f = none) (hf : P.funcs[f]? = some fn) (hb : fn.body = some c) (hk : fn.ntmps = k)
    (hr : fn.results.toList = rs) (ha : args.all V.noref = false)
    (hw : @wC P md' (callN P md' prim n d) ⟨h.length, [], h.length⟩ n ⟨c⟩ (args ++ List.replicate (k - args.length) .no) h ⟨@kFn P ⟨rs⟩ ⟨fun r' h' => ∃ r, frz h' h.length 6 r' = some r ∧ Post r (h'.take h.length)⟩⟩) :
    ∃ r h2, (∀ cfg, callM md' (callN P md' prim n (d + 1)) cfg f args h = some (r, h2)) ∧ Post r h2 := by
  obtain ⟨r', h', h1, r, h2, h3⟩ := callN_of hp hf hb hk hr hw
  exact ⟨r, _, fun cfg => by simp only [callM, hm, ha, Bool.false_eq_true, if_false, h1, h2], h3⟩
end
section
variable {P : Program} {md' : FuncId → Nat} {call : Callf} {cfg : Cfg}
end
section
variable {prim : FuncId → Option Prim} (d : Nat)
end
end Bi
end Go.Ab
namespace Go.Ab
theorem setI {k : IntKind} {l : List Int} {i : Nat} {x : Int} : setS (l.map (V.int k)) i (.int k x) = (l.set i x).map (V.int k) := by rw [setS, List.map_set]
theorem zerosI : ∀ n, zerosFor [V.int .i64 0] n = (List.replicate n 0).map (V.int .i64)
  | 0 => rfl
  | n + 1 => by rw [zerosFor, zerosI n, List.replicate_succ]; rfl
end Go.Ab
namespace Go.Ab
open Go.Proofs
namespace Bi
attribute [local congr] wGq_congr
section
variable {prim : FuncId → Option Prim} (d : Nat)
end
end Bi
end Go.Ab
namespace Go.Ab
open Go.Proofs
namespace Bi
attribute [local congr] wGq_congr
section
variable {prim : FuncId → Option Prim} (d : Nat)
end
end Bi
end Go.Ab
namespace Go.Ab
open Go.Proofs
namespace Bi
attribute [local congr] wGq_congr
section
variable {prim : FuncId → Option Prim} (d : Nat) (cfg : Cfg) (h : Heap)
end
end Bi
end Go.Ab
