/- The evaluator whole, and what a law's run by it is worth. -/
import Derived.Test.YtcedojbifnangaaAbDraw9
namespace Go.Ab
open Go.RowKit (Below)

abbrev Prim := Cfg → List V → Heap → Option (V × Heap)

def callN (P : Program) (md : FuncId → Nat) (prim : FuncId → Option Prim) (n : Nat) : Nat → Callf
  | 0 => fun _ _ _ _ => none
  | d + 1 => fun cfg f args h => match prim f with
    | some p => p cfg args h
    | none => match P.funcs[f]? with
      | none => none
      | some fn => fnEv P md (callN P md prim n d) (drawR P md (callN P md prim n d)) n cfg fn args h

/-- A function that the evaluator takes by its contract. -/
def PrimOK (P : Program) (f : FuncId) (p : Prim) : Prop := ∀ cfg args h r h', p cfg args h = some (r, h') → HS cfg h h' ∧ (∃ fn, P.funcs[f]? = some fn ∧ fn.body.isNone = false) ∧
  ∀ m w vs, Rel m h w → PW m h w args vs → Calls P f vs w fun e w' => ∃ v, e = .returned v ∧ Out m h w r h' v w'

section
variable {P : Program} {md : FuncId → Nat} {prim : FuncId → Option Prim} {n : Nat}

theorem callN_ok (hm : P.follows .mixedOrders = true) (hN : Named P) (hp : ∀ f p, prim f = some p → PrimOK P f p) : ∀ d, CallOK P (callN P md prim n d)
  | 0 => fun cfg f args h r h' hx => by simp [callN] at hx
  | d + 1 => fun cfg f args h r h' hx => by
    have ih := callN_ok hm hN hp d
    simp only [callN] at hx
    split at hx
    · rename_i p hpf
      exact hp f p hpf cfg args h r h' hx
    · split at hx
      · cases hx
      · rename_i fn hf
        exact fnEv_ok hN ih (drawR_ok hm hN ih) hf hx

def noMu : Mu := ⟨fun _ => none, fun _ => False⟩

theorem rel_no (w : World) : Rel noMu [] w :=
  ⟨fun _ _ h _ => by obtain ⟨cs, hc⟩ := h; simp at hc, fun _ h => h.elim, fun _ _ _ h => by obtain ⟨cs, hc⟩ := h; simp at hc, fun _ _ _ h => by simp at h⟩

/-- A law that the evaluator finds true returns true, and turns nothing that was there. -/
theorem law_calls (hm : P.follows .mixedOrders = true) (hN : Named P) (hp : ∀ f p, prim f = some p → PrimOK P f p) {d : Nat} {f : FuncId} {args : List V} {h' : Heap}
    (hx : callN P md prim n d ⟨0, none, 0⟩ f args [] = some (.bool true, h')) {w : World} {vs : Array Value} (hargs : PW noMu [] w args vs) :
    Calls P f vs w fun e w' => e = .returned (.bool true) ∧ Below w.heap.size w w' := by
  obtain ⟨_, _, hs⟩ := callN_ok (md := md) (n := n) hm hN hp d _ _ _ _ _ _ hx
  refine (hs noMu w vs (rel_no w) hargs).mono ?_
  rintro e w' ⟨v, rfl, m', ev, _, hr⟩
  cases hr
  exact ⟨rfl, ev.os, ev.tape, ev.output, ev.size, fun b hb => ev.frame b hb fun x hx => by obtain ⟨cs, hc⟩ := hx; simp at hc⟩
end
end Go.Ab
