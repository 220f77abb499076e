/- The law TextrangeMarks returns true for every input, and each argument reads behind the call as it read before. No condition. -/
import Derived.Test.YtkiepcknigbhpaaGreatTrP
import Derived.Test.YtkiepcknigbhpaaGreatTrM
import Derived.Test.YtkiepcknigbhpaaGreatAbRow2
import Derived.Test.YtkiepcknigbhpaaGreatRows
import Derived.WalkKit
import Derived.ProofKit
import Derived.OpenShut
import Derived.ShutString
import Derived.ChangeOld
import Derived.Below
import Derived.Lib.SmallJoins
namespace Go.Proofs.YtkiepcknigbhpaaGreat
open Go.ChangeShapes Go.WideShapes Go.ChangeAt Go.RowKit
open Go.Ab (IsRow isRow_R IsPairs isPairs_R open_pairs law_calls pw_cons pw_nil agg_R R)
set_option linter.unusedVariables false

theorem own : ownKnob Tryz.prog.godebug = none := by kernel_rfl
theorem laidOut : laidOutB Tryz.prog = true := by kernel_rfl
theorem cells50 : Tryz.prog.cellsOf 50 = 2 := by kernel_rfl

theorem awakeTrue (cfg : Ab.Cfg) (h : Ab.Heap) : Ab.callM Ab.Tr.md (Ab.Tr.K (Ab.primOf [(15, Ab.Tr.t15)]) 38) cfg 15 [] h = some (.bool true, h) := by kernel_rfl
theorem awakeOK : ∀ f p, Ab.primOf [(15, Ab.Tr.t15)] f = some p → Ab.PrimOK Tryz.prog f p := Ab.primOf_ok _ (by
  intro f t hm
  simp only [List.mem_cons, Prod.mk.injEq, List.not_mem_nil, or_false] at hm
  obtain ⟨rfl, rfl⟩ := hm
  exact Ab.Tr.pk40 15 _ (by rw [Ab.Tr.ps40]; exact List.mem_cons_self ..))

theorem marksWalk (a0 : Option Addr) (len0 cap0 : Nat) (z0 : List Int) (ar : Option Addr) (lenr capr : Nat) (zr : List (Int × Int)) (x : Int) (a2 : Option Addr) (len2 cap2 : Nat) (z2 : List Int) (w : World)
    (w0 : IsRow .i32 w a0 len0 cap0 z0) (wr : IsPairs w ar lenr zr) (hr : lenr ≤ capr) (w2 : IsRow .i64 w a2 len2 cap2 z2) :
    Calls Tryz.prog 7 #[.agg #[.slice a0 len0 cap0, .slice ar lenr capr], .int .i64 x, .slice a2 len2 cap2] w fun e w' => e = .returned (.bool true) ∧ Below w.heap.size w w' := by
  obtain ⟨r, h', hx, rfl⟩ := Ab.Tr.marks_ok (prim := Ab.primOf [(15, Ab.Tr.t15)]) 32 (fun f hf => by simp [Ab.primOf, hf]) awakeTrue (z2.take len2) (z0.take len0) zr x
  exact law_calls (md := Ab.Tr.md) (n := 10000) Ab.Tr.hfol Ab.Tr.hnam awakeOK hx
    (pw_cons (agg_R (pw_cons (isRow_R w0) (pw_cons (isPairs_R wr hr) pw_nil))) (pw_cons (.int _ _) (pw_cons (isRow_R w2) pw_nil)))

set_option maxRecDepth 100000 in
theorem marksLifted (os : Os) (started : os.Started) (H : Type) (enc : TypeId × Value → H) :
    ReturnsInHanded {} Tryz.checked os 7 .any (Rows.textrangeMarksSpec.pre6 enc Tryz.prog Tryz.f7 Rows.textrangeMarksRow.domain false) (Rows.textrangeMarksSpec.post enc Tryz.prog Tryz.f7 false true false false) := by
  refine returnsInHanded_of_change (C := Tryz.checked) own started (by kernel_rfl) Tryz.func7
    (ChangeSpec.witness6 (enc := enc) (C := Tryz.checked) false ⟨#[], #[.agg #[.slice none 0 0, .slice none 0 0], .int .i64 0, .slice none 0 0], []⟩ 8 (by kernel_rfl) (by kernel_rfl) (by kernel_rfl) (by kernel_rfl)) ?_
  intro W base args ds gs before hval0 hW hcnd _
  have hval : ∀ (j : Nat) t v, Tryz.f7.params[j]? = some t → args[j]? = some v → Value.okWide Tryz.prog W .any base t v := hval0
  have hW' := hW
  obtain ⟨p, q, hA0, hV, rfl, hfz, hnd⟩ := hW
  have hA : DataW.TrodAll enc Tryz.prog W 0 (fun _ => true) true Tryz.f7.params.toList args.toList ds p := hA0
  rw [Tryz.params7] at hA hval
  obtain ⟨v0, vs0, d0, ds0, p0, q0, hargs, rfl, rfl, h0, r0⟩ := trodAll_cons hA
  obtain ⟨v1, vs1, d1, ds1, p1, q1, rfl, rfl, rfl, h1, r1⟩ := trodAll_cons r0
  obtain ⟨v2, vs2, d2, ds2, p2, q2, rfl, rfl, rfl, h2, r2⟩ := trodAll_cons r1
  obtain ⟨rfl, rfl, rfl⟩ := trodAll_nil r2
  obtain rfl : args = #[v0, v1, v2] := by cases args; simp_all
  obtain ⟨rfl, rfl⟩ := trodVars_none hV
  obtain ⟨a2, len2, cap2, rfl⟩ := okWide_slice Tryz.underlying22 (hval 2 22 v2 rfl rfl)
  have k0 := h0
  have k1 := h1
  have k2 := h2
  have lt0 : ∀ x ∈ p0, x.block < W.heap.size := by obtain ⟨m, hm⟩ := k0; exact DataW.trod_lt m _ _ _ hm
  have lt1 : ∀ x ∈ p1, x.block < W.heap.size := by obtain ⟨m, hm⟩ := k1; exact DataW.trod_lt m _ _ _ hm
  have lt2 : ∀ x ∈ p2, x.block < W.heap.size := by obtain ⟨m, hm⟩ := k2; exact DataW.trod_lt m _ _ _ hm
  obtain ⟨z2, w2⟩ : ∃ zs, IsRow .i64 W a2 len2 cap2 zs := by
    obtain ⟨fuel, hf⟩ := h2
    rcases open_ints Tryz.underlying22 Tryz.underlying3 (by kernel_rfl) hf with ⟨hcs, _⟩ | ⟨x, l, c, zs, hcs, _, hl, hm, hz, _, hcell, hwz⟩
    · simp [Value.cells] at hcs
      obtain ⟨rfl, rfl, rfl⟩ := hcs
      exact ⟨[], .inl ⟨rfl, rfl, rfl, rfl⟩⟩
    · simp [Value.cells] at hcs
      obtain ⟨rfl, rfl, rfl⟩ := hcs
      exact ⟨zs, .inr ⟨_, rfl, hl, hm, by simpa using hz, hcell, hwz⟩⟩
  obtain ⟨c0, c1, y0, y1, m, rfl, rfl, rfl, hy0, hy1⟩ := Joins.open_agg2 Tryz.underlying50 (by kernel_rfl) cells50 (hval 0 50 v0 rfl rfl) h0
  obtain ⟨a0, len0, cap0, z0, rfl, w0⟩ : ∃ a0 len0 cap0 zs, c0 = .slice a0 len0 cap0 ∧ IsRow .i32 W a0 len0 cap0 zs := by
    rcases open_ints Tryz.underlying25 Tryz.underlying21 (by kernel_rfl) hy0 with ⟨hcs, _⟩ | ⟨x, l, c, zs, hcs, _, hl, hm, hz, _, hcell, hwz⟩
    · simp at hcs
      exact ⟨none, 0, 0, [], hcs, .inl ⟨rfl, rfl, rfl, rfl⟩⟩
    · simp at hcs
      exact ⟨some x, l, c, zs, hcs, .inr ⟨_, rfl, hl, hm, by simpa using hz, hcell, hwz⟩⟩
  obtain ⟨ar, lenr, capr, zr, rfl, hrc, wr⟩ := open_pairs Tryz.underlying48 Tryz.underlying55 (by kernel_rfl) rfl rfl (by kernel_rfl) (by kernel_rfl) Tryz.underlying3 Tryz.underlying3 hy1
  obtain ⟨x, rfl⟩ := okWide_int Tryz.underlying3 (hval 1 3 v1 rfl rfl)
  clear hA0 hval0
  refine (marksWalk a0 len0 cap0 z0 ar lenr capr zr x a2 len2 cap2 z2 W w0 wr hrc w2).mono fun e W' ⟨he, bel⟩ => ?_
  subst he
  exact ⟨_, rfl, _, _, _, [], _, [], hW', trodAll_mk1 (shut_bool Tryz.underlying4 _), (trodAll_cons_mk (Below.trod laidOut (by kernel_rfl) (of_decide_eq_true (by kernel_rfl)) k0 bel lt0) (trodAll_cons_mk (Below.trod laidOut (by kernel_rfl) (of_decide_eq_true (by kernel_rfl)) k1 bel lt1) (trodAll_cons_mk (Below.trod laidOut (by kernel_rfl) (of_decide_eq_true (by kernel_rfl)) k2 bel lt2) trodAll_mk0))), rfl, bel.frame _, fun h => by cases h⟩

theorem marksOver : Rows.textrangeMarksRow.holds Tryz.pinned (OpenSpec.ofChange Rows.textrangeMarksSpec) :=
  OpenClaim.holds_of_wide 7 Tryz.f7 rfl rfl rfl rfl rfl rfl rfl ⟨rfl, rfl, rfl, rfl, rfl⟩ rfl rfl rfl rfl rfl (by kernel_rfl) Tryz.func7 (by kernel_rfl)
    (of_decide_eq_true (by kernel_rfl)) (by unfold Func.isWrapper; first | (rw [if_pos (by decide +kernel)]; kernel_rfl) | (rw [if_neg (by decide +kernel)]; exact ⟨rfl, rfl⟩))
    (fun os started H enc _ => marksLifted os started H enc)

/-- The statement. -/
theorem marks_proved : Rows.TextrangeMarksSaid := marksOver
#print axioms marks_proved
end Go.Proofs.YtkiepcknigbhpaaGreat
