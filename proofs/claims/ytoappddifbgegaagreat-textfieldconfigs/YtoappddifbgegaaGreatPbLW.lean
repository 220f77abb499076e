/- The law TextfieldConfigs returns true for every input, and its arguments read behind the call as they read before. No condition. -/
import Derived.Test.YtoappddifbgegaaGreatPbL
import Derived.Test.YtoappddifbgegaaGreatPbX
import Derived.Test.YtoappddifbgegaaGreatRows
import Derived.WalkKit
import Derived.ProofKit
import Derived.OpenShut
import Derived.ShutString
import Derived.ChangeOld
import Derived.Below
import Derived.Lib.SmallJoins
set_option linter.all false
namespace Go.Proofs.YtoappddifbgegaaGreat
open Go.ChangeShapes Go.WideShapes Go.ChangeAt Go.RowKit
open Go.Ab (law_calls pw_cons pw_nil R noMu V)
set_option linter.unusedVariables false
theorem own : ownKnob Tryz.prog.godebug = none := by kernel_rfl
theorem laidOut : laidOutB Tryz.prog = true := by kernel_rfl
theorem lawWalk (c : Ab.Bi.ECf) (fs : List Ab.Bi.Fnt) (e : Ab.Bi.Edt) (t : List Int) (v0 v1 v2 v3 : Value) (w : World) (r0 : R noMu [] w (.agg (Ab.Bi.ecfC c)) v0) (r1 : R noMu [] w (.lst (fs.map Ab.Bi.fntC)) v1) (r2 : R noMu [] w (.agg (Ab.Bi.edC e)) v2) (r3 : R noMu [] w (Ab.Bi.rl t) v3) :
    Calls Tryz.prog 3 #[v0, v1, v2, v3] w fun e w' => e = .returned (.bool true) ∧ Below w.heap.size w w' := by
  obtain ⟨r, h', hx, rfl⟩ := Ab.Bi.cfg_ok 20 c fs e t
  exact law_calls (md := Ab.Bi.md) (n := 10000) Ab.Aw.hfol Ab.Aw.hnam Ab.Bi.pT_ok hx (pw_cons r0 (pw_cons r1 (pw_cons r2 (pw_cons r3 pw_nil))))
theorem sh23 : Ab.shOf Tryz.prog 14 23 = some Ab.Bi.shCfg := by kernel_rfl
theorem sh24 : Ab.shOf Tryz.prog 14 24 = some [.sl Ab.Bi.shFnt] := by kernel_rfl
theorem sh38 : Ab.shOf Tryz.prog 14 38 = some Ab.Bi.shEd := by kernel_rfl
theorem sh25 : Ab.shOf Tryz.prog 14 25 = some [.sl [.int .i32]] := by kernel_rfl
set_option maxRecDepth 100000 in
theorem lawLifted (os : Os) (started : os.Started) (H : Type) (enc : TypeId × Value → H) :
    ReturnsInHanded {} Tryz.checked os 3 .any (Rows.textfieldConfigsSpec.pre6 enc Tryz.prog Tryz.f3 Rows.textfieldConfigsRow.domain false) (Rows.textfieldConfigsSpec.post enc Tryz.prog Tryz.f3 false true false false) := by
  refine returnsInHanded_of_change (C := Tryz.checked) own started (by kernel_rfl) Tryz.func3
    (ChangeSpec.witness6 (enc := enc) (C := Tryz.checked) false ⟨#[], #[.agg #[.bool false, .bool false, .int .i64 0, .int .i64 0, .int .i64 0, .int .i64 0, .int .i64 0, .int .i64 0, .int .i64 0], .slice none 0 0, .agg #[.slice none 0 0, .slice none 0 0, .int .i64 0, .int .i64 0, .bool false, .bool false, .int .i64 0, .int .i64 0, .slice none 0 0, .slice none 0 0, .int .i64 0, .int .i64 0, .slice none 0 0, .slice none 0 0, .slice none 0 0, .bool false, .int .i64 0, .int .i64 0, .int .i64 0], .slice none 0 0], []⟩ 8 (by kernel_rfl) (by kernel_rfl) (by kernel_rfl) (by kernel_rfl)) ?_
  intro W base args ds gs before hval0 hW hcnd _
  have hval : ∀ (j : Nat) t v, Tryz.f3.params[j]? = some t → args[j]? = some v → Value.okWide Tryz.prog W .any base t v := hval0
  have hW' := hW
  obtain ⟨p, q, hA0, hV, rfl, hfz, hnd⟩ := hW
  have hA : DataW.TrodAll enc Tryz.prog W 0 (fun _ => true) true Tryz.f3.params.toList args.toList ds p := hA0
  rw [Tryz.params3] at hA hval
  obtain ⟨v0, vs0, d0, ds0, p0, q0, hargs, rfl, rfl, h0, r0⟩ := trodAll_cons hA
  obtain ⟨v1, vs1, d1, ds1, p1, q1, rfl, rfl, rfl, h1, r1⟩ := trodAll_cons r0
  obtain ⟨v2, vs2, d2, ds2, p2, q2, rfl, rfl, rfl, h2, r2⟩ := trodAll_cons r1
  obtain ⟨v3, vs3, d3, ds3, p3, q3, rfl, rfl, rfl, h3, r3⟩ := trodAll_cons r2
  obtain ⟨rfl, rfl, rfl⟩ := trodAll_nil r3
  obtain rfl : args = #[v0, v1, v2, v3] := by cases args; simp_all
  obtain ⟨rfl, rfl⟩ := trodVars_none hV
  obtain ⟨c0, rfl, -⟩ := okWide_struct Tryz.underlying23 (hval 0 23 v0 rfl rfl)
  obtain ⟨a1, len1, cap1, rfl⟩ := okWide_slice Tryz.underlying24 (hval 1 24 v1 rfl rfl)
  obtain ⟨c2, rfl, -⟩ := okWide_struct Tryz.underlying38 (hval 2 38 v2 rfl rfl)
  obtain ⟨a3, len3, cap3, rfl⟩ := okWide_slice Tryz.underlying25 (hval 3 25 v3 rfl rfl)
  have k0 := h0
  have k1 := h1
  have k2 := h2
  have k3 := h3
  have lt0 : ∀ x ∈ p0, x.block < W.heap.size := by obtain ⟨m, hm⟩ := k0; exact DataW.trod_lt m _ _ _ hm
  have lt1 : ∀ x ∈ p1, x.block < W.heap.size := by obtain ⟨m, hm⟩ := k1; exact DataW.trod_lt m _ _ _ hm
  have lt2 : ∀ x ∈ p2, x.block < W.heap.size := by obtain ⟨m, hm⟩ := k2; exact DataW.trod_lt m _ _ _ hm
  have lt3 : ∀ x ∈ p3, x.block < W.heap.size := by obtain ⟨m, hm⟩ := k3; exact DataW.trod_lt m _ _ _ hm
  obtain ⟨c, g0⟩ : ∃ c, R noMu [] W (.agg (Ab.Bi.ecfC c)) (.agg c0) := by
    obtain ⟨fuel, hf⟩ := h0
    obtain ⟨vs, hv⟩ := Ab.trod_sh 14 23 _ sh23 _ _ _ hf
    obtain ⟨c, rfl⟩ := Ab.Bi.of_cfg hv.vl
    exact ⟨c, by simpa [Value.cells] using hv.agg⟩
  obtain ⟨fs, g1⟩ : ∃ fs : List Ab.Bi.Fnt, R noMu [] W (.lst (fs.map Ab.Bi.fntC)) (.slice a1 len1 cap1) := by
    obtain ⟨fuel, hf⟩ := h1
    obtain ⟨vs, hv⟩ := Ab.trod_sh 14 24 _ sh24 _ _ _ hf
    obtain ⟨v, hs, hr⟩ := Ab.Bi.A3.one hv
    obtain ⟨fs, rfl⟩ := Ab.Bi.of_fnts hs
    exact ⟨fs, hr⟩
  obtain ⟨e, g2⟩ : ∃ e, R noMu [] W (.agg (Ab.Bi.edC e)) (.agg c2) := by
    obtain ⟨fuel, hf⟩ := h2
    obtain ⟨vs, hv⟩ := Ab.trod_sh 14 38 _ sh38 _ _ _ hf
    obtain ⟨e, rfl⟩ := Ab.Bi.of_ed hv.vl
    exact ⟨e, by simpa [Value.cells] using hv.agg⟩
  obtain ⟨t, g3⟩ : ∃ t, R noMu [] W (Ab.Bi.rl t) (.slice a3 len3 cap3) := by
    obtain ⟨fuel, hf⟩ := h3
    obtain ⟨vs, hv⟩ := Ab.trod_sh 14 25 _ sh25 _ _ _ hf
    obtain ⟨v, hs, hr⟩ := Ab.Bi.A3.one hv
    obtain ⟨t, rfl⟩ := Ab.Bi.of_rune hs
    exact ⟨t, hr⟩
  clear hA0 hval0
  refine (lawWalk c fs e t _ _ _ _ W g0 g1 g2 g3).mono fun e W' ⟨he, bel⟩ => ?_
  subst he
  exact ⟨_, rfl, _, _, _, [], _, [], hW', trodAll_mk1 (shut_bool Tryz.underlying4 _), (trodAll_cons_mk (Below.trod laidOut (by kernel_rfl) (of_decide_eq_true (by kernel_rfl)) k0 bel lt0) (trodAll_cons_mk (Below.trod laidOut (by kernel_rfl) (of_decide_eq_true (by kernel_rfl)) k1 bel lt1) (trodAll_cons_mk (Below.trod laidOut (by kernel_rfl) (of_decide_eq_true (by kernel_rfl)) k2 bel lt2) (trodAll_cons_mk (Below.trod laidOut (by kernel_rfl) (of_decide_eq_true (by kernel_rfl)) k3 bel lt3) trodAll_mk0)))), rfl, bel.frame _, fun h => by cases h⟩
theorem jf1 : (Rows.textfieldConfigsRow.wf (OpenSpec.ofChange Rows.textfieldConfigsSpec)) = true := by kernel_rfl
theorem jf2 : (laidOutB Tryz.prog) = true := by kernel_rfl
theorem jf3 : (mapsRowed Tryz.prog) = true := by kernel_rfl
theorem jf4 : (Tryz.f3.params.all (Tryz.prog.readableRec ·)) = true := by kernel_rfl
theorem jf5 : (namedTie Tryz.prog Rows.textfieldConfigsRow.named Rows.textfieldConfigsSpec.vars) = true := by kernel_rfl
theorem jf6 : ((Rows.textfieldConfigsRow.stops == [])) = true := by kernel_rfl
theorem jf7 : ((Tryz.prog.stops == [])) = true := by kernel_rfl
theorem jf8 : ((Rows.textfieldConfigsRow.knobs == [])) = true := by kernel_rfl
theorem jf9 : ((Tryz.prog.stopKnobs == [])) = true := by kernel_rfl
theorem jf10 : ((Rows.textfieldConfigsRow.inPlace == Tryz.prog.inPlace 3)) = true := by kernel_rfl
theorem jf11 : ((Rows.textfieldConfigsRow.unfollowed == Tryz.prog.unfollowed 3)) = true := by kernel_rfl
theorem jf12 : ((Rows.textfieldConfigsRow.recurses == Tryz.prog.recurses 3)) = true := by kernel_rfl
theorem jf13 : ((Rows.textfieldConfigsRow.named == Tryz.prog.varsNamed 3)) = true := by kernel_rfl
theorem jf14 : ((Rows.textfieldConfigsRow.maps == (Tryz.f3.params.toList ++ Rows.textfieldConfigsSpec.plain.varTypes Tryz.prog).any (Tryz.prog.mapsRec ·))) = true := by kernel_rfl
theorem jf15 : ((Rows.textfieldConfigsRow.ifaces == (Tryz.f3.params.toList ++ Rows.textfieldConfigsSpec.plain.varTypes Tryz.prog).any (Tryz.prog.ifacesRec ·))) = true := by kernel_rfl
theorem jf16 : ((Rows.textfieldConfigsRow.mapsOut == Tryz.prog.mapsAmong Tryz.f3.resultTypes.toList)) = true := by kernel_rfl
theorem jf17 : ((Rows.textfieldConfigsRow.loops == (Tryz.f3.params.toList ++ Rows.textfieldConfigsSpec.plain.varTypes Tryz.prog).any (Tryz.prog.loopsFrom ·))) = true := by kernel_rfl
theorem jf18 : ((Rows.textfieldConfigsRow.wideKeys == (Tryz.f3.params.toList ++ Rows.textfieldConfigsSpec.plain.varTypes Tryz.prog ++ Tryz.f3.resultTypes.toList).any (Tryz.prog.wideKeysFrom ·))) = true := by kernel_rfl
theorem jf19 : (Rows.textfieldConfigsSpec.vars.all (Tryz.prog.varReadable ·)) = true := by kernel_rfl
theorem jf20 : (Tryz.f3.resultTypes.all (fun t => Tryz.prog.readableRec t && decide (t < Tryz.prog.types.size))) = true := by kernel_rfl
theorem jf21 : ((Rows.textfieldConfigsRow.ifacesOut == Tryz.f3.resultTypes.toList.any (Tryz.prog.ifacesRec ·))) = true := by kernel_rfl
theorem jf22 : ((Rows.textfieldConfigsRow.loopsOut == Tryz.f3.resultTypes.toList.any (Tryz.prog.loopsFrom ·))) = true := by kernel_rfl
theorem jf23 : ((Rows.textfieldConfigsRow.plainKeys == Tryz.prog.plainKeys)) = true := by kernel_rfl
theorem jf24 : (Rows.textfieldConfigsRow.shortTexts.isNone) = true := by kernel_rfl
theorem jf25 : (Tryz.prog.stopsHeard) = true := by kernel_rfl
theorem jf26 : (Tryz.prog.mayEnter) = true := by kernel_rfl
theorem jf27 : ((Rows.textfieldConfigsRow.lifted == Tryz.prog.liftsFinal)) = true := by kernel_rfl
theorem jf28 : ((Tryz.prog.make == some Rows.textfieldConfigsRow.make)) = true := by kernel_rfl
theorem jf30 : ((Rows.textfieldConfigsRow.pinned == Rows.textfieldConfigsRow.pinnedBy)) = true := by kernel_rfl
theorem jf31 : ((Rows.textfieldConfigsRow.veiled == (Tryz.f3.params.toList ++ Rows.textfieldConfigsSpec.plain.varTypes Tryz.prog ++ Tryz.f3.resultTypes.toList).any (Tryz.prog.veiledRec ·))) = true := by kernel_rfl
theorem jf32 : (Rows.textfieldConfigsRow.veiledFits Tryz.prog Tryz.f3.params.toList (Tryz.f3.params.toList ++ Rows.textfieldConfigsSpec.plain.varTypes Tryz.prog ++ Tryz.f3.resultTypes.toList)) = true := by kernel_rfl
theorem closed : joinedFacts Tryz.prog 3 Tryz.f3 Rows.textfieldConfigsSpec Rows.textfieldConfigsRow = true := by
  unfold joinedFacts
  simp only [Bool.and_eq_true]
  refine ⟨⟨⟨⟨⟨⟨⟨⟨⟨⟨⟨⟨⟨⟨⟨⟨⟨⟨⟨⟨⟨⟨⟨⟨⟨⟨⟨⟨⟨⟨⟨?_, ?_⟩, ?_⟩, ?_⟩, ?_⟩, ?_⟩, ?_⟩, ?_⟩, ?_⟩, ?_⟩, ?_⟩, ?_⟩, ?_⟩, ?_⟩, ?_⟩, ?_⟩, ?_⟩, ?_⟩, ?_⟩, ?_⟩, ?_⟩, ?_⟩, ?_⟩, ?_⟩, ?_⟩, ?_⟩, ?_⟩, ?_⟩, ?_⟩, ?_⟩, ?_⟩, ?_⟩
  · exact jf1
  · exact jf2
  · exact jf3
  · exact jf4
  · exact jf5
  · exact jf6
  · exact jf7
  · exact jf8
  · exact jf9
  · exact jf10
  · exact jf11
  · exact jf12
  · exact jf13
  · exact jf14
  · exact jf15
  · exact jf16
  · exact jf17
  · exact jf18
  · exact jf19
  · exact jf20
  · exact jf21
  · exact jf22
  · exact jf23
  · exact jf24
  · exact jf25
  · exact jf26
  · exact jf27
  · exact jf28
  · kernel_rfl
  · exact jf30
  · exact jf31
  · exact jf32
theorem lawOver : Rows.textfieldConfigsRow.holds Tryz.pinned (OpenSpec.ofChange Rows.textfieldConfigsSpec) :=
  OpenClaim.holds_of_wide 3 Tryz.f3 rfl rfl rfl rfl rfl rfl rfl ⟨rfl, rfl, rfl, rfl, rfl⟩ rfl rfl rfl rfl rfl (by kernel_rfl) Tryz.func3 closed
    (of_decide_eq_true (by kernel_rfl)) (by unfold Func.isWrapper; first | (rw [if_pos (by decide +kernel)]; kernel_rfl) | (rw [if_neg (by decide +kernel)]; exact ⟨rfl, rfl⟩))
    (fun os started H enc _ => lawLifted os started H enc)
theorem configs_proved : Rows.TextfieldConfigsSaid := lawOver
#print axioms configs_proved
end Go.Proofs.YtoappddifbgegaaGreat
