/- The law ParagraphErrors. -/
import Derived.Test.YtamjkkpdopiofaaGreatPaVa4
import Derived.Test.YtamjkkpdopiofaaGreatPaGen3
import Derived.Test.YtamjkkpdopiofaaGreatPaW
namespace Go.Ab
open Go.Proofs
namespace Bi
/-- awake. -/
noncomputable def pE (f : FuncId) : Option Prim := if f = 11 then some (memoP t11) else none
theorem pE_none (f : FuncId) (h : Np5 f) : pE f = none := by
  unfold pE
  rw [if_neg]
  rintro rfl
  exact absurd h (by decide)
theorem pE_ok : ∀ f p, pE f = some p → PrimOK Tryz.prog f p := by
  intro f p h
  unfold pE at h
  split at h
  · rename_i hf
    cases h
    subst hf
    exact pk36 _ _ (by rw [show ps36 = (11, t11) :: ps35 from rfl]; exact List.mem_cons_self ..)
  · cases h
theorem awakeE (d : Nat) (cfg : Cfg) (h : Heap) : callM md (K pE (d + 1)) cfg 11 [] h = some (.bool true, h) := by kernel_rfl
theorem spn_len : ∀ s, (spnC s).length = 4 := fun _ => rfl
theorem fnt_len : ∀ s, (fntC s).length = 8 := fun _ => rfl
theorem spn_at0 {l : List Spn} {i : Nat} {s : Spn} (h : l[i]? = some s) {v : Int} : setS (l.flatMap spnC) (i * 4) (.int .i64 v) = (l.set i { s with f := v }).flatMap spnC := flat_set (k := 0) spn_len (by omega) h rfl
theorem spn_at1 {l : List Spn} {i : Nat} {s : Spn} (h : l[i]? = some s) {v : Int} : setS (l.flatMap spnC) (i * 4 + 1) (.int .i64 v) = (l.set i { s with t := v }).flatMap spnC := flat_set spn_len (by omega) h rfl
theorem spn_at2 {l : List Spn} {i : Nat} {s : Spn} (h : l[i]? = some s) {v : Int} : setS (l.flatMap spnC) (i * 4 + 2) (.int .i64 v) = (l.set i { s with n := v }).flatMap spnC := flat_set spn_len (by omega) h rfl
theorem spn_at3 {l : List Spn} {i : Nat} {s : Spn} (h : l[i]? = some s) {v : Int} : setS (l.flatMap spnC) (i * 4 + 3) (.int .i64 v) = (l.set i { s with z := v }).flatMap spnC := flat_set spn_len (by omega) h rfl
theorem fnt_at0 {l : List Fnt} {i : Nat} {s : Fnt} (h : l[i]? = some s) {v : Int} : setS (l.flatMap fntC) (i * 8) (.int .i64 v) = (l.set i { s with u := v }).flatMap fntC := flat_set (k := 0) fnt_len (by omega) h rfl
/-- The state of the law: the reader, the fonts, the paragraph and its spans. -/
structure ErS (H : Heap) (L : List Int) (bf bs bp k : Nat) (fs : List Fnt) (p : Par) : Prop where
  r : Rd H 0 L k
  f : blockOf H bf = some (fs.flatMap fntC)
  s : blockOf H bs = some (p.s.flatMap spnC)
  p : blockOf H bp = some (parV (.sl bs 0 p.s.length p.s.length 4) p)
  f0 : bf ≠ 0
  s0 : bs ≠ 0
  p0 : bp ≠ 0
  fs : bf ≠ bs
  fp : bf ≠ bp
  sp : bs ≠ bp
theorem isM_par {v : V} {p : Par} : isMap (parV v p) = false := rfl
theorem isM_spn {l : List Spn} : isMap (l.flatMap spnC) = false := by cases l <;> rfl
theorem isM_fnt {l : List Fnt} : isMap (l.flatMap fntC) = false := by cases l <;> rfl
theorem ErS.n {H : Heap} {L : List Int} {bf bs bp k k' : Nat} {fs : List Fnt} {p : Par} (g : ErS H L bf bs bp k fs p) (hk : k' ≤ L.length) : ErS (H.set 0 (some [il L, .int .i64 k'])) L bf bs bp k' fs p :=
  ⟨g.r.set hk, by rw [blockOf_set_ne' (Ne.symm g.f0)]; exact g.f, by rw [blockOf_set_ne' (Ne.symm g.s0)]; exact g.s, by rw [blockOf_set_ne' (Ne.symm g.p0)]; exact g.p, g.f0, g.s0, g.p0, g.fs, g.fp, g.sp⟩
theorem ErS.push {H : Heap} {L : List Int} {bf bs bp k : Nat} {fs : List Fnt} {p : Par} (g : ErS H L bf bs bp k fs p) (X : Heap) : ErS (H ++ X) L bf bs bp k fs p :=
  ⟨g.r.push X, by rw [blockOf_left (blockOf_lt g.f)]; exact g.f, by rw [blockOf_left (blockOf_lt g.s)]; exact g.s, by rw [blockOf_left (blockOf_lt g.p)]; exact g.p, g.f0, g.s0, g.p0, g.fs, g.fp, g.sp⟩
theorem ErS.setP {H : Heap} {L : List Int} {bf bs bp k : Nat} {fs : List Fnt} {p p' : Par} (g : ErS H L bf bs bp k fs p) (hs : p'.s = p.s) : ErS (H.set bp (some (parV (.sl bs 0 p.s.length p.s.length 4) p'))) L bf bs bp k fs p' := by
  have hl := blockOf_lt g.p
  refine ⟨⟨?_, g.r.le⟩, ?_, ?_, ?_, g.f0, g.s0, g.p0, g.fs, g.fp, g.sp⟩
  · rw [blockOf_set_ne' g.p0]; exact g.r.blk
  · rw [blockOf_set_ne' (Ne.symm g.fp)]; exact g.f
  · rw [blockOf_set_ne' (Ne.symm g.sp), hs]; exact g.s
  · rw [hs]; simp [hl, isM_par]
theorem ErS.setS {H : Heap} {L : List Int} {bf bs bp k : Nat} {fs : List Fnt} {p : Par} (g : ErS H L bf bs bp k fs p) (s' : List Spn) (hs : s'.length = p.s.length) : ErS (H.set bs (some (s'.flatMap spnC))) L bf bs bp k fs { p with s := s' } := by
  have hl := blockOf_lt g.s
  refine ⟨⟨?_, g.r.le⟩, ?_, ?_, ?_, g.f0, g.s0, g.p0, g.fs, g.fp, g.sp⟩
  · rw [blockOf_set_ne' g.s0]; exact g.r.blk
  · rw [blockOf_set_ne' (Ne.symm g.fs)]; exact g.f
  · simp [hl, isM_spn]
  · rw [blockOf_set_ne' g.sp, g.p]; simp [parV, hs]
theorem ErS.setF {H : Heap} {L : List Int} {bf bs bp k : Nat} {fs : List Fnt} {p : Par} (g : ErS H L bf bs bp k fs p) (f' : List Fnt) : ErS (H.set bf (some (f'.flatMap fntC))) L bf bs bp k f' p := by
  have hl := blockOf_lt g.f
  refine ⟨⟨?_, g.r.le⟩, ?_, ?_, ?_, g.f0, g.s0, g.p0, g.fs, g.fp, g.sp⟩
  · rw [blockOf_set_ne' g.f0]; exact g.r.blk
  · simp [hl, isM_fnt]
  · rw [blockOf_set_ne' g.fs]; exact g.s
  · rw [blockOf_set_ne' g.fp]; exact g.p
/-- What the two checks take, frozen. -/
theorem ErS.frz {H : Heap} {L : List Int} {bf bs bp k : Nat} {fs : List Fnt} {p : Par} (g : ErS H L bf bs bp k fs p) : [V.agg (parV (.sl bs 0 p.s.length p.s.length 4) p), .sl bf 0 fs.length fs.length 8].mapM (frzA H) = some [.agg (parC p), .lst (fs.map fntC)] := by
  have o1 : OwnC H 0 4 (.sl bs 0 p.s.length p.s.length 4) (p.s.flatMap spnC) := .inr ⟨bs, p.s.length, rfl, flat_len spn_len _, Nat.zero_le _, g.s⟩
  have o2 : OwnC H 0 8 (.sl bf 0 fs.length fs.length 8) (fs.flatMap fntC) := .inr ⟨bf, fs.length, rfl, flat_len fnt_len _, Nat.zero_le _, g.f⟩
  have e1 := OwnC.frzF (ho := o1) (f := spnC) (n := 4) (m := 0) (d := 3) (fun _ => rfl) (by omega) (Nat.zero_le _) (fun _ => rfl) (fun x c hc => by simp [spnC] at hc; rcases hc with rfl | rfl | rfl | rfl <;> simp)
  have e2 := OwnC.frzF (ho := o2) (f := fntC) (n := 8) (m := 0) (d := 4) (fun _ => rfl) (by omega) (Nat.zero_le _) (fun _ => rfl) (fun x c hc => by simp [fntC] at hc; rcases hc with rfl | rfl | rfl | rfl | rfl | rfl | rfl | rfl <;> simp)
  have e3 : frzA H (.sl bf 0 fs.length fs.length 8) = some (.lst (fs.map fntC)) := by unfold frzA; rw [e2]; rfl
  simp [parV, parC, e1, e3]
end Bi
end Go.Ab
