/- The neutral and implicit rules: the program. -/
import Derived.Test.YtcedojbifnangaaBiK
import Derived.Test.YtcedojbifnangaaBiSpec3
namespace Go.Ab
open Go.Proofs
namespace Bi
theorem app_at' {dn td : List Int} {x : Int} : (dn ++ x :: td)[dn.length]? = some x := by simp
section
variable {prim : FuncId → Option Prim} (d : Nat) (cfg : Cfg) (h : Heap)
theorem strong_ok (hp : prim 59 = none) (x : Int) (hx : 0 ≤ x) : callM md (K prim (d + 1)) cfg 59 [.int .i64 x] h = some (.int .i64 (strS x), h) := by
  refine call0 rfl hp Try.func59 rfl rfl rfl (by simp) ?_
  have m1 : x.tmod 2 = x % 2 := Int.tmod_eq_emod_of_nonneg hx
  unfold strS
  by_cases h0 : x % 2 = 1 <;> simp [m1, h0]
theorem direction_ok (hp : prim 61 = none) (x : Int) : callM md (K prim (d + 1)) cfg 61 [.int .i64 x] h = some (.int .i64 (dirS x), h) := by
  refine call0 rfl hp Try.func61 rfl rfl rfl (by simp) ?_
  unfold dirS
  by_cases h0 : x = 0
  · simp [h0]
  · by_cases h1 : x = 1
    · simp [h1]
    · by_cases h3 : x = 3
      · simp [h3]
      · by_cases h6 : x = 6
        · simp [h6]
        · simp [h0, h1, h3, h6]
theorem neutral_ok (hp : prim 62 = none) (hp2 : prim 53 = none) (x : Int) : callM md (K prim (d + 2)) cfg 62 [.int .i64 x] h = some (.bool (neutB x), h) := by
  refine call0 rfl hp Try.func62 rfl rfl rfl (by simp) ?_
  have hI := fun cfg h x => ini_ok (prim := prim) d cfg h hp2 x
  unfold neutB
  by_cases h10 : x = 10
  · simp [h10]
  · by_cases h11 : x = 11
    · simp [h11]
    · by_cases h12 : x = 12
      · simp [h12]
      · by_cases h13 : x = 13
        · simp [h13]
        · by_cases h22 : x = 22
          · simp [h22]
          · simp [h10, h11, h12, h13, h22, hI]

set_option maxRecDepth 100000 in
set_option maxHeartbeats 8000000 in
theorem implicit_ok (hp : prim 35 = none) (t o M : List Int) (n : Nat) (e : Int) (c l : List Int) (hn : c.length = n) (hn2 : n ≤ 2000) (hl : Pl n l) (y2 : List Int) (hy : y2.length = n) (hll : l.length ≤ 2000) (T : Heap) (lv st en : Int) (hlv : 0 ≤ lv ∧ lv ≤ 1000) (hyr : ∀ i ∈ l, 0 ≤ lvl y2 i ∧ lvl y2 i ≤ 100000) (q : Nat) :
    ∃ y', WB y2 l (impL lv (l.map (lvl y2)) (l.map (lvl c))) y' ∧ callM md (K prim (d + 1)) ⟨0, none, q⟩ 35 [.ptr 3 0, .agg [il l, .int .i64 lv, .int .i64 st, .int .i64 en]] (none :: some (c.map (V.int .i64)) :: some (y2.map (V.int .i64)) :: some (pcs t o M n e) :: T) =
      some (.tup [], none :: some (c.map (V.int .i64)) :: some (y'.map (V.int .i64)) :: some (pcs t o M n e) :: T) := by
  suffices H : ∃ r h2, callM md (K prim (d + 1)) ⟨0, none, q⟩ 35 [.ptr 3 0, .agg [il l, .int .i64 lv, .int .i64 st, .int .i64 en]] (none :: some (c.map (V.int .i64)) :: some (y2.map (V.int .i64)) :: some (pcs t o M n e) :: T) = some (r, h2) ∧
      ∃ y', r = .tup [] ∧ h2 = (none :: some (c.map (V.int .i64)) :: some (y'.map (V.int .i64)) :: some (pcs t o M n e) :: T) ∧ WB y2 l (impL lv (l.map (lvl y2)) (l.map (lvl c))) y' by
    obtain ⟨r, h2, h3, c', rfl, rfl, h4⟩ := H
    exact ⟨c', h4, h3⟩
  refine call1x rfl hp Try.func35 rfl rfl rfl ?_
  have b4 : ∀ x T', isMap x = false → blockOf (T ++ some x :: T') T.length = some x := fun x T' hx => by
    have := blockOf_len_add (h := T) (r := some x :: T') (k := 0)
    simp [hx]
  have hW0 : WB y2 l (l.map (lvl y2)) y2 := WB.start (by rw [hy]; exact hl)
  have hWc : WB c l (l.map (lvl c)) c := WB.start (by rw [hn]; exact hl)
  have hu0 : ∀ a ∈ l.map (lvl y2), 0 ≤ a ∧ a ≤ 100000 := by
    intro a ha
    obtain ⟨i, hi, rfl⟩ := List.mem_map.1 ha
    exact hyr i hi
  generalize hus : l.map (lvl y2) = u at *
  generalize hss : l.map (lvl c) = s at *
  have husl := hW0.sl
  have hssl := hWc.sl
  have m1 : lv.tmod 2 = lv % 2 := Int.tmod_eq_emod_of_nonneg hlv.1
  simp (disch := omega)
  refine wC_loop (fun m fr H => ∃ (dn td sd y' : List Int), m = td.length ∧ impL lv u s = dn ++ impL lv td sd ∧ sd = s.drop dn.length ∧ (∀ a ∈ td, 0 ≤ a ∧ a ≤ 100000) ∧ WB y2 l (dn ++ td) y' ∧ H = none :: some (c.map (V.int .i64)) :: some (y'.map (V.int .i64)) :: some (pcs t o M n e) :: (T ++ [some [il l, .int .i64 lv, .int .i64 st, .int .i64 en]]) ∧ Slots 88 [(0, .ptr 3 0), (3, .ptr (T.length + 1 + 1 + 1 + 1) 0), (8, il l), (9, .int .i64 l.length), (10, .int .i64 dn.length)] fr) (m := u.length) (by omega) ⟨[], u, s, y2, rfl, rfl, rfl, hu0, hW0, rfl, by simp⟩ ?_
  rintro m fr H ⟨dn, td, sd, y', rfl, hF, hsd, hur, hW, rfl, hs⟩
  obtain ⟨j, rfl⟩ := hs.ex
  clear hs
  have hlen : dn.length + td.length = l.length := by have := hW.sl; simpa using this
  rcases td with _ | ⟨a, td⟩
  · have hlen' : dn.length = l.length := by simpa using hlen
    have hdn : impL lv u s = dn := by
      rw [hF]
      cases sd <;> simp [impL]
    simp [hlen']
    rw [hdn]
    simp at hW
    exact ⟨y', rfl, hW⟩
  · have hlt : dn.length < l.length := by simp at hlen; omega
    obtain ⟨i, hi, hin⟩ := hl.at_ hlt
    have hc := hW.at_ _ i hi
    rw [app_at', Int.toNat_natCast] at hc
    obtain ⟨x, hx⟩ : ∃ x, s[dn.length]? = some x := ⟨_, List.getElem?_eq_getElem (by omega)⟩
    have hcc := hWc.at_ _ i hi
    rw [hx, Int.toNat_natCast] at hcc
    have hyl := hW.len
    have hle : i + 1 ≤ y'.length := by omega
    have ha := hur a (List.mem_cons_self ..)
    have hir := impS_rng lv x
    have hsd2 : sd = x :: s.drop (dn.length + 1) := by rw [hsd]; exact drop_at hx
    rw [hsd2, impL] at hF
    have step : ∀ z, WB y2 l ((dn ++ [z]) ++ td) (y'.set i z) := by
      intro z
      have := hW.set (by rw [hy]; exact hl) hi z
      rw [set_app] at this
      simpa using this
    have same : y'.set i a = y' := by
      obtain ⟨h1, h2⟩ := List.getElem?_eq_some_iff.1 hc
      rw [← h2, List.set_getElem_self]
    have fin : ∀ z, impS lv x = z → impL lv u s = (dn ++ [a + z]) ++ impL lv td (s.drop (dn ++ [a + z]).length) := by
      rintro z rfl
      rw [hF]
      simp
    have hur' : ∀ b ∈ td, 0 ≤ b ∧ b ≤ 100000 := fun b hb => hur b (List.mem_cons_of_mem _ hb)
    have hpar : lv % 2 = 0 ∨ lv % 2 = 1 := by omega
    rcases hpar with hp0 | hp0
    · by_cases x1 : x = 1
      · have hz : impS lv x = 1 := by unfold impS; rw [if_pos ⟨hp0, x1⟩]
        simp (disch := omega) [hlt, hi, hc, hcc, hle, hp0, m1, x1, wrap64, -getElem?_pos]
        exact Rnd_of (m' := td.length) (by simp) ⟨dn ++ [a + 1], td, _, y'.set i (a + 1), rfl, fin 1 hz, rfl, hur', step _, by simp, by simp (disch := omega)⟩
      · by_cases x6 : x = 6
        · have hz : impS lv x = 2 := by unfold impS; rw [if_neg (fun h => x1 h.2), if_pos ⟨hp0, .inl x6⟩]
          simp (disch := omega) [hlt, hi, hc, hcc, hle, hp0, m1, x6, wrap64, -getElem?_pos]
          exact Rnd_of (m' := td.length) (by simp) ⟨dn ++ [a + 2], td, _, y'.set i (a + 2), rfl, fin 2 hz, rfl, hur', step _, by simp, by simp (disch := omega)⟩
        · by_cases x3 : x = 3
          · have hz : impS lv x = 2 := by unfold impS; rw [if_neg (fun h => x1 h.2), if_pos ⟨hp0, .inr x3⟩]
            simp (disch := omega) [hlt, hi, hc, hcc, hle, hp0, m1, x3, wrap64, -getElem?_pos]
            exact Rnd_of (m' := td.length) (by simp) ⟨dn ++ [a + 2], td, _, y'.set i (a + 2), rfl, fin 2 hz, rfl, hur', step _, by simp, by simp (disch := omega)⟩
          · have hz : impS lv x = 0 := by unfold impS; rw [if_neg (fun h => x1 h.2), if_neg (by omega), if_neg (by omega)]
            have st0 := step (a + 0)
            rw [Int.add_zero, same] at st0
            simp (disch := omega) [hlt, hi, hcc, hp0, m1, x1, x6, x3, wrap64, -getElem?_pos]
            exact Rnd_of (m' := td.length) (by simp) ⟨dn ++ [a], td, _, y', rfl, by have := fin 0 hz; rwa [Int.add_zero] at this, rfl, hur', st0, rfl, by simp (disch := omega)⟩
    · have n0 : ¬ lv % 2 = 0 := by omega
      by_cases x0 : x = 0 ∨ x = 3 ∨ x = 6
      · have hz : impS lv x = 1 := by unfold impS; rw [if_neg (fun h => n0 h.1), if_neg (fun h => n0 h.1), if_pos ⟨hp0, x0⟩]
        rcases x0 with x0 | x0 | x0
        all_goals
          simp (disch := omega) [hlt, hi, hc, hcc, hle, hp0, m1, x0, wrap64, -getElem?_pos]
          exact Rnd_of (m' := td.length) (by simp) ⟨dn ++ [a + 1], td, _, y'.set i (a + 1), rfl, fin 1 hz, rfl, hur', step _, by simp, by simp (disch := omega)⟩
      · have hz : impS lv x = 0 := by unfold impS; rw [if_neg (fun h => n0 h.1), if_neg (fun h => n0 h.1), if_neg (fun h => x0 h.2)]
        simp only [not_or] at x0
        have st0 := step (a + 0)
        rw [Int.add_zero, same] at st0
        simp (disch := omega) [hlt, hi, hcc, hp0, m1, x0, wrap64, -getElem?_pos]
        exact Rnd_of (m' := td.length) (by simp) ⟨dn ++ [a], td, _, y', rfl, by have := fin 0 hz; rwa [Int.add_zero] at this, rfl, hur', st0, rfl, by simp (disch := omega)⟩
set_option maxRecDepth 100000 in
set_option maxHeartbeats 8000000 in
theorem neutrals_ok (hp : ∀ f, f ≠ 17 ∧ f ≠ 82 → prim f = none) (t o M : List Int) (n : Nat) (e : Int) (c l : List Int) (hn : c.length = n) (hn2 : n ≤ 2000) (hl : Pl n l) (hll : l.length ≤ 2000) (y2 : List Int) (T : Heap) (lv st en : Int) (hlv : 0 ≤ lv ∧ lv ≤ 1000) (q : Nat) :
    ∃ c', WB c l (neuS (strS lv) en st 0 (l.map (lvl c))) c' ∧ callM md (K prim (d + 3)) ⟨0, none, q⟩ 34 [.ptr 3 0, .agg [il l, .int .i64 lv, .int .i64 st, .int .i64 en]] (none :: some (c.map (V.int .i64)) :: some (y2.map (V.int .i64)) :: some (pcs t o M n e) :: T) =
      some (.tup [], none :: some (c'.map (V.int .i64)) :: some (y2.map (V.int .i64)) :: some (pcs t o M n e) :: T) := by
  suffices H : ∃ r h2, callM md (K prim (d + 3)) ⟨0, none, q⟩ 34 [.ptr 3 0, .agg [il l, .int .i64 lv, .int .i64 st, .int .i64 en]] (none :: some (c.map (V.int .i64)) :: some (y2.map (V.int .i64)) :: some (pcs t o M n e) :: T) = some (r, h2) ∧
      ∃ c', r = .tup [] ∧ h2 = (none :: some (c'.map (V.int .i64)) :: some (y2.map (V.int .i64)) :: some (pcs t o M n e) :: T) ∧ WB c l (neuS (strS lv) en st 0 (l.map (lvl c))) c' by
    obtain ⟨r, h2, h3, c', rfl, rfl, h4⟩ := H
    exact ⟨c', h4, h3⟩
  refine call1x rfl (hp 34 (by decide)) Try.func34 rfl rfl rfl ?_
  have b4 : ∀ x T', isMap x = false → blockOf (T ++ some x :: T') T.length = some x := fun x T' hx => by
    have := blockOf_len_add (h := T) (r := some x :: T') (k := 0)
    simp [hx]
  have hNe := fun cfg h x => neutral_ok (prim := prim) d cfg h (hp 62 (by decide)) (hp 53 (by decide)) x
  have hDi := fun cfg h x => direction_ok (prim := prim) (d + 1) cfg h (hp 61 (by decide)) x
  have hSt := fun cfg h => strong_ok (prim := prim) (d + 1) cfg h (hp 59 (by decide)) lv hlv.1
  have hW0 : WB c l (l.map (lvl c)) c := WB.start (by rw [hn]; exact hl)
  generalize hss : l.map (lvl c) = s0 at *
  have hsl0 := hW0.sl
  have hm61 : md 61 = 0 := rfl
  generalize strS lv = D at *
  simp (disch := omega)
  refine wC_loop (fun m fr H => ∃ (dn td c' : List Int) (b : Int), m = td.length ∧ neuS D en st 0 s0 = dn ++ neuS D en b 0 td ∧ WB c l (dn ++ td) c' ∧ H = none :: some (c'.map (V.int .i64)) :: some (y2.map (V.int .i64)) :: some (pcs t o M n e) :: (T ++ [some [il l, .int .i64 lv, .int .i64 st, .int .i64 en]]) ∧ Slots 101 [(0, .ptr 3 0), (3, .ptr (T.length + 1 + 1 + 1 + 1) 0), (4, .int .i64 b), (5, .int .i64 dn.length)] fr) (m := s0.length) (by omega) ⟨[], s0, c, st, rfl, rfl, hW0, rfl, by simp⟩ ?_
  rintro m fr H ⟨dn, td, c', b, rfl, hF, hW, rfl, hs⟩
  obtain ⟨j, rfl⟩ := hs.ex
  clear hs
  have hlen : dn.length + td.length = l.length := by have := hW.sl; simpa using this
  rcases td with _ | ⟨x, td⟩
  · have hlen' : dn.length = l.length := by simpa using hlen
    simp [neuS] at hF
    simp [hlen']
    rw [hF]
    simp at hW
    exact ⟨c', rfl, hW⟩
  · have hlt : dn.length < l.length := by simp at hlen; omega
    obtain ⟨i, hi, hin⟩ := hl.at_ hlt
    have hc := hW.at_ _ i hi
    rw [app_at', Int.toNat_natCast] at hc
    have hcl := hW.len
    simp only [List.length_cons] at hlen
    simp (disch := omega) [hlt]
    refine wC_draw 9 (by kernel_rfl) ?_
    simp (disch := omega) [hi, hc, hNe, -getElem?_pos]
    cases hnx : neutB x
    · have hF5 : neuS D en b 0 (x :: td) = x :: neuS D en (dirS x) 0 td := by simp [neuS, hnx]
      rw [hF5] at hF
      simp (disch := omega) [hDi, wrap64]
      exact Rnd_of (m' := td.length) (by simp) ⟨dn ++ [x], td, c', dirS x, rfl, by rw [hF]; simp, by simpa using hW, rfl, by simp (disch := omega)⟩
    · simp (disch := omega)
      refine wC_loop (fun m fr H => ∃ (run rest : List Int), x :: td = run ++ rest ∧ (∀ y ∈ run, neutB y = true) ∧ m = rest.length ∧ H = none :: some (c'.map (V.int .i64)) :: some (y2.map (V.int .i64)) :: some (pcs t o M n e) :: (T ++ [some [il l, .int .i64 lv, .int .i64 st, .int .i64 en]]) ∧ Slots 101 [(0, .ptr 3 0), (3, .ptr (T.length + 1 + 1 + 1 + 1) 0), (4, .int .i64 b), (5, .int .i64 dn.length), (7, .int .i64 (dn.length + run.length : Nat))] fr) (m := td.length + 1) (by omega) ⟨[], x :: td, rfl, by simp, rfl, rfl, by simp⟩ ?_
      rintro m fr H ⟨run, rest, htd, hrun, rfl, rfl, hs⟩
      obtain ⟨j, rfl⟩ := hs.ex
      clear hs
      have hkl : run.length + rest.length = td.length + 1 := by have := congrArg List.length htd; simp at this; omega
      have hc2 : ((dn.length : Int) + run.length).toNat = dn.length + run.length := by omega
      have hcont : (∃ y r', rest = y :: r' ∧ neutB y = true) ∨ ((∀ y r', rest = y :: r' → neutB y = false) ∧ 0 < run.length) := by
        rcases rest with _ | ⟨y, r'⟩
        · exact .inr ⟨fun y r' h => by simp at h, by simp at hkl; omega⟩
        · cases hy : neutB y
          · refine .inr ⟨fun y' r'' h => by cases h; exact hy, ?_⟩
            rcases run with _ | ⟨z, run⟩
            · simp at htd; rw [htd.1] at hnx; rw [hnx] at hy; cases hy
            · simp
          · exact .inl ⟨y, r', rfl, hy⟩
      have hat : ∀ y r', rest = y :: r' → ∃ i2 : Nat, l[dn.length + run.length]? = some (i2 : Int) ∧ i2 < n ∧ c'[i2]? = some y ∧ (dn.length : Int) + run.length < l.length := by
        rintro y r' rfl
        simp only [List.length_cons] at hkl
        obtain ⟨i2, hi2, hin2⟩ := hl.at_ (k := dn.length + run.length) (by omega)
        have hcc := hW.at_ _ i2 hi2
        rw [htd, List.getElem?_append_right (by omega), Nat.add_sub_cancel_left, List.getElem?_append_right (Nat.le_refl _), Int.toNat_natCast] at hcc
        simp at hcc
        exact ⟨i2, hi2, hin2, hcc, by omega⟩
      rcases hcont with ⟨y, r', hr, hy⟩ | ⟨hstop, hr0⟩
      · obtain ⟨i2, hi2, hin2, hcc, hlt2⟩ := hat y r' hr
        subst hr
        simp (disch := omega)
        refine wC_draw 15 (by kernel_rfl) ?_
        simp (disch := omega) [hlt2, hc2, hi2, hcc, hNe, hy, wrap64, -getElem?_pos]
        refine Rnd_of (m' := r'.length) (by simp) ⟨run ++ [y], r', by rw [htd]; simp, ?_, rfl, rfl, by simp (disch := omega); omega⟩
        intro z hz
        rcases List.mem_append.1 hz with hz | hz
        · exact hrun z hz
        · simp at hz; subst hz; exact hy
      · have hF2 : neuS D en b 0 (x :: td) = List.replicate run.length (if b = aft en rest then b else D) ++ neuS D en b 0 rest := by
          rw [htd, neu_run D en b run 0 rest hrun, Nat.zero_add, neu_end D en b b _ rest hstop]
        rw [hF2] at hF
        clear hF2
        rcases rest with _ | ⟨y, r'⟩
        · have nlt : ¬ (dn.length : Int) + run.length < l.length := by simp at hkl; omega
          simp at hkl
          simp (disch := omega)
          refine wC_draw 15 (by kernel_rfl) ?_
          simp (disch := omega) [nlt, hSt]
          by_cases hb : b = aft en []
          · rw [if_pos hb] at hF
            have hb : b = en := hb
            rw [hb] at hF
            simp (disch := omega) [hb]
            refine wC_loop (fun m fr H => ∃ (q : Nat) (c' : List Int), q ≤ run.length ∧ m = run.length - q ∧ WB c l (dn ++ (List.replicate q (en) ++ run.drop q) ++ []) c' ∧ H = none :: some (c'.map (V.int .i64)) :: some (y2.map (V.int .i64)) :: some (pcs t o M n e) :: (T ++ [some [il l, .int .i64 lv, .int .i64 st, .int .i64 en]]) ∧ Slots 101 [(0, .ptr 3 0), (3, .ptr (T.length + 1 + 1 + 1 + 1) 0), (4, .int .i64 (en)), (5, .int .i64 (dn.length + q : Nat)), (7, .int .i64 (dn.length + run.length : Nat)), (9, .int .i64 (en))] fr) (m := run.length) (by omega) ⟨0, c', by omega, by omega, by rw [htd] at hW; simpa using hW, rfl, by simp⟩ ?_
            rintro m fr H ⟨q, c', hq, rfl, hWq, rfl, hs⟩
            obtain ⟨j, rfl⟩ := hs.ex
            clear hs
            by_cases hqk : q < run.length
            · obtain ⟨z, hz⟩ : ∃ z, run[q]? = some z := ⟨_, List.getElem?_eq_getElem hqk⟩
              obtain ⟨i, hi, hin⟩ := hl.at_ (k := dn.length + q) (by omega)
              have hcl := hWq.len
              have hle : i + 1 ≤ c'.length := by omega
              have hst := hWq.set (by rw [hn]; exact hl) hi (en)
              have e1 : dn ++ (List.replicate q (en) ++ run.drop q) ++ [] = (dn ++ List.replicate q (en)) ++ z :: (run.drop (q + 1) ++ []) := by rw [drop_at hz]; simp
              have e2 : dn.length + q = (dn ++ List.replicate q (en)).length := by simp
              rw [e1] at hst
              conv at hst => lhs; rw [e2]
              rw [set_app] at hst
              have hlt2 : (dn.length : Int) + q < (dn.length : Int) + run.length := by omega
              have hq2 : ((dn.length : Int) + q).toNat = dn.length + q := by omega
              simp (disch := omega) [hlt2, -getElem?_pos]
              refine wC_draw 10 (by kernel_rfl) ?_
              simp (disch := omega) [hq2, hi, hle, wrap64, -getElem?_pos]
              refine Rnd_of (m' := run.length - (q + 1)) (by omega) ⟨q + 1, c'.set i ((en)), by omega, rfl, ?_, by simp, by simp (disch := omega); try omega⟩
              rw [List.replicate_succ']
              simpa using hst
            · obtain rfl : q = run.length := by omega
              simp (disch := omega) [wrap64]
              rw [List.drop_length, List.append_nil] at hWq
              refine Rnd_of (m' := ([]).length) (by simp <;> omega) ⟨dn ++ List.replicate run.length (en), [], c', (en), rfl, by rw [hF]; simp, by simpa using hWq, rfl, by simp (disch := omega)⟩
          · rw [if_neg hb] at hF
            have hb : ¬ b = en := hb
            simp (disch := omega) [hb]
            refine wC_loop (fun m fr H => ∃ (q : Nat) (c' : List Int), q ≤ run.length ∧ m = run.length - q ∧ WB c l (dn ++ (List.replicate q D ++ run.drop q) ++ []) c' ∧ H = none :: some (c'.map (V.int .i64)) :: some (y2.map (V.int .i64)) :: some (pcs t o M n e) :: (T ++ [some [il l, .int .i64 lv, .int .i64 st, .int .i64 en]]) ∧ Slots 101 [(0, .ptr 3 0), (3, .ptr (T.length + 1 + 1 + 1 + 1) 0), (4, .int .i64 b), (5, .int .i64 (dn.length + q : Nat)), (7, .int .i64 (dn.length + run.length : Nat)), (9, .int .i64 D)] fr) (m := run.length) (by omega) ⟨0, c', by omega, by omega, by rw [htd] at hW; simpa using hW, rfl, by simp⟩ ?_
            rintro m fr H ⟨q, c', hq, rfl, hWq, rfl, hs⟩
            obtain ⟨j, rfl⟩ := hs.ex
            clear hs
            by_cases hqk : q < run.length
            · obtain ⟨z, hz⟩ : ∃ z, run[q]? = some z := ⟨_, List.getElem?_eq_getElem hqk⟩
              obtain ⟨i, hi, hin⟩ := hl.at_ (k := dn.length + q) (by omega)
              have hcl := hWq.len
              have hle : i + 1 ≤ c'.length := by omega
              have hst := hWq.set (by rw [hn]; exact hl) hi D
              have e1 : dn ++ (List.replicate q D ++ run.drop q) ++ [] = (dn ++ List.replicate q D) ++ z :: (run.drop (q + 1) ++ []) := by rw [drop_at hz]; simp
              have e2 : dn.length + q = (dn ++ List.replicate q D).length := by simp
              rw [e1] at hst
              conv at hst => lhs; rw [e2]
              rw [set_app] at hst
              have hlt2 : (dn.length : Int) + q < (dn.length : Int) + run.length := by omega
              have hq2 : ((dn.length : Int) + q).toNat = dn.length + q := by omega
              simp (disch := omega) [hlt2, -getElem?_pos]
              refine wC_draw 10 (by kernel_rfl) ?_
              simp (disch := omega) [hq2, hi, hle, wrap64, -getElem?_pos]
              refine Rnd_of (m' := run.length - (q + 1)) (by omega) ⟨q + 1, c'.set i (D), by omega, rfl, ?_, by simp, by simp (disch := omega); try omega⟩
              rw [List.replicate_succ']
              simpa using hst
            · obtain rfl : q = run.length := by omega
              simp (disch := omega) [wrap64]
              rw [List.drop_length, List.append_nil] at hWq
              refine Rnd_of (m' := ([]).length) (by simp <;> omega) ⟨dn ++ List.replicate run.length D, [], c', b, rfl, by rw [hF]; simp, by simpa using hWq, rfl, by simp (disch := omega)⟩
        · obtain ⟨i2, hi2, hin2, hcc, hlt2⟩ := hat y r' rfl
          have hy := hstop y r' rfl
          simp at hkl
          simp (disch := omega)
          refine wC_draw 15 (by kernel_rfl) ?_
          simp (disch := omega) [hlt2, hc2, hi2, hcc, hNe, hy, -getElem?_pos]
          refine wC_draw 9 (by kernel_rfl) ?_
          simp (disch := omega) [hc2, hi2, hcc, hDi, hSt, -getElem?_pos]
          by_cases hb : b = aft en (y :: r')
          · rw [if_pos hb] at hF
            have hb : b = dirS y := hb
            rw [hb] at hF
            simp (disch := omega) [hb]
            refine wC_loop (fun m fr H => ∃ (q : Nat) (c' : List Int), q ≤ run.length ∧ m = run.length - q ∧ WB c l (dn ++ (List.replicate q (dirS y) ++ run.drop q) ++ (y :: r')) c' ∧ H = none :: some (c'.map (V.int .i64)) :: some (y2.map (V.int .i64)) :: some (pcs t o M n e) :: (T ++ [some [il l, .int .i64 lv, .int .i64 st, .int .i64 en]]) ∧ Slots 101 [(0, .ptr 3 0), (3, .ptr (T.length + 1 + 1 + 1 + 1) 0), (4, .int .i64 (dirS y)), (5, .int .i64 (dn.length + q : Nat)), (7, .int .i64 (dn.length + run.length : Nat)), (9, .int .i64 (dirS y))] fr) (m := run.length) (by omega) ⟨0, c', by omega, by omega, by rw [htd] at hW; simpa using hW, rfl, by simp⟩ ?_
            rintro m fr H ⟨q, c', hq, rfl, hWq, rfl, hs⟩
            obtain ⟨j, rfl⟩ := hs.ex
            clear hs
            by_cases hqk : q < run.length
            · obtain ⟨z, hz⟩ : ∃ z, run[q]? = some z := ⟨_, List.getElem?_eq_getElem hqk⟩
              obtain ⟨i, hi, hin⟩ := hl.at_ (k := dn.length + q) (by omega)
              have hcl := hWq.len
              have hle : i + 1 ≤ c'.length := by omega
              have hst := hWq.set (by rw [hn]; exact hl) hi (dirS y)
              have e1 : dn ++ (List.replicate q (dirS y) ++ run.drop q) ++ (y :: r') = (dn ++ List.replicate q (dirS y)) ++ z :: (run.drop (q + 1) ++ (y :: r')) := by rw [drop_at hz]; simp
              have e2 : dn.length + q = (dn ++ List.replicate q (dirS y)).length := by simp
              rw [e1] at hst
              conv at hst => lhs; rw [e2]
              rw [set_app] at hst
              have hlt2 : (dn.length : Int) + q < (dn.length : Int) + run.length := by omega
              have hq2 : ((dn.length : Int) + q).toNat = dn.length + q := by omega
              simp (disch := omega) [hlt2, -getElem?_pos]
              refine wC_draw 10 (by kernel_rfl) ?_
              simp (disch := omega) [hq2, hi, hle, wrap64, -getElem?_pos]
              refine Rnd_of (m' := run.length - (q + 1)) (by omega) ⟨q + 1, c'.set i ((dirS y)), by omega, rfl, ?_, by simp, by simp (disch := omega); try omega⟩
              rw [List.replicate_succ']
              simpa using hst
            · obtain rfl : q = run.length := by omega
              simp (disch := omega) [wrap64]
              rw [List.drop_length, List.append_nil] at hWq
              refine Rnd_of (m' := ((y :: r')).length) (by simp <;> omega) ⟨dn ++ List.replicate run.length (dirS y), (y :: r'), c', (dirS y), rfl, by rw [hF]; simp, by simpa using hWq, rfl, by simp (disch := omega)⟩
          · rw [if_neg hb] at hF
            have hb : ¬ b = dirS y := hb
            simp (disch := omega) [hb]
            refine wC_loop (fun m fr H => ∃ (q : Nat) (c' : List Int), q ≤ run.length ∧ m = run.length - q ∧ WB c l (dn ++ (List.replicate q D ++ run.drop q) ++ (y :: r')) c' ∧ H = none :: some (c'.map (V.int .i64)) :: some (y2.map (V.int .i64)) :: some (pcs t o M n e) :: (T ++ [some [il l, .int .i64 lv, .int .i64 st, .int .i64 en]]) ∧ Slots 101 [(0, .ptr 3 0), (3, .ptr (T.length + 1 + 1 + 1 + 1) 0), (4, .int .i64 b), (5, .int .i64 (dn.length + q : Nat)), (7, .int .i64 (dn.length + run.length : Nat)), (9, .int .i64 D)] fr) (m := run.length) (by omega) ⟨0, c', by omega, by omega, by rw [htd] at hW; simpa using hW, rfl, by simp⟩ ?_
            rintro m fr H ⟨q, c', hq, rfl, hWq, rfl, hs⟩
            obtain ⟨j, rfl⟩ := hs.ex
            clear hs
            by_cases hqk : q < run.length
            · obtain ⟨z, hz⟩ : ∃ z, run[q]? = some z := ⟨_, List.getElem?_eq_getElem hqk⟩
              obtain ⟨i, hi, hin⟩ := hl.at_ (k := dn.length + q) (by omega)
              have hcl := hWq.len
              have hle : i + 1 ≤ c'.length := by omega
              have hst := hWq.set (by rw [hn]; exact hl) hi D
              have e1 : dn ++ (List.replicate q D ++ run.drop q) ++ (y :: r') = (dn ++ List.replicate q D) ++ z :: (run.drop (q + 1) ++ (y :: r')) := by rw [drop_at hz]; simp
              have e2 : dn.length + q = (dn ++ List.replicate q D).length := by simp
              rw [e1] at hst
              conv at hst => lhs; rw [e2]
              rw [set_app] at hst
              have hlt2 : (dn.length : Int) + q < (dn.length : Int) + run.length := by omega
              have hq2 : ((dn.length : Int) + q).toNat = dn.length + q := by omega
              simp (disch := omega) [hlt2, -getElem?_pos]
              refine wC_draw 10 (by kernel_rfl) ?_
              simp (disch := omega) [hq2, hi, hle, wrap64, -getElem?_pos]
              refine Rnd_of (m' := run.length - (q + 1)) (by omega) ⟨q + 1, c'.set i (D), by omega, rfl, ?_, by simp, by simp (disch := omega); try omega⟩
              rw [List.replicate_succ']
              simpa using hst
            · obtain rfl : q = run.length := by omega
              simp (disch := omega) [wrap64]
              rw [List.drop_length, List.append_nil] at hWq
              refine Rnd_of (m' := ((y :: r')).length) (by simp <;> omega) ⟨dn ++ List.replicate run.length D, (y :: r'), c', b, rfl, by rw [hF]; simp, by simpa using hWq, rfl, by simp (disch := omega)⟩
end
end Bi
end Go.Ab
