/- Several texts of this proof in one. -/
import Derived.Test.YtcedojbifnangaaBiF2
import Derived.Test.YtcedojbifnangaaBiLev
import Derived.Test.YtcedojbifnangaaBiLev0
import Derived.Test.YtcedojbifnangaaBiSpec3
import Derived.Test.YtcedojbifnangaaBiDis
import Derived.Test.YtcedojbifnangaaBiSpec4
/- The reference's classes of runes: a chain of tests. -/
namespace Go.Ab
open Go.Proofs
namespace Bi
/-- The reference's table: up to which rune, and the classes. -/
def refTbl : List (Int × List Int) := [(-1, [0, 0, 0, 0, 0]), (8, [3, 0, 7, 9, 0]), (9, [3, 0, 10, 11, 0]), (10, [2, 1, 3, 10, 0]), (11, [3, 1, 1, 11, 0]), (12, [3, 1, 1, 12, 0]), (13, [1, 1, 2, 10, 0]), (31, [3, 0, 7, 9, 0]), (32, [0, 2, 4, 12, 0]), (33, [0, 0, 15, 13, 0]), (34, [0, 0, 14, 13, 0]), (37, [0, 0, 0, 5, 0]), (38, [0, 0, 0, 13, 0]), (39, [0, 7, 14, 13, 0]), (40, [0, 0, 12, 13, 0]), (41, [0, 0, 13, 13, 0]), (42, [0, 0, 0, 13, 0]), (43, [0, 0, 0, 4, 0]), (44, [0, 6, 16, 7, 0]), (45, [0, 0, 11, 4, 0]), (46, [0, 7, 16, 7, 0]), (47, [0, 0, 10, 7, 0]), (57, [0, 4, 17, 3, 0]), (58, [0, 5, 16, 7, 0]), (59, [0, 6, 16, 13, 0]), (62, [0, 0, 0, 13, 0]), (63, [0, 0, 15, 13, 0]), (64, [0, 0, 0, 13, 0]), (90, [0, 3, 0, 0, 0]), (91, [0, 0, 12, 13, 0]), (92, [0, 0, 0, 13, 0]), (93, [0, 0, 13, 13, 0]), (94, [0, 0, 0, 13, 0]), (95, [0, 8, 0, 13, 0]), (96, [0, 0, 0, 13, 0]), (122, [0, 3, 0, 0, 0]), (123, [0, 0, 12, 13, 0]), (124, [0, 0, 10, 13, 0]), (125, [0, 0, 13, 13, 0]), (126, [0, 0, 0, 13, 0]), (132, [3, 0, 7, 9, 0]), (133, [3, 1, 1, 10, 0]), (159, [3, 0, 7, 9, 0]), (160, [0, 0, 9, 7, 0]), (161, [0, 0, 12, 13, 0]), (165, [0, 0, 0, 5, 0]), (169, [0, 0, 0, 13, 0]), (170, [0, 3, 0, 0, 0]), (171, [0, 0, 14, 13, 0]), (172, [0, 0, 0, 13, 0]), (173, [3, 10, 10, 9, 4]), (180, [0, 0, 0, 13, 0]), (181, [0, 3, 0, 0, 0]), (182, [0, 0, 0, 13, 0]), (183, [0, 5, 0, 13, 0]), (185, [0, 0, 0, 13, 0]), (186, [0, 3, 0, 0, 0]), (187, [0, 0, 14, 13, 0]), (191, [0, 0, 0, 13, 0]), (767, [0, 3, 0, 0, 0]), (879, [4, 10, 7, 8, 4]), (1423, [0, 3, 0, 0, 0]), (1469, [4, 10, 7, 8, 4]), (1470, [0, 0, 10, 1, 0]), (1479, [4, 10, 7, 8, 4]), (1487, [0, 0, 0, 0, 0]), (1514, [0, 3, 0, 1, 0]), (1535, [0, 0, 0, 0, 0]), (1541, [7, 0, 0, 6, 0]), (1547, [0, 0, 0, 0, 0]), (1548, [0, 6, 16, 7, 0]), (1551, [0, 0, 0, 0, 0]), (1562, [4, 10, 7, 8, 4]), (1563, [0, 0, 15, 2, 0]), (1564, [3, 10, 7, 2, 4]), (1566, [0, 0, 0, 0, 0]), (1567, [0, 0, 15, 2, 0]), (1568, [0, 3, 0, 2, 2]), (1569, [0, 3, 0, 2, 0]), (1573, [0, 3, 0, 2, 1]), (1574, [0, 3, 0, 2, 2]), (1575, [0, 3, 0, 2, 1]), (1576, [0, 3, 0, 2, 2]), (1577, [0, 3, 0, 2, 1]), (1582, [0, 3, 0, 2, 2]), (1586, [0, 3, 0, 2, 1]), (1599, [0, 3, 0, 2, 2]), (1600, [0, 3, 0, 2, 3]), (1607, [0, 3, 0, 2, 2]), (1608, [0, 3, 0, 2, 1]), (1610, [0, 3, 0, 2, 2]), (1631, [4, 10, 7, 8, 4]), (1641, [0, 4, 17, 6, 0]), (1642, [0, 0, 0, 5, 0]), (1644, [0, 6, 16, 6, 0]), (1647, [0, 0, 0, 0, 0]), (1648, [4, 10, 7, 8, 4]), (1655, [0, 3, 0, 2, 1]), (1671, [0, 3, 0, 2, 2]), (1689, [0, 3, 0, 2, 1]), (1727, [0, 3, 0, 2, 2]), (1739, [0, 3, 0, 2, 1]), (1747, [0, 3, 0, 2, 2]), (1749, [0, 0, 0, 0, 0]), (1756, [4, 10, 7, 8, 4]), (1775, [0, 0, 0, 0, 0]), (1785, [0, 4, 17, 3, 0]), (2303, [0, 0, 0, 0, 0]), (2306, [4, 10, 7, 8, 0]), (2307, [8, 10, 7, 0, 0]), (2361, [0, 3, 0, 0, 0]), (2363, [0, 0, 0, 0, 0]), (2364, [4, 10, 7, 8, 0]), (2365, [0, 0, 0, 0, 0]), (2368, [8, 10, 7, 0, 0]), (2376, [4, 10, 7, 8, 0]), (2380, [8, 10, 7, 0, 0]), (2381, [4, 10, 7, 8, 0]), (2405, [0, 0, 0, 0, 0]), (2415, [0, 4, 17, 0, 0]), (4351, [0, 0, 0, 0, 0]), (4447, [9, 3, 18, 0, 0]), (4519, [10, 3, 18, 0, 0]), (4607, [11, 3, 18, 0, 0]), (8191, [0, 0, 0, 0, 0]), (8198, [0, 2, 10, 12, 0]), (8199, [0, 0, 9, 12, 0]), (8202, [0, 2, 10, 12, 0]), (8203, [3, 0, 5, 9, 0]), (8204, [4, 10, 7, 9, 0]), (8205, [5, 11, 6, 9, 3]), (8206, [3, 10, 7, 0, 4]), (8207, [3, 10, 7, 1, 4]), (8208, [0, 0, 10, 13, 0]), (8209, [0, 0, 9, 13, 0]), (8212, [0, 0, 10, 13, 0]), (8215, [0, 0, 0, 13, 0]), (8216, [0, 0, 14, 13, 0]), (8217, [0, 7, 14, 13, 0]), (8218, [0, 0, 12, 13, 0]), (8219, [0, 0, 0, 0, 0]), (8221, [0, 0, 14, 13, 0]), (8231, [0, 0, 0, 0, 0]), (8232, [3, 1, 1, 12, 0]), (8233, [3, 1, 1, 10, 0]), (8234, [3, 10, 7, 14, 4]), (8235, [3, 10, 7, 16, 4]), (8236, [3, 10, 7, 18, 4]), (8237, [3, 10, 7, 15, 4]), (8238, [3, 10, 7, 17, 4]), (8239, [0, 0, 0, 0, 0]), (8244, [0, 0, 0, 5, 0]), (8254, [0, 0, 0, 0, 0]), (8256, [0, 8, 0, 13, 0]), (8287, [0, 0, 0, 0, 0]), (8288, [3, 10, 8, 9, 4]), (8293, [0, 0, 0, 0, 0]), (8294, [3, 10, 7, 19, 0]), (8295, [3, 10, 7, 20, 0]), (8296, [3, 10, 7, 21, 0]), (8297, [3, 10, 7, 22, 0]), (8351, [0, 0, 0, 0, 0]), (8399, [0, 0, 0, 5, 0]), (8432, [4, 10, 7, 8, 4]), (8591, [0, 0, 0, 0, 0]), (8959, [0, 0, 0, 13, 0]), (9727, [0, 0, 0, 0, 0]), (10175, [14, 0, 18, 13, 0]), (12287, [0, 0, 0, 0, 0]), (12288, [0, 2, 10, 12, 0]), (12290, [0, 0, 13, 13, 0]), (12292, [0, 0, 0, 0, 0]), (12295, [0, 0, 18, 0, 0]), (12296, [0, 0, 12, 13, 0]), (12297, [0, 0, 13, 13, 0]), (12298, [0, 0, 12, 13, 0]), (12299, [0, 0, 13, 13, 0]), (12300, [0, 0, 12, 13, 0]), (12301, [0, 0, 13, 13, 0]), (12302, [0, 0, 12, 13, 0]), (12303, [0, 0, 13, 13, 0]), (12304, [0, 0, 12, 13, 0]), (12305, [0, 0, 13, 13, 0]), (12352, [0, 0, 0, 0, 0]), (12438, [0, 0, 18, 0, 0]), (12440, [0, 0, 0, 0, 0]), (12442, [4, 10, 7, 8, 4]), (12448, [0, 0, 0, 0, 0]), (12538, [0, 9, 18, 0, 0]), (12539, [0, 0, 0, 0, 0]), (12540, [0, 9, 18, 0, 0]), (13311, [0, 0, 0, 0, 0]), (40959, [0, 0, 18, 0, 0]), (64284, [0, 0, 0, 0, 0]), (64335, [0, 3, 0, 1, 0]), (65023, [0, 3, 0, 2, 0]), (65039, [4, 10, 7, 8, 4]), (65135, [0, 0, 0, 0, 0]), (65276, [0, 3, 0, 2, 0]), (65278, [0, 0, 0, 0, 0]), (65279, [3, 10, 8, 9, 4]), (127461, [0, 0, 0, 0, 0]), (127487, [6, 12, 19, 0, 0]), (127743, [0, 0, 0, 0, 0]), (127994, [14, 0, 18, 13, 0]), (127999, [4, 10, 7, 13, 4]), (129791, [14, 0, 18, 13, 0]), (131071, [0, 0, 0, 0, 0]), (262141, [0, 0, 18, 0, 0]), (917759, [0, 0, 0, 0, 0]), (917999, [4, 10, 7, 8, 4])]
def intsOf : List V → Option (List Int)
  | [] => some []
  | .int .i64 n :: r => (intsOf r).map (n :: ·)
  | _ => none
def constB : List (Nat × Operand) → Bool
  | [] => true
  | (_, .const _) :: r => constB r
  | _ => false
noncomputable def rowInts (ps : List (Nat × Operand)) : Option (List Int) :=
  if constB ps then match evParts [] ps with
    | some vs => match buildV Try.prog 88 vs with
      | some (.agg cs) => intsOf cs
      | _ => none
    | none => none
  else none
/-- One test of the chain. -/
def bndOf (op : BinOp) (n : Int) : Option Int := match op with
  | .leq => some n
  | .lss => some (n - 1)
  | _ => none
def okT (a : Nat) : Bool := decide (3 ≤ a) && decide (a < 862)
theorem okT_iff {a : Nat} (h : okT a = true) : 3 ≤ a ∧ a < 862 := by
  unfold okT at h
  rw [Bool.and_eq_true, decide_eq_true_eq, decide_eq_true_eq] at h
  exact h
noncomputable def lk : Code → Option (Int × List Int × Code)
  | .seq (.region _ o1 false) (.cond (.tmp c) (.seq (.region _ o2 false) .ret) rest) =>
    match o1.toList, o2.toList with
    | [⟨some a, .move (.tmp 0), _, _, _, none⟩, ⟨some b, .binOp op 21 (.tmp a') (.const (.int .i32 n)) _, _, _, _, none⟩, ⟨some c', .assign (.tmp b'), _, _, _, none⟩], [⟨some e, .build 88 ps, _, _, _, none⟩, ⟨none, .store 88 (.tmp 2) (.tmp e'), _, _, _, none⟩] =>
      if a = a' ∧ b = b' ∧ c = c' ∧ e = e' ∧ okT a = true ∧ okT b = true ∧ okT c = true ∧ okT e = true then match bndOf op n, rowInts ps.toList with
        | some m, some l => if l.length = 5 then some (m, l, rest) else none
        | _, _ => none
      else none
    | _, _ => none
  | _ => none
theorem evParts_const {fr : List V} : ∀ {ps : List (Nat × Operand)}, constB ps = true → evParts fr ps = evParts [] ps
  | [], _ => rfl
  | (i, .const v) :: r, h => by
    have ih := evParts_const (fr := fr) (ps := r) h
    simp only [evParts, ev, ih]
  | (_, .tmp _) :: _, h => by simp [constB] at h
  | (_, .global _) :: _, h => by simp [constB] at h
  | (_, .func _) :: _, h => by simp [constB] at h
theorem intsOf_some : ∀ {cs : List V} {l : List Int}, intsOf cs = some l → cs = l.map (V.int .i64)
  | [], l, h => by simp [intsOf] at h; subst h; rfl
  | c :: r, l, h => by
    unfold intsOf at h
    split at h
    · rename_i heq; cases heq
    · rename_i n r' heq
      cases heq
      obtain ⟨l', h1, rfl⟩ := Option.map_eq_some_iff.1 h
      rw [intsOf_some h1]
      rfl
    · cases h
theorem rowInts_some {ps : List (Nat × Operand)} {l : List Int} (h : rowInts ps = some l) (fr : List V) : ∃ vs, evParts fr ps = some vs ∧ buildV Try.prog 88 vs = some (.agg (l.map (V.int .i64))) := by
  unfold rowInts at h
  split at h
  · rename_i hc
    rw [← evParts_const (fr := fr) hc] at h
    split at h
    · rename_i vs hv
      split at h
      · rename_i cs hb
        rw [intsOf_some h] at hb
        exact ⟨vs, hv, hb⟩
      · cases h
    · cases h
  · cases h
section
variable {md' : FuncId → Nat} {call : Callf} {cfg : Cfg} {n : Nat}
theorem put_self {fr : List V} {a : Nat} {v : V} (h : a < fr.length) : (put fr (some a) v)[a]? = some v := by
  simp only [put]
  rw [List.getElem?_set_self h]
theorem put_ne {fr : List V} {a k : Nat} {v : V} (h : a ≠ k) : (put fr (some a) v)[k]? = fr[k]? := by
  simp only [put]
  rw [List.getElem?_set_ne h]
theorem put_len {fr : List V} {a : Nat} {v : V} : (put fr (some a) v).length = fr.length := by simp [put]
theorem size88 : szOf Try.prog 88 = some 5 := by kernel_rfl
theorem lk_ok {C rest : Code} {m r : Int} {l : List Int} (hl : lk C = some (m, l, rest)) {fr : List V} {z : List V} {Q : Kont} (hz : z.length = 5) (hzm : isMap z = false) (hf : fr.length = 862) (h0 : fr[0]? = some (.int .i32 r)) (h2 : fr[2]? = some (.ptr 0 0)) (hw : cfg.wr 0 = true)
    (hy : r ≤ m → ∀ fr' : List V, fr'[2]? = some (.ptr 0 0) → Q .ret fr' [some (l.map (V.int .i64))])
    (hn : m < r → ∀ fr' : List V, fr'.length = 862 → fr'[0]? = some (.int .i32 r) → fr'[2]? = some (.ptr 0 0) → @wC Try.prog md' call cfg n ⟨rest⟩ fr' [some z] ⟨Q⟩) :
    @wC Try.prog md' call cfg n ⟨C⟩ fr [some z] ⟨Q⟩ := by
  unfold lk at hl
  split at hl
  · rename_i i1 o1 c i2 o2 rest'
    split at hl
    · rename_i a t1 p1 f1 b op a' m' g t2 p2 f2 c' b' t3 p3 f3 e ps t4 p4 f4 e' t5 p5 f5 ho1 ho2
      split at hl
      · rename_i hc
        obtain ⟨rfl, rfl, rfl, rfl, ha, hb, hcc, he⟩ := hc
        obtain ⟨a, rfl⟩ : ∃ x : Nat, a = x := ⟨a, rfl⟩
        obtain ⟨b, rfl⟩ : ∃ x : Nat, b = x := ⟨b, rfl⟩
        obtain ⟨c, rfl⟩ : ∃ x : Nat, c = x := ⟨c, rfl⟩
        obtain ⟨e, rfl⟩ : ∃ x : Nat, e = x := ⟨e, rfl⟩
        have ha := okT_iff ha
        have hb := okT_iff hb
        have hcc := okT_iff hcc
        have he := okT_iff he
        split at hl
        · rename_i m2 l2 hbd hr
          split at hl
          · rename_i hl5
            cases hl
            obtain ⟨vs, hv1, hv2⟩ := rowInts_some hr (put (put (put fr (some a) (.int .i32 r)) (some b) (.bool (decide (r ≤ m)))) (some c) (.bool (decide (r ≤ m))))
            have hbin : binV Try.prog op 21 (.int .i32 r) (.int .i32 m') = some (.bool (decide (r ≤ m))) := by
              unfold bndOf at hbd
              split at hbd
              · cases hbd; simp [binV, intBin]
              · cases hbd
                have hlt : decide (r < m') = decide (r ≤ m' - 1) := by rw [decide_eq_decide]; omega
                simp [binV, intBin, hlt]
              · cases hbd
            obtain ⟨F, hF⟩ : ∃ F, F = put (put (put fr (some a) (.int .i32 r)) (some b) (.bool (decide (r ≤ m)))) (some c) (.bool (decide (r ≤ m))) := ⟨_, rfl⟩
            rw [← hF] at hv1
            have hFl : F.length = 862 := by rw [hF, put_len, put_len, put_len]; exact hf
            have hF0 : F[0]? = some (.int .i32 r) := by rw [hF, put_ne (by omega), put_ne (by omega), put_ne (by omega)]; exact h0
            have hF2 : F[2]? = some (.ptr 0 0) := by rw [hF, put_ne (by omega), put_ne (by omega), put_ne (by omega)]; exact h2
            have hFc : F[c]? = some (.bool (decide (r ≤ m))) := by rw [hF, put_self (by rw [put_len, put_len]; omega)]
            have hrun : runOps Try.prog md' call cfg o1 o1.toList fr [some z] = some (F, [some z]) := by
              rw [ho1]
              have e1 : ev (put fr (some a) (.int .i32 r)) (.tmp a) = some (.int .i32 r) := put_self (by omega)
              have e2 : ev (put (put fr (some a) (.int .i32 r)) (some b) (.bool (decide (r ≤ m)))) (.tmp b) = some (.bool (decide (r ≤ m))) := put_self (by rw [put_len]; omega)
              have e0 : ev fr (.tmp 0) = some (.int .i32 r) := h0
              have hcst : ∀ fr, ev fr (.const (.int .i32 m')) = some (.int .i32 m') := fun _ => rfl
              simp only [runOps, stepOp, wantd, opEv, opV, e0, Option.map_some, e1, hcst, hbin, e2, hF]
            have hF3 : ev F (.tmp c) = some (.bool (decide (r ≤ m))) := hFc
            by_cases hrm : r ≤ m
            · have hrun2 : runOps Try.prog md' call cfg o2 o2.toList F [some z] = some (put F (some e) (.agg (l.map (V.int .i64))), [some (l.map (V.int .i64))]) := by
                rw [ho2]
                have e3 : ev (put F (some e) (.agg (l.map (V.int .i64)))) (.tmp 2) = some (.ptr 0 0) := by
                  show (put F (some e) _)[2]? = _
                  rw [put_ne (by omega)]
                  exact hF2
                have e4 : ev (put F (some e) (.agg (l.map (V.int .i64)))) (.tmp e) = some (.agg (l.map (V.int .i64))) := put_self (by omega)
                have hcl : cellsOf (.agg (l.map (V.int .i64))) = some (l.map (V.int .i64)) := by
                  show (if (l.map (V.int .i64)).all V.leaf = true then some (l.map (V.int .i64)) else none) = _
                  rw [if_pos]
                  rw [List.all_eq_true]
                  intro x hx
                  obtain ⟨y, _, rfl⟩ := List.mem_map.1 hx
                  rfl
                have hrf : (l.map (V.int .i64)).all V.rf = true := by simp
                have hst : storeV Try.prog cfg [some z] 88 (.ptr 0 0) (.agg (l.map (V.int .i64))) = some [some (l.map (V.int .i64))] := by
                  rw [store_eq size88, hcl, stv_some, if_pos (by simpa using hl5), storeCells_eq]
                  have hb : blockOf [some z] 0 = some z := by simp [blockOf, hzm]
                  rw [hb]
                  simp only [Option.bind_some, hw, hrf, Bool.or_true, Bool.and_true, List.length_map, hl5, hz, Nat.zero_add, Nat.le_refl, decide_true, if_true]
                  rw [putAt_all (l.map (V.int .i64)) z (by simp [hz, hl5])]
                  rfl
                simp only [runOps, stepOp, wantd, opEv, opV, hv1, hv2, Option.map_some, e3, e4, hst]
                rfl
              refine ⟨(.ret, put F (some e) (.agg (l.map (V.int .i64))), [some (l.map (V.int .i64))]), ?_, hy hrm _ ?_⟩
              · simp only [code, hrun, hF3, hrm, decide_true, hrun2]
              · show (put F (some e) _)[2]? = _
                rw [put_ne (by omega)]
                exact hF2
            · obtain ⟨st, h3, h4⟩ := hn (by omega) F hFl hF0 hF2
              refine ⟨st, ?_, h4⟩
              simp only [code, hrun, hF3, hrm, decide_false]
              exact h3
          · cases hl
        · cases hl
      · cases hl
    · cases hl
  · cases hl
/-- The chain is this table. -/
noncomputable def chk : List (Int × List Int) → Code → Option Code
  | [], c => some c
  | (m, l) :: t, c => match lk c with
    | some (m', l', rest) => if m = m' ∧ l = l' then chk t rest else none
    | none => none
def look : List (Int × List Int) → Int → Option (List Int)
  | [], _ => none
  | (m, l) :: t, r => if r ≤ m then some l else look t r
theorem chk_ok : ∀ {t : List (Int × List Int)} {C rest : Code} {r : Int} {fr : List V} {z : List V} {Q : Kont}, chk t C = some rest → z.length = 5 → isMap z = false → fr.length = 862 → fr[0]? = some (.int .i32 r) → fr[2]? = some (.ptr 0 0) → cfg.wr 0 = true →
    (∀ l, look t r = some l → ∀ fr' : List V, fr'[2]? = some (.ptr 0 0) → Q .ret fr' [some (l.map (V.int .i64))]) →
    (look t r = none → ∀ fr' : List V, fr'.length = 862 → fr'[0]? = some (.int .i32 r) → fr'[2]? = some (.ptr 0 0) → @wC Try.prog md' call cfg n ⟨rest⟩ fr' [some z] ⟨Q⟩) →
    @wC Try.prog md' call cfg n ⟨C⟩ fr [some z] ⟨Q⟩
  | [], C, rest, r, fr, z, Q, h, _, _, hf, h0, h2, _, _, hn => by
    simp only [chk, Option.some.injEq] at h
    subst h
    exact hn rfl fr hf h0 h2
  | (m, l) :: t, C, rest, r, fr, z, Q, h, hz, hzm, hf, h0, h2, hw, hy, hn => by
    unfold chk at h
    split at h
    · rename_i m' l' rest' hl
      split at h
      · rename_i he
        obtain ⟨rfl, rfl⟩ := he
        refine lk_ok hl hz hzm hf h0 h2 hw (fun hr fr' hfr => hy l (by unfold look; rw [if_pos hr]) fr' hfr) ?_
        intro hr fr' g1 g2 g3
        have hlk : look ((m, l) :: t) r = look t r := by
          show (if r ≤ m then some l else look t r) = _
          rw [if_neg (by omega)]
        rw [hlk] at hy hn
        exact chk_ok h hz hzm g1 g2 g3 hw hy hn
      · cases h
    · cases h
end
noncomputable def ch71 : Code := match Try.f71.body with
  | some (.seq _ (.seq _ (.seq (.block _ c) _))) => c
  | _ => .skip
theorem ch71_ok : chk refTbl ch71 = some .skip := by kernel_rfl
theorem look_mem : ∀ {t : List (Int × List Int)} {r : Int} {l : List Int}, look t r = some l → ∃ m, (m, l) ∈ t
  | [], _, _, h => by simp [look] at h
  | (m, l') :: t, r, l, h => by
    unfold look at h
    split at h
    · cases h; exact ⟨m, List.mem_cons_self ..⟩
    · obtain ⟨m', h2⟩ := look_mem h
      exact ⟨m', List.mem_cons_of_mem _ h2⟩
theorem look_len {r : Int} {l : List Int} (h : look refTbl r = some l) : l.length = 5 := by
  obtain ⟨m, hm⟩ := look_mem h
  have ha : refTbl.all (fun x => decide (x.2.length = 5)) = true := by kernel_rfl
  have := List.all_eq_true.1 ha _ hm
  simpa using this
theorem mapM_five {h : Heap} {l : List Int} (h5 : l.length = 5) : List.mapM (frz h 0 5 ∘ V.int .i64) l = some (l.map (V.int .i64)) := by
  rcases l with _ | ⟨a, _ | ⟨b, _ | ⟨c, _ | ⟨e, _ | ⟨f, _ | ⟨g, l⟩⟩⟩⟩⟩⟩ <;> first | rfl | (simp at h5; done)
def refRow (r : Int) : List Int :=
  if 44032 ≤ r ∧ r ≤ 55203 then (if (r - 44032).tmod 28 = 0 then [12, 3, 18, 0, 0] else [13, 3, 18, 0, 0])
  else (look refTbl r).getD [0, 0, 0, 0, 0]
section
variable {prim : FuncId → Option Prim} (d : Nat) (cfg : Cfg) (h : Heap)
set_option maxRecDepth 100000 in
theorem rfind_ok (hp : prim 71 = none) (r : Int) : callM md (K prim (d + 1)) cfg 71 [.int .i32 r] h = some (.agg ((refRow r).map (V.int .i64)), h) := by
  refine call0 (c := Code.seq _ (Code.seq _ (Code.seq (Code.block 0 ch71) _))) rfl hp Try.func71 rfl rfl rfl (by simp) ?_
  have hz88 : zeroOf Try.prog 88 = some (.agg [.int .i64 0, .int .i64 0, .int .i64 0, .int .i64 0, .int .i64 0]) := by kernel_rfl
  by_cases h1 : 44032 ≤ r
  · by_cases h2 : r ≤ 55203
    · have hw : IntKind.i32.wrap (r - 44032) = r - 44032 := wrap32 (by omega) (by omega)
      have hR : refRow r = if (r - 44032).tmod 28 = 0 then [12, 3, 18, 0, 0] else [13, 3, 18, 0, 0] := by unfold refRow; rw [if_pos ⟨h1, h2⟩]
      by_cases h3 : (r - 44032).tmod 28 = 0
      · rw [if_pos h3] at hR
        simp (disch := omega) [h1, h2, hw, h3, hR]
      · rw [if_neg h3] at hR
        simp (disch := omega) [h1, h2, hw, h3, hR]
    · simp (disch := omega) [h1, h2]
      refine chk_ok ch71_ok rfl rfl rfl rfl rfl rfl (fun l hl fr' hf => ?_) (fun hl fr' g1 g2 g3 => ?_)
      · have hl5 := look_len hl
        have hR : refRow r = l := by unfold refRow; rw [if_neg (by omega), hl]; rfl
        rw [hR]
        have hs2 : slot fr' 2 = some (.ptr 0 0) := hf
        have htk : List.take 5 (l.map (V.int .i64)) = l.map (V.int .i64) := List.take_of_length_le (by simp [hl5])
        simp [hs2, hl5, htk]
        exact mapM_five hl5
      · have hR : refRow r = [0, 0, 0, 0, 0] := by unfold refRow; rw [if_neg (by omega), hl]; rfl
        rw [hR]
        have hsn : ∀ v, slot (setS fr' 861 v) 2 = some (.ptr 0 0) := fun v => by rw [slot, setS, List.getElem?_set_ne (by omega)]; exact g3
        have hse : ∀ v, slot (setS fr' 861 v) 861 = some v := fun v => by rw [slot, setS, List.getElem?_set_self (by omega)]
        simp [hsn, hse]
  · simp (disch := omega) [h1]
    refine chk_ok ch71_ok rfl rfl rfl rfl rfl rfl (fun l hl fr' hf => ?_) (fun hl fr' g1 g2 g3 => ?_)
    · have hl5 := look_len hl
      have hR : refRow r = l := by unfold refRow; rw [if_neg (by omega), hl]; rfl
      rw [hR]
      have hs2 : slot fr' 2 = some (.ptr 0 0) := hf
      have htk : List.take 5 (l.map (V.int .i64)) = l.map (V.int .i64) := List.take_of_length_le (by simp [hl5])
      simp [hs2, hl5, htk]
      exact mapM_five hl5
    · have hR : refRow r = [0, 0, 0, 0, 0] := by unfold refRow; rw [if_neg (by omega), hl]; rfl
      rw [hR]
      have hsn : ∀ v, slot (setS fr' 861 v) 2 = some (.ptr 0 0) := fun v => by rw [slot, setS, List.getElem?_set_ne (by omega)]; exact g3
      have hse : ∀ v, slot (setS fr' 861 v) 861 = some v := fun v => by rw [slot, setS, List.getElem?_set_self (by omega)]
      simp [hsn, hse]
end
end Bi
end Go.Ab
/- The reference's classes are the program's. -/
namespace Go.Ab
open Go.Proofs
namespace Bi
def bidiN (r : Int) : Int := (if r ≤ 161 then searchS tab1 r else if r ≤ 1642 then searchS tab2 r else if r ≤ 8237 then searchS tab3 r else searchS tab4 r).2.2.2.2.2.1
def rbidiN (r : Int) : Int := ((look refTbl r).getD [0, 0, 0, 0, 0]).getD 3 0
def tbk (t : List Row) : List Int := t.flatMap fun x => [x.2.1, x.1 - 1]
def brkB : List Int := 161 :: 1642 :: 8237 :: (tbk tab1 ++ tbk tab2 ++ tbk tab3 ++ tbk tab4 ++ refTbl.map (·.1))
theorem brkB_ok : (10000001 :: brkB).all (fun b => decide (bidiN b = rbidiN b)) = true := by kernel_rfl
theorem brkB_lt : brkB.all (fun b => decide (b ≤ 10000000)) = true := by kernel_rfl
/-- r and s stand alike to each of these. -/
def Sat (B : List Int) (r s : Int) : Prop := ∀ b ∈ B, r ≤ b ↔ s ≤ b
theorem searchS_sat {r s : Int} : ∀ {t : List Row}, Sat (tbk t) r s → searchS t r = searchS t s
  | [], _ => rfl
  | x :: t, h => by
    have h1 := h x.2.1 (by simp [tbk])
    have h2 := h (x.1 - 1) (by simp [tbk])
    have ih := searchS_sat (r := r) (s := s) (t := t) fun b hb => h b (by simp only [tbk, List.flatMap_cons] at hb ⊢; exact List.mem_append_right _ hb)
    unfold searchS at ih ⊢
    rw [List.find?_cons, List.find?_cons]
    by_cases hr : r ≤ x.2.1
    · have hs := h1.1 hr
      rw [decide_eq_true hr, decide_eq_true hs]
      simp only
      by_cases h3 : x.1 ≤ r
      · rw [if_pos h3, if_pos (by omega)]
      · rw [if_neg h3, if_neg (by omega)]
    · have hs : ¬ s ≤ x.2.1 := fun e => hr (h1.2 e)
      rw [decide_eq_false hr, decide_eq_false hs]
      exact ih
theorem look_sat {r s : Int} : ∀ {t : List (Int × List Int)}, Sat (t.map (·.1)) r s → look t r = look t s
  | [], _ => rfl
  | (m, l) :: t, h => by
    have h1 := h m (by simp)
    have ih := look_sat (r := r) (s := s) (t := t) fun b hb => h b (by simp only [List.map_cons]; exact List.mem_cons_of_mem _ hb)
    unfold look
    by_cases hr : r ≤ m
    · rw [if_pos hr, if_pos (h1.1 hr)]
    · rw [if_neg hr, if_neg (fun e => hr (h1.2 e)), ih]
theorem least : ∀ (L : List Int) (r : Int), (∃ b ∈ L, r ≤ b) → ∃ s ∈ L, r ≤ s ∧ ∀ b ∈ L, r ≤ b → s ≤ b
  | [], _, ⟨_, h, _⟩ => by simp at h
  | a :: L, r, h => by
    by_cases hL : ∃ b ∈ L, r ≤ b
    · obtain ⟨s, h1, h2, h3⟩ := least L r hL
      by_cases ha : r ≤ a ∧ a ≤ s
      · exact ⟨a, List.mem_cons_self .., ha.1, fun b hb hr => by
          rcases List.mem_cons.1 hb with rfl | hb
          · omega
          · have := h3 b hb hr; omega⟩
      · exact ⟨s, List.mem_cons_of_mem _ h1, h2, fun b hb hr => by
          rcases List.mem_cons.1 hb with rfl | hb
          · omega
          · exact h3 b hb hr⟩
    · obtain ⟨b, hb, hr⟩ := h
      rcases List.mem_cons.1 hb with rfl | hb
      · exact ⟨b, List.mem_cons_self .., hr, fun c hc hrc => by
          rcases List.mem_cons.1 hc with rfl | hc
          · omega
          · exact absurd ⟨c, hc, hrc⟩ hL⟩
      · exact absurd ⟨b, hb, hr⟩ hL
theorem rep (r : Int) : ∃ s ∈ (10000001 :: brkB), Sat brkB r s := by
  by_cases h : ∃ b ∈ brkB, r ≤ b
  · obtain ⟨s, h1, h2, h3⟩ := least brkB r h
    exact ⟨s, List.mem_cons_of_mem _ h1, fun b hb => ⟨fun hr => h3 b hb hr, fun hs => by omega⟩⟩
  · refine ⟨10000001, List.mem_cons_self .., fun b hb => ⟨fun hr => absurd ⟨b, hb, hr⟩ h, fun hs => ?_⟩⟩
    have := List.all_eq_true.1 brkB_lt b hb
    simp at this
    omega
theorem bidiN_eq (r : Int) : bidiN r = rbidiN r := by
  obtain ⟨s, h1, h2⟩ := rep r
  have e1 : bidiN r = bidiN s := by
    have a1 := h2 161 (by simp [brkB])
    have a2 := h2 1642 (by simp [brkB])
    have a3 := h2 8237 (by simp [brkB])
    have s1 : searchS tab1 r = searchS tab1 s := searchS_sat fun b hb => h2 b (by simp only [brkB, List.mem_cons, List.mem_append]; simp [hb])
    have s2 : searchS tab2 r = searchS tab2 s := searchS_sat fun b hb => h2 b (by simp only [brkB, List.mem_cons, List.mem_append]; simp [hb])
    have s3 : searchS tab3 r = searchS tab3 s := searchS_sat fun b hb => h2 b (by simp only [brkB, List.mem_cons, List.mem_append]; simp [hb])
    have s4 : searchS tab4 r = searchS tab4 s := searchS_sat fun b hb => h2 b (by simp only [brkB, List.mem_cons, List.mem_append]; simp [hb])
    unfold bidiN
    rw [s1, s2, s3, s4]
    by_cases g1 : r ≤ 161
    · rw [if_pos g1, if_pos (a1.1 g1)]
    · rw [if_neg g1, if_neg (fun e => g1 (a1.2 e))]
      by_cases g2 : r ≤ 1642
      · rw [if_pos g2, if_pos (a2.1 g2)]
      · rw [if_neg g2, if_neg (fun e => g2 (a2.2 e))]
        by_cases g3 : r ≤ 8237
        · rw [if_pos g3, if_pos (a3.1 g3)]
        · rw [if_neg g3, if_neg (fun e => g3 (a3.2 e))]
  have e2 : rbidiN r = rbidiN s := by
    unfold rbidiN
    rw [look_sat fun b hb => h2 b (by simp only [brkB, List.mem_cons, List.mem_append]; simp [hb])]
  rw [e1, e2]
  have := List.all_eq_true.1 brkB_ok s h1
  simpa using this
theorem bidi_ref (r : Int) : (refRow r).getD 3 0 = bidi r := by
  unfold refRow bidi findS
  by_cases h : 44032 ≤ r ∧ r ≤ 55203
  · rw [if_pos h, if_pos h]
    split <;> split <;> rfl
  · rw [if_neg h, if_neg h]
    exact (bidiN_eq r).symm
section
variable {prim : FuncId → Option Prim} (d : Nat) (cfg : Cfg) (h : Heap)
theorem rrow_len (r : Int) : (refRow r).length = 5 := by
  unfold refRow
  split
  · split <;> rfl
  · cases hl : look refTbl r with
    | none => rfl
    | some l => exact look_len hl
/-- The reference's Bidi. -/
theorem rbidi_ok (hp : prim 71 = none) (hp2 : prim 47 = none) (r : Int) : callM md (K prim (d + 2)) cfg 47 [.int .i32 r] h = some (.int .i64 (bidi r), h) := by
  refine call0 rfl hp2 Try.func47 rfl rfl rfl (by simp) ?_
  have hF := fun cfg h r => rfind_ok (prim := prim) d cfg h hp r
  have hl := rrow_len r
  have hb := bidi_ref r
  obtain ⟨x, hx⟩ : ∃ x, (refRow r)[3]? = some x := ⟨_, List.getElem?_eq_getElem (by omega)⟩
  rw [List.getD_eq_getElem?_getD, hx] at hb
  simp only [Option.getD_some] at hb
  subst hb
  simp [hF, hx]
end
end Bi
end Go.Ab
/- The reference: its small functions, the matching PDI. -/
namespace Go.Ab
open Go.Proofs
namespace Bi
section
variable {prim : FuncId → Option Prim} (d : Nat) (cfg : Cfg) (h : Heap)
theorem rini_ok (hp : prim 63 = none) (x : Int) : callM md (K prim (d + 1)) cfg 63 [.int .i64 x] h = some (.bool (ini x), h) := by
  refine call0 rfl hp Try.func63 rfl rfl rfl (by simp) ?_
  unfold ini
  simp
  by_cases h1 : x = 19 <;> by_cases h2 : x = 20 <;> by_cases h3 : x = 21 <;> simp_all
theorem rgone_ok (hp : prim 45 = none) (h71 : prim 71 = none) (h47 : prim 47 = none) (r : Int) : callM md (K prim (d + 3)) cfg 45 [.int .i32 r] h = some (.bool (gone (bidi r)), h) := by
  refine call0 rfl hp Try.func45 rfl rfl rfl (by simp) ?_
  have hB : ∀ cfg h, callM md (K prim (d + 2)) cfg 47 [.int .i32 r] h = some (.int .i64 (bidi r), h) := fun cfg h => rbidi_ok (prim := prim) d cfg h h71 h47 r
  generalize bidi r = x at hB
  unfold gone
  by_cases h16 : x = 16
  · simp [hB, h16]
  · by_cases h14 : x = 14
    · simp [hB, h14]
    · by_cases h17 : x = 17
      · simp [hB, h17]
      · by_cases h15 : x = 15
        · simp [hB, h15]
        · by_cases h18 : x = 18
          · simp [hB, h18]
          · by_cases h9 : x = 9
            · simp [hB, h9]
            · simp [hB, h16, h14, h17, h15, h18, h9]
theorem rblank_ok (hp : prim 70 = none) (h63 : prim 63 = none) (x : Int) : callM md (K prim (d + 2)) cfg 70 [.int .i64 x] h = some (.bool (blankB x), h) := by
  refine call0 rfl hp Try.func70 rfl rfl rfl (by simp) ?_
  have hI := fun cfg h x => rini_ok (prim := prim) d cfg h h63 x
  unfold blankB
  by_cases h12 : x = 12
  · have hc : ini 12 = false := rfl
    simp [hc, h12]
  · by_cases h22 : x = 22
    · have hc : ini 22 = false := rfl
      simp [hI, hc, h22]
    · by_cases h9 : x = 9
      · have hc : ini 9 = false := rfl
        simp [hI, hc, h9]
      · by_cases h16 : x = 16
        · have hc : ini 16 = false := rfl
          simp [hI, hc, h16]
        · by_cases h14 : x = 14
          · have hc : ini 14 = false := rfl
            simp [hI, hc, h14]
          · by_cases h17 : x = 17
            · have hc : ini 17 = false := rfl
              simp [hI, hc, h17]
            · by_cases h15 : x = 15
              · have hc : ini 15 = false := rfl
                simp [hI, hc, h15]
              · by_cases h18 : x = 18
                · have hc : ini 18 = false := rfl
                  simp [hI, hc, h18]
                · cases hi : ini x
                  · simp [hI, hi, h12, h22, h9, h16, h14, h17, h15, h18]
                  · simp [hI, hi, h12]
theorem rside_ok (hp : prim 66 = none) (lv : Int) (hl : 0 ≤ lv) : callM md (K prim (d + 1)) cfg 66 [.int .i64 lv] h = some (.int .i64 (strS lv), h) := by
  have hm : lv.tmod 2 = lv % 2 := Int.tmod_eq_emod_of_nonneg hl
  refine call0 rfl hp Try.func66 rfl rfl rfl (by simp) ?_
  unfold strS
  by_cases h1 : lv % 2 = 1
  · simp [hm, h1]
  · simp [hm, h1]
theorem rfirm_ok (hp : prim 68 = none) (x : Int) : callM md (K prim (d + 1)) cfg 68 [.int .i64 x] h = some (.int .i64 (dirS x), h) := by
  refine call0 rfl hp Try.func68 rfl rfl rfl (by simp) ?_
  unfold dirS
  by_cases h0 : x = 0
  · simp [h0]
  · by_cases h1 : x = 1
    · simp [h1]
    · by_cases h3 : x = 3
      · simp [h3]
      · by_cases h6 : x = 6
        · simp [h6]
        · simp [h0, h1, h3, h6]
theorem rup_ok (hp : prim 65 = none) (n : Int) (hn : 0 ≤ n ∧ n ≤ 1000) (odd : Bool) : callM md (K prim (d + 1)) cfg 65 [.int .i64 n, .bool odd] h = some (.int .i64 (nxt n odd), h) := by
  have hm : n.tmod 2 = n % 2 := Int.tmod_eq_emod_of_nonneg hn.1
  refine call0 rfl hp Try.func65 rfl rfl rfl (by simp) ?_
  unfold nxt
  rcases (by omega : n % 2 = 0 ∨ n % 2 = 1) with h1 | h1 <;> cases odd <;> simp (disch := omega) [hm, h1, wrap64]
/-- Where the PDI stands that closes, seen from j with D open ones. -/
def mval (o : List Int) (j D : Nat) : Int := match mscan (o.drop j) D with
  | some m => ((j + m : Nat) : Int)
  | none => -1
theorem mval_end {o : List Int} {j D : Nat} (h : o.length ≤ j) : mval o j D = -1 := by
  unfold mval
  rw [List.drop_of_length_le h]
  rfl
theorem mval_step {o : List Int} {j D : Nat} {x : Int} (hx : o[j]? = some x) : mval o j D = if ini x then mval o (j + 1) (D + 1) else if x = 22 then (if D = 0 then (j : Int) else mval o (j + 1) (D - 1)) else mval o (j + 1) D := by
  have key : ∀ D', (match (mscan (o.drop (j + 1)) D').map (· + 1) with
      | some m => ((j + m : Nat) : Int)
      | none => -1) = mval o (j + 1) D' := by
    intro D'
    unfold mval
    cases mscan (o.drop (j + 1)) D' with
    | none => rfl
    | some m => simp only [Option.map_some]; rw [show j + (m + 1) = j + 1 + m by omega]
  have hd : o.drop j = x :: o.drop (j + 1) := drop_at hx
  unfold mval
  rw [hd]
  by_cases hi : ini x = true
  · rw [mscan_ini hi, if_pos hi]
    exact key _
  · have hi' : ini x = false := by simpa using hi
    rw [if_neg hi]
    by_cases h22 : x = 22
    · subst h22
      rw [if_pos rfl]
      cases D with
      | zero => rw [mscan_pd0, if_pos rfl]; simp
      | succ D => rw [mscan_pdS, if_neg (by omega)]; exact key _
    · rw [mscan_oth hi' h22, if_neg h22]
      exact key _
set_option maxHeartbeats 1000000 in
theorem rmatch_ok (hp : prim 64 = none) (h63 : prim 63 = none) (h71 : prim 71 = none) (h47 : prim 47 = none) (t : List Int) (ht : t.length ≤ 2000) (i : Nat) (hi : i < t.length) : callM md (K prim (d + 3)) cfg 64 [rl t, .int .i64 i] h = some (.int .i64 (mt (t.map bidi) i), h) := by
  refine call0 rfl hp Try.func64 rfl rfl rfl (by simp) ?_
  have hB := fun cfg h r => rbidi_ok (prim := prim) d cfg h h71 h47 r
  have hI := fun cfg h x => rini_ok (prim := prim) (d + 1) cfg h h63 x
  have hmv : mt (t.map bidi) i = mval (t.map bidi) (i + 1) 0 := rfl
  have hol : (t.map bidi).length = t.length := by simp
  have hg : ∀ (j : Nat) (z : Int), t[j]? = some z → (t.map bidi)[j]? = some (bidi z) := fun j z hz => by rw [List.getElem?_map, hz]; rfl
  generalize t.map bidi = o at *
  rw [hmv]
  simp (disch := omega) [wrap64]
  refine wC_loop (fun m fr H => ∃ (j D : Nat), i + 1 ≤ j ∧ j ≤ t.length ∧ m = t.length - j ∧ D ≤ j ∧ mval o (i + 1) 0 = mval o j D ∧ H = [] ∧ Slots 32 [(0, rl t), (1, .int .i64 i), (5, .int .i64 D), (6, .int .i64 j)] fr) (m := t.length - (i + 1)) (by omega) ⟨i + 1, 0, by omega, by omega, rfl, by omega, rfl, rfl, by simp⟩ ?_
  rintro m fr H ⟨j, D, h1, h2, rfl, h3, hF, rfl, hs⟩
  obtain ⟨j1, rfl⟩ := hs.ex
  clear hs
  by_cases hlt : j < t.length
  · obtain ⟨z, hz⟩ : ∃ z, t[j]? = some z := ⟨_, List.getElem?_eq_getElem hlt⟩
    have hst := mval_step (D := D) (hg j z hz)
    have hjI : (j : Int) < t.length := by omega
    rw [hst] at hF
    by_cases hini : ini (bidi z) = true
    · rw [if_pos hini] at hF
      have h22 : ¬ bidi z = 22 := by intro e; rw [e] at hini; cases hini
      simp (disch := omega) [hjI, hz, hB, hI, hini, h22, wrap64, -getElem?_pos]
      exact Rnd_of (m' := t.length - (j + 1)) (by omega) ⟨j + 1, D + 1, by omega, by omega, rfl, by omega, hF, rfl, by simp (disch := omega)⟩
    · have hini' : ini (bidi z) = false := by simpa using hini
      rw [if_neg hini] at hF
      by_cases h22 : bidi z = 22
      · rw [if_pos h22] at hF
        by_cases hD : D = 0
        · rw [if_pos hD] at hF
          subst hD
          rw [hF]
          have hi22 : ini 22 = false := rfl
          simp (disch := omega) [hjI, hz, hB, hI, hi22, h22, -getElem?_pos]
        · rw [if_neg hD] at hF
          have hDI : ¬ (D : Int) = 0 := by omega
          have hi22 : ini 22 = false := rfl
          simp (disch := omega) [hjI, hz, hB, hI, hi22, h22, hD, wrap64, -getElem?_pos]
          exact Rnd_of (m' := t.length - (j + 1)) (by omega) ⟨j + 1, D - 1, by omega, by omega, rfl, by omega, hF, rfl, by simp (disch := omega); omega⟩
      · rw [if_neg h22] at hF
        simp (disch := omega) [hjI, hz, hB, hI, hini', h22, wrap64, -getElem?_pos]
        exact Rnd_of (m' := t.length - (j + 1)) (by omega) ⟨j + 1, D, by omega, by omega, rfl, by omega, hF, rfl, by simp (disch := omega)⟩
  · have hjI : ¬ (j : Int) < t.length := by omega
    rw [mval_end (o := o) (j := j) (D := D) (by omega)] at hF
    simp (disch := omega) [hjI, hF]
end
end Bi
end Go.Ab
/- The reference: Base, Bracket. -/
namespace Go.Ab
open Go.Proofs
namespace Bi
section
variable {prim : FuncId → Option Prim} (d : Nat) (cfg : Cfg) (h : Heap)
set_option maxHeartbeats 1000000 in
theorem rbase_ok (hp : prim 38 = none) (h64 : prim 64 = none) (h63 : prim 63 = none) (h71 : prim 71 = none) (h47 : prim 47 = none) (t : List Int) (ht : t.length ≤ 2000) (base : Int) {args : List V} (hargs : args.mapM (frzA h) = some [rl t, .int .i64 base]) :
    callM md (K prim (d + 4)) cfg 38 args h = some (.int .i64 (baseS bidi t base), h) := by
  refine call3 rfl hp Try.func38 rfl rfl rfl hargs ?_
  have hB := fun cfg h r => rbidi_ok (prim := prim) (d + 1) cfg h h71 h47 r
  have hI := fun cfg h x => rini_ok (prim := prim) (d + 2) cfg h h63 x
  have hMt := fun cfg h i hi => rmatch_ok (prim := prim) d cfg h h64 h63 h71 h47 t ht i hi
  by_cases h01 : base = 0 ∨ base = 1
  · have hbs : baseS bidi t base = base := by unfold baseS; rw [if_pos h01]
    rw [hbs]
    rcases h01 with rfl | rfl
    · simp [own]
    · simp [own]
  have hbs : baseS bidi t base = fs (t.map bidi) := by unfold baseS; rw [if_neg h01]
  rw [hbs]
  have h0 : ¬ base = 0 := fun e => h01 (.inl e)
  have h1 : ¬ base = 1 := fun e => h01 (.inr e)
  have hol : (t.map bidi).length = t.length := by simp
  have hg : ∀ (j : Nat) (z : Int), t[j]? = some z → (t.map bidi)[j]? = some (bidi z) := fun j z hz => by rw [List.getElem?_map, hz]; rfl
  generalize t.map bidi = o at *
  simp (disch := omega) [h0, h1]
  refine wC_loop (fun m fr H => ∃ (i : Nat), i ≤ t.length ∧ m = t.length - i ∧ fs o = fs (o.drop i) ∧ H = [] ∧ Slots 45 [(0, rl t), (1, .int .i64 base), (5, .int .i64 i)] fr) (m := t.length) (by omega) ⟨0, by omega, by omega, rfl, rfl, by simp⟩ ?_
  rintro m fr H ⟨i, hi, rfl, hF, rfl, hs⟩
  obtain ⟨j1, rfl⟩ := hs.ex
  clear hs
  by_cases hlt : i < t.length
  · obtain ⟨z, hz⟩ : ∃ z, t[i]? = some z := ⟨_, List.getElem?_eq_getElem hlt⟩
    have hiI : (i : Int) < t.length := by omega
    have hMi := fun cfg h => hMt cfg h i hlt
    have hdr : o.drop i = bidi z :: o.drop (i + 1) := drop_at (hg i z hz)
    rw [hdr, fs_cons] at hF
    by_cases hx0 : bidi z = 0
    · rw [if_pos hx0] at hF
      simp (disch := omega) [hiI, hz, hB, hx0, hF, own, -getElem?_pos]
    · rw [if_neg hx0] at hF
      by_cases hx1 : bidi z = 1
      · rw [if_pos (.inl hx1)] at hF
        simp (disch := omega) [hiI, hz, hB, hx1, hF, own, -getElem?_pos]
      · by_cases hx2 : bidi z = 2
        · rw [if_pos (.inr hx2)] at hF
          simp (disch := omega) [hiI, hz, hB, hx2, hF, own, -getElem?_pos]
        · rw [if_neg (by omega)] at hF
          cases hini : ini (bidi z)
          · rw [hini] at hF
            simp only [Bool.false_eq_true, if_false] at hF
            simp (disch := omega) [hiI, hz, hB, hI, hx0, hx1, hx2, hini, wrap64, -getElem?_pos]
            exact Rnd_of (m' := t.length - (i + 1)) (by omega) ⟨i + 1, by omega, rfl, hF, rfl, by simp (disch := omega)⟩
          · rw [hini] at hF
            simp only [if_true] at hF
            have hmt : mt o i = match mscan (o.drop (i + 1)) 0 with
              | some m => ((i + 1 + m : Nat) : Int)
              | none => -1 := rfl
            cases hms : mscan (o.drop (i + 1)) 0 with
            | none =>
              rw [hms] at hF hmt
              simp only at hF hmt
              simp (disch := omega) [hiI, hz, hB, hI, hMi, hx0, hx1, hx2, hini, hmt, hF, own, -getElem?_pos]
            | some m =>
              rw [hms] at hF hmt
              simp only at hF hmt
              have hml := mscan_lt _ _ _ hms
              simp at hml
              have hng : ¬ (i : Int) + 1 + m < 0 := by omega
              simp (disch := omega) [hiI, hz, hB, hI, hMi, hx0, hx1, hx2, hini, hmt, hng, wrap64, -getElem?_pos]
              refine Rnd_of (m' := t.length - (i + 1 + m + 1)) (by omega) ⟨i + 1 + m + 1, by omega, rfl, ?_, rfl, by simp (disch := omega)⟩
              rw [hF, List.drop_drop]
              congr 2
  · have hiI : ¬ (i : Int) < t.length := by omega
    rw [List.drop_of_length_le (by omega)] at hF
    simp (disch := omega) [hiI, hF, own, fs_nil]
end
end Bi
end Go.Ab
/- The reference: ends. -/
namespace Go.Ab
open Go.Proofs
namespace Bi
/-- The level of the last place below k that stays. -/
def rbef (o lv : List Int) (e : Int) : Nat → Int
  | 0 => e
  | k + 1 => if gone (o.getD k 0) = true then rbef o lv e k else lv.getD k 0
/-- The level of the first place that stays. -/
def raft (e : Int) : List Int → List Int → Int
  | x :: o, y :: lv => if gone x = true then raft e o lv else y
  | _, _ => e
def rendS (o lv : List Int) (e f g : Int) : Int × Int :=
  (strS (max (lvl lv f) (rbef o lv e f.toNat)), strS (max (lvl lv f) (if ini (o.getD g.toNat 0) = true then e else raft e (o.drop (g.toNat + 1)) (lv.drop (g.toNat + 1)))))
section
variable {prim : FuncId → Option Prim} (d : Nat) (cfg : Cfg) (h : Heap)
set_option maxHeartbeats 2000000 in
theorem rends_ok (hp : prim 41 = none) (h71 : prim 71 = none) (h47 : prim 47 = none) (h63 : prim 63 = none) (h45 : prim 45 = none) (h66 : prim 66 = none) (t lv l : List Int) (n : Nat) (htn : t.length = n) (hlv : lv.length = n) (hn2 : n ≤ 2000) (hll : l.length ≤ 2000) (f g : Nat) (hf : l[0]? = some (f : Int)) (hg : l[l.length - 1]? = some (g : Int)) (hfn : f < n) (hgn : g < n) (e : Int) (hl0 : 0 ≤ lvl lv f) {args : List V} (hargs : args.mapM (frzA h) = some [rl t, il lv, .int .i64 e, il l]) :
    callM md (K prim (d + 4)) cfg 41 args h = some (.tup [.int .i64 (rendS (t.map bidi) lv e f g).1, .int .i64 (rendS (t.map bidi) lv e f g).2], h) := by
  have hB := fun cfg h r => rbidi_ok (prim := prim) (d + 1) cfg h h71 h47 r
  have hI := fun cfg h x => rini_ok (prim := prim) (d + 2) cfg h h63 x
  have hG := fun cfg h r => rgone_ok (prim := prim) d cfg h h45 h71 h47 r
  have hS := fun cfg h x hx => rside_ok (prim := prim) (d + 2) cfg h h66 x hx
  have hl1 : 0 < l.length := (List.getElem?_eq_some_iff.1 hf).1
  have hgt : ∀ (j : Nat) (z : Int), t[j]? = some z → (t.map bidi)[j]? = some (bidi z) := fun j z hz => by rw [List.getElem?_map, hz]; rfl
  have hol : (t.map bidi).length = n := by simpa using htn
  generalize t.map bidi = o at *
  obtain ⟨lf, hlf⟩ : ∃ x, lv[f]? = some x := ⟨_, List.getElem?_eq_getElem (by omega)⟩
  have elf : lvl lv f = lf := by simp [lvl, List.getD_eq_getElem?_getD, hlf]
  rw [elf] at hl0
  obtain ⟨zg, hzg⟩ : ∃ z, t[g]? = some z := ⟨_, List.getElem?_eq_getElem (by omega)⟩
  have eog : o.getD g 0 = bidi zg := by rw [List.getD_eq_getElem?_getD, hgt g zg hzg]; rfl
  have hR : rendS o lv e f g = (strS (max lf (rbef o lv e f)), strS (max lf (if ini (bidi zg) = true then e else raft e (o.drop (g + 1)) (lv.drop (g + 1))))) := by
    simp only [rendS, elf, Int.toNat_natCast, eog]
  rw [hR]
  refine call3 rfl hp Try.func41 rfl rfl rfl hargs ?_
  have hl1n : ((l.length : Int) - 1).toNat = l.length - 1 := by omega
  simp (disch := omega) [hf, wrap64, -getElem?_pos]
  have hmax : ∀ x : Int, 0 ≤ max lf x := fun x => Int.le_trans hl0 (Int.le_max_left ..)
  refine wC_loop (fun m fr H => ∃ (k : Nat), k ≤ f ∧ m = k ∧ rbef o lv e f = rbef o lv e k ∧ H = [] ∧ Slots 81 [(0, rl t), (1, il lv), (2, .int .i64 e), (3, il l), (10, .int .i64 e), (11, .int .i64 e), (12, .int .i64 ((k : Int) - 1))] fr) (m := f) (by omega) ⟨f, by omega, rfl, rfl, rfl, by simp⟩ ?_
  rintro m fr H ⟨k, hk, hm, hF, rfl, hs⟩
  replace hm := hm.symm
  subst hm
  obtain ⟨j, rfl⟩ := hs.ex
  clear hs
  rcases k with _ | k
  · rw [hF, rbef]
    cases hini : ini (bidi zg)
    · rw [if_neg (by simp)]
      simp (disch := omega) [hl1n, hg, hzg, hB, hI, hini, wrap64, -getElem?_pos]
      refine wC_loop (fun m fr H => ∃ (k : Nat), k ≤ n ∧ m = n - k ∧ raft e (o.drop (g + 1)) (lv.drop (g + 1)) = raft e (o.drop k) (lv.drop k) ∧ H = [] ∧ Slots 81 [(0, rl t), (1, il lv), (2, .int .i64 e), (3, il l), (10, .int .i64 e), (11, .int .i64 e), (14, .int .i64 k)] fr) (m := n - (g + 1)) (by omega) ⟨g + 1, by omega, rfl, rfl, rfl, by simp⟩ ?_
      rintro m fr H ⟨k, hk, rfl, hF2, rfl, hs⟩
      obtain ⟨j2, rfl⟩ := hs.ex
      clear hs
      rw [hF2]
      by_cases hlt : k < n
      · have hltI : (k : Int) < t.length := by omega
        obtain ⟨z, hz⟩ : ∃ z, t[k]? = some z := ⟨_, List.getElem?_eq_getElem (by omega)⟩
        obtain ⟨y2, hy2⟩ : ∃ z, lv[k]? = some z := ⟨_, List.getElem?_eq_getElem (by omega)⟩
        rw [drop_at (hgt k z hz), drop_at hy2, raft]
        cases hgo : gone (bidi z)
        · rw [if_neg (by simp)]
          simp (disch := omega) [hltI, hz, hG, hgo, hy2, hf, hlf, hS, own, -getElem?_pos]
        · rw [if_pos rfl]
          simp (disch := omega) [hltI, hz, hG, hgo, wrap64, -getElem?_pos]
          exact Rnd_of (m' := n - (k + 1)) (by omega) ⟨k + 1, by omega, rfl, rfl, rfl, by simp (disch := omega)⟩
      · have hltI : ¬ (k : Int) < t.length := by omega
        rw [List.drop_of_length_le (l := o) (by omega)]
        have hr0 : ∀ x, raft e [] x = e := fun x => by unfold raft; rfl
        rw [hr0]
        simp (disch := omega) [hltI, hf, hlf, hS, own, -getElem?_pos]
    · rw [if_pos rfl]
      simp (disch := omega) [hl1n, hg, hzg, hB, hI, hini, hf, hlf, hS, own, wrap64, -getElem?_pos]
  · have hk1 : ((k + 1 : Nat) : Int) - 1 = k := by omega
    rw [hk1]
    obtain ⟨z, hz⟩ : ∃ z, t[k]? = some z := ⟨_, List.getElem?_eq_getElem (by omega)⟩
    obtain ⟨y, hy⟩ : ∃ z, lv[k]? = some z := ⟨_, List.getElem?_eq_getElem (by omega)⟩
    have eo : o.getD k 0 = bidi z := by rw [List.getD_eq_getElem?_getD, hgt k z hz]; rfl
    rw [rbef, eo] at hF
    cases hgo : gone (bidi z)
    · have ey : lv.getD k 0 = y := by rw [List.getD_eq_getElem?_getD, hy]; rfl
      rw [hgo, if_neg (by simp), ey] at hF
      rw [hF]
      cases hini : ini (bidi zg)
      · rw [if_neg (by simp)]
        simp (disch := omega) [hz, hG, hgo, hy, hl1n, hg, hzg, hB, hI, hini, wrap64, -getElem?_pos]
        refine wC_loop (fun m fr H => ∃ (k : Nat), k ≤ n ∧ m = n - k ∧ raft e (o.drop (g + 1)) (lv.drop (g + 1)) = raft e (o.drop k) (lv.drop k) ∧ H = [] ∧ Slots 81 [(0, rl t), (1, il lv), (2, .int .i64 e), (3, il l), (10, .int .i64 y), (11, .int .i64 e), (14, .int .i64 k)] fr) (m := n - (g + 1)) (by omega) ⟨g + 1, by omega, rfl, rfl, rfl, by simp⟩ ?_
        rintro m fr H ⟨k, hk, rfl, hF2, rfl, hs⟩
        obtain ⟨j2, rfl⟩ := hs.ex
        clear hs
        rw [hF2]
        by_cases hlt : k < n
        · have hltI : (k : Int) < t.length := by omega
          obtain ⟨z, hz⟩ : ∃ z, t[k]? = some z := ⟨_, List.getElem?_eq_getElem (by omega)⟩
          obtain ⟨y2, hy2⟩ : ∃ z, lv[k]? = some z := ⟨_, List.getElem?_eq_getElem (by omega)⟩
          rw [drop_at (hgt k z hz), drop_at hy2, raft]
          cases hgo2 : gone (bidi z)
          · rw [if_neg (by simp)]
            simp (disch := omega) [hltI, hz, hG, hgo2, hy2, hf, hlf, hS, own, -getElem?_pos]
          · rw [if_pos rfl]
            simp (disch := omega) [hltI, hz, hG, hgo2, wrap64, -getElem?_pos]
            exact Rnd_of (m' := n - (k + 1)) (by omega) ⟨k + 1, by omega, rfl, rfl, rfl, by simp (disch := omega)⟩
        · have hltI : ¬ (k : Int) < t.length := by omega
          rw [List.drop_of_length_le (l := o) (by omega)]
          have hr0 : ∀ x, raft e [] x = e := fun x => by unfold raft; rfl
          rw [hr0]
          simp (disch := omega) [hltI, hf, hlf, hS, own, -getElem?_pos]
      · rw [if_pos rfl]
        simp (disch := omega) [hz, hG, hgo, hy, hl1n, hg, hzg, hB, hI, hini, hf, hlf, hS, own, wrap64, -getElem?_pos]
    · rw [hgo, if_pos rfl] at hF
      simp (disch := omega) [hz, hG, hgo, wrap64, -getElem?_pos]
      exact Rnd_of (m' := k) (by omega) ⟨k, by omega, rfl, hF, rfl, by simp (disch := omega)⟩
end
end Bi
end Go.Ab
/- Explicit levels: the class is the rune's or the level's; a PDI has the level of its initiator. -/
namespace Go.Ab.Bi
theorem ovr_cls {a : Ent} (ha : a.2.1 = -1 ∨ a.2.1 = a.1 % 2) (x : Int) : ovr a.2.1 x = x ∨ ovr a.2.1 x = strS a.1 := by
  unfold ovr strS
  rcases ha with h | h
  · rw [h]; exact .inl rfl
  · right
    rw [h]
    split <;> split <;> omega
theorem EW.top2 {e : Int} {i : Nat} {s : ES} (h : EW e i s) : 0 ≤ (topE s.st).1 ∧ ((topE s.st).2.1 = -1 ∨ (topE s.st).2.1 = (topE s.st).1 % 2) := by
  obtain ⟨a, r, hs⟩ := h.cons
  have := h.rng a (by rw [hs]; exact List.mem_cons_self ..)
  rw [hs]
  exact ⟨this.1, this.2.2⟩
theorem exStep_cls {e : Int} {i : Nat} {s : ES} (h : EW e i s) (x : Int) (odd : Bool) : (exStep e x odd s).2.1 = x ∨ (exStep e x odd s).2.1 = strS (exStep e x odd s).1 := by
  have ht := h.top2
  have h2 := h.step x odd
  have h22 : x = 22 → (exStep e x odd s).2.1 = x ∨ (exStep e x odd s).2.1 = strS (exStep e x odd s).1 := by
    rintro rfl
    have ht' := h2.top2
    have e1 : (exStep e 22 odd s).2.1 = ovr (topE (exStep e 22 odd s).2.2.st).2.1 22 := by simp [exStep, ini]
    have e2 : (exStep e 22 odd s).1 = (topE (exStep e 22 odd s).2.2.st).1 := by simp [exStep, ini]
    rw [e1, e2]
    exact ovr_cls ht'.2 22
  by_cases hx : x = 22
  · exact h22 hx
  · unfold exStep
    split
    · exact .inl rfl
    · split
      · exact ovr_cls ht.2 x
      · split
        · exact .inl rfl
        · split
          · exact .inl rfl
          · split
            · exact .inl rfl
            · exact ovr_cls ht.2 x
/-- The state before rune i. -/
theorem ex_at {e : Int} (he : 0 ≤ e ∧ e ≤ 1) (o : List Int) : ∀ i, i ≤ o.length → ∃ s, EW e i s ∧ ∀ k, (expl e o)[i + k]? = (exGo e (o.drop i) s)[k]?
  | 0, _ => ⟨es0 e, EW.zero he, fun k => by simp [expl]⟩
  | i + 1, hi => by
    obtain ⟨s, h1, h2⟩ := ex_at he o i (by omega)
    have hx : o.drop i = o[i] :: o.drop (i + 1) := List.drop_eq_getElem_cons (by omega)
    refine ⟨(exStep e o[i] (oddI o[i] (o.drop (i + 1))) s).2.2, h1.step _ _, fun k => ?_⟩
    have := h2 (k + 1)
    rw [hx, exGo] at this
    rw [show i + 1 + k = i + (k + 1) by omega, this]
    simp
theorem expl_cls {e : Int} (he : 0 ≤ e ∧ e ≤ 1) {o : List Int} {i : Nat} {x : Int} (hx : o[i]? = some x) : ∃ l c, (expl e o)[i]? = some (l, c) ∧ (c = x ∨ c = strS l) := by
  obtain ⟨hi, rfl⟩ := List.getElem?_eq_some_iff.1 hx
  obtain ⟨s, h1, h2⟩ := ex_at he o i (by omega)
  have hd : o.drop i = o[i] :: o.drop (i + 1) := List.drop_eq_getElem_cons hi
  have := h2 0
  rw [hd, exGo] at this
  simp only [Nat.add_zero, List.getElem?_cons_zero] at this
  exact ⟨_, _, this, exStep_cls h1 _ _⟩
/-- v isolates are taken away. -/
def popN : Nat → List Ent → List Ent
  | 0, st => st
  | v + 1, st => popN v (popI st)
def Good (st0 : List Ent) (D : Nat) (s : ES) : Prop := ∃ v, popN v s.st = st0 ∧ ((1 ≤ v ∧ s.iso + v = D + 1 ∧ v ≤ s.val) ∨ (v = 0 ∧ D + 1 ≤ s.iso))
theorem popI_non {a : Ent} {st : List Ent} (h : a.2.2 = false) : popI (a :: st) = popI st := by rw [popI, h]; rfl
theorem popI_iso {a : Ent} {st : List Ent} (h : a.2.2 = true) : popI (a :: st) = st := by rw [popI, h]; rfl
theorem popN_non {v : Nat} (hv : 1 ≤ v) {a : Ent} {st : List Ent} (h : a.2.2 = false) : popN v (a :: st) = popN v st := by
  obtain ⟨w, rfl⟩ : ∃ w, v = w + 1 := ⟨v - 1, by omega⟩
  rw [popN, popN, popI_non h]
theorem Good.opn {st0 : List Ent} {D : Nat} {s : ES} (h : Good st0 D s) (e : Int) {x : Int} (odd : Bool) (hx : ini x = true) : Good st0 (D + 1) (exStep e x odd s).2.2 := by
  have hem : ¬ (x = 16 ∨ x = 14 ∨ x = 17 ∨ x = 15) := by unfold ini at hx; simp at hx; omega
  unfold exStep
  rw [if_neg hem, if_pos hx]
  obtain ⟨v, h1, h2⟩ := h
  simp only
  split
  · rename_i hc
    rcases h2 with ⟨h2, h3, h4⟩ | ⟨rfl, h2⟩
    · refine ⟨v + 1, ?_, .inl ⟨by omega, by simp only; omega, by simp only; omega⟩⟩
      rw [popN, popI_iso rfl]
      exact h1
    · omega
  · rcases h2 with ⟨h2, h3, h4⟩ | ⟨rfl, h2⟩
    · exact ⟨v, h1, .inl ⟨h2, by simp only; omega, h4⟩⟩
    · exact ⟨0, h1, .inr ⟨rfl, by simp only; omega⟩⟩
theorem Good.pdi {st0 : List Ent} {D : Nat} {s : ES} (h : Good st0 (D + 1) s) (e : Int) (odd : Bool) : Good st0 D (exStep e 22 odd s).2.2 := by
  have e1 : (exStep e 22 odd s).2.2 = if 0 < s.iso then { s with iso := s.iso - 1 } else if 0 < s.val then { s with st := popI s.st, emb := 0, val := s.val - 1 } else s := by simp [exStep, ini]
  rw [e1]
  obtain ⟨v, h1, h2⟩ := h
  split
  · rcases h2 with ⟨h2, h3, h4⟩ | ⟨rfl, h2⟩
    · exact ⟨v, h1, .inl ⟨h2, by simp only; omega, h4⟩⟩
    · exact ⟨0, h1, .inr ⟨rfl, by simp only; omega⟩⟩
  · rcases h2 with ⟨h2, h3, h4⟩ | ⟨rfl, h2⟩
    · rw [if_pos (by omega)]
      obtain ⟨w, rfl⟩ : ∃ w, v = w + 1 := ⟨v - 1, by omega⟩
      exact ⟨w, h1, .inl ⟨by omega, by simp only; omega, by simp only; omega⟩⟩
    · omega
theorem Good.pd0 {st0 : List Ent} {s : ES} (h : Good st0 0 s) (e : Int) (odd : Bool) : (exStep e 22 odd s).1 = (topE st0).1 := by
  have e1 : (exStep e 22 odd s).1 = (topE (if 0 < s.iso then { s with iso := s.iso - 1 } else if 0 < s.val then { s with st := popI s.st, emb := 0, val := s.val - 1 } else s : ES).st).1 := by simp [exStep, ini]
  rw [e1]
  obtain ⟨v, h1, h2⟩ := h
  split
  · rcases h2 with ⟨h2, h3, h4⟩ | ⟨rfl, h2⟩
    · omega
    · rw [← h1]; rfl
  · rcases h2 with ⟨h2, h3, h4⟩ | ⟨rfl, h2⟩
    · rw [if_pos (by omega)]
      obtain rfl : v = 1 := by omega
      rw [← h1]
      rfl
    · omega
theorem Good.oth {st0 : List Ent} {D : Nat} {s : ES} (h : Good st0 D s) (e : Int) {x : Int} (odd : Bool) (hx : ini x = false) (h22 : x ≠ 22) : Good st0 D (exStep e x odd s).2.2 := by
  unfold exStep
  split
  · simp only
    split
    · rename_i hc
      obtain ⟨v, h1, h2⟩ := h
      rcases h2 with ⟨h2, h3, h4⟩ | ⟨rfl, h2⟩
      · exact ⟨v, by rw [popN_non h2 rfl]; exact h1, .inl ⟨h2, h3, h4⟩⟩
      · omega
    · split
      · exact h
      · exact h
  · rw [if_neg (by simp [hx])]
    split
    · simp only
      split
      · exact h
      · split
        · exact h
        · split
          · rename_i hc
            obtain ⟨v, h1, h2⟩ := h
            rcases h2 with ⟨h2, h3, h4⟩ | ⟨rfl, h2⟩
            · refine ⟨v, ?_, .inl ⟨h2, h3, h4⟩⟩
              cases hs : s.st with
              | nil => rw [hs] at hc; simp at hc
              | cons a r =>
                rw [hs] at hc h1
                have hc1 : a.2.2 = false := hc.1
                rw [popN_non h2 hc1] at h1
                exact h1
            · omega
          · exact h
    · split
      · exact h
      · split
        · exact h
        · exact h
theorem good_scan {st0 : List Ent} (e : Int) : ∀ (r : List Int) (D q : Nat) (s : ES), Good st0 D s → mscan r D = some q → ((exGo e r s)[q]?).map (·.1) = some (topE st0).1
  | [], _, _, _, _, h => by simp [mscan] at h
  | x :: r, D, q, s, hg, h => by
    rw [exGo]
    cases hx : ini x
    · by_cases h22 : x = 22
      · subst h22
        cases D with
        | zero =>
          rw [mscan_pd0] at h
          cases h
          simp only [List.getElem?_cons_zero, Option.map_some]
          rw [hg.pd0]
        | succ D =>
          rw [mscan_pdS] at h
          obtain ⟨q', h1, rfl⟩ := Option.map_eq_some_iff.1 h
          rw [List.getElem?_cons_succ]
          exact good_scan e r D q' _ (hg.pdi e _) h1
      · rw [mscan_oth hx h22] at h
        obtain ⟨q', h1, rfl⟩ := Option.map_eq_some_iff.1 h
        rw [List.getElem?_cons_succ]
        exact good_scan e r D q' _ (hg.oth e _ hx h22) h1
    · rw [mscan_ini hx] at h
      obtain ⟨q', h1, rfl⟩ := Option.map_eq_some_iff.1 h
      rw [List.getElem?_cons_succ]
      exact good_scan e r (D + 1) q' _ (hg.opn e _ hx) h1
/-- A PDI has the level of its initiator. -/
theorem iso_same {e : Int} (he : 0 ≤ e ∧ e ≤ 1) {o : List Int} {i m : Nat} {x : Int} (hx : o[i]? = some x) (hi : ini x = true) (hm : mt o i = m) : ((expl e o)[i]?).map (·.1) = ((expl e o)[m]?).map (·.1) := by
  obtain ⟨hil, rfl⟩ := List.getElem?_eq_some_iff.1 hx
  obtain ⟨s, h1, h2⟩ := ex_at he o i (by omega)
  have hd : o.drop i = o[i] :: o.drop (i + 1) := List.drop_eq_getElem_cons hil
  have hem : ¬ (o[i] = 16 ∨ o[i] = 14 ∨ o[i] = 17 ∨ o[i] = 15) := by unfold ini at hi; simp at hi; omega
  unfold mt at hm
  split at hm
  · rename_i q hq
    obtain rfl : m = i + 1 + q := by omega
    have hg : Good s.st 0 (exStep e o[i] (oddI o[i] (o.drop (i + 1))) s).2.2 := by
      unfold exStep
      rw [if_neg hem, if_pos hi]
      simp only
      split
      · rename_i hc
        exact ⟨1, by rw [popN, popI_iso rfl]; rfl, .inl ⟨by omega, by simp only; omega, by simp only; omega⟩⟩
      · exact ⟨0, rfl, .inr ⟨rfl, by simp only; omega⟩⟩
    have hs := good_scan e _ 0 q _ hg hq
    have ha := h2 0
    have hb := h2 (1 + q)
    rw [hd, exGo] at ha hb
    simp only [Nat.add_zero, List.getElem?_cons_zero] at ha
    rw [Nat.add_comm 1 q, List.getElem?_cons_succ] at hb
    rw [show i + 1 + q = i + (q + 1) by omega, hb, hs, ha]
    have e1 : (exStep e o[i] (oddI o[i] (o.drop (i + 1))) s).1 = (topE s.st).1 := by
      unfold exStep
      rw [if_neg hem, if_pos hi]
    simp [e1]
  · omega
end Go.Ab.Bi
/- The sequences: one level each, every place in one, their ends. -/
namespace Go.Ab.Bi
theorem grp_lastr (lv kept : List Int) : ∀ k, 0 < k → ∃ a r, grp lv kept k = a ++ [r] ∧ r.getLast? = some (kept.getD (k - 1) 0)
  | 0, h => by omega
  | k + 1, _ => by
    rw [show grp lv kept (k + 1) = if k = 0 ∨ lvl lv (kept.getD k 0) ≠ lvl lv (kept.getD (k - 1) 0) then grp lv kept k ++ [[kept.getD k 0]] else snocL (grp lv kept k) (kept.getD k 0) from rfl]
    split
    · exact ⟨grp lv kept k, [kept.getD k 0], rfl, by simp⟩
    · rename_i hn
      obtain ⟨a, r, h1, h2⟩ := grp_lastr lv kept k (by omega)
      exact ⟨a, r ++ [kept.getD k 0], by rw [h1]; simp [snocL], by simp⟩
/-- A run has one level. -/
theorem grp_same (lv kept : List Int) : ∀ k, ∀ r ∈ grp lv kept k, ∀ x ∈ r, ∀ y ∈ r, lvl lv x = lvl lv y
  | 0, r, h => by simp [grp] at h
  | k + 1, r, h => by
    have IH := grp_same lv kept k
    rw [show grp lv kept (k + 1) = if k = 0 ∨ lvl lv (kept.getD k 0) ≠ lvl lv (kept.getD (k - 1) 0) then grp lv kept k ++ [[kept.getD k 0]] else snocL (grp lv kept k) (kept.getD k 0) from rfl] at h
    split at h
    · rcases List.mem_append.1 h with h | h
      · exact IH r h
      · simp at h
        subst h
        intro x hx y hy
        simp at hx hy
        rw [hx, hy]
    · rename_i hn
      obtain ⟨a, r0, h1, h2⟩ := grp_lastr lv kept k (by omega)
      have hl0 : lvl lv (kept.getD k 0) = lvl lv (kept.getD (k - 1) 0) := by
        by_cases hc : lvl lv (kept.getD k 0) = lvl lv (kept.getD (k - 1) 0)
        · exact hc
        · exact absurd (.inr hc) hn
      rw [h1] at h IH
      have hs : snocL (a ++ [r0]) (kept.getD k 0) = a ++ [r0 ++ [kept.getD k 0]] := by simp [snocL]
      rw [hs] at h
      rcases List.mem_append.1 h with h | h
      · exact IH r (List.mem_append_left _ h)
      · simp only [List.mem_singleton] at h
        subst h
        have I0 := IH r0 (by simp)
        have hm := List.mem_of_getLast? h2
        have key : ∀ x ∈ r0 ++ [kept.getD k 0], lvl lv x = lvl lv (kept.getD k 0) := by
          intro x hx
          rcases List.mem_append.1 hx with hx | hx
          · rw [I0 x hx _ hm, hl0]
          · simp only [List.mem_singleton] at hx
            rw [hx]
        intro x hx y hy
        rw [key x hx, key y hy]
theorem getD_at {rs : List (List Int)} {j : Nat} (hj : j < rs.length) : rs.getD j [] = rs[j] := by
  rw [List.getD_eq_getElem?_getD, List.getElem?_eq_getElem hj]; rfl
/-- What follows a run has its level. -/
theorem fol_lv {o M lv kept : List Int} {e : Int} (he : 0 ≤ e ∧ e ≤ 1) (hM : MOK o M) (hlv : lv = (expl e o).map (·.1)) (hm : ∀ x ∈ kept, 0 ≤ x ∧ x < o.length) (hfl : (grp lv kept kept.length).flatten = kept) {j k : Nat} (hj : j < (grp lv kept kept.length).length) (hk : k < (grp lv kept kept.length).length) (hf : fol o M (grp lv kept kept.length) j = k) :
    ∀ x ∈ (grp lv kept kept.length)[j], ∀ y ∈ (grp lv kept kept.length)[k], lvl lv x = lvl lv y := by
  intro x hx y hy
  have S := grp_same lv kept kept.length
  generalize grp lv kept kept.length = rs at *
  unfold fol at hf
  rw [getD_at hj] at hf
  cases hz : rs[j].getLast? with
  | none => rw [hz] at hf; simp only at hf; omega
  | some z =>
    rw [hz] at hf
    simp only at hf
    have hzm := List.mem_of_getLast? hz
    have hzk : z ∈ kept := by rw [← hfl]; exact List.mem_flatten.2 ⟨_, List.getElem_mem hj, hzm⟩
    have hzr := hm z hzk
    split at hf
    · rename_i hc
      rw [Bool.and_eq_true, decide_eq_true_eq] at hc
      have ho : o[z.toNat]? = some (o.getD z.toNat 0) := by rw [List.getD_eq_getElem?_getD, List.getElem?_eq_getElem (by omega)]; rfl
      have hmm := hM.at_ z.toNat _ ho hc.1
      have hmg : M.getD z.toNat 0 = mt o z.toNat := by rw [List.getD_eq_getElem?_getD, hmm]; rfl
      rw [hmg] at hc hf
      rcases mt_at (c := o) (i := z.toNat) (by omega) with h | ⟨m, h1, h2, h3, -⟩
      · omega
      · rw [h1] at hf
        cases hb : bgn rs (m : Int) with
        | none => rw [hb] at hf; simp only at hf; omega
        | some k2 =>
          rw [hb] at hf
          simp only at hf
          obtain rfl : k2 = k := by omega
          obtain ⟨r, hr, hh⟩ := bgn_some hb
          rw [List.getElem?_eq_getElem hk] at hr
          cases hr
          have hmy := List.mem_of_head? hh
          rw [S _ (List.getElem_mem hj) x hx z hzm, S _ (List.getElem_mem hk) y hy _ hmy]
          have hs := iso_same he ho hc.1 h1
          have g : ∀ i : Nat, i < o.length → lvl lv (i : Int) = (((expl e o)[i]?).map (·.1)).getD 0 := by
            intro i _
            rw [lvl, hlv, List.getD_eq_getElem?_getD, Int.toNat_natCast, List.getElem?_map]
          have e1 : (z.toNat : Int) = z := by omega
          have g1 := g z.toNat (by omega)
          rw [e1] at g1
          rw [g1, g m h3, hs]
    · omega
/-- A chain has one level. -/
theorem chn_lv {F : Nat → Int} {rs : List (List Int)} {lv : List Int} (hF : ∀ j, j < rs.length → F j < 0 ∨ ((j : Int) < F j ∧ F j < rs.length)) (hall : ∀ r ∈ rs, r ≠ []) (S : ∀ r ∈ rs, ∀ x ∈ r, ∀ y ∈ r, lvl lv x = lvl lv y)
    (hL : ∀ (j k : Nat) (hj : j < rs.length) (hk : k < rs.length), F j = k → ∀ x ∈ rs[j], ∀ y ∈ rs[k], lvl lv x = lvl lv y) : ∀ (f j : Nat) (hj : j < rs.length), ∀ x ∈ chn F rs f j, ∀ y ∈ rs[j], lvl lv x = lvl lv y
  | 0, j, hj, x, hx => by simp [chn] at hx
  | f + 1, j, hj, x, hx => by
    intro y hy
    rw [chn_step (List.getElem?_eq_getElem hj)] at hx
    rcases List.mem_append.1 hx with hx | hx
    · exact S _ (List.getElem_mem hj) x hx y hy
    · rcases hF j hj with h | ⟨h1, h2⟩
      · rw [chn_neg h] at hx; simp at hx
      · obtain ⟨k, hk⟩ : ∃ k : Nat, F j = k := ⟨(F j).toNat, by omega⟩
        rw [hk] at hx
        have hkl : k < rs.length := by omega
        obtain ⟨z, hz⟩ := List.exists_mem_of_ne_nil _ (hall _ (List.getElem_mem hkl))
        have a1 := chn_lv hF hall S hL f k hkl x hx z hz
        rw [a1, ← hL j k hj hkl hk y hy z hz]
theorem sq_same {o M lv : List Int} {n : Nat} {e : Int} (he : 0 ≤ e ∧ e ≤ 1) (hM : MOK o M) (hon : o.length = n) (hlv : lv = (expl e o).map (·.1)) {s : Sq} (hs : s ∈ seqsS o M lv n e) : ∀ i ∈ s.l, lvl lv i = s.lev := by
  unfold seqsS at hs
  obtain ⟨j, h1, h2, rfl⟩ := sqsU_mem hs
  have hF := seqsS_F (lv := lv) hM hon
  have hall := grp_all lv (keptL o n) (keptL o n).length
  have S := grp_same lv (keptL o n) (keptL o n).length
  have hL := fun (j k : Nat) hj hk hf => fol_lv (e := e) (o := o) (M := M) (lv := lv) (kept := keptL o n) he hM hlv (fun x hx => by have := keptL_mem o n x hx; omega) keptL_grp (j := j) (k := k) hj hk hf
  intro i hi
  have c1 := chn_lv hF hall S hL
  obtain ⟨-, d2, d3⟩ := chn_facts hF keptL_grp hall (List.getElem?_eq_getElem h1)
  show lvl lv i = lvl lv ((chn _ _ _ _).headD 0)
  have hh := headD_of d2
  rw [← List.head?_eq_getElem?, d3] at hh
  exact c1 _ j h1 i hi _ (List.mem_of_head? hh)
theorem chI_next {F : Nat → Int} {N : Nat} (hF : ∀ j, j < N → F j < 0 ∨ ((j : Int) < F j ∧ F j < N)) : ∀ (f : Nat) (j : Int) (q k : Nat), j < N → (N : Int) - j ≤ f → q ∈ chI F f j → F q = k → k ∈ chI F f j
  | 0, j, q, k, _, _, h, _ => by simp [chI] at h
  | f + 1, j, q, k, h1, h2, h, hk => by
    unfold chI at h ⊢
    split at h
    · rename_i hj
      rw [if_pos hj]
      rcases List.mem_cons.1 h with rfl | h
      · rcases hF j.toNat (by omega) with h3 | ⟨h3, h4⟩
        · omega
        · refine List.mem_cons_of_mem _ ?_
          obtain ⟨f, rfl⟩ : ∃ f', f = f' + 1 := ⟨f - 1, by omega⟩
          unfold chI
          rw [if_pos (by omega), hk]
          exact List.mem_cons_self ..
      · rcases hF j.toNat (by omega) with h3 | ⟨h3, h4⟩
        · have : chI F f (F j.toNat) = [] := by
            cases f with
            | zero => rfl
            | succ f => unfold chI; rw [if_neg (by omega)]
          rw [this] at h
          simp at h
        · exact List.mem_cons_of_mem _ (chI_next hF f (F j.toNat) q k h4 (by omega) h hk)
    · simp at h
theorem chI_mem {F : Nat → Int} {rs : List (List Int)} : ∀ (f : Nat) (j : Int) (k : Nat) (x : Int), k ∈ chI F f j → x ∈ rs.getD k [] → x ∈ chn F rs f j
  | 0, _, _, _, h, _ => by simp [chI] at h
  | f + 1, j, k, x, h, hx => by
    unfold chI at h
    unfold chn
    split at h
    · rename_i hj
      rw [if_pos hj]
      rcases List.mem_cons.1 h with rfl | h
      · exact List.mem_append_left _ hx
      · exact List.mem_append_right _ (chI_mem f (F j.toNat) k x h hx)
    · simp at h
theorem sqsU_in {o : List Int} {F : Nat → Int} {rs : List (List Int)} {lv kept : List Int} {e : Int} : ∀ {k j : Nat}, j < k → con F rs.length j = false → sqOf o F rs lv kept e j ∈ sqsU o F rs lv kept e k
  | 0, j, h, _ => by omega
  | k + 1, j, h, hc => by
    unfold sqsU
    by_cases hj : j = k
    · subst hj
      rw [hc]
      exact List.mem_append_right _ (by simp)
    · have := sqsU_in (o := o) (lv := lv) (kept := kept) (e := e) (show j < k by omega) hc
      split
      · exact this
      · exact List.mem_append_left _ this
theorem con_elim {F : Nat → Int} {N k : Nat} (h : con F N k = true) : ∃ j, j < N ∧ F j = (k : Int) := by
  unfold con at h
  obtain ⟨j, h1, h2⟩ := List.any_eq_true.1 h
  exact ⟨j, by simpa using h1, by simpa using h2⟩
/-- Every run lies in the chain of a run that nothing leads to. -/
theorem chn_in {F : Nat → Int} {N : Nat} (hF : ∀ j, j < N → F j < 0 ∨ ((j : Int) < F j ∧ F j < N)) : ∀ (m j : Nat), j ≤ m → j < N → ∃ k, k < N ∧ con F N k = false ∧ j ∈ chI F N k := by
  intro m
  induction m with
  | zero =>
    intro j hj hN
    obtain rfl : j = 0 := by omega
    refine ⟨0, hN, ?_, ?_⟩
    · cases hc : con F N 0
      · rfl
      · obtain ⟨q, h1, h2⟩ := con_elim hc
        rcases hF q h1 with h | h <;> omega
    · obtain ⟨f, rfl⟩ : ∃ f, N = f + 1 := ⟨N - 1, by omega⟩
      unfold chI
      simp
  | succ m ih =>
    intro j hj hN
    cases hc : con F N j
    · refine ⟨j, hN, hc, ?_⟩
      obtain ⟨f, rfl⟩ : ∃ f, N = f + 1 := ⟨N - 1, by omega⟩
      unfold chI
      rw [if_pos (by omega)]
      simp
    · obtain ⟨q, h1, h2⟩ := con_elim hc
      have hq : q < j := by rcases hF q h1 with h | h <;> omega
      obtain ⟨k, k1, k2, k3⟩ := ih q (by omega) h1
      exact ⟨k, k1, k2, chI_next hF N k q j (by omega) (by omega) k3 h2⟩
theorem seqs_cover {o M lv : List Int} {n : Nat} {e : Int} (hM : MOK o M) (hon : o.length = n) {x : Int} (hx : x ∈ keptL o n) : ∃ s ∈ seqsS o M lv n e, x ∈ s.l := by
  have hF := seqsS_F (lv := lv) hM hon
  rw [← keptL_grp (lv := lv)] at hx
  obtain ⟨r, hr, hxr⟩ := List.mem_flatten.1 hx
  obtain ⟨j, hj⟩ := List.mem_iff_getElem?.1 hr
  have hjl := (List.getElem?_eq_some_iff.1 hj).1
  obtain ⟨k, k1, k2, k3⟩ := chn_in hF j j (Nat.le_refl _) hjl
  refine ⟨_, sqsU_in k1 k2, ?_⟩
  refine chI_mem _ _ j x k3 ?_
  rw [List.getD_eq_getElem?_getD, hj]
  exact hxr
/-- The places from k on that stay. -/
def keptR (o : List Int) : Nat → Nat → List Int
  | _, 0 => []
  | k, m + 1 => if gone (o.getD k 0) then keptR o (k + 1) m else (k : Int) :: keptR o (k + 1) m
theorem keptL_add (o : List Int) : ∀ (m k : Nat), keptL o (k + m) = keptL o k ++ keptR o k m
  | 0, k => by simp [keptR]
  | m + 1, k => by
    have := keptL_add o m (k + 1)
    rw [show k + (m + 1) = k + 1 + m by omega, this, keptR]
    rw [show keptL o (k + 1) = if gone (o.getD k 0) then keptL o k else keptL o k ++ [(k : Int)] from rfl]
    split <;> simp
theorem rbef_eq (o lv : List Int) (e : Int) : ∀ k, rbef o lv e k = match (keptL o k).getLast? with | some z => lvl lv z | none => e
  | 0 => rfl
  | k + 1 => by
    rw [rbef, rbef_eq o lv e k]
    rw [show keptL o (k + 1) = if gone (o.getD k 0) then keptL o k else keptL o k ++ [(k : Int)] from rfl]
    split
    · rfl
    · simp [lvl]
theorem raft_eq {o lv : List Int} {n : Nat} (hon : o.length = n) (hlv : lv.length = n) (e : Int) : ∀ (m k : Nat), n - k = m → raft e (o.drop k) (lv.drop k) = match (keptR o k m).head? with | some z => lvl lv z | none => e
  | 0, k, h => by
    rw [List.drop_of_length_le (by omega), List.drop_of_length_le (by omega)]
    rfl
  | m + 1, k, h => by
    have IH := raft_eq hon hlv e m (k + 1) (by omega)
    rw [List.drop_eq_getElem_cons (show k < o.length by omega), List.drop_eq_getElem_cons (show k < lv.length by omega), raft, keptR, IH]
    have e1 : o.getD k 0 = o[k] := by rw [List.getD_eq_getElem?_getD, List.getElem?_eq_getElem (by omega)]; rfl
    rw [e1]
    split
    · rfl
    · simp [lvl, List.getD_eq_getElem?_getD, List.getElem?_eq_getElem (show k < lv.length by omega)]
theorem idx_app {a : List Int} {x : Int} {b : List Int} (h : x ∉ a) : (a ++ x :: b).idxOf x = a.length := by
  rw [List.idxOf_append, if_neg h, List.idxOf_cons_self]
  omega
theorem kept_split {o : List Int} {n : Nat} {x : Int} (hx : x ∈ keptL o n) : ∃ g : Nat, x = g ∧ g < n ∧ keptL o n = keptL o g ++ (g : Int) :: keptR o (g + 1) (n - (g + 1)) ∧ (g : Int) ∉ keptL o g := by
  have h1 := keptL_mem o n x hx
  obtain ⟨g, rfl⟩ : ∃ g : Nat, x = g := ⟨x.toNat, by omega⟩
  have hg : g < n := by omega
  have hng : (g : Int) ∉ keptL o g := fun h => by have := keptL_mem o g _ h; omega
  refine ⟨g, rfl, hg, ?_, hng⟩
  have e1 := keptL_add o (n - (g + 1)) (g + 1)
  rw [show g + 1 + (n - (g + 1)) = n by omega] at e1
  have e2 : keptL o (g + 1) = if gone (o.getD g 0) then keptL o g else keptL o g ++ [(g : Int)] := rfl
  by_cases hgo : gone (o.getD g 0) = true
  · rw [if_pos hgo] at e2
    rw [e1, e2] at hx
    rcases List.mem_append.1 hx with h | h
    · exact absurd h hng
    · have key : ∀ (m k : Nat), ∀ z ∈ keptR o k m, (k : Int) ≤ z := by
        intro m
        induction m with
        | zero => intro k z hz; simp [keptR] at hz
        | succ m ih =>
          intro k z hz
          unfold keptR at hz
          split at hz
          · have := ih (k + 1) z hz; omega
          · rcases List.mem_cons.1 hz with rfl | hz
            · omega
            · have := ih (k + 1) z hz; omega
      have := key _ _ _ h
      omega
  · rw [if_neg hgo] at e2
    rw [e1, e2]
    simp
/-- The ends of a sequence are the reference's. -/
theorem sq_ends {o M lv : List Int} {n : Nat} {e : Int} (hM : MOK o M) (hon : o.length = n) (hln : lv.length = n) {s : Sq} (hs : s ∈ seqsS o M lv n e) : rendS o lv e (s.l.headD 0) (s.l.getLastD 0) = (s.sos, s.eos) ∧ s.lev = lvl lv (s.l.headD 0) ∧ s.l ≠ [] := by
  unfold seqsS at hs
  obtain ⟨j, h1, h2, rfl⟩ := sqsU_mem hs
  obtain ⟨d1, d2, d3⟩ := chn_facts (seqsS_F (lv := lv) hM hon) keptL_grp (grp_all lv (keptL o n) (keptL o n).length) (List.getElem?_eq_getElem h1)
  refine ⟨?_, rfl, d2⟩
  unfold sqOf
  simp only
  generalize hl : chn (fol o M (grp lv (keptL o n) (keptL o n).length)) (grp lv (keptL o n) (keptL o n).length) (grp lv (keptL o n) (keptL o n).length).length j = l at *
  have hf := d1.subset (List.mem_of_getElem? (headD_of d2))
  have hg := d1.subset (List.mem_of_getElem? (lastD_of d2))
  generalize l.headD 0 = f at *
  generalize l.getLastD 0 = g at *
  obtain ⟨f, rfl, f1, f2, f3⟩ := kept_split hf
  obtain ⟨g, rfl, g1, g2, g3⟩ := kept_split hg
  have p1 : (keptL o n).idxOf (f : Int) = (keptL o f).length := by rw [f2]; exact idx_app f3
  have q1 : (keptL o n).idxOf (g : Int) = (keptL o g).length := by rw [g2]; exact idx_app g3
  unfold rendS endS
  rw [p1, q1, rbef_eq, Int.toNat_natCast, Int.toNat_natCast, raft_eq hon hln e (n - (g + 1)) (g + 1) rfl]
  have E1 : (match (keptL o f).getLast? with | some z => lvl lv z | none => e) = if 0 < (keptL o f).length then lvl lv ((keptL o n).getD ((keptL o f).length - 1) 0) else e := by
    rw [f2]
    cases hk : (keptL o f).getLast? with
    | none =>
      have := List.getLast?_eq_none_iff.1 hk
      rw [this]
      simp
    | some z =>
      have hne : keptL o f ≠ [] := by intro h; rw [h] at hk; simp at hk
      have hp := List.length_pos_iff.2 hne
      rw [if_pos hp, List.getD_eq_getElem?_getD, List.getElem?_append_left (by omega), ← List.getLast?_eq_getElem?, hk]
      rfl
  have E2 : (if ini (o.getD g 0) = true then e else match (keptR o (g + 1) (n - (g + 1))).head? with | some z => lvl lv z | none => e) = if (keptL o g).length + 1 < (keptL o n).length ∧ ini (o.getD g 0) = false then lvl lv ((keptL o n).getD ((keptL o g).length + 1) 0) else e := by
    rw [g2]
    cases hi : ini (o.getD g 0)
    · cases hk : keptR o (g + 1) (n - (g + 1)) with
      | nil => simp
      | cons z r =>
        rw [if_neg (by simp), if_pos (by simp)]
        rw [List.getD_eq_getElem?_getD, List.getElem?_append_right (by omega)]
        simp
    · simp
  rw [E1, E2]
end Go.Ab.Bi
/- The reference: Bracket. -/
namespace Go.Ab
open Go.Proofs
namespace Bi
def refPrs : List Int := [40, 41, 60, 62, 91, 93, 123, 125, 171, 187, 8804, 8805, 12296, 12297, 12298, 12299, 12300, 12301, 12302, 12303, 12304, 12305]
def rbrL : List Int → Int → Int × Int
  | a :: b :: t, r => if a = 60 ∨ a = 171 ∨ a = 8804 then rbrL t r else if a = r then (1, b) else if b = r then (2, a) else rbrL t r
  | _, _ => (0, 0)
theorem rbr_eq (r : Int) : rbrL refPrs r = brS r := by
  by_cases h0 : 40 = r
  · subst h0; rfl
  · by_cases h1 : 41 = r
    · subst h1; rfl
    · by_cases h2 : 91 = r
      · subst h2; rfl
      · by_cases h3 : 93 = r
        · subst h3; rfl
        · by_cases h4 : 123 = r
          · subst h4; rfl
          · by_cases h5 : 125 = r
            · subst h5; rfl
            · by_cases h6 : 12296 = r
              · subst h6; rfl
              · by_cases h7 : 12297 = r
                · subst h7; rfl
                · by_cases h8 : 12298 = r
                  · subst h8; rfl
                  · by_cases h9 : 12299 = r
                    · subst h9; rfl
                    · by_cases h10 : 12300 = r
                      · subst h10; rfl
                      · by_cases h11 : 12301 = r
                        · subst h11; rfl
                        · by_cases h12 : 12302 = r
                          · subst h12; rfl
                          · by_cases h13 : 12303 = r
                            · subst h13; rfl
                            · by_cases h14 : 12304 = r
                              · subst h14; rfl
                              · by_cases h15 : 12305 = r
                                · subst h15; rfl
                                · simp [rbrL, refPrs, brS, othS, brTab, h0, h1, h2, h3, h4, h5, h6, h7, h8, h9, h10, h11, h12, h13, h14, h15]
section
variable {prim : FuncId → Option Prim} (d : Nat) (cfg : Cfg) (h : Heap)
theorem refPrs_ok (hp : prim 91 = none) : callM md (K prim (d + 1)) cfg 91 [] h = some (rl refPrs, h) := by
  refine call0 rfl hp Try.func91 rfl rfl rfl (by simp) ?_
  simp
  exact frz_ints (d := 4) (k := .i32) (l := refPrs) rfl (Nat.zero_le _) rfl
set_option maxHeartbeats 1000000 in
theorem rbracket_ok (hp : prim 84 = none) (h91 : prim 91 = none) (r : Int) : callM md (K prim (d + 2)) cfg 84 [.int .i32 r] h = some (.tup [.int .i64 (brS r).1, .int .i32 (brS r).2], h) := by
  refine call0 rfl hp Try.func84 rfl rfl rfl (by simp) ?_
  have hP := fun cfg h => refPrs_ok (prim := prim) d cfg h h91
  rw [← rbr_eq r]
  have hl : refPrs.length = 22 := rfl
  generalize refPrs = L at *
  simp (disch := omega) [hP]
  refine wC_loop (fun m fr H => ∃ (k : Nat), k ≤ 11 ∧ m = 11 - k ∧ rbrL L r = rbrL (L.drop (2 * k)) r ∧ H = [] ∧ Slots 54 [(0, .int .i32 r), (4, rl L), (5, .int .i64 (2 * k : Nat))] fr) (m := 11) (by omega) ⟨0, by omega, by omega, rfl, rfl, by simp⟩ ?_
  rintro m fr H ⟨k, hk, rfl, hF, rfl, hs⟩
  obtain ⟨j1, rfl⟩ := hs.ex
  clear hs
  by_cases hlt : k < 11
  · obtain ⟨a, ha⟩ : ∃ a, L[2 * k]? = some a := ⟨_, List.getElem?_eq_getElem (by omega)⟩
    obtain ⟨b, hb⟩ : ∃ b, L[2 * k + 1]? = some b := ⟨_, List.getElem?_eq_getElem (by omega)⟩
    have hdr : L.drop (2 * k) = a :: b :: L.drop (2 * k + 2) := by rw [drop_at ha, drop_at hb]
    have hkI : 2 * (k : Int) < 22 := by omega
    have hn0 : (2 * (k : Int)).toNat = 2 * k := by omega
    have hn1 : (2 * (k : Int) + 1).toNat = 2 * k + 1 := by omega
    rw [hdr] at hF
    by_cases hsk : a = 60 ∨ a = 171 ∨ a = 8804
    · have hF2 : rbrL L r = rbrL (L.drop (2 * k + 2)) r := by rw [hF, rbrL, if_pos hsk]
      rcases hsk with h1 | h1 | h1
      · simp (disch := omega) [hl, hkI, ha, hn0, h1, wrap64, -getElem?_pos]
        exact Rnd_of (m' := 11 - (k + 1)) (by omega) ⟨k + 1, by omega, rfl, hF2, rfl, by simp (disch := omega); omega⟩
      · simp (disch := omega) [hl, hkI, ha, hn0, h1, wrap64, -getElem?_pos]
        exact Rnd_of (m' := 11 - (k + 1)) (by omega) ⟨k + 1, by omega, rfl, hF2, rfl, by simp (disch := omega); omega⟩
      · simp (disch := omega) [hl, hkI, ha, hn0, h1, wrap64, -getElem?_pos]
        exact Rnd_of (m' := 11 - (k + 1)) (by omega) ⟨k + 1, by omega, rfl, hF2, rfl, by simp (disch := omega); omega⟩
    · have hF1 : rbrL L r = if a = r then (1, b) else if b = r then (2, a) else rbrL (L.drop (2 * k + 2)) r := by rw [hF, rbrL, if_neg hsk]
      have s1 : ¬ a = 60 := fun e => hsk (.inl e)
      have s2 : ¬ a = 171 := fun e => hsk (.inr (.inl e))
      have s3 : ¬ a = 8804 := fun e => hsk (.inr (.inr e))
      simp (disch := omega) [hl, hkI, ha, hn0, s1, s2, s3, -getElem?_pos]
      by_cases hr1 : a = r
      · rw [if_pos hr1] at hF1
        simp (disch := omega) [hr1]
        refine wC_draw 6 (by kernel_rfl) ?_
        simp (disch := omega) [hb, hn1, hF1, wrap64, -getElem?_pos]
      · rw [if_neg hr1] at hF1
        simp (disch := omega) [hr1, hb, hn1, wrap64, -getElem?_pos]
        by_cases hr2 : b = r
        · rw [if_pos hr2] at hF1
          simp (disch := omega) [hr2]
          refine wC_draw 5 (by kernel_rfl) ?_
          simp (disch := omega) [ha, hn0, hF1, -getElem?_pos]
        · rw [if_neg hr2] at hF1
          simp (disch := omega) [hr2, wrap64]
          exact Rnd_of (m' := 11 - (k + 1)) (by omega) ⟨k + 1, by omega, rfl, hF1, rfl, by simp (disch := omega); omega⟩
  · obtain rfl : k = 11 := by omega
    rw [List.drop_of_length_le (by omega)] at hF
    simp (disch := omega) [hl, hF, rbrL]
end
end Bi
end Go.Ab
