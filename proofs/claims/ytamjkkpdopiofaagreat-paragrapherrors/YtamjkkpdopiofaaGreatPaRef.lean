/- Several texts of this proof in one. -/
import Derived.Test.YtamjkkpdopiofaaGreatPiF
import Derived.Test.YtamjkkpdopiofaaGreatAbW3
/- Slices that grow and shrink at their end. -/
namespace Go.Ab

/-- A slice of elements of k cells: nil, or the first part of a block. -/
def Stk (h : Heap) (lo k : Nat) (v : V) (cs : List V) : Prop :=
  (v = .nils ∧ cs = []) ∨ ∃ b n cap J, v = .sl b 0 n cap k ∧ lo ≤ b ∧ cs.length = n * k ∧ blockOf h b = some (cs ++ J) ∧ (cs ++ J).length = cap * k ∧ n ≤ cap

theorem Stk.blk {h : Heap} {lo k : Nat} {v : V} {cs : List V} (ho : Stk h lo k v cs) {b : Nat} (hb : blkOf v = some b) : lo ≤ b ∧ b < h.length := by
  rcases ho with ⟨rfl, rfl⟩ | ⟨c, n, cap, J, rfl, h1, _, hc, _⟩
  · cases hb
  · cases hb; exact ⟨h1, blockOf_lt hc⟩
theorem Stk.of_blk {h h' : Heap} {lo k : Nat} {v : V} {cs : List V} (ho : Stk h lo k v cs) (hh : ∀ b, blkOf v = some b → blockOf h' b = blockOf h b) : Stk h' lo k v cs := by
  rcases ho with ⟨rfl, rfl⟩ | ⟨c, n, cap, J, rfl, h1, h2, hc, h3, h4⟩
  · exact .inl ⟨rfl, rfl⟩
  · exact .inr ⟨c, n, cap, J, rfl, h1, h2, by rw [hh c rfl]; exact hc, h3, h4⟩
theorem Stk.push {h : Heap} {lo k : Nat} {v : V} {cs : List V} (ho : Stk h lo k v cs) (x : Heap) : Stk (h ++ x) lo k v cs :=
  ho.of_blk fun _ hb => blockOf_left (ho.blk hb).2
theorem Stk.set {h : Heap} {lo k c : Nat} {v : V} {cs : List V} (ho : Stk h lo k v cs) (hc : blkOf v ≠ some c) (x : Option (List V)) : Stk (h.set c x) lo k v cs :=
  ho.of_blk fun b hb => blockOf_set_ne' (by rintro rfl; exact hc hb)
theorem Stk.leaf {h : Heap} {lo k : Nat} {v : V} {cs : List V} (ho : Stk h lo k v cs) : v.leaf = true := by
  rcases ho with ⟨rfl, _⟩ | ⟨b, n, cap, J, rfl, _⟩ <;> rfl
theorem Stk.cells {h : Heap} {lo k : Nat} {v : V} {cs : List V} (ho : Stk h lo k v cs) : cellsOf v = some [v] := by
  rcases ho with ⟨rfl, _⟩ | ⟨b, n, cap, J, rfl, _⟩ <;> rfl
theorem Stk.len {P : Program} {t e : TypeId} {h : Heap} {lo k : Nat} {v : V} {cs : List V} (hu : P.underlying t = some (.slice e)) (hk : 0 < k) (ho : Stk h lo k v cs) : lenV P t v = some (.int .i64 (cs.length / k : Nat)) := by
  rcases ho with ⟨rfl, rfl⟩ | ⟨b, n, cap, J, rfl, _, hn, _⟩
  · rw [lenN_eq hu]; simp
  · rw [lenS_eq hu, hn, Nat.mul_div_cancel _ hk]
theorem Stk.pos {h : Heap} {lo k : Nat} {v : V} {cs : List V} (ho : Stk h lo k v cs) (hc : cs ≠ []) : ∃ b n cap J, v = .sl b 0 n cap k ∧ lo ≤ b ∧ b < h.length ∧ cs.length = n * k ∧ blockOf h b = some (cs ++ J) ∧ (cs ++ J).length = cap * k ∧ n ≤ cap := by
  rcases ho with ⟨rfl, rfl⟩ | ⟨b, n, cap, J, rfl, h1, h2, h3, h4, h5⟩
  · exact absurd rfl hc
  · exact ⟨b, n, cap, J, rfl, h1, blockOf_lt h3, h2, h3, h4, h5⟩
/-- A shorter one. -/
theorem Stk.pop {h : Heap} {lo k b n cap m : Nat} {cs cs' r : List V} (ho : Stk h lo k (.sl b 0 n cap k) cs) (hc : cs = cs' ++ r) (hm : cs'.length = m * k) (hk : 0 < k) : Stk h lo k (.sl b 0 m cap k) cs' := by
  rcases ho with ⟨hh, _⟩ | ⟨b', n', cap', J, hv, h1, h2, h3, h4, h5⟩
  · cases hh
  · cases hv
    subst hc
    refine .inr ⟨b, m, cap, r ++ J, rfl, h1, hm, by rw [h3, List.append_assoc], by rw [← List.append_assoc]; exact h4, ?_⟩
    rw [List.length_append, hm] at h2
    have : m * k ≤ n * k := by omega
    have := Nat.le_of_mul_le_mul_right this hk
    omega

@[simp] theorem isMap_setI {k : IntKind} {l : List Int} {i : Nat} {x : Int} : isMap ((l.map (V.int k)).set i (.int k x)) = false := by rw [ints_set]; exact isMap_ints
theorem putAt_len : ∀ (vs cs : List V) (off : Nat), (putAt cs off vs).length = cs.length
  | [], _, _ => rfl
  | v :: r, cs, off => by rw [putAt_cons, putAt_len r]; simp [setS]
theorem putAt_mid : ∀ (new a J : List V), new.length ≤ J.length → putAt (a ++ J) a.length new = a ++ new ++ J.drop new.length
  | [], a, J, _ => by simp
  | v :: r, a, J, h => by
    rcases J with _ | ⟨x, J⟩
    · simp at h
    · have e : setS (a ++ x :: J) a.length v = (a ++ [v]) ++ J := by
        rw [setS, List.set_append_right _ _ (Nat.le_refl _)]
        simp
      have := putAt_mid r (a ++ [v]) J (by simpa using h)
      rw [putAt_cons, e]
      simp only [List.length_append, List.length_cons, List.length_nil] at this
      rw [this]
      simp

section
variable {P : Program} {md : FuncId → Nat} {call : Callf} {cfg : Cfg} {n : Nat}
/-- append of one element. -/
theorem wS_appP {dst : Option Tmp} {fr : List V} {ops : Array Oper} {rest : List Oper} {Q : KontO} {h : Heap} {d : V} {cs new : List V} {lo k y : Nat} (ho : Stk h lo k d cs) (hlo : cfg.lo ≤ lo) (hthr : cfg.thr ≤ lo) (hH : lo ≤ h.length)
    (hnew : new.length = k) (hmn : isMap new = false) (hk : 0 < k) (hsz : (cs.length / k + 1) * y ≤ 1099511627776) (hlen : cs.length / k + 1 ≤ 1099511627776)
    (H : ∀ d' h', Stk h' lo k d' (cs ++ new) → d'.leaf = true → h'.take lo = h.take lo → h.length ≤ h'.length → (∀ c, blkOf d ≠ some c → c < h.length → blockOf h' c = blockOf h c) → (blkOf d' = blkOf d ∨ blkOf d' = some h.length) → @wO P md call cfg ⟨ops⟩ ⟨rest⟩ (put fr dst d') h' ⟨Q⟩) :
    @wS P md call cfg ⟨dst⟩ ⟨fr⟩ (appD cfg h k y d 1 new) ⟨ops⟩ ⟨rest⟩ ⟨Q⟩ := by
  rcases ho with ⟨rfl, rfl⟩ | ⟨b, n, cap, J, rfl, h1, h2, h3, h4, h5⟩
  · simp only [List.length_nil, Nat.zero_div, Nat.zero_add] at hsz hlen
    rw [appD_nils hsz hlen (by omega), wS_some]
    refine H _ _ (.inr ⟨h.length, 1, 1, [], rfl, hH, by simpa using hnew, ?_, by simpa using hnew, Nat.le_refl _⟩) rfl ?_ (by simp) (fun c _ hc => blockOf_left hc) (.inr rfl)
    · simp [hmn]
    · rw [List.take_append_of_le_length hH]
  · rw [h2, Nat.mul_div_cancel _ hk] at hsz hlen
    have hbl := blockOf_lt h3
    have hw : cfg.wr b = true := by simp only [Cfg.wr, Bool.or_eq_true, decide_eq_true_eq]; left; omega
    by_cases hc : n + 1 ≤ cap
    · have hr : roomy (n + 1) y = true := by simp [roomy]; omega
      have hJ : new.length ≤ J.length := by
        simp only [List.length_append] at h4
        have : (n + 1) * k ≤ cap * k := Nat.mul_le_mul_right _ hc
        rw [Nat.add_mul] at this
        omega
      have hst : storeCellsV cfg h b (0 + n * k) new = some (h.set b (some (cs ++ new ++ J.drop new.length))) := by
        rw [storeCells_eq, h3]
        simp only [Option.bind_some]
        rw [Nat.zero_add, ← h2, if_pos, putAt_mid _ _ _ hJ]
        simp only [hw, Bool.and_true, Bool.and_eq_true, decide_eq_true_eq, Bool.or_eq_true, List.length_append]
        exact ⟨by omega, .inl (by omega)⟩
      have e : appD cfg h k y (.sl b 0 n cap k) 1 new = some (.sl b 0 (n + 1) cap k, h.set b (some (cs ++ new ++ J.drop new.length))) := by
        simp only [appD, hr, Bool.and_true, hc, if_true, hst, decide_true]
      rw [e, wS_some]
      have hnm : isMap (cs ++ new ++ J.drop new.length) = false := by
        have hm0 := isMap_of_block h3
        cases cs with
        | nil => 
          cases new with
          | nil => simp at hnew; omega
          | cons x new => cases x <;> first | rfl | simp [isMap] at hmn
        | cons x cs => cases x <;> first | rfl | simp [isMap] at hm0
      refine H _ _ (.inr ⟨b, n + 1, cap, J.drop new.length, rfl, h1, ?_, ?_, ?_, hc⟩) rfl ?_ (by simp) (fun c hcb hc => blockOf_set_ne' (by rintro rfl; exact hcb rfl)) (.inl rfl)
      · rw [List.length_append, h2, hnew, Nat.add_mul, Nat.one_mul]
      · rw [blockOf_set_self hbl, hnm]
        rfl
      · simp only [List.length_append, List.length_drop] at h4 ⊢
        omega
      · rw [List.take_set_of_le h1]
    · have hcap : cap = n := by omega
      subst hcap
      have hJ : J = [] := by
        simp only [List.length_append] at h4
        exact List.length_eq_zero_iff.1 (by omega)
      subst hJ
      rw [List.append_nil] at h3
      rw [appD_grow h3 hw hsz hlen (by omega) (by omega), wS_some, ← h2, List.take_length]
      refine H _ _ (.inr ⟨h.length, cap + 1, cap + 1, [], rfl, hH, ?_, ?_, ?_, Nat.le_refl _⟩) rfl ?_ (by simp) (fun c hcb hc => ?_) (.inr rfl)
      · rw [List.length_append, h2, hnew, Nat.add_mul, Nat.one_mul]
      · have := isMap_append (isMap_of_block h3) hmn
        simp [this]
      · rw [List.append_nil, List.length_append, h2, hnew, Nat.add_mul, Nat.one_mul]
      · rw [List.take_append_of_le_length (by simpa using hH), List.take_set_of_le h1]
      · rw [blockOf_left (by simpa using hc), blockOf_set_ne' (by rintro rfl; exact hcb rfl)]
end
end Go.Ab
/- The classes of runes: the program's find. -/
namespace Go.Ab
open Go.Proofs
namespace Bi
def findS (r : Int) : Row :=
  if 44032 ≤ r ∧ r ≤ 55203 then (if (r - 44032) % 28 = 0 then (0, 0, 12, 3, 18, 0, 0) else (0, 0, 13, 3, 18, 0, 0))
  else if r ≤ 161 then searchS tab1 r else if r ≤ 1642 then searchS tab2 r else if r ≤ 8237 then searchS tab3 r else searchS tab4 r
/-- The bidirectional class. -/
def bidi (r : Int) : Int := (findS r).2.2.2.2.2.1

section
variable {prim : FuncId → Option Prim} (d : Nat) (cfg : Cfg) (h : Heap)
theorem wrap32 {n : Int} (h1 : -2147483648 ≤ n) (h2 : n ≤ 2147483647) : IntKind.i32.wrap n = n := by
  have := IntWalk.i32_in n ⟨by omega, by omega⟩
  exact this
@[simp] theorem cv5_3 {h : Heap} {k : IntKind} {n : Int} : convV Tryz.prog h 5 3 (.int k n) = some (.int .i64 (IntKind.i64.wrap n), h) := by kernel_rfl
end
end Bi
end Go.Ab
/- The reference's classes of runes: a chain of tests. -/
namespace Go.Ab
open Go.Proofs
namespace Bi
/-- The reference's table: up to which rune, and the classes. -/
def refTbl : List (Int × List Int) := [(-1, [0, 0, 0, 0, 0]), (8, [3, 0, 7, 9, 0]), (9, [3, 0, 10, 11, 0]), (10, [2, 1, 3, 10, 0]), (11, [3, 1, 1, 11, 0]), (12, [3, 1, 1, 12, 0]), (13, [1, 1, 2, 10, 0]), (31, [3, 0, 7, 9, 0]), (32, [0, 2, 4, 12, 0]), (33, [0, 0, 15, 13, 0]), (34, [0, 0, 14, 13, 0]), (37, [0, 0, 0, 5, 0]), (38, [0, 0, 0, 13, 0]), (39, [0, 7, 14, 13, 0]), (40, [0, 0, 12, 13, 0]), (41, [0, 0, 13, 13, 0]), (42, [0, 0, 0, 13, 0]), (43, [0, 0, 0, 4, 0]), (44, [0, 6, 16, 7, 0]), (45, [0, 0, 11, 4, 0]), (46, [0, 7, 16, 7, 0]), (47, [0, 0, 10, 7, 0]), (57, [0, 4, 17, 3, 0]), (58, [0, 5, 16, 7, 0]), (59, [0, 6, 16, 13, 0]), (62, [0, 0, 0, 13, 0]), (63, [0, 0, 15, 13, 0]), (64, [0, 0, 0, 13, 0]), (90, [0, 3, 0, 0, 0]), (91, [0, 0, 12, 13, 0]), (92, [0, 0, 0, 13, 0]), (93, [0, 0, 13, 13, 0]), (94, [0, 0, 0, 13, 0]), (95, [0, 8, 0, 13, 0]), (96, [0, 0, 0, 13, 0]), (122, [0, 3, 0, 0, 0]), (123, [0, 0, 12, 13, 0]), (124, [0, 0, 10, 13, 0]), (125, [0, 0, 13, 13, 0]), (126, [0, 0, 0, 13, 0]), (132, [3, 0, 7, 9, 0]), (133, [3, 1, 1, 10, 0]), (159, [3, 0, 7, 9, 0]), (160, [0, 0, 9, 7, 0]), (161, [0, 0, 12, 13, 0]), (165, [0, 0, 0, 5, 0]), (169, [0, 0, 0, 13, 0]), (170, [0, 3, 0, 0, 0]), (171, [0, 0, 14, 13, 0]), (172, [0, 0, 0, 13, 0]), (173, [3, 10, 10, 9, 4]), (180, [0, 0, 0, 13, 0]), (181, [0, 3, 0, 0, 0]), (182, [0, 0, 0, 13, 0]), (183, [0, 5, 0, 13, 0]), (185, [0, 0, 0, 13, 0]), (186, [0, 3, 0, 0, 0]), (187, [0, 0, 14, 13, 0]), (191, [0, 0, 0, 13, 0]), (767, [0, 3, 0, 0, 0]), (879, [4, 10, 7, 8, 4]), (1423, [0, 3, 0, 0, 0]), (1469, [4, 10, 7, 8, 4]), (1470, [0, 0, 10, 1, 0]), (1479, [4, 10, 7, 8, 4]), (1487, [0, 0, 0, 0, 0]), (1514, [0, 3, 0, 1, 0]), (1535, [0, 0, 0, 0, 0]), (1541, [7, 0, 0, 6, 0]), (1547, [0, 0, 0, 0, 0]), (1548, [0, 6, 16, 7, 0]), (1551, [0, 0, 0, 0, 0]), (1562, [4, 10, 7, 8, 4]), (1563, [0, 0, 15, 2, 0]), (1564, [3, 10, 7, 2, 4]), (1566, [0, 0, 0, 0, 0]), (1567, [0, 0, 15, 2, 0]), (1568, [0, 3, 0, 2, 2]), (1569, [0, 3, 0, 2, 0]), (1573, [0, 3, 0, 2, 1]), (1574, [0, 3, 0, 2, 2]), (1575, [0, 3, 0, 2, 1]), (1576, [0, 3, 0, 2, 2]), (1577, [0, 3, 0, 2, 1]), (1582, [0, 3, 0, 2, 2]), (1586, [0, 3, 0, 2, 1]), (1599, [0, 3, 0, 2, 2]), (1600, [0, 3, 0, 2, 3]), (1607, [0, 3, 0, 2, 2]), (1608, [0, 3, 0, 2, 1]), (1610, [0, 3, 0, 2, 2]), (1631, [4, 10, 7, 8, 4]), (1641, [0, 4, 17, 6, 0]), (1642, [0, 0, 0, 5, 0]), (1644, [0, 6, 16, 6, 0]), (1647, [0, 0, 0, 0, 0]), (1648, [4, 10, 7, 8, 4]), (1655, [0, 3, 0, 2, 1]), (1671, [0, 3, 0, 2, 2]), (1689, [0, 3, 0, 2, 1]), (1727, [0, 3, 0, 2, 2]), (1739, [0, 3, 0, 2, 1]), (1747, [0, 3, 0, 2, 2]), (1749, [0, 0, 0, 0, 0]), (1756, [4, 10, 7, 8, 4]), (1775, [0, 0, 0, 0, 0]), (1785, [0, 4, 17, 3, 0]), (2303, [0, 0, 0, 0, 0]), (2306, [4, 10, 7, 8, 0]), (2307, [8, 10, 7, 0, 0]), (2361, [0, 3, 0, 0, 0]), (2363, [0, 0, 0, 0, 0]), (2364, [4, 10, 7, 8, 0]), (2365, [0, 0, 0, 0, 0]), (2368, [8, 10, 7, 0, 0]), (2376, [4, 10, 7, 8, 0]), (2380, [8, 10, 7, 0, 0]), (2381, [4, 10, 7, 8, 0]), (2405, [0, 0, 0, 0, 0]), (2415, [0, 4, 17, 0, 0]), (4351, [0, 0, 0, 0, 0]), (4447, [9, 3, 18, 0, 0]), (4519, [10, 3, 18, 0, 0]), (4607, [11, 3, 18, 0, 0]), (8191, [0, 0, 0, 0, 0]), (8198, [0, 2, 10, 12, 0]), (8199, [0, 0, 9, 12, 0]), (8202, [0, 2, 10, 12, 0]), (8203, [3, 0, 5, 9, 0]), (8204, [4, 10, 7, 9, 0]), (8205, [5, 11, 6, 9, 3]), (8206, [3, 10, 7, 0, 4]), (8207, [3, 10, 7, 1, 4]), (8208, [0, 0, 10, 13, 0]), (8209, [0, 0, 9, 13, 0]), (8212, [0, 0, 10, 13, 0]), (8215, [0, 0, 0, 13, 0]), (8216, [0, 0, 14, 13, 0]), (8217, [0, 7, 14, 13, 0]), (8218, [0, 0, 12, 13, 0]), (8219, [0, 0, 0, 0, 0]), (8221, [0, 0, 14, 13, 0]), (8231, [0, 0, 0, 0, 0]), (8232, [3, 1, 1, 12, 0]), (8233, [3, 1, 1, 10, 0]), (8234, [3, 10, 7, 14, 4]), (8235, [3, 10, 7, 16, 4]), (8236, [3, 10, 7, 18, 4]), (8237, [3, 10, 7, 15, 4]), (8238, [3, 10, 7, 17, 4]), (8239, [0, 0, 0, 0, 0]), (8244, [0, 0, 0, 5, 0]), (8254, [0, 0, 0, 0, 0]), (8256, [0, 8, 0, 13, 0]), (8287, [0, 0, 0, 0, 0]), (8288, [3, 10, 8, 9, 4]), (8293, [0, 0, 0, 0, 0]), (8294, [3, 10, 7, 19, 0]), (8295, [3, 10, 7, 20, 0]), (8296, [3, 10, 7, 21, 0]), (8297, [3, 10, 7, 22, 0]), (8351, [0, 0, 0, 0, 0]), (8399, [0, 0, 0, 5, 0]), (8432, [4, 10, 7, 8, 4]), (8591, [0, 0, 0, 0, 0]), (8959, [0, 0, 0, 13, 0]), (9727, [0, 0, 0, 0, 0]), (10175, [14, 0, 18, 13, 0]), (12287, [0, 0, 0, 0, 0]), (12288, [0, 2, 10, 12, 0]), (12290, [0, 0, 13, 13, 0]), (12292, [0, 0, 0, 0, 0]), (12295, [0, 0, 18, 0, 0]), (12296, [0, 0, 12, 13, 0]), (12297, [0, 0, 13, 13, 0]), (12298, [0, 0, 12, 13, 0]), (12299, [0, 0, 13, 13, 0]), (12300, [0, 0, 12, 13, 0]), (12301, [0, 0, 13, 13, 0]), (12302, [0, 0, 12, 13, 0]), (12303, [0, 0, 13, 13, 0]), (12304, [0, 0, 12, 13, 0]), (12305, [0, 0, 13, 13, 0]), (12352, [0, 0, 0, 0, 0]), (12438, [0, 0, 18, 0, 0]), (12440, [0, 0, 0, 0, 0]), (12442, [4, 10, 7, 8, 4]), (12448, [0, 0, 0, 0, 0]), (12538, [0, 9, 18, 0, 0]), (12539, [0, 0, 0, 0, 0]), (12540, [0, 9, 18, 0, 0]), (13311, [0, 0, 0, 0, 0]), (40959, [0, 0, 18, 0, 0]), (64284, [0, 0, 0, 0, 0]), (64335, [0, 3, 0, 1, 0]), (65023, [0, 3, 0, 2, 0]), (65039, [4, 10, 7, 8, 4]), (65135, [0, 0, 0, 0, 0]), (65276, [0, 3, 0, 2, 0]), (65278, [0, 0, 0, 0, 0]), (65279, [3, 10, 8, 9, 4]), (127461, [0, 0, 0, 0, 0]), (127487, [6, 12, 19, 0, 0]), (127743, [0, 0, 0, 0, 0]), (127994, [14, 0, 18, 13, 0]), (127999, [4, 10, 7, 13, 4]), (129791, [14, 0, 18, 13, 0]), (131071, [0, 0, 0, 0, 0]), (262141, [0, 0, 18, 0, 0]), (917759, [0, 0, 0, 0, 0]), (917999, [4, 10, 7, 8, 4])]
section
variable {md' : FuncId → Nat} {call : Callf} {cfg : Cfg} {n : Nat}
def look : List (Int × List Int) → Int → Option (List Int)
  | [], _ => none
  | (m, l) :: t, r => if r ≤ m then some l else look t r
end
theorem look_mem : ∀ {t : List (Int × List Int)} {r : Int} {l : List Int}, look t r = some l → ∃ m, (m, l) ∈ t
  | [], _, _, h => by simp [look] at h
  | (m, l') :: t, r, l, h => by
    unfold look at h
    split at h
    · cases h; exact ⟨m, List.mem_cons_self ..⟩
    · obtain ⟨m', h2⟩ := look_mem h
      exact ⟨m', List.mem_cons_of_mem _ h2⟩
theorem look_len {r : Int} {l : List Int} (h : look refTbl r = some l) : l.length = 5 := by
  obtain ⟨m, hm⟩ := look_mem h
  have ha : refTbl.all (fun x => decide (x.2.length = 5)) = true := by kernel_rfl
  have := List.all_eq_true.1 ha _ hm
  simpa using this
def refRow (r : Int) : List Int :=
  if 44032 ≤ r ∧ r ≤ 55203 then (if (r - 44032).tmod 28 = 0 then [12, 3, 18, 0, 0] else [13, 3, 18, 0, 0])
  else (look refTbl r).getD [0, 0, 0, 0, 0]
section
variable {prim : FuncId → Option Prim} (d : Nat) (cfg : Cfg) (h : Heap)
end
end Bi
end Go.Ab
/- The reference's classes are the program's. -/
namespace Go.Ab
open Go.Proofs
namespace Bi
theorem least : ∀ (L : List Int) (r : Int), (∃ b ∈ L, r ≤ b) → ∃ s ∈ L, r ≤ s ∧ ∀ b ∈ L, r ≤ b → s ≤ b
  | [], _, ⟨_, h, _⟩ => by simp at h
  | a :: L, r, h => by
    by_cases hL : ∃ b ∈ L, r ≤ b
    · obtain ⟨s, h1, h2, h3⟩ := least L r hL
      by_cases ha : r ≤ a ∧ a ≤ s
      · exact ⟨a, List.mem_cons_self .., ha.1, fun b hb hr => by
          rcases List.mem_cons.1 hb with rfl | hb
          · omega
          · have := h3 b hb hr; omega⟩
      · exact ⟨s, List.mem_cons_of_mem _ h1, h2, fun b hb hr => by
          rcases List.mem_cons.1 hb with rfl | hb
          · omega
          · exact h3 b hb hr⟩
    · obtain ⟨b, hb, hr⟩ := h
      rcases List.mem_cons.1 hb with rfl | hb
      · exact ⟨b, List.mem_cons_self .., hr, fun c hc hrc => by
          rcases List.mem_cons.1 hc with rfl | hc
          · omega
          · exact absurd ⟨c, hc, hrc⟩ hL⟩
      · exact absurd ⟨b, hb, hr⟩ hL
section
variable {prim : FuncId → Option Prim} (d : Nat) (cfg : Cfg) (h : Heap)
theorem rrow_len (r : Int) : (refRow r).length = 5 := by
  unfold refRow
  split
  · split <;> rfl
  · cases hl : look refTbl r with
    | none => rfl
    | some l => exact look_len hl
end
end Bi
end Go.Ab
/- Guarded operations without a branch: what is behind a guard is carried on as a value under that guard. -/
namespace Go.Ab
/-- A value that is there only if b. -/
def gd (b : Bool) (v : V) : V := if b = true then v else .no
theorem gd_true {v : V} : gd true v = v := rfl
theorem gd_false {v : V} : gd false v = .no := rfl
theorem gd_self {b : Bool} {v : V} : gd b (gd b v) = gd b v := by cases b <;> rfl
/-- An element that is there. -/
theorem getI {l : List Int} {i : Nat} (h : i < l.length) : l[i]? = some (l.getD i 0) := by
  rw [List.getD_eq_getElem?_getD, List.getElem?_eq_getElem h]; rfl
theorem getB {l : List Bool} {i : Nat} (h : i < l.length) : l[i]? = some (l.getD i false) := by
  rw [List.getD_eq_getElem?_getD, List.getElem?_eq_getElem h]; rfl
section
variable (P : Program) (md : FuncId → Nat) (call : Callf) (cfg : Cfg)
def wGp (e : Bool) (r : Option (V × Heap)) [dst : Hid (Option Tmp)] [ops : Hid (Array Oper)] [l : Hid (List Oper)] [fr : Hid (List V)] [h : Hid Heap] [Q : Hid KontO] : Prop :=
  @wIf e ⟨@wS P md call cfg dst fr r ops l Q⟩ ⟨@wO P md call cfg ops l (put fr.val dst.val .no) h.val Q⟩
end
section
variable {P : Program} {md : FuncId → Nat} {call : Callf} {cfg : Cfg}
theorem wGp_congr {e e' : Bool} {r r' : Option (V × Heap)} {dst : Hid (Option Tmp)} {ops : Hid (Array Oper)} {l : Hid (List Oper)} {fr : Hid (List V)} {h : Hid Heap} {Q : Hid KontO} (he : e = e') (hr : e' = true → r = r') :
    @wGp P md call cfg e r dst ops l fr h Q = @wGp P md call cfg e' r' dst ops l fr h Q := by
  subst he
  cases e
  · simp [wGp]
  · rw [hr rfl]
/-- For simp with contextual: what is behind the guard may use it. -/
theorem wGp_ctx {e e' : Bool} {p : Prop} {r r' : Option (V × Heap)} {dst : Hid (Option Tmp)} {ops : Hid (Array Oper)} {l : Hid (List Oper)} {fr : Hid (List V)} {h : Hid Heap} {Q : Hid KontO} (he : e = e') (hp : (e' = true) = p) (hr : e' = true → p → r = r') :
    @wGp P md call cfg e r dst ops l fr h Q = @wGp P md call cfg e' r' dst ops l fr h Q := wGp_congr he fun h => hr h (hp ▸ h)
theorem wG_gd {b want : Bool} {dst : Option Tmp} {op : Op} {ops : Array Oper} {l : List Oper} {fr : List V} {h : Heap} {Q : KontO} :
    @wG P md call cfg (some (.bool b)) ⟨want⟩ ⟨dst⟩ ⟨op⟩ ⟨ops⟩ ⟨l⟩ ⟨fr⟩ ⟨h⟩ ⟨Q⟩ ↔ @wGp P md call cfg (b == want) (opEv P md call cfg fr h op) ⟨dst⟩ ⟨ops⟩ ⟨l⟩ ⟨fr⟩ ⟨h⟩ ⟨Q⟩ := Iff.rfl
theorem wG_gd2 {b c want : Bool} {dst : Option Tmp} {op : Op} {ops : Array Oper} {l : List Oper} {fr : List V} {h : Heap} {Q : KontO} :
    @wG P md call cfg (some (gd c (.bool b))) ⟨want⟩ ⟨dst⟩ ⟨op⟩ ⟨ops⟩ ⟨l⟩ ⟨fr⟩ ⟨h⟩ ⟨Q⟩ ↔ @wGp P md call cfg (c && (b == want)) (opEv P md call cfg fr h op) ⟨dst⟩ ⟨ops⟩ ⟨l⟩ ⟨fr⟩ ⟨h⟩ ⟨Q⟩ := by
  cases c
  · simp [gd, wGp]
  · exact Iff.rfl
theorem wGp_some {e : Bool} {v : V} {dst : Option Tmp} {ops : Array Oper} {l : List Oper} {fr : List V} {h : Heap} {Q : KontO} :
    @wGp P md call cfg e (some (v, h)) ⟨dst⟩ ⟨ops⟩ ⟨l⟩ ⟨fr⟩ ⟨h⟩ ⟨Q⟩ ↔ @wO P md call cfg ⟨ops⟩ ⟨l⟩ (put fr dst (gd e v)) h ⟨Q⟩ := by
  cases e
  · simp [wGp, gd]
  · simp [wGp, gd]
theorem wGp_true {r : Option (V × Heap)} {dst : Option Tmp} {ops : Array Oper} {l : List Oper} {fr : List V} {h : Heap} {Q : KontO} :
    @wGp P md call cfg true r ⟨dst⟩ ⟨ops⟩ ⟨l⟩ ⟨fr⟩ ⟨h⟩ ⟨Q⟩ ↔ @wS P md call cfg ⟨dst⟩ ⟨fr⟩ r ⟨ops⟩ ⟨l⟩ ⟨Q⟩ := by simp [wGp]
theorem wGp_false {r : Option (V × Heap)} {dst : Option Tmp} {ops : Array Oper} {l : List Oper} {fr : List V} {h : Heap} {Q : KontO} :
    @wGp P md call cfg false r ⟨dst⟩ ⟨ops⟩ ⟨l⟩ ⟨fr⟩ ⟨h⟩ ⟨Q⟩ ↔ @wO P md call cfg ⟨ops⟩ ⟨l⟩ (put fr dst .no) h ⟨Q⟩ := by simp [wGp]
/-- By hand: a value that the guard promises. -/
theorem wGp_of {e : Bool} {r : Option (V × Heap)} (v : V) {dst : Option Tmp} {ops : Array Oper} {l : List Oper} {fr : List V} {h : Heap} {Q : KontO} (hr : e = true → r = some (v, h)) (H : @wO P md call cfg ⟨ops⟩ ⟨l⟩ (put fr dst (gd e v)) h ⟨Q⟩) :
    @wGp P md call cfg e r ⟨dst⟩ ⟨ops⟩ ⟨l⟩ ⟨fr⟩ ⟨h⟩ ⟨Q⟩ := by
  cases e
  · simpa [wGp, gd] using H
  · rw [hr rfl]
    simpa [wGp, gd] using H
theorem pickV_gdA {x y : Bool} {h : Heap} : pickV (some (.bool x)) (some (gd x (.bool y))) (some (.bool false)) h = some (.bool (x && y), h) := by cases x <;> rfl
theorem pickV_gdO {x y : Bool} {h : Heap} : pickV (some (.bool x)) (some (.bool true)) (some (gd (!x) (.bool y))) h = some (.bool (x || y), h) := by cases x <;> rfl
theorem pickV_gdN {x y : Bool} {h : Heap} : pickV (some (.bool !x)) (some (.bool true)) (some (gd x (.bool y))) h = some (.bool (!x || y), h) := by cases x <;> rfl
end
end Go.Ab
/- Guarded operations without a branch; the guard is a proposition. -/
namespace Go.Ab
/-- A value that is there only if p. -/
noncomputable def gq (p : Prop) (v : V) : V := by
  classical
  exact if p then v else .no
theorem gq_pos {p : Prop} {v : V} (h : p) : gq p v = v := by unfold gq; exact if_pos h
theorem gq_neg {p : Prop} {v : V} (h : ¬ p) : gq p v = .no := by unfold gq; exact if_neg h
theorem gq_true {v : V} : gq True v = v := gq_pos trivial
theorem gq_false {v : V} : gq False v = .no := gq_neg id
/-- An element that is there. -/
def lgI (l : List Int) (i : Nat) : Int := l.getD i 0
def lgB (l : List Bool) (i : Nat) : Bool := l.getD i false
theorem atI {l : List Int} {i : Nat} (h : i < l.length) : l[i]? = some (lgI l i) := by
  rw [lgI, List.getD_eq_getElem?_getD, List.getElem?_eq_getElem h]; rfl
theorem atB {l : List Bool} {i : Nat} (h : i < l.length) : l[i]? = some (lgB l i) := by
  rw [lgB, List.getD_eq_getElem?_getD, List.getElem?_eq_getElem h]; rfl
section
variable (P : Program) (md : FuncId → Nat) (call : Callf) (cfg : Cfg)
def wGq (p : Prop) (r : Option (V × Heap)) [dst : Hid (Option Tmp)] [ops : Hid (Array Oper)] [l : Hid (List Oper)] [fr : Hid (List V)] [h : Hid Heap] [Q : Hid KontO] : Prop :=
  (p ∧ @wS P md call cfg dst fr r ops l Q) ∨ (¬ p ∧ @wO P md call cfg ops l (put fr.val dst.val .no) h.val Q)
end
section
variable {P : Program} {md : FuncId → Nat} {call : Callf} {cfg : Cfg} {dst : Option Tmp} {op : Op} {ops : Array Oper} {l : List Oper} {fr : List V} {h : Heap} {Q : KontO}
theorem wGq_congr {p p' : Prop} {r r' : Option (V × Heap)} {dst : Hid (Option Tmp)} {ops : Hid (Array Oper)} {l : Hid (List Oper)} {fr : Hid (List V)} {h : Hid Heap} {Q : Hid KontO} (hp : p = p') (hr : p' → r = r') :
    @wGq P md call cfg p r dst ops l fr h Q = @wGq P md call cfg p' r' dst ops l fr h Q := by
  subst hp
  by_cases h : p
  · rw [hr h]
  · simp [wGq, h]
theorem wG_q {b want : Bool} : @wG P md call cfg (some (.bool b)) ⟨want⟩ ⟨dst⟩ ⟨op⟩ ⟨ops⟩ ⟨l⟩ ⟨fr⟩ ⟨h⟩ ⟨Q⟩ ↔ @wGq P md call cfg ((b == want) = true) (opEv P md call cfg fr h op) ⟨dst⟩ ⟨ops⟩ ⟨l⟩ ⟨fr⟩ ⟨h⟩ ⟨Q⟩ := by
  rw [wG_bool]
  cases hb : (b == want) <;> simp [wGq]
theorem wG_q2 {b want : Bool} {c : Prop} : @wG P md call cfg (some (gq c (.bool b))) ⟨want⟩ ⟨dst⟩ ⟨op⟩ ⟨ops⟩ ⟨l⟩ ⟨fr⟩ ⟨h⟩ ⟨Q⟩ ↔ @wGq P md call cfg (c ∧ (b == want) = true) (opEv P md call cfg fr h op) ⟨dst⟩ ⟨ops⟩ ⟨l⟩ ⟨fr⟩ ⟨h⟩ ⟨Q⟩ := by
  by_cases hc : c
  · rw [gq_pos hc, wG_q]
    simp [wGq, hc]
  · rw [gq_neg hc, wG_no]
    simp [wGq, hc]
theorem wGq_some {p : Prop} {v : V} : @wGq P md call cfg p (some (v, h)) ⟨dst⟩ ⟨ops⟩ ⟨l⟩ ⟨fr⟩ ⟨h⟩ ⟨Q⟩ ↔ @wO P md call cfg ⟨ops⟩ ⟨l⟩ (put fr dst (gq p v)) h ⟨Q⟩ := by
  by_cases hp : p
  · rw [gq_pos hp]; simp [wGq, hp]
  · rw [gq_neg hp]; simp [wGq, hp]
theorem wGq_true {r : Option (V × Heap)} : @wGq P md call cfg True r ⟨dst⟩ ⟨ops⟩ ⟨l⟩ ⟨fr⟩ ⟨h⟩ ⟨Q⟩ ↔ @wS P md call cfg ⟨dst⟩ ⟨fr⟩ r ⟨ops⟩ ⟨l⟩ ⟨Q⟩ := by simp [wGq]
theorem wGq_false {r : Option (V × Heap)} : @wGq P md call cfg False r ⟨dst⟩ ⟨ops⟩ ⟨l⟩ ⟨fr⟩ ⟨h⟩ ⟨Q⟩ ↔ @wO P md call cfg ⟨ops⟩ ⟨l⟩ (put fr dst .no) h ⟨Q⟩ := by simp [wGq]
/-- By hand. -/
theorem wGq_of {p : Prop} {r : Option (V × Heap)} (v : V) (hr : p → r = some (v, h)) (H : @wO P md call cfg ⟨ops⟩ ⟨l⟩ (put fr dst (gq p v)) h ⟨Q⟩) : @wGq P md call cfg p r ⟨dst⟩ ⟨ops⟩ ⟨l⟩ ⟨fr⟩ ⟨h⟩ ⟨Q⟩ := by
  by_cases hp : p
  · rw [gq_pos hp] at H; rw [hr hp]; simpa [wGq, hp] using H
  · rw [gq_neg hp] at H; simpa [wGq, hp] using H
theorem pickV_qA {p : Prop} {x y : Bool} {h : Heap} (hp : p ↔ x = true) : pickV (some (.bool x)) (some (gq p (.bool y))) (some (.bool false)) h = some (.bool (x && y), h) := by
  cases x
  · rfl
  · rw [gq_pos (hp.2 rfl)]; rfl
theorem pickV_qO {p : Prop} {x y : Bool} {h : Heap} (hp : p ↔ x = false) : pickV (some (.bool x)) (some (.bool true)) (some (gq p (.bool y))) h = some (.bool (x || y), h) := by
  cases x
  · rw [gq_pos (hp.2 rfl)]; rfl
  · rfl
end
end Go.Ab
/- Weak contracts: what a call hands back, by the call itself; shapes only. -/
namespace Go.Ab
def rV (md : FuncId → Nat) (call : Callf) (f : FuncId) (args : List V) : V := match callM md call ⟨0, [], 0⟩ f args [] with
  | some (v, _) => v
  | none => .no
def intOf : V → Int
  | .int _ n => n
  | _ => 0
def boolOf : V → Bool
  | .bool b => b
  | _ => false
def lstOf : V → List (List V)
  | .lst xs => xs
  | _ => []
def i1Of : List V → Int
  | [.int _ n] => n
  | _ => 0
def b1Of : List V → Bool
  | [.bool b] => b
  | _ => false
@[simp] theorem i1Of_mk {k : IntKind} {n : Int} : i1Of [.int k n] = n := rfl
@[simp] theorem b1Of_mk {b : Bool} : b1Of [.bool b] = b := rfl
/-- Some boolean, some integer. -/
def IsB (v : V) : Prop := ∃ b, v = .bool b
def IsI (k : IntKind) (v : V) : Prop := ∃ z, v = .int k z
@[simp] theorem isB_mk {b : Bool} : IsB (.bool b) := ⟨b, rfl⟩
@[simp] theorem isI_mk {k : IntKind} {z : Int} : IsI k (.int k z) := ⟨z, rfl⟩
/-- The result of a call is told by the call. -/
theorem rV_of {md : FuncId → Nat} {call : Callf} {f : FuncId} {args : List V} {v : V} (h : ∀ cfg H, callM md call cfg f args H = some (v, H)) : rV md call f args = v := by
  unfold rV
  rw [h]
section
variable {P : Program} {md : FuncId → Nat} {prim : FuncId → Option Prim} {n : Nat}
theorem call0e {d : Nat} {f : FuncId} {fn : Func} {c : Code} {k : Nat} {rs : List ResultVar} {args : List V} {Post : V → Prop} (hm : md f = 0) (hp : prim f = none) (hf : P.funcs[f]? = some fn) (hb : fn.body = some c) (hk : fn.ntmps = k)
    (hr : fn.results.toList = rs) (ha : args.all V.noref = true)
    (hw : @wC P md (callN P md prim n d) ⟨0, [], 0⟩ n ⟨c⟩ (args ++ List.replicate (k - args.length) .no) [] ⟨@kFn P ⟨rs⟩ ⟨fun r' h' => ∃ r, frz h' 0 6 r' = some r ∧ Post r⟩⟩) :
    ∃ r, Post r ∧ ∀ cfg h, callM md (callN P md prim n (d + 1)) cfg f args h = some (r, h) := by
  obtain ⟨r', h', h1, r, h2, h3⟩ := callN_of hp hf hb hk hr hw
  exact ⟨r, h3, fun cfg h => by simp only [callM, hm, ha, if_true, h1, h2]⟩
theorem call3e {d : Nat} {f : FuncId} {fn : Func} {c : Code} {k : Nat} {rs : List ResultVar} {args' : List V} {Post : V → Prop} (hm : md f = 3) (hp : prim f = none) (hf : P.funcs[f]? = some fn) (hb : fn.body = some c) (hk : fn.ntmps = k)
    (hr : fn.results.toList = rs)
    (hw : @wC P md (callN P md prim n d) ⟨0, [], 0⟩ n ⟨c⟩ (args' ++ List.replicate (k - args'.length) .no) [] ⟨@kFn P ⟨rs⟩ ⟨fun r' h' => own h' 6 r' = true ∧ ∃ r, frz h' 0 6 r' = some r ∧ Post r⟩⟩) :
    ∃ r, Post r ∧ ∀ cfg h args, args.mapM (frzA h) = some args' → callM md (callN P md prim n (d + 1)) cfg f args h = some (r, h) := by
  obtain ⟨r', h', h1, h2, r, h3, h4⟩ := callN_of hp hf hb hk hr hw
  exact ⟨r, h4, fun cfg h args ha => by simp only [callM, hm, ha, h1, h2, h3, if_true]⟩
/-- For both ways to call a function that writes nothing. -/
theorem callE {d : Nat} {f : FuncId} {fn : Func} {c : Code} {k : Nat} {rs : List ResultVar} {args' : List V} {Post : V → Prop} (hp : prim f = none) (hf : P.funcs[f]? = some fn) (hb : fn.body = some c) (hk : fn.ntmps = k)
    (hr : fn.results.toList = rs) (ha : args'.all V.noref = true)
    (hw : @wC P md (callN P md prim n d) ⟨0, [], 0⟩ n ⟨c⟩ (args' ++ List.replicate (k - args'.length) .no) [] ⟨@kFn P ⟨rs⟩ ⟨fun r' h' => own h' 6 r' = true ∧ ∃ r, frz h' 0 6 r' = some r ∧ Post r⟩⟩) :
    ∃ r, Post r ∧ (md f = 0 → ∀ cfg h, callM md (callN P md prim n (d + 1)) cfg f args' h = some (r, h)) ∧
      (md f = 3 → ∀ cfg h args, args.mapM (frzA h) = some args' → callM md (callN P md prim n (d + 1)) cfg f args h = some (r, h)) := by
  obtain ⟨r', h', h1, h2, r, h3, h4⟩ := callN_of hp hf hb hk hr hw
  exact ⟨r, h4, fun hm cfg h => by simp only [callM, hm, ha, if_true, h1, h3], fun hm cfg h args hA => by simp only [callM, hm, hA, h1, h2, h3, if_true]⟩
/-- A boolean's contract. -/
theorem wkB {call : Callf} {f : FuncId} {args : List V} (H : ∃ r, IsB r ∧ ∀ cfg h, callM md call cfg f args h = some (r, h)) (cfg : Cfg) (h : Heap) : callM md call cfg f args h = some (.bool (boolOf (rV md call f args)), h) := by
  obtain ⟨r, ⟨b, rfl⟩, h1⟩ := H
  rw [h1, rV_of h1]
  rfl
theorem wkI {call : Callf} {k : IntKind} {f : FuncId} {args : List V} (H : ∃ r, IsI k r ∧ ∀ cfg h, callM md call cfg f args h = some (r, h)) (cfg : Cfg) (h : Heap) : callM md call cfg f args h = some (.int k (intOf (rV md call f args)), h) := by
  obtain ⟨r, ⟨b, rfl⟩, h1⟩ := H
  rw [h1, rV_of h1]
  rfl
theorem wkI' {call : Callf} {k : IntKind} {f : FuncId} {args : List V} {Q : Int → Prop} (H : ∃ r, (∃ z, r = .int k z ∧ Q z) ∧ ∀ cfg h, callM md call cfg f args h = some (r, h)) : (∀ cfg h, callM md call cfg f args h = some (.int k (intOf (rV md call f args)), h)) ∧ Q (intOf (rV md call f args)) := by
  obtain ⟨r, ⟨b, rfl, hq⟩, h1⟩ := H
  rw [rV_of h1]
  exact ⟨h1, hq⟩
end
end Go.Ab
/- The reference: clusters and breaks, by their shapes. -/
namespace Go.Ab
open Go.Proofs
namespace Bi
attribute [local congr] wGq_congr
/-- A class of the reference's row of a rune. -/
def rcl (j : Nat) (r : Int) : Int := (refRow r).getD j 0
theorem rcl_at {j : Nat} (hj : j < 5) (r : Int) : (refRow r)[j]? = some (rcl j r) := by
  have hl := rrow_len r
  rw [rcl, List.getD_eq_getElem?_getD, List.getElem?_eq_getElem (by omega)]
  rfl
abbrev bl (l : List Bool) : V := .lst (l.map fun b => [.bool b])
section
variable {prim : FuncId → Option Prim} (d : Nat) (cfg : Cfg) (h : Heap)
end
end Bi
end Go.Ab
