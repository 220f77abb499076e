/- Several texts of this proof in one. -/
import Derived.Test.YteogajcegmejgaaGreatPiL
import Derived.Test.YteogajcegmejgaaGreatPiF
import Derived.Test.YteogajcegmejgaaGreatPiSpec2
namespace Go.Ab
open Go.Proofs
namespace Bi
@[simp] theorem cv3_32 {h : Heap} {k : IntKind} {n : Int} : convV Tryz.prog h 3 90 (.int k n) = some (.int .u64 (IntKind.u64.wrap n), h) := by kernel_rfl
@[simp] theorem cv32_3 {h : Heap} {k : IntKind} {n : Int} : convV Tryz.prog h 90 3 (.int k n) = some (.int .i64 (IntKind.i64.wrap n), h) := by kernel_rfl
section
variable {prim : FuncId → Option Prim} (d : Nat) (cfg : Cfg) (h : Heap)
end
end Bi
end Go.Ab
namespace Go.Ab
open Go.Proofs
namespace Bi
def upto (n i : Nat) : List Int := (List.range i).map (fun x : Nat => (x : Int)) ++ List.replicate (n - i) 0
theorem upto_len (n i : Nat) (h : i ≤ n) : (upto n i).length = n := by simp [upto]; omega
theorem upto_set (n i : Nat) (h : i < n) : (upto n i).set i (i : Int) = upto n (i + 1) := by
  unfold upto
  rw [List.set_append_right _ _ (by simp)]
  obtain ⟨k, hk⟩ : ∃ k, n - i = k + 1 := ⟨n - i - 1, by omega⟩
  rw [hk, show n - (i + 1) = k by omega]
  simp [List.replicate_succ, List.range_succ]
theorem upto_all (n : Nat) : upto n n = idx n := by simp [upto, idx]
@[simp] theorem maxV_2 {k k' : IntKind} {a b : Int} : maxV [.int k a, .int k' b] = some (.int k (max a b)) := by
  simp only [maxV]
  congr 2
  split <;> omega
@[simp] theorem minV_2 {k k' : IntKind} {a b : Int} : minV [.int k a, .int k' b] = some (.int k (min a b)) := by
  simp only [minV]
  congr 2
  split <;> omega
def badL (lv : List Int) : Bool := lv.any fun x => decide (x < 0) || decide (127 < x)
def ordS (lv : List Int) : List Int := if badL lv then [] else ordD lv 127 (idx lv.length)
theorem badL_at {lv : List Int} {i : Nat} {x : Int} (hx : lv[i]? = some x) (h : x < 0 ∨ 127 < x) : badL lv = true := by
  rw [badL, List.any_eq_true]
  exact ⟨x, List.mem_of_getElem? hx, by simpa using h⟩
structure HL (lv : List Int) (i : Nat) (hi lo : Int) : Prop where
  ok : ∀ (j : Nat) (x : Int), j < i → lv[j]? = some x → 0 ≤ x ∧ x ≤ 127 ∧ x ≤ hi ∧ (x % 2 = 1 → lo ≤ x)
  h1 : 0 ≤ hi ∧ hi ≤ 127
  h2 : hi = 0 ∨ ∃ (j : Nat), j < i ∧ lv[j]? = some hi
  l1 : lo = 129 ∨ (1 ≤ lo ∧ lo ≤ 127 ∧ lo % 2 = 1 ∧ lo ≤ hi)
section
variable {prim : FuncId → Option Prim} (d : Nat) (cfg : Cfg) (h : Heap)
end
end Bi
end Go.Ab
namespace Go.Ab
open Go.Proofs
namespace Bi
def endS (lv kept : List Int) (e lev : Int) (p q : Nat) (last : Bool) : Int × Int :=
  (strS (max lev (if 0 < p then lvl lv (kept.getD (p - 1) 0) else e)), strS (max lev (if q + 1 < kept.length ∧ last = false then lvl lv (kept.getD (q + 1) 0) else e)))
theorem frz_front {h : Heap} {n d b cap : Nat} {k : IntKind} {l : List Int} {J : List V} (hb : blockOf h b = some (l.map (V.int k) ++ J)) (hn : n ≤ b) : frz h n (d + 2) (.sl b 0 l.length cap 1) = some (.lst (l.map fun x => [.int k x])) := by
  have e : ¬ b < n := by omega
  have e3 : chunk 1 l.length (l.map (V.int k)) = l.map fun x => [V.int k x] := by
    have := chunk_one (l.map (V.int k))
    simp only [List.length_map, List.map_map] at this
    exact this
  have e4 : (l.map (V.int k)).all V.rf = true := by
    rw [List.all_eq_true]
    intro c hc
    obtain ⟨x, _, rfl⟩ := List.mem_map.1 hc
    rfl
  have e5 : (l.map (V.int k) ++ J).take l.length = l.map (V.int k) := List.take_left' (by simp)
  rw [frz_sl]
  simp only [e, if_false, hb, Nat.mul_one, List.drop_zero, e5, mapM_frz_ints, e3, e4, if_true]
  rw [if_pos (by simp)]
theorem frzA_front {h : Heap} {b cap : Nat} {k : IntKind} {l : List Int} {J : List V} (hb : blockOf h b = some (l.map (V.int k) ++ J)) : frzA h (.sl b 0 l.length cap 1) = some (.lst (l.map fun x => [.int k x])) := by
  unfold frzA
  rw [frz_front (d := 4) hb (Nat.zero_le _)]
  rfl
theorem slot_front {k : IntKind} {l : List Int} {J : List V} {i : Nat} {x : Int} (hx : l[i]? = some x) : slot (l.map (V.int k) ++ J) i = some (.int k x) := by
  rw [slot, List.getElem?_append_left (by simpa using (List.getElem?_eq_some_iff.1 hx).1), List.getElem?_map, hx]
  rfl
section
variable {prim : FuncId → Option Prim} (d : Nat) (cfg : Cfg)
end
end Bi
end Go.Ab
namespace Go.Ab.Bi
open Go.Proofs
structure Nst (H : Heap) (lo : Nat) (v : V) (vs : List V) (rs : List (List Int)) : Prop where
  out : Stk H lo 1 v vs
  len : vs.length = rs.length
  inn : ∀ (i : Nat) (u : V) (r : List Int), vs[i]? = some u → rs[i]? = some r → Stk H lo 1 u (r.map (V.int .i64)) ∧ Dj v u
  dj : ∀ (i j : Nat) (u w : V), i < j → vs[i]? = some u → vs[j]? = some w → Dj u w
theorem Nst.zero {H : Heap} {lo : Nat} : Nst H lo .nils [] [] := ⟨.inl ⟨rfl, rfl⟩, rfl, fun _ _ _ h => by simp at h, fun _ _ _ _ _ h => by simp at h⟩
theorem Nst.rs_at {H : Heap} {lo : Nat} {v : V} {vs : List V} {rs : List (List Int)} (h : Nst H lo v vs rs) {i : Nat} {u : V} (hu : vs[i]? = some u) : ∃ r, rs[i]? = some r :=
  ⟨_, List.getElem?_eq_getElem (h.len ▸ (List.getElem?_eq_some_iff.1 hu).1)⟩
theorem Nst.blk {H : Heap} {lo : Nat} {v : V} {vs : List V} {rs : List (List Int)} (h : Nst H lo v vs rs) {i : Nat} {u : V} (hu : vs[i]? = some u) {b : Nat} (hb : blkOf u = some b) : lo ≤ b ∧ b < H.length := by
  obtain ⟨r, hr⟩ := h.rs_at hu
  exact (h.inn i u r hu hr).1.blk hb
theorem Nst.frame {H H' : Heap} {lo : Nat} {v : V} {vs : List V} {rs : List (List Int)} (h : Nst H lo v vs rs) (hf : ∀ c, lo ≤ c → c < H.length → blockOf H' c = blockOf H c) : Nst H' lo v vs rs :=
  ⟨h.out.of_blk fun b hb => hf b (h.out.blk hb).1 (h.out.blk hb).2, h.len,
   fun i u r hu hr => ⟨(h.inn i u r hu hr).1.of_blk fun b hb => hf b (h.blk hu hb).1 (h.blk hu hb).2, (h.inn i u r hu hr).2⟩, h.dj⟩
theorem Nst.grow {H H1 H2 : Heap} {lo : Nat} {v u d : V} {vs : List V} {rs : List (List Int)} {r r' : List Int} (h : Nst H lo v (vs ++ [u]) (rs ++ [r])) (hl : vs.length = rs.length) (hs : Stk H1 lo 1 d (r'.map (V.int .i64)))
    (hf : ∀ c, blkOf u ≠ some c → c < H.length → blockOf H1 c = blockOf H c) (hb : blkOf d = blkOf u ∨ blkOf d = some H.length)
    (hs2 : Stk H2 lo 1 v (vs ++ [d])) (hf2 : ∀ c, blkOf v ≠ some c → c < H1.length → blockOf H2 c = blockOf H1 c) (hle : H.length ≤ H1.length) : Nst H2 lo v (vs ++ [d]) (rs ++ [r']) := by
  have hu0 : (vs ++ [u])[vs.length]? = some u := by simp
  obtain ⟨hu1, hu2⟩ := h.inn vs.length u r hu0 (by simp [hl])
  have hvd : Dj v d := by
    intro b hv hd
    rcases hb with hb | hb
    · exact hu2 b hv (hb ▸ hd)
    · rw [hb] at hd
      cases hd
      exact absurd (h.out.blk hv).2 (by omega)
  refine ⟨hs2, by simp [hl], fun i w q hw hq => ?_, fun i j w z hij hw hz => ?_⟩
  · by_cases hi : i < vs.length
    · rw [List.getElem?_append_left hi] at hw
      rw [List.getElem?_append_left (hl ▸ hi)] at hq
      have hw0 : (vs ++ [u])[i]? = some w := by rw [List.getElem?_append_left hi]; exact hw
      obtain ⟨h1, h2⟩ := h.inn i w q hw0 (by rw [List.getElem?_append_left (hl ▸ hi)]; exact hq)
      have h3 := h.dj i vs.length w u hi hw0 hu0
      refine ⟨h1.of_blk fun b hbw => ?_, h2⟩
      have hbl := (h1.blk hbw).2
      rw [hf2 b (fun hv => h2 b hv hbw) (by omega), hf b (fun hbu => h3 b hbw hbu) hbl]
    · have hl1 := (List.getElem?_eq_some_iff.1 hw).1
      have hi' : i = vs.length := by simp at hl1; omega
      subst hi'
      rw [List.getElem?_append_right (Nat.le_refl _)] at hw
      rw [List.getElem?_append_right (by rw [hl]; exact Nat.le_refl _)] at hq
      simp [hl] at hw hq
      subst hw hq
      exact ⟨hs.of_blk fun b hbd => hf2 b (fun hv => hvd b hv hbd) (hs.blk hbd).2, hvd⟩
  · have hl1 := (List.getElem?_eq_some_iff.1 hz).1
    have hi : i < vs.length := by simp at hl1; omega
    rw [List.getElem?_append_left hi] at hw
    have hw0 : (vs ++ [u])[i]? = some w := by rw [List.getElem?_append_left hi]; exact hw
    by_cases hj : j < vs.length
    · rw [List.getElem?_append_left hj] at hz
      exact h.dj i j w z hij hw0 (by rw [List.getElem?_append_left hj]; exact hz)
    · have hj' : j = vs.length := by simp at hl1; omega
      subst hj'
      rw [List.getElem?_append_right (Nat.le_refl _)] at hz
      simp at hz
      subst hz
      have h3 := h.dj i vs.length w u hi hw0 hu0
      intro b hbw hbd
      rcases hb with hb | hb
      · exact h3 b hbw (hb ▸ hbd)
      · rw [hb] at hbd
        cases hbd
        exact absurd (h.blk hw0 hbw).2 (by omega)
end Go.Ab.Bi
namespace Go.Ab.Bi
def keptL (o : List Int) : Nat → List Int
  | 0 => []
  | k + 1 => if gone (o.getD k 0) then keptL o k else keptL o k ++ [(k : Int)]
def snocL (rs : List (List Int)) (x : Int) : List (List Int) := rs.dropLast ++ [rs.getLastD [] ++ [x]]
def grp (lv kept : List Int) : Nat → List (List Int)
  | 0 => []
  | k + 1 => if k = 0 ∨ lvl lv (kept.getD k 0) ≠ lvl lv (kept.getD (k - 1) 0) then grp lv kept k ++ [[kept.getD k 0]] else snocL (grp lv kept k) (kept.getD k 0)
def bgn (rs : List (List Int)) (x : Int) : Option Nat := rs.findIdx? fun r => r.head? == some x
def fol (o M : List Int) (rs : List (List Int)) (i : Nat) : Int :=
  match (rs.getD i []).getLast? with
  | none => -1
  | some z => if ini (o.getD z.toNat 0) && decide (0 ≤ M.getD z.toNat 0) then match bgn rs (M.getD z.toNat 0) with | some k => (k : Int) | none => -1 else -1
def chn (F : Nat → Int) (rs : List (List Int)) : Nat → Int → List Int
  | 0, _ => []
  | f + 1, j => if 0 ≤ j then rs.getD j.toNat [] ++ chn F rs f (F j.toNat) else []
theorem keptL_mem (o : List Int) : ∀ (k : Nat) (x : Int), x ∈ keptL o k → 0 ≤ x ∧ x < k
  | 0, x, h => by simp [keptL] at h
  | k + 1, x, h => by
    unfold keptL at h
    split at h
    · have := keptL_mem o k x h
      omega
    · rcases List.mem_append.1 h with h | h
      · have := keptL_mem o k x h
        omega
      · simp at h
        omega
theorem keptL_len (o : List Int) : ∀ k, (keptL o k).length ≤ k
  | 0 => by simp [keptL]
  | k + 1 => by
    have := keptL_len o k
    unfold keptL
    split
    · omega
    · simp; omega
theorem keptL_asc (o : List Int) : ∀ k, (keptL o k).Pairwise (· < ·)
  | 0 => by simp [keptL]
  | k + 1 => by
    unfold keptL
    split
    · exact keptL_asc o k
    · refine List.pairwise_append.2 ⟨keptL_asc o k, by simp, ?_⟩
      intro a ha b hb
      simp at hb
      have := keptL_mem o k a ha
      omega
theorem snocL_flat {rs : List (List Int)} (h : rs ≠ []) (x : Int) : (snocL rs x).flatten = rs.flatten ++ [x] := by
  obtain ⟨a, b, rfl⟩ : ∃ a b, rs = a ++ [b] := ⟨rs.dropLast, rs.getLast h, (List.dropLast_concat_getLast h).symm⟩
  simp [snocL]
theorem grp_ne (lv kept : List Int) : ∀ k, 0 < k → grp lv kept k ≠ []
  | 0, h => by omega
  | k + 1, _ => by
    unfold grp snocL
    split <;> simp
theorem grp_flat (lv kept : List Int) : ∀ k, k ≤ kept.length → (grp lv kept k).flatten = kept.take k
  | 0, _ => by simp [grp]
  | k + 1, h => by
    have ih := grp_flat lv kept k (by omega)
    have hg : kept[k]? = some (kept.getD k 0) := by rw [List.getD_eq_getElem?_getD, List.getElem?_eq_getElem (by omega)]; rfl
    have ht : kept.take (k + 1) = kept.take k ++ [kept.getD k 0] := by rw [List.take_add_one, hg]; rfl
    rw [ht, ← ih]
    rw [show grp lv kept (k + 1) = if k = 0 ∨ lvl lv (kept.getD k 0) ≠ lvl lv (kept.getD (k - 1) 0) then grp lv kept k ++ [[kept.getD k 0]] else snocL (grp lv kept k) (kept.getD k 0) from rfl]
    split
    · simp
    · rename_i hn
      exact snocL_flat (grp_ne lv kept k (by omega)) _
theorem grp_all (lv kept : List Int) : ∀ k, ∀ r ∈ grp lv kept k, r ≠ []
  | 0, r, h => by simp [grp] at h
  | k + 1, r, h => by
    unfold grp at h
    split at h
    · rcases List.mem_append.1 h with h | h
      · exact grp_all lv kept k r h
      · simp at h; simp [h]
    · rcases List.mem_append.1 h with h | h
      · exact grp_all lv kept k r (List.dropLast_subset _ h)
      · simp at h; simp [h]
theorem grp_len (lv kept : List Int) : ∀ k, (grp lv kept k).length ≤ k
  | 0 => by simp [grp]
  | k + 1 => by
    have := grp_len lv kept k
    unfold grp
    split
    · simp; omega
    · rename_i hn
      have := grp_ne lv kept k (by omega)
      have := List.length_pos_iff.2 this
      simp [snocL]; omega
theorem chn_sub (F : Nat → Int) (rs : List (List Int)) (hF : ∀ j, j < rs.length → F j < 0 ∨ ((j : Int) < F j ∧ F j < rs.length)) : ∀ (f j : Nat), j < rs.length → (chn F rs f j).Sublist (rs.drop j).flatten
  | 0, j, _ => by simp [chn]
  | f + 1, j, hj => by
    unfold chn
    rw [if_pos (by omega), List.drop_eq_getElem_cons hj, List.flatten_cons]
    have hd : rs.getD ((j : Int)).toNat [] = rs[j] := by rw [Int.toNat_natCast, List.getD_eq_getElem?_getD, List.getElem?_eq_getElem hj]; rfl
    rw [hd]
    refine List.Sublist.append (List.Sublist.refl _) ?_
    rcases hF j hj with h | ⟨h1, h2⟩
    · cases f with
      | zero => simp [chn]
      | succ f => simp [chn, Int.not_le.2 (by simpa using h)]
    · obtain ⟨k, hk⟩ : ∃ k : Nat, F j = k := ⟨(F j).toNat, by omega⟩
      rw [Int.toNat_natCast, hk]
      refine (chn_sub F rs hF f k (by omega)).trans ?_
      obtain ⟨r, hr⟩ : ∃ r, k = (j + 1) + r := ⟨k - (j + 1), by omega⟩
      rw [hr, ← List.drop_drop]
      generalize rs.drop (j + 1) = l
      have : l = l.take r ++ l.drop r := (List.take_append_drop r l).symm
      conv => rhs; rw [this]
      rw [List.flatten_append]
      exact List.sublist_append_right _ _
theorem bgn_some {rs : List (List Int)} {x : Int} {k : Nat} (h : bgn rs x = some k) : ∃ r, rs[k]? = some r ∧ r.head? = some x := by
  unfold bgn at h
  obtain ⟨hk, h1, _⟩ := List.findIdx?_eq_some_iff_getElem.1 h
  exact ⟨rs[k], List.getElem?_eq_getElem hk, by simpa using h1⟩
theorem fol_ok {o M : List Int} {rs : List (List Int)} (hM : MOK o M) (hp : rs.flatten.Pairwise (· < ·)) (hn : ∀ x ∈ rs.flatten, 0 ≤ x ∧ x < o.length) (j : Nat) (hj : j < rs.length) : fol o M rs j < 0 ∨ ((j : Int) < fol o M rs j ∧ fol o M rs j < rs.length) := by
  unfold fol
  have hd : rs.getD j [] = rs[j] := by rw [List.getD_eq_getElem?_getD, List.getElem?_eq_getElem hj]; rfl
  rw [hd]
  cases hz : rs[j].getLast? with
  | none => simp
  | some z =>
    have hzm : z ∈ rs[j] := List.mem_of_getLast? hz
    have hzf : z ∈ rs.flatten := List.mem_flatten.2 ⟨_, List.getElem_mem hj, hzm⟩
    have hzr := hn z hzf
    simp only
    split
    · rename_i hc
      rw [Bool.and_eq_true, decide_eq_true_eq] at hc
      have ho : o[z.toNat]? = some (o.getD z.toNat 0) := by rw [List.getD_eq_getElem?_getD, List.getElem?_eq_getElem (by omega)]; rfl
      have hm := hM.at_ z.toNat _ ho hc.1
      have hmg : M.getD z.toNat 0 = mt o z.toNat := by rw [List.getD_eq_getElem?_getD, hm]; rfl
      rw [hmg] at hc ⊢
      rcases mt_at (c := o) (i := z.toNat) (by omega) with h | ⟨m, h1, h2, h3, -⟩
      · omega
      · rw [h1]
        cases hb : bgn rs (m : Int) with
        | none => simp
        | some k =>
          right
          obtain ⟨r, hr, hh⟩ := bgn_some hb
          obtain ⟨hk, rfl⟩ := List.getElem?_eq_some_iff.1 hr
          have hym : (m : Int) ∈ rs[k] := List.mem_of_head? hh
          refine ⟨?_, by simp only; omega⟩
          simp only
          obtain ⟨p1, p2⟩ := List.pairwise_flatten.1 hp
          rcases Nat.lt_trichotomy j k with h | h | h
          · omega
          · subst h
            have p3 := p1 _ (List.getElem_mem hj)
            cases he : rs[j] with
            | nil => rw [he] at hh; simp at hh
            | cons a r =>
              rw [he] at hh hz p3 hzm
              simp at hh
              subst hh
              rcases List.mem_cons.1 hzm with h4 | h4
              · omega
              · have := (List.pairwise_cons.1 p3).1 z h4
                omega
          · have := List.pairwise_iff_getElem.1 p2 k j hk hj h _ hym _ hzm
            omega
    · simp
theorem heads_ne {rs : List (List Int)} (hp : rs.flatten.Pairwise (· < ·)) {i j : Nat} {r q : List Int} {x : Int} (hr : rs[i]? = some r) (hx : r.head? = some x) (hj : j < i) (hq : rs[j]? = some q) : q.head? ≠ some x := by
  intro h
  obtain ⟨hi, rfl⟩ := List.getElem?_eq_some_iff.1 hr
  obtain ⟨hjl, rfl⟩ := List.getElem?_eq_some_iff.1 hq
  have := List.pairwise_iff_getElem.1 (List.pairwise_flatten.1 hp).2 j i hjl hi hj x (List.mem_of_head? h) x (List.mem_of_head? hx)
  omega
end Go.Ab.Bi
namespace Go.Ab
open Go.Proofs
namespace Bi
theorem ints_snoc (l : List Int) (x : Int) : l.map (V.int .i64) ++ [.int .i64 x] = (l ++ [x]).map (V.int .i64) := by simp
theorem Nst.push {H : Heap} {lo : Nat} {v : V} {vs : List V} {rs : List (List Int)} (h : Nst H lo v vs rs) (X : Heap) : Nst (H ++ X) lo v vs rs := h.frame fun _ _ hc => blockOf_left hc
theorem Nst.top {H : Heap} {lo : Nat} {v u : V} {vs : List V} {rs : List (List Int)} (h : Nst H lo v (vs ++ [u]) rs) : ∃ b cap J, v = .sl b 0 (vs.length + 1) cap 1 ∧ b < H.length ∧ lo ≤ b ∧ blockOf H b = some (vs ++ u :: J) := by
  obtain ⟨b, nn, cap, J, rfl, h1, h2, h3, h4, -⟩ := h.out.pos (by simp)
  simp at h3
  exact ⟨b, cap, J, by rw [← h3], h2, h1, by simpa using h4⟩
theorem slot_mid (vs J : List V) (u : V) : slot (vs ++ u :: J) vs.length = some u := by simp [slot]
section
variable {P : Program} {md' : FuncId → Nat} {call : Callf} {cfg : Cfg}
end
end Bi
end Go.Ab
namespace Go.Ab
open Go.Proofs
namespace Bi
variable {md' : FuncId → Nat} {call : Callf} {cfg : Cfg}
end Bi
end Go.Ab
namespace Go.Ab.Bi
def con (F : Nat → Int) (i k : Nat) : Bool := (List.range i).any fun j => F j == (k : Int)
structure Sq where
  l : List Int
  lev : Int
  sos : Int
  eos : Int
def sqOf (o : List Int) (F : Nat → Int) (rs : List (List Int)) (lv kept : List Int) (e : Int) (k : Nat) : Sq :=
  let l := chn F rs rs.length k
  let E := endS lv kept e (lvl lv (l.headD 0)) (kept.idxOf (l.headD 0)) (kept.idxOf (l.getLastD 0)) (ini (o.getD (l.getLastD 0).toNat 0))
  ⟨l, lvl lv (l.headD 0), E.1, E.2⟩
def sqsU (o : List Int) (F : Nat → Int) (rs : List (List Int)) (lv kept : List Int) (e : Int) : Nat → List Sq
  | 0 => []
  | k + 1 => if con F rs.length k then sqsU o F rs lv kept e k else sqsU o F rs lv kept e k ++ [sqOf o F rs lv kept e k]
theorem sqsU_len (o : List Int) (F : Nat → Int) (rs : List (List Int)) (lv kept : List Int) (e : Int) : ∀ k, (sqsU o F rs lv kept e k).length ≤ k
  | 0 => by simp [sqsU]
  | k + 1 => by
    have := sqsU_len o F rs lv kept e k
    unfold sqsU
    split
    · omega
    · simp; omega
theorem chn_neg {F : Nat → Int} {rs : List (List Int)} {f : Nat} {j : Int} (hj : j < 0) : chn F rs f j = [] := by
  cases f with
  | zero => rfl
  | succ f => unfold chn; rw [if_neg (by omega)]
theorem chn_step {F : Nat → Int} {rs : List (List Int)} {f j : Nat} {r : List Int} (hr : rs[j]? = some r) : chn F rs (f + 1) j = r ++ chn F rs f (F j) := by
  conv => lhs; unfold chn
  rw [if_pos (by omega), Int.toNat_natCast, List.getD_eq_getElem?_getD, hr]
  rfl
theorem chn_facts {F : Nat → Int} {rs : List (List Int)} {kept : List Int} (hF : ∀ j, j < rs.length → F j < 0 ∨ ((j : Int) < F j ∧ F j < rs.length)) (hfl : rs.flatten = kept) (hall : ∀ r ∈ rs, r ≠ []) {k : Nat} {r : List Int} (hr : rs[k]? = some r) :
    (chn F rs rs.length k).Sublist kept ∧ (chn F rs rs.length k) ≠ [] ∧ (chn F rs rs.length k).head? = r.head? := by
  have hk := (List.getElem?_eq_some_iff.1 hr).1
  obtain ⟨f, hf⟩ : ∃ f, rs.length = f + 1 := ⟨rs.length - 1, by omega⟩
  have hs := chn_step (F := F) (f := f) hr
  rw [← hf] at hs
  have hne := hall r (List.mem_of_getElem? hr)
  refine ⟨(chn_sub F rs hF rs.length k hk).trans ?_, by rw [hs]; simp [hne], ?_⟩
  · rw [← hfl]
    conv => rhs; rw [← List.take_append_drop k rs, List.flatten_append]
    exact List.sublist_append_right _ _
  · rw [hs]
    cases r with
    | nil => exact absurd rfl hne
    | cons a r => rfl
theorem headD_of {l : List Int} (h : l ≠ []) : l[0]? = some (l.headD 0) := by
  cases l with
  | nil => exact absurd rfl h
  | cons a l => rfl
theorem lastD_of {l : List Int} (h : l ≠ []) : l[l.length - 1]? = some (l.getLastD 0) := by
  rw [← List.getLast?_eq_getElem?, List.getLast?_eq_some_getLast h]
  congr 1
  cases l with
  | nil => exact absurd rfl h
  | cons a l => rfl
theorem fol_no {o M : List Int} {rs : List (List Int)} {i : Nat} {r : List Int} {z : Int} (hr : rs[i]? = some r) (hz : r.getLast? = some z) (h : ini (o.getD z.toNat 0) = false ∨ M.getD z.toNat 0 < 0) : fol o M rs i = -1 := by
  unfold fol
  rw [List.getD_eq_getElem?_getD, hr]
  simp only [Option.getD_some, hz]
  rw [if_neg]
  rw [Bool.and_eq_true, decide_eq_true_eq]
  rintro ⟨h1, h2⟩
  rcases h with h | h
  · rw [h] at h1; cases h1
  · omega
end Go.Ab.Bi
