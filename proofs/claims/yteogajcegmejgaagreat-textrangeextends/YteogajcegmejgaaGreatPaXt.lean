/- Several texts of this proof in one. -/
import Derived.Test.YteogajcegmejgaaGreatAbSortI
import Derived.Test.YteogajcegmejgaaGreatPaBk
import Derived.Test.YteogajcegmejgaaGreatPiF
import Derived.RangeFuncNested
import Derived.BigRegionIn
import Derived.Shelf.RegionOpen
import Derived.Test.YteogajcegmejgaaGreatPaM
import Derived.Test.YteogajcegmejgaaGreatPaEx
import Derived.Test.YteogajcegmejgaaGreatExtra
namespace Go.Ab.Tx
def passS (b : List Int) (a k : Int) : Int × Int := if 0 < k then passF b a 0 k else passB b.reverse a 0 k
def movS (b : List Int) (f t n k : Int) : Int × Int × Int :=
  let q := passS (if f < t then b.filter (fun x => decide (x < n)) else b) f k
  if q.2 = 0 then (f, t, 0) else if f < t then (whF q.1 n b 0, whT (whF q.1 n b 0) q.1 n b, q.2) else (q.1, q.1, q.2)
def extS (b : List Int) (f t k : Int) : Int × Int × Int :=
  let q := passS b t k
  if q.2 = 0 then (f, t, 0) else (min f q.1, q.1, q.2)
theorem Bnd.len {b : List Int} {n : Int} (h : Bnd b n) (hn : 0 < n) : 2 ≤ b.length := by
  have h0 := h.first
  have h1 := h.last
  rcases Nat.lt_or_ge b.length 2 with hl | hl
  · have : b.length - 1 = 0 := by omega
    rw [this, h0] at h1
    cases h1
    omega
  · exact hl
theorem Bnd.get {b : List Int} {n : Int} (h : Bnd b n) : ∀ (i : Nat) (x : Int), b[i]? = some x → (i : Int) ≤ x
  | 0, x, hx => (h.rng x (List.mem_of_getElem? hx)).1
  | i + 1, x, hx => by
    obtain ⟨hl, he⟩ := List.getElem?_eq_some_iff.1 hx
    have hi : b[i]? = some b[i] := List.getElem?_eq_getElem (by omega)
    have ih := h.get i _ hi
    have := List.pairwise_iff_getElem.1 h.up i (i + 1) (by omega) hl (by omega)
    omega
theorem Bnd.short {b : List Int} {n : Int} (h : Bnd b n) : (b.length : Int) ≤ n + 1 := by
  have := h.get _ _ h.last
  have h0 := (List.getElem?_eq_some_iff.1 h.first).1
  omega
theorem Bnd.one {b : List Int} (h : Bnd b 0) : b = [0] := by
  have hs := h.short
  have h0 := h.first
  match b, hs, h0 with
  | [x], _, h0 => simp at h0; rw [h0]
  | [], _, h0 => simp at h0
  | x :: y :: r, hs, _ => simp at hs; omega
theorem Bnd.front {b : List Int} {n : Int} (h : Bnd b n) : b.filter (fun x => decide (x < n)) = b.take (b.length - 1) := by
  have hl := h.last
  have hlen : 0 < b.length := (List.getElem?_eq_some_iff.1 h.first).1
  obtain ⟨h1, h2, h3⟩ := up_split h.up hl
  conv => lhs; rw [← List.take_append_drop (b.length - 1) b, h3]
  have e : b.drop (b.length - 1 + 1) = [] := List.drop_eq_nil_of_le (by omega)
  rw [e, List.filter_append]
  have e2 : [n].filter (fun x => decide (x < n)) = [] := by simp
  rw [e2, List.append_nil]
  refine List.filter_eq_self.2 fun x hx => ?_
  obtain ⟨j, hj, rfl⟩ := List.getElem_of_mem hx
  have hjl : j < b.length - 1 := by simp at hj; omega
  simp only [List.getElem_take, decide_eq_true_eq]
  have := List.pairwise_iff_getElem.1 h.up j (b.length - 1) (by omega) (by omega) hjl
  have hn := (List.getElem?_eq_some_iff.1 hl).2
  omega
theorem up_take {b : List Int} (h : Up b) (k : Nat) : Up (b.take k) := h.sublist (List.take_sublist ..)
section
variable {b : List Int} {n : Int} (h : Bnd b n) {i : Nat} {x y : Int}
include h
theorem mov_next (hx : b[i]? = some x) (hy : b[i + 1]? = some y) {z : Int} (hz : b[i + 2]? = some z) : movS b x y n 1 = (y, z, 1) := by
  obtain ⟨hl, _⟩ := List.getElem?_eq_some_iff.1 hz
  have hxy : x < y := by
    have := List.pairwise_iff_getElem.1 h.up i (i + 1) (by omega) (by omega) (by omega)
    rw [← (List.getElem?_eq_some_iff.1 hx).2, ← (List.getElem?_eq_some_iff.1 hy).2]
    exact this
  have hxt : (b.take (b.length - 1))[i]? = some x := by rw [List.getElem?_take_of_lt (by omega)]; exact hx
  have hp := passF_at (up_take h.up _) hxt (n := 1) (by omega)
  have e : min ((b.take (b.length - 1)).length - (i + 1)) (1 : Int).toNat = 1 := by simp; omega
  rw [e] at hp
  have e2 : (b.take (b.length - 1)).getD (i + 1) 0 = y := by
    rw [List.getD_eq_getElem?_getD, List.getElem?_take_of_lt (by omega), hy]; rfl
  rw [e2] at hp
  obtain ⟨w1, w2⟩ := whole_at h hy hz 0
  simp only [movS, passS, if_pos hxy, h.front, show (0 : Int) < 1 by omega, if_true, hp, w1, w2]
  rfl
theorem mov_stay (hx : b[i]? = some x) (hy : b[i + 1]? = some n) : movS b x n n 1 = (x, n, 0) := by
  obtain ⟨hl, hyn⟩ := List.getElem?_eq_some_iff.1 hy
  have hp0 := List.pairwise_iff_getElem.1 h.up
  have hxn : x < n := by
    have := hp0 i (i + 1) (by omega) (by omega) (by omega)
    rw [← (List.getElem?_eq_some_iff.1 hx).2, ← hyn]
    exact this
  have hlast : i + 1 = b.length - 1 := by
    rcases Nat.lt_or_ge (i + 1) (b.length - 1) with h1 | h1
    · have := hp0 (i + 1) (b.length - 1) hl (by omega) h1
      have h2 := (List.getElem?_eq_some_iff.1 h.last).2
      omega
    · omega
  have hxt : (b.take (b.length - 1))[i]? = some x := by rw [List.getElem?_take_of_lt (by omega)]; exact hx
  have hp := passF_at (up_take h.up _) hxt (n := 1) (by omega)
  have e : min ((b.take (b.length - 1)).length - (i + 1)) (1 : Int).toNat = 0 := by simp; omega
  rw [e] at hp
  simp only [movS, passS, if_pos hxn, h.front, show (0 : Int) < 1 by omega, if_true, hp]
  rfl
theorem mov_back (hx : b[i]? = some x) (hy : b[i + 1]? = some y) {k : Int} (hk : k < 0) {u v : Int} (hu : b[i - min i k.natAbs]? = some u) (hv : b[i - min i k.natAbs + 1]? = some v) (hi : 0 < i) : movS b x y n k = (u, v, -((min i k.natAbs : Nat) : Int)) := by
  obtain ⟨hl, _⟩ := List.getElem?_eq_some_iff.1 hy
  have hxy : x < y := by
    have := List.pairwise_iff_getElem.1 h.up i (i + 1) (by omega) (by omega) (by omega)
    rw [← (List.getElem?_eq_some_iff.1 hx).2, ← (List.getElem?_eq_some_iff.1 hy).2]
    exact this
  have hxt : (b.take (b.length - 1))[i]? = some x := by rw [List.getElem?_take_of_lt (by omega)]; exact hx
  have hp := passB_at (up_take h.up _) hxt (n := k) (by omega)
  have e2 : (b.take (b.length - 1)).getD (i - min i k.natAbs) 0 = u := by
    rw [List.getD_eq_getElem?_getD, List.getElem?_take_of_lt (by omega), hu]; rfl
  rw [e2] at hp
  obtain ⟨w1, w2⟩ := whole_at h hu hv 0
  have hne : ¬ -((min i k.natAbs : Nat) : Int) = 0 := by omega
  simp only [movS, passS, if_pos hxy, h.front, show ¬ (0 : Int) < k by omega, if_false, hp, w1, w2, if_neg hne]
theorem mov_none (hx : b[0]? = some x) (hy : b[1]? = some y) {k : Int} (hk : k < 0) : movS b x y n k = (x, y, 0) := by
  obtain ⟨hl, _⟩ := List.getElem?_eq_some_iff.1 hy
  have hxy : x < y := by
    have := List.pairwise_iff_getElem.1 h.up 0 1 (by omega) (by omega) (by omega)
    rw [← (List.getElem?_eq_some_iff.1 hx).2, ← (List.getElem?_eq_some_iff.1 hy).2]
    exact this
  have hxt : (b.take (b.length - 1))[0]? = some x := by rw [List.getElem?_take_of_lt (by omega)]; exact hx
  have hp := passB_at (up_take h.up _) hxt (n := k) (by omega)
  simp only [movS, passS, if_pos hxy, h.front, show ¬ (0 : Int) < k by omega, if_false, hp, Nat.zero_min]
  rfl
theorem ext_next (hx : b[i]? = some x) (hy : b[i + 1]? = some y) (f : Int) (hf : f ≤ y) : extS b f x 1 = (f, y, 1) := by
  obtain ⟨hl, _⟩ := List.getElem?_eq_some_iff.1 hy
  have hp := passF_at h.up hx (n := 1) (by omega)
  have e : min (b.length - (i + 1)) (1 : Int).toNat = 1 := by omega
  rw [e] at hp
  have e2 : b.getD (i + 1) 0 = y := by rw [List.getD_eq_getElem?_getD, hy]; rfl
  rw [e2] at hp
  simp only [extS, passS, show (0 : Int) < 1 by omega, if_true, hp]
  simp
  omega
theorem ext_back (hx : b[i]? = some x) {k : Int} (hk : k < 0) (hki : i < k.natAbs) (hi : 0 < i) : extS b 0 x k = (0, 0, -(i : Int)) := by
  have hp := passB_at h.up hx (n := k) (by omega)
  have e : min i k.natAbs = i := by omega
  rw [e] at hp
  have e2 : b.getD (i - i) 0 = 0 := by rw [Nat.sub_self, List.getD_eq_getElem?_getD, h.first]; rfl
  rw [e2] at hp
  have hne : ¬ -(i : Int) = 0 := by omega
  simp only [extS, passS, show ¬ (0 : Int) < k by omega, if_false, hp, if_neg hne]
  simp
end
end Go.Ab.Tx
namespace Go.Proofs
open Go.RowKit Go.Shelf
attribute [local go_sem] Oper.semAt_some
namespace Bk
def stp (k : Int) (s : Int × Int) (x : Nat × Int) : Int × Int := if x.2 < s.1 ∧ k < s.2 then (x.2, s.2 - 1) else s
def run (k a : Int) (l : List (Nat × Int)) : Int × Int := l.foldl (stp k) (a, 0)
theorem run_snoc (k a : Int) (l : List (Nat × Int)) (x : Nat × Int) : run k a (l ++ [x]) = stp k (run k a l) x := by simp [run]
theorem run_rng (k a : Int) (_hk : k ≤ 0) (l : List (Nat × Int)) : -(l.length : Int) ≤ (l.foldl (stp k) (a, 0)).2 ∧ (l.foldl (stp k) (a, 0)).2 ≤ 0 := by
  suffices H : ∀ (l : List (Nat × Int)) (s : Int × Int), s.2 ≤ 0 → s.2 - l.length ≤ (l.foldl (stp k) s).2 ∧ (l.foldl (stp k) s).2 ≤ 0 by
    have := H l (a, 0) (Int.le_refl _)
    simp only at this
    omega
  intro l
  induction l with
  | nil => intro s hs; simp; exact hs
  | cons x l ih =>
    intro s hs
    have h1 : s.2 - 1 ≤ (stp k s x).2 ∧ (stp k s x).2 ≤ 0 := by
      unfold stp
      split
      · simp only; omega
      · omega
    have := ih (stp k s x) h1.2
    simp only [List.foldl_cons, List.length_cons]
    omega
theorem run_pass (k : Int) : ∀ (l : List (Nat × Int)) (a p : Int), l.foldl (stp k) (a, p) = Ab.Tx.passB (l.map (·.2)) a p k
  | [], a, p => rfl
  | x :: l, a, p => by
    rw [List.foldl_cons, List.map_cons, Ab.Tx.passB, stp]
    simp only
    split
    · exact run_pass k l x.2 (p - 1)
    · exact run_pass k l a p
set_option maxRecDepth 100000 in
set_option maxHeartbeats 2000000 in
theorem pass_in (F : Fence) (n : Nat) (h3 : F.fn 30) (h5 : F.fn 51) (h7 : F.fn 91) (hro : F.round = none) (hn : 3 ≤ n) (s : Option Addr) (len cap : Nat) (zs : List Int) (hreach : zs.length ≤ 1000000) (at0 k : Int) (hk : k ≤ 0) (w : World) (hI : Ints w.heap.size w (.slice s len cap) zs) :
    CallsIn F n Tryz.prog 30 #[.slice s len cap, .int .i64 at0, .int .i64 k] w fun e W' => e = .returned (.tuple #[.int .i64 (run k at0 (upto (back zs zs.length) zs.length)).1, .int .i64 (run k at0 (upto (back zs zs.length) zs.length)).2]) ∧ Below w.heap.size w W' := by
  have h1 : 1 ≤ n := by omega
  have hk0 : ¬ 0 < k := by omega
  refine callsIn_of_wp_marks Tryz.func30 rfl h3 ?_ hro
  simp only [Tryz.ntmps30, List.size_toArray, List.length_cons, List.length_nil, Nat.reduceAdd, Nat.reduceSub, Array.replicate_succ, Array.replicate_zero, List.push_toArray, List.append_toArray, List.nil_append, List.cons_append]
  gi_wp2_with (gi_at_call 51; refine (backward_in F (n - 1) h5 hro _ _ _ _).mono ?_; rintro e w' ⟨rfl, rfl⟩)
  have bA := Boxed.new w 3 (.int .i64 at0)
  have bN := Boxed.new (w.alloc (.cells #[.int .i64 at0] 3)) 3 (.int .i64 k)
  have bP := Boxed.new ((w.alloc (.cells #[.int .i64 at0] 3)).alloc (.cells #[.int .i64 k] 3)) 3 (.int .i64 0)
  have bS := Boxed.new (((w.alloc (.cells #[.int .i64 at0] 3)).alloc (.cells #[.int .i64 k] 3)).alloc (.cells #[.int .i64 0] 3)) 22 (.slice s len cap)
  simp only [World.size_alloc] at bN bP bS
  have hB0 : Below w.heap.size w ((((w.alloc (.cells #[.int .i64 at0] 3)).alloc (.cells #[.int .i64 k] 3)).alloc (.cells #[.int .i64 0] 3)).alloc (.cells #[.slice s len cap] 22)) :=
    ((((Below.refl _ w).alloc (Nat.le_refl _) _).alloc (by simp) _).alloc (by simp; omega) _).alloc (by simp; omega) _
  have bA' := ((bA.alloc (.cells #[.int .i64 k] 3)).alloc (.cells #[.int .i64 0] 3)).alloc (.cells #[.slice s len cap] 22)
  have bN' := (bN.alloc (.cells #[.int .i64 0] 3)).alloc (.cells #[.slice s len cap] 22)
  have bP' := bP.alloc (.cells #[.slice s len cap] 22)
  have hsz : ((((w.alloc (.cells #[.int .i64 at0] 3)).alloc (.cells #[.int .i64 k] 3)).alloc (.cells #[.int .i64 0] 3)).alloc (.cells #[.slice s len cap] 22)).heap.size = w.heap.size + 4 := by simp
  generalize ((((w.alloc (.cells #[.int .i64 at0] 3)).alloc (.cells #[.int .i64 k] 3)).alloc (.cells #[.int .i64 0] 3)).alloc (.cells #[.slice s len cap] 22)) = W4 at *
  refine wpIn_rangeFunc_ownG hro h1 (gf := 91) (lb := #[.pointer (some ⟨w.heap.size + 1 + 1 + 1, 0, none⟩)]) rfl h7 (enters_of Tryz.func91 (by kernel_rfl) rfl)
    (backward_stops F (n - 1) h7 hro (by omega) (w.heap.size + 1 + 1 + 1) w.heap.size _ zs (by omega) W4 (by omega) (by omega) bS.cell (hI.below hB0)) Kb.trans (fun W l o o' => Kb.put (by omega) (by omega) W l o o') (Below.refl _ _) (fun _ => rfl)
    (fun pre W => (Boxed W w.heap.size 3 (.int .i64 (run k at0 pre).1) ∧ Boxed W (w.heap.size + 1) 3 (.int .i64 k) ∧ Boxed W (w.heap.size + 1 + 1) 3 (.int .i64 (run k at0 pre).2)) ∧ Below w.heap.size w W)
    (fun _ _ _ => False)
    (OwnFrom.and (OwnFrom.and (Own.from (boxed_own _ _ fun pre => .int .i64 (run k at0 pre).1) _) (OwnFrom.and (Own.from (boxed_own _ _ fun _ => .int .i64 k) _) (Own.from (boxed_own _ _ fun pre => .int .i64 (run k at0 pre).2) _))) (ownFrom_below (Nat.le_refl _) (by omega)))
    (fun _ _ _ _ _ hs _ _ => hs)
    ⟨⟨bA', bN', bP'⟩, hB0⟩
    (fun x => { tmps := #[.slice s len cap, .int .i64 at0, .int .i64 k, undef, .pointer (some ⟨w.heap.size, 0, none⟩), .pointer (some ⟨w.heap.size + 1, 0, none⟩), .int .i64 0, .int .i64 0, .pointer (some ⟨w.heap.size + 1 + 1, 0, none⟩), undef, undef, undef, .int .i64 x.2, .int .i64 k, .bool false, undef, undef, undef, undef, undef, undef, undef, undef, undef, undef, undef, undef, undef, undef, undef, undef, undef, undef, undef, undef, .slice s len cap, .func (.func 91) #[] #[.pointer (some ⟨w.heap.size + 1 + 1 + 1, 0, none⟩)], .int .i64 (x.1 : Int), .int .i64 x.2, undef, undef, undef, undef, undef, undef, undef, undef, undef, undef, undef, undef, undef], defers := [] }) ?assign ?body ?done ?stop
  case assign =>
    intro l x W K hK
    gi_wp2
    exact hK
  case body =>
    rintro l pre x W ⟨⟨ha, hn', hp⟩, hB⟩ hlt
    have c1 := ha.cell
    have c2 := ha.frozen
    have c3 := hn'.cell
    have c4 := hp.cell
    have c5 := hp.frozen
    have hr : -(pre.length : Int) ≤ (run k at0 pre).2 ∧ (run k at0 pre).2 ≤ 0 := run_rng k at0 hk pre
    have hyes : x.2 < (run k at0 pre).1 → k < (run k at0 pre).2 → ∀ a, ownPostG W4.heap.size (Kb w.heap.size (w.heap.size + 1 + 1 + 1))
        (fun pre W => (Boxed W w.heap.size 3 (.int .i64 (run k at0 pre).1) ∧ Boxed W (w.heap.size + 1) 3 (.int .i64 k) ∧ Boxed W (w.heap.size + 1 + 1) 3 (.int .i64 (run k at0 pre).2)) ∧ Below w.heap.size w W)
        (fun _ _ _ => False) (pre ++ [x]) W .normal a ((W.setCell ⟨w.heap.size, 0, none⟩ (.int .i64 x.2)).setCell ⟨w.heap.size + 1 + 1, 0, none⟩ (.int .i64 (IntKind.i64.wrap ((run k at0 pre).2 - 1)))).drew := by
      intro g1 g2 a
      have e : run k at0 (pre ++ [x]) = (x.2, (run k at0 pre).2 - 1) := by rw [run_snoc, stp, if_pos ⟨g1, g2⟩]
      have ew : IntKind.i64.wrap ((run k at0 pre).2 - 1) = (run k at0 pre).2 - 1 := Ab.wrap64 (by omega) (by omega)
      rw [ew]
      have hBW : Below w.heap.size W ((W.setCell ⟨w.heap.size, 0, none⟩ (.int .i64 x.2)).setCell ⟨w.heap.size + 1 + 1, 0, none⟩ (.int .i64 ((run k at0 pre).2 - 1))).drew := (((Below.refl w.heap.size W).setCell (p := ⟨w.heap.size, 0, none⟩) (Nat.le_refl _) _).setCell (p := ⟨w.heap.size + 1 + 1, 0, none⟩) (by show w.heap.size ≤ w.heap.size + 1 + 1; omega) _).drew
      refine ⟨(((KeepsOthers.setCell _ _ _).trans (KeepsOthers.setCell _ _ _)).trans (KeepsOthers.drew _)).from _, ⟨hBW, ?_⟩, ⟨?_, ?_, ?_⟩, hB.trans hBW⟩
      · exact (Below.heap_setCell _ _ _ _ (by show w.heap.size + 1 + 1 + 1 ≠ w.heap.size + 1 + 1; omega)).trans (Below.heap_setCell _ _ _ _ (by show w.heap.size + 1 + 1 + 1 ≠ w.heap.size; omega))
      · rw [e]; exact (ha.set _).other (by omega) _
      · exact (hn'.other (by omega) _).other (by omega) _
      · rw [e]; exact (hp.other (by omega) _).set _
    have hno : ¬ (x.2 < (run k at0 pre).1 ∧ k < (run k at0 pre).2) → ∀ a, ownPostG W4.heap.size (Kb w.heap.size (w.heap.size + 1 + 1 + 1))
        (fun pre W => (Boxed W w.heap.size 3 (.int .i64 (run k at0 pre).1) ∧ Boxed W (w.heap.size + 1) 3 (.int .i64 k) ∧ Boxed W (w.heap.size + 1 + 1) 3 (.int .i64 (run k at0 pre).2)) ∧ Below w.heap.size w W)
        (fun _ _ _ => False) (pre ++ [x]) W .normal a W := by
      intro g a
      have e : run k at0 (pre ++ [x]) = run k at0 pre := by rw [run_snoc, stp, if_neg g]
      refine ⟨KeepsFrom.refl _ _, Kb.refl _ _ _, ?_⟩
      simp only [e]
      exact ⟨⟨ha, hn', hp⟩, hB⟩
    rw [hsz] at hyes hno
    gi_wp2
    · gi_region
      all_goals gi_wp2
      all_goals (first | exact hyes (by assumption) (by assumption) _ | (rw [hsz]; exact hyes (by assumption) (by assumption) _))
    · first | exact hno (by omega) _ | (rw [hsz]; exact hno (by omega) _)
    · first | exact hno (by omega) _ | (rw [hsz]; exact hno (by omega) _)
  case done =>
    rintro D ys W hD rfl ⟨⟨ha, hn', hp⟩, hB⟩ hK
    have c1 := ha.cell
    have c4 := hp.cell
    gi_wp2
    gi_region
    all_goals gi_wp2
    all_goals
      refine ⟨by simp, .inl ⟨_, _, rfl, run_takeDeferred hK, ?_⟩⟩
      refine ⟨.tuple #[.int .i64 (run k at0 (upto (back zs zs.length) zs.length)).1, .int .i64 (run k at0 (upto (back zs zs.length) zs.length)).2], by simp [results, Tryz.f30, go_sem], rfl, ?_⟩
      exact hB.drew.trans (belowK_b (w := w) (Nat.le_refl _) W.drew D _ _ (by omega) hK rfl rfl)
  case stop =>
    rintro D c pre W _ _ h _
    exact h.elim
end Bk
end Go.Proofs
namespace Go.Ab
open Go.Proofs Go.RowKit
theorem out_below {m : Mu} {h : Heap} {w w' : World} {x : V} {v : Value} (r : Rel m h w) (hb : Below w.heap.size w w') (hx : R m h w x v) : Out m h w x h v w' := by
  have e : Evo m h w m h w' := {
    zeq := rfl
    len := Nat.le_refl _
    keep := fun _ _ hl => ⟨hl, rfl⟩
    own := fun y c hl hc => .inl ⟨y, hl, hc⟩
    frame := fun b hb' _ => hb.block b hb'
    size := hb.size
    rs := fun c hc => by rw [rsz_of_block (hb.block c hc)]; exact Nat.le_refl _
    os := hb.os
    tape := hb.tape
    output := hb.output }
  refine ⟨m, e, ⟨r.zo, fun c hc => Nat.lt_of_lt_of_le (r.zl c hc) hb.size, r.inj, fun y cs c hy hc => ?_⟩, hx.evo e r.lt⟩
  exact (r.blk y cs c hy hc).carry (hb.block c (r.lt y c ⟨cs, hy⟩ hc)) fun d v _ hrv => hrv.evo e r.lt
def zsOf : List (List V) → Option (List Int)
  | [] => some []
  | [.int .i64 n] :: r => (zsOf r).map (n :: ·)
  | _ => none
theorem zsOf_il : ∀ l : List Int, zsOf (l.map fun n => [.int .i64 n]) = some l
  | [] => rfl
  | x :: l => by
    show (zsOf (l.map fun n => [.int .i64 n])).map (x :: ·) = _
    rw [zsOf_il l]
    rfl
theorem zsOf_some : ∀ {xs : List (List V)} {l : List Int}, zsOf xs = some l → xs = l.map fun n => [.int .i64 n]
  | [], l, h => by cases h; rfl
  | x :: r, l, h => by
    unfold zsOf at h
    split at h
    · rename_i he; cases he
    · rename_i n r' he
      cases he
      cases hz : zsOf r with
      | none => rw [hz] at h; cases h
      | some l' =>
        rw [hz] at h
        cases h
        rw [zsOf_some hz]
        rfl
    · cases h
namespace Bi
noncomputable def passP : Prim := fun cfg args h => match args with
  | [.lst xs, .int .i64 a, .int .i64 n] =>
    if 0 < n then callN Tryz.prog md (fun _ => none) 10000 5 cfg 30 args h
    else match zsOf xs with
      | some zs => if 0 < zs.length ∧ zs.length ≤ 1000000 then some (.tup [.int .i64 (Tx.passB zs.reverse a 0 n).1, .int .i64 (Tx.passB zs.reverse a 0 n).2], h) else none
      | none => none
  | _ => none
theorem passP_ok : PrimOK Tryz.prog 30 passP := by
  intro cfg args h r h' hx
  unfold passP at hx
  split at hx
  · rename_i xs a n
    split at hx
    · exact callN_ok hfol hnam (fun _ _ h => by cases h) 5 _ _ _ _ _ _ hx
    · rename_i hn
      split at hx
      · rename_i zs hz
        split at hx
        · rename_i hl
          cases hx
          refine ⟨HS.refl _ _, ⟨_, Tryz.func30, rfl⟩, fun m w vs hr hp => ?_⟩
          obtain ⟨hsz, hp2⟩ := hp
          simp only [List.length_cons, List.length_nil] at hsz
          obtain ⟨v0, v1, v2, rfl⟩ : ∃ v0 v1 v2, vs = #[v0, v1, v2] := by
            refine ⟨vs[0], vs[1], vs[2], Array.ext (by simpa using hsz) fun i h1 h2 => ?_⟩
            rcases i with _ | _ | _ | i
            · rfl
            · rfl
            · rfl
            · simp only [List.size_toArray, List.length_cons, List.length_nil] at h2
              omega
          have r0 := hp2 0 _ v0 rfl rfl
          have r1 := hp2 1 _ v1 rfl rfl
          have r2 := hp2 2 _ v2 rfl rfl
          cases r1
          cases r2
          have hxs := zsOf_some hz
          subst hxs
          have hI : ∃ s len cap, v0 = .slice s len cap ∧ Bk.Ints w.heap.size w (.slice s len cap) zs := by
            generalize hX : (zs.map fun n => [V.int .i64 n]) = X at r0
            cases r0 with
            | lst0 a rc ha =>
              have := congrArg List.length hX
              simp at this
              subst this
              exact absurd hl.1 (by simp)
            | lst rv hi hrc hk hc hf hr' =>
              rename_i b o k rc
              have hXl : X.length = zs.length := by rw [← hX]; simp
              refine ⟨_, _, _, rfl, .inr ⟨b, o, rc, by rw [hXl], hi.1, fun j hj => ?_⟩⟩
              have he : X[j]? = some [.int .i64 (zs[j]?.getD 0)] := by
                rw [← hX, List.getElem?_map, List.getElem?_eq_getElem hj]
                rfl
              have hk1 : k = 1 := (hk j _ he).symm
              subst hk1
              have h1 := hc j _ 0 _ he rfl
              have h2 := hr' j _ 0 _ he rfl
              rw [Nat.mul_one, Nat.add_zero] at h1
              rw [h1]
              generalize rv j 0 = q at h2
              cases h2
              rfl
          obtain ⟨s, len, cap, rfl, hI⟩ := hI
          have h := Bk.pass_in Fence.wide 3 trivial trivial trivial rfl (Nat.le_refl _) s len cap zs hl.2 a n (by omega) w hI
          refine (callsIn_wide.1 h).mono fun e w' ⟨he, hb⟩ => ?_
          subst he
          refine ⟨_, rfl, out_below hr hb (.tup rfl fun i c v hc hv => ?_)⟩
          have hrn : Bk.run n a (Bk.upto (Bk.back zs zs.length) zs.length) = Tx.passB zs.reverse a 0 n := by
            rw [Bk.run, Bk.run_pass, Bk.back_all]
          rw [hrn] at hv
          rcases i with _ | _ | i
          · cases hc; cases hv; exact .int _ _
          · cases hc; cases hv; exact .int _ _
          · simp at hc
        · cases hx
      · cases hx
  · cases hx
noncomputable def passP2 : Prim := fun _ args h => match args with
  | [.sl b off len _ 1, .int .i64 a, .int .i64 n] =>
    if 0 < n then none
    else match blockOf h b with
      | some cs => if off + len ≤ cs.length then match intIn ((cs.drop off).take len) with
          | some zs => if zs.length ≤ 1000000 then some (.tup [.int .i64 (Tx.passB zs.reverse a 0 n).1, .int .i64 (Tx.passB zs.reverse a 0 n).2], h) else none
          | none => none
        else none
      | none => none
  | _ => none
theorem passP2_ok : PrimOK Tryz.prog 30 passP2 := by
  intro cfg args h r h' hx
  unfold passP2 at hx
  split at hx
  · rename_i b off len cap a n
    split at hx
    · cases hx
    · rename_i hn
      split at hx
      · rename_i cs hcs
        split at hx
        · rename_i hol
          split at hx
          · rename_i zs hz
            split at hx
            · rename_i hl
              cases hx
              refine ⟨HS.refl _ _, ⟨_, Tryz.func30, rfl⟩, fun m w vs hr hp => ?_⟩
              obtain ⟨hsz, hp2⟩ := hp
              simp only [List.length_cons, List.length_nil] at hsz
              obtain ⟨v0, v1, v2, rfl⟩ : ∃ v0 v1 v2, vs = #[v0, v1, v2] := by
                refine ⟨vs[0], vs[1], vs[2], Array.ext (by simpa using hsz) fun i h1 h2 => ?_⟩
                rcases i with _ | _ | _ | i
                · rfl
                · rfl
                · rfl
                · simp only [List.size_toArray, List.length_cons, List.length_nil] at h2
                  omega
              have r0 := hp2 0 _ v0 rfl rfl
              have r1 := hp2 1 _ v1 rfl rfl
              have r2 := hp2 2 _ v2 rfl rfl
              cases r1
              cases r2
              have hlin := intIn_some hz
              have hll : zs.length = len := by
                have := congrArg List.length hlin
                simp at this
                omega
              have hlive := live_of_blockOf hcs
              cases r0 with
              | sl hlt hcap hlen' hv =>
              rename_i rc ad
              obtain ⟨b', hmb, rfl, hrs⟩ := hv ⟨cs, hlive⟩
              obtain ⟨arr, T, ha, hal, hac⟩ := (hr.blk b cs b' hlive hmb).cells (notMap_of_blockOf hcs)
              have hbl : b' < w.heap.size := (Array.getElem?_eq_some_iff.1 ha).1
              have hI : Bk.Ints w.heap.size w (.slice (some ⟨b', off, none⟩) len rc) zs := by
                refine .inr ⟨b', off, rc, by rw [hll], hbl, fun j hj => ?_⟩
                obtain ⟨c, hc1⟩ : ∃ c, cs[off + j]? = some c := ⟨_, List.getElem?_eq_getElem (by omega)⟩
                obtain ⟨v, hv1, hv2⟩ := hac _ c hc1
                have hc2 : (zs.map (V.int .i64))[j]? = some c := by
                  rw [← hlin, List.getElem?_take_of_lt (by omega), List.getElem?_drop]; exact hc1
                simp only [World.cell?, ha]
                rw [hv1]
                simp only [List.getElem?_map, Option.map_eq_some_iff] at hc2
                obtain ⟨x, hx1, rfl⟩ := hc2
                cases hv2
                rw [hx1]
                rfl
              have h := Bk.pass_in Fence.wide 3 trivial trivial trivial rfl (Nat.le_refl _) (some ⟨b', off, none⟩) len rc zs hl a n (by omega) w hI
              refine (callsIn_wide.1 h).mono fun e w' ⟨he, hb⟩ => ?_
              subst he
              refine ⟨_, rfl, out_below hr hb (.tup rfl fun i c v hc hv => ?_)⟩
              have hrn : Bk.run n a (Bk.upto (Bk.back zs zs.length) zs.length) = Tx.passB zs.reverse a 0 n := by
                rw [Bk.run, Bk.run_pass, Bk.back_all]
              rw [hrn] at hv
              rcases i with _ | _ | i
              · cases hc; cases hv; exact .int _ _
              · cases hc; cases hv; exact .int _ _
              · simp at hc
            · cases hx
          · cases hx
        · cases hx
      · cases hx
  · cases hx
end Bi
end Go.Ab
namespace Go.Ab
open Go.Proofs
namespace Bi
set_option maxHeartbeats 4000000 in
theorem passF_walk {prim : FuncId → Option Prim} (hp : prim 30 = none) (d : Nat) (b : List Int) (hb : b.length ≤ 5000) (a n : Int) (hn : 0 < n) :
    ∃ r h', callN Tryz.prog md prim 10000 (d + 1) ⟨0, none, 0⟩ 30 [il b, .int .i64 a, .int .i64 n] [] = some (r, h') ∧ r = .tup [.int .i64 (Tx.passF b a 0 n).1, .int .i64 (Tx.passF b a 0 n).2] := by
  refine callN_of (R := fun r _ => r = .tup [.int .i64 (Tx.passF b a 0 n).1, .int .i64 (Tx.passF b a 0 n).2]) hp Tryz.func30 rfl rfl rfl ?_
  simp (disch := omega) [hn]
  refine wC_loop (fun m fr H => ∃ (i : Nat) (o q : Int), i ≤ b.length ∧ m = b.length - i ∧ 0 ≤ q ∧ q ≤ i ∧ Tx.passF (b.drop i) o q n = Tx.passF b a 0 n ∧ H = [some [.int .i64 o], some [.int .i64 n], some [.int .i64 q]] ∧
    Slots 52 [(4, .ptr 0 0), (5, .ptr 1 0), (8, .ptr 2 0), (15, il b), (16, .int .i64 b.length), (17, .int .i64 i)] fr) (m := b.length) (by omega) ⟨0, a, 0, by omega, by omega, by omega, by omega, rfl, rfl, by simp⟩ ?_
  rintro m fr H ⟨i, o, q, hi, rfl, hq0, hq, ho, rfl, hs⟩
  obtain ⟨j, rfl⟩ := hs.ex
  clear hs
  by_cases hlt : i < b.length
  · obtain ⟨x, hx⟩ : ∃ x, b[i]? = some x := ⟨_, List.getElem?_eq_getElem hlt⟩
    have hiw : IntKind.i64.wrap ((i : Int) + 1) = ((i + 1 : Nat) : Int) := by rw [wrap64 (by omega) (by omega)]; omega
    have hqw : IntKind.i64.wrap (q + 1) = q + 1 := by rw [wrap64 (by omega) (by omega)]
    have hdr : b.drop i = x :: b.drop (i + 1) := by
      rw [List.drop_eq_getElem_cons hlt]
      congr 1
      exact (List.getElem?_eq_some_iff.1 hx).2
    rw [hdr, Tx.passF] at ho
    by_cases c1 : o < x
    · by_cases c2 : q < n
      · rw [if_pos ⟨c1, c2⟩] at ho
        simp (disch := omega) [hlt, hx, c1, c2, -getElem?_pos]
        refine wC_draw 4 (by kernel_rfl) ?_
        simp (disch := omega) [hqw, hiw, show Cfg.wr ⟨3, some 0, 3⟩ 0 = true from rfl]
        exact Rnd_of (m' := b.length - (i + 1)) (by omega) ⟨i + 1, x, q + 1, by omega, by omega, by omega, by omega, ho, rfl, by simp⟩
      · rw [if_neg (fun h => c2 h.2)] at ho
        simp (disch := omega) [hlt, hx, c1, c2, hiw, -getElem?_pos]
        exact Rnd_of (m' := b.length - (i + 1)) (by omega) ⟨i + 1, o, q, by omega, by omega, by omega, by omega, ho, rfl, by simp⟩
    · rw [if_neg (fun h => c1 h.1)] at ho
      simp (disch := omega) [hlt, hx, c1, hiw, -getElem?_pos]
      exact Rnd_of (m' := b.length - (i + 1)) (by omega) ⟨i + 1, o, q, by omega, by omega, by omega, by omega, ho, rfl, by simp⟩
  obtain rfl : i = b.length := by omega
  rw [List.drop_eq_nil_of_le (Nat.le_refl _), Tx.passF] at ho
  rw [← ho]
  simp (disch := omega)
  refine wC_draw 3 (by kernel_rfl) ?_
  simp (disch := omega)
set_option maxHeartbeats 4000000 in
theorem passF_walk2 {prim : FuncId → Option Prim} (hp : prim 30 = none) (d : Nat) (h0 : Heap) (bk cap : Nat) (b z : List Int) (hb : b.length ≤ 5000) (hbk : blockOf h0 bk = some ((b ++ z).map (V.int .i64))) (a n : Int) (hn : 0 < n) :
    ∃ r h', callN Tryz.prog md prim 10000 (d + 1) ⟨h0.length, none, h0.length⟩ 30 [.sl bk 0 b.length cap 1, .int .i64 a, .int .i64 n] h0 = some (r, h') ∧ r = .tup [.int .i64 (Tx.passF b a 0 n).1, .int .i64 (Tx.passF b a 0 n).2] ∧ h'.take h0.length = h0 := by
  have hbl := blockOf_lt hbk
  have hw0 : (Cfg.wr ⟨h0.length, none, h0.length⟩ h0.length) = true := wr_lo (Nat.le_refl _)
  have hw1 : (Cfg.wr ⟨h0.length, none, h0.length⟩ (h0.length + 1)) = true := wr_lo (by show h0.length ≤ h0.length + 1; omega)
  have hw2 : (Cfg.wr ⟨h0.length, none, h0.length⟩ (h0.length + 2)) = true := wr_lo (by show h0.length ≤ h0.length + 2; omega)
  have hwx : ∀ lo x thr, (Cfg.wr ⟨lo, some x, thr⟩ x) = true := fun lo x thr => by simp [Cfg.wr]
  refine callN_of (R := fun r h' => r = .tup [.int .i64 (Tx.passF b a 0 n).1, .int .i64 (Tx.passF b a 0 n).2] ∧ h'.take h0.length = h0) hp Tryz.func30 rfl rfl rfl ?_
  simp (disch := omega) [hn, hw2]
  refine wC_loop (fun m fr H => ∃ (i : Nat) (o q : Int), i ≤ b.length ∧ m = b.length - i ∧ 0 ≤ q ∧ q ≤ i ∧ Tx.passF (b.drop i) o q n = Tx.passF b a 0 n ∧ H = h0 ++ [some [.int .i64 o], some [.int .i64 n], some [.int .i64 q]] ∧
    Slots 52 [(4, .ptr h0.length 0), (5, .ptr (h0.length + 1) 0), (8, .ptr (h0.length + 2) 0), (15, .sl bk 0 b.length cap 1), (16, .int .i64 b.length), (17, .int .i64 i)] fr) (m := b.length) (by omega) ⟨0, a, 0, by omega, by omega, by omega, by omega, rfl, rfl, by simp⟩ ?_
  rintro m fr H ⟨i, o, q, hi, rfl, hq0, hq, ho, rfl, hs⟩
  obtain ⟨j, rfl⟩ := hs.ex
  clear hs
  have hbk2 : ∀ X, blockOf (h0 ++ X) bk = some ((b ++ z).map (V.int .i64)) := fun X => by rw [blockOf_left hbl]; exact hbk
  by_cases hlt : i < b.length
  · obtain ⟨x, hx⟩ : ∃ x, b[i]? = some x := ⟨_, List.getElem?_eq_getElem hlt⟩
    have hx' : (b ++ z)[i]? = some x := by rw [List.getElem?_append_left hlt]; exact hx
    have hiw : IntKind.i64.wrap ((i : Int) + 1) = ((i + 1 : Nat) : Int) := by rw [wrap64 (by omega) (by omega)]; omega
    have hqw : IntKind.i64.wrap (q + 1) = q + 1 := by rw [wrap64 (by omega) (by omega)]
    have hdr : b.drop i = x :: b.drop (i + 1) := by
      rw [List.drop_eq_getElem_cons hlt]
      congr 1
      exact (List.getElem?_eq_some_iff.1 hx).2
    rw [hdr, Tx.passF] at ho
    by_cases c1 : o < x
    · by_cases c2 : q < n
      · rw [if_pos ⟨c1, c2⟩] at ho
        simp (disch := omega) [hlt, hbk2, hx', c1, c2, -List.map_append, -getElem?_pos]
        refine wC_draw 4 (by kernel_rfl) ?_
        simp (disch := omega) [hqw, hiw, hw0, hw2, hwx]
        exact Rnd_of (m' := b.length - (i + 1)) (by omega) ⟨i + 1, x, q + 1, by omega, by omega, by omega, by omega, ho, rfl, by simp⟩
      · rw [if_neg (fun h => c2 h.2)] at ho
        simp (disch := omega) [hlt, hbk2, hx', c1, c2, hiw, -List.map_append, -getElem?_pos]
        exact Rnd_of (m' := b.length - (i + 1)) (by omega) ⟨i + 1, o, q, by omega, by omega, by omega, by omega, ho, rfl, by simp⟩
    · rw [if_neg (fun h => c1 h.1)] at ho
      simp (disch := omega) [hlt, hbk2, hx', c1, hiw, -List.map_append, -getElem?_pos]
      exact Rnd_of (m' := b.length - (i + 1)) (by omega) ⟨i + 1, o, q, by omega, by omega, by omega, by omega, ho, rfl, by simp⟩
  obtain rfl : i = b.length := by omega
  rw [List.drop_eq_nil_of_le (Nat.le_refl _), Tx.passF] at ho
  rw [← ho]
  simp (disch := omega)
  refine wC_draw 3 (by kernel_rfl) ?_
  simp (disch := omega)
def passX (b : List Int) (a n : Int) : Int × Int := if 0 < n then Tx.passF b a 0 n else Tx.passB b.reverse a 0 n
end Bi
end Go.Ab
namespace Go.Ab
open Go.Proofs
section
variable {P : Program} {md : FuncId → Nat} {call : Callf} {prim : FuncId → Option Prim} {cfg : Cfg} {n d : Nat}
theorem code_none {a b : Code} {fr : List V} {h : Heap} {I : List V → Heap → Prop} (h1 : @wC P md call cfg n ⟨a⟩ fr h ⟨fun e fr' h' => e = .normal ∧ I fr' h'⟩)
    (h2 : ∀ fr' h', I fr' h' → code P md call (drawR P md call) cfg n b fr' h' = none) : code P md call (drawR P md call) cfg n (.seq a b) fr h = none := by
  obtain ⟨⟨e, fr', h'⟩, hx, he, hI⟩ := h1
  simp only at he hI
  subst he
  replace hx : code P md call (drawR P md call) cfg n a fr h = some (.normal, fr', h') := hx
  simp only [code, hx]
  exact h2 _ _ hI
theorem code_none_l {a b : Code} {fr : List V} {h : Heap} (h1 : code P md call (drawR P md call) cfg n a fr h = none) : code P md call (drawR P md call) cfg n (.seq a b) fr h = none := by
  simp only [code, h1]
theorem code_none_r {id : Nat} {ops : Array Oper} {b : Code} {fr : List V} {h : Heap} (h1 : ∀ fr h, code P md call (drawR P md call) cfg n b fr h = none) : code P md call (drawR P md call) cfg n (.seq (.region id ops false) b) fr h = none := by
  simp only [code]
  cases hr : runOps P md call cfg ops ops.toList fr h with
  | none => rfl
  | some p => simp only [h1]
theorem callN_none {f : FuncId} {fn : Func} {c : Code} {k : Nat} {args : List V} {h : Heap} (hp : prim f = none) (hf : P.funcs[f]? = some fn) (hb : fn.body = some c) (hk : fn.ntmps = k)
    (hc : code P md (callN P md prim n d) (drawR P md (callN P md prim n d)) cfg n c (args ++ List.replicate (k - args.length) .no) h = none) : callN P md prim n (d + 1) cfg f args h = none := by
  subst hk
  simp only [callN, hp, hf, fnEv, hb, hc]
theorem callN_ext {prim' : FuncId → Option Prim} {g : FuncId} {q : Prim} {D : Nat} (h1 : ∀ f, f ≠ g → prim' f = prim f) (h2 : prim' g = some q)
    (h3 : ∀ cfg args h r, callN P md prim n D cfg g args h = some r → q cfg args h = some r) : ∀ d, d ≤ D → Le (callN P md prim n d) (callN P md prim' n d)
  | 0, _ => fun _ _ _ _ _ hx => by cases hx
  | d + 1, hd => fun cfg f args h r hx => by
    have ih := callN_ext h1 h2 h3 d (by omega)
    by_cases hf : f = g
    · subst hf
      have hx' : callN P md prim n D cfg f args h = some r := by
        obtain ⟨k, rfl⟩ : ∃ k, D = d + 1 + k := ⟨D - (d + 1), by omega⟩
        clear hd ih
        induction k with
        | zero => exact hx
        | succ k ihk => exact callN_mono (d + 1 + k) _ _ _ _ _ (ihk (fun cfg args h r hx => h3 _ _ _ _ (callN_mono (d + 1 + k) _ _ _ _ _ hx)))
      simp only [callN, h2]
      exact h3 _ _ _ _ hx'
    · unfold callN at hx ⊢
      rw [h1 f hf]
      split at hx
      · exact hx
      · split at hx
        · cases hx
        · exact fnEv_mono ih hx
end
namespace Bi
theorem pass_none {prim : FuncId → Option Prim} (hp : prim 30 = none) (d : Nat) (v : V) (a n : Int) (hn : ¬ 0 < n) (h : Heap) :
    callN Tryz.prog md prim 10000 (d + 1) ⟨h.length, none, h.length⟩ 30 [v, .int .i64 a, .int .i64 n] h = none := by
  refine callN_none hp Tryz.func30 rfl rfl ?_
  simp only [List.length_cons, List.length_nil, Nat.reduceAdd, List.cons_append, List.nil_append]
  refine code_none (I := fun fr h' => h' = h ++ [some [.int .i64 a], some [.int .i64 n]] ∧ Slots 52 [(0, v), (4, .ptr h.length 0), (5, .ptr (h.length + 1) 0)] fr) ?_ ?_
  · simp
  rintro fr h' ⟨rfl, hs⟩
  obtain ⟨j, rfl⟩ := hs.ex
  clear hs
  refine code_none (I := fun fr h' => h' = h ++ [some [.int .i64 a], some [.int .i64 n], some [.int .i64 0]] ∧ Slots 52 [(0, v), (4, .ptr h.length 0), (5, .ptr (h.length + 1) 0)] fr) ?_ ?_
  · have hw : (Cfg.wr ⟨h.length, none, h.length⟩ (h.length + 2)) = true := wr_lo (by show h.length ≤ h.length + 2; omega)
    simp [hw]
  rintro fr h' ⟨rfl, hs⟩
  obtain ⟨j, rfl⟩ := hs.ex
  clear hs
  refine code_none (I := fun _ _ => True) ?_ ?_
  · simp [hn]
  rintro fr h' -
  exact code_none_l (code_none_r fun fr h => rfl)
def isBack : List V → Bool
  | [.lst xs, .int .i64 _, .int .i64 n] => !decide (0 < n) && (zsOf xs).isSome
  | [.sl .., .int .i64 _, .int .i64 n] => !decide (0 < n)
  | _ => false
def cfgAt (cfg : Cfg) (h : Heap) : Bool := cfg.lo == h.length && cfg.ex.isNone && cfg.thr == h.length
theorem cfgAt_eq {cfg : Cfg} {h : Heap} (hc : cfgAt cfg h = true) : cfg = ⟨h.length, none, h.length⟩ := by
  obtain ⟨a, b, c⟩ := cfg
  simp only [cfgAt, Bool.and_eq_true, beq_iff_eq, Option.isNone_iff_eq_none] at hc
  obtain ⟨⟨rfl, rfl⟩, rfl⟩ := hc
  rfl
theorem cfgAt_at (h : Heap) : cfgAt ⟨h.length, none, h.length⟩ h = true := by simp [cfgAt]
noncomputable def passQ : Prim := fun cfg args h =>
  if isBack args = true ∧ cfgAt cfg h = true then (match args with
    | .lst _ :: _ => passP cfg args h
    | _ => passP2 cfg args h)
  else callN Tryz.prog md pX 10000 40 cfg 30 args h
theorem passQ_ok : PrimOK Tryz.prog 30 passQ := by
  intro cfg args h r h' hx
  unfold passQ at hx
  split at hx
  · split at hx
    · exact passP_ok _ _ _ _ _ hx
    · exact passP2_ok _ _ _ _ _ hx
  · exact callN_ok hfol hnam pX_ok 40 _ _ _ _ _ _ hx
theorem back_none (args : List V) (h : Heap) (hb : isBack args = true) : callN Tryz.prog md pX 10000 40 ⟨h.length, none, h.length⟩ 30 args h = none := by
  unfold isBack at hb
  split at hb
  · simp only [Bool.and_eq_true, Bool.not_eq_true', decide_eq_false_iff_not] at hb
    exact pass_none (prim := pX) (pX_none _ (by decide)) 39 _ _ _ hb.1 h
  · simp only [Bool.not_eq_true', decide_eq_false_iff_not] at hb
    exact pass_none (prim := pX) (pX_none _ (by decide)) 39 _ _ _ hb h
  · cases hb
theorem passQ_ext (cfg : Cfg) (args : List V) (h : Heap) (r : V × Heap) (hx : callN Tryz.prog md pX 10000 40 cfg 30 args h = some r) : passQ cfg args h = some r := by
  unfold passQ
  split
  · rename_i hb
    rw [cfgAt_eq hb.2, back_none args h hb.1] at hx
    cases hx
  · exact hx
noncomputable def pY (f : FuncId) : Option Prim := if f = 30 then some passQ else pX f
theorem pY_ok : ∀ f p, pY f = some p → PrimOK Tryz.prog f p := by
  intro f p h
  unfold pY at h
  split at h
  · rename_i hf
    cases h
    subst hf
    exact passQ_ok
  · exact pX_ok f p h
theorem pY_none (f : FuncId) (h : Np5 f) (h2 : f ≠ 30) : pY f = none := by
  unfold pY
  rw [if_neg h2]
  exact pX_none f h
theorem toY {d : Nat} (hd : d ≤ 40) {cfg : Cfg} {f : FuncId} {args : List V} {h : Heap} {r : V × Heap} (hx : callM md (K pX d) cfg f args h = some r) : callM md (K pY d) cfg f args h = some r :=
  callM_mono (callN_ext (g := 30) (q := passQ) (D := 40) (fun _f hf => if_neg hf) (if_pos rfl) (fun cfg args h r hx => passQ_ext cfg args h r hx) d hd) hx
theorem passQ_pos (v : V) (a n : Int) (hn : 0 < n) (cfg : Cfg) (h : Heap) : passQ cfg [v, .int .i64 a, .int .i64 n] h = callN Tryz.prog md pX 10000 40 cfg 30 [v, .int .i64 a, .int .i64 n] h := by
  unfold passQ
  rw [if_neg]
  rintro ⟨hb, _⟩
  unfold isBack at hb
  split at hb
  · rename_i he
    cases he
    simp [hn] at hb
  · rename_i he
    cases he
    simp [hn] at hb
  · cases hb
theorem passQ_neg (zs : List Int) (a n : Int) (hn : ¬ 0 < n) : passQ ⟨0, none, 0⟩ [il zs, .int .i64 a, .int .i64 n] [] = passP ⟨0, none, 0⟩ [il zs, .int .i64 a, .int .i64 n] [] := by
  unfold passQ
  rw [if_pos]
  refine ⟨?_, cfgAt_at []⟩
  show (!decide (0 < n) && (zsOf (zs.map fun n => [.int .i64 n])).isSome) = true
  rw [zsOf_il]
  simp [hn]
theorem passQ_neg2 (b off len cap : Nat) (a n : Int) (hn : ¬ 0 < n) (h : Heap) : passQ ⟨h.length, none, h.length⟩ [.sl b off len cap 1, .int .i64 a, .int .i64 n] h = passP2 ⟨h.length, none, h.length⟩ [.sl b off len cap 1, .int .i64 a, .int .i64 n] h := by
  unfold passQ
  rw [if_pos]
  refine ⟨?_, cfgAt_at h⟩
  show (!decide (0 < n)) = true
  simp [hn]
theorem passP2_neg (h : Heap) (b cap : Nat) (zs : List Int) (J : List V) (hb : blockOf h b = some (zs.map (V.int .i64) ++ J)) (hl : zs.length ≤ 1000000) (a n : Int) (hn : ¬ 0 < n) (cfg : Cfg) : passP2 cfg [.sl b 0 zs.length cap 1, .int .i64 a, .int .i64 n] h = some (.tup [.int .i64 (Tx.passB zs.reverse a 0 n).1, .int .i64 (Tx.passB zs.reverse a 0 n).2], h) := by
  simp only [passP2]
  rw [if_neg hn, hb]
  simp only
  rw [if_pos (by simp), List.drop_zero, List.take_left' (by simp), intIn_map]
  simp only
  rw [if_pos hl]
theorem passP_neg (zs : List Int) (hz : zs ≠ []) (hl : zs.length ≤ 1000000) (a n : Int) (hn : ¬ 0 < n) : passP ⟨0, none, 0⟩ [il zs, .int .i64 a, .int .i64 n] [] = some (.tup [.int .i64 (Tx.passB zs.reverse a 0 n).1, .int .i64 (Tx.passB zs.reverse a 0 n).2], []) := by
  have e : passP ⟨0, none, 0⟩ [il zs, .int .i64 a, .int .i64 n] [] = if 0 < n then callN Tryz.prog md (fun _ => none) 10000 5 ⟨0, none, 0⟩ 30 [il zs, .int .i64 a, .int .i64 n] []
    else match zsOf (zs.map fun n => [.int .i64 n]) with
      | some zs => if 0 < zs.length ∧ zs.length ≤ 1000000 then some (.tup [.int .i64 (Tx.passB zs.reverse a 0 n).1, .int .i64 (Tx.passB zs.reverse a 0 n).2], []) else none
      | none => none := rfl
  rw [e, if_neg hn, zsOf_il]
  exact if_pos ⟨List.length_pos_iff.2 hz, hl⟩
theorem callN_part {prim : FuncId → Option Prim} {d : Nat} {f : FuncId} {p : Prim} (h : prim f = some p) (cfg : Cfg) (args : List V) (H : Heap) : callN Tryz.prog md prim 10000 (d + 1) cfg f args H = p cfg args H := by
  simp only [callN, h]
theorem pass_ok (d : Nat) (cfg : Cfg) (h : Heap) (b : List Int) (hb0 : b ≠ []) (hb : b.length ≤ 5000) (a n : Int) :
    callM md (K pY (d + 1)) cfg 30 [il b, .int .i64 a, .int .i64 n] h = some (.tup [.int .i64 (passX b a n).1, .int .i64 (passX b a n).2], h) := by
  have hm : md 30 = 0 := rfl
  have hK : ∃ h', callN Tryz.prog md pY 10000 (d + 1) ⟨0, none, 0⟩ 30 [il b, .int .i64 a, .int .i64 n] [] = some (.tup [.int .i64 (passX b a n).1, .int .i64 (passX b a n).2], h') := by
    rw [callN_part (p := passQ) (if_pos rfl)]
    unfold passX
    by_cases hn : 0 < n
    · obtain ⟨r, h', h1, rfl⟩ := passF_walk (prim := pX) (pX_none _ (by decide)) 39 b hb a n hn
      rw [if_pos hn]
      exact ⟨h', (passQ_pos _ a n hn _ _).trans h1⟩
    · rw [if_neg hn]
      exact ⟨[], (passQ_neg b a n hn).trans (passP_neg b hb0 (by omega) a n hn)⟩
  obtain ⟨h', hK⟩ := hK
  have hr : ([il b, .int .i64 a, .int .i64 n] : List V).all V.noref = true := by simp
  simp only [callM, hm, hr, if_true, hK]
  simp
theorem pass_sl (d : Nat) (h : Heap) (bk cap : Nat) (b z : List Int) (hb : b.length ≤ 5000) (hbk : blockOf h bk = some ((b ++ z).map (V.int .i64))) (a n : Int) (cfg : Cfg) :
    callM md (K pY (d + 1)) cfg 30 [.sl bk 0 b.length cap 1, .int .i64 a, .int .i64 n] h = some (.tup [.int .i64 (passX b a n).1, .int .i64 (passX b a n).2], h) := by
  have hm : md 30 = 0 := rfl
  have hK : ∃ h', callN Tryz.prog md pY 10000 (d + 1) ⟨h.length, none, h.length⟩ 30 [.sl bk 0 b.length cap 1, .int .i64 a, .int .i64 n] h = some (.tup [.int .i64 (passX b a n).1, .int .i64 (passX b a n).2], h') ∧ h'.take h.length = h := by
    rw [callN_part (p := passQ) (if_pos rfl)]
    unfold passX
    by_cases hn : 0 < n
    · obtain ⟨r, h', h1, rfl, h2⟩ := passF_walk2 (prim := pX) (pX_none _ (by decide)) 39 h bk cap b z hb hbk a n hn
      rw [if_pos hn]
      exact ⟨h', (passQ_pos _ a n hn _ _).trans h1, h2⟩
    · rw [if_neg hn]
      rw [List.map_append] at hbk
      exact ⟨h, (passQ_neg2 bk 0 b.length cap a n hn h).trans (passP2_neg h bk cap b _ hbk (by omega) a n hn _), List.take_length⟩
  obtain ⟨h', hK, ht⟩ := hK
  have hr : ([.sl bk 0 b.length cap 1, .int .i64 a, .int .i64 n] : List V).all V.noref = false := rfl
  simp only [callM, hm, hr, Bool.false_eq_true, if_false, hK]
  simp [ht]
end Bi
end Go.Ab
namespace Go.Ab
open Go.Proofs
namespace Bi
theorem pass_okS (d : Nat) (cfg : Cfg) (h : Heap) (b : List Int) (hb0 : b ≠ []) (hb : b.length ≤ 5000) (a n : Int) :
    callM md (K pY (d + 1)) cfg 30 [il b, .int .i64 a, .int .i64 n] h = some (.tup [.int .i64 (Tx.passS b a n).1, .int .i64 (Tx.passS b a n).2], h) := pass_ok d cfg h b hb0 hb a n
set_option maxHeartbeats 4000000 in
theorem extend_ok (d : Nat) (hd : d + 2 ≤ 40) (cfg : Cfg) (h : Heap) (p : Par) (L : List LinG) (u : Int) (b : List Int) (hb : b.length ≤ 4900) (hn : Tx.Bnd b p.t.length)
    (hB : ∀ cfg h, callM md (K pY (d + 1)) cfg 11 [.agg (parC p), .lst (L.map linF), .int .i64 u] h = some (il b, h)) (f t k : Int) (h0 : 0 ≤ f) (h1 : f ≤ t) (h2 : t ≤ p.t.length) :
    callM md (K pY (d + 2)) cfg 15 [.agg (parC p), .lst (L.map linF), .agg [.int .i64 f, .int .i64 t], .int .i64 u, .int .i64 k] h = some (.tup [.agg [.int .i64 (Tx.extS b f t k).1, .int .i64 (Tx.extS b f t k).2.1], .int .i64 (Tx.extS b f t k).2.2], h) := by
  refine call0 rfl (pY_none _ (by decide) (by decide)) Tryz.func15 rfl rfl rfl (by simp [parC]) ?_
  obtain ⟨hlf, hmp, s0, s1, s2, s3, s4, l5, t5⟩ := pslots p
  have hV := fun cfg h => toY (d := d + 1) (by omega) (tvalid_ok (prim := pX) d pX_none cfg h f t p.t.length)
  have hbp : ¬ b = [] := fun e => by have := hn.zero; rw [e] at this; simp at this
  have hbl : ¬ (b.length : Int) = 0 := fun e => hbp (List.eq_nil_of_length_eq_zero (by omega))
  have hP := fun cfg h => pass_okS d cfg h b hbp (by omega) t k
  simp only [h0, h1, h2, decide_true, Bool.and_true] at hV
  simp (disch := omega) [hlf, hmp, l5, t5, s0, hB, hbp, hV, hP]
  unfold Tx.extS
  by_cases hq : (Tx.passS b t k).2 = 0
  · rw [if_pos hq]
    simp (disch := omega) [hq]
  · rw [if_neg hq]
    simp (disch := omega) [hq]
theorem awakeY (d : Nat) (hd : d + 1 ≤ 40) (cfg : Cfg) (h : Heap) : callM md (K pY (d + 1)) cfg 13 [] h = some (.bool true, h) := toY hd (awakeX d cfg h)
set_option maxHeartbeats 4000000 in
set_option maxRecDepth 100000 in
theorem extends_ok (d : Nat) (hd : d + 11 ≤ 40) (l : List Int) : ∃ v h', callN Tryz.prog md pY 10000 (d + 11) ⟨0, none, 0⟩ 5 [il l] [] = some (v, h') ∧ v = .bool true := by
  have hA := fun cfg h => awakeY (d + 9) (by omega) cfg h
  have hNw := fun cfg h => toY (d := d + 10) (by omega) (new_ok (prim := pX) (d + 9) cfg h (pX_none _ (by decide)) l)
  have hL : (l.take 4000).length ≤ 4000 := by simp; omega
  refine callN_of (R := fun r _ => r = .bool true) (pY_none _ (by decide) (by decide)) Tryz.func5 rfl rfl rfl ?_
  generalize hLL : l.take 4000 = L at *
  obtain ⟨p, ls, k0, hpt, hls, hlr, hk0, hBu⟩ := built_ok (prim := pX) d pX_none L hL
  rw [show ((0 : Nat) : Int) = 0 from rfl] at hBu
  have hBu' := toY (d := d + 10) (by omega) hBu
  obtain ⟨hlf, hmp, s0, s1, s2, s3, s4, l5, t5⟩ := pslots p
  have mE : md 15 = 0 := rfl
  have hpp : putAt [.nils, .nils, .int .i64 0, .int .i64 0, .int .i64 0] 0 (parC p) = parC p := rfl
  obtain ⟨u, k3, hu1, hu5, hk3, hR⟩ := R_all (prim := pX) (d + 8) pX_none L k0 hL hk0 1 5 (by omega) (by omega) (by omega)
  have hR' := toY (d := d + 10) (by omega) (hR ⟨0, none, 0⟩ [some [il L, .int .i64 k0], some (parC p)] 0 rfl rfl)
  simp only [List.set_cons_zero] at hR'
  obtain ⟨_, ⟨b, rfl, hbl, hbn⟩, hB⟩ := bnds_ex (prim := pX) (d + 3) pX_none pX_sort p (by omega) ls hls hlr u hu1 hu5
  have hB10 := fun cfg h => toY (d := d + 10) (by omega) (callM_deep (d + 9) 1 (hB cfg h))
  have hE := fun cfg h f t k h0 h1 h2 => extend_ok (d + 8) (by omega) cfg h p ls u b hbl hbn (fun cfg h => toY (by omega) (hB cfg h)) f t k h0 h1 h2
  have hf := hbn.first
  have hl := hbn.last
  have hbp : b ≠ [] := fun e => by rw [e] at hf; simp at hf
  have hlen := (List.getElem?_eq_some_iff.1 hf).1
  have hb1 : ¬ (b.length : Int) = 0 := by omega
  have hlm : IntKind.i64.wrap ((b.length : Int) - 1) = ((b.length - 1 : Nat) : Int) := by rw [wrap64 (by omega) (by omega)]; omega
  simp (disch := omega) [hNw, hBu', hlf, hmp, l5, t5, s0, hpp, hR', hB10, hbp, hf, hl, hlm, -getElem?_pos]
  refine wC_loop (fun m fr H => ∃ (c q : Nat) (x : Int), c = q + 1 ∧ c ≤ b.length ∧ m = b.length - c ∧ b[q]? = some x ∧ H = [some [il L, .int .i64 k3], some (parC p), some [.int .i64 0, .int .i64 x]] ∧
    Slots 106 [(4, .ptr 1 0), (5, .lst (ls.map linF)), (7, .int .i64 u), (8, il b), (9, .ptr 2 0), (10, .int .i64 q), (11, .int .i64 c)] fr) (m := b.length - 1) (by omega) ⟨1, 0, 0, rfl, by omega, by omega, hf, rfl, by simp⟩ ?_
  rintro m fr H ⟨c, q, x, hc, hcl, rfl, hx, rfl, hs⟩
  obtain ⟨j, rfl⟩ := hs.ex
  clear hs
  have hxr := hbn.rng x (List.mem_of_getElem? hx)
  by_cases hlt : c < b.length
  · obtain ⟨y, hy⟩ : ∃ y, b[c]? = some y := ⟨_, List.getElem?_eq_getElem hlt⟩
    have hyr := hbn.rng y (List.mem_of_getElem? hy)
    have he := Tx.ext_next hbn hx (by rw [← hc]; exact hy) 0 hyr.1
    have hE1 := fun cfg h => hE cfg h 0 x 1 (by omega) hxr.1 hxr.2
    simp only [he] at hE1
    have hcw : IntKind.i64.wrap ((c : Int) + 1) = ((c + 1 : Nat) : Int) := by rw [wrap64 (by omega) (by omega)]; omega
    have hqw : IntKind.i64.wrap ((q : Int) + 1) = ((q + 1 : Nat) : Int) := by rw [wrap64 (by omega) (by omega)]; omega
    simp (disch := omega) [hlt, hmp, l5, t5, hE1]
    refine wC_draw 14 (by kernel_rfl) ?_
    simp (disch := omega) [hy, hcw, hqw, -getElem?_pos]
    exact Rnd_of (m' := b.length - (c + 1)) (by omega) ⟨c + 1, q + 1, y, by omega, by omega, by omega, by rw [← hc]; exact hy, rfl, by simp⟩
  · obtain rfl : c = b.length := by omega
    have hxn : x = p.t.length := by
      rw [show b.length - 1 = q by omega, hx] at hl
      exact Option.some.inj hl
    have hE2 : ∀ cfg h, callM md (K pY (d + 8 + 2)) cfg 15 [.agg (parC p), .lst (ls.map linF), .agg [.int .i64 0, .int .i64 x], .int .i64 u, .int .i64 (-(q : Int) - 1)] h = some (.tup [.agg [.int .i64 0, .int .i64 0], .int .i64 (-(q : Int))], h) := by
      intro cfg h
      have h1 := hE cfg h 0 x (-(q : Int) - 1) (by omega) hxr.1 hxr.2
      rcases Nat.eq_zero_or_pos q with hq | hq
      · have hn0 : x = 0 := by
          have h0 : b[0]? = some x := by rw [← hq]; exact hx
          rw [hf] at h0
          exact (Option.some.inj h0).symm
        have hb0 : b = [0] := by
          have h1 : b.length = 1 := by omega
          match b, h1, hf with
          | [z], _, hf => simp at hf; rw [hf]
        subst hq
        rw [hn0, hb0] at h1
        rw [hn0]
        exact h1
      · rw [Tx.ext_back hbn hx (by omega) (by omega) hq] at h1
        exact h1
    have hw1 : IntKind.i64.wrap (-(q : Int)) = -(q : Int) := wrap64 (by omega) (by omega)
    have hw2 : IntKind.i64.wrap (-(q : Int) - 1) = -(q : Int) - 1 := wrap64 (by omega) (by omega)
    simp (disch := omega) [hmp, l5, t5, hw1, hw2, hE2, hA]
end Bi
end Go.Ab
