/- Several texts of this proof in one. -/
import Derived.Test.YteogajcegmejgaaGreatPiDis
import Derived.Test.YteogajcegmejgaaGreatPiLev
import Derived.Test.YteogajcegmejgaaGreatPiL
namespace Go.Ab
open Go.Proofs
namespace Bi
def rbef (o lv : List Int) (e : Int) : Nat → Int
  | 0 => e
  | k + 1 => if gone (o.getD k 0) = true then rbef o lv e k else lv.getD k 0
def raft (e : Int) : List Int → List Int → Int
  | x :: o, y :: lv => if gone x = true then raft e o lv else y
  | _, _ => e
def rendS (o lv : List Int) (e f g : Int) : Int × Int :=
  (strS (max (lvl lv f) (rbef o lv e f.toNat)), strS (max (lvl lv f) (if ini (o.getD g.toNat 0) = true then e else raft e (o.drop (g.toNat + 1)) (lv.drop (g.toNat + 1)))))
section
variable {prim : FuncId → Option Prim} (d : Nat) (cfg : Cfg) (h : Heap)
set_option maxHeartbeats 2000000 in
theorem rends_ok (hp : prim 104 = none) (h71 : prim 132 = none) (h47 : prim 99 = none) (h63 : prim 100 = none) (h45 : prim 108 = none) (h66 : prim 134 = none) (t lv l : List Int) (n : Nat) (htn : t.length = n) (hlv : lv.length = n) (hn2 : n ≤ 2000) (hll : l.length ≤ 2000) (f g : Nat) (hf : l[0]? = some (f : Int)) (hg : l[l.length - 1]? = some (g : Int)) (hfn : f < n) (hgn : g < n) (e : Int) (hl0 : 0 ≤ lvl lv f) {args : List V} (hargs : args.mapM (frzA h) = some [rl t, il lv, .int .i64 e, il l]) :
    callM md (K prim (d + 4)) cfg 104 args h = some (.tup [.int .i64 (rendS (t.map bidi) lv e f g).1, .int .i64 (rendS (t.map bidi) lv e f g).2], h) := by
  have hB := fun cfg h r => rbidi_ok (prim := prim) (d + 1) cfg h h71 h47 r
  have hI := fun cfg h x => rini_ok (prim := prim) (d + 2) cfg h h63 x
  have hG := fun cfg h r => rgone_ok (prim := prim) d cfg h h45 h71 h47 r
  have hS := fun cfg h x hx => rside_ok (prim := prim) (d + 2) cfg h h66 x hx
  have hl1 : 0 < l.length := (List.getElem?_eq_some_iff.1 hf).1
  have hgt : ∀ (j : Nat) (z : Int), t[j]? = some z → (t.map bidi)[j]? = some (bidi z) := fun j z hz => by rw [List.getElem?_map, hz]; rfl
  have hol : (t.map bidi).length = n := by simpa using htn
  generalize t.map bidi = o at *
  obtain ⟨lf, hlf⟩ : ∃ x, lv[f]? = some x := ⟨_, List.getElem?_eq_getElem (by omega)⟩
  have elf : lvl lv f = lf := by simp [lvl, List.getD_eq_getElem?_getD, hlf]
  rw [elf] at hl0
  obtain ⟨zg, hzg⟩ : ∃ z, t[g]? = some z := ⟨_, List.getElem?_eq_getElem (by omega)⟩
  have eog : o.getD g 0 = bidi zg := by rw [List.getD_eq_getElem?_getD, hgt g zg hzg]; rfl
  have hR : rendS o lv e f g = (strS (max lf (rbef o lv e f)), strS (max lf (if ini (bidi zg) = true then e else raft e (o.drop (g + 1)) (lv.drop (g + 1))))) := by
    simp only [rendS, elf, Int.toNat_natCast, eog]
  rw [hR]
  refine call3 rfl hp Tryz.func104 rfl rfl rfl hargs ?_
  have hl1n : ((l.length : Int) - 1).toNat = l.length - 1 := by omega
  simp (disch := omega) [hf, wrap64, -getElem?_pos]
  have hmax : ∀ x : Int, 0 ≤ max lf x := fun x => Int.le_trans hl0 (Int.le_max_left ..)
  refine wC_loop (fun m fr H => ∃ (k : Nat), k ≤ f ∧ m = k ∧ rbef o lv e f = rbef o lv e k ∧ H = [] ∧ Slots 81 [(0, rl t), (1, il lv), (2, .int .i64 e), (3, il l), (10, .int .i64 e), (11, .int .i64 e), (12, .int .i64 ((k : Int) - 1))] fr) (m := f) (by omega) ⟨f, by omega, rfl, rfl, rfl, by simp⟩ ?_
  rintro m fr H ⟨k, hk, hm, hF, rfl, hs⟩
  replace hm := hm.symm
  subst hm
  obtain ⟨j, rfl⟩ := hs.ex
  clear hs
  rcases k with _ | k
  · rw [hF, rbef]
    cases hini : ini (bidi zg)
    · rw [if_neg (by simp)]
      simp (disch := omega) [hl1n, hg, hzg, hB, hI, hini, wrap64, -getElem?_pos]
      refine wC_loop (fun m fr H => ∃ (k : Nat), k ≤ n ∧ m = n - k ∧ raft e (o.drop (g + 1)) (lv.drop (g + 1)) = raft e (o.drop k) (lv.drop k) ∧ H = [] ∧ Slots 81 [(0, rl t), (1, il lv), (2, .int .i64 e), (3, il l), (10, .int .i64 e), (11, .int .i64 e), (14, .int .i64 k)] fr) (m := n - (g + 1)) (by omega) ⟨g + 1, by omega, rfl, rfl, rfl, by simp⟩ ?_
      rintro m fr H ⟨k, hk, rfl, hF2, rfl, hs⟩
      obtain ⟨j2, rfl⟩ := hs.ex
      clear hs
      rw [hF2]
      by_cases hlt : k < n
      · have hltI : (k : Int) < t.length := by omega
        obtain ⟨z, hz⟩ : ∃ z, t[k]? = some z := ⟨_, List.getElem?_eq_getElem (by omega)⟩
        obtain ⟨y2, hy2⟩ : ∃ z, lv[k]? = some z := ⟨_, List.getElem?_eq_getElem (by omega)⟩
        rw [drop_at (hgt k z hz), drop_at hy2, raft]
        cases hgo : gone (bidi z)
        · rw [if_neg (by simp)]
          simp (disch := omega) [hltI, hz, hG, hgo, hy2, hf, hlf, hS, own, -getElem?_pos]
        · rw [if_pos rfl]
          simp (disch := omega) [hltI, hz, hG, hgo, wrap64, -getElem?_pos]
          exact Rnd_of (m' := n - (k + 1)) (by omega) ⟨k + 1, by omega, rfl, rfl, rfl, by simp (disch := omega)⟩
      · have hltI : ¬ (k : Int) < t.length := by omega
        rw [List.drop_of_length_le (l := o) (by omega)]
        have hr0 : ∀ x, raft e [] x = e := fun x => by unfold raft; rfl
        rw [hr0]
        simp (disch := omega) [hltI, hf, hlf, hS, own, -getElem?_pos]
    · rw [if_pos rfl]
      simp (disch := omega) [hl1n, hg, hzg, hB, hI, hini, hf, hlf, hS, own, wrap64, -getElem?_pos]
  · have hk1 : ((k + 1 : Nat) : Int) - 1 = k := by omega
    rw [hk1]
    obtain ⟨z, hz⟩ : ∃ z, t[k]? = some z := ⟨_, List.getElem?_eq_getElem (by omega)⟩
    obtain ⟨y, hy⟩ : ∃ z, lv[k]? = some z := ⟨_, List.getElem?_eq_getElem (by omega)⟩
    have eo : o.getD k 0 = bidi z := by rw [List.getD_eq_getElem?_getD, hgt k z hz]; rfl
    rw [rbef, eo] at hF
    cases hgo : gone (bidi z)
    · have ey : lv.getD k 0 = y := by rw [List.getD_eq_getElem?_getD, hy]; rfl
      rw [hgo, if_neg (by simp), ey] at hF
      rw [hF]
      cases hini : ini (bidi zg)
      · rw [if_neg (by simp)]
        simp (disch := omega) [hz, hG, hgo, hy, hl1n, hg, hzg, hB, hI, hini, wrap64, -getElem?_pos]
        refine wC_loop (fun m fr H => ∃ (k : Nat), k ≤ n ∧ m = n - k ∧ raft e (o.drop (g + 1)) (lv.drop (g + 1)) = raft e (o.drop k) (lv.drop k) ∧ H = [] ∧ Slots 81 [(0, rl t), (1, il lv), (2, .int .i64 e), (3, il l), (10, .int .i64 y), (11, .int .i64 e), (14, .int .i64 k)] fr) (m := n - (g + 1)) (by omega) ⟨g + 1, by omega, rfl, rfl, rfl, by simp⟩ ?_
        rintro m fr H ⟨k, hk, rfl, hF2, rfl, hs⟩
        obtain ⟨j2, rfl⟩ := hs.ex
        clear hs
        rw [hF2]
        by_cases hlt : k < n
        · have hltI : (k : Int) < t.length := by omega
          obtain ⟨z, hz⟩ : ∃ z, t[k]? = some z := ⟨_, List.getElem?_eq_getElem (by omega)⟩
          obtain ⟨y2, hy2⟩ : ∃ z, lv[k]? = some z := ⟨_, List.getElem?_eq_getElem (by omega)⟩
          rw [drop_at (hgt k z hz), drop_at hy2, raft]
          cases hgo2 : gone (bidi z)
          · rw [if_neg (by simp)]
            simp (disch := omega) [hltI, hz, hG, hgo2, hy2, hf, hlf, hS, own, -getElem?_pos]
          · rw [if_pos rfl]
            simp (disch := omega) [hltI, hz, hG, hgo2, wrap64, -getElem?_pos]
            exact Rnd_of (m' := n - (k + 1)) (by omega) ⟨k + 1, by omega, rfl, rfl, rfl, by simp (disch := omega)⟩
        · have hltI : ¬ (k : Int) < t.length := by omega
          rw [List.drop_of_length_le (l := o) (by omega)]
          have hr0 : ∀ x, raft e [] x = e := fun x => by unfold raft; rfl
          rw [hr0]
          simp (disch := omega) [hltI, hf, hlf, hS, own, -getElem?_pos]
      · rw [if_pos rfl]
        simp (disch := omega) [hz, hG, hgo, hy, hl1n, hg, hzg, hB, hI, hini, hf, hlf, hS, own, wrap64, -getElem?_pos]
    · rw [hgo, if_pos rfl] at hF
      simp (disch := omega) [hz, hG, hgo, wrap64, -getElem?_pos]
      exact Rnd_of (m' := k) (by omega) ⟨k, by omega, rfl, hF, rfl, by simp (disch := omega)⟩
end
end Bi
end Go.Ab
namespace Go.Ab.Bi
def popN : Nat → List Ent → List Ent
  | 0, st => st
  | v + 1, st => popN v (popI st)
def Good (st0 : List Ent) (D : Nat) (s : ES) : Prop := ∃ v, popN v s.st = st0 ∧ ((1 ≤ v ∧ s.iso + v = D + 1 ∧ v ≤ s.val) ∨ (v = 0 ∧ D + 1 ≤ s.iso))
end Go.Ab.Bi
namespace Go.Ab.Bi
theorem grp_lastr (lv kept : List Int) : ∀ k, 0 < k → ∃ a r, grp lv kept k = a ++ [r] ∧ r.getLast? = some (kept.getD (k - 1) 0)
  | 0, h => by omega
  | k + 1, _ => by
    rw [show grp lv kept (k + 1) = if k = 0 ∨ lvl lv (kept.getD k 0) ≠ lvl lv (kept.getD (k - 1) 0) then grp lv kept k ++ [[kept.getD k 0]] else snocL (grp lv kept k) (kept.getD k 0) from rfl]
    split
    · exact ⟨grp lv kept k, [kept.getD k 0], rfl, by simp⟩
    · rename_i hn
      obtain ⟨a, r, h1, h2⟩ := grp_lastr lv kept k (by omega)
      exact ⟨a, r ++ [kept.getD k 0], by rw [h1]; simp [snocL], by simp⟩
theorem grp_same (lv kept : List Int) : ∀ k, ∀ r ∈ grp lv kept k, ∀ x ∈ r, ∀ y ∈ r, lvl lv x = lvl lv y
  | 0, r, h => by simp [grp] at h
  | k + 1, r, h => by
    have IH := grp_same lv kept k
    rw [show grp lv kept (k + 1) = if k = 0 ∨ lvl lv (kept.getD k 0) ≠ lvl lv (kept.getD (k - 1) 0) then grp lv kept k ++ [[kept.getD k 0]] else snocL (grp lv kept k) (kept.getD k 0) from rfl] at h
    split at h
    · rcases List.mem_append.1 h with h | h
      · exact IH r h
      · simp at h
        subst h
        intro x hx y hy
        simp at hx hy
        rw [hx, hy]
    · rename_i hn
      obtain ⟨a, r0, h1, h2⟩ := grp_lastr lv kept k (by omega)
      have hl0 : lvl lv (kept.getD k 0) = lvl lv (kept.getD (k - 1) 0) := by
        by_cases hc : lvl lv (kept.getD k 0) = lvl lv (kept.getD (k - 1) 0)
        · exact hc
        · exact absurd (.inr hc) hn
      rw [h1] at h IH
      have hs : snocL (a ++ [r0]) (kept.getD k 0) = a ++ [r0 ++ [kept.getD k 0]] := by simp [snocL]
      rw [hs] at h
      rcases List.mem_append.1 h with h | h
      · exact IH r (List.mem_append_left _ h)
      · simp only [List.mem_singleton] at h
        subst h
        have I0 := IH r0 (by simp)
        have hm := List.mem_of_getLast? h2
        have key : ∀ x ∈ r0 ++ [kept.getD k 0], lvl lv x = lvl lv (kept.getD k 0) := by
          intro x hx
          rcases List.mem_append.1 hx with hx | hx
          · rw [I0 x hx _ hm, hl0]
          · simp only [List.mem_singleton] at hx
            rw [hx]
        intro x hx y hy
        rw [key x hx, key y hy]
theorem getD_at {rs : List (List Int)} {j : Nat} (hj : j < rs.length) : rs.getD j [] = rs[j] := by
  rw [List.getD_eq_getElem?_getD, List.getElem?_eq_getElem hj]; rfl
theorem con_elim {F : Nat → Int} {N k : Nat} (h : con F N k = true) : ∃ j, j < N ∧ F j = (k : Int) := by
  unfold con at h
  obtain ⟨j, h1, h2⟩ := List.any_eq_true.1 h
  exact ⟨j, by simpa using h1, by simpa using h2⟩
def keptR (o : List Int) : Nat → Nat → List Int
  | _, 0 => []
  | k, m + 1 => if gone (o.getD k 0) then keptR o (k + 1) m else (k : Int) :: keptR o (k + 1) m
theorem keptL_add (o : List Int) : ∀ (m k : Nat), keptL o (k + m) = keptL o k ++ keptR o k m
  | 0, k => by simp [keptR]
  | m + 1, k => by
    have := keptL_add o m (k + 1)
    rw [show k + (m + 1) = k + 1 + m by omega, this, keptR]
    rw [show keptL o (k + 1) = if gone (o.getD k 0) then keptL o k else keptL o k ++ [(k : Int)] from rfl]
    split <;> simp
theorem rbef_eq (o lv : List Int) (e : Int) : ∀ k, rbef o lv e k = match (keptL o k).getLast? with | some z => lvl lv z | none => e
  | 0 => rfl
  | k + 1 => by
    rw [rbef, rbef_eq o lv e k]
    rw [show keptL o (k + 1) = if gone (o.getD k 0) then keptL o k else keptL o k ++ [(k : Int)] from rfl]
    split
    · rfl
    · simp [lvl]
theorem raft_eq {o lv : List Int} {n : Nat} (hon : o.length = n) (hlv : lv.length = n) (e : Int) : ∀ (m k : Nat), n - k = m → raft e (o.drop k) (lv.drop k) = match (keptR o k m).head? with | some z => lvl lv z | none => e
  | 0, k, h => by
    rw [List.drop_of_length_le (by omega), List.drop_of_length_le (by omega)]
    rfl
  | m + 1, k, h => by
    have IH := raft_eq hon hlv e m (k + 1) (by omega)
    rw [List.drop_eq_getElem_cons (show k < o.length by omega), List.drop_eq_getElem_cons (show k < lv.length by omega), raft, keptR, IH]
    have e1 : o.getD k 0 = o[k] := by rw [List.getD_eq_getElem?_getD, List.getElem?_eq_getElem (by omega)]; rfl
    rw [e1]
    split
    · rfl
    · simp [lvl, List.getD_eq_getElem?_getD, List.getElem?_eq_getElem (show k < lv.length by omega)]
theorem idx_app {a : List Int} {x : Int} {b : List Int} (h : x ∉ a) : (a ++ x :: b).idxOf x = a.length := by
  rw [List.idxOf_append, if_neg h, List.idxOf_cons_self]
  omega
theorem kept_split {o : List Int} {n : Nat} {x : Int} (hx : x ∈ keptL o n) : ∃ g : Nat, x = g ∧ g < n ∧ keptL o n = keptL o g ++ (g : Int) :: keptR o (g + 1) (n - (g + 1)) ∧ (g : Int) ∉ keptL o g := by
  have h1 := keptL_mem o n x hx
  obtain ⟨g, rfl⟩ : ∃ g : Nat, x = g := ⟨x.toNat, by omega⟩
  have hg : g < n := by omega
  have hng : (g : Int) ∉ keptL o g := fun h => by have := keptL_mem o g _ h; omega
  refine ⟨g, rfl, hg, ?_, hng⟩
  have e1 := keptL_add o (n - (g + 1)) (g + 1)
  rw [show g + 1 + (n - (g + 1)) = n by omega] at e1
  have e2 : keptL o (g + 1) = if gone (o.getD g 0) then keptL o g else keptL o g ++ [(g : Int)] := rfl
  by_cases hgo : gone (o.getD g 0) = true
  · rw [if_pos hgo] at e2
    rw [e1, e2] at hx
    rcases List.mem_append.1 hx with h | h
    · exact absurd h hng
    · have key : ∀ (m k : Nat), ∀ z ∈ keptR o k m, (k : Int) ≤ z := by
        intro m
        induction m with
        | zero => intro k z hz; simp [keptR] at hz
        | succ m ih =>
          intro k z hz
          unfold keptR at hz
          split at hz
          · have := ih (k + 1) z hz; omega
          · rcases List.mem_cons.1 hz with rfl | hz
            · omega
            · have := ih (k + 1) z hz; omega
      have := key _ _ _ h
      omega
  · rw [if_neg hgo] at e2
    rw [e1, e2]
    simp
theorem sq_ends {o M lv : List Int} {n : Nat} {e : Int} (hM : MOK o M) (hon : o.length = n) (hln : lv.length = n) {s : Sq} (hs : s ∈ seqsS o M lv n e) : rendS o lv e (s.l.headD 0) (s.l.getLastD 0) = (s.sos, s.eos) ∧ s.lev = lvl lv (s.l.headD 0) ∧ s.l ≠ [] := by
  unfold seqsS at hs
  obtain ⟨j, h1, h2, rfl⟩ := sqsU_mem hs
  obtain ⟨d1, d2, d3⟩ := chn_facts (seqsS_F (lv := lv) hM hon) keptL_grp (grp_all lv (keptL o n) (keptL o n).length) (List.getElem?_eq_getElem h1)
  refine ⟨?_, rfl, d2⟩
  unfold sqOf
  simp only
  generalize hl : chn (fol o M (grp lv (keptL o n) (keptL o n).length)) (grp lv (keptL o n) (keptL o n).length) (grp lv (keptL o n) (keptL o n).length).length j = l at *
  have hf := d1.subset (List.mem_of_getElem? (headD_of d2))
  have hg := d1.subset (List.mem_of_getElem? (lastD_of d2))
  generalize l.headD 0 = f at *
  generalize l.getLastD 0 = g at *
  obtain ⟨f, rfl, f1, f2, f3⟩ := kept_split hf
  obtain ⟨g, rfl, g1, g2, g3⟩ := kept_split hg
  have p1 : (keptL o n).idxOf (f : Int) = (keptL o f).length := by rw [f2]; exact idx_app f3
  have q1 : (keptL o n).idxOf (g : Int) = (keptL o g).length := by rw [g2]; exact idx_app g3
  unfold rendS endS
  rw [p1, q1, rbef_eq, Int.toNat_natCast, Int.toNat_natCast, raft_eq hon hln e (n - (g + 1)) (g + 1) rfl]
  have E1 : (match (keptL o f).getLast? with | some z => lvl lv z | none => e) = if 0 < (keptL o f).length then lvl lv ((keptL o n).getD ((keptL o f).length - 1) 0) else e := by
    rw [f2]
    cases hk : (keptL o f).getLast? with
    | none =>
      have := List.getLast?_eq_none_iff.1 hk
      rw [this]
      simp
    | some z =>
      have hne : keptL o f ≠ [] := by intro h; rw [h] at hk; simp at hk
      have hp := List.length_pos_iff.2 hne
      rw [if_pos hp, List.getD_eq_getElem?_getD, List.getElem?_append_left (by omega), ← List.getLast?_eq_getElem?, hk]
      rfl
  have E2 : (if ini (o.getD g 0) = true then e else match (keptR o (g + 1) (n - (g + 1))).head? with | some z => lvl lv z | none => e) = if (keptL o g).length + 1 < (keptL o n).length ∧ ini (o.getD g 0) = false then lvl lv ((keptL o n).getD ((keptL o g).length + 1) 0) else e := by
    rw [g2]
    cases hi : ini (o.getD g 0)
    · cases hk : keptR o (g + 1) (n - (g + 1)) with
      | nil => simp
      | cons z r =>
        rw [if_neg (by simp), if_pos (by simp)]
        rw [List.getD_eq_getElem?_getD, List.getElem?_append_right (by omega)]
        simp
    · simp
  rw [E1, E2]
end Go.Ab.Bi
namespace Go.Ab
open Go.Proofs
namespace Bi
section
variable {prim : FuncId → Option Prim} (d : Nat) (cfg : Cfg)
set_option maxHeartbeats 1000000 in
theorem rset_ok (hp : prim 137 = none) (h71 : prim 132 = none) (h47 : prim 99 = none) (t c c0 l s : List Int) (n : Nat) (htn : t.length = n) (hcn : c.length = n) (h0n : c0.length = n) (hn2 : n ≤ 2000) (hl : Pl n l) (hll : l.length ≤ 2000) (hW : WB c0 l s c) (k : Nat) (hk : k < l.length) (to : Int) (H : Heap) (b : Nat)
    (hb : blockOf H b = some (c.map (V.int .i64))) (hw : cfg.wr b = true) :
    ∃ c', WB c0 l (bset (l.map (lvl (t.map bidi))) s k to) c' ∧ callM md (K prim (d + 3)) cfg 137 [rl t, .sl b 0 n n 1, il l, .int .i64 k, .int .i64 to] H = some (.tup [], H.set b (some (c'.map (V.int .i64)))) := by
  suffices HH : ∃ r h2, callM md (K prim (d + 3)) cfg 137 [rl t, .sl b 0 n n 1, il l, .int .i64 k, .int .i64 to] H = some (r, h2) ∧ ∃ c', r = .tup [] ∧ h2 = H.set b (some (c'.map (V.int .i64))) ∧ WB c0 l (bset (l.map (lvl (t.map bidi))) s k to) c' by
    obtain ⟨r, h2, h3, c', rfl, rfl, h4⟩ := HH
    exact ⟨c', h4, h3⟩
  refine call1x rfl hp Tryz.func137 rfl rfl rfl ?_
  have hw' : (Cfg.wr ⟨cfg.lo, cfg.ex, H.length⟩ b) = true := hw
  have hbl := blockOf_lt hb
  have hB := fun cfg h r => rbidi_ok (prim := prim) d cfg h h71 h47 r
  obtain ⟨i, hi, hin⟩ := hl.at_ hk
  have hW1 := hW.set (by rw [h0n]; exact hl) hi to
  have hcl1 : (c.set i to).length = n := by simpa using hcn
  have hi1 : i + 1 ≤ n := hin
  have hos : ∀ (q : Nat) (j : Int) (z : Int), l[q]? = some j → t[j.toNat]? = some z → (l.map (lvl (t.map bidi)))[q]? = some (bidi z) := by
    intro q j z hq hz
    rw [List.getElem?_map, hq]
    simp only [Option.map_some, lvl, List.getD_eq_getElem?_getD, List.getElem?_map, hz]
    rfl
  have hosl : (l.map (lvl (t.map bidi))).length = l.length := by simp
  unfold bset
  generalize l.map (lvl (t.map bidi)) = os at *
  simp (disch := omega) [hi, hb, hcn, hi1, hw', wrap64, -getElem?_pos]
  refine wC_loop (fun m fr H' => ∃ (q : Nat) (s' c' : List Int), k + 1 ≤ q ∧ q ≤ l.length ∧ m = l.length - q ∧ setR (s.set k to) (k + 1) to (nsm os (k + 1)) = setR s' q to (nsm os q) ∧ WB c0 l s' c' ∧ H' = H.set b (some (c'.map (V.int .i64))) ∧
    Slots 44 [(0, rl t), (1, .sl b 0 n n 1), (2, il l), (3, .int .i64 k), (4, .int .i64 to), (10, .int .i64 q)] fr) (m := l.length - (k + 1)) (by omega) ⟨k + 1, s.set k to, c.set i to, by omega, by omega, rfl, rfl, hW1, by simp [List.map_set], by simp⟩ ?_
  rintro m fr H' ⟨q, s', c', h1, h2, rfl, hF, hW2, rfl, hs⟩
  obtain ⟨j1, rfl⟩ := hs.ex
  clear hs
  have hc'l : c'.length = n := hW2.len.trans h0n
  by_cases hq : q < l.length
  · obtain ⟨j, hj, hjn⟩ := hl.at_ hq
    obtain ⟨z, hz⟩ : ∃ z, t[j]? = some z := ⟨_, List.getElem?_eq_getElem (by omega)⟩
    have ho := hos q j z hj (by rw [Int.toNat_natCast]; exact hz)
    have hqI : (q : Int) < l.length := by omega
    by_cases h8 : bidi z = 8
    · rw [h8] at ho
      rw [nsm_yes ho, setR] at hF
      have hW3 := hW2.set (by rw [h0n]; exact hl) hj to
      have hj1 : j + 1 ≤ n := hjn
      simp (disch := omega) [hqI, hj, hz, hB, h8, hc'l, hj1, hw', wrap64, -getElem?_pos]
      exact Rnd_of (m' := l.length - (q + 1)) (by omega) ⟨q + 1, s'.set q to, c'.set j to, by omega, by omega, rfl, hF, hW3, by simp [List.map_set], by simp (disch := omega)⟩
    · have hn0 : nsm os q = 0 := nsm_no (by rw [ho]; simpa using h8)
      rw [hn0, setR] at hF
      simp (disch := omega) [hqI, hj, hz, hB, h8, -getElem?_pos]
      refine ⟨c', List.take_of_length_le (by simp), ?_⟩
      rw [hF]; exact hW2
  · have hqI : ¬ (q : Int) < l.length := by omega
    have hn0 : nsm os q = 0 := nsm_no (by rw [List.getElem?_eq_none (by omega)]; simp)
    rw [hn0, setR] at hF
    simp (disch := omega) [hqI]
    refine ⟨c', List.take_of_length_le (by simp), ?_⟩
    rw [hF]; exact hW2
end
end Bi
end Go.Ab
