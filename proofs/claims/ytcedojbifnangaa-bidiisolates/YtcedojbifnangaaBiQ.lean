/- Several texts of this proof in one. -/
import Derived.Test.YtcedojbifnangaaBiSpec4
import Derived.Test.YtcedojbifnangaaBiG
import Derived.Test.YtcedojbifnangaaBiP
/- Pairs of brackets, in plain Lean. -/
namespace Go.Ab.Bi
abbrev OStk := List (Int × Nat)
def pfind (r : Int) : OStk → Option (Nat × OStk)
  | [] => none
  | (c, a) :: t => if c = r then some (a, t) else pfind r t
structure PS where
  st : OStk
  out : List (Nat × Nat)
def pgo : Nat → List (Int × Int) → PS → Option (List (Nat × Nat))
  | _, [], p => some p.out
  | k, (x, r) :: l, p =>
    if x ≠ 13 then pgo (k + 1) l p
    else if (brS r).1 = 1 then (if p.st.length = 63 then none else pgo (k + 1) l ⟨((brS r).2, k) :: p.st, p.out⟩)
    else if (brS r).1 = 2 then (match pfind r p.st with
      | some (a, t) => pgo (k + 1) l ⟨t, p.out ++ [(a, k)]⟩
      | none => pgo (k + 1) l p)
    else pgo (k + 1) l p

/-- The stack's cells, the list's cells. -/
def oc (st : OStk) : List V := st.reverse.flatMap fun a => [V.int .i32 a.1, V.int .i64 (a.2 : Int)]
def pcn (out : List (Nat × Nat)) : List V := out.flatMap fun a => [V.int .i64 (a.1 : Int), V.int .i64 (a.2 : Int)]
theorem oc_cons (a : Int × Nat) (st : OStk) : oc (a :: st) = oc st ++ [V.int .i32 a.1, V.int .i64 (a.2 : Int)] := by simp [oc]
theorem oc_len (st : OStk) : (oc st).length = st.length * 2 := by
  induction st with
  | nil => rfl
  | cons a st ih => rw [oc_cons, List.length_append, ih]; simp; omega
theorem pcn_snoc (out : List (Nat × Nat)) (x : Nat × Nat) : pcn (out ++ [x]) = pcn out ++ [V.int .i64 (x.1 : Int), V.int .i64 (x.2 : Int)] := by simp [pcn]
theorem pcn_len (out : List (Nat × Nat)) : (pcn out).length = out.length * 2 := by
  induction out with
  | nil => rfl
  | cons a st ih => simp only [pcn, List.flatMap_cons, List.length_append, List.length_cons, List.length_nil] at ih ⊢; omega
theorem oc_0 (a : Int × Nat) (r : OStk) (J : List V) : slot (oc (a :: r) ++ J) (r.length * 2) = some (.int .i32 a.1) := by
  rw [← oc_len r, oc_cons, List.append_assoc, slot, List.getElem?_append_right (Nat.le_refl _)]
  simp
theorem oc_1 (a : Int × Nat) (r : OStk) (J : List V) : slot (oc (a :: r) ++ J) (r.length * 2 + 1) = some (.int .i64 (a.2 : Int)) := by
  rw [← oc_len r, oc_cons, List.append_assoc, slot, List.getElem?_append_right (by omega)]
  simp
/-- What is so of the stack and the list after k places. -/
structure POK (k : Nat) (p : PS) : Prop where
  lt : ∀ a ∈ p.st, a.2 < k
  ord : ∀ x ∈ p.out, x.1 < x.2 ∧ x.2 < k
  len : p.st.length ≤ 63
  olen : p.out.length ≤ k
theorem pfind_mem {r : Int} : ∀ {st : OStk} {a : Nat} {t : OStk}, pfind r st = some (a, t) → (∃ c, (c, a) ∈ st) ∧ (∀ x ∈ t, x ∈ st) ∧ t.length < st.length
  | [], a, t, h => by simp [pfind] at h
  | (c, b) :: st, a, t, h => by
    simp only [pfind] at h
    split at h
    · cases h
      exact ⟨⟨c, by simp⟩, fun x hx => List.mem_cons_of_mem _ hx, by simp⟩
    · obtain ⟨⟨c', h1⟩, h2, h3⟩ := pfind_mem h
      exact ⟨⟨c', List.mem_cons_of_mem _ h1⟩, fun x hx => List.mem_cons_of_mem _ (h2 x hx), by simp; omega⟩
theorem POK.zero : POK 0 ⟨[], []⟩ := ⟨by simp, by simp, by simp, by simp⟩
theorem POK.up {k : Nat} {p : PS} (h : POK k p) : POK (k + 1) p := ⟨fun a ha => by have := h.lt a ha; omega, fun x hx => by have := h.ord x hx; omega, h.len, by have := h.olen; omega⟩
theorem POK.push {k : Nat} {p : PS} (h : POK k p) (c : Int) (hl : p.st.length ≠ 63) : POK (k + 1) ⟨(c, k) :: p.st, p.out⟩ := by
  refine ⟨fun a ha => ?_, fun x hx => by have := h.ord x hx; omega, by have := h.len; simp; omega, by have := h.olen; simp; omega⟩
  rcases List.mem_cons.1 ha with rfl | ha
  · simp
  · have := h.lt a ha; omega
theorem POK.pair {k : Nat} {p : PS} (h : POK k p) {r : Int} {a : Nat} {t : OStk} (hf : pfind r p.st = some (a, t)) : POK (k + 1) ⟨t, p.out ++ [(a, k)]⟩ := by
  obtain ⟨⟨c, h1⟩, h2, h3⟩ := pfind_mem hf
  refine ⟨fun x hx => by have := h.lt x (h2 x hx); omega, fun x hx => ?_, by have := h.len; simp only; omega, by have := h.olen; simp; omega⟩
  rcases List.mem_append.1 hx with hx | hx
  · have := h.ord x hx; omega
  · simp at hx; subst hx
    have := h.lt _ h1
    simp at this ⊢
    exact this
end Go.Ab.Bi
/- Pairs of brackets: the program, up to the sorting. -/
namespace Go.Ab
open Go.Proofs
namespace Bi
section
variable {P : Program} {md' : FuncId → Nat} {n : Nat} {prim : FuncId → Option Prim} {cfg : Cfg}
theorem call0rx {d : Nat} {f : FuncId} {fn : Func} {c : Code} {k : Nat} {rs : List ResultVar} {args : List V} {h : Heap} {Post : V → Heap → Prop} (hm : md' f = 0) (hp : prim f = none) (hf : P.funcs[f]? = some fn) (hb : fn.body = some c) (hk : fn.ntmps = k)
    (hr : fn.results.toList = rs) (ha : args.all V.noref = false)
    (hw : @wC P md' (callN P md' prim n d) ⟨h.length, none, h.length⟩ n ⟨c⟩ (args ++ List.replicate (k - args.length) .no) h ⟨@kFn P ⟨rs⟩ ⟨fun r' h' => ∃ r, frz h' h.length 6 r' = some r ∧ Post r (h'.take h.length)⟩⟩) :
    ∃ r h2, (∀ cfg, callM md' (callN P md' prim n (d + 1)) cfg f args h = some (r, h2)) ∧ Post r h2 := by
  obtain ⟨r', h', h1, r, h2, h3⟩ := callN_of hp hf hb hk hr hw
  exact ⟨r, _, fun cfg => by simp only [callM, hm, ha, Bool.false_eq_true, if_false, h1, h2], h3⟩
end
theorem pcn_rf (o : List (Nat × Nat)) : (pcn o).all V.rf = true := by
  simp only [pcn, List.all_flatMap]
  rw [List.all_eq_true]
  intro x _
  rfl
theorem pcn_nn (o : List (Nat × Nat)) : ∀ c ∈ pcn o, c ≠ V.nils := by
  intro c hc
  simp only [pcn, List.mem_flatMap] at hc
  obtain ⟨x, _, hx⟩ := hc
  simp at hx
  rcases hx with rfl | rfl <;> simp
theorem pcn_chunk : ∀ o : List (Nat × Nat), chunk 2 o.length (pcn o) = o.map fun x => [V.int .i64 (x.1 : Int), V.int .i64 (x.2 : Int)]
  | [] => rfl
  | x :: o => by
    have e : pcn (x :: o) = [V.int .i64 (x.1 : Int), V.int .i64 (x.2 : Int)] ++ pcn o := rfl
    rw [e, List.length_cons, chunk, List.map_cons, show List.drop 2 ([V.int .i64 (x.1 : Int), V.int .i64 (x.2 : Int)] ++ pcn o) = pcn o from rfl, pcn_chunk o]
    rfl
theorem relit {h : Heap} {a0 a1 a2 a3 x : Option (List V)} {T : Heap} (ht : h.take (T.length + 5) = a0 :: a1 :: a2 :: a3 :: (T ++ [x])) : ∃ T', h = a0 :: a1 :: a2 :: a3 :: (T ++ x :: T') := by
  refine ⟨h.drop (T.length + 5), ?_⟩
  conv => lhs; rw [← List.take_append_drop (T.length + 5) h, ht]
  simp
section
variable {P : Program} {md' : FuncId → Nat} {call : Callf} {cfg : Cfg}
theorem wS_two {dst : Option Tmp} {fr : List V} {ops : Array Oper} {rest : List Oper} {Q : KontO} {a0 a1 a2 a3 x : Option (List V)} {T T' : Heap} {dv v2 : V} {cs cs2 new : List V} {y : Nat}
    (ho : Stk (a0 :: a1 :: a2 :: a3 :: (T ++ x :: T')) (T.length + 5) 2 dv cs) (h2 : Stk (a0 :: a1 :: a2 :: a3 :: (T ++ x :: T')) (T.length + 5) 2 v2 cs2) (hdj : Dj dv v2) (hlo : cfg.lo ≤ T.length + 5) (hth : cfg.thr ≤ T.length + 5)
    (hnew : new.length = 2) (hmn : isMap new = false) (hsz : cs.length / 2 ≤ 4000) (hy : y ≤ 100)
    (H : ∀ d' T'', Stk (a0 :: a1 :: a2 :: a3 :: (T ++ x :: T'')) (T.length + 5) 2 d' (cs ++ new) → Stk (a0 :: a1 :: a2 :: a3 :: (T ++ x :: T'')) (T.length + 5) 2 v2 cs2 → Dj d' v2 → @wO P md' call cfg ⟨ops⟩ ⟨rest⟩ (put fr dst d') (a0 :: a1 :: a2 :: a3 :: (T ++ x :: T'')) ⟨Q⟩) :
    @wS P md' call cfg ⟨dst⟩ ⟨fr⟩ (appD cfg (a0 :: a1 :: a2 :: a3 :: (T ++ x :: T')) 2 y dv 1 new) ⟨ops⟩ ⟨rest⟩ ⟨Q⟩ := by
  have hs : (cs.length / 2 + 1) * y ≤ 1099511627776 := by
    have : (cs.length / 2 + 1) * y ≤ 4001 * 100 := Nat.mul_le_mul (by omega) hy
    omega
  refine wS_appP (lo := T.length + 5) ho hlo hth (by simp <;> omega) hnew hmn (by omega) hs (by omega) ?_
  intro d' h' hst _ htk hlen hot hb
  have ht : h'.take (T.length + 5) = a0 :: a1 :: a2 :: a3 :: (T ++ [x]) := by
    rw [htk]
    simp [List.take_append]
    exact List.take_of_length_le (by omega)
  obtain ⟨T'', rfl⟩ := relit ht
  refine H d' T'' hst (h2.of_blk fun b hbv => hot b (fun e => hdj b e hbv) (h2.blk hbv).2) ?_
  intro b hb1 hb2
  rcases hb with hb | hb
  · rw [hb] at hb1; exact hdj b hb1 hb2
  · rw [hb] at hb1
    cases hb1
    have := (h2.blk hb2).2
    omega
end
section
variable {prim : FuncId → Option Prim} (d : Nat)
set_option maxRecDepth 100000 in
set_option maxHeartbeats 8000000 in
theorem pairs_ok (hp : ∀ f, f ≠ 17 ∧ f ≠ 82 → prim f = none) (t o M : List Int) (n : Nat) (e : Int) (c l : List Int) (hn : c.length = n) (htn : t.length = n) (hn2 : n ≤ 2000) (hl : Pl n l) (hll : l.length ≤ 2000) (y2 : List Int) (T : Heap) (lv st en : Int)
    (srt : List (Nat × Nat) → List (Nat × Nat)) (hsl : ∀ o, (srt o).length = o.length)
    (hS : ∀ (cfg : Cfg) (H : Heap) (b cap : Nat) (out : List (Nat × Nat)) (J : List V), out.length ≤ 2000 → (∀ x ∈ out, x.1 < 4294967296 ∧ x.2 < 4294967296) → cfg.lo ≤ b → blockOf H b = some (pcn out ++ J) → callM md (K prim (d + 2)) cfg 82 [.sl b 0 out.length cap 2, .func (.func 83) [] []] H = some (.tup [], H.set b (some (pcn (srt out) ++ J))))
    (hS0 : ∀ (cfg : Cfg) (H : Heap), callM md (K prim (d + 2)) cfg 82 [.nils, .func (.func 83) [] []] H = some (.tup [], H)) :
    ∀ cfg, callM md (K prim (d + 3)) cfg 60 [.ptr 3 0, .agg [il l, .int .i64 lv, .int .i64 st, .int .i64 en]] (none :: some (c.map (V.int .i64)) :: some (y2.map (V.int .i64)) :: some (pcs t o M n e) :: T) =
      some (pl64 (match pgo 0 ((l.map (lvl c)).zip (l.map (lvl t))) ⟨[], []⟩ with
        | some out => srt out
        | none => []), none :: some (c.map (V.int .i64)) :: some (y2.map (V.int .i64)) :: some (pcs t o M n e) :: T) := by
  suffices H : ∃ r h2, (∀ cfg, callM md (K prim (d + 3)) cfg 60 [.ptr 3 0, .agg [il l, .int .i64 lv, .int .i64 st, .int .i64 en]] (none :: some (c.map (V.int .i64)) :: some (y2.map (V.int .i64)) :: some (pcs t o M n e) :: T) = some (r, h2)) ∧ r = pl64 (match pgo 0 ((l.map (lvl c)).zip (l.map (lvl t))) ⟨[], []⟩ with
        | some out => srt out
        | none => []) ∧ h2 = (none :: some (c.map (V.int .i64)) :: some (y2.map (V.int .i64)) :: some (pcs t o M n e) :: T) by
    obtain ⟨r, h2, h3, rfl, rfl⟩ := H
    exact h3
  refine call0rx rfl (hp 60 (by decide)) Try.func60 rfl rfl rfl (by simp) ?_
  have b4 : ∀ x T', isMap x = false → blockOf (T ++ some x :: T') T.length = some x := fun x T' hx => by
    have := blockOf_len_add (h := T) (r := some x :: T') (k := 0)
    simp [hx]
  have hBr := fun cfg h r => bracket_ok (prim := prim) d cfg h hp r
  have hWc : WB c l (l.map (lvl c)) c := WB.start (by rw [hn]; exact hl)
  have hWt : WB t l (l.map (lvl t)) t := WB.start (by rw [htn]; exact hl)
  generalize hss : l.map (lvl c) = s0 at *
  generalize hso : l.map (lvl t) = rs at *
  have hsls := hWc.sl
  have hslr := hWt.sl
  have hm82 : md 82 = 1 := rfl
  simp (disch := omega)
  refine wC_loop (fun m fr H => ∃ (k : Nat) (p : PS) (v1 v2 : V) (T' : Heap), k ≤ l.length ∧ m = l.length - k ∧ pgo 0 (s0.zip rs) ⟨[], []⟩ = pgo k ((s0.zip rs).drop k) p ∧ POK k p ∧ H = none :: some (c.map (V.int .i64)) :: some (y2.map (V.int .i64)) :: some (pcs t o M n e) :: (T ++ some [il l, .int .i64 lv, .int .i64 st, .int .i64 en] :: T') ∧ Stk H (T.length + 5) 2 v1 (oc p.st) ∧ Stk H (T.length + 5) 2 v2 (pcn p.out) ∧ Dj v1 v2 ∧
    Slots 90 [(0, .ptr 3 0), (3, .ptr (T.length + 1 + 1 + 1 + 1) 0), (5, v1), (6, v2), (13, il l), (14, .int .i64 l.length), (15, .int .i64 k)] fr) (m := l.length) (by omega) ⟨0, ⟨[], []⟩, .nils, .nils, [], by omega, by omega, rfl, POK.zero, by simp, .inl ⟨rfl, rfl⟩, .inl ⟨rfl, rfl⟩, Dj.nils, by simp⟩ ?_
  rintro m fr H ⟨k, p, v1, v2, T', hk, rfl, hF, hPO, rfl, hs1, hs2, hdj, hs⟩
  obtain ⟨j, rfl⟩ := hs.ex
  clear hs
  by_cases hlt : k < l.length
  · obtain ⟨i, hi, hin⟩ := hl.at_ hlt
    obtain ⟨x, hx⟩ : ∃ x, s0[k]? = some x := ⟨_, List.getElem?_eq_getElem (by omega)⟩
    obtain ⟨r, hr⟩ : ∃ r, rs[k]? = some r := ⟨_, List.getElem?_eq_getElem (by omega)⟩
    have hcx := hWc.at_ k i hi
    have htr := hWt.at_ k i hi
    rw [hx, Int.toNat_natCast] at hcx
    rw [hr, Int.toNat_natCast] at htr
    have hz : (s0.zip rs)[k]? = some (x, r) := by rw [List.getElem?_zip_eq_some]; exact ⟨hx, hr⟩
    have hzd : (s0.zip rs).drop k = (x, r) :: (s0.zip rs).drop (k + 1) := by
      have hzl := (List.getElem?_eq_some_iff.1 hz).1
      rw [List.drop_eq_getElem_cons hzl]
      congr 1
      exact (List.getElem?_eq_some_iff.1 hz).2
    rw [hzd, pgo] at hF
    by_cases h13 : x = 13
    · rw [if_neg (by simp [h13])] at hF
      subst h13
      simp (disch := omega) [hlt, hi, hcx, htr, hBr, -getElem?_pos]
      by_cases k1 : (brS r).1 = 1
      · rw [if_pos k1] at hF
        have hl1 := hs1.len (show Try.prog.underlying 98 = some (.slice 102) by kernel_rfl) (by omega)
        rw [oc_len, Nat.mul_div_cancel _ (by omega)] at hl1
        by_cases k63 : p.st.length = 63
        · rw [if_pos k63] at hF
          rw [k63] at hl1
          simp (disch := omega) [k1, hl1]
          rw [hF]
        · rw [if_neg k63] at hF
          have n63 : ¬ (p.st.length : Int) = 63 := by omega
          simp (disch := omega) [k1, hl1, n63]
          refine wS_two (cs := oc p.st) (by simpa using hs1.push [some [.int .i32 (brS r).2, .int .i64 k]]) (by simpa using hs2.push [some [.int .i32 (brS r).2, .int .i64 k]]) hdj (by simp) (by simp) rfl rfl (by rw [oc_len]; have := hPO.len; omega) (by omega) ?_
          intro d' T'' h1' h2' hdj'
          simp (disch := omega) [wrap64]
          exact Rnd_of (m' := l.length - (k + 1)) (by omega) ⟨k + 1, _, d', v2, T'', by omega, rfl, hF, hPO.push _ k63, rfl, by rw [oc_cons]; exact h1', h2', hdj', by simp (disch := omega)⟩
      · rw [if_neg k1] at hF
        by_cases k2 : (brS r).1 = 2
        · rw [if_pos k2] at hF
          have hl1 := hs1.len (show Try.prog.underlying 98 = some (.slice 102) by kernel_rfl) (by omega)
          rw [oc_len, Nat.mul_div_cancel _ (by omega)] at hl1
          have hpl := hPO.len
          simp (disch := omega) [k2, hl1, wrap64]
          refine wC_loop (fun m fr H => ∃ (pre re : OStk), m = re.length ∧ p.st = pre ++ re ∧ pfind r p.st = pfind r re ∧ H = none :: some (c.map (V.int .i64)) :: some (y2.map (V.int .i64)) :: some (pcs t o M n e) :: (T ++ some [il l, .int .i64 lv, .int .i64 st, .int .i64 en] :: T') ∧ Slots 90 [(0, .ptr 3 0), (3, .ptr (T.length + 1 + 1 + 1 + 1) 0), (5, v1), (6, v2), (7, .int .i64 k), (8, .int .i64 i), (11, .int .i64 ((re.length : Int) - 1)), (13, il l), (14, .int .i64 l.length), (15, .int .i64 k)] fr) (m := p.st.length) (by omega) ⟨[], p.st, rfl, rfl, rfl, rfl, by simp⟩ ?_
          rintro m fr H ⟨pre, re, rfl, hpre, hpf, rfl, hs⟩
          obtain ⟨j, rfl⟩ := hs.ex
          clear hs
          rcases re with _ | ⟨⟨cc, aa⟩, re⟩
          · rw [pfind] at hpf
            rw [hpf] at hF
            simp (disch := omega) [wrap64]
            exact Rnd_of (m' := l.length - (k + 1)) (by omega) ⟨k + 1, p, v1, v2, T', by omega, rfl, hF, hPO.up, rfl, hs1, hs2, hdj, by simp (disch := omega)⟩
          · have hprel : pre.length + (re.length + 1) = p.st.length := by rw [hpre]; simp
            obtain ⟨b, nn, cap, J, rfl, hb5, hbl, hnn, hbk, hcap, hnc⟩ := hs1.pos (by rw [hpre]; intro h; have := congrArg List.length h; rw [oc_len] at this; simp at this)
            obtain rfl : nn = p.st.length := by rw [oc_len] at hnn; omega
            obtain ⟨J', hJ'⟩ : ∃ J', oc p.st ++ J = oc ((cc, aa) :: re) ++ J' := by
              rw [hpre]
              refine ⟨oc pre ++ J, ?_⟩
              simp [oc]
            rw [hJ'] at hbk
            have e0 := oc_0 (cc, aa) re J'
            have e1 := oc_1 (cc, aa) re J'
            simp only at e0 e1
            simp (disch := omega)
            refine wC_draw 12 (by kernel_rfl) ?_
            by_cases hcr : cc = r
            · rw [pfind, if_pos hcr] at hpf
              rw [hpf] at hF
              subst hcr
              simp (disch := omega) [htr, hbk, e0, e1, -getElem?_pos]
              refine wS_two (cs := pcn p.out) (by simpa using hs2.push [some [.int .i64 aa, .int .i64 k]]) (by simpa using hs1.push [some [.int .i64 aa, .int .i64 k]]) hdj.symm (by simp) (by simp) rfl rfl (by rw [pcn_len]; have := hPO.olen; omega) (by omega) ?_
              intro d' T'' h1' h2' hdj'
              have hpop := h2'.pop (cs' := oc re) (m := re.length) (r := [V.int .i32 cc, V.int .i64 (aa : Int)] ++ oc pre) ?_ (oc_len re) (by omega)
              · simp (disch := omega) [wrap64]
                exact Rnd_of (m' := l.length - (k + 1)) (by omega) ⟨k + 1, _, _, d', T'', by omega, rfl, hF, hPO.pair hpf, rfl, hpop, by rw [pcn_snoc]; exact h1', hdj'.symm, by simp (disch := omega)⟩
              · rw [hpre]; simp [oc]
            · rw [pfind, if_neg hcr] at hpf
              simp (disch := omega) [htr, hbk, e0, hcr, wrap64, -getElem?_pos]
              exact Rnd_of (m' := re.length) (by simp) ⟨pre ++ [(cc, aa)], re, rfl, by rw [hpre]; simp, hpf, rfl, by simp (disch := omega)⟩
        · rw [if_neg k2] at hF
          simp (disch := omega) [k1, k2]
          exact Rnd_of (m' := l.length - (k + 1)) (by omega) ⟨k + 1, p, v1, v2, T', by omega, rfl, hF, hPO.up, rfl, hs1, hs2, hdj, by simp (disch := omega) [wrap64]⟩
    · rw [if_pos h13] at hF
      simp (disch := omega) [hlt, hi, hcx, h13, -getElem?_pos]
      exact Rnd_of (m' := l.length - (k + 1)) (by omega) ⟨k + 1, p, v1, v2, T', by omega, rfl, hF, hPO.up, rfl, hs1, hs2, hdj, by simp (disch := omega) [wrap64]⟩
  · obtain rfl : k = l.length := by omega
    have hzn : (s0.zip rs).drop l.length = [] := List.drop_eq_nil_of_le (by simp; omega)
    rw [hzn, pgo] at hF
    have hol := hPO.olen
    rcases hs2 with ⟨rfl, hnil⟩ | ⟨b, nn, cap, J, rfl, hb, hlen, hbk, hcap, hle⟩
    · have ho : p.out = [] := by
        have := congrArg List.length hnil
        rw [pcn_len] at this
        exact List.length_eq_zero_iff.1 (by simp at this; omega)
      have hs0 : srt p.out = [] := List.length_eq_zero_iff.1 (by rw [hsl, ho]; rfl)
      simp (disch := omega) [hS0]
      rw [hF]
      simp [hs0]
    · obtain rfl : nn = p.out.length := by rw [pcn_len] at hlen; omega
      have hS1 := hS ⟨T.length + 1 + 1 + 1 + 1, none, T.length + 1 + 1 + 1 + 1⟩ (none :: some (c.map (V.int .i64)) :: some (y2.map (V.int .i64)) :: some (pcs t o M n e) :: (T ++ some [il l, .int .i64 lv, .int .i64 st, .int .i64 en] :: T')) b cap p.out J (by omega) (fun x hx => by have := hPO.ord x hx; omega) (by simp only; omega) hbk
      have hbl := blockOf_lt hbk
      generalize hG : (none :: some (c.map (V.int .i64)) :: some (y2.map (V.int .i64)) :: some (pcs t o M n e) :: (T ++ some [il l, .int .i64 lv, .int .i64 st, .int .i64 en] :: T')) = G at *
      simp (disch := omega) [hS1]
      rw [hF]
      simp only
      have hpm : isMap (pcn (srt p.out) ++ J) = false := by
        cases hq : srt p.out with
        | nil =>
          have : p.out = [] := List.length_eq_zero_iff.1 (by rw [← hsl, hq]; rfl)
          rw [this] at hbk
          exact isMap_of_block hbk
        | cons z zs => rfl
      have hb2 : blockOf (G.set b (some (pcn (srt p.out) ++ J))) b = some (pcn (srt p.out) ++ J) := by
        rw [blockOf_set_self hbl, hpm]; rfl
      refine ⟨pl64 (srt p.out), ?_, rfl, ?_⟩
      · have hpl : (pcn (srt p.out)).length = p.out.length * 2 := by rw [pcn_len, hsl]
        rw [frz_sl, if_neg (by omega), hb2]
        simp only [Nat.zero_add, List.drop_zero]
        rw [if_pos (by simp; omega), List.take_left' hpl, mapM_frz_rf (pcn_rf _) (pcn_nn _)]
        simp only [pcn_rf, if_true]
        rw [← hsl, pcn_chunk]
      · rw [List.take_set_of_le (by omega), ← hG]
        simp
end
end Bi
end Go.Ab
