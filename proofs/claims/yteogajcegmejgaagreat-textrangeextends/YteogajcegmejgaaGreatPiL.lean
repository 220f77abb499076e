/- Several texts of this proof in one. -/
import Derived.Test.YteogajcegmejgaaGreatPiSpec2
import Derived.Test.YteogajcegmejgaaGreatPaRef
namespace Go.Ab.Bi
def strS (lv : Int) : Int := if lv % 2 = 1 then 1 else 0
def dirS (x : Int) : Int := if x = 0 then 0 else if x = 1 ∨ x = 3 ∨ x = 6 then 1 else -1
def neutB (x : Int) : Bool := x == 10 || x == 11 || x == 12 || x == 13 || x == 22 || ini x
def neuS (d e : Int) : Int → Nat → List Int → List Int
  | b, n, [] => List.replicate n (if b = e then b else d)
  | b, n, x :: r => if neutB x then neuS d e b (n + 1) r else List.replicate n (if b = dirS x then b else d) ++ x :: neuS d e (dirS x) 0 r
def impS (lev x : Int) : Int :=
  if lev % 2 = 0 ∧ x = 1 then 1 else if lev % 2 = 0 ∧ (x = 6 ∨ x = 3) then 2 else if lev % 2 = 1 ∧ (x = 0 ∨ x = 3 ∨ x = 6) then 1 else 0
def impL (lev : Int) : List Int → List Int → List Int
  | a :: u, x :: s => (a + impS lev x) :: impL lev u s
  | _, _ => []
def aft (e : Int) : List Int → Int
  | [] => e
  | x :: _ => dirS x
end Go.Ab.Bi
namespace Go.Ab
open Go.Proofs
namespace Bi
section
variable {prim : FuncId → Option Prim} (d : Nat) (cfg : Cfg) (h : Heap)
end
end Bi
end Go.Ab
namespace Go.Ab
open Go.Proofs
namespace Bi
def brTab : List (Int × Int) := [(40, 41), (91, 93), (123, 125), (12296, 12297), (12298, 12299), (12300, 12301), (12302, 12303), (12304, 12305)]
def othS : List (Int × Int) → Int → Int × Int
  | [], r => (r, -1)
  | (a, b) :: t, r => if a = r then (b, 1) else if b = r then (a, 0) else othS t r
def brS (r : Int) : Int × Int := if (othS brTab r).2 = 1 then (1, (othS brTab r).1) else if (othS brTab r).2 = 0 then (2, (othS brTab r).1) else (0, 0)
section
variable {prim : FuncId → Option Prim} (d : Nat) (cfg : Cfg) (h : Heap)
end
end Bi
end Go.Ab
namespace Go.Ab.Bi
def setR (s : List Int) (k : Nat) (to : Int) : Nat → List Int
  | 0 => s
  | n + 1 => setR (s.set k to) (k + 1) to n
def nsm (os : List Int) (k : Nat) : Nat := ((os.drop k).takeWhile (· == 8)).length
def bset (os s : List Int) (k : Nat) (to : Int) : List Int := setR (s.set k to) (k + 1) to (nsm os (k + 1))
def lastD (st : Int) (s : List Int) : Int := match s.reverse.find? fun x => decide (0 ≤ dirS x) with
  | some x => dirS x
  | none => st
def isD (d x : Int) : Bool := decide (dirS x = d)
def isO (d x : Int) : Bool := decide (0 ≤ dirS x) && !decide (dirS x = d)
def seg (s : List Int) (a k : Nat) : List Int := (s.take k).drop (a + 1)
def brk1 (d st : Int) (os s : List Int) (p : Nat × Nat) : List Int :=
  if (seg s p.1 p.2).any (isD d) then bset os (bset os s p.1 d) p.2 d
  else if (seg s p.1 p.2).any (isO d) then bset os (bset os s p.1 (lastD st (s.take p.1))) p.2 (lastD st (s.take p.1))
  else s
def brks (d st : Int) (os : List Int) (ps : List (Nat × Nat)) (s : List Int) : List Int := ps.foldl (brk1 d st os) s
theorem seg_self (s : List Int) (a : Nat) : seg s a (a + 1) = [] := by
  unfold seg
  exact List.drop_eq_nil_of_le (by simp; omega)
theorem seg_snoc {s : List Int} {a k : Nat} {x : Int} (hk : a + 1 ≤ k) (hx : s[k]? = some x) : seg s a (k + 1) = seg s a k ++ [x] := by
  have hl := (List.getElem?_eq_some_iff.1 hx).1
  unfold seg
  rw [List.take_add_one, hx]
  simp only [Option.toList_some]
  rw [List.drop_append_of_le_length (by simp; omega)]
theorem lastD_nil (st : Int) : lastD st [] = st := rfl
theorem lastD_snoc (st : Int) (s : List Int) (x : Int) : lastD st (s ++ [x]) = if 0 ≤ dirS x then dirS x else lastD st s := by
  unfold lastD
  rw [List.reverse_append, List.reverse_singleton, List.singleton_append, List.find?_cons]
  by_cases h : 0 ≤ dirS x
  · simp [h]
  · simp [h]
theorem nsm_yes {os : List Int} {k : Nat} (h : os[k]? = some 8) : nsm os k = nsm os (k + 1) + 1 := by
  have hl := (List.getElem?_eq_some_iff.1 h).1
  unfold nsm
  rw [List.drop_eq_getElem_cons hl, (List.getElem?_eq_some_iff.1 h).2]
  simp
theorem nsm_no {os : List Int} {k : Nat} (h : os[k]? ≠ some 8) : nsm os k = 0 := by
  unfold nsm
  cases hd : os.drop k with
  | nil => rfl
  | cons y r =>
    have hy : os[k]? = some y := by
      have := List.getElem?_drop (xs := os) (i := k) (j := 0)
      rw [hd] at this
      simpa using this.symm
    have hne : ¬ y = 8 := fun e => h (by rw [hy, e])
    simp [hne]
end Go.Ab.Bi
namespace Go.Ab
open Go.Proofs
namespace Bi
abbrev pl64 (t : List (Nat × Nat)) : V := .lst (t.map fun x => [.int .i64 (x.1 : Int), .int .i64 (x.2 : Int)])
section
variable {prim : FuncId → Option Prim} (d : Nat) (cfg : Cfg) (h : Heap)
end
end Bi
end Go.Ab
namespace Go.Ab.Bi
abbrev OStk := List (Int × Nat)
def pfind (r : Int) : OStk → Option (Nat × OStk)
  | [] => none
  | (c, a) :: t => if c = r then some (a, t) else pfind r t
structure PS where
  st : OStk
  out : List (Nat × Nat)
def pgo : Nat → List (Int × Int) → PS → Option (List (Nat × Nat))
  | _, [], p => some p.out
  | k, (x, r) :: l, p =>
    if x ≠ 13 then pgo (k + 1) l p
    else if (brS r).1 = 1 then (if p.st.length = 63 then none else pgo (k + 1) l ⟨((brS r).2, k) :: p.st, p.out⟩)
    else if (brS r).1 = 2 then (match pfind r p.st with
      | some (a, t) => pgo (k + 1) l ⟨t, p.out ++ [(a, k)]⟩
      | none => pgo (k + 1) l p)
    else pgo (k + 1) l p
def pcn (out : List (Nat × Nat)) : List V := out.flatMap fun a => [V.int .i64 (a.1 : Int), V.int .i64 (a.2 : Int)]
theorem pcn_snoc (out : List (Nat × Nat)) (x : Nat × Nat) : pcn (out ++ [x]) = pcn out ++ [V.int .i64 (x.1 : Int), V.int .i64 (x.2 : Int)] := by simp [pcn]
theorem pcn_len (out : List (Nat × Nat)) : (pcn out).length = out.length * 2 := by
  induction out with
  | nil => rfl
  | cons a st ih => simp only [pcn, List.flatMap_cons, List.length_append, List.length_cons, List.length_nil] at ih ⊢; omega
structure POK (k : Nat) (p : PS) : Prop where
  lt : ∀ a ∈ p.st, a.2 < k
  ord : ∀ x ∈ p.out, x.1 < x.2 ∧ x.2 < k
  len : p.st.length ≤ 63
  olen : p.out.length ≤ k
theorem pfind_mem {r : Int} : ∀ {st : OStk} {a : Nat} {t : OStk}, pfind r st = some (a, t) → (∃ c, (c, a) ∈ st) ∧ (∀ x ∈ t, x ∈ st) ∧ t.length < st.length
  | [], a, t, h => by simp [pfind] at h
  | (c, b) :: st, a, t, h => by
    simp only [pfind] at h
    split at h
    · cases h
      exact ⟨⟨c, by simp⟩, fun x hx => List.mem_cons_of_mem _ hx, by simp⟩
    · obtain ⟨⟨c', h1⟩, h2, h3⟩ := pfind_mem h
      exact ⟨⟨c', List.mem_cons_of_mem _ h1⟩, fun x hx => List.mem_cons_of_mem _ (h2 x hx), by simp; omega⟩
theorem POK.zero : POK 0 ⟨[], []⟩ := ⟨by simp, by simp, by simp, by simp⟩
theorem POK.up {k : Nat} {p : PS} (h : POK k p) : POK (k + 1) p := ⟨fun a ha => by have := h.lt a ha; omega, fun x hx => by have := h.ord x hx; omega, h.len, by have := h.olen; omega⟩
theorem POK.push {k : Nat} {p : PS} (h : POK k p) (c : Int) (hl : p.st.length ≠ 63) : POK (k + 1) ⟨(c, k) :: p.st, p.out⟩ := by
  refine ⟨fun a ha => ?_, fun x hx => by have := h.ord x hx; omega, by have := h.len; simp; omega, by have := h.olen; simp; omega⟩
  rcases List.mem_cons.1 ha with rfl | ha
  · simp
  · have := h.lt a ha; omega
theorem POK.pair {k : Nat} {p : PS} (h : POK k p) {r : Int} {a : Nat} {t : OStk} (hf : pfind r p.st = some (a, t)) : POK (k + 1) ⟨t, p.out ++ [(a, k)]⟩ := by
  obtain ⟨⟨c, h1⟩, h2, h3⟩ := pfind_mem hf
  refine ⟨fun x hx => by have := h.lt x (h2 x hx); omega, fun x hx => ?_, by have := h.len; simp only; omega, by have := h.olen; simp; omega⟩
  rcases List.mem_append.1 hx with hx | hx
  · have := h.ord x hx; omega
  · simp at hx; subst hx
    have := h.lt _ h1
    simp at this ⊢
    exact this
end Go.Ab.Bi
namespace Go.Ab
open Go.Proofs
namespace Bi
section
variable {P : Program} {md' : FuncId → Nat} {n : Nat} {prim : FuncId → Option Prim} {cfg : Cfg}
theorem call0rx {d : Nat} {f : FuncId} {fn : Func} {c : Code} {k : Nat} {rs : List ResultVar} {args : List V} {h : Heap} {Post : V → Heap → Prop} (hm : md' f = 0) (hp : prim f = none) (hf : P.funcs[f]? = some fn) (hb : fn.body = some c) (hk : fn.ntmps = k)
    (hr : fn.results.toList = rs) (ha : args.all V.noref = false)
    (hw : @wC P md' (callN P md' prim n d) ⟨h.length, none, h.length⟩ n ⟨c⟩ (args ++ List.replicate (k - args.length) .no) h ⟨@kFn P ⟨rs⟩ ⟨fun r' h' => ∃ r, frz h' h.length 6 r' = some r ∧ Post r (h'.take h.length)⟩⟩) :
    ∃ r h2, (∀ cfg, callM md' (callN P md' prim n (d + 1)) cfg f args h = some (r, h2)) ∧ Post r h2 := by
  obtain ⟨r', h', h1, r, h2, h3⟩ := callN_of hp hf hb hk hr hw
  exact ⟨r, _, fun cfg => by simp only [callM, hm, ha, Bool.false_eq_true, if_false, h1, h2], h3⟩
end
theorem pcn_rf (o : List (Nat × Nat)) : (pcn o).all V.rf = true := by
  simp only [pcn, List.all_flatMap]
  rw [List.all_eq_true]
  intro x _
  rfl
theorem pcn_nn (o : List (Nat × Nat)) : ∀ c ∈ pcn o, c ≠ V.nils := by
  intro c hc
  simp only [pcn, List.mem_flatMap] at hc
  obtain ⟨x, _, hx⟩ := hc
  simp at hx
  rcases hx with rfl | rfl <;> simp
theorem pcn_chunk : ∀ o : List (Nat × Nat), chunk 2 o.length (pcn o) = o.map fun x => [V.int .i64 (x.1 : Int), V.int .i64 (x.2 : Int)]
  | [] => rfl
  | x :: o => by
    have e : pcn (x :: o) = [V.int .i64 (x.1 : Int), V.int .i64 (x.2 : Int)] ++ pcn o := rfl
    rw [e, List.length_cons, chunk, List.map_cons, show List.drop 2 ([V.int .i64 (x.1 : Int), V.int .i64 (x.2 : Int)] ++ pcn o) = pcn o from rfl, pcn_chunk o]
    rfl
section
variable {P : Program} {md' : FuncId → Nat} {call : Callf} {cfg : Cfg}
end
section
variable {prim : FuncId → Option Prim} (d : Nat)
end
end Bi
end Go.Ab
namespace Go.Ab
open Go.Proofs
namespace Bi
section
variable {P : Program} {md' : FuncId → Nat} {n : Nat} {prim : FuncId → Option Prim} {cfg : Cfg}
end
section
variable {prim : FuncId → Option Prim} (d : Nat) (cfg : Cfg)
def p1 (st : Int) (dn : List Int) : Int := match dn.getLast? with
  | some y => nx y
  | none => st
def lo1 (dn : List Int) : Int := dn.getLast?.getD (-1)
theorem lo1_snoc (dn : List Int) (y : Int) : lo1 (dn ++ [y]) = y := by simp [lo1]
end
end Bi
end Go.Ab
