/- Several texts of this proof in one. -/
import Derived.Test.YtcedojbifnangaaAbW
import Derived.Test.YtcedojbifnangaaBiG
import Derived.Test.YtcedojbifnangaaBiLev
/- Calls whose results are known: a table that the evaluator looks into. -/
namespace Go.Ab

def kindEq : IntKind → IntKind → Bool
  | .i8, .i8 | .i16, .i16 | .i32, .i32 | .i64, .i64 | .u8, .u8 | .u16, .u16 | .u32, .u32 | .u64, .u64 => true
  | _, _ => false

theorem kindEq_ok {a b : IntKind} (h : kindEq a b = true) : a = b := by
  cases a <;> cases b <;> first | rfl | simp [kindEq] at h

def listEq {α : Type} (f : α → α → Bool) : List α → List α → Bool
  | [], [] => true
  | a :: x, b :: y => f a b && listEq f x y
  | _, _ => false

theorem listEq_ok {α : Type} {f : α → α → Bool} (hf : ∀ a b, f a b = true → a = b) : ∀ x y, listEq f x y = true → x = y
  | [], [], _ => rfl
  | [], _ :: _, h => by simp [listEq] at h
  | _ :: _, [], h => by simp [listEq] at h
  | a :: x, b :: y, h => by
    simp only [listEq, Bool.and_eq_true] at h
    rw [hf a b h.1, listEq_ok hf x y h.2]

/-- Equal values (of those that a table holds). -/
def eqb : Nat → V → V → Bool
  | 0, _, _ => false
  | d + 1, x, y => match x, y with
    | .int k a, .int k' b => kindEq k k' && (a == b)
    | .bool a, .bool b => a == b
    | .str a, .str b => listEq (fun (p q : UInt8) => p.toNat == q.toNat) a.data.toList b.data.toList
    | .lst xs, .lst ys => listEq (listEq (eqb d)) xs ys
    | .agg xs, .agg ys => listEq (eqb d) xs ys
    | .nils, .nils => true
    | .nilp, .nilp => true
    | .no, .no => true
    | .sl a b c e f, .sl a' b' c' e' f' => a == a' && b == b' && c == c' && e == e' && f == f'
    | .ptr a b, .ptr a' b' => a == a' && b == b'
    | .tup xs, .tup ys => listEq (eqb d) xs ys
    | _, _ => false

theorem eqb_ok : ∀ (d : Nat) (x y : V), eqb d x y = true → x = y
  | 0, x, y, h => by simp [eqb] at h
  | d + 1, x, y, h => by
    have ih := eqb_ok d
    unfold eqb at h
    split at h
    · simp only [Bool.and_eq_true, beq_iff_eq] at h
      rw [kindEq_ok h.1, h.2]
    · simp only [beq_iff_eq] at h
      rw [h]
    · rename_i a b
      have := listEq_ok (fun (p q : UInt8) hpq => UInt8.toNat_inj.1 (by simpa using hpq)) _ _ h
      obtain ⟨⟨l⟩⟩ := a
      obtain ⟨⟨m⟩⟩ := b
      simp only at this
      rw [this]
    · rw [listEq_ok (listEq_ok ih) _ _ h]
    · rw [listEq_ok ih _ _ h]
    · rfl
    · rfl
    · rfl
    · simp only [Bool.and_eq_true, beq_iff_eq] at h
      obtain ⟨⟨⟨⟨rfl, rfl⟩, rfl⟩, rfl⟩, rfl⟩ := h
      rfl
    · simp only [Bool.and_eq_true, beq_iff_eq] at h
      obtain ⟨rfl, rfl⟩ := h
      rfl
    · rw [listEq_ok ih _ _ h]
    · cases h

def blkEq : Option (List V) → Option (List V) → Bool
  | none, none => true
  | some x, some y => listEq (eqb 9) x y
  | _, _ => false

theorem blkEq_ok (x y : Option (List V)) (h : blkEq x y = true) : x = y := by
  cases x <;> cases y <;> first | rfl | (simp [blkEq] at h; done) | (simp only [blkEq] at h; rw [listEq_ok (eqb_ok 9) _ _ h])

def cfgEq (a b : Cfg) : Bool := a.lo == b.lo && a.thr == b.thr && (match a.ex, b.ex with
  | none, none => true
  | some x, some y => x == y
  | _, _ => false)

theorem cfgEq_ok (a b : Cfg) (h : cfgEq a b = true) : a = b := by
  obtain ⟨l, e, t⟩ := a
  obtain ⟨l', e', t'⟩ := b
  simp only [cfgEq, Bool.and_eq_true, beq_iff_eq] at h
  obtain ⟨⟨rfl, rfl⟩, h⟩ := h
  cases e <;> cases e' <;> simp_all

/-- What a call takes. -/
structure Key where
  cfg : Cfg
  args : List V
  h : Heap

abbrev Tbl := List (Key × V × Heap)

def keyEq (k : Key) (cfg : Cfg) (args : List V) (h : Heap) : Bool := cfgEq k.cfg cfg && listEq (eqb 9) k.args args && listEq blkEq k.h h

def find : Tbl → Cfg → List V → Heap → Option (V × Heap)
  | [], _, _, _ => none
  | (k, r) :: t, cfg, args, h => if keyEq k cfg args h then some r else find t cfg args h

def memoP (t : Tbl) : Prim := fun cfg args h => find t cfg args h

def primOf : List (FuncId × Tbl) → FuncId → Option Prim
  | [], _ => none
  | (g, t) :: r, f => if f == g then some (memoP t) else primOf r f

section
variable {P : Program} {md : FuncId → Nat} {prim : FuncId → Option Prim} {n d : Nat}

/-- Each row of a table is what the call gives. -/
def RowsOK (P : Program) (md : FuncId → Nat) (prim : FuncId → Option Prim) (n d : Nat) (f : FuncId) (t : Tbl) : Prop := ∀ k r, (k, r) ∈ t → callN P md prim n d k.cfg f k.args k.h = some r

theorem rows_nil {f : FuncId} : RowsOK P md prim n d f [] := fun _ _ h => by simp at h
theorem rows_cons {f : FuncId} {k : Key} {r : V × Heap} {t : Tbl} (hr : callN P md prim n d k.cfg f k.args k.h = some r) (ht : RowsOK P md prim n d f t) : RowsOK P md prim n d f ((k, r) :: t) := by
  intro k' r' hm
  rcases List.mem_cons.1 hm with hm | hm
  · cases hm; exact hr
  · exact ht k' r' hm

theorem find_mem : ∀ (t : Tbl) (cfg : Cfg) (args : List V) (h : Heap) (r : V × Heap), find t cfg args h = some r → (⟨cfg, args, h⟩, r) ∈ t
  | [], _, _, _, _, h => by simp [find] at h
  | (k, s) :: t, cfg, args, h, r, hf => by
    unfold find at hf
    split at hf
    · rename_i he
      cases hf
      simp only [keyEq, Bool.and_eq_true] at he
      obtain ⟨kc, ka, kh⟩ := k
      obtain ⟨⟨h1, h2⟩, h3⟩ := he
      rw [← cfgEq_ok _ _ h1, ← listEq_ok (eqb_ok 9) _ _ h2, ← listEq_ok blkEq_ok _ _ h3]
      exact List.mem_cons_self ..
    · exact List.mem_cons_of_mem _ (find_mem t cfg args h r hf)

theorem memo_ok (hm : P.follows .mixedOrders = true) (hN : Named P) (hp : ∀ f p, prim f = some p → PrimOK P f p) {f : FuncId} {t : Tbl} (ht : RowsOK P md prim n d f t) : PrimOK P f (memoP t) := by
  intro cfg args h r h' hx
  exact callN_ok hm hN hp d _ _ _ _ _ _ (ht _ _ (find_mem t cfg args h _ hx))

theorem memo_cons {l : List (FuncId × Tbl)} (hl : ∀ f t, (f, t) ∈ l → PrimOK P f (memoP t)) {f : FuncId} {t : Tbl} (hf : PrimOK P f (memoP t)) : ∀ g u, (g, u) ∈ (f, t) :: l → PrimOK P g (memoP u) := by
  intro g u hgu
  rcases List.mem_cons.1 hgu with h | h
  · cases h; exact hf
  · exact hl g u h

theorem primOf_ok : ∀ (l : List (FuncId × Tbl)), (∀ f t, (f, t) ∈ l → PrimOK P f (memoP t)) → ∀ f p, primOf l f = some p → PrimOK P f p
  | [], _, f, p, h => by simp [primOf] at h
  | (g, t) :: r, hl, f, p, h => by
    unfold primOf at h
    split at h
    · rename_i he
      cases h
      rw [eq_of_beq he]
      exact hl g t (List.mem_cons_self ..)
    · exact primOf_ok r (fun f t hft => hl f t (List.mem_cons_of_mem _ hft)) f p h
end
end Go.Ab
/- Closed calls, by tables: what awake comes to. Printed by wip/tools/Memo.lean. -/
namespace Go.Ab
open Go.Proofs
namespace Bi
theorem hfol : Try.prog.follows .mixedOrders = true := by kernel_rfl
theorem hnam : Named Try.prog := by
  have h : (Try.prog.funcs.toList.all fun fn => !(fn.name == "runtime.NumGoroutine")) = true := by kernel_rfl
  intro g fn hg
  have := List.all_eq_true.1 h fn (List.mem_of_getElem? (by simpa using hg))
  simpa using this
/- char.Bidi -/
def t20 : Tbl := [(⟨⟨0, none, 0⟩, [(.int .i32 1488)], []⟩, (.int .i64 1), []),
  (⟨⟨0, none, 0⟩, [(.int .i32 97)], []⟩, (.int .i64 0), [])]
theorem r20x0 : ∀ k r, t20[0]? = some (k, r) → K (primOf []) 40 k.cfg 20 k.args k.h = some r := by
  intro k r hk
  cases hk
  kernel_rfl
theorem r20x1 : ∀ k r, t20[1]? = some (k, r) → K (primOf []) 40 k.cfg 20 k.args k.h = some r := by
  intro k r hk
  cases hk
  kernel_rfl
theorem ok20 : RowsOK Try.prog md (primOf []) 10000 40 20 t20 := (rows_cons (r20x0 _ _ rfl) (rows_cons (r20x1 _ _ rfl) rows_nil))
def ps1 : List (FuncId × Tbl) := (20, t20) :: []
theorem pk1 : ∀ f t, (f, t) ∈ ps1 → PrimOK Try.prog f (memoP t) := memo_cons (by simp) (memo_ok hfol hnam (primOf_ok _ (by simp)) ok20)
/- bidi.Levels -/
def t15 : Tbl := [(⟨⟨0, none, 0⟩, [(.lst [[(.int .i32 1488)], [(.int .i32 97)]]), (.int .i64 (-1))], []⟩, (.sl 2 0 2 2 1), [none, some [(.int .i64 1), (.int .i64 0)], some [(.int .i64 1), (.int .i64 2)], some [(.lst [[(.int .i32 1488)], [(.int .i32 97)]]), (.lst [[(.int .i64 1)], [(.int .i64 0)]]), (.sl 1 0 2 2 1), (.lst [[(.int .i64 (-1))], [(.int .i64 (-1))]]), (.sl 2 0 2 2 1), (.int .i64 1)], some [(.lst [[(.int .i64 0)], [(.int .i64 1)]]), (.int .i64 1), (.int .i64 1), (.int .i64 1)]])]
theorem r15x0 : ∀ k r, t15[0]? = some (k, r) → K (primOf ps1) 40 k.cfg 15 k.args k.h = some r := by
  intro k r hk
  cases hk
  kernel_rfl
theorem ok15 : RowsOK Try.prog md (primOf ps1) 10000 40 15 t15 := (rows_cons (r15x0 _ _ rfl) rows_nil)
def ps2 : List (FuncId × Tbl) := (15, t15) :: ps1
theorem pk2 : ∀ f t, (f, t) ∈ ps2 → PrimOK Try.prog f (memoP t) := memo_cons pk1 (memo_ok hfol hnam (primOf_ok _ pk1) ok15)
/- bidi.Order -/
def t19 : Tbl := [(⟨⟨0, none, 0⟩, [(.lst [[(.int .i64 1)], [(.int .i64 2)]])], []⟩, (.sl 0 0 2 2 1), [some [(.int .i64 1), (.int .i64 0)]])]
theorem r19x0 : ∀ k r, t19[0]? = some (k, r) → K (primOf ps2) 40 k.cfg 19 k.args k.h = some r := by
  intro k r hk
  cases hk
  kernel_rfl
theorem ok19 : RowsOK Try.prog md (primOf ps2) 10000 40 19 t19 := (rows_cons (r19x0 _ _ rfl) rows_nil)
def ps3 : List (FuncId × Tbl) := (19, t19) :: ps2
theorem pk3 : ∀ f t, (f, t) ∈ ps3 → PrimOK Try.prog f (memoP t) := memo_cons pk2 (memo_ok hfol hnam (primOf_ok _ pk2) ok19)
/- widgetryref01.Equal -/
def t14 : Tbl := [(⟨⟨0, none, 0⟩, [(.lst [[(.int .i64 1)], [(.int .i64 2)]]), (.lst [[(.int .i64 1)], [(.int .i64 2)]])], []⟩, (.bool true), []),
  (⟨⟨0, none, 0⟩, [(.lst [[(.int .i64 1)], [(.int .i64 0)]]), (.lst [[(.int .i64 1)], [(.int .i64 0)]])], []⟩, (.bool true), [])]
theorem r14x0 : ∀ k r, t14[0]? = some (k, r) → K (primOf ps3) 40 k.cfg 14 k.args k.h = some r := by
  intro k r hk
  cases hk
  kernel_rfl
theorem r14x1 : ∀ k r, t14[1]? = some (k, r) → K (primOf ps3) 40 k.cfg 14 k.args k.h = some r := by
  intro k r hk
  cases hk
  kernel_rfl
theorem ok14 : RowsOK Try.prog md (primOf ps3) 10000 40 14 t14 := (rows_cons (r14x0 _ _ rfl) (rows_cons (r14x1 _ _ rfl) rows_nil))
def ps4 : List (FuncId × Tbl) := (14, t14) :: ps3
theorem pk4 : ∀ f t, (f, t) ∈ ps4 → PrimOK Try.prog f (memoP t) := memo_cons pk3 (memo_ok hfol hnam (primOf_ok _ pk3) ok14)
/- widgetrylaw06.awake -/
def t17 : Tbl := [(⟨⟨0, none, 0⟩, [], []⟩, (.bool true), [some [(.int .i32 1488), (.int .i32 97)], some [(.int .i64 1), (.int .i64 2)], some [(.int .i64 1), (.int .i64 0)]])]
theorem r17x0 : ∀ k r, t17[0]? = some (k, r) → K (primOf ps4) 40 k.cfg 17 k.args k.h = some r := by
  intro k r hk
  cases hk
  kernel_rfl
theorem ok17 : RowsOK Try.prog md (primOf ps4) 10000 40 17 t17 := (rows_cons (r17x0 _ _ rfl) rows_nil)
def ps5 : List (FuncId × Tbl) := (17, t17) :: ps4
theorem pk5 : ∀ f t, (f, t) ∈ ps5 → PrimOK Try.prog f (memoP t) := memo_cons pk4 (memo_ok hfol hnam (primOf_ok _ pk4) ok17)
end Bi
end Go.Ab
/- The functions that are taken by their contracts: awake, SortFunc, Levels. -/
namespace Go.Ab
open Go.Proofs
namespace Bi
/-- awake and SortFunc. -/
noncomputable def pS (f : FuncId) : Option Prim := if f = 17 then some (memoP t17) else if f = 82 then some (sortP 83 fbS) else none
theorem pS_none (f : FuncId) (hf : f ≠ 17 ∧ f ≠ 82) : pS f = none := by
  unfold pS
  rw [if_neg hf.1, if_neg hf.2]
theorem pk17 : PrimOK Try.prog 17 (memoP t17) := pk5 17 _ (by rw [show ps5 = (17, t17) :: ps4 from rfl]; exact List.mem_cons_self ..)
theorem pS_ok : ∀ f p, pS f = some p → PrimOK Try.prog f p := by
  intro f p h
  unfold pS at h
  split at h
  · rename_i hf
    cases h
    subst hf
    exact pk17
  · split at h
    · rename_i hf
      cases h
      subst hf
      exact sortPrim_ok hfol hnam
    · cases h
/-- How the functions are called when there is no text: the classes keep their own block. -/
def md0 (f : FuncId) : Nat := if f = 26 then 2 else md f
def noText : List V → Bool
  | [.lst [], .int .i64 _] => true
  | _ => false
noncomputable def p15 : Prim := fun cfg args h => if noText args then callN Try.prog md0 (fun _ => none) 10000 40 cfg 15 args h else callN Try.prog md pS 10000 40 cfg 15 args h
theorem p15_ok : PrimOK Try.prog 15 p15 := by
  intro cfg args h r h' hx
  unfold p15 at hx
  split at hx
  · exact callN_ok hfol hnam (fun _ _ h => by cases h) 40 _ _ _ _ _ _ hx
  · exact callN_ok hfol hnam pS_ok 40 _ _ _ _ _ _ hx
noncomputable def pL (f : FuncId) : Option Prim := if f = 15 then some p15 else pS f
theorem pL_ok : ∀ f p, pL f = some p → PrimOK Try.prog f p := by
  intro f p h
  unfold pL at h
  split at h
  · rename_i hf
    cases h
    subst hf
    exact p15_ok
  · exact pS_ok f p h
theorem pL_none (f : FuncId) (hf : f ≠ 17 ∧ f ≠ 82 ∧ f ≠ 15) : pL f = none := by
  unfold pL
  rw [if_neg hf.2.2]
  exact pS_none f ⟨hf.1, hf.2.1⟩
theorem pL_15 : pL 15 = some p15 := rfl
theorem callN_prim {P : Program} {md' : FuncId → Nat} {prim : FuncId → Option Prim} {n d : Nat} {f : FuncId} {p : Prim} (h : prim f = some p) (cfg : Cfg) (args : List V) (H : Heap) : callN P md' prim n (d + 1) cfg f args H = p cfg args H := by
  simp only [callN, h]
theorem p15_no {args : List V} (ha : noText args = true) (cfg : Cfg) (h : Heap) : p15 cfg args h = callN Try.prog md0 (fun _ => none) 10000 40 cfg 15 args h := by
  unfold p15
  rw [if_pos ha]
theorem p15_yes {args : List V} (ha : noText args = false) (cfg : Cfg) (h : Heap) : p15 cfg args h = callN Try.prog md pS 10000 40 cfg 15 args h := by
  unfold p15
  rw [if_neg (by rw [ha]; simp)]
/-- Levels of a text. -/
theorem lev_ok (d : Nat) (t : List Int) (ht : t.length ≤ 2000) (hne : t ≠ []) (base : Int) :
    ∃ r, (∀ cfg h args, args.mapM (frzA h) = some [rl t, .int .i64 base] → callM md (K pL (d + 1)) cfg 15 args h = some (il r, h)) ∧ LevR t base r := by
  obtain ⟨r', h', h1, h2, r, h3, h4⟩ := levels_ok (prim := pS) 32 pS_none rfl t ht hne base
  refine ⟨r, fun cfg h args ha => ?_, h4⟩
  have hm : md 15 = 3 := rfl
  have hnt : noText [rl t, .int .i64 base] = false := by
    cases t with
    | nil => exact absurd rfl hne
    | cons a t => rfl
  have hp : p15 ⟨0, none, 0⟩ [rl t, .int .i64 base] [] = some (r', h') := (p15_yes hnt _ _).trans h1
  have hK : K pL (d + 1) ⟨0, none, 0⟩ 15 [rl t, .int .i64 base] [] = some (r', h') := (callN_prim pL_15 _ _ _).trans hp
  simp only [callM, hm, ha, hK, h2, h3, if_true]
def isNo : Option (V × Heap) → Bool
  | some (r, h) => own h 6 r && (match frz h 0 6 r with
    | some (.lst []) => true
    | _ => false)
  | none => false
theorem no_at {base : Int} (h : isNo (callN Try.prog md0 (fun _ => none) 10000 40 ⟨0, none, 0⟩ 15 [.lst [], .int .i64 base] []) = true) (d : Nat) (cfg : Cfg) (H : Heap) (args : List V) (ha : args.mapM (frzA H) = some [.lst [], .int .i64 base]) : callM md (K pL (d + 1)) cfg 15 args H = some (.lst [], H) := by
  have hm : md 15 = 3 := rfl
  have hK : K pL (d + 1) ⟨0, none, 0⟩ 15 [.lst [], .int .i64 base] [] = callN Try.prog md0 (fun _ => none) 10000 40 ⟨0, none, 0⟩ 15 [.lst [], .int .i64 base] [] := (callN_prim pL_15 _ _ _).trans (p15_no rfl _ _)
  generalize callN Try.prog md0 (fun _ => none) 10000 40 ⟨0, none, 0⟩ 15 [.lst [], .int .i64 base] [] = x at h hK
  unfold isNo at h
  split at h
  · rename_i r h'
    rw [Bool.and_eq_true] at h
    obtain ⟨h2, h3⟩ := h
    split at h3
    · rename_i hf
      simp only [callM, hm, ha, hK, h2, hf, if_true]
    · cases h3
  · cases h
theorem no_m1 : isNo (callN Try.prog md0 (fun _ => none) 10000 40 ⟨0, none, 0⟩ 15 [.lst [], .int .i64 (-1)] []) = true := by kernel_rfl
theorem no_0 : isNo (callN Try.prog md0 (fun _ => none) 10000 40 ⟨0, none, 0⟩ 15 [.lst [], .int .i64 0] []) = true := by kernel_rfl
theorem no_1 : isNo (callN Try.prog md0 (fun _ => none) 10000 40 ⟨0, none, 0⟩ 15 [.lst [], .int .i64 1] []) = true := by kernel_rfl
theorem awakeL (d : Nat) (cfg : Cfg) (h : Heap) : callM md (K pL (d + 1)) cfg 17 [] h = some (.bool true, h) := by kernel_rfl
end Bi
end Go.Ab
