/- Several texts of this proof in one. -/
import Derived.Test.YtcedojbifnangaaAbW
import Derived.Test.YtcedojbifnangaaAbW3
import Derived.Test.YtcedojbifnangaaBiG
import Derived.Test.YtcedojbifnangaaBiLev
import Derived.Test.YtcedojbifnangaaBiSq
/- slices.Clone of an empty slice, nil or not. -/
namespace Go.Ab
/-- A function of one slice: an empty slice for every empty one. -/
def cloneP (base : Prim) : Prim := fun cfg args h => match args with
  | [.lst []] => some (.lst [], h)
  | _ => base cfg args h
theorem no_live1 {x : Nat} (hl : live [none] x) : False := by
  obtain ⟨cs, hc⟩ := hl
  cases x with
  | zero => simp at hc
  | succ x => simp at hc
theorem cloneP_ok {P : Program} {f : FuncId} {base : Prim} (hb : PrimOK P f base) (h1 : base ⟨0, none, 0⟩ [.nils] [] = some (.nils, [])) {b2 : Nat} {h2' : Heap} (h2 : base ⟨0, none, 0⟩ [.sl 0 0 0 0 1] [none] = some (.sl b2 0 0 0 1, h2')) : PrimOK P f (cloneP base) := by
  intro cfg args h r h' hx
  unfold cloneP at hx
  split at hx
  · simp only [Option.some.injEq, Prod.mk.injEq] at hx
    obtain ⟨rfl, rfl⟩ := hx
    obtain ⟨_, hfn, hs1⟩ := hb _ _ _ _ _ h1
    obtain ⟨_, _, hs2⟩ := hb _ _ _ _ _ h2
    refine ⟨.refl _ _, hfn, fun m w vs hr hp => ?_⟩
    have hl : vs.size = 1 := hp.1
    obtain ⟨v, rfl⟩ : ∃ v, vs = #[v] := by
      obtain ⟨l⟩ := vs
      match l, hl with
      | [v], _ => exact ⟨v, rfl⟩
    have hv := hp.2 0 (.lst []) v rfl rfl
    have hcase : ∃ a rc, v = .slice a 0 rc ∧ (a = none → rc = 0) := by
      generalize hg : ([] : List (List V)) = l at hv
      cases hv with
      | lst0 a rc ha => exact ⟨a, rc, rfl, ha⟩
      | lst rv hi hrc hk hc hf hr' => subst hg; exact ⟨_, _, rfl, fun h => by cases h⟩
    obtain ⟨a, rc, rfl, ha⟩ := hcase
    cases a with
    | none =>
      have h0 := ha rfl
      subst h0
      refine (hs1 m w _ (rel_empty hr) ⟨rfl, fun i c u hc hu => ?_⟩).mono ?_
      · rcases i with _ | i
        · simp at hc hu; subst hc hu; exact .nils
        · simp at hc
      · rintro e w' ⟨u, he, m', ev, r', hu⟩
        obtain ⟨ev', rl'⟩ := kept_empty hr ev
        cases hu
        exact ⟨_, he, m, ev', rl', .lst0 _ _ (fun _ => rfl)⟩
    | some a =>
      refine (hs2 m w _ ⟨fun _ _ h _ => (no_live1 h).elim, hr.zl, fun _ _ _ h => (no_live1 h).elim, fun x cs _ h _ => (no_live1 ⟨cs, h⟩).elim⟩ ⟨rfl, fun i c u hc hu => ?_⟩).mono ?_
      · rcases i with _ | i
        · simp at hc hu
          subst hc hu
          exact .sl (by simp) (Nat.zero_le _) (Nat.zero_le _) (fun h => (no_live1 h).elim)
        · simp at hc
      · rintro e w' ⟨u, he, m', ev, r', hu⟩
        have ev0 : Evo m [] w m' h2' w' := ⟨ev.zeq, Nat.zero_le _, fun x hx _ => absurd hx (by simp), fun x b hl hb => by
          rcases ev.own x b hl hb with ⟨y, hy, _⟩ | hge
          · exact (no_live1 hy).elim
          · exact .inr hge, fun b hb _ => ev.frame b hb fun x hl => (no_live1 hl).elim, ev.size, ev.rs, ev.os, ev.tape, ev.output⟩
        obtain ⟨ev', rl'⟩ := kept_empty hr ev0
        cases hu
        exact ⟨_, he, m, ev', rl', .lst0 _ _ (fun h => by cases h)⟩
  · exact hb _ _ _ _ _ hx
theorem cloneP_ne {base : Prim} {cfg : Cfg} {xs : List (List V)} {h : Heap} (hx : xs ≠ []) : cloneP base cfg [.lst xs] h = base cfg [.lst xs] h := by
  unfold cloneP
  split
  · rename_i h; simp at h; exact absurd h hx
  · rfl
end Go.Ab
/- Guarded operations without a branch: what is behind a guard is carried on as a value under that guard. -/
namespace Go.Ab
/-- A value that is there only if b. -/
def gd (b : Bool) (v : V) : V := if b = true then v else .no
theorem gd_true {v : V} : gd true v = v := rfl
section
variable (P : Program) (md : FuncId → Nat) (call : Callf) (cfg : Cfg)
def wGp (e : Bool) (r : Option (V × Heap)) [dst : Hid (Option Tmp)] [ops : Hid (Array Oper)] [l : Hid (List Oper)] [fr : Hid (List V)] [h : Hid Heap] [Q : Hid KontO] : Prop :=
  @wIf e ⟨@wS P md call cfg dst fr r ops l Q⟩ ⟨@wO P md call cfg ops l (put fr.val dst.val .no) h.val Q⟩
end
section
variable {P : Program} {md : FuncId → Nat} {call : Callf} {cfg : Cfg}
theorem wGp_congr {e e' : Bool} {r r' : Option (V × Heap)} {dst : Hid (Option Tmp)} {ops : Hid (Array Oper)} {l : Hid (List Oper)} {fr : Hid (List V)} {h : Hid Heap} {Q : Hid KontO} (he : e = e') (hr : e' = true → r = r') :
    @wGp P md call cfg e r dst ops l fr h Q = @wGp P md call cfg e' r' dst ops l fr h Q := by
  subst he
  cases e
  · simp [wGp]
  · rw [hr rfl]
theorem wG_gd {b want : Bool} {dst : Option Tmp} {op : Op} {ops : Array Oper} {l : List Oper} {fr : List V} {h : Heap} {Q : KontO} :
    @wG P md call cfg (some (.bool b)) ⟨want⟩ ⟨dst⟩ ⟨op⟩ ⟨ops⟩ ⟨l⟩ ⟨fr⟩ ⟨h⟩ ⟨Q⟩ ↔ @wGp P md call cfg (b == want) (opEv P md call cfg fr h op) ⟨dst⟩ ⟨ops⟩ ⟨l⟩ ⟨fr⟩ ⟨h⟩ ⟨Q⟩ := Iff.rfl
theorem wGp_some {e : Bool} {v : V} {dst : Option Tmp} {ops : Array Oper} {l : List Oper} {fr : List V} {h : Heap} {Q : KontO} :
    @wGp P md call cfg e (some (v, h)) ⟨dst⟩ ⟨ops⟩ ⟨l⟩ ⟨fr⟩ ⟨h⟩ ⟨Q⟩ ↔ @wO P md call cfg ⟨ops⟩ ⟨l⟩ (put fr dst (gd e v)) h ⟨Q⟩ := by
  cases e
  · simp [wGp, gd]
  · simp [wGp, gd]
theorem pickV_gdA {x y : Bool} {h : Heap} : pickV (some (.bool x)) (some (gd x (.bool y))) (some (.bool false)) h = some (.bool (x && y), h) := by cases x <;> rfl
end
end Go.Ab
/- Calls whose results are known: a table that the evaluator looks into. -/
namespace Go.Ab
def kindEq : IntKind → IntKind → Bool
  | .i8, .i8 | .i16, .i16 | .i32, .i32 | .i64, .i64 | .u8, .u8 | .u16, .u16 | .u32, .u32 | .u64, .u64 => true
  | _, _ => false
theorem kindEq_ok {a b : IntKind} (h : kindEq a b = true) : a = b := by
  cases a <;> cases b <;> first | rfl | simp [kindEq] at h
def listEq {α : Type} (f : α → α → Bool) : List α → List α → Bool
  | [], [] => true
  | a :: x, b :: y => f a b && listEq f x y
  | _, _ => false
theorem listEq_ok {α : Type} {f : α → α → Bool} (hf : ∀ a b, f a b = true → a = b) : ∀ x y, listEq f x y = true → x = y
  | [], [], _ => rfl
  | [], _ :: _, h => by simp [listEq] at h
  | _ :: _, [], h => by simp [listEq] at h
  | a :: x, b :: y, h => by
    simp only [listEq, Bool.and_eq_true] at h
    rw [hf a b h.1, listEq_ok hf x y h.2]
/-- Equal values (of those that a table holds). -/
def eqb : Nat → V → V → Bool
  | 0, _, _ => false
  | d + 1, x, y => match x, y with
    | .int k a, .int k' b => kindEq k k' && (a == b)
    | .bool a, .bool b => a == b
    | .str a, .str b => listEq (fun (p q : UInt8) => p.toNat == q.toNat) a.data.toList b.data.toList
    | .lst xs, .lst ys => listEq (listEq (eqb d)) xs ys
    | .agg xs, .agg ys => listEq (eqb d) xs ys
    | .nils, .nils => true
    | .nilp, .nilp => true
    | .no, .no => true
    | .sl a b c e f, .sl a' b' c' e' f' => a == a' && b == b' && c == c' && e == e' && f == f'
    | .ptr a b, .ptr a' b' => a == a' && b == b'
    | .tup xs, .tup ys => listEq (eqb d) xs ys
    | _, _ => false
theorem eqb_ok : ∀ (d : Nat) (x y : V), eqb d x y = true → x = y
  | 0, x, y, h => by simp [eqb] at h
  | d + 1, x, y, h => by
    have ih := eqb_ok d
    unfold eqb at h
    split at h
    · simp only [Bool.and_eq_true, beq_iff_eq] at h
      rw [kindEq_ok h.1, h.2]
    · simp only [beq_iff_eq] at h
      rw [h]
    · rename_i a b
      have := listEq_ok (fun (p q : UInt8) hpq => UInt8.toNat_inj.1 (by simpa using hpq)) _ _ h
      obtain ⟨⟨l⟩⟩ := a
      obtain ⟨⟨m⟩⟩ := b
      simp only at this
      rw [this]
    · rw [listEq_ok (listEq_ok ih) _ _ h]
    · rw [listEq_ok ih _ _ h]
    · rfl
    · rfl
    · rfl
    · simp only [Bool.and_eq_true, beq_iff_eq] at h
      obtain ⟨⟨⟨⟨rfl, rfl⟩, rfl⟩, rfl⟩, rfl⟩ := h
      rfl
    · simp only [Bool.and_eq_true, beq_iff_eq] at h
      obtain ⟨rfl, rfl⟩ := h
      rfl
    · rw [listEq_ok ih _ _ h]
    · cases h
def blkEq : Option (List V) → Option (List V) → Bool
  | none, none => true
  | some x, some y => listEq (eqb 9) x y
  | _, _ => false
theorem blkEq_ok (x y : Option (List V)) (h : blkEq x y = true) : x = y := by
  cases x <;> cases y <;> first | rfl | (simp [blkEq] at h; done) | (simp only [blkEq] at h; rw [listEq_ok (eqb_ok 9) _ _ h])
def cfgEq (a b : Cfg) : Bool := a.lo == b.lo && a.thr == b.thr && (match a.ex, b.ex with
  | none, none => true
  | some x, some y => x == y
  | _, _ => false)
theorem cfgEq_ok (a b : Cfg) (h : cfgEq a b = true) : a = b := by
  obtain ⟨l, e, t⟩ := a
  obtain ⟨l', e', t'⟩ := b
  simp only [cfgEq, Bool.and_eq_true, beq_iff_eq] at h
  obtain ⟨⟨rfl, rfl⟩, h⟩ := h
  cases e <;> cases e' <;> simp_all
/-- What a call takes. -/
structure Key where
  cfg : Cfg
  args : List V
  h : Heap
abbrev Tbl := List (Key × V × Heap)
def keyEq (k : Key) (cfg : Cfg) (args : List V) (h : Heap) : Bool := cfgEq k.cfg cfg && listEq (eqb 9) k.args args && listEq blkEq k.h h
def find : Tbl → Cfg → List V → Heap → Option (V × Heap)
  | [], _, _, _ => none
  | (k, r) :: t, cfg, args, h => if keyEq k cfg args h then some r else find t cfg args h
def memoP (t : Tbl) : Prim := fun cfg args h => find t cfg args h
def primOf : List (FuncId × Tbl) → FuncId → Option Prim
  | [], _ => none
  | (g, t) :: r, f => if f == g then some (memoP t) else primOf r f
section
variable {P : Program} {md : FuncId → Nat} {prim : FuncId → Option Prim} {n d : Nat}
/-- Each row of a table is what the call gives. -/
def RowsOK (P : Program) (md : FuncId → Nat) (prim : FuncId → Option Prim) (n d : Nat) (f : FuncId) (t : Tbl) : Prop := ∀ k r, (k, r) ∈ t → callN P md prim n d k.cfg f k.args k.h = some r
theorem rows_nil {f : FuncId} : RowsOK P md prim n d f [] := fun _ _ h => by simp at h
theorem rows_cons {f : FuncId} {k : Key} {r : V × Heap} {t : Tbl} (hr : callN P md prim n d k.cfg f k.args k.h = some r) (ht : RowsOK P md prim n d f t) : RowsOK P md prim n d f ((k, r) :: t) := by
  intro k' r' hm
  rcases List.mem_cons.1 hm with hm | hm
  · cases hm; exact hr
  · exact ht k' r' hm
theorem find_mem : ∀ (t : Tbl) (cfg : Cfg) (args : List V) (h : Heap) (r : V × Heap), find t cfg args h = some r → (⟨cfg, args, h⟩, r) ∈ t
  | [], _, _, _, _, h => by simp [find] at h
  | (k, s) :: t, cfg, args, h, r, hf => by
    unfold find at hf
    split at hf
    · rename_i he
      cases hf
      simp only [keyEq, Bool.and_eq_true] at he
      obtain ⟨kc, ka, kh⟩ := k
      obtain ⟨⟨h1, h2⟩, h3⟩ := he
      rw [← cfgEq_ok _ _ h1, ← listEq_ok (eqb_ok 9) _ _ h2, ← listEq_ok blkEq_ok _ _ h3]
      exact List.mem_cons_self ..
    · exact List.mem_cons_of_mem _ (find_mem t cfg args h r hf)
theorem memo_ok (hm : P.follows .mixedOrders = true) (hN : Named P) (hp : ∀ f p, prim f = some p → PrimOK P f p) {f : FuncId} {t : Tbl} (ht : RowsOK P md prim n d f t) : PrimOK P f (memoP t) := by
  intro cfg args h r h' hx
  exact callN_ok hm hN hp d _ _ _ _ _ _ (ht _ _ (find_mem t cfg args h _ hx))
theorem memo_cons {l : List (FuncId × Tbl)} (hl : ∀ f t, (f, t) ∈ l → PrimOK P f (memoP t)) {f : FuncId} {t : Tbl} (hf : PrimOK P f (memoP t)) : ∀ g u, (g, u) ∈ (f, t) :: l → PrimOK P g (memoP u) := by
  intro g u hgu
  rcases List.mem_cons.1 hgu with h | h
  · cases h; exact hf
  · exact hl g u h
theorem primOf_ok : ∀ (l : List (FuncId × Tbl)), (∀ f t, (f, t) ∈ l → PrimOK P f (memoP t)) → ∀ f p, primOf l f = some p → PrimOK P f p
  | [], _, f, p, h => by simp [primOf] at h
  | (g, t) :: r, hl, f, p, h => by
    unfold primOf at h
    split at h
    · rename_i he
      cases h
      rw [eq_of_beq he]
      exact hl g t (List.mem_cons_self ..)
    · exact primOf_ok r (fun f t hft => hl f t (List.mem_cons_of_mem _ hft)) f p h
end
end Go.Ab
/- Closed calls, by tables: what awake comes to. Printed by wip/tools/Memo.lean. -/
namespace Go.Ab
open Go.Proofs
namespace Bi
theorem hfol : Try.prog.follows .mixedOrders = true := by kernel_rfl
theorem hnam : Named Try.prog := by
  have h : (Try.prog.funcs.toList.all fun fn => !(fn.name == "runtime.NumGoroutine")) = true := by kernel_rfl
  intro g fn hg
  have := List.all_eq_true.1 h fn (List.mem_of_getElem? (by simpa using hg))
  simpa using this
/- char.Bidi -/
def t20 : Tbl := [(⟨⟨0, none, 0⟩, [(.int .i32 1488)], []⟩, (.int .i64 1), []),
  (⟨⟨0, none, 0⟩, [(.int .i32 97)], []⟩, (.int .i64 0), [])]
theorem r20x0 : ∀ k r, t20[0]? = some (k, r) → K (primOf []) 40 k.cfg 20 k.args k.h = some r := by
  intro k r hk
  cases hk
  kernel_rfl
theorem r20x1 : ∀ k r, t20[1]? = some (k, r) → K (primOf []) 40 k.cfg 20 k.args k.h = some r := by
  intro k r hk
  cases hk
  kernel_rfl
theorem ok20 : RowsOK Try.prog md (primOf []) 10000 40 20 t20 := (rows_cons (r20x0 _ _ rfl) (rows_cons (r20x1 _ _ rfl) rows_nil))
def ps1 : List (FuncId × Tbl) := (20, t20) :: []
theorem pk1 : ∀ f t, (f, t) ∈ ps1 → PrimOK Try.prog f (memoP t) := memo_cons (by simp) (memo_ok hfol hnam (primOf_ok _ (by simp)) ok20)
/- bidi.Levels -/
def t15 : Tbl := [(⟨⟨0, none, 0⟩, [(.lst [[(.int .i32 1488)], [(.int .i32 97)]]), (.int .i64 (-1))], []⟩, (.sl 2 0 2 2 1), [none, some [(.int .i64 1), (.int .i64 0)], some [(.int .i64 1), (.int .i64 2)], some [(.lst [[(.int .i32 1488)], [(.int .i32 97)]]), (.lst [[(.int .i64 1)], [(.int .i64 0)]]), (.sl 1 0 2 2 1), (.lst [[(.int .i64 (-1))], [(.int .i64 (-1))]]), (.sl 2 0 2 2 1), (.int .i64 1)], some [(.lst [[(.int .i64 0)], [(.int .i64 1)]]), (.int .i64 1), (.int .i64 1), (.int .i64 1)]])]
theorem r15x0 : ∀ k r, t15[0]? = some (k, r) → K (primOf ps1) 40 k.cfg 15 k.args k.h = some r := by
  intro k r hk
  cases hk
  kernel_rfl
theorem ok15 : RowsOK Try.prog md (primOf ps1) 10000 40 15 t15 := (rows_cons (r15x0 _ _ rfl) rows_nil)
def ps2 : List (FuncId × Tbl) := (15, t15) :: ps1
theorem pk2 : ∀ f t, (f, t) ∈ ps2 → PrimOK Try.prog f (memoP t) := memo_cons pk1 (memo_ok hfol hnam (primOf_ok _ pk1) ok15)
/- bidi.Order -/
def t19 : Tbl := [(⟨⟨0, none, 0⟩, [(.lst [[(.int .i64 1)], [(.int .i64 2)]])], []⟩, (.sl 0 0 2 2 1), [some [(.int .i64 1), (.int .i64 0)]])]
theorem r19x0 : ∀ k r, t19[0]? = some (k, r) → K (primOf ps2) 40 k.cfg 19 k.args k.h = some r := by
  intro k r hk
  cases hk
  kernel_rfl
theorem ok19 : RowsOK Try.prog md (primOf ps2) 10000 40 19 t19 := (rows_cons (r19x0 _ _ rfl) rows_nil)
def ps3 : List (FuncId × Tbl) := (19, t19) :: ps2
theorem pk3 : ∀ f t, (f, t) ∈ ps3 → PrimOK Try.prog f (memoP t) := memo_cons pk2 (memo_ok hfol hnam (primOf_ok _ pk2) ok19)
/- widgetryref01.Equal -/
def t14 : Tbl := [(⟨⟨0, none, 0⟩, [(.lst [[(.int .i64 1)], [(.int .i64 2)]]), (.lst [[(.int .i64 1)], [(.int .i64 2)]])], []⟩, (.bool true), []),
  (⟨⟨0, none, 0⟩, [(.lst [[(.int .i64 1)], [(.int .i64 0)]]), (.lst [[(.int .i64 1)], [(.int .i64 0)]])], []⟩, (.bool true), [])]
theorem r14x0 : ∀ k r, t14[0]? = some (k, r) → K (primOf ps3) 40 k.cfg 14 k.args k.h = some r := by
  intro k r hk
  cases hk
  kernel_rfl
theorem r14x1 : ∀ k r, t14[1]? = some (k, r) → K (primOf ps3) 40 k.cfg 14 k.args k.h = some r := by
  intro k r hk
  cases hk
  kernel_rfl
theorem ok14 : RowsOK Try.prog md (primOf ps3) 10000 40 14 t14 := (rows_cons (r14x0 _ _ rfl) (rows_cons (r14x1 _ _ rfl) rows_nil))
def ps4 : List (FuncId × Tbl) := (14, t14) :: ps3
theorem pk4 : ∀ f t, (f, t) ∈ ps4 → PrimOK Try.prog f (memoP t) := memo_cons pk3 (memo_ok hfol hnam (primOf_ok _ pk3) ok14)
/- widgetrylaw06.awake -/
def t17 : Tbl := [(⟨⟨0, none, 0⟩, [], []⟩, (.bool true), [some [(.int .i32 1488), (.int .i32 97)], some [(.int .i64 1), (.int .i64 2)], some [(.int .i64 1), (.int .i64 0)]])]
theorem r17x0 : ∀ k r, t17[0]? = some (k, r) → K (primOf ps4) 40 k.cfg 17 k.args k.h = some r := by
  intro k r hk
  cases hk
  kernel_rfl
theorem ok17 : RowsOK Try.prog md (primOf ps4) 10000 40 17 t17 := (rows_cons (r17x0 _ _ rfl) rows_nil)
def ps5 : List (FuncId × Tbl) := (17, t17) :: ps4
theorem pk5 : ∀ f t, (f, t) ∈ ps5 → PrimOK Try.prog f (memoP t) := memo_cons pk4 (memo_ok hfol hnam (primOf_ok _ pk4) ok17)
end Bi
end Go.Ab
/- Reset: the program's and the reference's. -/
namespace Go.Ab
open Go.Proofs
namespace Bi
/-- The last m levels of a line, from its end on, as long as blanks and separators go. -/
def rstU (o : List Int) (e : Int) (f : Nat) : Nat → List Int → List Int
  | 0, lv => lv
  | m + 1, lv => if blankB (o.getD (f + m) 0) = true ∨ o.getD (f + m) 0 = 11 ∨ o.getD (f + m) 0 = 10 then rstU o e f m (lv.set m e) else lv
def rstS (o lv : List Int) (e a b : Int) : List Int :=
  if a < 0 ∨ b < a ∨ (o.length : Int) < b ∨ lv.length ≠ o.length then [] else rstU o e a.toNat (b.toNat - a.toNat) ((lv.take b.toNat).drop a.toNat)
theorem rstU_len (o : List Int) (e : Int) (f : Nat) : ∀ (m : Nat) (lv : List Int), (rstU o e f m lv).length = lv.length
  | 0, _ => rfl
  | m + 1, lv => by
    unfold rstU
    split
    · rw [rstU_len o e f m]; simp
    · rfl
theorem rstS_len (o lv : List Int) (e a b : Int) : (rstS o lv e a b).length ≤ o.length := by
  unfold rstS
  split
  · simp
  · rw [rstU_len]; simp; omega
noncomputable def p27 : Prim := cloneP (callN Try.prog md (fun _ => none) 10000 30 · 27 · ·)
theorem p27_ok : PrimOK Try.prog 27 p27 := by
  refine cloneP_ok (fun cfg args h r h' hx => callN_ok hfol hnam (fun _ _ h => by cases h) 30 _ _ _ _ _ _ hx) (b2 := 1) (h2' := [none, some []]) ?_ ?_
  · kernel_rfl
  · kernel_rfl
noncomputable def pC (f : FuncId) : Option Prim := if f = 27 then some p27 else none
theorem pC_ok : ∀ f p, pC f = some p → PrimOK Try.prog f p := by
  intro f p h
  unfold pC at h
  split at h
  · rename_i hf
    cases h
    subst hf
    exact p27_ok
  · cases h
theorem pC_none (f : FuncId) (hf : f ≠ 27) : pC f = none := by
  unfold pC
  rw [if_neg hf]
theorem cloneC_ok (d : Nat) (l : List Int) (hl : l ≠ []) (hll : l.length ≤ 2000) : callM md (K pC (d + 1)) ⟨0, none, 0⟩ 27 [il l] [] = some (.sl 1 0 l.length l.length 1, [none, some (l.map (V.int .i64))]) := by
  have h1 := clone_ok (prim := fun _ => none) 29 rfl l hl hll
  have hm : md 27 = 2 := rfl
  have hne : (l.map fun n => [V.int .i64 n]) ≠ [] := by simpa using hl
  simp only [callM, hm] at h1 ⊢
  have e : K pC (d + 1) ⟨0, none, 0⟩ 27 [il l] [] = p27 ⟨0, none, 0⟩ [il l] [] := by simp only [callN]; rfl
  exact e.trans ((cloneP_ne hne).trans h1)
theorem cloneC_no (d : Nat) : callM md (K pC (d + 1)) ⟨0, none, 0⟩ 27 [.lst []] [] = some (.lst [], []) := rfl
section
attribute [local congr] wGp_congr
theorem rst_parts {l : List Int} {f g : Nat} (h : f ≤ g) (hg : g ≤ l.length) : ((l.take g).drop f).length = g - f := by simp; omega
set_option maxHeartbeats 4000000 in
theorem reset_ok (d : Nat) (t lv : List Int) (ht : t.length ≤ 2000) (e a b : Int) :
    ∃ r' h', K pC (d + 8) ⟨0, none, 0⟩ 51 [rl t, il lv, .int .i64 e, .int .i64 a, .int .i64 b] [] = some (r', h') ∧ (own h' 6 r' = true ∧ frz h' 0 6 r' = some (il (rstS (t.map bidi) lv e a b))) := by
  refine callN_of (R := fun r' h' => own h' 6 r' = true ∧ frz h' 0 6 r' = some (il (rstS (t.map bidi) lv e a b))) (pC_none 51 (by decide)) Try.func51 rfl rfl rfl ?_
  have hB : ∀ cfg h r, callM md (K pC (d + 7)) cfg 20 [.int .i32 r] h = some (.int .i64 (bidi r), h) := fun cfg h r => bidi_ok (prim := pC) (d + 4) cfg h (fun f hf => pC_none f hf.2.2.2.2) r
  have hBk := fun cfg h x => blank_ok (prim := pC) (d + 5) cfg h (pC_none 37 (by decide)) (pC_none 53 (by decide)) x
  have hCn := cloneC_no (d + 6)
  have hm27 : md 27 = 2 := rfl
  have hgt : ∀ (j : Nat) (z : Int), t[j]? = some z → (t.map bidi)[j]? = some (bidi z) := fun j z hz => by rw [List.getElem?_map, hz]; rfl
  have hol : (t.map bidi).length = t.length := by simp
  generalize t.map bidi = o at *
  by_cases hbad : a < 0 ∨ b < a ∨ (t.length : Int) < b ∨ lv.length ≠ t.length
  · have hr : rstS o lv e a b = [] := by unfold rstS; rw [if_pos (by rw [hol]; exact hbad)]
    rw [hr]
    by_cases h1 : a < 0
    · simp (disch := omega) [h1]
    · by_cases h2 : b < a
      · simp (disch := omega) [h1, h2]
      · by_cases h3 : (t.length : Int) < b
        · simp (disch := omega) [h1, h2, h3]
        · have h4 : lv.length ≠ t.length := by omega
          simp (disch := omega) [h1, h2, h3, h4]
  obtain ⟨f, rfl⟩ : ∃ n : Nat, a = n := ⟨a.toNat, by omega⟩
  obtain ⟨g, rfl⟩ : ∃ n : Nat, b = n := ⟨b.toNat, by omega⟩
  have hfg : f ≤ g := by omega
  have hgt' : g ≤ t.length := by omega
  have hll : lv.length = t.length := by omega
  have hr : rstS o lv e f g = rstU o e f (g - f) ((lv.take g).drop f) := by unfold rstS; rw [if_neg (by rw [hol]; exact hbad)]; simp
  rw [hr]
  have hpl := rst_parts (l := lv) hfg (by omega)
  generalize hP : (lv.take g).drop f = P at *
  have h1 : ¬ ((f : Int) < 0) := by omega
  have h2 : ¬ ((g : Int) < f) := by omega
  have h3 : ¬ ((t.length : Int) < g) := by omega
  by_cases he : P = []
  · subst he
    obtain rfl : f = g := by simp at hpl; omega
    simp (disch := omega) [h1, h2, h3, hll, hP, hCn, wrap64]
    refine wC_loop (fun m fr H => H = [] ∧ Slots 69 [(0, rl t), (1, il lv), (3, .int .i64 f), (11, .lst []), (12, .int .i64 ((f : Int) - 1))] fr) (m := 0) (by omega) ⟨rfl, by simp⟩ ?_
    rintro m fr H ⟨rfl, hs⟩
    obtain ⟨j, rfl⟩ := hs.ex
    clear hs
    have h9 : ¬ ((f : Int) ≤ f - 1) := by omega
    simp (disch := omega) [h9, rstU]
  · have hCl := cloneC_ok (d + 6) P he (by omega)
    simp (disch := omega) [h1, h2, h3, hll, hP, hCl, wrap64]
    have hnl : ((P.map (V.int .i64)).length = P.length) := by simp
    refine wC_loop (fun m fr H => ∃ (q : Nat) (lv' : List Int), q ≤ g - f ∧ m = q ∧ lv'.length = g - f ∧ rstU o e f (g - f) P = rstU o e f q lv' ∧ H = [none, some (lv'.map (V.int .i64))] ∧
      Slots 69 [(0, rl t), (1, il lv), (2, .int .i64 e), (3, .int .i64 f), (11, .sl 1 0 P.length P.length 1), (12, .int .i64 ((f : Int) + q - 1))] fr) (m := g - f) (by omega) ⟨g - f, P, by omega, rfl, hpl, rfl, rfl, by simp; omega⟩ ?_
    rintro m fr H ⟨q, lv', hq, hm, hl', hF, rfl, hs⟩
    replace hm := hm.symm
    subst hm
    obtain ⟨j, rfl⟩ := hs.ex
    clear hs
    rw [hF]
    rcases q with _ | q
    · have h9 : ¬ ((f : Int) ≤ (f : Int) - 1) := by omega
      have hb1 : blockOf [none, some (lv'.map (V.int .i64))] 1 = some (lv'.map (V.int .i64)) := by simp [blockOf]
      simp (disch := omega) [h9, rstU]
      exact ⟨own_ints (d := 4) hb1, frz_ints (d := 4) hb1 (Nat.zero_le _) (by omega)⟩
    · have hk1 : (f : Int) + ((q + 1 : Nat) : Int) - 1 = (f : Int) + q := by omega
      rw [hk1]
      obtain ⟨z, hz⟩ : ∃ z, t[f + q]? = some z := ⟨_, List.getElem?_eq_getElem (by omega)⟩
      have eo : o.getD (f + q) 0 = bidi z := by rw [List.getD_eq_getElem?_getD, hgt _ z hz]; rfl
      rw [rstU, eo]
      have h9 : (f : Int) ≤ (f : Int) + q := by omega
      have hi9 : (f : Int) + q - f = q := by omega
      have hn9 : ((f : Int) + q).toNat = f + q := by omega
      simp +contextual (disch := omega) [-wG_bool, wG_gd, wGp_some, gd_true, pickV_gdA, h9, hn9, hz, hB, hBk, -getElem?_pos]
      refine wIf_intro (fun hb => ?_) (fun hb => ?_)
      · rw [if_neg (by simp at hb; simp [hb])]
        have hb1 : blockOf [none, some (lv'.map (V.int .i64))] 1 = some (lv'.map (V.int .i64)) := by simp [blockOf]
        simp (disch := omega)
        exact ⟨own_ints (d := 4) hb1, frz_ints (d := 4) hb1 (Nat.zero_le _) (by omega)⟩
      · rw [if_pos (by cases hbz : blankB (bidi z) <;> simp_all; omega)]
        have hle : q + 1 ≤ g - f := hq
        simp (disch := omega) [hi9, hl', hle, wrap64]
        exact Rnd_of (m' := q) (by omega) ⟨q, lv'.set q e, by omega, rfl, by simpa using hl', rfl, by simp [List.map_set], by simp (disch := omega)⟩
end
end Bi
end Go.Ab
/- The functions that are taken by their contracts: awake, SortFunc, Levels. -/
namespace Go.Ab
open Go.Proofs
namespace Bi
/-- awake and SortFunc. -/
noncomputable def pS (f : FuncId) : Option Prim := if f = 17 then some (memoP t17) else if f = 82 then some (sortP 83 fbS) else none
theorem pS_none (f : FuncId) (hf : f ≠ 17 ∧ f ≠ 82) : pS f = none := by
  unfold pS
  rw [if_neg hf.1, if_neg hf.2]
theorem pk17 : PrimOK Try.prog 17 (memoP t17) := pk5 17 _ (by rw [show ps5 = (17, t17) :: ps4 from rfl]; exact List.mem_cons_self ..)
theorem pS_ok : ∀ f p, pS f = some p → PrimOK Try.prog f p := by
  intro f p h
  unfold pS at h
  split at h
  · rename_i hf
    cases h
    subst hf
    exact pk17
  · split at h
    · rename_i hf
      cases h
      subst hf
      exact sortPrim_ok hfol hnam
    · cases h
/-- How the functions are called when there is no text: the classes keep their own block. -/
def md0 (f : FuncId) : Nat := if f = 26 then 2 else md f
def noText : List V → Bool
  | [.lst [], .int .i64 _] => true
  | _ => false
noncomputable def p15 : Prim := fun cfg args h => if noText args then callN Try.prog md0 (fun _ => none) 10000 40 cfg 15 args h else callN Try.prog md pS 10000 40 cfg 15 args h
theorem p15_ok : PrimOK Try.prog 15 p15 := by
  intro cfg args h r h' hx
  unfold p15 at hx
  split at hx
  · exact callN_ok hfol hnam (fun _ _ h => by cases h) 40 _ _ _ _ _ _ hx
  · exact callN_ok hfol hnam pS_ok 40 _ _ _ _ _ _ hx
noncomputable def p51 : Prim := fun cfg args h => callN Try.prog md pC 10000 40 cfg 51 args h
theorem p51_ok : PrimOK Try.prog 51 p51 := fun _ _ _ _ _ hx => callN_ok hfol hnam pC_ok 40 _ _ _ _ _ _ hx
noncomputable def pL (f : FuncId) : Option Prim := if f = 15 then some p15 else if f = 51 then some p51 else pS f
theorem pL_ok : ∀ f p, pL f = some p → PrimOK Try.prog f p := by
  intro f p h
  unfold pL at h
  split at h
  · rename_i hf
    cases h
    subst hf
    exact p15_ok
  · split at h
    · rename_i hf
      subst hf
      exact Option.some.inj h ▸ p51_ok
    · exact pS_ok f p h
theorem pL_none (f : FuncId) (hf : f ≠ 17 ∧ f ≠ 82 ∧ f ≠ 15 ∧ f ≠ 51 ∧ f ≠ 27) : pL f = none := by
  unfold pL
  rw [if_neg hf.2.2.1, if_neg hf.2.2.2.1]
  exact pS_none f ⟨hf.1, hf.2.1⟩
theorem pL_15 : pL 15 = some p15 := rfl
theorem pL_51 : pL 51 = some p51 := rfl
theorem callN_prim {P : Program} {md' : FuncId → Nat} {prim : FuncId → Option Prim} {n d : Nat} {f : FuncId} {p : Prim} (h : prim f = some p) (cfg : Cfg) (args : List V) (H : Heap) : callN P md' prim n (d + 1) cfg f args H = p cfg args H := by
  simp only [callN, h]
theorem p15_no {args : List V} (ha : noText args = true) (cfg : Cfg) (h : Heap) : p15 cfg args h = callN Try.prog md0 (fun _ => none) 10000 40 cfg 15 args h := by
  unfold p15
  rw [if_pos ha]
theorem p15_yes {args : List V} (ha : noText args = false) (cfg : Cfg) (h : Heap) : p15 cfg args h = callN Try.prog md pS 10000 40 cfg 15 args h := by
  unfold p15
  rw [if_neg (by rw [ha]; simp)]
/-- Levels of a text. -/
theorem lev_ok (d : Nat) (t : List Int) (ht : t.length ≤ 2000) (hne : t ≠ []) (base : Int) :
    ∃ r, (∀ cfg h args, args.mapM (frzA h) = some [rl t, .int .i64 base] → callM md (K pL (d + 1)) cfg 15 args h = some (il r, h)) ∧ LevR t base r := by
  obtain ⟨r', h', h1, h2, r, h3, h4⟩ := levels_ok (prim := pS) 32 pS_none rfl t ht hne base
  refine ⟨r, fun cfg h args ha => ?_, h4⟩
  have hm : md 15 = 3 := rfl
  have hnt : noText [rl t, .int .i64 base] = false := by
    cases t with
    | nil => exact absurd rfl hne
    | cons a t => rfl
  have hp : p15 ⟨0, none, 0⟩ [rl t, .int .i64 base] [] = some (r', h') := (p15_yes hnt _ _).trans h1
  have hK : K pL (d + 1) ⟨0, none, 0⟩ 15 [rl t, .int .i64 base] [] = some (r', h') := (callN_prim pL_15 _ _ _).trans hp
  simp only [callM, hm, ha, hK, h2, h3, if_true]
def isNo : Option (V × Heap) → Bool
  | some (r, h) => own h 6 r && (match frz h 0 6 r with
    | some (.lst []) => true
    | _ => false)
  | none => false
theorem no_at {base : Int} (h : isNo (callN Try.prog md0 (fun _ => none) 10000 40 ⟨0, none, 0⟩ 15 [.lst [], .int .i64 base] []) = true) (d : Nat) (cfg : Cfg) (H : Heap) (args : List V) (ha : args.mapM (frzA H) = some [.lst [], .int .i64 base]) : callM md (K pL (d + 1)) cfg 15 args H = some (.lst [], H) := by
  have hm : md 15 = 3 := rfl
  have hK : K pL (d + 1) ⟨0, none, 0⟩ 15 [.lst [], .int .i64 base] [] = callN Try.prog md0 (fun _ => none) 10000 40 ⟨0, none, 0⟩ 15 [.lst [], .int .i64 base] [] := (callN_prim pL_15 _ _ _).trans (p15_no rfl _ _)
  generalize callN Try.prog md0 (fun _ => none) 10000 40 ⟨0, none, 0⟩ 15 [.lst [], .int .i64 base] [] = x at h hK
  unfold isNo at h
  split at h
  · rename_i r h'
    rw [Bool.and_eq_true] at h
    obtain ⟨h2, h3⟩ := h
    split at h3
    · rename_i hf
      simp only [callM, hm, ha, hK, h2, hf, if_true]
    · cases h3
  · cases h
theorem no_0 : isNo (callN Try.prog md0 (fun _ => none) 10000 40 ⟨0, none, 0⟩ 15 [.lst [], .int .i64 0] []) = true := by kernel_rfl
theorem no_1 : isNo (callN Try.prog md0 (fun _ => none) 10000 40 ⟨0, none, 0⟩ 15 [.lst [], .int .i64 1] []) = true := by kernel_rfl
theorem awakeL (d : Nat) (cfg : Cfg) (h : Heap) : callM md (K pL (d + 1)) cfg 17 [] h = some (.bool true, h) := by kernel_rfl
end Bi
end Go.Ab
/- Levels of the empty text, for any base. -/
namespace Go.Ab
open Go.Proofs
namespace Bi
theorem cls0 : callM md0 (callN Try.prog md0 (fun _ => none) 10000 38) ⟨0, none, 0⟩ 26 [.lst []] [] = some (.sl 0 0 0 0 1, [some []]) := by kernel_rfl
theorem cls1 : callM md0 (callN Try.prog md0 (fun _ => none) 10000 39) ⟨0, none, 0⟩ 26 [.lst []] [] = some (.sl 0 0 0 0 1, [some []]) := by kernel_rfl
theorem mat0 : callM md0 (callN Try.prog md0 (fun _ => none) 10000 38) ⟨0, none, 0⟩ 28 [.sl 0 0 0 0 1] [some []] = some (.lst [], [some []]) := by kernel_rfl
theorem fst0 : callM md0 (callN Try.prog md0 (fun _ => none) 10000 38) ⟨0, none, 0⟩ 54 [.sl 0 0 0 0 1, .lst [], .int .i64 0, .int .i64 0] [some []] = some (.int .i64 0, [some []]) := by kernel_rfl
theorem mat1 (cfg : Cfg) : callM md0 (callN Try.prog md0 (fun _ => none) 10000 39) cfg 28 [.sl 0 0 0 0 1] [some [], some []] = some (.lst [], [some [], some []]) := by kernel_rfl
theorem clo1 : callM md0 (callN Try.prog md0 (fun _ => none) 10000 39) ⟨1, none, 1⟩ 27 [.sl 0 0 0 0 1] [some []] = some (.sl 1 0 0 0 1, [some [], some []]) := by kernel_rfl
theorem base_no (base : Int) (h0 : base ≠ 0) (h1 : base ≠ 1) (cfg : Cfg) (h : Heap) : callM md0 (callN Try.prog md0 (fun _ => none) 10000 39) cfg 29 [.lst [], .int .i64 base] h = some (.int .i64 0, h) := by
  refine call3 (md := md0) rfl rfl Try.func29 rfl rfl rfl (args' := [.lst [], .int .i64 base]) rfl ?_
  simp (disch := omega) [h0, h1, cls0, mat0, fst0, own]
abbrev H0 : Heap := [some [], some [], some [], some [.lst [], .sl 0 0 0 0 1, .sl 1 0 0 0 1, .lst [], .sl 2 0 0 0 1, .int .i64 0]]
theorem exp1 : callM md0 (callN Try.prog md0 (fun _ => none) 10000 39) ⟨0, none, 0⟩ 30 [.ptr 3 0] H0 = some (.tup [], H0) := by kernel_rfl
theorem seq1 : callM md0 (callN Try.prog md0 (fun _ => none) 10000 39) ⟨0, none, 0⟩ 31 [.ptr 3 0] H0 = some (.lst [], H0) := by kernel_rfl
theorem no_any (base : Int) (hb0 : base ≠ 0) (hb1 : base ≠ 1) : isNo (callN Try.prog md0 (fun _ => none) 10000 40 ⟨0, none, 0⟩ 15 [.lst [], .int .i64 base] []) = true := by
  obtain ⟨r, h', h1, h2⟩ := callN_of (P := Try.prog) (md := md0) (prim := fun _ => none) (n := 10000) (cfg := ⟨0, none, 0⟩) (d := 39) (args := [.lst [], .int .i64 base]) (h := []) (R := fun r h' => isNo (some (r, h')) = true) rfl Try.func15 rfl rfl rfl (by
    have hBs := base_no base hb0 hb1
    simp (disch := omega) [cls1]
    refine wC_draw 12 (by kernel_rfl) ?_
    have hm27 : md0 27 = 2 := rfl
    have hm28 : md0 28 = 0 := rfl
    have hm29 : md0 29 = 3 := rfl
    simp (disch := omega) [clo1, mat1, hBs, hm27, hm28, hm29]
    simp (disch := omega) [zerosFor, exp1, seq1]
    refine wC_loop (fun _ fr H => H = H0 ∧ Slots 133 [(0, .lst []), (5, .sl 0 0 0 0 1), (6, .ptr 3 0), (34, .lst []), (35, .int .i64 0), (36, .int .i64 0)] fr) (m := 0) (by omega) ⟨rfl, by simp⟩ ?_
    rintro m fr H ⟨rfl, hs⟩
    obtain ⟨j, rfl⟩ := hs.ex
    clear hs
    simp (disch := omega)
    refine wC_loop (fun _ fr H => H = H0 ∧ Slots 133 [(0, .lst []), (5, .sl 0 0 0 0 1), (6, .ptr 3 0), (53, .lst []), (54, .int .i64 0), (55, .int .i64 0)] fr) (m := 0) (by omega) ⟨rfl, by simp⟩ ?_
    rintro m fr H ⟨rfl, hs⟩
    obtain ⟨j, rfl⟩ := hs.ex
    clear hs
    simp (disch := omega) [wrap64]
    refine wC_loop (fun _ fr H => H = H0 ∧ Slots 133 [(0, .lst []), (5, .sl 0 0 0 0 1), (6, .ptr 3 0), (10, .bool true), (11, .int .i64 (-1))] fr) (m := 0) (by omega) ⟨rfl, by simp⟩ ?_
    rintro m fr H ⟨rfl, hs⟩
    obtain ⟨j, rfl⟩ := hs.ex
    clear hs
    simp (disch := omega)
    rfl)
  rw [h1]
  exact h2
theorem no_all (base : Int) : isNo (callN Try.prog md0 (fun _ => none) 10000 40 ⟨0, none, 0⟩ 15 [.lst [], .int .i64 base] []) = true := by
  by_cases h0 : base = 0
  · subst h0; exact no_0
  · by_cases h1 : base = 1
    · subst h1; exact no_1
    · exact no_any base h0 h1
end Bi
end Go.Ab
/- No place lies in two sequences. -/
namespace Go.Ab.Bi
theorem mscan_add : ∀ (r : List Int) (d d' q : Nat), mscan r d = some q → mscan r (d + d' + 1) = (mscan (r.drop (q + 1)) d').map (· + (q + 1))
  | [], _, _, _, h => by simp [mscan] at h
  | x :: r, d, d', q, h => by
    by_cases hx : ini x = true
    · rw [mscan_ini hx] at h ⊢
      obtain ⟨k, hk, rfl⟩ := Option.map_eq_some_iff.1 h
      rw [show d + d' + 1 + 1 = (d + 1) + d' + 1 by omega, mscan_add r (d + 1) d' k hk, List.drop_succ_cons, Option.map_map]
      congr 1
    · have hx' : ini x = false := by simpa using hx
      by_cases h2 : x = 22
      · subst h2
        cases d with
        | zero =>
          rw [mscan_pd0] at h
          cases h
          rw [Nat.zero_add, mscan_pdS]
          rfl
        | succ d =>
          rw [mscan_pdS] at h
          obtain ⟨k, hk, rfl⟩ := Option.map_eq_some_iff.1 h
          rw [show d + 1 + d' + 1 = (d + d' + 1) + 1 by omega, mscan_pdS, mscan_add r d d' k hk, List.drop_succ_cons, Option.map_map]
          congr 1
      · rw [mscan_oth hx' h2] at h ⊢
        obtain ⟨k, hk, rfl⟩ := Option.map_eq_some_iff.1 h
        rw [mscan_add r d d' k hk, List.drop_succ_cons, Option.map_map]
        congr 1
theorem mscan_skip : ∀ (u : Nat) (r : List Int) (d a : Nat), mscan r d = some a → u ≤ a → ∃ D, (mscan (r.drop u) D).map (· + u) = some a
  | 0, r, d, a, h, _ => ⟨d, by simpa using h⟩
  | u + 1, [], d, a, h, _ => by simp [mscan] at h
  | u + 1, x :: r, d, a, h, hu => by
    have key : ∀ D, (mscan r D).map (· + 1) = some a → ∃ D, (mscan ((x :: r).drop (u + 1)) D).map (· + (u + 1)) = some a := by
      intro D hD
      obtain ⟨k, hk, rfl⟩ := Option.map_eq_some_iff.1 hD
      obtain ⟨D', hD'⟩ := mscan_skip u r D k hk (by omega)
      obtain ⟨j, hj, hjk⟩ := Option.map_eq_some_iff.1 hD'
      exact ⟨D', by rw [List.drop_succ_cons, hj]; simp; omega⟩
    by_cases hx : ini x = true
    · rw [mscan_ini hx] at h
      exact key _ h
    · have hx' : ini x = false := by simpa using hx
      by_cases h2 : x = 22
      · subst h2
        cases d with
        | zero => rw [mscan_pd0] at h; cases h; omega
        | succ d => rw [mscan_pdS] at h; exact key _ h
      · rw [mscan_oth hx' h2] at h
        exact key _ h
theorem mt_lt2 {c : List Int} {z z' : Nat} (hlt : z < z') {m : Nat} (h1 : mt c z = m) (h2 : mt c z' = m) {x : Int} (hx : c[z']? = some x) (hi : ini x = true) : False := by
  unfold mt at h1 h2
  cases ha : mscan (c.drop (z + 1)) 0 with
  | none => rw [ha] at h1; simp only at h1; omega
  | some a =>
    cases hb : mscan (c.drop (z' + 1)) 0 with
    | none => rw [hb] at h2; simp only at h2; omega
    | some b =>
      rw [ha] at h1
      rw [hb] at h2
      simp only at h1 h2
      obtain ⟨u, rfl⟩ : ∃ u, z' = z + 1 + u := ⟨z' - (z + 1), by omega⟩
      obtain ⟨D, hD⟩ := mscan_skip u _ 0 a ha (by omega)
      obtain ⟨hl, rfl⟩ := List.getElem?_eq_some_iff.1 hx
      rw [List.drop_drop, List.drop_eq_getElem_cons hl, mscan_ini hi] at hD
      have := mscan_add (c.drop (z + 1 + u + 1)) 0 D b hb
      rw [show 0 + D + 1 = D + 1 by omega] at this
      rw [this] at hD
      cases hc : mscan (List.drop (b + 1) (List.drop (z + 1 + u + 1) c)) D with
      | none => rw [hc] at hD; simp at hD
      | some q => rw [hc] at hD; simp at hD; omega
/-- Two runs are not followed by the same run. -/
theorem fol_inj {o M : List Int} {rs : List (List Int)} (hM : MOK o M) (hp : rs.flatten.Pairwise (· < ·)) (hn : ∀ x ∈ rs.flatten, 0 ≤ x ∧ x < o.length) {j j' : Nat} (hj : j < rs.length) (hj' : j' < rs.length) (h : fol o M rs j = fol o M rs j') (h0 : 0 ≤ fol o M rs j) : j = j' := by
  have key : ∀ j, j < rs.length → 0 ≤ fol o M rs j → ∃ z : Int, z ∈ rs.getD j [] ∧ 0 ≤ z ∧ z < o.length ∧ ini (o.getD z.toNat 0) = true ∧ ∃ m : Nat, mt o z.toNat = m ∧ ∃ k r, fol o M rs j = (k : Nat) ∧ rs[k]? = some r ∧ r.head? = some (m : Int) := by
    intro j hj h0
    unfold fol at h0 ⊢
    have hd : rs.getD j [] = rs[j] := by rw [List.getD_eq_getElem?_getD, List.getElem?_eq_getElem hj]; rfl
    rw [hd] at h0 ⊢
    cases hz : rs[j].getLast? with
    | none => rw [hz] at h0; simp at h0
    | some z =>
      rw [hz] at h0
      simp only at h0 ⊢
      have hzm : z ∈ rs[j] := List.mem_of_getLast? hz
      have hzf : z ∈ rs.flatten := List.mem_flatten.2 ⟨_, List.getElem_mem hj, hzm⟩
      have hzr := hn z hzf
      split at h0
      · rename_i hc
        rw [if_pos hc]
        rw [Bool.and_eq_true, decide_eq_true_eq] at hc
        have ho : o[z.toNat]? = some (o.getD z.toNat 0) := by rw [List.getD_eq_getElem?_getD, List.getElem?_eq_getElem (by omega)]; rfl
        have hm := hM.at_ z.toNat _ ho hc.1
        have hmg : M.getD z.toNat 0 = mt o z.toNat := by rw [List.getD_eq_getElem?_getD, hm]; rfl
        rw [hmg] at hc h0 ⊢
        obtain ⟨m, hm2⟩ : ∃ m : Nat, mt o z.toNat = m := ⟨(mt o z.toNat).toNat, by omega⟩
        cases hb : bgn rs (mt o z.toNat) with
        | none => rw [hb] at h0; simp at h0
        | some k =>
          obtain ⟨r, h3, h4⟩ := bgn_some hb
          exact ⟨z, hzm, hzr.1, hzr.2, hc.1, m, hm2, k, r, rfl, h3, by rw [h4, hm2]⟩
      · omega
  obtain ⟨z, hz1, hz2, hz3, hz4, m, hz5, k, r, hz6, hz7, hz8⟩ := key j hj h0
  obtain ⟨z', hy1, hy2, hy3, hy4, m', hy5, k', r', hy6, hy7, hy8⟩ := key j' hj' (h ▸ h0)
  have hk : k = k' := by omega
  subst hk
  rw [hz7] at hy7
  cases hy7
  rw [hz8] at hy8
  have hmm : m = m' := by simpa using hy8
  subst hmm
  have ho : ∀ z : Int, 0 ≤ z → z < o.length → o[z.toNat]? = some (o.getD z.toNat 0) := fun z _ _ => by rw [List.getD_eq_getElem?_getD, List.getElem?_eq_getElem (by omega)]; rfl
  have hzz : z = z' := by
    rcases Int.lt_trichotomy z z' with h1 | h1 | h1
    · exact (mt_lt2 (by omega : z.toNat < z'.toNat) hz5 hy5 (ho z' hy2 hy3) hy4).elim
    · exact h1
    · exact (mt_lt2 (by omega : z'.toNat < z.toNat) hy5 hz5 (ho z hz2 hz3) hz4).elim
  subst hzz
  have hd : ∀ j (hj : j < rs.length), rs.getD j [] = rs[j] := fun j hj => by rw [List.getD_eq_getElem?_getD, List.getElem?_eq_getElem hj]; rfl
  rw [hd j hj] at hz1
  rw [hd j' hj'] at hy1
  obtain ⟨p1, p2⟩ := List.pairwise_flatten.1 hp
  rcases Nat.lt_trichotomy j j' with h1 | h1 | h1
  · have := List.pairwise_iff_getElem.1 p2 j j' hj hj' h1 z hz1 z hy1; omega
  · exact h1
  · have := List.pairwise_iff_getElem.1 p2 j' j hj' hj h1 z hy1 z hz1; omega
/-- The runs of a chain. -/
def chI (F : Nat → Int) : Nat → Int → List Nat
  | 0, _ => []
  | f + 1, j => if 0 ≤ j then j.toNat :: chI F f (F j.toNat) else []
theorem chI_chn (F : Nat → Int) (rs : List (List Int)) : ∀ (f : Nat) (j : Int) (x : Int), x ∈ chn F rs f j → ∃ k ∈ chI F f j, x ∈ rs.getD k []
  | 0, _, x, h => by simp [chn] at h
  | f + 1, j, x, h => by
    unfold chn at h
    unfold chI
    split at h
    · rename_i hj
      rw [if_pos hj]
      rcases List.mem_append.1 h with h | h
      · exact ⟨_, List.mem_cons_self .., h⟩
      · obtain ⟨k, h1, h2⟩ := chI_chn F rs f _ x h
        exact ⟨k, List.mem_cons_of_mem _ h1, h2⟩
    · simp at h
/-- A run of a chain is its first, or follows one of it. -/
theorem chI_step (F : Nat → Int) : ∀ (f : Nat) (j : Int) (k : Nat), k ∈ chI F f j → (k : Int) = j ∨ ∃ q ∈ chI F f j, F q = (k : Int)
  | 0, _, k, h => by simp [chI] at h
  | f + 1, j, k, h => by
    unfold chI at h ⊢
    split at h
    · rename_i hj
      rw [if_pos hj]
      rcases List.mem_cons.1 h with h | h
      · left; omega
      · right
        rcases chI_step F f _ k h with h1 | ⟨q, h1, h2⟩
        · exact ⟨j.toNat, List.mem_cons_self .., h1.symm⟩
        · exact ⟨q, List.mem_cons_of_mem _ h1, h2⟩
    · simp at h
theorem chI_lt {F : Nat → Int} {N : Nat} (hF : ∀ j, j < N → F j < 0 ∨ ((j : Int) < F j ∧ F j < N)) : ∀ (f : Nat) (j : Int), j < N → ∀ k ∈ chI F f j, k < N
  | 0, _, _, k, h => by simp [chI] at h
  | f + 1, j, hj, k, h => by
    unfold chI at h
    split at h
    · rcases List.mem_cons.1 h with h | h
      · omega
      · refine chI_lt hF f _ ?_ k h
        have := hF j.toNat (by omega)
        omega
    · simp at h
theorem chI_one {F : Nat → Int} {N : Nat} (hF : ∀ j, j < N → F j < 0 ∨ ((j : Int) < F j ∧ F j < N)) (hI : ∀ j j', j < N → j' < N → F j = F j' → 0 ≤ F j → j = j') {a b f : Nat} (ha : a < N) (hb : b < N) (hca : con F N a = false) (hcb : con F N b = false) :
    ∀ (n k : Nat), k ≤ n → k ∈ chI F f a → k ∈ chI F f b → a = b
  | n, k, hkn, h1, h2 => by
    have hno : ∀ c, c < N → con F N c = false → ∀ q, q < N → F q ≠ (c : Int) := by
      intro c hc hcc q hq e
      have : con F N c = true := by
        unfold con
        rw [List.any_eq_true]
        exact ⟨q, by simpa using hq, by simpa using e⟩
      rw [hcc] at this
      cases this
    rcases chI_step F f a k h1 with e1 | ⟨q1, hq1, e1⟩
    · rcases chI_step F f b k h2 with e2 | ⟨q2, hq2, e2⟩
      · omega
      · exact (hno a ha hca q2 (chI_lt hF f b (by omega) q2 hq2) (by omega)).elim
    · rcases chI_step F f b k h2 with e2 | ⟨q2, hq2, e2⟩
      · exact (hno b hb hcb q1 (chI_lt hF f a (by omega) q1 hq1) (by omega)).elim
      · have l1 := chI_lt hF f a (by omega) q1 hq1
        have l2 := chI_lt hF f b (by omega) q2 hq2
        have hq : q1 = q2 := hI q1 q2 l1 l2 (by omega) (by omega)
        subst hq
        have hlt := hF q1 l1
        have hqk : q1 < k := by omega
        cases n with
        | zero => omega
        | succ n => exact chI_one hF hI ha hb hca hcb n q1 (by omega) hq1 hq2
end Go.Ab.Bi
