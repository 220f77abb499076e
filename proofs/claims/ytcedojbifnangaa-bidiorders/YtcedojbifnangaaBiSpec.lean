/- What the bidirectional algorithm computes, in plain Lean: matching, base, explicit levels. -/
import Derived.Test.YtcedojbifnangaaBiOrd
namespace Go.Ab.Bi

def ini (x : Int) : Bool := x == 19 || x == 20 || x == 21
def gone (x : Int) : Bool := x == 16 || x == 14 || x == 17 || x == 15 || x == 18 || x == 9

/-- How far the PDI is that closes, with d open isolates ahead. -/
def mscan : List Int → Nat → Option Nat
  | [], _ => none
  | x :: r, d =>
    if ini x then (mscan r (d + 1)).map (· + 1)
    else if x = 22 then match d with
      | 0 => some 0
      | d + 1 => (mscan r d).map (· + 1)
    else (mscan r d).map (· + 1)

theorem mscan_lt : ∀ (l : List Int) (d m : Nat), mscan l d = some m → m < l.length
  | [], _, _, h => by simp [mscan] at h
  | x :: r, d, m, h => by
    simp only [mscan] at h
    split at h
    · obtain ⟨k, hk, rfl⟩ := Option.map_eq_some_iff.1 h
      have := mscan_lt r _ k hk
      simp; omega
    · split at h
      · cases d with
        | zero => cases h; simp
        | succ d =>
          obtain ⟨k, hk, rfl⟩ := Option.map_eq_some_iff.1 h
          have := mscan_lt r _ k hk
          simp; omega
      · obtain ⟨k, hk, rfl⟩ := Option.map_eq_some_iff.1 h
        have := mscan_lt r _ k hk
        simp; omega
/-- In the text's first part. -/
theorem mscan_take : ∀ (l : List Int) (k d : Nat), mscan (l.take k) d = match mscan l d with
    | some m => if m < k then some m else none
    | none => none
  | [], k, d => by simp [mscan]
  | x :: r, 0, d => by
    simp only [List.take_zero, mscan]
    cases (if ini x = true then Option.map (· + 1) (mscan r (d + 1)) else if x = 22 then match d with
      | 0 => some 0
      | d + 1 => Option.map (· + 1) (mscan r d) else Option.map (· + 1) (mscan r d)) <;> simp
  | x :: r, k + 1, d => by
    have ih := fun d => mscan_take r k d
    simp only [List.take_succ_cons, mscan]
    split
    · rw [ih]
      cases mscan r (d + 1) with
      | none => rfl
      | some m => simp only [Option.map_some]; split <;> split <;> first | rfl | omega
    · split
      · cases d with
        | zero => simp
        | succ d =>
          simp only [ih]
          cases mscan r d with
          | none => rfl
          | some m => simp only [Option.map_some]; split <;> split <;> first | rfl | omega
      · rw [ih]
        cases mscan r d with
        | none => rfl
        | some m => simp only [Option.map_some]; split <;> split <;> first | rfl | omega

/-- The first strong class: 1 if it is R or AL. -/
def fsL : Nat → List Int → Int
  | 0, _ => 0
  | _ + 1, [] => 0
  | n + 1, x :: r =>
    if x = 0 then 0 else if x = 1 ∨ x = 2 then 1
    else if ini x then match mscan r 0 with
      | some m => fsL n (r.drop (m + 1))
      | none => 0
    else fsL n r
def fs (l : List Int) : Int := fsL l.length l
theorem fsL_more : ∀ (n : Nat) (l : List Int), l.length ≤ n → fsL n l = fs l
  | 0, l, h => by
    obtain rfl : l = [] := List.length_eq_zero_iff.1 (by omega)
    rfl
  | n + 1, [], _ => rfl
  | n + 1, x :: r, h => by
    simp at h
    have h1 : fsL n r = fsL r.length r := fsL_more n r h
    unfold fs
    simp only [List.length_cons, fsL]
    split
    · rfl
    · split
      · rfl
      · split
        · cases hm : mscan r 0 with
          | none => rfl
          | some m =>
            simp only
            rw [fsL_more n _ (by simp; omega), fsL_more r.length _ (by simp)]
        · exact h1
theorem fs_nil : fs [] = 0 := rfl
theorem fs_cons (x : Int) (r : List Int) : fs (x :: r) = if x = 0 then 0 else if x = 1 ∨ x = 2 then 1 else if ini x then (match mscan r 0 with
    | some m => fs (r.drop (m + 1))
    | none => 0) else fs r := by
  unfold fs
  simp only [List.length_cons, fsL]
  split
  · rfl
  · split
    · rfl
    · split
      · cases hm : mscan r 0 with
        | none => rfl
        | some m =>
          simp only
          rw [fsL_more _ _ (by simp)]
          rfl
      · rfl
theorem fs_val : ∀ (n : Nat) (l : List Int), fsL n l = 0 ∨ fsL n l = 1
  | 0, _ => .inl rfl
  | _ + 1, [] => .inl rfl
  | n + 1, x :: r => by
    simp only [fsL]
    split
    · exact .inl rfl
    · split
      · exact .inr rfl
      · split
        · split
          · exact fs_val n _
          · exact .inl rfl
        · exact fs_val n r

/-- Where the matching PDI of the initiator at i stands, or -1. -/
def mt (c : List Int) (i : Nat) : Int := match mscan (c.drop (i + 1)) 0 with
  | some m => ((i + 1 + m : Nat) : Int)
  | none => -1

/-- An entry of the stack: level, override, isolate. -/
abbrev Ent := Int × Int × Bool
structure ES where
  st : List Ent
  iso : Nat
  emb : Nat
  val : Nat

def nxt (n : Int) (odd : Bool) : Int := if (n % 2 == 0) == odd then n + 1 else n + 2
def ovr (o x : Int) : Int := if 0 ≤ o then o else x
def topE : List Ent → Ent
  | [] => (0, -1, false)
  | a :: _ => a
/-- Entries are removed up to the last isolate. -/
def popI : List Ent → List Ent
  | [] => []
  | a :: r => if a.2.2 then r else popI r
/-- The class of an embedding's override. -/
def ovOf (x : Int) : Int := if x = 17 then 1 else if x = 15 then 0 else -1

def exStep (e x : Int) (odd : Bool) (s : ES) : Int × Int × ES :=
  if x = 16 ∨ x = 14 ∨ x = 17 ∨ x = 15 then
    (((topE s.st).1, x, if nxt (topE s.st).1 (decide (x = 16 ∨ x = 17)) ≤ 125 ∧ s.iso = 0 ∧ s.emb = 0 then { s with st := (nxt (topE s.st).1 (decide (x = 16 ∨ x = 17)), ovOf x, false) :: s.st }
      else if s.iso = 0 then { s with emb := s.emb + 1 } else s))
  else if ini x then
    ((topE s.st).1, ovr (topE s.st).2.1 x, if nxt (topE s.st).1 odd ≤ 125 ∧ s.iso = 0 ∧ s.emb = 0 then { s with st := (nxt (topE s.st).1 odd, -1, true) :: s.st, val := s.val + 1 } else { s with iso := s.iso + 1 })
  else if x = 22 then
    let s' : ES := if 0 < s.iso then { s with iso := s.iso - 1 } else if 0 < s.val then { s with st := popI s.st, emb := 0, val := s.val - 1 } else s
    ((topE s'.st).1, ovr (topE s'.st).2.1 x, s')
  else if x = 18 then
    ((topE s.st).1, x, if 0 < s.iso then s else if 0 < s.emb then { s with emb := s.emb - 1 } else if (topE s.st).2.2 = false ∧ 1 < s.st.length then { s with st := s.st.tail } else s)
  else if x = 10 then (e, x, s)
  else if x = 9 then ((topE s.st).1, x, s)
  else ((topE s.st).1, ovr (topE s.st).2.1 x, s)

/-- Is the isolate at the head of x :: r one from the right? -/
def oddI (x : Int) (r : List Int) : Bool :=
  if x = 20 then true
  else if x = 21 then decide (fs (match mscan r 0 with
    | some m => r.take m
    | none => r) = 1)
  else false
def exGo (e : Int) : List Int → ES → List (Int × Int)
  | [], _ => []
  | x :: r, s => ((exStep e x (oddI x r) s).1, (exStep e x (oddI x r) s).2.1) :: exGo e r (exStep e x (oddI x r) s).2.2
def es0 (e : Int) : ES := ⟨[(e, -1, false)], 0, 0, 0⟩
def expl (e : Int) (c : List Int) : List (Int × Int) := exGo e c (es0 e)
end Go.Ab.Bi
