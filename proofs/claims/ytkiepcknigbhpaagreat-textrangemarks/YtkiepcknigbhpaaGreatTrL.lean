/- Decoded runes are scalar values. -/
import Derived.Test.YtkiepcknigbhpaaGreatTrE
namespace Go.Ab
open Go.Proofs
namespace Tr
theorem scal_of_valid {c : Nat} (h : Utf8.valid c = true) : scal (c : Int) = true := by
  simp only [Utf8.valid, Bool.or_eq_true, Bool.and_eq_true, decide_eq_true_eq] at h
  simp only [scal, Bool.and_eq_true, Bool.or_eq_true, decide_eq_true_eq]
  omega
theorem scal_small {c : Nat} (h : c < 55296) : scal (c : Int) = true := by
  simp only [scal, Bool.and_eq_true, Bool.or_eq_true, decide_eq_true_eq]
  omega
theorem decode_scal (s : ByteArray) (i : Nat) : scal (Int.ofNat (Utf8.decode s i).1) = true := by
  have he : scal (Int.ofNat Utf8.runeError) = true := by decide
  unfold Utf8.decode
  simp only
  split
  · rename_i h; exact scal_small (by omega)
  · split
    · split
      · exact scal_small (by omega)
      · exact he
    · split
      · split
        · rename_i h
          simp only [Bool.and_eq_true] at h
          exact scal_of_valid h.2
        · exact he
      · split
        · split
          · rename_i h
            simp only [Bool.and_eq_true] at h
            exact scal_of_valid h.2
          · exact he
        · exact he
theorem runes_scal (s : ByteArray) : ∀ (n i : Nat), (runesOf s n i).all scal = true
  | 0, _ => rfl
  | n + 1, i => by
    simp only [runesOf]
    split
    · simp only [List.all_cons, Bool.and_eq_true]
      exact ⟨decode_scal s i, runes_scal s n _⟩
    · rfl
end Tr
end Go.Ab
