/- The plain law of comparing two texts' bytes. -/
import Derived.Lib.Bytealg
namespace Go.Proofs.Ytkeheaempbmmaaa
namespace ord
open Go.Lib
theorem cmp_nil_cons (a : UInt8) (s : List UInt8) : compareBytes [] (a :: s) = -1 := rfl
theorem cmp_cons_nil (a : UInt8) (s : List UInt8) : compareBytes (a :: s) [] = 1 := rfl
theorem cmp_cons (a b : UInt8) (s t : List UInt8) : compareBytes (a :: s) (b :: t) = if a < b then -1 else if b < a then 1 else compareBytes s t := rfl
theorem cmp_same (a : UInt8) (s t : List UInt8) : compareBytes (a :: s) (a :: t) = compareBytes s t := by
  rw [cmp_cons]
  simp
theorem cmp_lt {a b : UInt8} (h : a < b) (s t : List UInt8) : compareBytes (a :: s) (b :: t) = -1 := by
  rw [cmp_cons, if_pos h]
theorem cmp_gt {a b : UInt8} (h : b < a) (s t : List UInt8) : compareBytes (a :: s) (b :: t) = 1 := by
  rw [cmp_cons, if_neg (fun h' => absurd h (by
    have h1 := UInt8.lt_iff_toNat_lt.1 h'
    intro h2
    have h3 := UInt8.lt_iff_toNat_lt.1 h2
    omega)), if_pos h]
theorem cmp_cases (a b : UInt8) : a < b ∨ b < a ∨ a = b := by
  rcases Nat.lt_trichotomy a.toNat b.toNat with h | h | h
  · exact Or.inl (UInt8.lt_iff_toNat_lt.2 h)
  · exact Or.inr (Or.inr (UInt8.toNat_inj.1 h))
  · exact Or.inr (Or.inl (UInt8.lt_iff_toNat_lt.2 h))
theorem cmp_three : ∀ a b : List UInt8, compareBytes a b = -1 ∨ compareBytes a b = 0 ∨ compareBytes a b = 1
  | [], [] => Or.inr (Or.inl rfl)
  | [], _ :: _ => Or.inl rfl
  | _ :: _, [] => Or.inr (Or.inr rfl)
  | a :: s, b :: t => by
    rcases cmp_cases a b with h | h | rfl
    · exact Or.inl (cmp_lt h s t)
    · exact Or.inr (Or.inr (cmp_gt h s t))
    · rw [cmp_same]; exact cmp_three s t
theorem cmp_neg : ∀ a b : List UInt8, compareBytes b a = - compareBytes a b
  | [], [] => rfl
  | [], _ :: _ => rfl
  | _ :: _, [] => rfl
  | a :: s, b :: t => by
    rcases cmp_cases a b with h | h | rfl
    · rw [cmp_lt h, cmp_gt h]; rfl
    · rw [cmp_gt h, cmp_lt h]
    · rw [cmp_same, cmp_same]; exact cmp_neg s t
theorem cmp_end (a b : List UInt8) (i : Nat) (hi : i ≤ a.length) (hb : i ≤ b.length) (h : a.length ≤ i ∨ b.length ≤ i) : compareBytes (a.drop i) (b.drop i) = if a.length < b.length then -1 else if b.length < a.length then 1 else 0 := by
  by_cases h1 : a.length ≤ i
  · rw [List.drop_eq_nil_of_le h1]
    by_cases h2 : b.length ≤ i
    · rw [List.drop_eq_nil_of_le h2, if_neg (by omega), if_neg (by omega)]
      rfl
    · rw [List.drop_eq_getElem_cons (by omega), if_pos (by omega)]
      rfl
  · rw [List.drop_eq_nil_of_le (show b.length ≤ i by omega), List.drop_eq_getElem_cons (by omega), if_neg (by omega), if_pos (by omega)]
    rfl
end ord
end Go.Proofs.Ytkeheaempbmmaaa
