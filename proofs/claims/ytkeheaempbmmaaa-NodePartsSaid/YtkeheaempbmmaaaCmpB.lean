/- The model's own order of texts, and the comparison of bytes. -/
import Derived.Test.YtkeheaempbmmaaaCmpP
import Derived.WalkKit
import Derived.Lib.Walk
namespace Go.Proofs.Ytkeheaempbmmaaa
namespace ord
open Go.Lib
theorem less_cmp : ∀ a b : List UInt8, Op.bytesLess a b = decide (compareBytes a b = -1)
  | [], [] => rfl
  | [], _ :: _ => rfl
  | _ :: _, [] => rfl
  | a :: s, b :: t => by
    rcases cmp_cases a b with h | h | rfl
    · rw [cmp_lt h]
      simp [Op.bytesLess, h]
    · rw [cmp_gt h]
      have hn : ¬ a < b := by
        intro h'
        have h1 := UInt8.lt_iff_toNat_lt.1 h
        have h2 := UInt8.lt_iff_toNat_lt.1 h'
        omega
      have hne : ¬ a = b := by rintro rfl; exact absurd (UInt8.lt_iff_toNat_lt.1 h) (by omega)
      simp [Op.bytesLess, hn, hne]
    · rw [cmp_same, ← less_cmp s t]
      simp [Op.bytesLess]
theorem cmp_zero : ∀ a b : List UInt8, compareBytes a b = 0 ↔ a = b
  | [], [] => by simp [compareBytes]
  | [], _ :: _ => by simp [compareBytes]
  | _ :: _, [] => by simp [compareBytes]
  | a :: s, b :: t => by
    rcases cmp_cases a b with h | h | rfl
    · rw [cmp_lt h]
      have : a ≠ b := by rintro rfl; exact absurd (UInt8.lt_iff_toNat_lt.1 h) (by omega)
      simp [this]
    · rw [cmp_gt h]
      have : a ≠ b := by rintro rfl; exact absurd (UInt8.lt_iff_toNat_lt.1 h) (by omega)
      simp [this]
    · rw [cmp_same, cmp_zero s t]
      simp
/-- the three ways, as the walk asks them -/
theorem ways (a b : ByteArray) :
    (compareBytes a.data.toList b.data.toList = -1 ∧ Op.bytesLess a.toList b.toList = true ∧ (a.toList == b.toList) = false ∧ Op.bytesLess b.toList a.toList = false) ∨
    (compareBytes a.data.toList b.data.toList = 0 ∧ a = b) ∨
    (compareBytes a.data.toList b.data.toList = 1 ∧ Op.bytesLess a.toList b.toList = false ∧ (a.toList == b.toList) = false ∧ Op.bytesLess b.toList a.toList = true) := by
  rw [Lib.toList_data, Lib.toList_data, less_cmp, less_cmp, cmp_neg a.data.toList b.data.toList]
  rcases cmp_three a.data.toList b.data.toList with h | h | h
  · left
    refine ⟨h, by rw [h]; rfl, ?_, by rw [h]; rfl⟩
    rw [beq_eq_false_iff_ne]
    intro e
    have := (cmp_zero _ _).2 e
    omega
  · right; left
    refine ⟨h, ?_⟩
    have e := (cmp_zero _ _).1 h
    cases a; cases b
    simp at e
    simp [e]
  · right; right
    refine ⟨h, by rw [h]; rfl, ?_, by rw [h]; rfl⟩
    rw [beq_eq_false_iff_ne]
    intro e
    have := (cmp_zero _ _).2 e
    omega
end ord
end Go.Proofs.Ytkeheaempbmmaaa
