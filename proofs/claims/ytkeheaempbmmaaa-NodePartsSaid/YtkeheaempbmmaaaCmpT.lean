/- The comparison of bytes is an order: in a row. -/
import Derived.Test.YtkeheaempbmmaaaCmpP
namespace Go.Proofs.Ytkeheaempbmmaaa
namespace ord
open Go.Lib
theorem u8_trans {a b c : UInt8} (h : a < b) (k : b < c) : a < c := by
  have h1 := UInt8.lt_iff_toNat_lt.1 h
  have h2 := UInt8.lt_iff_toNat_lt.1 k
  exact UInt8.lt_iff_toNat_lt.2 (by omega)
theorem cmp_trans : ∀ {a b c : List UInt8}, compareBytes a b = -1 → compareBytes b c = -1 → compareBytes a c = -1
  | [], [], _, h, _ => by cases h
  | [], _ :: _, [], _, h => by cases h
  | [], _ :: _, _ :: _, _, _ => rfl
  | _ :: _, [], _, h, _ => by cases h
  | _ :: _, _ :: _, [], _, h => by cases h
  | a :: s, b :: t, c :: u, h, k => by
    rcases cmp_cases a b with h1 | h1 | rfl
    · rcases cmp_cases b c with k1 | k1 | rfl
      · exact cmp_lt (u8_trans h1 k1) _ _
      · rw [cmp_gt k1] at k; cases k
      · exact cmp_lt h1 _ _
    · rw [cmp_gt h1] at h; cases h
    · rcases cmp_cases a c with k1 | k1 | rfl
      · exact cmp_lt k1 _ _
      · rw [cmp_gt k1] at k; cases k
      · rw [cmp_same] at h k ⊢
        exact cmp_trans h k
end ord
end Go.Proofs.Ytkeheaempbmmaaa
