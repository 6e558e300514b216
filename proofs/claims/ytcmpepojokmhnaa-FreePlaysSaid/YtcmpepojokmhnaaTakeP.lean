/- The plain law of what is taken where a number, a text stands. -/
import Derived.Test.YtcmpepojokmhnaaFieldP
namespace Go.Proofs.Ytcmpepojokmhnaa
namespace fld
set_option linter.unusedVariables false
theorem take_at {s rest : List UInt8} {a n k : Nat} (h : s.drop a = be n k ++ rest) (hn : n < 256 ^ k) (h1 : 1 ≤ k) (h8 : k ≤ 8) : take s (a : Int) (k : Int) = .ok n := by
  have hl : s.length - a = k + rest.length := by rw [← List.length_drop, h, List.length_append, be_length]
  unfold take
  rw [if_neg (by omega), if_neg (by omega), Int.toNat_natCast, Int.toNat_natCast, h, List.take_append_of_le_length (by rw [be_length]; exact Nat.le_refl _), List.take_of_length_le (by rw [be_length]; exact Nat.le_refl _), num_be, Nat.mod_eq_of_lt hn]
theorem takeT_at {s t rest : List UInt8} {a : Nat} (h : s.drop a = be t.length 2 ++ (t ++ rest)) (hn : t.length < 65536) : takeT s (a : Int) = .ok (t, a + 2 + t.length) := by
  have hl : s.length - a = 2 + (t.length + rest.length) := by rw [← List.length_drop, h, List.length_append, List.length_append, be_length]
  have p2 : (256 : Nat) ^ 2 = 65536 := by decide
  have ht : take s (a : Int) 2 = .ok t.length := take_at (k := 2) h (by omega) (by omega) (by omega)
  unfold takeT
  rw [ht]
  simp only [Int.toNat_natCast]
  rw [if_neg (by omega)]
  have hd : s.drop (a + 2) = t ++ rest := by
    rw [← List.drop_drop, h, List.drop_append_of_le_length (by rw [be_length]; exact Nat.le_refl _), List.drop_of_length_le (by rw [be_length]; exact Nat.le_refl _)]
    rfl
  rw [hd, List.take_append_of_le_length (Nat.le_refl _), List.take_of_length_le (Nat.le_refl _)]
theorem drop_more {s x y : List UInt8} {a b : Nat} (h : s.drop a = x ++ y) (hb : b = a + x.length) : s.drop b = y := by
  rw [hb, ← List.drop_drop, h, List.drop_append_of_le_length (Nat.le_refl _), List.drop_of_length_le (Nat.le_refl _)]
  rfl
/-- a number that is taken, or nought -/
def num0 (o : Except Int Nat) : Nat := match o with
  | .ok n => n
  | .error _ => 0
theorem take_ok {s : List UInt8} {a k : Nat} (h1 : 1 ≤ k) (h8 : k ≤ 8) (h : a + k ≤ s.length) : take s (a : Int) (k : Int) = .ok (num ((s.drop a).take k)) := by
  unfold take
  rw [if_neg (by omega), if_neg (by omega), Int.toNat_natCast, Int.toNat_natCast]
theorem take_no {s : List UInt8} {a k : Nat} (h1 : 1 ≤ k) (h8 : k ≤ 8) (h : s.length < a + k) : take s (a : Int) (k : Int) = .error 3 := by
  unfold take
  rw [if_neg (by omega), if_pos (by omega)]
theorem be_taken {s : List UInt8} {a k : Nat} (h : a + k ≤ s.length) : be (num ((s.drop a).take k)) k = (s.drop a).take k := by
  have hl : ((s.drop a).take k).length = k := by rw [List.length_take, List.length_drop]; omega
  have := be_num ((s.drop a).take k)
  rwa [hl] at this
theorem num_taken (s : List UInt8) (a k : Nat) : num ((s.drop a).take k) < 256 ^ k := num_le (by rw [List.length_take]; omega)
end fld
end Go.Proofs.Ytcmpepojokmhnaa
