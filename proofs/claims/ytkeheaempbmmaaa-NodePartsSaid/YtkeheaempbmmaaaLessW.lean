/- The walk of the reference's Less. -/
import Derived.Test.YtkeheaempbmmaaaKit
import Derived.Test.YtkeheaempbmmaaaRows
import Derived.Test.YtkeheaempbmmaaaCmpP
import Derived.Deep.QuietTactic
import Derived.BigQuiet
namespace Go.Proofs.Ytkeheaempbmmaaa
open Go.RowKit
namespace ordw
open ord
theorem dr (s : ByteArray) (k : Nat) (h : k < s.size) : s.data.toList.drop k = s[k] :: s.data.toList.drop (k + 1) := by
  rw [List.drop_eq_getElem_cons (by rw [kt.size_len]; exact h)]
  rfl
set_option maxHeartbeats 1000000 in
theorem less_any (a b : ByteArray) (w : World) (ha : a.size ≤ 1000000) :
    Calls Try.prog 18 #[.string a, .string b] w fun e w' => e = .returned (.int .i64 (Lib.compareBytes a.data.toList b.data.toList)) ∧ ∃ n, w' = w.drewN n := by
  go_enter Try.func18, Try.ntmps18
  go_wp2_with fail
  go_loopw [5] (fun iv wr => ∃ (i : Nat), i ≤ a.size ∧ i ≤ b.size ∧ iv = .int .i64 i ∧ Hid (Lib.compareBytes a.data.toList b.data.toList = Lib.compareBytes (a.data.toList.drop i) (b.data.toList.drop i)) ∧ ∃ n, wr = w.drewN n) (fun iv _ => a.size - (intOf iv).toNat)
  case atStart => exact ⟨0, Nat.zero_le _, Nat.zero_le _, rfl, rfl, 0, rfl⟩
  case round =>
    obtain ⟨i, hia, hib, rfl, hE, n, rfl⟩ := hrel
    by_cases h : i < a.size ∧ i < b.size
    · obtain ⟨h1, h2⟩ := h
      have h1' : (i : Int) < (a.size : Int) := by omega
      have h2' : (i : Int) < (b.size : Int) := by omega
      obtain ⟨x, hx⟩ : ∃ x : UInt8, Hid (x = a[i]'h1) := ⟨a[i]'h1, rfl⟩
      obtain ⟨y, hy⟩ : ∃ y : UInt8, Hid (y = b[i]'h2) := ⟨b[i]'h2, rfl⟩
      have ex : (a[i]'h1).toNat = x.toNat := by rw [hx.out]
      have ey : (b[i]'h2).toNat = y.toNat := by rw [hy.out]
      have he := hE.out
      rw [dr a i h1, dr b i h2, ← hx.out, ← hy.out] at he
      rcases cmp_cases x y with c | c | c
      · rw [cmp_lt c] at he
        have HE := Lib.hid he
        have c' : (x.toNat : Int) < (y.toNat : Int) := by have := UInt8.lt_iff_toNat_lt.1 c; omega
        clear he c
        go_wp2_with fail
        go_quiet (fail)
        go_wp2_with fail
        go_ret
        exact ⟨by rw [HE.out]; rfl, _, World.drewN_drewN _ _ _⟩
      · rw [cmp_gt c] at he
        have HE := Lib.hid he
        have c' : ¬ (x.toNat : Int) < (y.toNat : Int) := by have := UInt8.lt_iff_toNat_lt.1 c; omega
        have c'' : (y.toNat : Int) < (x.toNat : Int) := by have := UInt8.lt_iff_toNat_lt.1 c; omega
        clear he c
        go_wp2_with fail
        go_quiet (fail)
        go_wp2_with fail
        go_quiet (fail)
        go_wp2_with fail
        go_ret
        exact ⟨by rw [HE.out]; rfl, _, by rw [World.drewN_drewN, World.drewN_drewN]⟩
      · subst c
        rw [cmp_same] at he
        have HE := Lib.hid he
        have c' : ¬ (x.toNat : Int) < (x.toNat : Int) := by omega
        have hh1 := Lib.hid h1
        have hh2 := Lib.hid h2
        clear he
        go_wp2_with fail
        go_quiet (fail)
        go_wp2_with fail
        go_quiet (fail)
        go_wp2_with fail
        go_roundw
        case rel => exact ⟨i + 1, hh1.out, hh2.out, by go_num, HE, _, rfl⟩
        case measure =>
          have := hh1.out
          simp [intOf]; omega
    · have he := hE.out
      rw [cmp_end _ _ i (by rw [kt.size_len]; exact hia) (by rw [kt.size_len]; exact hib) (by rw [kt.size_len, kt.size_len]; omega), kt.size_len, kt.size_len] at he
      have hq : (decide ((i : Int) < (a.size : Int)) && decide ((i : Int) < (b.size : Int))) = false := by
        rw [Bool.and_eq_false_iff, decide_eq_false_iff_not, decide_eq_false_iff_not]
        omega
      by_cases l1 : a.size < b.size
      · rw [if_pos l1] at he
        have HE := Lib.hid he
        have l1' : (a.size : Int) < (b.size : Int) := by omega
        have i1 : ¬ (i : Int) < (a.size : Int) := by omega
        clear he h
        go_wp2_with fail
        go_ret
        exact ⟨by rw [HE.out]; rfl, _, rfl⟩
      · rw [if_neg l1] at he
        have l1' : ¬ (a.size : Int) < (b.size : Int) := by omega
        by_cases l2 : b.size < a.size
        · rw [if_pos l2] at he
          have HE := Lib.hid he
          have l2' : (b.size : Int) < (a.size : Int) := by omega
          have i1 : (i : Int) < (a.size : Int) := by omega
          have i2 : ¬ (i : Int) < (b.size : Int) := by omega
          clear he h
          go_wp2_with fail
          go_ret
          exact ⟨by rw [HE.out]; rfl, _, rfl⟩
        · rw [if_neg l2] at he
          have HE := Lib.hid he
          have l2' : ¬ (b.size : Int) < (a.size : Int) := by omega
          have i1 : ¬ (i : Int) < (a.size : Int) := by omega
          clear he h
          go_wp2_with fail
          go_ret
          exact ⟨by rw [HE.out]; rfl, _, rfl⟩
end ordw
end Go.Proofs.Ytkeheaempbmmaaa
