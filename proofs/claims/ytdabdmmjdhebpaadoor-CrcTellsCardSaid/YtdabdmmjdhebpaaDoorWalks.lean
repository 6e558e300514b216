/- The walks of the sums' functions: what crc.On, its reference, and both Sums compute; the world is left alone. -/
import Derived.Test.YtdabdmmjdhebpaaDoorPlain
import Derived.Test.YtdabdmmjdhebpaaDoorRows
import Derived.WalkKit
import Derived.WalkSpells
import Derived.Lib.Hide
import Derived.Lib.LaidTab
namespace Go.Proofs.YtdabdmmjdhebpaaDoor
open Go.RowKit

theorem ret_int {k : IntKind} {a b : Int} (h : a = b) : Ending.returned (.int k a) = .returned (.int k b) := by rw [h]
theorem take_snoc (s : ByteArray) (k : Nat) (h : k < s.size) : s.data.toList.take (k + 1) = s.data.toList.take k ++ [s[k]] := by
  rw [List.take_succ_eq_append_getElem (by simpa using h)]; rfl
theorem u32_low (a : Nat) (ha : a < 4294967296) : bits .and .u32 (a : Int) 15 = ((a % 16 : Nat) : Int) := by
  have h := u32_and_nat a 15 ha (by omega)
  have e : a &&& 15 = a % 16 := Nat.and_two_pow_sub_one_eq_mod a 4
  rw [e] at h
  exact h
theorem u32_flip (a : Nat) (ha : a < 4294967296) : bits .xor .u32 IntKind.u32.max (a : Int) = ((4294967295 - a : Nat) : Int) := by
  have h := u32_xor_nat 4294967295 a (by omega) ha
  have e : 4294967295 ^^^ a = 4294967295 - a := by
    have h1 := BitVec.toNat_not (x := BitVec.ofNat 32 a)
    rw [← BitVec.allOnes_xor, BitVec.toNat_xor, BitVec.toNat_ofNat, BitVec.toNat_allOnes, Nat.mod_eq_of_lt (by omega)] at h1
    exact h1
  rw [e] at h
  exact h

/-- the table's cells -/
def Tab (w : World) : Prop := ∀ i, i < 16 → w.cell? ⟨0, i, none⟩ = some (.int .u32 (crcp.row.getD i 0 : Nat))

set_option maxHeartbeats 400000 in
theorem on_any (n : Nat) (hn : n < 4294967296) (s : ByteArray) (w : World) (hs : s.size ≤ maxLen) (ht : Hid (Tab w)) :
    Calls Tryd.prog 7 #[.int .u32 n, .string s] w fun e w' => e = .returned (.int .u32 (crcp.on n s.data.toList : Nat)) ∧ w = w' := by
  unfold maxLen at hs
  have f0 := u32_flip n hn
  go_enter Tryd.func7, Tryd.ntmps7
  go_wp2
  go_loop [5, 11] (fun r i => ∃ (k R : Nat), k ≤ s.size ∧ i = .int .i64 k ∧ r = .int .u32 R ∧ R < 4294967296 ∧ Hid (R = crcp.fed (4294967295 - n) (s.data.toList.take k))) (fun _ i => s.size - (intOf i).toNat)
  case atStart => exact ⟨0, _, Nat.zero_le _, rfl, rfl, by omega, rfl⟩
  case round =>
    obtain ⟨k, R, hk, rfl, rfl, hR, hF⟩ := hrel
    by_cases hlt : k < s.size
    · obtain ⟨x, hx⟩ : ∃ x : Nat, Hid (x = R ^^^ s[k].toNat) := ⟨R ^^^ s[k].toNat, rfl⟩
      have lx : x < 4294967296 := hx.out ▸ crcp.xor_lt hR s[k]
      have e0 : bits .xor .u32 (R : Int) (s[k].toNat : Int) = (x : Int) := hx.out ▸ u32_xor_nat R s[k].toNat hR (by have := s[k].toNat_lt; omega)
      obtain ⟨i1, hi1⟩ : ∃ i : Nat, Hid (i = x % 16) := ⟨_, Eq.refl _⟩
      have li1 : i1 < 16 := by have := hi1.out; omega
      have e1 : bits .and .u32 (x : Int) 15 = (i1 : Int) := hi1.out ▸ u32_low x lx
      obtain ⟨t1, ht1⟩ : ∃ t : Nat, Hid (t = crcp.row.getD i1 0) := ⟨_, Eq.refl _⟩
      have lt1 : t1 < 4294967296 := ht1.out ▸ crcp.row_lt i1 li1
      have c1 : w.cell? ⟨0, i1, none⟩ = some (.int .u32 t1) := by rw [ht1.out]; exact ht.out i1 li1
      obtain ⟨y, hy⟩ : ∃ y : Nat, Hid (y = x / 16 ^^^ t1) := ⟨_, Eq.refl _⟩
      have ly : y < 4294967296 := hy.out ▸ Nat.xor_lt_two_pow (n := 32) (by omega) (by omega)
      have e2 : bits .xor .u32 ((x : Int) / 16) (t1 : Int) = (y : Int) := by
        rw [show (x : Int) / 16 = ((x / 16 : Nat) : Int) from by omega, hy.out]; exact u32_xor_nat _ _ (by omega) lt1
      have ec : (s[k].toNat : Int) % 4294967296 = (s[k].toNat : Int) := by have := s[k].toNat_lt; omega
      obtain ⟨i2, hi2⟩ : ∃ i : Nat, Hid (i = y % 16) := ⟨_, Eq.refl _⟩
      have li2 : i2 < 16 := by have := hi2.out; omega
      have e3 : bits .and .u32 (y : Int) 15 = (i2 : Int) := hi2.out ▸ u32_low y ly
      obtain ⟨t2, ht2⟩ : ∃ t : Nat, Hid (t = crcp.row.getD i2 0) := ⟨_, Eq.refl _⟩
      have lt2 : t2 < 4294967296 := ht2.out ▸ crcp.row_lt i2 li2
      have c2 : w.cell? ⟨0, i2, none⟩ = some (.int .u32 t2) := by rw [ht2.out]; exact ht.out i2 li2
      obtain ⟨z, hz⟩ : ∃ z : Nat, Hid (z = y / 16 ^^^ t2) := ⟨_, Eq.refl _⟩
      have lz : z < 4294967296 := hz.out ▸ Nat.xor_lt_two_pow (n := 32) (by omega) (by omega)
      have e4 : bits .xor .u32 ((y : Int) / 16) (t2 : Int) = (z : Int) := by
        rw [show (y : Int) / 16 = ((y / 16 : Nat) : Int) from by omega, hz.out]; exact u32_xor_nat _ _ (by omega) lt2
      go_wp2
      go_round
      case rel => exact ⟨k + 1, z, by omega, by go_num, rfl, lz, by
        have h1 := crcp.row_step x
        have h2 := crcp.row_step y
        rw [← hi1.out, ← ht1.out, ← hy.out] at h1
        rw [← hi2.out, ← ht2.out, ← hz.out] at h2
        show z = _
        rw [take_snoc s k hlt, crcp.fed_snoc, ← hF.out, h2, h1, hx.out]
        rfl⟩
      case measure => simp [intOf]; omega
    · have f1 := u32_flip R hR
      go_wp2
      go_ret
      exact ⟨ret_int (by rw [List.take_of_length_le (by simp; omega)] at hF; rw [hF.out]; rfl), rfl⟩

set_option maxHeartbeats 400000 in
theorem ron_any (n : Nat) (hn : n < 4294967296) (s : ByteArray) (w : World) (hs : s.size ≤ maxLen) :
    Calls Tryd.prog 8 #[.int .u32 n, .string s] w fun e w' => e = .returned (.int .u32 (crcp.on n s.data.toList : Nat)) ∧ w = w' := by
  unfold maxLen at hs
  have f0 : (4294967295 : Int) - (n : Int) = ((4294967295 - n : Nat) : Int) := by omega
  go_enter Tryd.func8, Tryd.ntmps8
  go_wp2
  go_loop [5, 6] (fun r i => ∃ (k R : Nat), k ≤ s.size ∧ i = .int .i64 k ∧ r = .int .u32 R ∧ R < 4294967296 ∧ Hid (R = crcp.fed (4294967295 - n) (s.data.toList.take k))) (fun _ i => s.size - (intOf i).toNat)
  case atStart => exact ⟨0, _, Nat.zero_le _, rfl, rfl, by omega, rfl⟩
  case round =>
    obtain ⟨k, R, hk, rfl, rfl, hR, hF⟩ := hrel
    by_cases hlt : k < s.size
    · obtain ⟨x, hx⟩ : ∃ x : Nat, Hid (x = R ^^^ s[k].toNat) := ⟨R ^^^ s[k].toNat, rfl⟩
      have lx : x < 4294967296 := hx.out ▸ crcp.xor_lt hR s[k]
      have e0 : bits .xor .u32 (R : Int) (s[k].toNat : Int) = (x : Int) := hx.out ▸ u32_xor_nat R s[k].toNat hR (by have := s[k].toNat_lt; omega)
      have ec : (s[k].toNat : Int) % 4294967296 = (s[k].toNat : Int) := by have := s[k].toNat_lt; omega
      go_wp2
      go_loop [5, 7, 8] (fun r i _ => ∃ (j X : Nat), j ≤ 8 ∧ i = .int .i64 j ∧ r = .int .u32 X ∧ X < 4294967296 ∧ Hid (X = crcp.stpn j x)) (fun _ i _ => 8 - (intOf i).toNat)
      case atStart => exact ⟨0, _, Nat.zero_le _, rfl, rfl, lx, rfl⟩
      case round =>
        obtain ⟨j, X, hj, rfl, rfl, lX, hX⟩ := hrel
        by_cases hj8 : j < 8
        · rcases Nat.mod_two_eq_zero_or_one X with ho | ho
          · have b0 : ((X : Int) % 2 == 1) = false := by rw [beq_eq_false_iff_ne]; omega
            have hS := Lib.hid ho
            clear ho
            go_wp2
            go_round
            case rel => exact ⟨j + 1, X / 2, by omega, by go_num, by go_num, by omega, by
              show X / 2 = _
              rw [crcp.stpn_succ, ← hX.out]
              unfold crcp.stp
              rw [if_neg (by have := hS.out; omega)]⟩
            case measure => simp [intOf]; omega
          · have b0 : ((X : Int) % 2 == 1) = true := by rw [beq_iff_eq]; omega
            have hS := Lib.hid ho
            clear ho
            have e1 : bits .xor .u32 ((X : Int) / 2) 3988292384 = ((X / 2 ^^^ 3988292384 : Nat) : Int) := by
              rw [show (X : Int) / 2 = ((X / 2 : Nat) : Int) from by omega]; exact u32_xor_nat (X / 2) 3988292384 (by omega) (by decide)
            go_wp2
            go_round
            case rel => exact ⟨j + 1, X / 2 ^^^ 3988292384, by omega, by go_num, rfl, Nat.xor_lt_two_pow (n := 32) (by omega) (by omega), by
              show X / 2 ^^^ 3988292384 = _
              rw [crcp.stpn_succ, ← hX.out]
              unfold crcp.stp
              rw [if_pos hS.out]⟩
            case measure => simp [intOf]; omega
        · obtain rfl : j = 8 := by omega
          go_wp2
          go_round
          case rel => exact ⟨k + 1, X, by omega, by go_num, rfl, lX, by
            show X = _
            rw [take_snoc s k hlt, crcp.fed_snoc, ← hF.out, hX.out, crcp.stpn8, hx.out]
            rfl⟩
          case measure => simp [intOf]; omega
    · have f1 : (4294967295 : Int) - (R : Int) = ((4294967295 - R : Nat) : Int) := by omega
      go_wp2
      go_ret
      exact ⟨ret_int (by rw [List.take_of_length_le (by simp; omega)] at hF; rw [hF.out]; rfl), rfl⟩

theorem sum_any (s : ByteArray) (w : World) (hs : s.size ≤ maxLen) (ht : Hid (Tab w)) :
    Calls Tryd.prog 9 #[.string s] w fun e w' => e = .returned (.int .u32 (crcp.on 0 s.data.toList : Nat)) ∧ w = w' := by
  go_enter Tryd.func9, Tryd.ntmps9
  go_wp2_with (go_at_call 7; refine (on_any 0 (by omega) s _ hs ht).mono ?_; rintro e w' ⟨rfl, rfl⟩)
  go_ret
  exact ⟨rfl, rfl⟩
theorem rsum_any (s : ByteArray) (w : World) (hs : s.size ≤ maxLen) :
    Calls Tryd.prog 10 #[.string s] w fun e w' => e = .returned (.int .u32 (crcp.on 0 s.data.toList : Nat)) ∧ w = w' := by
  go_enter Tryd.func10, Tryd.ntmps10
  go_wp2_with (go_at_call 8; refine (ron_any 0 (by omega) s _ hs).mono ?_; rintro e w' ⟨rfl, rfl⟩)
  go_ret
  exact ⟨rfl, rfl⟩
theorem awake_any (w : World) (ht : Hid (Tab w)) :
    Calls Tryd.prog 6 #[] w fun e w' => e = .returned (.bool true) ∧ w = w' := by
  have h1 := sum_any { data := #[49, 50, 51, 52, 53, 54, 55, 56, 57] } w (by decide) ht
  have h2 := sum_any { data := #[] } w (by decide) ht
  rw [show crcp.on 0 _ = 3421780262 from by decide +kernel] at h1
  rw [show crcp.on 0 _ = 0 from by decide +kernel] at h2
  have H1 := Lib.hid h1
  have H2 := Lib.hid h2
  clear h1 h2
  go_enter Tryd.func6, Tryd.ntmps6
  go_wp2_with fail
  refine H1.out.mono ?_
  rintro e w' ⟨rfl, rfl⟩
  go_wp2_with fail
  refine H2.out.mono ?_
  rintro e w' ⟨rfl, rfl⟩
  go_wp2_with fail
  go_ret
  exact ⟨rfl, rfl⟩
end Go.Proofs.YtdabdmmjdhebpaaDoor
