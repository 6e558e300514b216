/- The walks of Hex and Unhex, the program's and the reference's. -/
import Derived.Test.YtjjbmhndakmkbaaGreatDoorB64P
import Derived.Test.YtjjbmhndakmkbaaGreatDoorBuildB
import Derived.Test.YtjjbmhndakmkbaaGreatDoorShelf
namespace Go.Proofs.YtjjbmhndakmkbaaGreatDoor
open Go.RowKit

theorem digit_at (n : Nat) (h : n < (ByteArray.mk #[48, 49, 50, 51, 52, 53, 54, 55, 56, 57, 97, 98, 99, 100, 101, 102]).size) : (ByteArray.mk #[48, 49, 50, 51, 52, 53, 54, 55, 56, 57, 97, 98, 99, 100, 101, 102])[n] = b64p.dg n := by
  have h16 : n < 16 := h
  have all : ∀ m : Fin 16, (ByteArray.mk #[48, 49, 50, 51, 52, 53, 54, 55, 56, 57, 97, 98, 99, 100, 101, 102])[m.val]'(m.isLt) = b64p.dg m.val := by decide
  exact all ⟨n, h16⟩
set_option maxRecDepth 20000 in
set_option maxHeartbeats 400000 in
theorem hex_any (s : ByteArray) (w : World) (hs : s.size ≤ 3000) :
    Calls Tryz.prog 46 #[.string s] w fun e w' => e = .returned (.string ⟨(b64p.hex s.data.toList).toArray⟩) ∧ Below w.heap.size w w' := by
  go_enter Tryz.func46, Tryz.ntmps46
  go_wp2_with fail
  go_loopw [7] (fun i wr => ∃ k : Nat, k ≤ s.size ∧ i = .int .i64 k ∧ bld.Is w.heap.size w.heap.size (b64p.hex (s.data.toList.take k)) wr ∧ Below w.heap.size w wr) (fun i _ => s.size - (intOf i).toNat)
  case atStart => exact ⟨0, Nat.zero_le _, rfl, bld.fresh w, (Below.refl _ _).alloc (Nat.le_refl _) _⟩
  case round =>
    obtain ⟨k, hk, rfl, hI, hB⟩ := hrel
    by_cases hlt : k < s.size
    · have hb := s[k].toNat_lt
      have e1 : bits .and .u8 (s[k].toNat : Int) 15 = ((s[k].toNat % 16 : Nat) : Int) := by
        have h := u8_and_nat s[k].toNat 15 hb (by omega)
        rw [show s[k].toNat &&& 15 = s[k].toNat % 16 from Nat.and_two_pow_sub_one_eq_mod _ 4] at h
        exact h
      have hlen : (b64p.hex (s.data.toList.take k)).length ≤ 6000 := by rw [b64p.hex_length, List.length_take]; omega
      have hsz := hB.size
      have hI' := Lib.hid hI
      clear hI
      go_wp2_with fail
      refine (bld.writeByte_cell _ _ _ _ _ hI'.out (by omega) hsz).mono ?_
      rintro e w1 ⟨rfl, hI1, hB1⟩
      have hI1' := Lib.hid hI1
      clear hI1
      have hsz1 := hB1.size
      go_wp2_with fail
      refine (bld.writeByte_cell _ _ _ _ _ hI1'.out (by simp; omega) (by omega)).mono ?_
      rintro e w2 ⟨rfl, hI2, hB2⟩
      have hI2' := Lib.hid hI2
      clear hI2
      go_wp2_with fail
      go_roundw
      case rel =>
        refine ⟨k + 1, by omega, by go_num, ?_, (hB.trans hB1).trans hB2⟩
        have h := hI2'.out
        rw [digit_at, digit_at] at h
        rw [kt.take_snoc s k hlt, b64p.hex_append]
        simpa [b64p.hex] using h
      case measure => simp [intOf]; omega
    · obtain rfl : k = s.size := by omega
      have hsz := hB.size
      have hI' := Lib.hid hI
      clear hI
      go_wp2_with fail
      refine (Tryz.Builder_String_any _ _ _ _ hI'.out hsz).mono ?_
      rintro e w1 ⟨rfl, hB1⟩
      go_wp2
      go_ret
      exact ⟨kt.ret_str (by rw [List.take_of_length_le (by simp)]), hB.trans hB1⟩
end Go.Proofs.YtjjbmhndakmkbaaGreatDoor
