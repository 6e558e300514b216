/- The walks of field's Take, Text, TakeText. -/
import Derived.Test.YtcmpepojokmhnaaFieldW
namespace Go.Proofs.Ytcmpepojokmhnaa
open Go.RowKit
namespace fldw
/-- what Take returns -/
def takeV (o : Except Int Nat) : Value :=
  match o with
  | .error e => .tuple #[.int .u64 0, .int .i64 e]
  | .ok n => .tuple #[.int .u64 (n : Int), .int .i64 0]

set_option maxHeartbeats 1000000 in
theorem take_any (s : ByteArray) (at' size : Int) (w : World) (hs : s.size ≤ 1000000) (h0 : -9223372036854775808 ≤ size) (h1 : size ≤ 9223372036854775807) (h2 : -9223372036854775808 ≤ at') (h3 : at' ≤ 9223372036854775807) :
    Calls Try.prog 35 #[.string s, .int .i64 at', .int .i64 size] w fun e w' => e = .returned (takeV (fld.take s.data.toList at' size)) ∧ Below w.heap.size w w' := by
  by_cases c0 : size < 1 ∨ 8 < size ∨ at' < 0
  · have hp : fld.take s.data.toList at' size = .error 1 := by unfold fld.take; rw [if_pos c0]
    have HP := Lib.hid hp
    clear hp
    by_cases c1 : size < 1
    · clear c0
      go_enter Try.func35, Try.ntmps35
      go_wp2_with fail
      go_ret2
      exact ⟨by rw [HP.out]; rfl, Below.refl _ _⟩
    · by_cases c2 : 8 < size
      · clear c0
        go_enter Try.func35, Try.ntmps35
        go_wp2_with fail
        go_ret2
        exact ⟨by rw [HP.out]; rfl, Below.refl _ _⟩
      · have c3 : at' < 0 := by omega
        clear c0
        go_enter Try.func35, Try.ntmps35
        go_wp2_with fail
        go_ret2
        exact ⟨by rw [HP.out]; rfl, Below.refl _ _⟩
  · have c1 : ¬ size < 1 := by omega
    have c2 : ¬ 8 < size := by omega
    have c3 : ¬ at' < 0 := by omega
    by_cases c4 : (s.data.toList.length : Int) < at' + size
    · have hp : fld.take s.data.toList at' size = .error 3 := by unfold fld.take; rw [if_neg c0, if_pos c4]
      have HP := Lib.hid hp
      rw [kt.size_len] at c4
      clear hp c0
      by_cases c5 : (s.size : Int) < at'
      · clear c4
        go_enter Try.func35, Try.ntmps35
        go_wp2_with fail
        go_ret2
        exact ⟨by rw [HP.out]; rfl, Below.refl _ _⟩
      · have c6 : (s.size : Int) - at' < size := by omega
        clear c4
        go_enter Try.func35, Try.ntmps35
        go_wp2_with fail
        go_ret2
        exact ⟨by rw [HP.out]; rfl, Below.refl _ _⟩
    · have hp : fld.take s.data.toList at' size = .ok (fld.num ((s.data.toList.drop at'.toNat).take size.toNat)) := by unfold fld.take; rw [if_neg c0, if_neg c4]
      rw [kt.size_len] at c4
      obtain ⟨a, rfl⟩ := Int.eq_ofNat_of_zero_le (show 0 ≤ at' by omega)
      obtain ⟨k, rfl⟩ := Int.eq_ofNat_of_zero_le (show 0 ≤ size by omega)
      rw [Int.toNat_natCast, Int.toNat_natCast] at hp
      obtain ⟨t, ht⟩ : ∃ t : ByteArray, Hid (t = s.extract a (a + k)) := ⟨_, rfl⟩
      have htd : t.data.toList = (s.data.toList.drop a).take k := by rw [ht.out, Lib.extract_data]; simp
      rw [← htd] at hp
      have htk : t.size = k := by rw [← kt.size_len, htd, List.length_take, List.length_drop, kt.size_len]; omega
      have HP := Lib.hid hp
      have HK := Lib.hid htk
      have ex : s.extract a (a + k) = t := ht.out.symm
      have c5 : ¬ (s.size : Int) < (a : Int) := by omega
      have c6 : ¬ (s.size : Int) - (a : Int) < (k : Int) := by omega
      have c7 : (a : Int) + (k : Int) ≤ (s.size : Int) := by omega
      have c8 : ((a : Int) + (k : Int)).toNat = a + k := by omega
      obtain ⟨W1, cap, hcv, hrow, hB1⟩ := kt.bytes_of (P := Try.prog) (src := 9) (dst := 70) Try.underlying9 Try.underlying70 Try.underlying5 w t
      rw [htk] at hcv
      have HR := Lib.hid hrow
      clear hp htk htd c0 c4 hrow
      go_enter Try.func35, Try.ntmps35
      go_wp2_with fail
      go_loop [8, 43] (fun nv jv => ∃ (j N : Nat), j ≤ k ∧ jv = .int .i64 (j : Int) ∧ nv = .int .u64 (N : Int) ∧ Hid (N = fld.num (t.data.toList.take j))) (fun _ jv => k - (intOf jv).toNat)
      case atStart => exact ⟨0, 0, by omega, rfl, rfl, rfl⟩
      case round =>
        obtain ⟨j, N, hj, rfl, rfl, hNe⟩ := hrel
        by_cases hlt : j < k
        · have hjt : j < t.size := by have := HK.out; omega
          have hc := (HR.out j (by rw [kt.size_len]; exact hjt)).1
          rw [show t.data.toList[j]'(by rw [kt.size_len]; exact hjt) = t[j] from rfl] at hc
          have hb := t[j].toNat_lt
          go_wp2_with fail
          go_round
          case rel =>
            refine ⟨j + 1, 256 * N + t[j].toNat, by omega, by go_num, ?_, ?_⟩
            · rw [fld.u64_shl_or N t[j].toNat (by rw [hNe.out]; exact fld.num_small (by rw [List.length_take]; omega)) hb]
            · show _ = _
              rw [kt.take_snoc t j hjt, fld.num_snoc, ← hNe.out, Nat.mul_comm]
          case measure => simp [intOf]; omega
        · obtain rfl : j = k := by omega
          go_wp2_with fail
          go_ret2
          exact ⟨by rw [HP.out, hNe.out, List.take_of_length_le (by rw [kt.size_len]; have := HK.out; omega)]; rfl, hB1⟩

/-- what Text returns -/
def textV (s t : ByteArray) : Value :=
  if 65535 < t.size then .tuple #[.string ⟨#[]⟩, .int .i64 5] else .tuple #[.string ⟨(s.data.toList ++ (fld.be t.size 2 ++ t.data.toList)).toArray⟩, .int .i64 0]
theorem put2 (n : Nat) (h : n ≤ 65535) : fld.put n 2 = some (fld.be n 2) := by
  unfold fld.put
  rw [if_neg (by omega), if_neg (by rw [show (2 : Int).toNat = 2 from rfl]; omega)]
  rfl

end fldw
end Go.Proofs.Ytcmpepojokmhnaa
