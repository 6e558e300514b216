/- The walks of the reference's Put, Take, TakeText, Number. -/
import Derived.Test.YtcmpepojokmhnaaFieldT
namespace Go.Proofs.Ytcmpepojokmhnaa
open Go.RowKit
namespace fldw
theorem emptyRow (w : World) (e : TypeId) : (w.alloc (.cells #[] e)).ownsRow w.heap.size e 1 (.slice (some ⟨w.heap.size, 0, none⟩) 0 0) ([] : List Value).length [] :=
  World.ownsRow_made w #[] 0 (Nat.le_refl _) (by unfold maxLen; omega) rfl

set_option maxHeartbeats 1000000 in
theorem rtake_any (s : ByteArray) (at' size : Int) (w : World) (hs : s.size ≤ 1000000) (h0 : -9223372036854775808 ≤ size) (h1 : size ≤ 9223372036854775807) (h2 : -9223372036854775808 ≤ at') (h3 : at' ≤ 9223372036854775807) :
    Calls Try.prog 37 #[.string s, .int .i64 at', .int .i64 size] w fun e w' => e = .returned (takeV (fld.take s.data.toList at' size)) ∧ w = w' := by
  by_cases c0 : size < 1 ∨ 8 < size ∨ at' < 0
  · have hp : fld.take s.data.toList at' size = .error 1 := by unfold fld.take; rw [if_pos c0]
    have HP := Lib.hid hp
    clear hp
    by_cases c1 : size < 1
    · clear c0
      go_enter Try.func37, Try.ntmps37
      go_wp2_with fail
      go_ret2
      exact ⟨by rw [HP.out]; rfl, rfl⟩
    · by_cases c2 : 8 < size
      · clear c0
        go_enter Try.func37, Try.ntmps37
        go_wp2_with fail
        go_ret2
        exact ⟨by rw [HP.out]; rfl, rfl⟩
      · have c3 : at' < 0 := by omega
        clear c0
        go_enter Try.func37, Try.ntmps37
        go_wp2_with fail
        go_ret2
        exact ⟨by rw [HP.out]; rfl, rfl⟩
  · have c1 : ¬ size < 1 := by omega
    have c2 : ¬ 8 < size := by omega
    have c3 : ¬ at' < 0 := by omega
    by_cases c4 : (s.data.toList.length : Int) < at' + size
    · have hp : fld.take s.data.toList at' size = .error 3 := by unfold fld.take; rw [if_neg c0, if_pos c4]
      have HP := Lib.hid hp
      rw [kt.size_len] at c4
      have c6 : (s.size : Int) - size < at' := by omega
      clear hp c0 c4
      go_enter Try.func37, Try.ntmps37
      go_wp2_with fail
      go_ret2
      exact ⟨by rw [HP.out]; rfl, rfl⟩
    · have hp : fld.take s.data.toList at' size = .ok (fld.num ((s.data.toList.drop at'.toNat).take size.toNat)) := by unfold fld.take; rw [if_neg c0, if_neg c4]
      rw [kt.size_len] at c4
      obtain ⟨a, rfl⟩ := Int.eq_ofNat_of_zero_le (show 0 ≤ at' by omega)
      obtain ⟨k, rfl⟩ := Int.eq_ofNat_of_zero_le (show 0 ≤ size by omega)
      rw [Int.toNat_natCast, Int.toNat_natCast] at hp
      have HP := Lib.hid hp
      have c6 : ¬ (s.size : Int) - (k : Int) < (a : Int) := by omega
      clear hp c0 c4
      go_enter Try.func37, Try.ntmps37
      go_wp2_with fail
      go_loop [8, 9] (fun nv jv => ∃ (j N : Nat), j ≤ k ∧ jv = .int .i64 (j : Int) ∧ nv = .int .u64 (N : Int) ∧ Hid (N = fld.num ((s.data.toList.drop a).take j))) (fun _ jv => k - (intOf jv).toNat)
      case atStart => exact ⟨0, 0, by omega, rfl, rfl, rfl⟩
      case round =>
        obtain ⟨j, N, hj, rfl, rfl, hNe⟩ := hrel
        by_cases hlt : j < k
        · have hjt : a + j < s.size := by omega
          have hb := s[a + j].toNat_lt
          have d1 : ((a : Int) + (j : Int)).toNat = a + j := by omega
          have d2 : (0 : Int) ≤ (a : Int) + (j : Int) := by omega
          have d3 : (a : Int) + (j : Int) < (s.size : Int) := by omega
          have hsn : (s.data.toList.drop a).take (j + 1) = (s.data.toList.drop a).take j ++ [s[a + j]] := by
            rw [List.take_succ_eq_append_getElem (by rw [List.length_drop, kt.size_len]; omega), List.getElem_drop]
            rfl
          have HS := Lib.hid hsn
          clear hsn
          go_wp2_with fail
          go_round
          case rel =>
            refine ⟨j + 1, 256 * N + s[a + j].toNat, by omega, by go_num, ?_, ?_⟩
            · rw [fld.u64_mul_add N s[a + j].toNat (by rw [hNe.out]; exact fld.num_small (by rw [List.length_take]; omega)) hb]
            · show _ = _
              rw [HS.out, fld.num_snoc, ← hNe.out, Nat.mul_comm]
          case measure => simp [intOf]; omega
        · obtain rfl : j = k := by omega
          go_wp2_with fail
          go_ret2
          exact ⟨by rw [HP.out, hNe.out]; rfl, rfl⟩
end fldw
end Go.Proofs.Ytcmpepojokmhnaa
