/- The walks of the reference's Put, TakeText, Number. -/
import Derived.Test.YtcmpepojokmhnaaFieldR
namespace Go.Proofs.Ytcmpepojokmhnaa
open Go.RowKit
namespace fldw

theorem be_take (n k i : Nat) (h : i < k) : (fld.be n k).take (i + 1) = (fld.be n k).take i ++ [UInt8.ofNat (n / 256 ^ (k - 1 - i))] := by
  rw [List.take_succ_eq_append_getElem (by rw [fld.be_length]; exact h), fld.be_get k n i h]
theorem u64_quo {n M i : Nat} (hM : M = n / 256 ^ i) (hn : U64 n) : IntKind.u64.wrap ((M : Int) / 256) = ((M / 256 : Nat) : Int) := by
  have h1 : M ≤ n := by rw [hM]; exact Nat.div_le_self _ _
  unfold U64 at hn
  rw [IntKind.wrap_u64]
  omega
theorem put_none {n k : Nat} (h : 256 ^ k ≤ n) : fld.put n (k : Int) = none := by
  unfold fld.put
  split
  · rfl
  · rw [Int.toNat_natCast, if_pos h]
theorem put_some {n k : Nat} (h1 : 1 ≤ k) (h8 : k ≤ 8) (h : n < 256 ^ k) : fld.put n (k : Int) = some (fld.be n k) := by
  unfold fld.put
  rw [if_neg (by omega), Int.toNat_natCast, if_neg (by omega)]

set_option maxHeartbeats 1000000 in
theorem rput_any (s : ByteArray) (n : Nat) (size : Int) (w : World) (hs : s.size ≤ 1000000) (hn : Hid (U64 n)) (h0 : -9223372036854775808 ≤ size) (h1 : size ≤ 9223372036854775807) :
    Calls Try.prog 44 #[.string s, .int .u64 (n : Int), .int .i64 size] w fun e w' => e = .returned (putV s (fld.put n size)) ∧ Below w.heap.size w w' := by
  by_cases c0 : size < 1 ∨ 8 < size
  · have hp : fld.put n size = none := by unfold fld.put; rw [if_pos c0]
    have HP := Lib.hid hp
    clear hp
    by_cases c1 : size < 1
    · clear c0
      go_enter Try.func44, Try.ntmps44
      go_wp2_with fail
      go_ret2
      exact ⟨by rw [HP.out]; rfl, Below.refl _ _⟩
    · have c2 : 8 < size := by omega
      clear c0
      go_enter Try.func44, Try.ntmps44
      go_wp2_with fail
      go_ret2
      exact ⟨by rw [HP.out]; rfl, Below.refl _ _⟩
  · obtain ⟨k, rfl⟩ := Int.eq_ofNat_of_zero_le (show 0 ≤ size by omega)
    have c1 : ¬ (k : Int) < 1 := by omega
    have c2 : ¬ 8 < (k : Int) := by omega
    clear c0
    go_enter Try.func44, Try.ntmps44
    go_wp2_with fail
    go_loopw [8, 9] (fun bv iv wr => ∃ (j : Nat), j ≤ k ∧ iv = .int .i64 ((j : Int) - 1) ∧ Hid (j < k → n < 256 ^ k) ∧ Hid (wr.ownsRow w.heap.size 5 1 bv (Lib.byteCells ((fld.be n k).take (k - j))).length (Lib.byteCells ((fld.be n k).take (k - j)))) ∧ Below w.heap.size w wr) (fun _ iv _ => (intOf iv + 1).toNat)
    case atStart => exact ⟨k, Nat.le_refl _, rfl, fun h => absurd h (by omega), by show World.ownsRow _ _ _ _ _ _ _; simpa [Lib.byteCells] using emptyRow w 5, (Below.refl _ _).alloc (Nat.le_refl _) _⟩
    case round =>
      obtain ⟨j, hj, rfl, hfit, hO, hB⟩ := hrel
      have hsz := hB.size
      cases j with
      | zero =>
        have hst := kt.str_of_row (P := Try.prog) (dst := 9) Try.underlying70 Try.underlying5 Try.underlying9 hO.out
        obtain ⟨b, hb⟩ : ∃ b : ByteArray, Hid (b = ⟨((fld.be n k).take (k - 0)).toArray⟩) := ⟨_, rfl⟩
        rw [← hb.out] at hst
        have hbs : b.size ≤ 8 := by
          have : b.size = ((fld.be n k).take (k - 0)).length := by rw [hb.out]; rfl
          rw [this, List.length_take, fld.be_length]; omega
        have HP : Hid (fld.put n (k : Int) = some (fld.be n k)) := put_some (by omega) (by omega) (hfit.out (by omega))
        rw [show (((0 : Nat) : Int) - 1) = -1 from rfl]
        go_wp2_with fail
        go_ret2
        exact ⟨by
          rw [HP.out]
          refine congrArg Ending.returned ?_
          show Value.tuple #[.string _, .int .i64 0] = .tuple #[.string _, .int .i64 0]
          rw [show s ++ b = ⟨(s.data.toList ++ fld.be n k).toArray⟩ from kt.str_eq (by rw [hb.out, Nat.sub_zero, List.take_of_length_le (by rw [fld.be_length]; exact Nat.le_refl _)]; simp)], hB⟩
      | succ q =>
        rw [show (((q + 1 : Nat) : Int) - 1) = (q : Int) from by omega]
        go_wp2_with fail
        go_loop [10, 11] (fun mv iv => ∃ (i M : Nat), i ≤ q ∧ iv = .int .i64 (i : Int) ∧ mv = .int .u64 (M : Int) ∧ Hid (M = n / 256 ^ i)) (fun _ iv => q - (intOf iv).toNat)
        case atStart => exact ⟨0, n, by omega, rfl, rfl, by show _ = _; simp⟩
        case round =>
          obtain ⟨i, M, hi, rfl, rfl, hM⟩ := hrel
          by_cases hiq : i < q
          · go_wp2_with fail
            go_round
            case rel => exact ⟨i + 1, M / 256, by omega, by go_num, by rw [u64_quo hM.out hn.out], by
              show M / 256 = _
              rw [hM.out, Nat.div_div_eq_div_mul, ← Nat.pow_succ]⟩
            case measure => simp [intOf]; omega
          · obtain rfl : i = q := by omega
            by_cases hbad : i + 1 = k ∧ 255 < M
            · have hge : 256 ^ k ≤ n := by
                have h3 := hM.out
                have h4 : 256 ^ i * 256 ≤ n := by
                  rw [Nat.mul_comm]
                  have : 256 ≤ n / 256 ^ i := by rw [← h3]; omega
                  exact (Nat.le_div_iff_mul_le (Nat.pow_pos (by omega))).1 this
                rw [← hbad.1, Nat.pow_succ]; exact h4
              have HP : Hid (fld.put n (k : Int) = none) := put_none hge
              have q1 : ((i : Int) == (k : Int) - 1) = true := by rw [beq_iff_eq]; omega
              have q2 : (255 : Int) < (M : Int) := by omega
              clear hbad hge
              go_wp2_with fail
              go_ret2
              exact ⟨by rw [HP.out]; rfl, hB⟩
            · have hfit2 : n < 256 ^ k := by
                by_cases hlast : i + 1 = k
                · have h5 : M ≤ 255 := by
                    rcases Nat.lt_or_ge 255 M with h | h
                    · exact absurd ⟨hlast, h⟩ hbad
                    · exact h
                  rw [hM.out] at h5
                  rw [← hlast, Nat.pow_succ, Nat.mul_comm]
                  exact (Nat.div_lt_iff_lt_mul (Nat.pow_pos (by omega))).1 (by omega)
                · exact hfit.out (by omega)
              have HF := Lib.hid hfit2
              obtain ⟨m, hm⟩ : ∃ m : UInt8, Hid (m = UInt8.ofNat M) := ⟨_, rfl⟩
              have em : (M : Int) % 256 = (m.toNat : Int) := by rw [hm.out, UInt8.toNat_ofNat']; omega
              have em2 : (m.toNat : Int) % 256 = (m.toNat : Int) := by have := m.toNat_lt; omega
              obtain ⟨v', w1, hap, hO1, hg1, hB1⟩ := kt.app1 (P := Try.prog) (ty := 70) (w := wr) Try.underlying70 infoByte rfl (.int .u8 (m.toNat : Int)) rfl hO.out (by rw [Lib.byteCells_length, List.length_take]; unfold maxLen; omega) (by rw [Lib.byteCells_length, List.length_take]; omega) hsz
              have HO1 := Lib.hid hO1
              have HG1 := Lib.hid hg1
              have EM2 := Lib.hid em2
              clear hO1 hg1 hfit2
              by_cases hlast : i + 1 = k
              · have q1 : ((i : Int) == (k : Int) - 1) = true := by rw [beq_iff_eq]; omega
                have q2 : ¬ (255 : Int) < (M : Int) := by
                  intro h; exact hbad ⟨hlast, by omega⟩
                have HL := Lib.hid hlast
                clear hbad hlast
                go_wp2_with (at_builtin; refine Lib.wpList_append_run _ rfl _ _ _ _ rfl _ _ rfl rfl _ _ hap ?_)
                go_roundw
                case rel =>
                  refine ⟨i, by omega, by go_num, fun _ => HF.out, ?_, hB.trans hB1⟩
                  have h := HO1.out
                  show World.ownsRow _ _ _ _ _ _ _
                  rw [show k - i = (k - (i + 1)) + 1 from by omega, be_take n k (k - (i + 1)) (by omega), Lib.byteCells_append, show k - 1 - (k - (i + 1)) = i from by omega, ← hM.out, ← hm.out]
                  exact h
                case measure => simp [intOf]
              · have q1 : ((i : Int) == (k : Int) - 1) = false := by rw [beq_eq_false_iff_ne]; omega
                have HL := Lib.hid hlast
                clear hbad hlast
                go_wp2_with (at_builtin; refine Lib.wpList_append_run _ rfl _ _ _ _ rfl _ _ rfl rfl _ _ hap ?_)
                go_roundw
                case rel =>
                  refine ⟨i, by omega, by go_num, fun _ => HF.out, ?_, hB.trans hB1⟩
                  have h := HO1.out
                  show World.ownsRow _ _ _ _ _ _ _
                  rw [show k - i = (k - (i + 1)) + 1 from by omega, be_take n k (k - (i + 1)) (by omega), Lib.byteCells_append, show k - 1 - (k - (i + 1)) = i from by omega, ← hM.out, ← hm.out]
                  exact h
                case measure => simp [intOf]

end fldw
end Go.Proofs.Ytcmpepojokmhnaa
