/- The walks of field's Put, Take, Text, TakeText, and of the reference's Put, Take, TakeText, Number. -/
import Derived.Test.YtcmpepojokmhnaaFieldP
import Derived.Test.YtcmpepojokmhnaaRows
namespace Go.Proofs.Ytcmpepojokmhnaa
open Go.RowKit
namespace fldw
theorem infoByte : (Try.prog.info? 5).map (fun i => (i.zero, i.size, i.bytes)) = some (some (.int .u8 0), 1, 1) := by kernel_rfl
/-- what Put returns -/
def putV (s : ByteArray) (o : Option (List UInt8)) : Value :=
  match o with
  | none => .tuple #[.string ⟨#[]⟩, .int .i64 1]
  | some b => .tuple #[.string ⟨(s.data.toList ++ b).toArray⟩, .int .i64 0]
/-- a number that fits a uint64 -/
def U64 (n : Nat) : Prop := n < 18446744073709551616

set_option maxHeartbeats 1000000 in
theorem put_any (s : ByteArray) (n : Nat) (size : Int) (w : World) (hs : s.size ≤ 1000000) (hn : U64 n) (h0 : -9223372036854775808 ≤ size) (h1 : size ≤ 9223372036854775807) :
    Calls Try.prog 38 #[.string s, .int .u64 (n : Int), .int .i64 size] w fun e w' => e = .returned (putV s (fld.put n size)) ∧ Below w.heap.size w w' := by
  by_cases c1 : size < 1
  · have hp : fld.put n size = none := by unfold fld.put; rw [if_pos (by omega)]
    have HP := Lib.hid hp
    clear hp
    go_enter Try.func38, Try.ntmps38
    go_wp2_with fail
    go_ret2
    exact ⟨by rw [HP.out]; rfl, Below.refl _ _⟩
  · by_cases c2 : 8 < size
    · have hp : fld.put n size = none := by unfold fld.put; rw [if_pos (by omega)]
      have HP := Lib.hid hp
      clear hp
      go_enter Try.func38, Try.ntmps38
      go_wp2_with fail
      go_ret2
      exact ⟨by rw [HP.out]; rfl, Below.refl _ _⟩
    · obtain ⟨k, rfl⟩ := Int.eq_ofNat_of_zero_le (show 0 ≤ size by omega)
      have hpow : (2 : Int) ^ (8 * k) = ((256 ^ k : Nat) : Int) := by rw [show (256 : Nat) = 2 ^ 8 from rfl, ← Nat.pow_mul, Int.natCast_pow]; rfl
      by_cases c3 : 256 ^ k ≤ n
      · have hp : fld.put n k = none := by unfold fld.put; rw [if_neg (by omega), Int.toNat_natCast, if_pos c3]
        have HP := Lib.hid hp
        have hk8 : k < 8 := by
          rcases Nat.lt_or_ge k 8 with h | h
          · exact h
          · obtain rfl : k = 8 := by omega
            have : (256 : Nat) ^ 8 = 18446744073709551616 := by decide
            unfold U64 at hn
            omega
        have q : (0 : Int) < (n : Int) / 2 ^ (8 * k) := by
          rw [hpow, ← Int.natCast_ediv]
          have := Nat.div_pos c3 (Nat.pow_pos (by omega))
          omega
        have HN := Lib.hid hn
        clear hp c3 hpow hn
        go_enter Try.func38, Try.ntmps38
        go_wp2_with fail
        go_ret2
        exact ⟨by rw [HP.out]; rfl, Below.refl _ _⟩
      · have hp : fld.put n k = some (fld.be n k) := by unfold fld.put; rw [if_neg (by omega), Int.toNat_natCast, if_neg c3]
        have HP := Lib.hid hp
        have q : ¬ (0 : Int) < (n : Int) / 2 ^ (8 * k) := by
          rw [hpow, ← Int.natCast_ediv, Nat.div_eq_of_lt (by omega)]
          simp
        have HN := Lib.hid hn
        clear hp c3 hpow hn
        obtain ⟨W1, hmk, hrow, hB1⟩ := kt.mkbytes (P := Try.prog) Try.underlying70 infoByte w k (by omega)
        rw [← fld.laid_start n k] at hrow
        have HR := Lib.hid hrow
        clear hrow
        by_cases hk8 : k < 8
        all_goals
          go_enter Try.func38, Try.ntmps38
          go_wp2_with fail
          go_loopw [1, 9] (fun nv iv wr => ∃ (j N : Nat), j ≤ k ∧ iv = .int .i64 ((j : Int) - 1) ∧ nv = .int .u64 (N : Int) ∧ Hid (N = n / 256 ^ (k - j)) ∧ Hid (kt.ByteRow wr w.heap.size (fld.laid n k j)) ∧ Below w.heap.size w wr) (fun _ iv _ => (intOf iv + 1).toNat)
          case atStart => exact ⟨k, n, Nat.le_refl _, rfl, rfl, by show _ = _; simp, HR, hB1⟩
          case round =>
            obtain ⟨j, N, hj, rfl, rfl, hNe, hrow, hB⟩ := hrel
            cases j with
            | zero =>
              have hst := kt.byterow_str (P := Try.prog) (dst := 9) (n := k) (cap := k) Try.underlying70 Try.underlying5 Try.underlying9 hrow.out (by rw [fld.laid_length _ _ _ (by omega)])
              obtain ⟨b, hb⟩ : ∃ b : ByteArray, Hid (b = ⟨(fld.laid n k 0).toArray⟩) := ⟨⟨(fld.laid n k 0).toArray⟩, rfl⟩
              rw [← hb.out] at hst
              have hbs : b.size ≤ 8 := by
                have : b.size = (fld.laid n k 0).length := by rw [hb.out]; rfl
                rw [this, fld.laid_length _ _ _ (by omega)]; omega
              rw [show (((0 : Nat) : Int) - 1) = -1 from rfl]
              go_wp2_with fail
              go_ret2
              exact ⟨by
                rw [HP.out]
                refine congrArg Ending.returned ?_
                show Value.tuple #[.string _, .int .i64 0] = .tuple #[.string _, .int .i64 0]
                rw [show s ++ b = ⟨(s.data.toList ++ fld.be n k).toArray⟩ from kt.str_eq (by rw [hb.out, fld.laid_end]; simp)], hB⟩
            | succ q =>
              obtain ⟨m, hm⟩ : ∃ m : UInt8, Hid (m = UInt8.ofNat N) := ⟨_, rfl⟩
              have em : (N : Int) % 256 = (m.toNat : Int) := by rw [hm.out, UInt8.toNat_ofNat']; omega
              have hqk : q < (fld.laid n k (q + 1)).length := by rw [fld.laid_length _ _ _ hj]; omega
              obtain ⟨hc, hf⟩ := hrow.out q hqk
              rw [show (((q + 1 : Nat) : Int) - 1) = (q : Int) from by omega]
              go_wp2_with fail
              go_roundw
              case rel =>
                refine ⟨q, N / 256, by omega, by go_num, by go_num, ?_, ?_, hB.setCell (Nat.le_refl _) _⟩
                · show N / 256 = n / 256 ^ (k - q)
                  rw [hNe.out, Nat.div_div_eq_div_mul, ← Nat.pow_succ, show (k - (q + 1)).succ = k - q from by omega]
                · have h := kt.byterow_set hrow.out q m
                  rw [hm.out, hNe.out, show k - (q + 1) = k - 1 - q from by omega, fld.laid_step n k q (by omega)] at h
                  show kt.ByteRow _ _ _
                  rw [hm.out, hNe.out, show k - (q + 1) = k - 1 - q from by omega]
                  exact h
              case measure => simp [intOf]
end fldw
end Go.Proofs.Ytcmpepojokmhnaa
