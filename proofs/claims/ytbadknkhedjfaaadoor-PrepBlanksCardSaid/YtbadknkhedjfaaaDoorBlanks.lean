/- The walk of PrepBlanks: blanks at the ends, and more of them within, change nothing. -/
import Derived.Test.YtbadknkhedjfaaaDoorLaws
namespace Go.Proofs.YtbadknkhedjfaaaDoor
open Go.RowKit
namespace prw
open run prp
set_option linter.unusedVariables false
set_option linter.unusedSimpArgs false
/-- the blanks of k rounds -/
def blS : Nat → List UInt8
  | 0 => [32]
  | k + 1 => blS k ++ [194, 160, 226, 128, 139, 9]
theorem blS_len : ∀ k, (blS k).length = 1 + 6 * k
  | 0 => rfl
  | k + 1 => by rw [blS, List.length_append, blS_len k]; simp; omega
theorem blS_runes : ∀ k, ∃ m, runes (blS k) = some m ∧ mapped true m = List.replicate (2 * k + 1) 32
  | 0 => ⟨[32], rfl, by decide⟩
  | k + 1 => by
    obtain ⟨m, h1, h2⟩ := blS_runes k
    refine ⟨m ++ [160, 8203, 9], runes_append h1 (by decide), ?_⟩
    rw [mapped_append, h2, show mapped true [160, 8203, 9] = [32, 32] from by decide]
    rw [show ([32, 32] : List Int) = List.replicate 2 32 from rfl, List.replicate_append_replicate]
    congr 1
theorem blanks_law {a b : ByteArray} {ma mb : List Int} (k : Nat) (ha : runes a.data.toList = some ma) (hb : runes b.data.toList = some mb) : sameB (blS k ++ a.data.toList ++ blS k ++ b.data.toList ++ blS k) (a.data.toList ++ [32] ++ b.data.toList) = true := by
  obtain ⟨m, h1, h2⟩ := blS_runes k
  exact blanks_same (2 * k) ha hb h1 h2
theorem and7 (n : Int) : ∃ k : Nat, bits .and .i64 n 7 = (k : Int) ∧ k ≤ 7 := by
  refine ⟨(BitVec.ofInt 64 n &&& BitVec.ofInt 64 7).toNat, ?_, ?_⟩
  · show IntKind.i64.wrap ((BitVec.ofInt 64 n &&& BitVec.ofInt 64 7).toNat : Int) = _
    have h : (BitVec.ofInt 64 n &&& BitVec.ofInt 64 7).toNat ≤ 7 := by
      rw [BitVec.toNat_and]
      exact Nat.and_le_right
    exact kt.wrap_i64_nat _ (by omega)
  · rw [BitVec.toNat_and]
    exact Nat.and_le_right
theorem app_data (a b : ByteArray) : (a ++ b).data.toList = a.data.toList ++ b.data.toList := by
  rw [ByteArray.data_append, Array.toList_append]
set_option maxHeartbeats 2000000 in
theorem pblanks_any (a b : ByteArray) (n : Int) (w : World) (hE : Hid (Env w)) (hn0 : -9223372036854775808 ≤ n) (hn1 : n ≤ 9223372036854775807) (ha : a.size ≤ 140737488351232) (hb : b.size ≤ 140737488351232) :
    Calls Tryd.prog 7 #[.string a, .string b, .int .i64 n] w fun e w' => e = .returned (.bool true) ∧ Below w.heap.size w w' := by
  have AW := Lib.hid awake_true
  obtain ⟨N, hN, hN7⟩ := and7 n
  by_cases hal : 1000 < a.size
  · have hl' : 1000 < (a.size : Int) := by omega
    clear hN hn0 hn1
    go_enter Tryd.func7, Tryd.ntmps7
    go_wp2_with fail
    refine (AW.out _ hE).mono ?_
    rintro e w1 ⟨rfl, hB1⟩
    go_wp2_with fail
    go_ret
    exact ⟨rfl, hB1⟩
  · have hl' : ¬ 1000 < (a.size : Int) := by omega
    by_cases hbl : 1000 < b.size
    · have hl2' : 1000 < (b.size : Int) := by omega
      clear hN hn0 hn1
      go_enter Tryd.func7, Tryd.ntmps7
      go_wp2_with fail
      refine (AW.out _ hE).mono ?_
      rintro e w1 ⟨rfl, hB1⟩
      go_wp2_with fail
      go_ret
      exact ⟨rfl, hB1⟩
    · have hl2' : ¬ 1000 < (b.size : Int) := by omega
      have RA : ∀ W, _ := fun W => runes_any a W (by omega)
      have RB : ∀ W, _ := fun W => runes_any b W (by omega)
      cases hra : runes a.data.toList with
      | none =>
        rw [hra] at RA
        have HA := Lib.hid RA
        clear RA RB hra hN hn0 hn1
        go_enter Tryd.func7, Tryd.ntmps7
        go_wp2_with fail
        refine (AW.out _ hE).mono ?_
        rintro e w1 ⟨rfl, hB1⟩
        have K2 := Lib.hid (HA.out w1)
        go_wp2_with fail
        refine K2.out.mono ?_
        rintro e w2 ⟨hC2, rfl⟩
        go_wp2_with fail
        go_ret
        exact ⟨rfl, hB1.trans (hC2.mono hB1.size)⟩
      | some ma =>
        rw [hra] at RA
        have HA := Lib.hid RA
        have HRA := Lib.hid hra
        clear RA hra
        cases hrb : runes b.data.toList with
        | none =>
          rw [hrb] at RB
          have HB := Lib.hid RB
          clear RB hrb hN hn0 hn1
          go_enter Tryd.func7, Tryd.ntmps7
          go_wp2_with fail
          refine (AW.out _ hE).mono ?_
          rintro e w1 ⟨rfl, hB1⟩
          have K2 := Lib.hid (HA.out w1)
          go_wp2_with fail
          refine K2.out.mono ?_
          rintro e w2 ⟨hC2, v2, rfl, hO2⟩
          have hB2 := hB1.trans (hC2.mono hB1.size)
          have K3 := Lib.hid (HB.out w2)
          clear hO2
          go_wp2_with fail
          refine K3.out.mono ?_
          rintro e w3 ⟨hC3, rfl⟩
          go_wp2_with fail
          go_ret
          exact ⟨rfl, hB2.trans (hC3.mono hB2.size)⟩
        | some mb =>
          rw [hrb] at RB
          have HB := Lib.hid RB
          have HRB := Lib.hid hrb
          clear RB hrb
          go_enter Tryd.func7, Tryd.ntmps7
          go_wp2_with fail
          refine (AW.out _ hE).mono ?_
          rintro e w1 ⟨rfl, hB1⟩
          have K2 := Lib.hid (HA.out w1)
          go_wp2_with fail
          refine K2.out.mono ?_
          rintro e w2 ⟨hC2, v2, rfl, hO2⟩
          have hB2 := hB1.trans (hC2.mono hB1.size)
          have K3 := Lib.hid (HB.out w2)
          clear hO2
          go_wp2_with fail
          refine K3.out.mono ?_
          rintro e w3 ⟨hC3, v3, rfl, hO3⟩
          have hB3 := hB2.trans (hC3.mono hB2.size)
          clear hO3
          go_wp2_with fail
          go_loopw [11, 12] (fun sv iv wr => ∃ (i : Nat) (t : ByteArray), i ≤ N ∧ iv = .int .i64 (i : Int) ∧ sv = .string t ∧ Hid (t.data.toList = blS i) ∧ t.size ≤ 100 ∧ Below w3.heap.size w3 wr) (fun _ iv _ => N - (intOf iv).toNat)
          case atStart => exact ⟨0, ⟨#[32]⟩, Nat.zero_le _, rfl, rfl, rfl, by decide, Below.refl _ _⟩
          case round =>
            obtain ⟨i, t, hi, rfl, rfl, hT, ht, hB⟩ := hrel
            by_cases hlt : i < N
            · have hlt' : (i : Int) < (N : Int) := by omega
              have HT2 : Hid ((t ++ ⟨#[194, 160, 226, 128, 139, 9]⟩ : ByteArray).data.toList = blS (i + 1)) := by
                show _ = _
                rw [app_data, hT.out]; rfl
              have HS2 : Hid ((t ++ ⟨#[194, 160, 226, 128, 139, 9]⟩ : ByteArray).size ≤ 100) := by
                show _ ≤ _
                rw [← kt.size_len, HT2.out, blS_len]; omega
              go_wp2_with fail
              go_roundw
              case rel => exact ⟨i + 1, _, by omega, by go_num, rfl, HT2, HS2.out, hB⟩
              case measure => simp [intOf]; omega
            · obtain rfl : i = N := by omega
              have hE4 := Lib.hid (env_below hE.out (hB3.trans (hB.mono hB3.size)))
              have CS := same_any (t ++ a ++ t ++ b ++ t) (a ++ ⟨#[32]⟩ ++ b) wr (by simp only [ByteArray.size_append]; omega) (by simp only [ByteArray.size_append]; show _ + 1 + _ ≤ _; omega) hE4
              have hlaw := blanks_law i HRA.out HRB.out
              rw [app_data, app_data, app_data, app_data, app_data, app_data, hT.out, show (ByteArray.mk #[32]).data.toList = [32] from rfl, hlaw] at CS
              have HS := Lib.hid CS
              clear CS hlaw
              go_wp2_with fail
              refine HS.out.mono ?_
              rintro e w5 ⟨rfl, hC5⟩
              go_wp2_with fail
              go_ret
              exact ⟨rfl, hB3.trans ((hB.trans (hC5.mono hB.size)).mono hB3.size)⟩
end prw
end Go.Proofs.YtbadknkhedjfaaaDoor
