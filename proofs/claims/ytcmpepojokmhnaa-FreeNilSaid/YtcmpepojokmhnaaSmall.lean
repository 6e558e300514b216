/- The walks of FreeCounts and FreeNil. -/
import Derived.Test.YtcmpepojokmhnaaAwake
namespace Go.Proofs.Ytcmpepojokmhnaa
open Go.RowKit
namespace fre
set_option linter.unusedVariables false
/-- so many pieces -/
def pcs (n : Int) : Int := if n < 1 then 0 else (n - 1) / 40 + 1
theorem pieces_any (n : Int) (w : World) (h0 : -9223372036854775808 ≤ n) (h1 : n ≤ 1000000) : Calls Try.prog 13 #[.int .i64 n] w fun e w' => e = .returned (.int .i64 (pcs n)) ∧ w = w' := by
  by_cases h : n < 1
  · have hp : pcs n = 0 := by unfold pcs; rw [if_pos h]
    have HP := Lib.hid hp
    clear hp
    go_enter Try.func13, Try.ntmps13
    go_wp2_with fail
    go_ret
    exact ⟨by rw [HP.out]; rfl, rfl⟩
  · have hp : pcs n = (n - 1) / 40 + 1 := by unfold pcs; rw [if_neg h]
    have HP := Lib.hid hp
    have h2 : 0 ≤ n - 1 := by omega
    have h3 : 1 ≤ n := by omega
    clear hp
    go_enter Try.func13, Try.ntmps13
    go_wp2_with fail
    go_ret
    exact ⟨by rw [HP.out]; rfl, rfl⟩
theorem rpieces_any (n : Int) (w : World) (h0 : -9223372036854775808 ≤ n) (h1 : n ≤ 1000000) : Calls Try.prog 14 #[.int .i64 n] w fun e w' => e = .returned (.int .i64 (pcs n)) ∧ w = w' := by
  go_enter Try.func14, Try.ntmps14
  go_wp2_with fail
  go_loop [3] (fun kv => ∃ k : Nat, kv = .int .i64 k ∧ k ≤ 25000 ∧ Hid ((k : Int) ≤ pcs n)) (fun kv => 25001 - (intOf kv).toNat)
  case atStart => exact ⟨0, rfl, Nat.zero_le _, by show _ ≤ _; unfold pcs; split <;> omega⟩
  case round =>
    obtain ⟨k, rfl, hk, hp⟩ := hrel
    by_cases h : 40 * (k : Int) < n
    · have hk2 : (k : Int) < 1000000 := by omega
      have hn4 : n ≤ 40000000 := by omega
      have hkk : k + 1 ≤ 25000 := by omega
      go_wp2_with fail
      go_round
      case rel => exact ⟨k + 1, by go_num, hkk, by show _ ≤ _; unfold pcs; split <;> omega⟩
      case measure => simp [intOf]; omega
    · have hk2 : (k : Int) < 1000000 := by omega
      have he : pcs n = (k : Int) := by
        have h5 := hp.out
        unfold pcs at h5 ⊢
        split at h5
        · rename_i h6; rw [if_pos h6]; omega
        · rename_i h6; rw [if_neg h6]; omega
      have HE := Lib.hid he
      clear he
      go_wp2_with fail
      go_ret
      exact ⟨by rw [HE.out]; rfl, rfl⟩
set_option maxHeartbeats 1000000 in
theorem counts_any (n : Int) (w : World) (h0 : -9223372036854775808 ≤ n) (h1 : n ≤ 9223372036854775807) : Calls Try.prog 4 #[.int .i64 n] w fun e w' => e = .returned (.bool true) ∧ Below w.heap.size w w' := by
  have A := Lib.hid awake_true
  by_cases h : 1000000 < n
  · go_enter Try.func4, Try.ntmps4
    go_wp2_with fail
    refine (A.out _).mono ?_
    rintro e w1 ⟨rfl, hB1⟩
    go_wp2_with fail
    go_ret
    exact ⟨rfl, hB1⟩
  · have P := Lib.hid (fun w => pieces_any n w h0 (by omega))
    have R := Lib.hid (fun w => rpieces_any n w h0 (by omega))
    have hp : (n ≤ 0 ∧ pcs n = 0) ∨ (0 < n ∧ n ≤ 40 * pcs n ∧ 40 * (pcs n - 1) < n ∧ 0 ≤ pcs n ∧ pcs n ≤ 25000) := by
      unfold pcs
      split <;> omega
    generalize pcs n = k at P R hp
    rcases hp with ⟨h2, rfl⟩ | ⟨h2, h3, h4, h5, h6⟩
    · have h7 : ¬ 0 < n := by omega
      go_enter Try.func4, Try.ntmps4
      go_wp2_with fail
      refine (A.out _).mono ?_
      rintro e w1 ⟨rfl, hB1⟩
      go_wp2_with fail
      refine (P.out _).mono ?_
      rintro e w1 ⟨rfl, rfl⟩
      go_wp2_with fail
      refine (R.out _).mono ?_
      rintro e w1 ⟨rfl, rfl⟩
      go_wp2_with fail
      go_ret
      exact ⟨rfl, hB1⟩
    · have h7 : ¬ n ≤ 0 := by omega
      go_enter Try.func4, Try.ntmps4
      go_wp2_with fail
      refine (A.out _).mono ?_
      rintro e w1 ⟨rfl, hB1⟩
      go_wp2_with fail
      refine (P.out _).mono ?_
      rintro e w1 ⟨rfl, rfl⟩
      go_wp2_with fail
      refine (R.out _).mono ?_
      rintro e w1 ⟨rfl, rfl⟩
      go_wp2_with fail
      go_ret
      exact ⟨rfl, hB1⟩
theorem addnil_any (f : Fre) (w : World) : Calls Try.prog 11 #[.pointer none, f.v] w fun e w' => e = .returned (.int .i64 2) ∧ Below w.heap.size w w' := by
  unfold Fre.v
  go_enter Try.func11, Try.ntmps11
  go_wp2_with fail
  go_ret
  exact ⟨rfl, (Below.refl _ _).alloc (Nat.le_refl _) _⟩
theorem takenil_any (u : Int) (w : World) : Calls Try.prog 12 #[.pointer none, .int .i64 u] w fun e w' => e = .returned (.tuple #[.int .i64 0, .bool false]) ∧ w = w' := by
  go_enter Try.func12, Try.ntmps12
  go_wp2_with fail
  go_ret2
  exact ⟨rfl, rfl⟩
theorem hasnil_any (u : Int) (w : World) : Calls Try.prog 18 #[.pointer none, .int .i64 u] w fun e w' => e = .returned (.bool false) ∧ w = w' := by
  go_enter Try.func18, Try.ntmps18
  go_wp2_with fail
  go_ret
  exact ⟨rfl, rfl⟩
theorem countnil_any (w : World) : Calls Try.prog 20 #[.pointer none] w fun e w' => e = .returned (.int .i64 0) ∧ w = w' := by
  go_enter Try.func20, Try.ntmps20
  go_wp2_with fail
  go_ret
  exact ⟨rfl, rfl⟩
theorem allnil_any (w : World) : Calls Try.prog 22 #[.pointer none] w fun e w' => e = .returned (.slice none 0 0) ∧ w = w' := by
  go_enter Try.func22, Try.ntmps22
  go_wp2_with fail
  go_ret
  exact ⟨rfl, rfl⟩
theorem copynil_any (w : World) : Calls Try.prog 17 #[.pointer none] w fun e w' => e = .returned (.pointer none) ∧ w = w' := by
  go_enter Try.func17, Try.ntmps17
  go_wp2_with fail
  go_ret
  exact ⟨rfl, rfl⟩
set_option maxHeartbeats 1000000 in
theorem nil_any (f : Fre) (n : Int) (w : World) : Calls Try.prog 6 #[f.v, .int .i64 n] w fun e w' => e = .returned (.bool true) ∧ Below w.heap.size w w' := by
  have A := Lib.hid awake_true
  have H1 := Lib.hid (fun w => addnil_any f w)
  unfold Fre.v at H1 ⊢
  have H2 := Lib.hid takenil_any
  have H3 := Lib.hid hasnil_any
  have H4 := Lib.hid countnil_any
  have H5 := Lib.hid allnil_any
  have H6 := Lib.hid copynil_any
  have HB0 : Hid (Below w.heap.size w (w.alloc (.cells #[.int .i64 f.txn, .int .i64 f.page] 28))) := (Below.refl _ _).alloc (Nat.le_refl _) _
  have D0 : Hid ((w.alloc (.cells #[.int .i64 f.txn, .int .i64 f.page] 28)).heap[w.heap.size]? = some (.cells #[.int .i64 f.txn, .int .i64 f.page] 28 (0, 0))) := heap_alloc_last w _
  go_enter Try.func6, Try.ntmps6
  go_wp2_with fail
  refine (A.out _).mono ?_
  rintro e w1 ⟨rfl, hB1⟩
  have hB2 : Hid (Below w.heap.size w w1) := HB0.out.trans (hB1.mono HB0.out.size)
  have d1 := (hB1.block _ (kt.bld_lt D0.out)).trans D0.out
  have y0 : w1.cell? ⟨w.heap.size, 0, none⟩ = some (.int .i64 f.txn) := by rw [Lib.cell_of_heap d1]; rfl
  have y1 : w1.cell? ⟨w.heap.size, 1, none⟩ = some (.int .i64 f.page) := by rw [Lib.cell_of_heap d1]; rfl
  clear d1
  go_wp2_with fail
  refine (H2.out _ _).mono ?_
  rintro e w2 ⟨rfl, rfl⟩
  go_wp2_with fail
  refine (H1.out _).mono ?_
  rintro e w2 ⟨rfl, hB3⟩
  have hB4 : Hid (Below w.heap.size w w2) := hB2.out.trans (hB3.mono hB2.out.size)
  clear y0 y1
  go_wp2_with fail
  refine (H3.out _ _).mono ?_
  rintro e w3 ⟨rfl, rfl⟩
  go_wp2_with fail
  refine (H4.out _).mono ?_
  rintro e w3 ⟨rfl, rfl⟩
  go_wp2_with fail
  refine (H5.out _).mono ?_
  rintro e w3 ⟨rfl, rfl⟩
  go_wp2_with fail
  refine (H6.out _).mono ?_
  rintro e w3 ⟨rfl, rfl⟩
  go_wp2_with fail
  go_ret
  exact ⟨rfl, hB4.out⟩
end fre
end Go.Proofs.Ytcmpepojokmhnaa
