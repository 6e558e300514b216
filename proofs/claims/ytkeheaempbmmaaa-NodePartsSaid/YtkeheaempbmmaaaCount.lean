/- The walk of the reference's Count. -/
import Derived.Test.YtkeheaempbmmaaaSize
namespace Go.Proofs.Ytkeheaempbmmaaa
open Go.RowKit
namespace nod
set_option maxHeartbeats 1000000 in
theorem count_any (leaf : Bool) (ao : Option Addr) (cap : Nat) (l : List Cel) (w : World) (hl : Hid (Cels w ao l)) (hs : Hid (∀ c ∈ l, c.key.size ≤ 1000000 ∧ c.val.size ≤ 1000000)) (hn : l.length ≤ 1000000) :
    Calls Try.prog 26 #[.bool leaf, .slice ao l.length cap] w fun e w' => e = .returned (.int .i64 ((sum leaf l : Nat) : Int)) ∧ Below w.heap.size w w' := by
  go_enter Try.func26, Try.ntmps26
  go_wp2_with fail
  go_loopw [5, 6] (fun nv iv wr => ∃ (i N : Nat), i ≤ l.length ∧ iv = .int .i64 i ∧ nv = .int .i64 N ∧ Hid (N = sum leaf (l.take i)) ∧ N ≤ 4000000000000 ∧ Below w.heap.size w wr) (fun _ iv _ => l.length - (intOf iv).toNat)
  case atStart => exact ⟨0, 2, Nat.zero_le _, rfl, rfl, by show _ = _; simp [sum], by omega, Below.refl _ _⟩
  case round =>
    obtain ⟨i, N, hi, rfl, rfl, hN, hNb, hB⟩ := hrel
    have hsz := hB.size
    by_cases hil : i < l.length
    · have hil' : (i : Int) < (l.length : Int) := by omega
      obtain ⟨c, hc⟩ : ∃ c : Cel, Hid (c = l[i]'hil) := ⟨l[i]'hil, rfl⟩
      obtain ⟨b, o, hao, f0, f1, f2, f3, f4⟩ := (cels_below hl.out hB) i hil
      rw [← hc.out] at f0 f1 f2 f3 f4
      subst hao
      have hcb := hs.out c (by rw [hc.out]; exact List.getElem_mem hil)
      have S := Lib.hid (long_any leaf c wr hcb.1 hcb.2)
      have hst := sum_take leaf l i hil
      rw [← hc.out, ← hN.out] at hst
      have hbd := sum_bound leaf (l.take (i + 1)) (fun d hd => hs.out d (List.mem_of_mem_take hd))
      obtain ⟨M, hM⟩ : ∃ M : Nat, Hid (M = sum leaf (l.take (i + 1))) := ⟨_, rfl⟩
      rw [← hM.out] at hst hbd
      obtain ⟨q, hq⟩ : ∃ q : Nat, Hid (q = len leaf c) := ⟨_, rfl⟩
      rw [← hq.out] at S
      have hst2 : M = N + 2 + q := by rw [hq.out]; omega
      rw [List.length_take] at hbd
      have hMb : M ≤ 4000000000000 := by omega
      clear hst hbd
      unfold Cel.v at S
      go_wp2_with fail
      refine S.out.mono ?_
      rintro e w1 ⟨rfl, hB1⟩
      go_wp2_with fail
      go_roundw
      case rel => exact ⟨i + 1, M, by omega, by go_num, by rw [hst2]; go_num, hM, hMb, hB.trans (hB1.mono hsz)⟩
      case measure => simp [intOf]; omega
    · obtain rfl : i = l.length := by omega
      have hil' : ¬ (l.length : Int) < (l.length : Int) := by omega
      have hN2 := hN.out
      rw [List.take_of_length_le (Nat.le_refl _)] at hN2
      have HN := Lib.hid hN2
      clear hN2 hN
      go_wp2_with fail
      go_ret
      exact ⟨by rw [← HN.out]; rfl, hB⟩
end nod
end Go.Proofs.Ytkeheaempbmmaaa
