/- The walks of rightType, plain, isName and of the reference's Type, Plain. -/
import Derived.Test.YtifplgnabkkbjaaDoorPairP
import Derived.Test.YtifplgnabkkbjaaDoorRows
namespace Go.Proofs.YtifplgnabkkbjaaDoor
open Go.RowKit
namespace ldw
open ldp
set_option linter.unusedVariables false
set_option linter.unusedSimpArgs false
set_option maxRecDepth 20000 in
set_option maxHeartbeats 4000000 in
theorem rightType_any (s : ByteArray) (w : World) (hs : s.size ≤ 1000000) : Calls Tryd.prog 21 #[.string s] w fun e w' => e = .returned (.bool (typeOK s.data.toList)) ∧ w = w' := by
  go_enter Tryd.func21, Tryd.ntmps21
  go_wp2_with fail
  go_loop [3, 4, 5, 8] (fun _ _ _ iv => ∃ k : Nat, k ≤ s.size ∧ iv = .int .i64 (k : Int) ∧ Hid (∀ j (hj : j < s.size), j < k → tyAt j s[j])) (fun _ _ _ iv => s.size - (intOf iv).toNat)
  case atStart => exact ⟨0, Nat.zero_le _, rfl, fun j hj h => by omega⟩
  case round =>
    obtain ⟨k, hk, rfl, hA⟩ := hrel
    by_cases hlt : k < s.size
    · have hlt' : (k : Int) < (s.size : Int) := by omega
      have HA : Hid (tyAt k (s[k]'hlt) → ∀ j (hj : j < s.size), j < k + 1 → tyAt j s[j]) := by
        intro ht j hj h
        by_cases e : j = k
        · subst e; exact ht
        · exact hA.out j hj (by omega)
      have HN : Hid (¬ tyAt k (s[k]'hlt) → false = typeOK s.data.toList) := fun h => typeOK_no hlt h
      obtain ⟨c, hc⟩ : ∃ c, s[k]'hlt = c := ⟨_, rfl⟩
      rw [hc] at HA HN
      have hcn := c.toNat_lt
      go_wp2_with fail
      all_goals first
        | (go_ret; exact ⟨kt.ret_bool (HN.out (by unfold tyAt; omega)), rfl⟩)
        | (go_ret; exact ⟨kt.ret_bool (HN.out (by unfold tyAt; simp only [Bool.not_eq_true', Bool.not_eq_false', Bool.or_eq_true, Bool.and_eq_true, Bool.or_eq_false_iff, Bool.and_eq_false_iff, decide_eq_true_eq, decide_eq_false_iff_not, beq_iff_eq, bne_iff_ne, bne_eq_false_iff_eq, beq_eq_false_iff_ne, ne_eq, Classical.not_not] at *; omega)), rfl⟩)
        | (go_round
           case rel => exact ⟨k + 1, by omega, by go_num, HA.out (by unfold tyAt; first | omega | (simp only [Bool.not_eq_true', Bool.not_eq_false', Bool.or_eq_true, Bool.and_eq_true, Bool.or_eq_false_iff, Bool.and_eq_false_iff, decide_eq_true_eq, decide_eq_false_iff_not, beq_iff_eq, bne_iff_ne, bne_eq_false_iff_eq, beq_eq_false_iff_ne, ne_eq, Classical.not_not] at *; omega))⟩
           case measure => simp [intOf]; omega)
        | (exfalso; simp only [Bool.not_eq_true', Bool.not_eq_false', Bool.or_eq_true, Bool.and_eq_true, Bool.or_eq_false_iff, Bool.and_eq_false_iff, decide_eq_true_eq, decide_eq_false_iff_not, beq_iff_eq, bne_iff_ne, bne_eq_false_iff_eq, beq_eq_false_iff_ne, ne_eq, Classical.not_not] at *; omega)
    · obtain rfl : k = s.size := by omega
      have HE : Hid (s.size ≠ 0 → s.size ≤ 64 → true = typeOK s.data.toList) := fun h0 h1 => typeOK_end (fun j hj => hA.out j hj hj) h0 h1
      have HL : Hid (s.size = 0 ∨ 64 < s.size → false = typeOK s.data.toList) := typeOK_len
      clear hA
      by_cases h0 : s.size = 0
      · obtain rfl : s = ByteArray.empty := by
          apply kt.str_eq
          have : s.data.toList.length = 0 := by simpa using h0
          rw [List.eq_nil_of_length_eq_zero this]; rfl
        clear h0
        go_wp2_with fail
        go_ret
        exact ⟨kt.ret_bool (HL.out (Or.inl rfl)), rfl⟩
      · have hne : s.data.toList ≠ [] := by
          intro e
          have := kt.size_len s
          rw [e] at this
          exact h0 this.symm
        have hne2 : s.toList.isEmpty = false := by
          rw [Lib.toList_data]
          cases h : s.data.toList with
          | nil => exact absurd h hne
          | cons a t => rfl
        have hne3 : ¬ s.toList = [] := by rw [Lib.toList_data]; exact hne
        by_cases h1 : s.size ≤ 64
        · have h2 : (s.size : Int) ≤ 64 := by omega
          go_wp2_with fail
          go_ret
          exact ⟨kt.ret_bool (HE.out h0 h1), rfl⟩
        · have h2 : decide ((s.size : Int) ≤ 64) = false := by rw [decide_eq_false_iff_not]; omega
          have h3 : 64 < (s.size : Int) := by omega
          go_wp2_with fail
          go_ret
          exact ⟨kt.ret_bool (HL.out (Or.inr (by omega))), rfl⟩
set_option maxRecDepth 20000 in
set_option maxHeartbeats 4000000 in
theorem plain_any (s : ByteArray) (w : World) (hs : s.size ≤ 1000000) : Calls Tryd.prog 24 #[.string s] w fun e w' => e = .returned (.bool (plainOK s.data.toList)) ∧ w = w' := by
  go_enter Tryd.func24, Tryd.ntmps24
  go_wp2_with fail
  go_loop [3, 4, 7] (fun _ _ iv => ∃ k : Nat, k ≤ s.size ∧ iv = .int .i64 (k : Int) ∧ Hid (∀ j (hj : j < s.size), j < k → plAt j s[j])) (fun _ _ iv => s.size - (intOf iv).toNat)
  case atStart => exact ⟨0, Nat.zero_le _, rfl, fun j hj h => by omega⟩
  case round =>
    obtain ⟨k, hk, rfl, hA⟩ := hrel
    by_cases hlt : k < s.size
    · have hlt' : (k : Int) < (s.size : Int) := by omega
      have HA : Hid (plAt k (s[k]'hlt) → ∀ j (hj : j < s.size), j < k + 1 → plAt j s[j]) := by
        intro ht j hj h
        by_cases e : j = k
        · subst e; exact ht
        · exact hA.out j hj (by omega)
      have HN : Hid (¬ plAt k (s[k]'hlt) → false = plainOK s.data.toList) := fun h => plainOK_no hlt h
      obtain ⟨c, hc⟩ : ∃ c, s[k]'hlt = c := ⟨_, rfl⟩
      rw [hc] at HA HN
      have hcn := c.toNat_lt
      go_wp2_with fail
      all_goals first
        | (go_ret; exact ⟨kt.ret_bool (HN.out (by unfold plAt; omega)), rfl⟩)
        | (go_ret; exact ⟨kt.ret_bool (HN.out (by unfold plAt; simp only [Bool.not_eq_true', Bool.not_eq_false', Bool.or_eq_true, Bool.and_eq_true, Bool.or_eq_false_iff, Bool.and_eq_false_iff, decide_eq_true_eq, decide_eq_false_iff_not, beq_iff_eq, bne_iff_ne, bne_eq_false_iff_eq, beq_eq_false_iff_ne, ne_eq, Classical.not_not] at *; omega)), rfl⟩)
        | (go_round
           case rel => exact ⟨k + 1, by omega, by go_num, HA.out (by unfold plAt; first | omega | (simp only [Bool.not_eq_true', Bool.not_eq_false', Bool.or_eq_true, Bool.and_eq_true, Bool.or_eq_false_iff, Bool.and_eq_false_iff, decide_eq_true_eq, decide_eq_false_iff_not, beq_iff_eq, bne_iff_ne, bne_eq_false_iff_eq, beq_eq_false_iff_ne, ne_eq, Classical.not_not] at *; omega))⟩
           case measure => simp [intOf]; omega)
        | (exfalso; simp only [Bool.not_eq_true', Bool.not_eq_false', Bool.or_eq_true, Bool.and_eq_true, Bool.or_eq_false_iff, Bool.and_eq_false_iff, decide_eq_true_eq, decide_eq_false_iff_not, beq_iff_eq, bne_iff_ne, bne_eq_false_iff_eq, beq_eq_false_iff_ne, ne_eq, Classical.not_not] at *; omega)
    · obtain rfl : k = s.size := by omega
      have HE : Hid (true = plainOK s.data.toList) := plainOK_end (fun j hj => hA.out j hj hj)
      clear hA
      go_wp2_with fail
      go_ret
      exact ⟨kt.ret_bool HE.out, rfl⟩
end ldw
end Go.Proofs.YtifplgnabkkbjaaDoor
