/- The walks of rightType and of the reference's Type: is a text a type? -/
import Derived.Test.YtjjbmhndakmkbaaGreatDoorDnP
import Derived.Test.YtjjbmhndakmkbaaGreatDoorRows
namespace Go.Proofs.YtjjbmhndakmkbaaGreatDoor
open Go.RowKit
namespace dnw
open dnp
set_option linter.unusedVariables false
set_option linter.unusedSimpArgs false
/-- may a byte stand at place k of a type? -/
def tyAt (k : Nat) (c : UInt8) : Prop := (97 ≤ (c.toNat : Int) ∧ (c.toNat : Int) ≤ 122) ∨ (k ≠ 0 ∧ ((c.toNat : Int) = 45 ∨ (48 ≤ (c.toNat : Int) ∧ (c.toNat : Int) ≤ 57)))
theorem letter_iff (c : UInt8) : letter c = true ↔ 97 ≤ (c.toNat : Int) ∧ (c.toNat : Int) ≤ 122 := by
  unfold letter
  rw [decide_eq_true_iff, UInt8.le_iff_toNat_le, UInt8.le_iff_toNat_le]
  show (97 ≤ c.toNat ∧ c.toNat ≤ 122) ↔ _
  omega
theorem typeCh_iff (c : UInt8) : typeCh c = true ↔ (97 ≤ (c.toNat : Int) ∧ (c.toNat : Int) ≤ 122) ∨ (c.toNat : Int) = 45 ∨ (48 ≤ (c.toNat : Int) ∧ (c.toNat : Int) ≤ 57) := by
  unfold typeCh
  rw [Bool.or_eq_true, Bool.or_eq_true, letter_iff, decide_eq_true_iff, decide_eq_true_iff, UInt8.le_iff_toNat_le, UInt8.le_iff_toNat_le, ← UInt8.toNat_inj]
  show (_ ∨ (48 ≤ c.toNat ∧ c.toNat ≤ 57)) ∨ c.toNat = 45 ↔ _
  omega
theorem typeOK_iff (l : List UInt8) : typeOK l = true ↔ l ≠ [] ∧ l.length ≤ 32 ∧ ∀ k (h : k < l.length), tyAt k l[k] := by
  unfold typeOK
  cases l with
  | nil => simp
  | cons c t =>
    simp only [Bool.and_eq_true, decide_eq_true_eq, List.all_eq_true, letter_iff, ne_eq, reduceCtorEq, not_false_eq_true, true_and]
    constructor
    · rintro ⟨⟨h1, h2⟩, h3⟩
      refine ⟨h2, fun k hk => ?_⟩
      cases k with
      | zero => exact Or.inl h1
      | succ k =>
        have := (typeCh_iff _).1 (h3 (c :: t)[k + 1] (List.getElem_mem hk))
        unfold tyAt
        omega
    · rintro ⟨h2, h3⟩
      refine ⟨⟨?_, h2⟩, ?_⟩
      · have := h3 0 (by simp)
        unfold tyAt at this
        simp only [List.getElem_cons_zero, ne_eq, not_true_eq_false, false_and, or_false] at this
        exact this
      · intro x hx
        obtain ⟨k, hk, rfl⟩ := List.mem_iff_getElem.1 hx
        have := h3 k hk
        unfold tyAt at this
        rw [typeCh_iff]
        omega
theorem typeOK_no {s : ByteArray} {k : Nat} (hk : k < s.size) (h : ¬ tyAt k s[k]) : false = typeOK s.data.toList := by
  symm
  rw [Bool.eq_false_iff]
  intro e
  exact h (((typeOK_iff _).1 e).2.2 k (by simpa using hk))
theorem typeOK_end {s : ByteArray} (h : ∀ k (hk : k < s.size), tyAt k s[k]) (h0 : s.size ≠ 0) (h1 : s.size ≤ 32) : true = typeOK s.data.toList := by
  symm
  rw [typeOK_iff]
  have hl : s.data.toList.length = s.size := by simp
  refine ⟨fun e => by rw [e] at hl; simp at hl; omega, by omega, fun k hk => h k (by omega)⟩
theorem typeOK_len {s : ByteArray} (h1 : s.size = 0 ∨ 32 < s.size) : false = typeOK s.data.toList := by
  symm
  rw [Bool.eq_false_iff]
  intro e
  have hl : s.data.toList.length = s.size := by simp
  obtain ⟨h2, h3, _⟩ := (typeOK_iff _).1 e
  rcases h1 with h1 | h1
  · exact h2 (List.eq_nil_of_length_eq_zero (by omega))
  · omega
set_option maxRecDepth 20000 in
set_option maxHeartbeats 4000000 in
theorem rightType_any (s : ByteArray) (w : World) (hs : s.size ≤ 100000) : Calls Tryz.prog 38 #[.string s] w fun e w' => e = .returned (.bool (typeOK s.data.toList)) ∧ w = w' := by
  go_enter Tryz.func38, Tryz.ntmps38
  go_wp2_with fail
  go_loop [3, 4, 5, 8] (fun _ _ _ iv => ∃ k : Nat, k ≤ s.size ∧ iv = .int .i64 (k : Int) ∧ Hid (∀ j (hj : j < s.size), j < k → tyAt j s[j])) (fun _ _ _ iv => s.size - (intOf iv).toNat)
  case atStart => exact ⟨0, Nat.zero_le _, rfl, fun j hj h => by omega⟩
  case round =>
    obtain ⟨k, hk, rfl, hA⟩ := hrel
    by_cases hlt : k < s.size
    · have hlt' : (k : Int) < (s.size : Int) := by omega
      have g0 : 0 ≤ ((s[k]'hlt).toNat : Int) := by omega
      by_cases ht : tyAt k (s[k]'hlt)
      · have HA : Hid (∀ j (hj : j < s.size), j < k + 1 → tyAt j s[j]) := by
          intro j hj h
          by_cases e : j = k
          · subst e; exact ht
          · exact hA.out j hj (by omega)
        unfold tyAt at ht
        rcases ht with ⟨h1, h2⟩ | ⟨h0, h1 | ⟨h1, h2⟩⟩
        · go_wp2_with fail
          go_round
          case rel => exact ⟨k + 1, by omega, by go_num, HA⟩
          case measure => simp [intOf]; omega
        · have hk0 : ((k : Int) == 0) = false := by rw [beq_eq_false_iff_ne]; omega
          have hc1 : (((s[k]'hlt).toNat : Int) == 45) = true := by rw [beq_iff_eq]; exact h1
          have hc2 : (((s[k]'hlt).toNat : Int) != 45) = false := by rw [bne_eq_false_iff_eq]; exact h1
          have hc3 : ¬ 97 ≤ ((s[k]'hlt).toNat : Int) := by omega
          clear h1 h0
          go_wp2_with fail
          go_round
          case rel => exact ⟨k + 1, by omega, by go_num, HA⟩
          case measure => simp [intOf]; omega
        · have hk0 : ((k : Int) == 0) = false := by rw [beq_eq_false_iff_ne]; omega
          have hc1 : (((s[k]'hlt).toNat : Int) == 45) = false := by rw [beq_eq_false_iff_ne]; omega
          have hc2 : (((s[k]'hlt).toNat : Int) != 45) = true := by rw [bne_iff_ne]; omega
          have hc3 : ¬ 97 ≤ ((s[k]'hlt).toNat : Int) := by omega
          clear h0
          go_wp2_with fail
          go_round
          case rel => exact ⟨k + 1, by omega, by go_num, HA⟩
          case measure => simp [intOf]; omega
      · have HN := Lib.hid (typeOK_no hlt ht)
        unfold tyAt at ht
        have g256 : ((s[k]'hlt).toNat : Int) < 256 := by have := (s[k]'hlt).toNat_lt; omega
        by_cases hk0 : k = 0
        · subst hk0
          by_cases h97 : 97 ≤ ((s[0]'hlt).toNat : Int)
          · have h122 : decide (((s[0]'hlt).toNat : Int) ≤ 122) = false := by rw [decide_eq_false_iff_not]; omega
            clear ht
            go_wp2_with fail
            go_ret
            exact ⟨kt.ret_bool HN.out, rfl⟩
          · clear ht
            go_wp2_with fail
            go_ret
            exact ⟨kt.ret_bool HN.out, rfl⟩
        · have hk1 : ((k : Int) == 0) = false := by rw [beq_eq_false_iff_ne]; omega
          have hc1 : (((s[k]'hlt).toNat : Int) == 45) = false := by rw [beq_eq_false_iff_ne]; omega
          have hc2 : (((s[k]'hlt).toNat : Int) != 45) = true := by rw [bne_iff_ne]; omega
          by_cases h97 : 97 ≤ ((s[k]'hlt).toNat : Int)
          · have h122 : decide (((s[k]'hlt).toNat : Int) ≤ 122) = false := by rw [decide_eq_false_iff_not]; omega
            have h57 : 57 < ((s[k]'hlt).toNat : Int) := by omega
            have h48 : 48 ≤ ((s[k]'hlt).toNat : Int) := by omega
            clear ht hk0
            go_wp2_with fail
            go_ret
            exact ⟨kt.ret_bool HN.out, rfl⟩
          · by_cases h48 : 48 ≤ ((s[k]'hlt).toNat : Int)
            · have h57 : 57 < ((s[k]'hlt).toNat : Int) := by omega
              clear ht hk0
              go_wp2_with fail
              go_ret
              exact ⟨kt.ret_bool HN.out, rfl⟩
            · clear ht hk0
              go_wp2_with fail
              go_ret
              exact ⟨kt.ret_bool HN.out, rfl⟩
    · obtain rfl : k = s.size := by omega
      by_cases h0 : s.size = 0
      · have HN := Lib.hid (typeOK_len (s := s) (Or.inl h0))
        obtain rfl : s = ⟨#[]⟩ := kt.str_eq (by
          have : s.data.toList.length = 0 := by simpa using h0
          exact List.eq_nil_of_length_eq_zero this)
        clear h0
        go_wp2_with fail
        go_ret
        exact ⟨kt.ret_bool HN.out, rfl⟩
      · have g1 : (s.toList == []) = false := by
          rw [beq_eq_false_iff_ne, Lib.toList_data]
          intro e
          apply h0
          have := congrArg List.length e
          simpa using this
        have g2 : ¬ s.toList = [] := by simpa using g1
        by_cases h32 : s.size ≤ 32
        · have h32' : (s.size : Int) ≤ 32 := by omega
          have HN := Lib.hid (typeOK_end (s := s) (fun j hj => hA.out j hj hj) h0 h32)
          clear h0
          go_wp2_with fail
          go_ret
          exact ⟨kt.ret_bool HN.out, rfl⟩
        · have h32' : ¬ (s.size : Int) ≤ 32 := by omega
          have HN := Lib.hid (typeOK_len (s := s) (Or.inr (by omega)))
          clear h0
          go_wp2_with fail
          go_ret
          exact ⟨kt.ret_bool HN.out, rfl⟩
theorem typeOK_head {s : ByteArray} (h : 0 < s.size) (h1 : ¬ (97 ≤ ((s[0]'h).toNat : Int) ∧ ((s[0]'h).toNat : Int) ≤ 122)) : false = typeOK s.data.toList := typeOK_no h (by unfold tyAt; omega)
/-- may a byte stand anywhere? -/
def chAt (c : UInt8) : Prop := (97 ≤ (c.toNat : Int) ∧ (c.toNat : Int) ≤ 122) ∨ ((c.toNat : Int) = 45 ∨ (48 ≤ (c.toNat : Int) ∧ (c.toNat : Int) ≤ 57))
theorem typeOK_all {s : ByteArray} (h : 0 < s.size) (h0 : 97 ≤ ((s[0]'h).toNat : Int) ∧ ((s[0]'h).toNat : Int) ≤ 122) (h1 : s.size ≤ 32) (hA : ∀ k (hk : k < s.size), chAt s[k]) : true = typeOK s.data.toList := by
  refine typeOK_end (fun k hk => ?_) (by omega) h1
  have := hA k hk
  unfold chAt at this
  unfold tyAt
  by_cases e : k = 0
  · subst e; exact Or.inl h0
  · omega
theorem typeOK_ch {s : ByteArray} {k : Nat} (hk : k < s.size) (h : ¬ chAt s[k]) : false = typeOK s.data.toList := typeOK_no hk (by unfold chAt at h; unfold tyAt; omega)
set_option maxRecDepth 20000 in
set_option maxHeartbeats 4000000 in
theorem type_any (s : ByteArray) (w : World) (hs : s.size ≤ 100000) : Calls Tryz.prog 31 #[.string s] w fun e w' => e = .returned (.bool (typeOK s.data.toList)) ∧ w = w' := by
  by_cases hz : s.size < 1
  · have hz' : (s.size : Int) < 1 := by omega
    have HN := Lib.hid (typeOK_len (s := s) (Or.inl (by omega)))
    go_enter Tryz.func31, Tryz.ntmps31
    go_wp2_with fail
    go_ret
    exact ⟨kt.ret_bool HN.out, rfl⟩
  · have hz' : ¬ (s.size : Int) < 1 := by omega
    by_cases h32 : 32 < s.size
    · have h32' : 32 < (s.size : Int) := by omega
      have HN := Lib.hid (typeOK_len (s := s) (Or.inr h32))
      go_enter Tryz.func31, Tryz.ntmps31
      go_wp2_with fail
      go_ret
      exact ⟨kt.ret_bool HN.out, rfl⟩
    · have h32' : ¬ 32 < (s.size : Int) := by omega
      have h0 : 0 < s.size := by omega
      have h0' : 0 < (s.size : Int) := by omega
      by_cases hh : 97 ≤ ((s[0]'h0).toNat : Int) ∧ ((s[0]'h0).toNat : Int) ≤ 122
      · obtain ⟨q1, q2⟩ := hh
        have q1' : ¬ ((s[0]'h0).toNat : Int) < 97 := by omega
        have q2' : ¬ 122 < ((s[0]'h0).toNat : Int) := by omega
        have HY : Hid ((∀ k (hk : k < s.size), chAt s[k]) → true = typeOK s.data.toList) := fun hA => typeOK_all h0 ⟨q1, q2⟩ (by omega) hA
        go_enter Tryz.func31, Tryz.ntmps31
        go_wp2_with fail
        clear q1 q2 q1' q2'
        go_loop [3] (fun iv => ∃ k : Nat, k ≤ s.size ∧ iv = .int .i64 (k : Int) ∧ Hid (∀ j (hj : j < s.size), j < k → chAt s[j])) (fun iv => s.size - (intOf iv).toNat)
        case atStart => exact ⟨0, Nat.zero_le _, rfl, fun j hj h => by omega⟩
        case round =>
          obtain ⟨k, hk, rfl, hA⟩ := hrel
          by_cases hlt : k < s.size
          · have hlt' : (k : Int) < (s.size : Int) := by omega
            by_cases ht : chAt (s[k]'hlt)
            · have HA : Hid (∀ j (hj : j < s.size), j < k + 1 → chAt s[j]) := by
                intro j hj h
                by_cases e : j = k
                · subst e; exact ht
                · exact hA.out j hj (by omega)
              unfold chAt at ht
              rcases ht with ⟨h1, h2⟩ | h1 | ⟨h1, h2⟩
              · go_wp2_with fail
                go_round
                case rel => exact ⟨k + 1, by omega, by go_num, HA⟩
                case measure => simp [intOf]; omega
              · have hc1 : (((s[k]'hlt).toNat : Int) == 45) = true := by rw [beq_iff_eq]; exact h1
                have hc2 : (((s[k]'hlt).toNat : Int) != 45) = false := by rw [bne_eq_false_iff_eq]; exact h1
                have hc3 : decide (97 ≤ ((s[k]'hlt).toNat : Int)) = false := by rw [decide_eq_false_iff_not]; omega
                have hc4 : decide (48 ≤ ((s[k]'hlt).toNat : Int)) = false := by rw [decide_eq_false_iff_not]; omega
                clear h1
                go_wp2_with fail
                go_round
                case rel => exact ⟨k + 1, by omega, by go_num, HA⟩
                case measure => simp [intOf]; omega
              · have hc3 : decide (97 ≤ ((s[k]'hlt).toNat : Int)) = false := by rw [decide_eq_false_iff_not]; omega
                go_wp2_with fail
                go_round
                case rel => exact ⟨k + 1, by omega, by go_num, HA⟩
                case measure => simp [intOf]; omega
            · have HN := Lib.hid (typeOK_ch hlt ht)
              unfold chAt at ht
              have hc1 : (((s[k]'hlt).toNat : Int) == 45) = false := by rw [beq_eq_false_iff_ne]; omega
              have hc2 : (((s[k]'hlt).toNat : Int) != 45) = true := by rw [bne_iff_ne]; omega
              by_cases h97 : 97 ≤ ((s[k]'hlt).toNat : Int)
              · have h122 : decide (((s[k]'hlt).toNat : Int) ≤ 122) = false := by rw [decide_eq_false_iff_not]; omega
                have h48 : 48 ≤ ((s[k]'hlt).toNat : Int) := by omega
                have h57 : decide (((s[k]'hlt).toNat : Int) ≤ 57) = false := by rw [decide_eq_false_iff_not]; omega
                clear ht
                go_wp2_with fail
                go_ret
                exact ⟨kt.ret_bool HN.out, rfl⟩
              · have hc3 : decide (97 ≤ ((s[k]'hlt).toNat : Int)) = false := by rw [decide_eq_false_iff_not]; omega
                by_cases h48 : 48 ≤ ((s[k]'hlt).toNat : Int)
                · have h57 : decide (((s[k]'hlt).toNat : Int) ≤ 57) = false := by rw [decide_eq_false_iff_not]; omega
                  clear ht h97
                  go_wp2_with fail
                  go_ret
                  exact ⟨kt.ret_bool HN.out, rfl⟩
                · have hc4 : decide (48 ≤ ((s[k]'hlt).toNat : Int)) = false := by rw [decide_eq_false_iff_not]; omega
                  clear ht h97 h48
                  go_wp2_with fail
                  go_ret
                  exact ⟨kt.ret_bool HN.out, rfl⟩
          · obtain rfl : k = s.size := by omega
            have HN := Lib.hid (HY.out (fun j hj => hA.out j hj hj))
            go_wp2_with fail
            go_ret
            exact ⟨kt.ret_bool HN.out, rfl⟩
      · have HN := Lib.hid (typeOK_head h0 hh)
        by_cases q1 : ((s[0]'h0).toNat : Int) < 97
        · clear hh
          go_enter Tryz.func31, Tryz.ntmps31
          go_wp2_with fail
          go_ret
          exact ⟨kt.ret_bool HN.out, rfl⟩
        · have q2 : 122 < ((s[0]'h0).toNat : Int) := by omega
          clear hh
          go_enter Tryz.func31, Tryz.ntmps31
          go_wp2_with fail
          go_ret
          exact ⟨kt.ret_bool HN.out, rfl⟩
end dnw
end Go.Proofs.YtjjbmhndakmkbaaGreatDoor
