/- The walks of isName and of the reference's Type, Plain. -/
import Derived.Test.YtifplgnabkkbjaaDoorPairP
import Derived.Test.YtifplgnabkkbjaaDoorRows
namespace Go.Proofs.YtifplgnabkkbjaaDoor
open Go.RowKit
namespace ldw
open ldp
set_option linter.unusedVariables false
set_option linter.unusedSimpArgs false
theorem zero_s {s : ByteArray} (h0 : s.size = 0) : s = ByteArray.empty := by
  apply kt.str_eq
  have : s.data.toList.length = 0 := by simpa using h0
  rw [List.eq_nil_of_length_eq_zero this]; rfl
theorem isDn_len {s : ByteArray} (h : ¬ s.size = 2) : false = isDn s.data.toList := by
  symm
  rw [Bool.eq_false_iff]
  intro e
  unfold isDn at e
  simp only [Bool.or_eq_true, beq_iff_eq] at e
  have hl : s.data.toList.length = s.size := by simp
  rcases e with ((e | e) | e) | e <;> (rw [e] at hl; simp at hl; omega)
theorem isDn_two {s : ByteArray} (h : s.size = 2) (b : Bool) (hb : b = true ↔ (((s[0]'(by omega)).toNat : Int) = 100 ∨ ((s[0]'(by omega)).toNat : Int) = 68) ∧ (((s[1]'(by omega)).toNat : Int) = 110 ∨ ((s[1]'(by omega)).toNat : Int) = 78)) : b = isDn s.data.toList := by
  have hs : s.data.toList = [s[0]'(by omega), s[1]'(by omega)] := by
    apply List.ext_getElem
    · simp [h]
    · intro i h1 h2
      have : i = 0 ∨ i = 1 := by simp at h2; omega
      rcases this with rfl | rfl <;> rfl
  rw [Bool.eq_iff_iff, hb, hs]
  generalize s[0]'(by omega) = c
  generalize s[1]'(by omega) = d
  unfold isDn
  simp only [Bool.or_eq_true, beq_iff_eq, List.cons.injEq, and_true, ← UInt8.toNat_inj]
  show _ ↔ (((c.toNat = 100 ∧ d.toNat = 110) ∨ (c.toNat = 68 ∧ d.toNat = 110)) ∨ (c.toNat = 100 ∧ d.toNat = 78)) ∨ (c.toNat = 68 ∧ d.toNat = 78)
  omega
set_option maxRecDepth 20000 in
set_option maxHeartbeats 4000000 in
theorem isName_any (s : ByteArray) (w : World) (hs : s.size ≤ 1000000) : Calls Tryd.prog 12 #[.string s] w fun e w' => e = .returned (.bool (isDn s.data.toList)) ∧ w = w' := by
  by_cases h : s.size = 2
  · have HT := Lib.hid (isDn_two h)
    have e2 : ((s.size : Int) == 2) = true := by rw [beq_iff_eq]; omega
    have hz : 0 < s.size := by omega
    have hz1 : 1 < s.size := by omega
    have hz2 : (0 : Int) < (s.size : Int) := by omega
    have hz3 : (1 : Int) < (s.size : Int) := by omega
    obtain ⟨c, hc⟩ : ∃ c, s[0]'hz = c := ⟨_, rfl⟩
    obtain ⟨d, hd⟩ : ∃ c, s[1]'hz1 = c := ⟨_, rfl⟩
    rw [hc, hd] at HT
    clear h
    have cc : (((c.toNat : Int) == 100) = true ∨ (((c.toNat : Int) == 100) = false ∧ ((c.toNat : Int) == 68) = true)) ∨ (((c.toNat : Int) == 100) = false ∧ ((c.toNat : Int) == 68) = false) := by
      by_cases e1 : ((c.toNat : Int) == 100) = true
      · exact Or.inl (Or.inl e1)
      · have e1 : ((c.toNat : Int) == 100) = false := by simpa using e1
        by_cases e2 : ((c.toNat : Int) == 68) = true
        · exact Or.inl (Or.inr ⟨e1, e2⟩)
        · exact Or.inr ⟨e1, by simpa using e2⟩
    have dd : (((d.toNat : Int) == 110) = true ∨ (((d.toNat : Int) == 110) = false ∧ ((d.toNat : Int) == 78) = true)) ∨ (((d.toNat : Int) == 110) = false ∧ ((d.toNat : Int) == 78) = false) := by
      by_cases e1 : ((d.toNat : Int) == 110) = true
      · exact Or.inl (Or.inl e1)
      · have e1 : ((d.toNat : Int) == 110) = false := by simpa using e1
        by_cases e2 : ((d.toNat : Int) == 78) = true
        · exact Or.inl (Or.inr ⟨e1, e2⟩)
        · exact Or.inr ⟨e1, by simpa using e2⟩
    rcases cc with (c1 | ⟨c1, c2⟩) | ⟨c1, c2⟩ <;> rcases dd with (d1 | ⟨d1, d2⟩) | ⟨d1, d2⟩
    all_goals
      go_enter Tryd.func12, Tryd.ntmps12
      go_wp2_with fail
      go_ret
      refine ⟨kt.ret_bool (HT.out _ ?_), rfl⟩
      simp only [beq_iff_eq, beq_eq_false_iff_ne] at *
      first | (simp only [true_iff]; omega) | (simp only [false_iff, Bool.false_eq_true]; omega)
  · have HT := Lib.hid (isDn_len h)
    have e2 : ((s.size : Int) == 2) = false := by rw [beq_eq_false_iff_ne]; omega
    clear h
    go_enter Tryd.func12, Tryd.ntmps12
    go_wp2_with fail
    go_ret
    exact ⟨kt.ret_bool HT.out, rfl⟩
set_option maxRecDepth 20000 in
set_option maxHeartbeats 4000000 in
theorem rtype_any (s : ByteArray) (w : World) (hs : s.size ≤ 1000000) : Calls Tryd.prog 25 #[.string s] w fun e w' => e = .returned (.bool (typeOK s.data.toList)) ∧ w = w' := by
  have HL : Hid (s.size = 0 ∨ 64 < s.size → false = typeOK s.data.toList) := typeOK_len
  by_cases h0 : s.size < 1
  · obtain rfl := zero_s (s := s) (by omega)
    clear h0
    go_enter Tryd.func25, Tryd.ntmps25
    go_wp2_with fail
    go_ret
    exact ⟨kt.ret_bool (HL.out (Or.inl rfl)), rfl⟩
  have h0' : decide ((s.size : Int) < 1) = false := by rw [decide_eq_false_iff_not]; omega
  by_cases h1 : 64 < s.size
  · have h1' : 64 < (s.size : Int) := by omega
    go_enter Tryd.func25, Tryd.ntmps25
    go_wp2_with fail
    go_ret
    exact ⟨kt.ret_bool (HL.out (Or.inr (by omega))), rfl⟩
  have hpos : 0 < s.size := by omega
  have hpos' : (0 : Int) < (s.size : Int) := by omega
  have h1' : decide (64 < (s.size : Int)) = false := by rw [decide_eq_false_iff_not]; omega
  obtain ⟨c0, hc0⟩ : ∃ c, s[0]'hpos = c := ⟨_, rfl⟩
  have HN0 : Hid (¬ tyAt 0 c0 → false = typeOK s.data.toList) := fun h => typeOK_no hpos (by rw [hc0]; exact h)
  have HN : Hid (∀ k (hk : k < s.size), ¬ tyAt k s[k] → false = typeOK s.data.toList) := fun k hk h => typeOK_no hk h
  have HZ : Hid (∀ k (hk : k < s.size), k = 0 → s[k] = c0) := fun k hk e => by subst e; exact hc0
  have HE : Hid ((∀ k (hk : k < s.size), tyAt k s[k]) → true = typeOK s.data.toList) := fun h => typeOK_end h (by omega) (by omega)
  have hcn0 := c0.toNat_lt
  have hpart : (((c0.toNat : Int) == 45) = true) ∨ (((c0.toNat : Int) == 45) = false ∧ 48 ≤ (c0.toNat : Int) ∧ (c0.toNat : Int) ≤ 57) ∨ (((c0.toNat : Int) == 45) = false ∧ (c0.toNat : Int) < 48) ∨ (((c0.toNat : Int) == 45) = false ∧ 48 ≤ (c0.toNat : Int) ∧ decide ((c0.toNat : Int) ≤ 57) = false) := by
    simp only [beq_iff_eq, beq_eq_false_iff_ne, decide_eq_false_iff_not]
    omega
  clear HL h0 h1
  rcases hpart with q1 | ⟨q1, q2, q3⟩ | ⟨q1, q2⟩ | ⟨q1, q2, q3⟩
  · go_enter Tryd.func25, Tryd.ntmps25
    go_wp2_with fail
    go_ret
    exact ⟨kt.ret_bool (HN0.out (by unfold tyAt; simp only [beq_iff_eq] at q1; omega)), rfl⟩
  · go_enter Tryd.func25, Tryd.ntmps25
    go_wp2_with fail
    go_ret
    exact ⟨kt.ret_bool (HN0.out (by unfold tyAt; simp only [beq_eq_false_iff_ne] at q1; omega)), rfl⟩
  all_goals
    have HC0 : Hid (¬ (c0.toNat : Int) = 45 ∧ ((c0.toNat : Int) < 48 ∨ 57 < (c0.toNat : Int))) := by
      show _ ∧ _
      simp only [beq_eq_false_iff_ne] at q1
      (try simp only [decide_eq_false_iff_not] at q3)
      omega
    go_enter Tryd.func25, Tryd.ntmps25
    go_wp2_with fail
    clear q1 q2
    (try clear q3)
    go_loop [3, 4] (fun iv _ => ∃ k : Nat, k ≤ s.size ∧ iv = .int .i64 (k : Int) ∧ Hid (∀ j (hj : j < s.size), j < k → tyAt j s[j])) (fun iv _ => s.size - (intOf iv).toNat)
    case atStart => exact ⟨0, Nat.zero_le _, rfl, fun j hj h => by omega⟩
    case round =>
      obtain ⟨k, hk, rfl, hA⟩ := hrel
      by_cases hlt : k < s.size
      · have hlt' : (k : Int) < (s.size : Int) := by omega
        have HA : Hid (tyAt k (s[k]'hlt) → ∀ j (hj : j < s.size), j < k + 1 → tyAt j s[j]) := by
          intro ht j hj h
          by_cases e : j = k
          · subst e; exact ht
          · exact hA.out j hj (by omega)
        have HN1 := Lib.hid (HN.out k hlt)
        have HZ1 : Hid (k = 0 → ¬ ((s[k]'hlt).toNat : Int) = 45 ∧ (((s[k]'hlt).toNat : Int) < 48 ∨ 57 < ((s[k]'hlt).toNat : Int))) := by
          intro e
          rw [HZ.out k hlt e]; exact HC0.out
        clear hc0
        obtain ⟨c, hc⟩ : ∃ c, s[k]'hlt = c := ⟨_, rfl⟩
        rw [hc] at HA HN1 HZ1
        have hcn := c.toNat_lt
        go_wp2_with fail
        all_goals first
          | (go_ret; exact ⟨kt.ret_bool (HN1.out (by unfold tyAt; omega)), rfl⟩)
          | (go_ret; exact ⟨kt.ret_bool (HN1.out (by unfold tyAt; simp only [Bool.not_eq_true', Bool.not_eq_false', Bool.or_eq_true, Bool.and_eq_true, Bool.or_eq_false_iff, Bool.and_eq_false_iff, decide_eq_true_eq, decide_eq_false_iff_not, beq_iff_eq, bne_iff_ne, bne_eq_false_iff_eq, beq_eq_false_iff_ne, ne_eq, Classical.not_not] at *; omega)), rfl⟩)
          | (go_round
             case rel => exact ⟨k + 1, by omega, by go_num, HA.out (by have hz := HZ1.out; unfold tyAt; first | omega | (simp only [Bool.not_eq_true', Bool.not_eq_false', Bool.or_eq_true, Bool.and_eq_true, Bool.or_eq_false_iff, Bool.and_eq_false_iff, decide_eq_true_eq, decide_eq_false_iff_not, beq_iff_eq, bne_iff_ne, bne_eq_false_iff_eq, beq_eq_false_iff_ne, ne_eq, Classical.not_not] at *; omega))⟩
             case measure => simp [intOf]; omega)
          | (exfalso; simp only [Bool.not_eq_true', Bool.not_eq_false', Bool.or_eq_true, Bool.and_eq_true, Bool.or_eq_false_iff, Bool.and_eq_false_iff, decide_eq_true_eq, decide_eq_false_iff_not, beq_iff_eq, bne_iff_ne, bne_eq_false_iff_eq, beq_eq_false_iff_ne, ne_eq, Classical.not_not] at *; omega)
      · obtain rfl : k = s.size := by omega
        have HH : Hid (true = typeOK s.data.toList) := HE.out (fun j hj => hA.out j hj hj)
        clear hc0
        go_wp2_with fail
        go_ret
        exact ⟨kt.ret_bool HH.out, rfl⟩
set_option maxRecDepth 20000 in
set_option maxHeartbeats 4000000 in
theorem rplain_any (s : ByteArray) (w : World) (hs : s.size ≤ 1000000) : Calls Tryd.prog 27 #[.string s] w fun e w' => e = .returned (.bool (plainOK s.data.toList)) ∧ w = w' := by
  have HN : Hid (∀ k (hk : k < s.size), ¬ plAt k s[k] → false = plainOK s.data.toList) := fun k hk h => plainOK_no hk h
  have HE : Hid ((∀ k (hk : k < s.size), plAt k s[k]) → true = plainOK s.data.toList) := fun h => plainOK_end h
  go_enter Tryd.func27, Tryd.ntmps27
  go_wp2_with fail
  go_loop [3] (fun iv => ∃ k : Nat, k ≤ s.size ∧ iv = .int .i64 (k : Int) ∧ Hid (∀ j (hj : j < s.size), j < k → plAt 1 s[j])) (fun iv => s.size - (intOf iv).toNat)
  case atStart => exact ⟨0, Nat.zero_le _, rfl, fun j hj h => by omega⟩
  case round =>
    obtain ⟨k, hk, rfl, hA⟩ := hrel
    by_cases hlt : k < s.size
    · have hlt' : (k : Int) < (s.size : Int) := by omega
      have HA : Hid (plAt 1 (s[k]'hlt) → ∀ j (hj : j < s.size), j < k + 1 → plAt 1 s[j]) := by
        intro ht j hj h
        by_cases e : j = k
        · subst e; exact ht
        · exact hA.out j hj (by omega)
      have HN1 := Lib.hid (HN.out k hlt)
      obtain ⟨c, hc⟩ : ∃ c, s[k]'hlt = c := ⟨_, rfl⟩
      rw [hc] at HA HN1
      have hcn := c.toNat_lt
      go_wp2_with fail
      all_goals first
        | (go_ret; exact ⟨kt.ret_bool (HN1.out (by unfold plAt; omega)), rfl⟩)
        | (go_ret; exact ⟨kt.ret_bool (HN1.out (by unfold plAt; simp only [Bool.not_eq_true', Bool.not_eq_false', Bool.or_eq_true, Bool.and_eq_true, Bool.or_eq_false_iff, Bool.and_eq_false_iff, decide_eq_true_eq, decide_eq_false_iff_not, beq_iff_eq, bne_iff_ne, bne_eq_false_iff_eq, beq_eq_false_iff_ne, ne_eq, Classical.not_not] at *; omega)), rfl⟩)
        | (go_round
           case rel => exact ⟨k + 1, by omega, by go_num, HA.out (by unfold plAt; first | omega | (simp only [Bool.not_eq_true', Bool.not_eq_false', Bool.or_eq_true, Bool.and_eq_true, Bool.or_eq_false_iff, Bool.and_eq_false_iff, decide_eq_true_eq, decide_eq_false_iff_not, beq_iff_eq, bne_iff_ne, bne_eq_false_iff_eq, beq_eq_false_iff_ne, ne_eq, Classical.not_not] at *; omega))⟩
           case measure => simp [intOf]; omega)
        | (exfalso; simp only [Bool.not_eq_true', Bool.not_eq_false', Bool.or_eq_true, Bool.and_eq_true, Bool.or_eq_false_iff, Bool.and_eq_false_iff, decide_eq_true_eq, decide_eq_false_iff_not, beq_iff_eq, bne_iff_ne, bne_eq_false_iff_eq, beq_eq_false_iff_ne, ne_eq, Classical.not_not] at *; omega)
    · obtain rfl : k = s.size := by omega
      have HEE : Hid ((∀ h : 0 < s.size, plAt 0 s[0]) → true = plainOK s.data.toList) := by
        intro h0
        refine HE.out (fun j hj => ?_)
        by_cases e : j = 0
        · subst e; exact h0 hj
        · have h1 := hA.out j hj hj
          unfold plAt at h1 ⊢
          omega
      have HF : Hid (∀ h : 0 < s.size, plAt 1 s[0]) := fun h => hA.out 0 h h
      clear hA HE
      by_cases h0 : s.size = 0
      · obtain rfl := zero_s h0
        clear h0
        go_wp2_with fail
        go_ret
        exact ⟨kt.ret_bool (HEE.out (fun h => by cases h)), rfl⟩
      · have hpos : 0 < s.size := by omega
        have hpos' : (0 : Int) < (s.size : Int) := by omega
        have hn0 : ((s.size : Int) == 0) = false := by rw [beq_eq_false_iff_ne]; omega
        have HN1 := Lib.hid (HN.out 0 hpos)
        have HF1 := Lib.hid (HF.out hpos)
        have HE1 : Hid (plAt 0 (s[0]'hpos) → true = plainOK s.data.toList) := fun h => HEE.out (fun _ => h)
        obtain ⟨c, hc⟩ : ∃ c, s[0]'hpos = c := ⟨_, rfl⟩
        rw [hc] at HE1 HN1 HF1
        have hcn := c.toNat_lt
        clear h0
        have hpart : (((c.toNat : Int) != 32) = false ∧ ((c.toNat : Int) = 32)) ∨ (((c.toNat : Int) != 32) = true ∧ ((c.toNat : Int) != 58) = false ∧ ((c.toNat : Int) = 58)) ∨ (((c.toNat : Int) != 32) = true ∧ ((c.toNat : Int) != 58) = true ∧ ((c.toNat : Int) != 60) = false ∧ ((c.toNat : Int) = 60)) ∨ (((c.toNat : Int) != 32) = true ∧ ((c.toNat : Int) != 58) = true ∧ ((c.toNat : Int) != 60) = true) := by
          simp only [bne_iff_ne, bne_eq_false_iff_eq]
          omega
        rcases hpart with ⟨q1, e⟩ | ⟨q1, q2, e⟩ | ⟨q1, q2, q3, e⟩ | ⟨q1, q2, q3⟩
        case inr.inr.inr =>
          have HH := Lib.hid (HE1.out (by have := HF1.out; unfold plAt at this ⊢; simp only [bne_iff_ne] at q1 q2 q3; omega))
          go_wp2_with fail
          go_ret
          exact ⟨kt.ret_bool HH.out, rfl⟩
        all_goals
          have HH := Lib.hid (HN1.out (by unfold plAt; omega))
          clear e
          go_wp2_with fail
          go_ret
          exact ⟨kt.ret_bool HH.out, rfl⟩
end ldw
end Go.Proofs.YtifplgnabkkbjaaDoor
