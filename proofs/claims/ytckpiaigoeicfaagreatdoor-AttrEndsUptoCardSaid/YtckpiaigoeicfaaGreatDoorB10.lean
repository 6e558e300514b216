/- One text out of several: NumW, NumV, PhoneW, FormW, RPhoneW, RNormW, HoldW. -/
import Derived.Test.YtckpiaigoeicfaaGreatDoorB9
import Derived.Test.YtckpiaigoeicfaaGreatDoorB8
import Derived.Test.YtckpiaigoeicfaaGreatDoorRows
import Derived.Test.YtckpiaigoeicfaaGreatDoorB3
import Derived.Test.YtckpiaigoeicfaaGreatDoorB5
import Derived.Test.YtckpiaigoeicfaaGreatDoorB7
/-! NumW -/
namespace Go.Proofs.YtckpiaigoeicfaaGreatDoor
open Go.RowKit
namespace atw
open atp
set_option linter.unusedVariables false
set_option linter.unusedSimpArgs false
theorem num_eq {l : List UInt8} (h : l ≠ [48]) : numOK l = (decide (1 ≤ (bare l).length) && decide ((bare l).length ≤ 18) && decide ((bare l).head? ≠ some 48) && (bare l).all digit) := by
  unfold numOK
  rw [decide_eq_false h, Bool.false_or]
theorem num_len {l : List UInt8} (h : l ≠ [48]) (h1 : (bare l).length = 0 ∨ 18 < (bare l).length) : false = numOK l := by
  rw [num_eq h]
  rcases h1 with h1 | h1
  · rw [h1]; rfl
  · rw [decide_eq_false (p := (bare l).length ≤ 18) (by omega)]; simp
theorem num_zero {l : List UInt8} (h : l ≠ [48]) (h1 : (bare l).head? = some 48) : false = numOK l := by
  rw [num_eq h, h1]; simp
theorem num_bad {l : List UInt8} {c : UInt8} (h : l ≠ [48]) (hc : c ∈ bare l) (hd : ¬ (48 ≤ (c.toNat : Int) ∧ (c.toNat : Int) ≤ 57)) : false = numOK l := by
  rw [num_eq h]
  have : (bare l).all digit = false := by
    rw [Bool.eq_false_iff]
    intro e
    have := List.all_eq_true.1 e c hc
    unfold digit at this
    rw [decide_eq_true_iff] at this
    omega
  rw [this]; simp
theorem num_yes {l : List UInt8} (h : l ≠ [48]) (h1 : 1 ≤ (bare l).length) (h2 : (bare l).length ≤ 18) (h3 : (bare l).head? ≠ some 48) (h4 : ∀ c ∈ bare l, 48 ≤ (c.toNat : Int) ∧ (c.toNat : Int) ≤ 57) : true = numOK l := by
  rw [num_eq h, decide_eq_true h1, decide_eq_true h2, decide_eq_true h3]
  symm
  simp only [Bool.true_and]
  rw [List.all_eq_true]
  intro c hc
  have := h4 c hc
  unfold digit
  rw [decide_eq_true_iff]
  omega
theorem ne_s {s : ByteArray} (h : 0 < s.size) : ∃ t, s.data.toList = s[0] :: t := by
  refine ⟨s.data.toList.drop 1, ?_⟩
  have := List.drop_eq_getElem_cons (l := s.data.toList) (i := 0) (by simpa using h)
  rw [List.drop_zero] at this
  exact this
theorem head_s {s : ByteArray} (h : 0 < s.size) : s.data.toList.head? = some s[0] := by
  obtain ⟨t, ht⟩ := ne_s h
  rw [ht]; rfl
theorem tail_s {s t : ByteArray} (h : s.extract 1 s.size = t) : t.data.toList = s.data.toList.tail := by
  rw [← h, Lib.extract_to_end]; simp
theorem mem_s {s : ByteArray} {k : Nat} (h : k < s.size) : s[k] ∈ s.data.toList := by
  have : s.data.toList[k]'(by simpa using h) ∈ s.data.toList := List.getElem_mem _
  exact this
theorem zero_s {s : ByteArray} (h0 : s.size = 0) : s = ByteArray.empty := by
  apply kt.str_eq
  have : s.data.toList.length = 0 := by simpa using h0
  rw [List.eq_nil_of_length_eq_zero this]; rfl
theorem u8_of {c : UInt8} {n : Nat} (hn : n < 256) (h : (c.toNat : Int) = n) : c = UInt8.ofNat n := by
  apply UInt8.toNat_inj.1
  rw [UInt8.toNat_ofNat']
  omega
set_option maxRecDepth 20000 in
set_option maxHeartbeats 8000000 in
theorem rnumber_any (s : ByteArray) (w : World) (hs : s.size ≤ 1100000) : Calls Tryz.prog 44 #[.string s] w fun e w' => e = .returned (.bool (numOK s.data.toList)) ∧ w = w' := by
  by_cases h0 : s.data.toList = [48]
  · have HF : Hid (true = numOK s.data.toList) := by rw [h0]; exact (by decide : true = numOK [48])
    have q0 : (s.toList == [48]) = true := by rw [Lib.toList_data, h0]; rfl
    clear h0
    go_enter Tryz.func44, Tryz.ntmps44
    go_wp2_with fail
    go_ret
    exact ⟨kt.ret_bool HF.out, rfl⟩
  · have hne := h0
    have q0 : (s.toList == [48]) = false := by rw [Lib.toList_data]; simpa using h0
    clear h0
    by_cases hz : s.size = 0
    · obtain rfl := zero_s hz
      have HF := Lib.hid (num_len hne (Or.inl rfl))
      clear hz hne
      go_enter Tryz.func44, Tryz.ntmps44
      go_wp2_with fail
      go_ret
      exact ⟨kt.ret_bool HF.out, rfl⟩
    · have hsp : 0 < s.size := by omega
      have hspI : (0 : Int) < (s.size : Int) := by omega
      have hs1I : (1 : Int) ≤ (s.size : Int) := by omega
      have hs1 : 1 ≤ s.size := hsp
      have hhd := head_s hsp
      by_cases h45 : ((s[0]'hsp).toNat : Int) = 45
      · obtain ⟨x, hx⟩ : ∃ x, s.extract 1 s.size = x := ⟨_, rfl⟩
        have hbx : bare s.data.toList = x.data.toList := by
          rw [tail_s hx]
          unfold bare
          rw [if_pos (by rw [hhd, u8_of (n := 45) (by omega) h45]; rfl)]
        have hxs : x.size ≤ 1100000 := by rw [← kt.size_len, tail_s hx, List.length_tail, kt.size_len]; omega
        obtain ⟨d0, hd0⟩ : ∃ c, s[0]'hsp = c := ⟨_, rfl⟩
        rw [hd0] at h45
        have q1 : ((d0.toNat : Int) == 45) = true := by rw [beq_iff_eq]; exact h45
        clear h45 hz hhd
        by_cases hx0 : x.size = 0
        · have HF := Lib.hid (num_len hne (Or.inl (by rw [hbx, kt.size_len]; exact hx0)))
          have hx1 : (x.size : Int) = 0 := by omega
          clear hx0 hbx hne
          go_enter Tryz.func44, Tryz.ntmps44
          go_wp2_with fail
          go_ret
          exact ⟨kt.ret_bool HF.out, rfl⟩
        by_cases hx18 : 18 < x.size
        · have HF := Lib.hid (num_len hne (Or.inr (by rw [hbx, kt.size_len]; exact hx18)))
          have hx1 : (18 : Int) < (x.size : Int) := by omega
          have hx2 : decide ((x.size : Int) < 1) = false := by rw [decide_eq_false_iff_not]; omega
          clear hx0 hx18 hbx hne
          go_enter Tryz.func44, Tryz.ntmps44
          go_wp2_with fail
          go_ret
          exact ⟨kt.ret_bool HF.out, rfl⟩
        have hxp : 0 < x.size := by omega
        have hxpI : (0 : Int) < (x.size : Int) := by omega
        have hx1 : decide ((18 : Int) < (x.size : Int)) = false := by rw [decide_eq_false_iff_not]; omega
        have hx2 : decide ((x.size : Int) < 1) = false := by rw [decide_eq_false_iff_not]; omega
        obtain ⟨c0, hc0⟩ : ∃ c, x[0]'hxp = c := ⟨_, rfl⟩
        by_cases h48 : (c0.toNat : Int) = 48
        · have HF := Lib.hid (num_zero hne (by rw [hbx, head_s hxp, hc0, u8_of (n := 48) (by omega) h48]; rfl))
          have q : ((c0.toNat : Int) == 48) = true := by rw [beq_iff_eq]; exact h48
          clear hx0 hx18 hbx hne h48
          go_enter Tryz.func44, Tryz.ntmps44
          go_wp2_with fail
          go_ret
          exact ⟨kt.ret_bool HF.out, rfl⟩
        have q : ((c0.toNat : Int) == 48) = false := by rw [beq_eq_false_iff_ne]; exact h48
        have HB : Hid (∀ k (hk : k < x.size), ¬ (48 ≤ (x[k].toNat : Int) ∧ (x[k].toNat : Int) ≤ 57) → false = numOK s.data.toList) := fun k hk h => num_bad hne (by rw [hbx]; exact mem_s hk) h
        have HY : Hid ((∀ k (hk : k < x.size), 48 ≤ (x[k].toNat : Int) ∧ (x[k].toNat : Int) ≤ 57) → true = numOK s.data.toList) := by
          intro h
          refine num_yes hne (by rw [hbx, kt.size_len]; omega) (by rw [hbx, kt.size_len]; omega) (by rw [hbx, head_s hxp, hc0]; intro e; apply h48; rw [Option.some.injEq] at e; rw [e]; rfl) ?_
          intro c hc
          rw [hbx] at hc
          obtain ⟨k, hk, rfl⟩ := List.mem_iff_getElem.1 hc
          exact h k (by simpa using hk)
        clear hx0 hx18 hbx hne h48
        go_enter Tryz.func44, Tryz.ntmps44
        go_wp2_with fail
        go_loop [3] (fun iv => ∃ k : Nat, k ≤ x.size ∧ iv = .int .i64 (k : Int) ∧ Hid (∀ j (hj : j < x.size), j < k → 48 ≤ (x[j].toNat : Int) ∧ (x[j].toNat : Int) ≤ 57)) (fun iv => x.size - (intOf iv).toNat)
        case atStart => exact ⟨0, Nat.zero_le _, rfl, fun j hj h => by omega⟩
        case round =>
          obtain ⟨k, hk, rfl, hA⟩ := hrel
          by_cases hlt : k < x.size
          · have hlt' : (k : Int) < (x.size : Int) := by omega
            have HA : Hid (48 ≤ ((x[k]'hlt).toNat : Int) ∧ ((x[k]'hlt).toNat : Int) ≤ 57 → ∀ j (hj : j < x.size), j < k + 1 → 48 ≤ (x[j].toNat : Int) ∧ (x[j].toNat : Int) ≤ 57) := by
              intro ht j hj h
              by_cases e : j = k
              · subst e; exact ht
              · exact hA.out j hj (by omega)
            have HN := Lib.hid (HB.out k hlt)
            clear hc0
            obtain ⟨c, hc⟩ : ∃ c, x[k]'hlt = c := ⟨_, rfl⟩
            rw [hc] at HA HN
            have hcn := c.toNat_lt
            go_wp2_with fail
            all_goals first
              | (go_ret; exact ⟨kt.ret_bool (HN.out (by omega)), rfl⟩)
              | (go_round
                 case rel => exact ⟨k + 1, by omega, by go_num, HA.out (by omega)⟩
                 case measure => simp [intOf]; omega)
              | (exfalso; simp only [Bool.not_eq_true', Bool.not_eq_false', Bool.or_eq_true, Bool.and_eq_true, Bool.or_eq_false_iff, Bool.and_eq_false_iff, decide_eq_true_eq, decide_eq_false_iff_not, beq_iff_eq, bne_iff_ne, bne_eq_false_iff_eq, beq_eq_false_iff_ne, ne_eq, Classical.not_not] at *; omega)
          · obtain rfl : k = x.size := by omega
            have HE := Lib.hid (HY.out (fun j hj => hA.out j hj hj))
            clear hc0
            go_wp2_with fail
            go_ret
            exact ⟨kt.ret_bool HE.out, rfl⟩
      · obtain ⟨x, rfl⟩ : ∃ x, x = s := ⟨_, rfl⟩
        have s := x
        have hbx : bare x.data.toList = x.data.toList := by
          unfold bare
          rw [if_neg]
          rw [hhd]
          intro e
          apply h45
          rw [Option.some.injEq] at e
          rw [e]; rfl
        obtain ⟨d0, hd0⟩ : ∃ c, x[0]'hsp = c := ⟨_, rfl⟩
        rw [hd0] at h45
        have q1 : ((d0.toNat : Int) == 45) = false := by rw [beq_eq_false_iff_ne]; exact h45
        clear h45 hz hhd
        by_cases hx0 : x.size = 0
        · have HF := Lib.hid (num_len hne (Or.inl (by rw [hbx, kt.size_len]; exact hx0)))
          have hx1 : (x.size : Int) = 0 := by omega
          clear hx0 hbx hne
          go_enter Tryz.func44, Tryz.ntmps44
          go_wp2_with fail
          go_ret
          exact ⟨kt.ret_bool HF.out, rfl⟩
        by_cases hx18 : 18 < x.size
        · have HF := Lib.hid (num_len hne (Or.inr (by rw [hbx, kt.size_len]; exact hx18)))
          have hx1 : (18 : Int) < (x.size : Int) := by omega
          have hx2 : decide ((x.size : Int) < 1) = false := by rw [decide_eq_false_iff_not]; omega
          clear hx0 hx18 hbx hne
          go_enter Tryz.func44, Tryz.ntmps44
          go_wp2_with fail
          go_ret
          exact ⟨kt.ret_bool HF.out, rfl⟩
        have hxp : 0 < x.size := by omega
        have hxpI : (0 : Int) < (x.size : Int) := by omega
        have hx1 : decide ((18 : Int) < (x.size : Int)) = false := by rw [decide_eq_false_iff_not]; omega
        have hx2 : decide ((x.size : Int) < 1) = false := by rw [decide_eq_false_iff_not]; omega
        obtain ⟨c0, rfl⟩ : ∃ c, c = d0 := ⟨_, rfl⟩
        have hc0 : x[0]'hxp = c0 := hd0
        by_cases h48 : (c0.toNat : Int) = 48
        · have HF := Lib.hid (num_zero hne (by rw [hbx, head_s hxp, hc0, u8_of (n := 48) (by omega) h48]; rfl))
          have q : ((c0.toNat : Int) == 48) = true := by rw [beq_iff_eq]; exact h48
          clear hx0 hx18 hbx hne h48
          go_enter Tryz.func44, Tryz.ntmps44
          go_wp2_with fail
          go_ret
          exact ⟨kt.ret_bool HF.out, rfl⟩
        have q : ((c0.toNat : Int) == 48) = false := by rw [beq_eq_false_iff_ne]; exact h48
        have HB : Hid (∀ k (hk : k < x.size), ¬ (48 ≤ (x[k].toNat : Int) ∧ (x[k].toNat : Int) ≤ 57) → false = numOK x.data.toList) := fun k hk h => num_bad hne (by rw [hbx]; exact mem_s hk) h
        have HY : Hid ((∀ k (hk : k < x.size), 48 ≤ (x[k].toNat : Int) ∧ (x[k].toNat : Int) ≤ 57) → true = numOK x.data.toList) := by
          intro h
          refine num_yes hne (by rw [hbx, kt.size_len]; omega) (by rw [hbx, kt.size_len]; omega) (by rw [hbx, head_s hxp, hc0]; intro e; apply h48; rw [Option.some.injEq] at e; rw [e]; rfl) ?_
          intro c hc
          rw [hbx] at hc
          obtain ⟨k, hk, rfl⟩ := List.mem_iff_getElem.1 hc
          exact h k (by simpa using hk)
        clear hx0 hx18 hbx hne h48
        go_enter Tryz.func44, Tryz.ntmps44
        go_wp2_with fail
        go_loop [3] (fun iv => ∃ k : Nat, k ≤ x.size ∧ iv = .int .i64 (k : Int) ∧ Hid (∀ j (hj : j < x.size), j < k → 48 ≤ (x[j].toNat : Int) ∧ (x[j].toNat : Int) ≤ 57)) (fun iv => x.size - (intOf iv).toNat)
        case atStart => exact ⟨0, Nat.zero_le _, rfl, fun j hj h => by omega⟩
        case round =>
          obtain ⟨k, hk, rfl, hA⟩ := hrel
          by_cases hlt : k < x.size
          · have hlt' : (k : Int) < (x.size : Int) := by omega
            have HA : Hid (48 ≤ ((x[k]'hlt).toNat : Int) ∧ ((x[k]'hlt).toNat : Int) ≤ 57 → ∀ j (hj : j < x.size), j < k + 1 → 48 ≤ (x[j].toNat : Int) ∧ (x[j].toNat : Int) ≤ 57) := by
              intro ht j hj h
              by_cases e : j = k
              · subst e; exact ht
              · exact hA.out j hj (by omega)
            have HN := Lib.hid (HB.out k hlt)
            clear hc0 hd0
            obtain ⟨c, hc⟩ : ∃ c, x[k]'hlt = c := ⟨_, rfl⟩
            rw [hc] at HA HN
            have hcn := c.toNat_lt
            go_wp2_with fail
            all_goals first
              | (go_ret; exact ⟨kt.ret_bool (HN.out (by omega)), rfl⟩)
              | (go_round
                 case rel => exact ⟨k + 1, by omega, by go_num, HA.out (by omega)⟩
                 case measure => simp [intOf]; omega)
              | (exfalso; simp only [Bool.not_eq_true', Bool.not_eq_false', Bool.or_eq_true, Bool.and_eq_true, Bool.or_eq_false_iff, Bool.and_eq_false_iff, decide_eq_true_eq, decide_eq_false_iff_not, beq_iff_eq, bne_iff_ne, bne_eq_false_iff_eq, beq_eq_false_iff_ne, ne_eq, Classical.not_not] at *; omega)
          · obtain rfl : k = x.size := by omega
            have HE := Lib.hid (HY.out (fun j hj => hA.out j hj hj))
            clear hc0 hd0
            go_wp2_with fail
            go_ret
            exact ⟨kt.ret_bool HE.out, rfl⟩
theorem worthN_snoc (l : List UInt8) (c : UInt8) : worthN (l ++ [c]) = 10 * worthN l + (c.toNat - 48) := by
  unfold worthN
  rw [List.foldl_append]
  rfl
theorem take_snocB (s : ByteArray) (k : Nat) (h : k < s.size) : s.data.toList.take (k + 1) = s.data.toList.take k ++ [s[k]] := kt.take_snoc s k h
end atw
end Go.Proofs.YtckpiaigoeicfaaGreatDoor
/-! NumV -/
namespace Go.Proofs.YtckpiaigoeicfaaGreatDoor
open Go.RowKit
namespace atw
open atp
set_option linter.unusedVariables false
set_option linter.unusedSimpArgs false
theorem str_ne {s : ByteArray} (h : 0 < s.size) : s.toList.isEmpty = false ∧ ¬ s.toList = [] := by
  rw [Lib.toList_data]
  obtain ⟨t, ht⟩ := ne_s h
  rw [ht]
  exact ⟨rfl, by simp⟩
theorem pre_one (l : List UInt8) (c : UInt8) : Lib.hasPrefix l [c] = decide (l.head? = some c) := by
  unfold Lib.hasPrefix
  cases l with
  | nil => simp [List.isPrefixOf]
  | cons d t =>
    simp only [List.isPrefixOf, Bool.and_true, List.head?_cons, Option.some.injEq]
    rw [Bool.eq_iff_iff, beq_iff_eq, decide_eq_true_iff]
    exact eq_comm
theorem trim_45 (l : List UInt8) : Lib.trimPrefix l [45] = bare l := by
  unfold Lib.trimPrefix bare
  rw [pre_one]
  by_cases h : l.head? = some 45
  · rw [if_pos (by simpa using h), if_pos h]; simp
  · rw [if_neg (by simpa using h), if_neg h]
set_option maxRecDepth 20000 in
set_option maxHeartbeats 8000000 in
theorem number_any (s : ByteArray) (w : World) (hs : s.size ≤ 1100000) : Calls Tryz.prog 68 #[.string s] w fun e w' => e = .returned (.bool (numOK s.data.toList)) ∧ w = w' := by
  obtain ⟨x, hx⟩ : ∃ x, x = bs (bare s.data.toList) := ⟨_, rfl⟩
  have HBX : Hid (bare s.data.toList = x.data.toList) := by rw [hx]; rfl
  have hxs : x.size ≤ 1100000 := by
    rw [hx, bs_size]
    unfold bare
    split
    · rw [List.length_tail, kt.size_len]; omega
    · rw [kt.size_len]; exact hs
  have HTP : Hid (∀ w, Calls Tryz.prog 95 #[.string s, .string ⟨#[45]⟩] w fun e w' => e = .returned (.string x) ∧ w = w') := by
    intro w
    refine (Tryz.strings_TrimPrefix s ⟨#[45]⟩ w).mono ?_
    rintro e w' ⟨rfl, rfl⟩
    refine ⟨?_, rfl⟩
    rw [hx]
    show Ending.returned (.string (bs (Lib.trimPrefix s.data.toList [45]))) = _
    rw [trim_45]
  clear hx
  by_cases h0 : s.data.toList = [48]
  · have hne := trivial
    have hbx : bare s.data.toList = x.data.toList := HBX.out
    have hxs1 : x.data.toList = [48] := by rw [← hbx, h0]; rfl
    have hx1s : x.size = 1 := by rw [← kt.size_len, hxs1]; rfl
    have hxp : 0 < x.size := by omega
    obtain ⟨xe1, xe2⟩ := str_ne hxp
    have hxpI : (0 : Int) < (x.size : Int) := by omega
    have hx1 : decide ((18 : Int) < (x.size : Int)) = false := by rw [decide_eq_false_iff_not]; omega
    obtain ⟨c0, hc0⟩ : ∃ c, x[0]'hxp = c := ⟨_, rfl⟩
    have hc48 : c0 = 48 := by
      have := head_s hxp
      rw [hxs1, hc0] at this
      simpa using this.symm
    have q : ((c0.toNat : Int) == 48) = true := by rw [hc48]; rfl
    have q0 : (s.toList == [48]) = true := by rw [Lib.toList_data, h0]; rfl
    have HNY : Hid (true = numOK s.data.toList) := by rw [h0]; exact (by decide : true = numOK [48])
    have HB : Hid (∀ k (hk : k < x.size), ¬ (48 ≤ (x[k].toNat : Int) ∧ (x[k].toNat : Int) ≤ 57) → false = numOK s.data.toList) := by
      intro k hk h
      exfalso
      obtain rfl : k = 0 := by omega
      rw [hc0, hc48] at h
      exact h (by decide)
    have HY : Hid ((∀ k (hk : k < x.size), 48 ≤ (x[k].toNat : Int) ∧ (x[k].toNat : Int) ≤ 57) → true = numOK s.data.toList) := fun _ => HNY.out
    have hxs9 := Lib.hid hx1s
    clear h0 hxs1 hx1s hc48 hbx hne
    go_enter Tryz.func68, Tryz.ntmps68
    go_wp2_with fail
    refine (HTP.out _).mono ?_
    rintro e w1 ⟨rfl, rfl⟩
    go_wp2_with fail
    go_loop [4, 25] (fun _ iv => ∃ k : Nat, k ≤ x.size ∧ iv = .int .i64 (k : Int) ∧ Hid (∀ j (hj : j < x.size), j < k → 48 ≤ (x[j].toNat : Int) ∧ (x[j].toNat : Int) ≤ 57)) (fun _ iv => x.size - (intOf iv).toNat)
    case atStart => exact ⟨0, Nat.zero_le _, rfl, fun j hj h => by omega⟩
    case round =>
      obtain ⟨k, hk, rfl, hA⟩ := hrel
      by_cases hlt : k < x.size
      · have hlt' : (k : Int) < (x.size : Int) := by omega
        have HA : Hid (48 ≤ ((x[k]'hlt).toNat : Int) ∧ ((x[k]'hlt).toNat : Int) ≤ 57 → ∀ j (hj : j < x.size), j < k + 1 → 48 ≤ (x[j].toNat : Int) ∧ (x[j].toNat : Int) ≤ 57) := by
          intro ht j hj h
          by_cases e : j = k
          · subst e; exact ht
          · exact hA.out j hj (by omega)
        have HN := Lib.hid (HB.out k hlt)
        clear hc0
        obtain ⟨c, hc⟩ : ∃ c, x[k]'hlt = c := ⟨_, rfl⟩
        rw [hc] at HA HN
        have hcn := c.toNat_lt
        go_wp2_with fail
        all_goals first
          | (go_ret; exact ⟨kt.ret_bool (HN.out (by omega)), rfl⟩)
          | (go_round
             case rel => exact ⟨k + 1, by omega, by go_num, HA.out (by omega)⟩
             case measure => simp [intOf]; omega)
          | (exfalso; simp only [Bool.not_eq_true', Bool.not_eq_false', Bool.or_eq_true, Bool.and_eq_true, Bool.or_eq_false_iff, Bool.and_eq_false_iff, decide_eq_true_eq, decide_eq_false_iff_not, beq_iff_eq, bne_iff_ne, bne_eq_false_iff_eq, beq_eq_false_iff_ne, ne_eq, Classical.not_not] at *; omega)
      · obtain rfl : k = x.size := by omega
        have HE := Lib.hid (HY.out (fun j hj => hA.out j hj hj))
        clear hc0
        go_wp2_with fail
        go_ret
        exact ⟨kt.ret_bool HE.out, rfl⟩
  · have hne := h0
    have hbx : bare s.data.toList = x.data.toList := HBX.out
    have q0 : (s.toList == [48]) = false := by rw [Lib.toList_data]; simpa using h0
    clear h0
    by_cases hx0 : x.size = 0
    · have HF := Lib.hid (num_len hne (Or.inl (by rw [hbx, kt.size_len]; exact hx0)))
      have hx1 : x.toList = [] := by rw [zero_s hx0, Lib.toList_data]; rfl
      clear hx0 hbx hne
      go_enter Tryz.func68, Tryz.ntmps68
      go_wp2_with fail
      refine (HTP.out _).mono ?_
      rintro e w1 ⟨rfl, rfl⟩
      go_wp2_with fail
      go_ret
      exact ⟨kt.ret_bool HF.out, rfl⟩
    by_cases hx18 : 18 < x.size
    · have HF := Lib.hid (num_len hne (Or.inr (by rw [hbx, kt.size_len]; exact hx18)))
      have hx1 : (18 : Int) < (x.size : Int) := by omega
      obtain ⟨xe1, xe2⟩ := str_ne (s := x) (by omega)
      clear hx0 hx18 hbx hne
      go_enter Tryz.func68, Tryz.ntmps68
      go_wp2_with fail
      refine (HTP.out _).mono ?_
      rintro e w1 ⟨rfl, rfl⟩
      go_wp2_with fail
      go_ret
      exact ⟨kt.ret_bool HF.out, rfl⟩
    have hxp : 0 < x.size := by omega
    obtain ⟨xe1, xe2⟩ := str_ne hxp
    have hxpI : (0 : Int) < (x.size : Int) := by omega
    have hx1 : decide ((18 : Int) < (x.size : Int)) = false := by rw [decide_eq_false_iff_not]; omega
    have hx2 : decide ((x.size : Int) < 1) = false := by rw [decide_eq_false_iff_not]; omega
    obtain ⟨c0, hc0⟩ : ∃ c, x[0]'hxp = c := ⟨_, rfl⟩
    by_cases h48 : (c0.toNat : Int) = 48
    · have HF := Lib.hid (num_zero hne (by rw [hbx, head_s hxp, hc0, u8_of (n := 48) (by omega) h48]; rfl))
      have q : ((c0.toNat : Int) == 48) = true := by rw [beq_iff_eq]; exact h48
      clear hx0 hx18 hbx hne h48
      go_enter Tryz.func68, Tryz.ntmps68
      go_wp2_with fail
      refine (HTP.out _).mono ?_
      rintro e w1 ⟨rfl, rfl⟩
      go_wp2_with fail
      go_ret
      exact ⟨kt.ret_bool HF.out, rfl⟩
    have q : ((c0.toNat : Int) == 48) = false := by rw [beq_eq_false_iff_ne]; exact h48
    have HB : Hid (∀ k (hk : k < x.size), ¬ (48 ≤ (x[k].toNat : Int) ∧ (x[k].toNat : Int) ≤ 57) → false = numOK s.data.toList) := fun k hk h => num_bad hne (by rw [hbx]; exact mem_s hk) h
    have HY : Hid ((∀ k (hk : k < x.size), 48 ≤ (x[k].toNat : Int) ∧ (x[k].toNat : Int) ≤ 57) → true = numOK s.data.toList) := by
      intro h
      refine num_yes hne (by rw [hbx, kt.size_len]; omega) (by rw [hbx, kt.size_len]; omega) (by rw [hbx, head_s hxp, hc0]; intro e; apply h48; rw [Option.some.injEq] at e; rw [e]; rfl) ?_
      intro c hc
      rw [hbx] at hc
      obtain ⟨k, hk, rfl⟩ := List.mem_iff_getElem.1 hc
      exact h k (by simpa using hk)
    clear hx0 hx18 hbx hne h48
    go_enter Tryz.func68, Tryz.ntmps68
    go_wp2_with fail
    refine (HTP.out _).mono ?_
    rintro e w1 ⟨rfl, rfl⟩
    go_wp2_with fail
    go_loop [4, 25] (fun _ iv => ∃ k : Nat, k ≤ x.size ∧ iv = .int .i64 (k : Int) ∧ Hid (∀ j (hj : j < x.size), j < k → 48 ≤ (x[j].toNat : Int) ∧ (x[j].toNat : Int) ≤ 57)) (fun _ iv => x.size - (intOf iv).toNat)
    case atStart => exact ⟨0, Nat.zero_le _, rfl, fun j hj h => by omega⟩
    case round =>
      obtain ⟨k, hk, rfl, hA⟩ := hrel
      by_cases hlt : k < x.size
      · have hlt' : (k : Int) < (x.size : Int) := by omega
        have HA : Hid (48 ≤ ((x[k]'hlt).toNat : Int) ∧ ((x[k]'hlt).toNat : Int) ≤ 57 → ∀ j (hj : j < x.size), j < k + 1 → 48 ≤ (x[j].toNat : Int) ∧ (x[j].toNat : Int) ≤ 57) := by
          intro ht j hj h
          by_cases e : j = k
          · subst e; exact ht
          · exact hA.out j hj (by omega)
        have HN := Lib.hid (HB.out k hlt)
        clear hc0
        obtain ⟨c, hc⟩ : ∃ c, x[k]'hlt = c := ⟨_, rfl⟩
        rw [hc] at HA HN
        have hcn := c.toNat_lt
        go_wp2_with fail
        all_goals first
          | (go_ret; exact ⟨kt.ret_bool (HN.out (by omega)), rfl⟩)
          | (go_round
             case rel => exact ⟨k + 1, by omega, by go_num, HA.out (by omega)⟩
             case measure => simp [intOf]; omega)
          | (exfalso; simp only [Bool.not_eq_true', Bool.not_eq_false', Bool.or_eq_true, Bool.and_eq_true, Bool.or_eq_false_iff, Bool.and_eq_false_iff, decide_eq_true_eq, decide_eq_false_iff_not, beq_iff_eq, bne_iff_ne, bne_eq_false_iff_eq, beq_eq_false_iff_ne, ne_eq, Classical.not_not] at *; omega)
      · obtain rfl : k = x.size := by omega
        have HE := Lib.hid (HY.out (fun j hj => hA.out j hj hj))
        clear hc0
        go_wp2_with fail
        go_ret
        exact ⟨kt.ret_bool HE.out, rfl⟩
end atw
end Go.Proofs.YtckpiaigoeicfaaGreatDoor
/-! PhoneW -/
namespace Go.Proofs.YtckpiaigoeicfaaGreatDoor
open Go.RowKit
namespace prw
open run prp
set_option linter.unusedVariables false
set_option linter.unusedSimpArgs false
theorem replaceAll_len (c : UInt8) (l : List UInt8) : (Lib.replaceAll l [c] []).length ≤ l.length := by
  rw [replaceAll_filter]; exact List.length_filter_le _ _
set_option maxRecDepth 20000 in
set_option maxHeartbeats 1100000 in
theorem phone_any (s : ByteArray) (w : World) (hs : s.size ≤ 1100000) (hE : Hid (Env w)) : Calls Tryz.prog 56 #[.string s] w fun e w' => e = .returned (pairV (phoneO s.data.toList)) ∧ Below w.heap.size w w' := by
  have CR := ready_any s true w hs hE
  have HM := Lib.hid (phoneO_of_ready s.data.toList)
  cases hrs : readyO s.data.toList true with
  | none =>
    rw [hrs] at CR HM
    have CH := Lib.hid CR
    clear hrs CR
    go_enter Tryz.func56, Tryz.ntmps56
    go_wp2_with fail
    refine CH.out.mono ?_
    rintro e w1 ⟨rfl, hB1⟩
    unfold pairV
    go_wp2_with fail
    go_ret2
    refine ⟨?_, hB1⟩
    rw [HM.out]; rfl
  | some t =>
    have htl := readyO_len hrs
    rw [kt.size_len] at htl
    rw [hrs] at CR HM
    obtain ⟨ta, hta⟩ : ∃ ta : ByteArray, ta = ⟨t.toArray⟩ := ⟨_, rfl⟩
    have htd : ta.data.toList = t := by rw [hta]
    rw [pairV_some, ← hta] at CR
    have CH := Lib.hid CR
    have hl1 := replaceAll_len 32 t
    have hts : ta.size ≤ 1100000 := by rw [← kt.size_len, htd]; omega
    have CS1 : Hid (∀ (W : World) (m : Int), W.cell? ⟨1, 0, none⟩ = some (.int .i64 m) → Calls Tryz.prog 83 #[.string ta, .string ⟨#[32]⟩, .string ⟨#[]⟩] W fun e w' => e = .returned (.string ⟨(Lib.replaceAll t [32] []).toArray⟩) ∧ Below W.heap.size W w') := by
      intro W m hm
      have := Tryz.strings_ReplaceAll ta ⟨#[32]⟩ ⟨#[]⟩ m W (by omega) hm (by decide) (by show ta.size + _ * 0 ≤ _; omega)
      rw [htd] at this
      exact this
    have CS2 : Hid (∀ (W : World) (m : Int), W.cell? ⟨1, 0, none⟩ = some (.int .i64 m) → Calls Tryz.prog 83 #[.string ⟨(Lib.replaceAll t [32] []).toArray⟩, .string ⟨#[45]⟩, .string ⟨#[]⟩] W fun e w' => e = .returned (.string ⟨(Lib.replaceAll (Lib.replaceAll t [32] []) [45] []).toArray⟩) ∧ Below W.heap.size W w') := by
      intro W m hm
      have hz : (⟨(Lib.replaceAll t [32] []).toArray⟩ : ByteArray).size ≤ 1100000 := by
        rw [← kt.size_len]; show (Lib.replaceAll t [32] []).length ≤ _; omega
      exact Tryz.strings_ReplaceAll ⟨(Lib.replaceAll t [32] []).toArray⟩ ⟨#[45]⟩ ⟨#[]⟩ m W (by omega) hm (by decide) (by show _ + _ * 0 ≤ _; omega)
    clear hrs CR htd hl1 hts htl hta
    generalize (⟨(Lib.replaceAll t [32] []).toArray⟩ : ByteArray) = t1 at CS1 CS2
    go_enter Tryz.func56, Tryz.ntmps56
    go_wp2_with fail
    refine CH.out.mono ?_
    rintro e w1 ⟨rfl, hB1⟩
    have hE1 := env_below hE.out hB1
    obtain ⟨m1, hm1⟩ := hE1
    have C1 := Lib.hid (CS1.out w1 m1 hm1)
    clear hm1
    go_wp2_with fail
    refine C1.out.mono ?_
    rintro e w2 ⟨rfl, hB2⟩
    have hB12 := hB1.trans (hB2.mono hB1.size)
    have hE2 := env_below hE.out hB12
    obtain ⟨m2, hm2⟩ := hE2
    have C2 := Lib.hid (CS2.out w2 m2 hm2)
    clear hm2
    go_wp2_with fail
    refine C2.out.mono ?_
    rintro e w3 ⟨rfl, hB3⟩
    go_wp2_with fail
    go_ret2
    refine ⟨?_, hB12.trans (hB3.mono hB12.size)⟩
    rw [HM.out]; rfl
end prw
end Go.Proofs.YtckpiaigoeicfaaGreatDoor
/-! FormW -/
namespace Go.Proofs.YtckpiaigoeicfaaGreatDoor
open Go.RowKit
namespace atw
open atp
set_option linter.unusedVariables false
set_option linter.unusedSimpArgs false
theorem bs_ne {l : List UInt8} (h : l ≠ []) : (bs l).toList.isEmpty = false ∧ ¬ (bs l).toList = [] := by
  rw [Lib.toList_data, bs_data]
  refine ⟨?_, h⟩
  cases l with
  | nil => exact absurd rfl h
  | cons a t => rfl
/-- what form leaves -/
def FormE (o : Option (List UInt8)) (w : World) (e : Ending) (w' : World) : Prop := Below w.heap.size w w' ∧ match o with
  | none => ∃ u, e = .returned (.tuple #[.string u, .bool false])
  | some u => e = .returned (.tuple #[.string (bs u), .bool true])
theorem formE_none {o : Option (List UInt8)} {w w' : World} {u : ByteArray} (h : o = none) (hb : Below w.heap.size w w') : FormE o w (.returned (.tuple #[.string u, .bool false])) w' := by
  subst h
  exact ⟨hb, u, rfl⟩
theorem formE_some {o : Option (List UInt8)} {w w' : World} {u : List UInt8} (h : o = some u) (hb : Below w.heap.size w w') : FormE o w (.returned (.tuple #[.string (bs u), .bool true])) w' := by
  subst h
  exact ⟨hb, rfl⟩
theorem formE_is {o : Option (List UInt8)} {w w' : World} {s : ByteArray} (h : o = some s.data.toList) (hb : Below w.heap.size w w') : FormE o w (.returned (.tuple #[.string s, .bool true])) w' := by
  subst h
  refine ⟨hb, ?_⟩
  show _ = Ending.returned (.tuple #[.string (bs s.data.toList), .bool true])
  rw [bs_of]
theorem join_flat (l : List (List UInt8)) : Lib.join l [] = l.flatten := by
  cases l with
  | nil => rfl
  | cons x r =>
    rw [Lib.join_cons]
    unfold Lib.joinTail
    simp
/-- strings.Join with nothing between -/
theorem join_any (ao : Option Addr) (c : Nat) (l : List ByteArray) (w : World) (hS : Hid (tupw.Strs w ao l)) (hc : l.length ≤ c) (hlen : l.length ≤ 1000) (hb : (joinK l).length ≤ 1100000) :
    Calls Tryz.prog 71 #[.slice ao l.length c, .string ⟨#[]⟩] w fun e w' => e = .returned (.string (bs (joinK l))) ∧ Below w.heap.size w w' := by
  by_cases h0 : l = []
  · subst h0
    refine (Tryz.strings_Join_none ao c ⟨#[]⟩ w).mono ?_
    rintro e w' ⟨rfl, rfl⟩
    exact ⟨rfl, Below.refl _ _⟩
  · have hl : 0 < l.length := List.length_pos_iff.2 h0
    obtain ⟨b, o, rfl, hc0⟩ := hS.out 0 hl
    have hlt := World.block_lt_of_cell? w _ hc0
    refine (Tryz.strings_Join b o c l ⟨#[]⟩ w (fun j x hj => ?_) hlt (by omega) hc ?_).mono ?_
    · obtain ⟨hjl, rfl⟩ := List.getElem?_eq_some_iff.1 hj
      obtain ⟨b', o', e', h'⟩ := hS.out j hjl
      simp only [Option.some.injEq, Addr.mk.injEq, and_true] at e'
      obtain ⟨rfl, rfl⟩ := e'
      exact h'
    · show (Lib.join (l.map (·.data.toList)) []).length ≤ _
      rw [join_flat]
      unfold joinK at hb
      omega
    · rintro e w' ⟨rfl, hB⟩
      refine ⟨?_, hB⟩
      show Ending.returned (.string (bs (Lib.join (l.map (·.data.toList)) []))) = _
      rw [join_flat]
      rfl
set_option maxRecDepth 20000 in
set_option maxHeartbeats 8000000 in
theorem form_any (nm : ByteArray) (syn : Int) (sg : Bool) (s : ByteArray) (w : World) (hs : s.size ≤ 1000) (h1 : 1 ≤ syn) (h7 : syn ≤ 7) (hE : Hid (prw.Env w)) (hT : Hid (dnw.Tabs w)) :
    Calls Tryz.prog 43 #[.agg #[.string nm, .int .i64 syn, .bool sg], .string s] w (FormE (formO syn s.data.toList) w) := by
  obtain ⟨W0, hW0⟩ : ∃ W, w.alloc (.cells #[.string nm, .int .i64 syn, .bool sg] 23) = W := ⟨_, rfl⟩
  have hB0 : Below w.heap.size w W0 := by rw [← hW0]; exact (Below.refl _ _).alloc (Nat.le_refl _) _
  have HB0 := Lib.hid hB0
  have hw0 : w.heap.size ≤ W0.heap.size := hB0.size
  have HE0 := Lib.hid (prw.env_below hE.out hB0)
  have HT0 := Lib.hid (dnw.tabs_below hT.out hB0)
  have k1 : W0.cell? ⟨w.heap.size, 1, none⟩ = some (.int .i64 syn) := by rw [← hW0, World.cell?_alloc_new]; rfl
  clear hB0
  have hcs : syn = 1 ∨ syn = 2 ∨ syn = 3 ∨ syn = 4 ∨ syn = 5 ∨ syn = 6 ∨ syn = 7 := by omega
  clear h1 h7
  rcases hcs with rfl | rfl | rfl | rfl | rfl | rfl | rfl
  · have HF : formO 1 s.data.toList = ne0 (prp.readyO s.data.toList true) := rfl
    rw [HF]
    have HC : Hid (Calls Tryz.prog 67 #[.string s, .bool true] W0 fun e w' => e = .returned (prw.pairV (prp.readyO s.data.toList true)) ∧ Below W0.heap.size W0 w') := prw.ready_any s true W0 (by omega) HE0
    clear HF
    cases ho : prp.readyO s.data.toList true with
    | none =>
      rw [ho] at HC
      rw [show prw.pairV none = .tuple #[.string ⟨#[]⟩, .int .i64 19] from rfl] at HC
      clear ho
      go_enter Tryz.func43, Tryz.ntmps43
      go_wp2_with fail
      refine HC.out.mono ?_
      rintro e w1 ⟨rfl, hB1⟩
      have HB1 := Lib.hid (HB0.out.trans (hB1.mono hw0))
      clear hB1
      go_wp2_with fail
      go_ret2
      exact formE_none rfl HB1.out
    | some u =>
      rw [ho] at HC
      have HC2 : Hid (Calls Tryz.prog 67 #[.string s, .bool true] W0 fun e w' => e = .returned (.tuple #[.string (bs u), .int .i64 0]) ∧ Below W0.heap.size W0 w') := HC
      clear HC ho
      by_cases hu : u = []
      · have hue : (bs u).toList = [] := by rw [hu, Lib.toList_data]; rfl
        have HN : Hid (ne0 (some u) = none) := by show _ = _; rw [hu]; rfl
        clear hu
        go_enter Tryz.func43, Tryz.ntmps43
        go_wp2_with fail
        refine HC2.out.mono ?_
        rintro e w1 ⟨rfl, hB1⟩
        have HB1 := Lib.hid (HB0.out.trans (hB1.mono hw0))
        clear hB1
        go_wp2_with fail
        go_ret2
        exact formE_none HN.out HB1.out
      · have HN : Hid (ne0 (some u) = some u) := ne0_some hu
        obtain ⟨hu1, hu2⟩ := bs_ne hu
        clear hu
        go_enter Tryz.func43, Tryz.ntmps43
        go_wp2_with fail
        refine HC2.out.mono ?_
        rintro e w1 ⟨rfl, hB1⟩
        have HB1 := Lib.hid (HB0.out.trans (hB1.mono hw0))
        clear hB1
        go_wp2_with fail
        go_ret2
        exact formE_some HN.out HB1.out
  · have HF : formO 2 s.data.toList = ne0 (prp.readyO s.data.toList false) := rfl
    rw [HF]
    have HC : Hid (Calls Tryz.prog 67 #[.string s, .bool false] W0 fun e w' => e = .returned (prw.pairV (prp.readyO s.data.toList false)) ∧ Below W0.heap.size W0 w') := prw.ready_any s false W0 (by omega) HE0
    clear HF
    cases ho : prp.readyO s.data.toList false with
    | none =>
      rw [ho] at HC
      rw [show prw.pairV none = .tuple #[.string ⟨#[]⟩, .int .i64 19] from rfl] at HC
      clear ho
      go_enter Tryz.func43, Tryz.ntmps43
      go_wp2_with fail
      refine HC.out.mono ?_
      rintro e w1 ⟨rfl, hB1⟩
      have HB1 := Lib.hid (HB0.out.trans (hB1.mono hw0))
      clear hB1
      go_wp2_with fail
      go_ret2
      exact formE_none rfl HB1.out
    | some u =>
      rw [ho] at HC
      have HC2 : Hid (Calls Tryz.prog 67 #[.string s, .bool false] W0 fun e w' => e = .returned (.tuple #[.string (bs u), .int .i64 0]) ∧ Below W0.heap.size W0 w') := HC
      clear HC ho
      by_cases hu : u = []
      · have hue : (bs u).toList = [] := by rw [hu, Lib.toList_data]; rfl
        have HN : Hid (ne0 (some u) = none) := by show _ = _; rw [hu]; rfl
        clear hu
        go_enter Tryz.func43, Tryz.ntmps43
        go_wp2_with fail
        refine HC2.out.mono ?_
        rintro e w1 ⟨rfl, hB1⟩
        have HB1 := Lib.hid (HB0.out.trans (hB1.mono hw0))
        clear hB1
        go_wp2_with fail
        go_ret2
        exact formE_none HN.out HB1.out
      · have HN : Hid (ne0 (some u) = some u) := ne0_some hu
        obtain ⟨hu1, hu2⟩ := bs_ne hu
        clear hu
        go_enter Tryz.func43, Tryz.ntmps43
        go_wp2_with fail
        refine HC2.out.mono ?_
        rintro e w1 ⟨rfl, hB1⟩
        have HB1 := Lib.hid (HB0.out.trans (hB1.mono hw0))
        clear hB1
        go_wp2_with fail
        go_ret2
        exact formE_some HN.out HB1.out
  · go_enter Tryz.func43, Tryz.ntmps43
    go_wp2_with fail
    go_ret2
    exact formE_is rfl HB0.out
  · have HC : Hid (∀ w, Calls Tryz.prog 68 #[.string s] w fun e w' => e = .returned (.bool (numOK s.data.toList)) ∧ w = w') := fun w => number_any s w (by omega)
    have HF : formO 4 s.data.toList = if numOK s.data.toList = true then some s.data.toList else none := rfl
    rw [HF]
    clear HF
    cases hn : numOK s.data.toList with
    | true =>
      rw [hn] at HC
      clear hn
      go_enter Tryz.func43, Tryz.ntmps43
      go_wp2_with fail
      refine (HC.out _).mono ?_
      rintro e w1 ⟨rfl, rfl⟩
      go_wp2_with fail
      go_ret2
      exact formE_is rfl HB0.out
    | false =>
      rw [hn] at HC
      clear hn
      go_enter Tryz.func43, Tryz.ntmps43
      go_wp2_with fail
      refine (HC.out _).mono ?_
      rintro e w1 ⟨rfl, rfl⟩
      go_wp2_with fail
      go_ret2
      exact formE_none rfl HB0.out
  · have HF : formO 5 s.data.toList = if s.data.toList = tT ∨ s.data.toList = tF then some s.data.toList else none := rfl
    rw [HF]
    clear HF
    by_cases e1 : s.data.toList = tT
    · have q1 : (s.toList == [84, 82, 85, 69]) = true := by rw [Lib.toList_data, e1]; rfl
      rw [if_pos (Or.inl e1)]
      clear e1
      go_enter Tryz.func43, Tryz.ntmps43
      go_wp2_with fail
      go_ret2
      exact formE_is rfl HB0.out
    · have q1 : (s.toList == [84, 82, 85, 69]) = false := by rw [Lib.toList_data]; simpa [tT] using e1
      by_cases e2 : s.data.toList = tF
      · have q2 : (s.toList == [70, 65, 76, 83, 69]) = true := by rw [Lib.toList_data, e2]; rfl
        rw [if_pos (Or.inr e2)]
        clear e1 e2
        go_enter Tryz.func43, Tryz.ntmps43
        go_wp2_with fail
        go_ret2
        exact formE_is rfl HB0.out
      · have q2 : (s.toList == [70, 65, 76, 83, 69]) = false := by rw [Lib.toList_data]; simpa [tF] using e2
        rw [if_neg (by rintro (h | h); exact e1 h; exact e2 h)]
        clear e1 e2
        go_enter Tryz.func43, Tryz.ntmps43
        go_wp2_with fail
        go_ret2
        exact formE_none rfl HB0.out
  · have HF : formO 6 s.data.toList = nameK s.data.toList := rfl
    rw [HF]
    clear HF
    have HP : Hid (Calls Tryz.prog 69 #[.string s] W0 fun e w' => Below W0.heap.size W0 w' ∧ ∃ ao cap, e = .returned (.tuple #[.slice ao (dnw.parseV s).1.length cap, .int .i64 (dnw.parseV s).2]) ∧ dnw.Rdns w' ao (dnw.parseV s).1) :=
      (dnw.parse_any s W0 (by omega) HE0 HT0).mono fun e w' h => dnw.parseE_V h
    have hV : dnw.parseV s = match dnw.parseR s.data.toList with
        | none => ([], 4)
        | some n => (n, 0) := by unfold dnw.parseV; rw [if_neg (by omega)]; cases dnw.parseR s.data.toList <;> rfl
    unfold nameK
    cases hp : dnw.parseR s.data.toList with
    | none =>
      rw [hp] at hV
      simp only at hV
      rw [hV] at HP
      simp only [List.length_nil] at HP
      have HOKN : dnw.nameOK [] = true := by decide
      clear hV hp
      go_enter Tryz.func43, Tryz.ntmps43
      go_wp2_with fail
      refine HP.out.mono ?_
      rintro e w1 ⟨hB1, ao, cap, rfl, hR⟩
      have HR := Lib.hid hR
      have HB1 := Lib.hid (HB0.out.trans (hB1.mono hw0))
      have HE1 := Lib.hid (prw.env_below HE0.out hB1)
      have HT1 := Lib.hid (dnw.tabs_below HT0.out hB1)
      clear hR hB1
      go_wp2_with fail
      refine (dnw.keys_any ao cap [] w1 HR HE1 HT1 (fun l hl => by cases hl)).mono ?_
      intro e w2 hK
      obtain ⟨hB2, hK2⟩ := hK
      rw [if_pos HOKN] at hK2
      obtain ⟨ao2, cap2, rfl, _, hS⟩ := hK2
      have HB2 := Lib.hid (HB1.out.trans (hB2.mono HB1.out.size))
      clear hB2 hS HOKN
      go_wp2_with fail
      refine (Tryz.strings_Join_none ao2 cap2 ⟨#[]⟩ w2).mono ?_
      rintro e w3 ⟨rfl, hw3⟩
      have HB3 : Hid (Below w.heap.size w w3) := by rw [hw3]; exact HB2.out
      clear hw3
      go_wp2_with fail
      go_ret2
      exact formE_none rfl HB3.out
    | some n =>
      rw [hp] at hV
      simp only at hV
      rw [hV] at HP
      simp only at HP
      have hok := parseR_ok hp
      have HSM : Hid (∀ l ∈ n, l.length ≤ 4 → dnw.Smalls l) := fun l hl _ => name_smalls hok l hl
      have HJL := Lib.hid (joinK_len n hok)
      have HNL : Hid (n.length ≤ 12) := by
        show _ ≤ _
        unfold dnw.nameOK at hok
        rw [Bool.and_eq_true, decide_eq_true_eq] at hok
        exact hok.1
      have HOKN := Lib.hid hok
      obtain ⟨m, hm⟩ : ∃ m, m = n.length := ⟨_, rfl⟩
      have HM := Lib.hid hm
      rw [← hm] at HP
      have HKA : Hid (∀ ao cap w, dnw.Rdns w ao n → prw.Env w → dnw.Tabs w → Calls Tryz.prog 70 #[.slice ao m cap] w fun e w' => Below w.heap.size w w' ∧ ∃ ao2 cap2, e = .returned (.tuple #[.slice ao2 m cap2, .int .i64 0]) ∧ m ≤ cap2 ∧ tupw.Strs w' ao2 (dnw.keysB n)) := by
        intro ao cap w h1 h2 h3
        rw [hm]
        refine (dnw.keys_any ao cap n w (Lib.hid h1) (Lib.hid h2) (Lib.hid h3) HSM).mono fun e w' h => ?_
        obtain ⟨k1, k2⟩ := h
        rw [if_pos HOKN.out] at k2
        exact ⟨k1, k2⟩
      have HJ : Hid (∀ ao cap w, tupw.Strs w ao (dnw.keysB n) → m ≤ cap → Calls Tryz.prog 71 #[.slice ao m cap, .string ⟨#[]⟩] w fun e w' => e = .returned (.string (bs (joinK (dnw.keysB n)))) ∧ Below w.heap.size w w') := by
        intro ao cap w h1 h2
        have hl : (dnw.keysB n).length = m := by rw [dnw.keysB_len, hm]
        have := join_any ao cap (dnw.keysB n) w (Lib.hid h1) (by rw [hl]; exact h2) (by have := HNL.out; omega) (by have := HJL.out; omega)
        rw [hl] at this
        exact this
      clear hV hp hok hm
      go_enter Tryz.func43, Tryz.ntmps43
      go_wp2_with fail
      refine HP.out.mono ?_
      rintro e w1 ⟨hB1, ao, cap, rfl, hR⟩
      have HR := Lib.hid hR
      have HB1 := Lib.hid (HB0.out.trans (hB1.mono hw0))
      have HE1 := Lib.hid (prw.env_below HE0.out hB1)
      have HT1 := Lib.hid (dnw.tabs_below HT0.out hB1)
      clear hR hB1
      go_wp2_with fail
      refine (HKA.out _ _ _ HR.out HE1.out HT1.out).mono ?_
      rintro e w2 ⟨hB2, ao2, cap2, rfl, hc2, hS⟩
      have HS := Lib.hid hS
      have HB2 := Lib.hid (HB1.out.trans (hB2.mono HB1.out.size))
      clear hB2 hS
      go_wp2_with fail
      refine (HJ.out _ _ _ HS.out hc2).mono ?_
      rintro e w3 ⟨rfl, hB3⟩
      have HB3 := Lib.hid (HB2.out.trans (hB3.mono HB2.out.size))
      clear hB3
      go_wp2_with fail
      go_ret2
      exact formE_some rfl HB3.out
  · have HF : formO 7 s.data.toList = ne0 (prp.phoneO s.data.toList) := rfl
    rw [HF]
    have HC : Hid (Calls Tryz.prog 56 #[.string s] W0 fun e w' => e = .returned (prw.pairV (prp.phoneO s.data.toList)) ∧ Below W0.heap.size W0 w') := prw.phone_any s W0 (by omega) HE0
    clear HF
    cases ho : prp.phoneO s.data.toList with
    | none =>
      rw [ho] at HC
      rw [show prw.pairV none = .tuple #[.string ⟨#[]⟩, .int .i64 19] from rfl] at HC
      clear ho
      go_enter Tryz.func43, Tryz.ntmps43
      go_wp2_with fail
      refine HC.out.mono ?_
      rintro e w1 ⟨rfl, hB1⟩
      have HB1 := Lib.hid (HB0.out.trans (hB1.mono hw0))
      clear hB1
      go_wp2_with fail
      go_ret2
      exact formE_none rfl HB1.out
    | some u =>
      rw [ho] at HC
      have HC2 : Hid (Calls Tryz.prog 56 #[.string s] W0 fun e w' => e = .returned (.tuple #[.string (bs u), .int .i64 0]) ∧ Below W0.heap.size W0 w') := HC
      clear HC ho
      by_cases hu : u = []
      · have hue : (bs u).toList = [] := by rw [hu, Lib.toList_data]; rfl
        have HN : Hid (ne0 (some u) = none) := by show _ = _; rw [hu]; rfl
        clear hu
        go_enter Tryz.func43, Tryz.ntmps43
        go_wp2_with fail
        refine HC2.out.mono ?_
        rintro e w1 ⟨rfl, hB1⟩
        have HB1 := Lib.hid (HB0.out.trans (hB1.mono hw0))
        clear hB1
        go_wp2_with fail
        go_ret2
        exact formE_none HN.out HB1.out
      · have HN : Hid (ne0 (some u) = some u) := ne0_some hu
        obtain ⟨hu1, hu2⟩ := bs_ne hu
        clear hu
        go_enter Tryz.func43, Tryz.ntmps43
        go_wp2_with fail
        refine HC2.out.mono ?_
        rintro e w1 ⟨rfl, hB1⟩
        have HB1 := Lib.hid (HB0.out.trans (hB1.mono hw0))
        clear hB1
        go_wp2_with fail
        go_ret2
        exact formE_some HN.out HB1.out
def normV (o : List UInt8 × Int) : Value := .tuple #[.string (bs o.1), .int .i64 o.2]
set_option maxRecDepth 20000 in
set_option maxHeartbeats 4000000 in
theorem known_any (nm : ByteArray) (syn : Int) (sg : Bool) (w : World) : Calls Tryz.prog 42 #[.agg #[.string nm, .int .i64 syn, .bool sg]] w fun e w' => e = .returned (.bool (decide (1 ≤ syn ∧ syn ≤ 7))) ∧ Below w.heap.size w w' := by
  obtain ⟨W0, hW0⟩ : ∃ W, w.alloc (.cells #[.string nm, .int .i64 syn, .bool sg] 23) = W := ⟨_, rfl⟩
  have HB0 : Hid (Below w.heap.size w W0) := by rw [← hW0]; exact (Below.refl _ _).alloc (Nat.le_refl _) _
  have k1 : W0.cell? ⟨w.heap.size, 1, none⟩ = some (.int .i64 syn) := by rw [← hW0, World.cell?_alloc_new]; rfl
  by_cases h1 : 1 ≤ syn
  · by_cases h7 : syn ≤ 7
    · have HD : Hid (decide (1 ≤ syn ∧ syn ≤ 7) = true) := decide_eq_true ⟨h1, h7⟩
      go_enter Tryz.func42, Tryz.ntmps42
      go_wp2_with fail
      go_ret
      first | exact ⟨by rw [HD.out]; rfl, HB0.out⟩ | exact ⟨rfl, HB0.out⟩
    · have HD : Hid (decide (1 ≤ syn ∧ syn ≤ 7) = false) := decide_eq_false (fun h => h7 h.2)
      have q : decide (syn ≤ 7) = false := decide_eq_false h7
      clear h7
      go_enter Tryz.func42, Tryz.ntmps42
      go_wp2_with fail
      go_ret
      first | exact ⟨by rw [HD.out]; rfl, HB0.out⟩ | exact ⟨rfl, HB0.out⟩
  · have HD : Hid (decide (1 ≤ syn ∧ syn ≤ 7) = false) := decide_eq_false (fun h => h1 h.1)
    have q : decide (1 ≤ syn) = false := decide_eq_false h1
    go_enter Tryz.func42, Tryz.ntmps42
    go_wp2_with fail
    go_ret
    first | exact ⟨by rw [HD.out]; rfl, HB0.out⟩ | exact ⟨rfl, HB0.out⟩
set_option maxRecDepth 20000 in
set_option maxHeartbeats 4000000 in
theorem normal_any (nm : ByteArray) (syn : Int) (sg : Bool) (s : ByteArray) (w : World) (hs : s.size ≤ 140737488351232) (hE : Hid (prw.Env w)) (hT : Hid (dnw.Tabs w)) :
    Calls Tryz.prog 19 #[.agg #[.string nm, .int .i64 syn, .bool sg], .string s] w fun e w' => e = .returned (normV (normL syn s.data.toList)) ∧ Below w.heap.size w w' := by
  obtain ⟨W0, hW0⟩ : ∃ W, w.alloc (.cells #[.string nm, .int .i64 syn, .bool sg] 23) = W := ⟨_, rfl⟩
  have hB0 : Below w.heap.size w W0 := by rw [← hW0]; exact (Below.refl _ _).alloc (Nat.le_refl _) _
  have HB0 := Lib.hid hB0
  have hw0 : w.heap.size < W0.heap.size := by rw [← hW0]; simp
  have HE0 := Lib.hid (prw.env_below hE.out hB0)
  have HT0 := Lib.hid (dnw.tabs_below hT.out hB0)
  have k0 : W0.cell? ⟨w.heap.size, 0, none⟩ = some (.string nm) := by rw [← hW0, World.cell?_alloc_new]; rfl
  have k1 : W0.cell? ⟨w.heap.size, 1, none⟩ = some (.int .i64 syn) := by rw [← hW0, World.cell?_alloc_new]; rfl
  have k2 : W0.cell? ⟨w.heap.size, 2, none⟩ = some (.bool sg) := by rw [← hW0, World.cell?_alloc_new]; rfl
  have HK : Hid (∀ w, Calls Tryz.prog 42 #[.agg #[.string nm, .int .i64 syn, .bool sg]] w fun e w' => e = .returned (.bool (decide (1 ≤ syn ∧ syn ≤ 7))) ∧ Below w.heap.size w w') := fun w => known_any nm syn sg w
  clear hB0
  by_cases hsy : 1 ≤ syn ∧ syn ≤ 7
  · rw [decide_eq_true hsy] at HK
    by_cases hlong : 1000 < s.size
    · rw [normL_long hsy (by rw [kt.size_len]; exact hlong)]
      have hlI : (1000 : Int) < (s.size : Int) := by omega
      clear hlong hsy
      go_enter Tryz.func19, Tryz.ntmps19
      go_wp2_with fail
      refine (HK.out _).mono ?_
      rintro e w1 ⟨rfl, hB1⟩
      have HB1 := Lib.hid (HB0.out.trans (hB1.mono (Nat.le_of_lt hw0)))
      clear hB1 hW0
      go_wp2_with fail
      go_ret2
      exact ⟨rfl, HB1.out⟩
    · have hlI : ¬ (1000 : Int) < (s.size : Int) := by omega
      by_cases h0 : s.data.toList = []
      · rw [normL_nil hsy h0]
        have hz : s.toList = [] := by rw [Lib.toList_data]; exact h0
        clear hsy hlong h0
        go_enter Tryz.func19, Tryz.ntmps19
        go_wp2_with fail
        refine (HK.out _).mono ?_
        rintro e w1 ⟨rfl, hB1⟩
        have HB1 := Lib.hid (HB0.out.trans (hB1.mono (Nat.le_of_lt hw0)))
        clear hB1 hW0
        go_wp2_with fail
        go_ret2
        exact ⟨rfl, HB1.out⟩
      · have HNF := Lib.hid (normL_form hsy (by rw [kt.size_len]; omega) h0)
        have HFM : Hid (∀ w, prw.Env w → dnw.Tabs w → Calls Tryz.prog 43 #[.agg #[.string nm, .int .i64 syn, .bool sg], .string s] w (FormE (formO syn s.data.toList) w)) := fun w h1 h2 => form_any nm syn sg s w (by omega) hsy.1 hsy.2 (Lib.hid h1) (Lib.hid h2)
        obtain ⟨z1, z2⟩ := str_ne (s := s) (by
          rcases Nat.eq_zero_or_pos s.size with h | h
          · exact absurd (by rw [zero_s h]; rfl) h0
          · exact h)
        clear hsy hlong h0
        go_enter Tryz.func19, Tryz.ntmps19
        go_wp2_with fail
        refine (HK.out _).mono ?_
        rintro e w1 ⟨rfl, hB1⟩
        have HB1 := Lib.hid (HB0.out.trans (hB1.mono (Nat.le_of_lt hw0)))
        have HE1 := Lib.hid (prw.env_below HE0.out hB1)
        have HT1 := Lib.hid (dnw.tabs_below HT0.out hB1)
        have m0 := (hB1.cell (p := ⟨w.heap.size, 0, none⟩) hw0).trans k0
        have m1 := (hB1.cell (p := ⟨w.heap.size, 1, none⟩) hw0).trans k1
        have m2 := (hB1.cell (p := ⟨w.heap.size, 2, none⟩) hw0).trans k2
        clear hB1 hW0 k0 k1 k2
        go_wp2_with fail
        refine (HFM.out _ HE1.out HT1.out).mono ?_
        intro e w2 hF
        cases ho : formO syn s.data.toList with
        | none =>
          rw [ho] at hF
          obtain ⟨hB2, u, rfl⟩ := hF
          have HB2 := Lib.hid (HB1.out.trans (hB2.mono HB1.out.size))
          have HO := Lib.hid ho
          clear hB2 ho
          go_wp2_with fail
          go_ret2
          exact ⟨by rw [HNF.out, HO.out]; rfl, HB2.out⟩
        | some u =>
          rw [ho] at hF
          obtain ⟨hB2, rfl⟩ := hF
          have HB2 := Lib.hid (HB1.out.trans (hB2.mono HB1.out.size))
          have HO := Lib.hid ho
          clear hB2 ho
          go_wp2_with fail
          go_ret2
          exact ⟨by rw [HNF.out, HO.out]; rfl, HB2.out⟩
  · rw [normL_bad hsy]
    rw [decide_eq_false hsy] at HK
    clear hsy
    go_enter Tryz.func19, Tryz.ntmps19
    go_wp2_with fail
    refine (HK.out _).mono ?_
    rintro e w1 ⟨rfl, hB1⟩
    have HB1 := Lib.hid (HB0.out.trans (hB1.mono (Nat.le_of_lt hw0)))
    clear hB1 hW0
    go_wp2_with fail
    go_ret2
    exact ⟨rfl, HB1.out⟩
set_option maxRecDepth 20000 in
set_option maxHeartbeats 4000000 in
theorem check_any (nm : ByteArray) (syn : Int) (sg : Bool) (s : ByteArray) (w : World) (hs : s.size ≤ 140737488351232) (hE : Hid (prw.Env w)) (hT : Hid (dnw.Tabs w)) :
    Calls Tryz.prog 21 #[.agg #[.string nm, .int .i64 syn, .bool sg], .string s] w fun e w' => e = .returned (.int .i64 (normL syn s.data.toList).2) ∧ Below w.heap.size w w' := by
  obtain ⟨W0, hW0⟩ : ∃ W, w.alloc (.cells #[.string nm, .int .i64 syn, .bool sg] 23) = W := ⟨_, rfl⟩
  have hB0 : Below w.heap.size w W0 := by rw [← hW0]; exact (Below.refl _ _).alloc (Nat.le_refl _) _
  have HB0 := Lib.hid hB0
  have hw0 : w.heap.size < W0.heap.size := by rw [← hW0]; simp
  have HE0 := Lib.hid (prw.env_below hE.out hB0)
  have HT0 := Lib.hid (dnw.tabs_below hT.out hB0)
  have k0 : W0.cell? ⟨w.heap.size, 0, none⟩ = some (.string nm) := by rw [← hW0, World.cell?_alloc_new]; rfl
  have k1 : W0.cell? ⟨w.heap.size, 1, none⟩ = some (.int .i64 syn) := by rw [← hW0, World.cell?_alloc_new]; rfl
  have k2 : W0.cell? ⟨w.heap.size, 2, none⟩ = some (.bool sg) := by rw [← hW0, World.cell?_alloc_new]; rfl
  have HN : Hid (∀ w, prw.Env w → dnw.Tabs w → Calls Tryz.prog 19 #[.agg #[.string nm, .int .i64 syn, .bool sg], .string s] w fun e w' => e = .returned (normV (normL syn s.data.toList)) ∧ Below w.heap.size w w') := fun w h1 h2 => normal_any nm syn sg s w hs (Lib.hid h1) (Lib.hid h2)
  obtain ⟨uo, huo⟩ : ∃ u, normL syn s.data.toList = u := ⟨_, rfl⟩
  rw [huo] at HN ⊢
  clear huo
  obtain ⟨u, er⟩ := uo
  obtain ⟨ub, hub⟩ : ∃ ub, bs u = ub := ⟨_, rfl⟩
  have HN2 : Hid (∀ w, prw.Env w → dnw.Tabs w → Calls Tryz.prog 19 #[.agg #[.string nm, .int .i64 syn, .bool sg], .string s] w fun e w' => e = .returned (.tuple #[.string ub, .int .i64 er]) ∧ Below w.heap.size w w') := by rw [← hub]; exact HN
  clear HN hub hB0
  go_enter Tryz.func21, Tryz.ntmps21
  go_wp2_with fail
  refine (HN2.out _ HE0.out HT0.out).mono ?_
  rintro e w1 ⟨rfl, hB1⟩
  have HB1 := Lib.hid (HB0.out.trans (hB1.mono (Nat.le_of_lt hw0)))
  clear hB1
  go_wp2_with fail
  go_ret
  exact ⟨rfl, HB1.out⟩
end atw
end Go.Proofs.YtckpiaigoeicfaaGreatDoor
/-! RPhoneW -/
namespace Go.Proofs.YtckpiaigoeicfaaGreatDoor
open Go.RowKit
namespace prw
open run prp
set_option linter.unusedVariables false
set_option linter.unusedSimpArgs false
def phP (v : Int) : Bool := decide (v ≠ 32) && decide (v ≠ 45)
theorem ph_keep {m : List Int} {i : Nat} (hi : i < m.length) (h : phP m[i] = true) : (m.take (i + 1)).filter phP = (m.take i).filter phP ++ [m[i]] := by
  rw [List.take_succ_eq_append_getElem hi, List.filter_append]; simp [h]
theorem ph_drop {m : List Int} {i : Nat} (hi : i < m.length) (h : phP m[i] = false) : (m.take (i + 1)).filter phP = (m.take i).filter phP := by
  rw [List.take_succ_eq_append_getElem hi, List.filter_append]; simp [h]
theorem ph_len (m : List Int) (i : Nat) : ((m.take i).filter phP).length ≤ i := by
  refine Nat.le_trans (List.length_filter_le _ _) ?_
  rw [List.length_take]; omega
theorem phoneO_ph (l : List UInt8) : phoneO l = (mapO' l true).map fun m => text (m.filter phP) := phoneO_eq l
set_option maxRecDepth 20000 in
set_option maxHeartbeats 4000000 in
theorem rphone_any (s : ByteArray) (w : World) (hs : s.size ≤ 1100000) : Calls Tryz.prog 47 #[.string s] w fun e w' => e = .returned (pairV (phoneO s.data.toList)) ∧ Below w.heap.size w w' := by
  rw [phoneO_ph]
  have CR := mapped_any s true w hs
  cases hrs : mapO' s.data.toList true with
  | none =>
    rw [hrs] at CR
    have CH := Lib.hid CR
    clear hrs CR
    go_enter Tryz.func47, Tryz.ntmps47
    go_wp2_with fail
    refine CH.out.mono ?_
    rintro e w1 ⟨hB1, v, rfl⟩
    go_wp2_with fail
    go_ret2
    exact ⟨rfl, hB1⟩
  | some m =>
    rw [hrs] at CR
    obtain ⟨hml, hok⟩ := mapO'_facts hrs
    have CH := Lib.hid CR
    have HK : Hid (∀ v ∈ m.filter phP, okR v) := fun v hv => hok v (List.mem_filter.1 hv).1
    have hml2 : m.length ≤ 1100000 := by omega
    clear hrs CR hok hml
    go_enter Tryz.func47, Tryz.ntmps47
    go_wp2_with fail
    refine CH.out.mono ?_
    rintro e w1 ⟨hB1, v, rfl, hO⟩
    obtain ⟨ao, cap, rfl, hS⟩ := runs_of hO
    have HS := Lib.hid hS
    clear hO hS
    have hsz1 := hB1.size
    go_wp2_with fail
    go_loopw [6, 7] (fun lv iv wr => ∃ (i : Nat), i ≤ m.length ∧ iv = .int .i64 (i : Int) ∧ Hid (OwnR wr w1.heap.size lv ((m.take i).filter phP)) ∧ Below w1.heap.size w1 wr) (fun _ iv _ => m.length - (intOf iv).toNat)
    case atStart =>
      refine ⟨0, Nat.zero_le _, rfl, ?_, (Below.refl _ _).alloc (Nat.le_refl _) _⟩
      exact World.ownsRow_made _ #[] 0 (by simp) (by unfold maxLen; omega) rfl
    case round =>
      obtain ⟨i, hi, rfl, hO, hB⟩ := hrel
      have hsz := hB.size
      by_cases hlt : i < m.length
      · have hlt' : (i : Int) < (m.length : Int) := by omega
        obtain ⟨b, o, hao, hc⟩ := runs_below HS.out hB i hlt
        have q1 := ph_keep hlt
        have q2 := ph_drop hlt
        have q3 := ph_len m i
        subst hao
        generalize m[i] = x at hc q1 q2
        by_cases hx : x = 32
        · subst hx
          have hO1 := hO.out
          rw [← q2 rfl] at hO1
          have HO1 := Lib.hid hO1
          clear q1 q2 q3 hO1
          go_wp2_with fail
          go_roundw
          case rel => exact ⟨i + 1, by omega, by go_num, HO1, hB⟩
          case measure => simp [intOf]; omega
        · by_cases hy : x = 45
          · subst hy
            have hO1 := hO.out
            rw [← q2 rfl] at hO1
            have HO1 := Lib.hid hO1
            clear q1 q2 q3 hO1
            go_wp2_with fail
            go_roundw
            case rel => exact ⟨i + 1, by omega, by go_num, HO1, hB⟩
            case measure => simp [intOf]; omega
          · have hx1 : (x == 32) = false := by rw [beq_eq_false_iff_ne]; exact hx
            have hx2 : (x != 32) = true := by rw [bne_iff_ne]; exact hx
            have hy1 : (x == 45) = false := by rw [beq_eq_false_iff_ne]; exact hy
            have hy2 : (x != 45) = true := by rw [bne_iff_ne]; exact hy
            obtain ⟨v', w2, hap, hO1, hB2⟩ := ownR_app x hO.out (by omega) hsz
            rw [← q1 (by unfold phP; simp [hx, hy])] at hO1
            have HO1 := Lib.hid hO1
            clear q1 q2 q3 hx hy hO1
            go_wp2_with (at_builtin; refine Lib.wpList_append_run _ rfl _ _ _ _ rfl _ _ rfl rfl _ _ hap ?_)
            go_roundw
            case rel => exact ⟨i + 1, by omega, by go_num, HO1, hB.trans hB2⟩
            case measure => simp [intOf]; omega
      · obtain rfl : i = m.length := by omega
        have hO1 := hO.out
        rw [List.take_length] at hO1
        have hl := ph_len m m.length
        rw [List.take_length] at hl
        obtain ⟨ao2, cap2, rfl, hS2⟩ := runs_of hO1
        have HS2 := Lib.hid hS2
        have CT := Lib.hid (text_any ao2 cap2 (m.filter phP) wr (by omega) HS2 HK)
        clear hO1 hS2 hl
        go_wp2_with fail
        refine CT.out.mono ?_
        rintro e w2 ⟨rfl, hB2⟩
        go_wp2_with fail
        go_ret2
        exact ⟨rfl, hB1.trans ((hB.trans (hB2.mono hsz)).mono hsz1)⟩
end prw
end Go.Proofs.YtckpiaigoeicfaaGreatDoor
/-! RNormW -/
namespace Go.Proofs.YtckpiaigoeicfaaGreatDoor
open Go.RowKit
namespace atw
open atp
set_option linter.unusedVariables false
set_option linter.unusedSimpArgs false
theorem bs_app (a b : List UInt8) : bs a ++ bs b = bs (a ++ b) := by
  apply kt.str_eq
  show (bs a ++ bs b).data.toList = a ++ b
  simp [bs]
theorem joinK_snoc (l : List ByteArray) (i : Nat) (h : i < l.length) : joinK (l.take (i + 1)) = joinK (l.take i) ++ l[i].data.toList := by
  unfold joinK
  rw [List.take_succ_eq_append_getElem h, List.map_append, List.flatten_append]
  simp
theorem joinK_le (l : List ByteArray) (i : Nat) : (joinK (l.take i)).length ≤ (joinK l).length := by
  unfold joinK
  conv => rhs; rw [← List.take_append_drop i l]
  rw [List.map_append, List.flatten_append, List.length_append]
  omega
set_option maxRecDepth 20000 in
set_option maxHeartbeats 16000000 in
theorem rnormal_any (nm : ByteArray) (syn : Int) (sg : Bool) (s : ByteArray) (w : World) (hs : s.size ≤ 140737488351232) :
    Calls Tryz.prog 20 #[.agg #[.string nm, .int .i64 syn, .bool sg], .string s] w fun e w' => e = .returned (normV (normL syn s.data.toList)) ∧ Below w.heap.size w w' := by
  obtain ⟨W0, hW0⟩ : ∃ W, w.alloc (.cells #[.string nm, .int .i64 syn, .bool sg] 23) = W := ⟨_, rfl⟩
  have hB0 : Below w.heap.size w W0 := by rw [← hW0]; exact (Below.refl _ _).alloc (Nat.le_refl _) _
  have HB0 := Lib.hid hB0
  have hw0 : w.heap.size ≤ W0.heap.size := hB0.size
  have k1 : W0.cell? ⟨w.heap.size, 1, none⟩ = some (.int .i64 syn) := by rw [← hW0, World.cell?_alloc_new]; rfl
  clear hB0
  by_cases hsy : 1 ≤ syn ∧ syn ≤ 7
  · by_cases hlong : 1000 < s.size
    · rw [normL_long hsy (by rw [kt.size_len]; exact hlong)]
      have hlI : (1000 : Int) < (s.size : Int) := by omega
      obtain ⟨hs1, hs7⟩ := hsy
      have q1 : decide (syn < 1) = false := by rw [decide_eq_false_iff_not]; omega
      have q2 : decide (7 < syn) = false := by rw [decide_eq_false_iff_not]; omega
      clear hlong
      go_enter Tryz.func20, Tryz.ntmps20
      go_wp2_with fail
      go_ret2
      exact ⟨rfl, HB0.out⟩
    · have hlI : ¬ (1000 : Int) < (s.size : Int) := by omega
      by_cases h0 : s.data.toList = []
      · rw [normL_nil hsy h0]
        have hz : (s.size : Int) = 0 := by rw [← kt.size_len, h0]; rfl
        obtain ⟨hs1, hs7⟩ := hsy
        have q1 : decide (syn < 1) = false := by rw [decide_eq_false_iff_not]; omega
        have q2 : decide (7 < syn) = false := by rw [decide_eq_false_iff_not]; omega
        clear hlong h0
        go_enter Tryz.func20, Tryz.ntmps20
        go_wp2_with fail
        go_ret2
        exact ⟨rfl, HB0.out⟩
      · have HNF := Lib.hid (normL_form hsy (by rw [kt.size_len]; omega) h0)
        have hsp : ((s.size : Int) == 0) = false := by
          rw [beq_eq_false_iff_ne]
          intro h
          exact h0 (by rw [zero_s (s := s) (by omega)]; rfl)
        have hsb : s.size ≤ 1000 := by omega
        have hcs : syn = 1 ∨ syn = 2 ∨ syn = 3 ∨ syn = 4 ∨ syn = 5 ∨ syn = 6 ∨ syn = 7 := by omega
        clear hsy hlong h0
        rcases hcs with rfl | rfl | rfl | rfl | rfl | rfl | rfl
        · have HF : Hid (formO 1 s.data.toList = ne0 (prp.readyO s.data.toList true)) := rfl
          have HC : Hid (Calls Tryz.prog 17 #[.string s, .bool true] W0 fun e w' => e = .returned (prw.pairV (prp.readyO s.data.toList true)) ∧ Below W0.heap.size W0 w') := prw.rready_any s true W0 (by omega)
          cases ho : prp.readyO s.data.toList true with
          | none =>
            rw [ho] at HC HF
            rw [show prw.pairV none = .tuple #[.string ⟨#[]⟩, .int .i64 19] from rfl] at HC
            clear ho
            go_enter Tryz.func20, Tryz.ntmps20
            go_wp2_with fail
            refine HC.out.mono ?_
            rintro e w1 ⟨rfl, hB1⟩
            have HB1 := Lib.hid (HB0.out.trans (hB1.mono hw0))
            clear hB1
            go_wp2_with fail
            go_ret2
            exact ⟨by rw [HNF.out, HF.out]; rfl, HB1.out⟩
          | some u =>
            rw [ho] at HC HF
            have HC2 : Hid (Calls Tryz.prog 17 #[.string s, .bool true] W0 fun e w' => e = .returned (.tuple #[.string (bs u), .int .i64 0]) ∧ Below W0.heap.size W0 w') := HC
            clear HC ho
            by_cases hu : u = []
            · have hue : ((bs u).size : Int) = 0 := by rw [hu]; rfl
              have HX : Hid (formO 1 s.data.toList = none) := by show _ = _; rw [HF.out, hu]; rfl
              clear hu
              go_enter Tryz.func20, Tryz.ntmps20
              go_wp2_with fail
              refine HC2.out.mono ?_
              rintro e w1 ⟨rfl, hB1⟩
              have HB1 := Lib.hid (HB0.out.trans (hB1.mono hw0))
              clear hB1
              go_wp2_with fail
              go_ret2
              exact ⟨by rw [HNF.out, HX.out]; rfl, HB1.out⟩
            · have HX : Hid (formO 1 s.data.toList = some u) := by show _ = _; rw [HF.out, ne0_some hu]
              have hupN : 0 < (bs u).size := by
                rw [bs_size]
                exact List.length_pos_iff.2 hu
              have hup : (0 : Int) < ((bs u).size : Int) := by omega
              clear hu
              go_enter Tryz.func20, Tryz.ntmps20
              go_wp2_with fail
              refine HC2.out.mono ?_
              rintro e w1 ⟨rfl, hB1⟩
              have HB1 := Lib.hid (HB0.out.trans (hB1.mono hw0))
              clear hB1
              go_wp2_with fail
              go_ret2
              exact ⟨by rw [HNF.out, HX.out]; rfl, HB1.out⟩
        · have HF : Hid (formO 2 s.data.toList = ne0 (prp.readyO s.data.toList false)) := rfl
          have HC : Hid (Calls Tryz.prog 17 #[.string s, .bool false] W0 fun e w' => e = .returned (prw.pairV (prp.readyO s.data.toList false)) ∧ Below W0.heap.size W0 w') := prw.rready_any s false W0 (by omega)
          cases ho : prp.readyO s.data.toList false with
          | none =>
            rw [ho] at HC HF
            rw [show prw.pairV none = .tuple #[.string ⟨#[]⟩, .int .i64 19] from rfl] at HC
            clear ho
            go_enter Tryz.func20, Tryz.ntmps20
            go_wp2_with fail
            refine HC.out.mono ?_
            rintro e w1 ⟨rfl, hB1⟩
            have HB1 := Lib.hid (HB0.out.trans (hB1.mono hw0))
            clear hB1
            go_wp2_with fail
            go_ret2
            exact ⟨by rw [HNF.out, HF.out]; rfl, HB1.out⟩
          | some u =>
            rw [ho] at HC HF
            have HC2 : Hid (Calls Tryz.prog 17 #[.string s, .bool false] W0 fun e w' => e = .returned (.tuple #[.string (bs u), .int .i64 0]) ∧ Below W0.heap.size W0 w') := HC
            clear HC ho
            by_cases hu : u = []
            · have hue : ((bs u).size : Int) = 0 := by rw [hu]; rfl
              have HX : Hid (formO 2 s.data.toList = none) := by show _ = _; rw [HF.out, hu]; rfl
              clear hu
              go_enter Tryz.func20, Tryz.ntmps20
              go_wp2_with fail
              refine HC2.out.mono ?_
              rintro e w1 ⟨rfl, hB1⟩
              have HB1 := Lib.hid (HB0.out.trans (hB1.mono hw0))
              clear hB1
              go_wp2_with fail
              go_ret2
              exact ⟨by rw [HNF.out, HX.out]; rfl, HB1.out⟩
            · have HX : Hid (formO 2 s.data.toList = some u) := by show _ = _; rw [HF.out, ne0_some hu]
              have hupN : 0 < (bs u).size := by
                rw [bs_size]
                exact List.length_pos_iff.2 hu
              have hup : (0 : Int) < ((bs u).size : Int) := by omega
              clear hu
              go_enter Tryz.func20, Tryz.ntmps20
              go_wp2_with fail
              refine HC2.out.mono ?_
              rintro e w1 ⟨rfl, hB1⟩
              have HB1 := Lib.hid (HB0.out.trans (hB1.mono hw0))
              clear hB1
              go_wp2_with fail
              go_ret2
              exact ⟨by rw [HNF.out, HX.out]; rfl, HB1.out⟩
        · have HX : Hid (formO 3 s.data.toList = some s.data.toList) := rfl
          go_enter Tryz.func20, Tryz.ntmps20
          go_wp2_with fail
          go_ret2
          exact ⟨by rw [HNF.out, HX.out]; show _ = Ending.returned (.tuple #[.string (bs s.data.toList), .int .i64 0]); rw [bs_of]; rfl, HB0.out⟩
        · have HC : Hid (∀ w, Calls Tryz.prog 44 #[.string s] w fun e w' => e = .returned (.bool (numOK s.data.toList)) ∧ w = w') := fun w => rnumber_any s w (by omega)
          have HF : Hid (formO 4 s.data.toList = if numOK s.data.toList = true then some s.data.toList else none) := rfl
          cases hn : numOK s.data.toList with
          | true =>
            rw [hn] at HC
            have HX : Hid (formO 4 s.data.toList = some s.data.toList) := by show _ = _; rw [HF.out, if_pos hn]
            clear hn
            go_enter Tryz.func20, Tryz.ntmps20
            go_wp2_with fail
            refine (HC.out _).mono ?_
            rintro e w1 ⟨rfl, rfl⟩
            go_wp2_with fail
            go_ret2
            exact ⟨by rw [HNF.out, HX.out]; show _ = Ending.returned (.tuple #[.string (bs s.data.toList), .int .i64 0]); rw [bs_of]; rfl, HB0.out⟩
          | false =>
            rw [hn] at HC
            have HX : Hid (formO 4 s.data.toList = none) := by show _ = _; rw [HF.out, if_neg (by rw [hn]; simp)]
            clear hn
            go_enter Tryz.func20, Tryz.ntmps20
            go_wp2_with fail
            refine (HC.out _).mono ?_
            rintro e w1 ⟨rfl, rfl⟩
            go_wp2_with fail
            go_ret2
            exact ⟨by rw [HNF.out, HX.out]; rfl, HB0.out⟩
        · have HF : Hid (formO 5 s.data.toList = if s.data.toList = tT ∨ s.data.toList = tF then some s.data.toList else none) := rfl
          by_cases e1 : s.data.toList = tT
          · have q1 : (s.toList == [84, 82, 85, 69]) = true := by rw [Lib.toList_data, e1]; rfl
            have HX : Hid (formO 5 s.data.toList = some s.data.toList) := by show _ = _; rw [HF.out, if_pos (Or.inl e1)]
            clear e1
            go_enter Tryz.func20, Tryz.ntmps20
            go_wp2_with fail
            go_ret2
            exact ⟨by rw [HNF.out, HX.out]; show _ = Ending.returned (.tuple #[.string (bs s.data.toList), .int .i64 0]); rw [bs_of]; rfl, HB0.out⟩
          · have q1 : (s.toList == [84, 82, 85, 69]) = false := by rw [Lib.toList_data]; simpa [tT] using e1
            by_cases e2 : s.data.toList = tF
            · have q2 : (s.toList == [70, 65, 76, 83, 69]) = true := by rw [Lib.toList_data, e2]; rfl
              have HX : Hid (formO 5 s.data.toList = some s.data.toList) := by show _ = _; rw [HF.out, if_pos (Or.inr e2)]
              clear e1 e2
              go_enter Tryz.func20, Tryz.ntmps20
              go_wp2_with fail
              go_ret2
              exact ⟨by rw [HNF.out, HX.out]; show _ = Ending.returned (.tuple #[.string (bs s.data.toList), .int .i64 0]); rw [bs_of]; rfl, HB0.out⟩
            · have q2 : (s.toList == [70, 65, 76, 83, 69]) = false := by rw [Lib.toList_data]; simpa [tF] using e2
              have HX : Hid (formO 5 s.data.toList = none) := by
                show _ = _
                rw [HF.out, if_neg]
                rintro (h | h)
                · exact e1 h
                · exact e2 h
              clear e1 e2
              go_enter Tryz.func20, Tryz.ntmps20
              go_wp2_with fail
              go_ret2
              exact ⟨by rw [HNF.out, HX.out]; rfl, HB0.out⟩
        · have HF : Hid (formO 6 s.data.toList = nameK s.data.toList) := rfl
          have HNK : Hid (∃ n er, dnw.parseV s = (n, er) ∧ dnw.nameOK n = true ∧ ((er = 0 ∧ nameK s.data.toList = some (joinK (dnw.keysB n))) ∨ (er = 4 ∧ nameK s.data.toList = none))) := by
            show ∃ n er, _
            unfold dnw.parseV nameK
            rw [if_neg (by omega)]
            cases hp : dnw.parseR s.data.toList with
            | none => exact ⟨[], 4, rfl, by decide, Or.inr ⟨rfl, rfl⟩⟩
            | some n => exact ⟨n, 0, rfl, parseR_ok hp, Or.inl ⟨rfl, rfl⟩⟩
          obtain ⟨n, er, hV, hok, hcase⟩ := HNK.out
          have HP : Hid (Calls Tryz.prog 45 #[.string s] W0 fun e w' => Below W0.heap.size W0 w' ∧ ∃ ao cap, e = .returned (.tuple #[.slice ao n.length cap, .int .i64 er]) ∧ dnw.Rdns w' ao n) := by
            refine (dnw.rparse_any s W0 hs).mono fun e w' h => ?_
            have := dnw.parseE_V h
            rw [hV] at this
            exact this
          have HNL : Hid (n.length ≤ 12) := by
            show _ ≤ _
            have h9 := hok
            unfold dnw.nameOK at h9
            rw [Bool.and_eq_true, decide_eq_true_eq] at h9
            exact h9.1
          have HSM : Hid (∀ l ∈ n, l.length ≤ 4 → dnw.Smalls l) := fun l hl _ => name_smalls hok l hl
          have HJL := Lib.hid (joinK_len n hok)
          have HOKN := Lib.hid hok
          obtain ⟨m, hm⟩ : ∃ m, m = n.length := ⟨_, rfl⟩
          rw [← hm] at HP
          have hmb : m ≤ 12 := by rw [hm]; exact HNL.out
          have HKA : Hid (∀ ao cap w, dnw.Rdns w ao n → Calls Tryz.prog 46 #[.slice ao m cap] w fun e w' => Below w.heap.size w w' ∧ ∃ ao2 cap2, e = .returned (.tuple #[.slice ao2 m cap2, .int .i64 0]) ∧ tupw.Strs w' ao2 (dnw.keysB n)) := by
            intro ao cap w h1
            rw [hm]
            refine (dnw.rkeys_any ao cap n w (Lib.hid h1) (by have := HNL.out; omega) HSM).mono fun e w' h => ?_
            obtain ⟨k1, k2⟩ := h
            rw [if_pos HOKN.out] at k2
            obtain ⟨a, c, e1, _, e2⟩ := k2
            exact ⟨k1, a, c, e1, e2⟩
          have HKL : Hid ((dnw.keysB n).length = m) := by show _ = _; rw [dnw.keysB_len, hm]
          generalize dnw.keysB n = ks at HKA HKL HJL hcase
          have HCS := Lib.hid hcase
          clear HNK hV hok hm hcase HOKN HSM HNL
          go_enter Tryz.func20, Tryz.ntmps20
          go_wp2_with fail
          refine HP.out.mono ?_
          rintro e w1 ⟨hB1, ao, cap, rfl, hR⟩
          have HR := Lib.hid hR
          have HB1 := Lib.hid (HB0.out.trans (hB1.mono hw0))
          clear hR hB1
          go_wp2_with fail
          refine (HKA.out _ _ _ HR.out).mono ?_
          rintro e w2 ⟨hB2, ao2, cap2, rfl, hS⟩
          have HS := Lib.hid hS
          have HB2 := Lib.hid (HB1.out.trans (hB2.mono HB1.out.size))
          clear hB2 hS
          have hq : (er == 0) = true ∧ nameK s.data.toList = some (joinK ks) ∨ (er == 0) = false ∧ nameK s.data.toList = none := by
            rcases HCS.out with ⟨h1, h2⟩ | ⟨h1, h2⟩
            · exact Or.inl ⟨by rw [h1]; rfl, h2⟩
            · exact Or.inr ⟨by rw [h1]; rfl, h2⟩
          rcases hq with ⟨q, hnk⟩ | ⟨q, hnk⟩
          all_goals
            have HNK := Lib.hid hnk
            clear hnk
            go_wp2_with fail
            go_loop [6, 14] (fun ov iv => ∃ i : Nat, i ≤ m ∧ iv = .int .i64 (i : Int) ∧ ov = .string (bs (joinK (ks.take i)))) (fun _ iv => m - (intOf iv).toNat)
            case atStart => exact ⟨0, Nat.zero_le _, rfl, rfl⟩
            case round =>
              obtain ⟨i, hi, rfl, rfl⟩ := hrel
              by_cases hlt : i < m
              · have hltI : (i : Int) < (m : Int) := by omega
                have hik : i < ks.length := by rw [HKL.out]; exact hlt
                obtain ⟨b, o, rfl, hc⟩ := HS.out i hik
                have hsn := joinK_snoc ks i hik
                have hle1 := joinK_le ks (i + 1)
                rw [hsn, List.length_append, kt.size_len] at hle1
                have HSN := Lib.hid hsn
                generalize ks[i] = k at hc HSN hle1
                have hcat : bs (joinK (ks.take i)) ++ k = bs (joinK (ks.take (i + 1))) := by rw [HSN.out, ← bs_app, bs_of]
                have hcb : ¬ 9223372036854775807 < (bs (joinK (ks.take i))).size + k.size := by rw [bs_size]; have := HJL.out; omega
                clear hsn
                go_wp2_with fail
                go_round
                case rel => exact ⟨i + 1, by omega, by go_num, rfl⟩
                case measure => simp [intOf]; omega
              · obtain rfl : i = m := by omega
                have hall : ks.take i = ks := List.take_of_length_le (by rw [HKL.out]; exact Nat.le_refl _)
                rw [hall]
                clear hall
                go_wp2_with fail
                go_ret2
                exact ⟨by rw [HNF.out, HF.out, HNK.out]; rfl, HB2.out⟩
        · have HF : Hid (formO 7 s.data.toList = ne0 (prp.phoneO s.data.toList)) := rfl
          have HC : Hid (Calls Tryz.prog 47 #[.string s] W0 fun e w' => e = .returned (prw.pairV (prp.phoneO s.data.toList)) ∧ Below W0.heap.size W0 w') := prw.rphone_any s W0 (by omega)
          cases ho : prp.phoneO s.data.toList with
          | none =>
            rw [ho] at HC HF
            rw [show prw.pairV none = .tuple #[.string ⟨#[]⟩, .int .i64 19] from rfl] at HC
            clear ho
            go_enter Tryz.func20, Tryz.ntmps20
            go_wp2_with fail
            refine HC.out.mono ?_
            rintro e w1 ⟨rfl, hB1⟩
            have HB1 := Lib.hid (HB0.out.trans (hB1.mono hw0))
            clear hB1
            go_wp2_with fail
            go_ret2
            exact ⟨by rw [HNF.out, HF.out]; rfl, HB1.out⟩
          | some u =>
            rw [ho] at HC HF
            have HC2 : Hid (Calls Tryz.prog 47 #[.string s] W0 fun e w' => e = .returned (.tuple #[.string (bs u), .int .i64 0]) ∧ Below W0.heap.size W0 w') := HC
            clear HC ho
            by_cases hu : u = []
            · have hue : ((bs u).size : Int) = 0 := by rw [hu]; rfl
              have HX : Hid (formO 7 s.data.toList = none) := by show _ = _; rw [HF.out, hu]; rfl
              clear hu
              go_enter Tryz.func20, Tryz.ntmps20
              go_wp2_with fail
              refine HC2.out.mono ?_
              rintro e w1 ⟨rfl, hB1⟩
              have HB1 := Lib.hid (HB0.out.trans (hB1.mono hw0))
              clear hB1
              go_wp2_with fail
              go_ret2
              exact ⟨by rw [HNF.out, HX.out]; rfl, HB1.out⟩
            · have HX : Hid (formO 7 s.data.toList = some u) := by show _ = _; rw [HF.out, ne0_some hu]
              have hupN : 0 < (bs u).size := by
                rw [bs_size]
                exact List.length_pos_iff.2 hu
              have hup : (0 : Int) < ((bs u).size : Int) := by omega
              clear hu
              go_enter Tryz.func20, Tryz.ntmps20
              go_wp2_with fail
              refine HC2.out.mono ?_
              rintro e w1 ⟨rfl, hB1⟩
              have HB1 := Lib.hid (HB0.out.trans (hB1.mono hw0))
              clear hB1
              go_wp2_with fail
              go_ret2
              exact ⟨by rw [HNF.out, HX.out]; rfl, HB1.out⟩
  · rw [normL_bad hsy]
    by_cases hs1 : syn < 1
    · clear hsy
      go_enter Tryz.func20, Tryz.ntmps20
      go_wp2_with fail
      go_ret2
      exact ⟨rfl, HB0.out⟩
    · have hs7 : 7 < syn := by omega
      have q1 : decide (syn < 1) = false := by rw [decide_eq_false_iff_not]; omega
      clear hsy hs1
      go_enter Tryz.func20, Tryz.ntmps20
      go_wp2_with fail
      go_ret2
      exact ⟨rfl, HB0.out⟩
end atw
end Go.Proofs.YtckpiaigoeicfaaGreatDoor
/-! HoldW -/
namespace Go.Proofs.YtckpiaigoeicfaaGreatDoor
open Go.RowKit
namespace atw
open atp
set_option linter.unusedVariables false
set_option linter.unusedSimpArgs false
/-- a type lies in block p -/
def TB (w : World) (p : Nat) (nm : ByteArray) (syn : Int) (sg : Bool) : Prop := w.heap[p]? = some (.cells #[.string nm, .int .i64 syn, .bool sg] 23 (0, 0))
theorem tb_new (w : World) (nm : ByteArray) (syn : Int) (sg : Bool) : TB (w.alloc (.cells #[.string nm, .int .i64 syn, .bool sg] 23)) w.heap.size nm syn sg := heap_alloc_new w _
theorem tb_cells {w : World} {p : Nat} {nm : ByteArray} {syn : Int} {sg : Bool} (h : TB w p nm syn sg) : w.cell? ⟨p, 0, none⟩ = some (.string nm) ∧ w.cell? ⟨p, 1, none⟩ = some (.int .i64 syn) ∧ w.cell? ⟨p, 2, none⟩ = some (.bool sg) :=
  ⟨by rw [Lib.cell_of_heap h]; rfl, by rw [Lib.cell_of_heap h]; rfl, by rw [Lib.cell_of_heap h]; rfl⟩
theorem tb_below {w w' : World} {p : Nat} {nm : ByteArray} {syn : Int} {sg : Bool} (h : TB w p nm syn sg) (hb : Below w.heap.size w w') : TB w' p nm syn sg := (hb.block p (kt.bld_lt h)).trans h
/-- how two values compare -/
def bothL (syn : Int) (a b : List UInt8) : List UInt8 × List UInt8 × Int :=
  if (normL syn a).2 ≠ 0 then ([], [], (normL syn a).2) else if (normL syn b).2 ≠ 0 then ([], [], (normL syn b).2) else ((normL syn a).1, (normL syn b).1, 0)
def eqL (syn : Int) (a b : List UInt8) : Bool × Int := (decide ((bothL syn a b).2.2 = 0) && decide ((bothL syn a b).1 = (bothL syn a b).2.1), (bothL syn a b).2.2)
def ordS (syn : Int) : Bool := decide (syn = 1) || decide (syn = 2) || decide (syn = 4)
def ordL (syn : Int) (a b : List UInt8) : Int × Int :=
  if ordS syn = false then (0, 20) else if (bothL syn a b).2.2 ≠ 0 then (0, (bothL syn a b).2.2) else
    if syn = 4 then (Lib.compareInt (worth (bothL syn a b).1) (worth (bothL syn a b).2.1), 0) else (Lib.compareBytes (bothL syn a b).1 (bothL syn a b).2.1, 0)
theorem norm_num {a : List UInt8} (h : (normL 4 a).2 = 0) : numOK (normL 4 a).1 = true ∧ (normL 4 a).1.length ≤ 19 := by
  have hle : ∀ l, numOK l = true → l.length ≤ 19 := by
    intro l hl
    unfold numOK at hl
    rw [Bool.or_eq_true] at hl
    rcases hl with hl | hl
    · rw [decide_eq_true_iff] at hl; subst hl; decide
    · simp only [Bool.and_eq_true, decide_eq_true_eq] at hl
      have h2 := hl.1.1.2
      unfold bare at h2
      split at h2
      · rw [List.length_tail] at h2; omega
      · omega
  unfold normL at h ⊢
  rw [if_neg (by decide)] at h ⊢
  split at h
  · cases h
  · split at h
    · cases h
    · rename_i h1 h2
      rw [if_neg h1, if_neg h2]
      have hf : formO 4 a = if numOK a = true then some a else none := rfl
      rw [hf] at h ⊢
      by_cases hn : numOK a = true
      · rw [if_pos hn]
        exact ⟨hn, hle a hn⟩
      · rw [if_neg hn] at h
        cases h
set_option maxRecDepth 20000 in
set_option maxHeartbeats 4000000 in
theorem both_any (nm : ByteArray) (syn : Int) (sg : Bool) (a b : ByteArray) (w : World) (ha : a.size ≤ 140737488351232) (hb : b.size ≤ 140737488351232) (hE : Hid (prw.Env w)) (hT : Hid (dnw.Tabs w)) :
    Calls Tryz.prog 25 #[.agg #[.string nm, .int .i64 syn, .bool sg], .string a, .string b] w fun e w' => e = .returned (.tuple #[.string (bs (bothL syn a.data.toList b.data.toList).1), .string (bs (bothL syn a.data.toList b.data.toList).2.1), .int .i64 (bothL syn a.data.toList b.data.toList).2.2]) ∧ Below w.heap.size w w' := by
  obtain ⟨W0, hW0⟩ : ∃ W, w.alloc (.cells #[.string nm, .int .i64 syn, .bool sg] 23) = W := ⟨_, rfl⟩
  have hB0 : Below w.heap.size w W0 := by rw [← hW0]; exact (Below.refl _ _).alloc (Nat.le_refl _) _
  have HB0 := Lib.hid hB0
  have hw0 : w.heap.size ≤ W0.heap.size := hB0.size
  have HTB0 : Hid (TB W0 w.heap.size nm syn sg) := by rw [← hW0]; exact tb_new w nm syn sg
  obtain ⟨k0, k1, k2⟩ := tb_cells HTB0.out
  have HE0 := Lib.hid (prw.env_below hE.out hB0)
  have HT0 := Lib.hid (dnw.tabs_below hT.out hB0)
  have HNA : Hid (∀ w, prw.Env w → dnw.Tabs w → Calls Tryz.prog 19 #[.agg #[.string nm, .int .i64 syn, .bool sg], .string a] w fun e w' => e = .returned (normV (normL syn a.data.toList)) ∧ Below w.heap.size w w') := fun w h1 h2 => normal_any nm syn sg a w ha (Lib.hid h1) (Lib.hid h2)
  have HNB : Hid (∀ w, prw.Env w → dnw.Tabs w → Calls Tryz.prog 19 #[.agg #[.string nm, .int .i64 syn, .bool sg], .string b] w fun e w' => e = .returned (normV (normL syn b.data.toList)) ∧ Below w.heap.size w w') := fun w h1 h2 => normal_any nm syn sg b w hb (Lib.hid h1) (Lib.hid h2)
  unfold bothL
  obtain ⟨na, hna⟩ : ∃ u, normL syn a.data.toList = u := ⟨_, rfl⟩
  obtain ⟨nb, hnb⟩ : ∃ u, normL syn b.data.toList = u := ⟨_, rfl⟩
  rw [hna] at HNA ⊢
  rw [hnb] at HNB ⊢
  clear hna hnb hB0
  obtain ⟨u, ea⟩ := na
  obtain ⟨v, eb⟩ := nb
  have HNA2 : Hid (∀ w, prw.Env w → dnw.Tabs w → Calls Tryz.prog 19 #[.agg #[.string nm, .int .i64 syn, .bool sg], .string a] w fun e w' => e = .returned (.tuple #[.string (bs u), .int .i64 ea]) ∧ Below w.heap.size w w') := HNA
  have HNB2 : Hid (∀ w, prw.Env w → dnw.Tabs w → Calls Tryz.prog 19 #[.agg #[.string nm, .int .i64 syn, .bool sg], .string b] w fun e w' => e = .returned (.tuple #[.string (bs v), .int .i64 eb]) ∧ Below w.heap.size w w') := HNB
  clear HNA HNB
  by_cases hea : ea = 0
  · have q : (ea != 0) = false := by rw [bne_eq_false_iff_eq]; exact hea
    rw [if_neg (not_not_intro hea)]
    clear hea
    by_cases heb : eb = 0
    · have q2 : (eb != 0) = false := by rw [bne_eq_false_iff_eq]; exact heb
      rw [if_neg (not_not_intro heb)]
      clear heb
      go_enter Tryz.func25, Tryz.ntmps25
      go_wp2_with fail
      refine (HNA2.out _ HE0.out HT0.out).mono ?_
      rintro e w1 ⟨rfl, hB1⟩
      have HB1 := Lib.hid (HB0.out.trans (hB1.mono hw0))
      have HE1 := Lib.hid (prw.env_below HE0.out hB1)
      have HT1 := Lib.hid (dnw.tabs_below HT0.out hB1)
      obtain ⟨m0, m1, m2⟩ := tb_cells (tb_below HTB0.out hB1)
      clear hB1 hW0 k0 k1 k2
      go_wp2_with fail
      refine (HNB2.out _ HE1.out HT1.out).mono ?_
      rintro e w2 ⟨rfl, hB2⟩
      have HB2 := Lib.hid (HB1.out.trans (hB2.mono HB1.out.size))
      clear hB2
      go_wp2_with fail
      go_ret3
      exact ⟨rfl, HB2.out⟩
    · have q2 : (eb != 0) = true := by rw [bne_iff_ne]; exact heb
      rw [if_pos heb]
      clear heb
      go_enter Tryz.func25, Tryz.ntmps25
      go_wp2_with fail
      refine (HNA2.out _ HE0.out HT0.out).mono ?_
      rintro e w1 ⟨rfl, hB1⟩
      have HB1 := Lib.hid (HB0.out.trans (hB1.mono hw0))
      have HE1 := Lib.hid (prw.env_below HE0.out hB1)
      have HT1 := Lib.hid (dnw.tabs_below HT0.out hB1)
      obtain ⟨m0, m1, m2⟩ := tb_cells (tb_below HTB0.out hB1)
      clear hB1 hW0 k0 k1 k2
      go_wp2_with fail
      refine (HNB2.out _ HE1.out HT1.out).mono ?_
      rintro e w2 ⟨rfl, hB2⟩
      have HB2 := Lib.hid (HB1.out.trans (hB2.mono HB1.out.size))
      clear hB2
      go_wp2_with fail
      go_ret3
      exact ⟨rfl, HB2.out⟩
  · have q : (ea != 0) = true := by rw [bne_iff_ne]; exact hea
    rw [if_pos hea]
    clear hea
    go_enter Tryz.func25, Tryz.ntmps25
    go_wp2_with fail
    refine (HNA2.out _ HE0.out HT0.out).mono ?_
    rintro e w1 ⟨rfl, hB1⟩
    have HB1 := Lib.hid (HB0.out.trans (hB1.mono hw0))
    clear hB1 hW0
    go_wp2_with fail
    go_ret3
    exact ⟨rfl, HB1.out⟩
theorem ite3 {α β γ : Type} {c : Prop} [Decidable c] (x y : α × β × γ) : (if c then x else y).1 = if c then x.1 else y.1 := by split <;> rfl
set_option maxRecDepth 20000 in
set_option maxHeartbeats 4000000 in
theorem equal_any (nm : ByteArray) (syn : Int) (sg : Bool) (a b : ByteArray) (w : World) (ha : a.size ≤ 140737488351232) (hb : b.size ≤ 140737488351232) (hE : Hid (prw.Env w)) (hT : Hid (dnw.Tabs w)) :
    Calls Tryz.prog 10 #[.agg #[.string nm, .int .i64 syn, .bool sg], .string a, .string b] w fun e w' => e = .returned (.tuple #[.bool (eqL syn a.data.toList b.data.toList).1, .int .i64 (eqL syn a.data.toList b.data.toList).2]) ∧ Below w.heap.size w w' := by
  obtain ⟨W0, hW0⟩ : ∃ W, w.alloc (.cells #[.string nm, .int .i64 syn, .bool sg] 23) = W := ⟨_, rfl⟩
  have hB0 : Below w.heap.size w W0 := by rw [← hW0]; exact (Below.refl _ _).alloc (Nat.le_refl _) _
  have HB0 := Lib.hid hB0
  have hw0 : w.heap.size ≤ W0.heap.size := hB0.size
  have HTB0 : Hid (TB W0 w.heap.size nm syn sg) := by rw [← hW0]; exact tb_new w nm syn sg
  obtain ⟨k0, k1, k2⟩ := tb_cells HTB0.out
  have HE0 := Lib.hid (prw.env_below hE.out hB0)
  have HT0 := Lib.hid (dnw.tabs_below hT.out hB0)
  have HBO : Hid (∀ w, prw.Env w → dnw.Tabs w → Calls Tryz.prog 25 #[.agg #[.string nm, .int .i64 syn, .bool sg], .string a, .string b] w fun e w' => e = .returned (.tuple #[.string (bs (bothL syn a.data.toList b.data.toList).1), .string (bs (bothL syn a.data.toList b.data.toList).2.1), .int .i64 (bothL syn a.data.toList b.data.toList).2.2]) ∧ Below w.heap.size w w') := fun w h1 h2 => both_any nm syn sg a b w ha hb (Lib.hid h1) (Lib.hid h2)
  unfold eqL
  generalize bothL syn a.data.toList b.data.toList = bo at HBO ⊢
  obtain ⟨u, v, er⟩ := bo
  simp only at HBO ⊢
  have heq := bs_beq u v
  clear hB0
  obtain ⟨c, hc⟩ : ∃ c, decide (u = v) = c := ⟨_, rfl⟩
  rw [hc] at heq ⊢
  clear hc
  by_cases her : er = 0
  · have q : (er == 0) = true := by rw [beq_iff_eq]; exact her
    rw [decide_eq_true her]
    clear her
    go_enter Tryz.func10, Tryz.ntmps10
    go_wp2_with fail
    refine (HBO.out _ HE0.out HT0.out).mono ?_
    rintro e w1 ⟨rfl, hB1⟩
    have HB1 := Lib.hid (HB0.out.trans (hB1.mono hw0))
    clear hB1 hW0
    go_wp2_with fail
    go_ret2
    exact ⟨rfl, HB1.out⟩
  · have q : (er == 0) = false := by rw [beq_eq_false_iff_ne]; exact her
    rw [decide_eq_false her]
    clear her
    go_enter Tryz.func10, Tryz.ntmps10
    go_wp2_with fail
    refine (HBO.out _ HE0.out HT0.out).mono ?_
    rintro e w1 ⟨rfl, hB1⟩
    have HB1 := Lib.hid (HB0.out.trans (hB1.mono hw0))
    clear hB1 hW0
    go_wp2_with fail
    go_ret2
    exact ⟨rfl, HB1.out⟩
set_option maxRecDepth 20000 in
set_option maxHeartbeats 4000000 in
theorem requal_any (nm : ByteArray) (syn : Int) (sg : Bool) (a b : ByteArray) (w : World) (ha : a.size ≤ 140737488351232) (hb : b.size ≤ 140737488351232) :
    Calls Tryz.prog 11 #[.agg #[.string nm, .int .i64 syn, .bool sg], .string a, .string b] w fun e w' => e = .returned (.tuple #[.bool (eqL syn a.data.toList b.data.toList).1, .int .i64 (eqL syn a.data.toList b.data.toList).2]) ∧ Below w.heap.size w w' := by
  obtain ⟨W0, hW0⟩ : ∃ W, w.alloc (.cells #[.string nm, .int .i64 syn, .bool sg] 23) = W := ⟨_, rfl⟩
  have hB0 : Below w.heap.size w W0 := by rw [← hW0]; exact (Below.refl _ _).alloc (Nat.le_refl _) _
  have HB0 := Lib.hid hB0
  have hw0 : w.heap.size ≤ W0.heap.size := hB0.size
  have HTB0 : Hid (TB W0 w.heap.size nm syn sg) := by rw [← hW0]; exact tb_new w nm syn sg
  obtain ⟨k0, k1, k2⟩ := tb_cells HTB0.out
  have HNA : Hid (∀ w, Calls Tryz.prog 20 #[.agg #[.string nm, .int .i64 syn, .bool sg], .string a] w fun e w' => e = .returned (normV (normL syn a.data.toList)) ∧ Below w.heap.size w w') := fun w => rnormal_any nm syn sg a w ha
  have HNB : Hid (∀ w, Calls Tryz.prog 20 #[.agg #[.string nm, .int .i64 syn, .bool sg], .string b] w fun e w' => e = .returned (normV (normL syn b.data.toList)) ∧ Below w.heap.size w w') := fun w => rnormal_any nm syn sg b w hb
  unfold eqL bothL
  obtain ⟨na, hna⟩ : ∃ u, normL syn a.data.toList = u := ⟨_, rfl⟩
  obtain ⟨nb, hnb⟩ : ∃ u, normL syn b.data.toList = u := ⟨_, rfl⟩
  rw [hna] at HNA ⊢
  rw [hnb] at HNB ⊢
  clear hna hnb hB0
  obtain ⟨u, ea⟩ := na
  obtain ⟨v, eb⟩ := nb
  have HNA2 : Hid (∀ w, Calls Tryz.prog 20 #[.agg #[.string nm, .int .i64 syn, .bool sg], .string a] w fun e w' => e = .returned (.tuple #[.string (bs u), .int .i64 ea]) ∧ Below w.heap.size w w') := HNA
  have HNB2 : Hid (∀ w, Calls Tryz.prog 20 #[.agg #[.string nm, .int .i64 syn, .bool sg], .string b] w fun e w' => e = .returned (.tuple #[.string (bs v), .int .i64 eb]) ∧ Below w.heap.size w w') := HNB
  have heq := bs_beq u v
  obtain ⟨c, hc⟩ : ∃ c, decide (u = v) = c := ⟨_, rfl⟩
  rw [hc] at heq
  have HC := Lib.hid hc
  clear HNA HNB hc
  by_cases hea : ea = 0
  · have q : (ea != 0) = false := by rw [bne_eq_false_iff_eq]; exact hea
    rw [if_neg (not_not_intro hea)]
    clear hea
    by_cases heb : eb = 0
    · have q2 : (eb != 0) = false := by rw [bne_eq_false_iff_eq]; exact heb
      rw [if_neg (not_not_intro heb)]
      clear heb
      simp only [HC.out, decide_true, Bool.true_and]
      go_enter Tryz.func11, Tryz.ntmps11
      go_wp2_with fail
      refine (HNA2.out _).mono ?_
      rintro e w1 ⟨rfl, hB1⟩
      have HB1 := Lib.hid (HB0.out.trans (hB1.mono hw0))
      obtain ⟨m0, m1, m2⟩ := tb_cells (tb_below HTB0.out hB1)
      have HTB1 := Lib.hid (tb_below HTB0.out hB1)
      clear hB1 hW0 k0 k1 k2
      go_wp2_with fail
      refine (HNB2.out _).mono ?_
      rintro e w2 ⟨rfl, hB2⟩
      have HB2 := Lib.hid (HB1.out.trans (hB2.mono HB1.out.size))
      obtain ⟨n0, n1, n2⟩ := tb_cells (tb_below HTB1.out hB2)
      clear hB2 m0 m1 m2
      go_wp2_with fail
      go_ret2
      exact ⟨rfl, HB2.out⟩
    · have q2 : (eb != 0) = true := by rw [bne_iff_ne]; exact heb
      rw [if_pos heb]
      simp only [decide_eq_false heb, Bool.false_and]
      clear heb
      go_enter Tryz.func11, Tryz.ntmps11
      go_wp2_with fail
      refine (HNA2.out _).mono ?_
      rintro e w1 ⟨rfl, hB1⟩
      have HB1 := Lib.hid (HB0.out.trans (hB1.mono hw0))
      obtain ⟨m0, m1, m2⟩ := tb_cells (tb_below HTB0.out hB1)
      have HTB1 := Lib.hid (tb_below HTB0.out hB1)
      clear hB1 hW0 k0 k1 k2
      go_wp2_with fail
      refine (HNB2.out _).mono ?_
      rintro e w2 ⟨rfl, hB2⟩
      have HB2 := Lib.hid (HB1.out.trans (hB2.mono HB1.out.size))
      obtain ⟨n0, n1, n2⟩ := tb_cells (tb_below HTB1.out hB2)
      clear hB2 m0 m1 m2
      go_wp2_with fail
      go_ret2
      exact ⟨rfl, HB2.out⟩
  · have q : (ea != 0) = true := by rw [bne_iff_ne]; exact hea
    rw [if_pos hea]
    simp only [decide_eq_false hea, Bool.false_and]
    clear hea
    go_enter Tryz.func11, Tryz.ntmps11
    go_wp2_with fail
    refine (HNA2.out _).mono ?_
    rintro e w1 ⟨rfl, hB1⟩
    have HB1 := Lib.hid (HB0.out.trans (hB1.mono hw0))
    clear hB1 hW0
    go_wp2_with fail
    go_ret2
    exact ⟨rfl, HB1.out⟩
end atw
end Go.Proofs.YtckpiaigoeicfaaGreatDoor
