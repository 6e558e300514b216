/- The walk of the reference's Text: a value's text. (Printed by text_gen.py.) -/
import Derived.Test.YtjjbmhndakmkbaaDoorDValW
import Derived.Test.YtjjbmhndakmkbaaDoorBRowW
namespace Go.Proofs.YtjjbmhndakmkbaaDoor
open Go.RowKit
namespace dnw
open dnp
set_option linter.unusedVariables false
set_option linter.unusedSimpArgs false
set_option maxRecDepth 20000 in
set_option maxHeartbeats 4000000 in
theorem rtext_any (s : ByteArray) (w : World) (hs : s.size ≤ 1000000) : Calls Tryd.prog 18 #[.string s] w fun e w' => e = .returned (.string ⟨(textL s.data.toList).toArray⟩) ∧ Below w.heap.size w w' := by
  go_enter Tryd.func18, Tryd.ntmps18
  go_wp2_with fail
  go_loopw [3, 4, 5] (fun bv iv _ wr => ∃ (i : Nat) (acc : List UInt8), i ≤ s.size ∧ iv = .int .i64 (i : Int) ∧ Hid (BRow wr w.heap.size bv acc) ∧ acc.length ≤ 3 * i ∧ Hid (TxAt s i acc) ∧ Below w.heap.size w wr) (fun _ iv _ _ => s.size - (intOf iv).toNat)
  case atStart => exact ⟨0, [], Nat.zero_le _, rfl, brow_made w _ (Nat.le_refl _), Nat.zero_le _, rfl, (Below.refl _ _).alloc (Nat.le_refl _) _⟩
  case round =>
    obtain ⟨i, acc, hi, rfl, HI, hal, hT, hB⟩ := hrel
    have hsz := hB.size
    obtain ⟨ao, m, cap, rfl, hm⟩ := brow_form HI.out
    by_cases hlt : i < s.size
    · have hlt' : (i : Int) < (s.size : Int) := by omega
      have HT := txAt_step hT.out hlt
      have HSP : Hid (∀ W, Calls Tryd.prog 31 #[.int .u8 ((s[i]'hlt).toNat : Int)] W fun e w' => e = .returned (.bool (special (s[i]'hlt))) ∧ W = w') := fun W => special_any _ W
      have HX0 := hexed_iff (s[i]'hlt)
      have hlen : acc.length ≤ 3000000 := by omega
      have hc := (s[i]'hlt).toNat_lt
      have HT := Lib.hid HT
      by_cases hx : hexed (s[i]'hlt) = true
      · have HTX : Hid (TxAt s (i + 1) (acc ++ [92] ++ b64p.hex [(s[i]'hlt)])) := by
          have h := HT.out
          rw [textB_hex hx, ← List.append_assoc] at h
          exact h
        obtain ⟨n1, hn1⟩ : ∃ n : Nat, n = (s[i]'hlt).toNat / 16 := ⟨_, rfl⟩
        obtain ⟨n2, hn2⟩ : ∃ n : Nat, n = (s[i]'hlt).toNat % 16 := ⟨_, rfl⟩
        have D1 := Lib.hid (fun W : World => rdigit_any n1 (by omega) W)
        have D2 := Lib.hid (fun W : World => rdigit_any n2 (by omega) W)
        have r1 : IntKind.i64.wrap ((s[i]'hlt).toNat : Int) = ((s[i]'hlt).toNat : Int) := kt.wrap_i64_nat _ (by omega)
        have r2 : ((s[i]'hlt).toNat : Int).tdiv 16 = (n1 : Int) := by rw [hn1]; rfl
        have r3 : ((s[i]'hlt).toNat : Int).tmod 16 = (n2 : Int) := by rw [hn2]; rfl
        have r4 : IntKind.i64.wrap (n1 : Int) = (n1 : Int) := kt.wrap_i64_nat _ (by omega)
        have r5 : IntKind.i64.wrap (n2 : Int) = (n2 : Int) := kt.wrap_i64_nat _ (by omega)
        obtain ⟨ao2, m2, cap2, w2, hap2, hI2, hB2⟩ := brow_app3 92 (b64p.dg n1) (b64p.dg n2) HI.out (by omega) hsz
        have hap2' : (Builtin.append_ #[54, 54] 54 #[.slice ao m cap, .slice (some ⟨wr.heap.size, 0, none⟩) 3 3]).run Tryd.prog (wr.alloc (.cells #[.int .u8 92, .int .u8 ((b64p.dg n1).toNat : Int), .int .u8 ((b64p.dg n2).toNat : Int)] 5)) = .ok (.slice ao2 m2 cap2) w2 := hap2
        have HI2 : Hid (BRow w2 w.heap.size (.slice ao2 m2 cap2) (acc ++ [92] ++ b64p.hex [(s[i]'hlt)])) := by
          show BRow _ _ _ _
          rw [hn1, hn2] at hI2
          rw [List.append_assoc]
          exact hI2
        have HB2 := Lib.hid (hB.trans hB2)
        have hap2' := ApX.mk hap2'
        have HN1 := Lib.hid hn1
        have HN2 := Lib.hid hn2
        have hhl := b64p.hex_length [(s[i]'hlt)]
        have hx3 : ((s[i]'hlt).toNat : Int) < 32 ∨ (¬ ((s[i]'hlt).toNat : Int) < 32 ∧ (((s[i]'hlt).toNat : Int) == 127) = true) := by
          rcases HX0.1 hx with h | h
          · exact Or.inl h
          · exact Or.inr ⟨by omega, by rw [beq_iff_eq]; exact h⟩
        clear HX0 hx HT hap2 hI2 hB2 hn1 hn2 HSP
        generalize b64p.dg n1 = d1 at D1 hap2'
        generalize b64p.dg n2 = d2 at D2 hap2'
        rcases hx3 with x1 | ⟨x1, x2⟩
        all_goals
          go_wp2_with fail
          refine (D1.out _).mono ?_
          rintro e w3 ⟨rfl, rfl⟩
          go_wp2_with fail
          refine (D2.out _).mono ?_
          rintro e w3 ⟨rfl, rfl⟩
          go_wp2_with (at_builtin; refine wp_apX rfl _ _ _ _ rfl _ _ hap2' ?_)
          go_roundw
          case rel => exact ⟨i + 1, _, by omega, by go_num, HI2, by simp [hhl]; omega, HTX, HB2.out⟩
          case measure => simp [intOf]; omega
      · have hx' : hexed (s[i]'hlt) = false := by simpa using hx
        have x1 : ¬ ((s[i]'hlt).toNat : Int) < 32 := fun h => hx (HX0.2 (Or.inl h))
        have x2 : (((s[i]'hlt).toNat : Int) == 127) = false := by rw [beq_eq_false_iff_ne]; exact fun h => hx (HX0.2 (Or.inr h))
        have HTE : Hid (∀ x : Unit, fenced (decide (i = 0)) (decide (i + 1 = s.size)) (s[i]'hlt) = true → TxAt s (i + 1) (acc ++ [92] ++ [(s[i]'hlt)])) := by
          intro _ hf
          have h := HT.out
          rw [textB_esc hx' hf, ← List.append_assoc] at h
          exact h
        have HTB : Hid (∀ x : Unit, fenced (decide (i = 0)) (decide (i + 1 = s.size)) (s[i]'hlt) = false → TxAt s (i + 1) (acc ++ [(s[i]'hlt)])) := by
          intro _ hf
          have h := HT.out
          rw [textB_bare hx' hf] at h
          exact h
        have HF0 : fenced (decide (i = 0)) (decide (i + 1 = s.size)) (s[i]'hlt) = (special (s[i]'hlt) || (decide ((s[i]'hlt) = 32) && (decide (i = 0) || decide (i + 1 = s.size))) || (decide ((s[i]'hlt) = 35) && decide (i = 0))) := rfl
        clear hx hx' HX0 HT
        by_cases h32 : ((s[i]'hlt).toNat : Int) = 32
        · have e32 : (s[i]'hlt) = 32 := u8_eq (n := 32) (by omega) h32
          have e35 : (s[i]'hlt) ≠ 35 := by rw [e32]; decide
          have hs : special (s[i]'hlt) = false := by rw [e32]; decide
          have q32 : ((((s[i]'hlt).toNat : Int) == 32)) = true := by rw [beq_iff_eq]; omega
          have q35 : ((((s[i]'hlt).toNat : Int) == 35)) = false := by rw [beq_eq_false_iff_ne]; omega
          clear h32
          by_cases h0 : i = 0
          · have q0 : ((i : Int) == 0) = true := by rw [beq_iff_eq]; omega
            have HF : Hid (fenced (decide (i = 0)) (decide (i + 1 = s.size)) (s[i]'hlt) = true) := by show _ = _; rw [HF0, e32, decide_eq_true h0]; rfl
            rw [hs] at HSP
            clear HF0 hs e32 e35 h0
            obtain ⟨ao1, m1, cap1, w1, hap1, hI1, hB1⟩ := brow_app 92 HI.out (by omega) hsz
            have hap1' : (Builtin.append_ #[54, 54] 54 #[.slice ao m cap, .slice (some ⟨wr.heap.size, 0, none⟩) 1 1]).run Tryd.prog (wr.alloc (.cells #[.int .u8 92] 5)) = .ok (.slice ao1 m1 cap1) w1 := hap1
            have hsz1 := Nat.le_trans hsz hB1.size
            obtain ⟨ao2, m2, cap2, w2, hap2, hI2, hB2⟩ := brow_app (s[i]'hlt) hI1 (by simp; omega) hsz1
            have HI2 := Lib.hid hI2
            have HB2 := Lib.hid ((hB.trans hB1).trans hB2)
            clear hap1 hI1 hB1 hI2 hB2
            have hap1' := ApX.mk hap1'
            have hap2 := ApX.mk hap2
            go_wp2_with fail
            refine (HSP.out _).mono ?_
            rintro e w3 ⟨rfl, rfl⟩
            go_wp2_with (first | (at_builtin; refine wp_apX rfl _ _ _ _ rfl _ _ hap2 ?_) | (at_builtin; refine wp_apX rfl _ _ _ _ rfl _ _ hap1' ?_))
            go_roundw
            case rel => exact ⟨i + 1, _, by omega, by go_num, HI2, by simp; omega, Lib.hid (HTE.out () HF.out), HB2.out⟩
            case measure => simp [intOf]; omega
          · have q0 : ((i : Int) == 0) = false := by rw [beq_eq_false_iff_ne]; omega
            by_cases hl : i + 1 = s.size
            · have ql : ((i : Int) + 1 == (s.size : Int)) = true := by rw [beq_iff_eq]; omega
              have HF : Hid (fenced (decide (i = 0)) (decide (i + 1 = s.size)) (s[i]'hlt) = true) := by show _ = _; rw [HF0, e32, decide_eq_false h0, decide_eq_true hl]; rfl
              rw [hs] at HSP
              clear HF0 hs e32 e35 hl
              obtain ⟨ao1, m1, cap1, w1, hap1, hI1, hB1⟩ := brow_app 92 HI.out (by omega) hsz
              have hap1' : (Builtin.append_ #[54, 54] 54 #[.slice ao m cap, .slice (some ⟨wr.heap.size, 0, none⟩) 1 1]).run Tryd.prog (wr.alloc (.cells #[.int .u8 92] 5)) = .ok (.slice ao1 m1 cap1) w1 := hap1
              have hsz1 := Nat.le_trans hsz hB1.size
              obtain ⟨ao2, m2, cap2, w2, hap2, hI2, hB2⟩ := brow_app (s[i]'hlt) hI1 (by simp; omega) hsz1
              have HI2 := Lib.hid hI2
              have HB2 := Lib.hid ((hB.trans hB1).trans hB2)
              clear hap1 hI1 hB1 hI2 hB2
              have hap1' := ApX.mk hap1'
              have hap2 := ApX.mk hap2
              go_wp2_with fail
              refine (HSP.out _).mono ?_
              rintro e w3 ⟨rfl, rfl⟩
              go_wp2_with (first | (at_builtin; refine wp_apX rfl _ _ _ _ rfl _ _ hap2 ?_) | (at_builtin; refine wp_apX rfl _ _ _ _ rfl _ _ hap1' ?_))
              go_roundw
              case rel => exact ⟨i + 1, _, by omega, by go_num, HI2, by simp; omega, Lib.hid (HTE.out () HF.out), HB2.out⟩
              case measure => simp [intOf]; omega
            · have ql : ((i : Int) + 1 == (s.size : Int)) = false := by rw [beq_eq_false_iff_ne]; omega
              have HF : Hid (fenced (decide (i = 0)) (decide (i + 1 = s.size)) (s[i]'hlt) = false) := by show _ = _; rw [HF0, e32, decide_eq_false h0, decide_eq_false hl]; rfl
              rw [hs] at HSP
              clear HF0 hs e32 e35
              obtain ⟨ao2, m2, cap2, w2, hap2, hI2, hB2⟩ := brow_app (s[i]'hlt) HI.out (by omega) hsz
              have HI2 := Lib.hid hI2
              have HB2 := Lib.hid (hB.trans hB2)
              clear hI2 hB2
              have hap2 := ApX.mk hap2
              go_wp2_with fail
              refine (HSP.out _).mono ?_
              rintro e w3 ⟨rfl, rfl⟩
              go_wp2_with (at_builtin; refine wp_apX rfl _ _ _ _ rfl _ _ hap2 ?_)
              go_roundw
              case rel => exact ⟨i + 1, _, by omega, by go_num, HI2, by simp; omega, Lib.hid (HTB.out () HF.out), HB2.out⟩
              case measure => simp [intOf]; omega
        · have e32 : (s[i]'hlt) ≠ 32 := fun h => h32 (by rw [h]; rfl)
          have q32 : ((((s[i]'hlt).toNat : Int) == 32)) = false := by rw [beq_eq_false_iff_ne]; omega
          by_cases h35 : ((s[i]'hlt).toNat : Int) = 35
          · have e35 : (s[i]'hlt) = 35 := u8_eq (n := 35) (by omega) h35
            have hs : special (s[i]'hlt) = false := by rw [e35]; decide
            have q35 : ((((s[i]'hlt).toNat : Int) == 35)) = true := by rw [beq_iff_eq]; omega
            clear h35
            by_cases h0 : i = 0
            · have q0 : ((i : Int) == 0) = true := by rw [beq_iff_eq]; omega
              have HF : Hid (fenced (decide (i = 0)) (decide (i + 1 = s.size)) (s[i]'hlt) = true) := by show _ = _; rw [HF0, e35, decide_eq_true h0]; rfl
              rw [hs] at HSP
              clear HF0 hs e32 e35 h0
              obtain ⟨ao1, m1, cap1, w1, hap1, hI1, hB1⟩ := brow_app 92 HI.out (by omega) hsz
              have hap1' : (Builtin.append_ #[54, 54] 54 #[.slice ao m cap, .slice (some ⟨wr.heap.size, 0, none⟩) 1 1]).run Tryd.prog (wr.alloc (.cells #[.int .u8 92] 5)) = .ok (.slice ao1 m1 cap1) w1 := hap1
              have hsz1 := Nat.le_trans hsz hB1.size
              obtain ⟨ao2, m2, cap2, w2, hap2, hI2, hB2⟩ := brow_app (s[i]'hlt) hI1 (by simp; omega) hsz1
              have HI2 := Lib.hid hI2
              have HB2 := Lib.hid ((hB.trans hB1).trans hB2)
              clear hap1 hI1 hB1 hI2 hB2
              have hap1' := ApX.mk hap1'
              have hap2 := ApX.mk hap2
              go_wp2_with fail
              refine (HSP.out _).mono ?_
              rintro e w3 ⟨rfl, rfl⟩
              go_wp2_with (first | (at_builtin; refine wp_apX rfl _ _ _ _ rfl _ _ hap2 ?_) | (at_builtin; refine wp_apX rfl _ _ _ _ rfl _ _ hap1' ?_))
              go_roundw
              case rel => exact ⟨i + 1, _, by omega, by go_num, HI2, by simp; omega, Lib.hid (HTE.out () HF.out), HB2.out⟩
              case measure => simp [intOf]; omega
            · have q0 : ((i : Int) == 0) = false := by rw [beq_eq_false_iff_ne]; omega
              have HF : Hid (fenced (decide (i = 0)) (decide (i + 1 = s.size)) (s[i]'hlt) = false) := by show _ = _; rw [HF0, e35, decide_eq_false h0]; rfl
              rw [hs] at HSP
              clear HF0 hs e32 e35
              obtain ⟨ao2, m2, cap2, w2, hap2, hI2, hB2⟩ := brow_app (s[i]'hlt) HI.out (by omega) hsz
              have HI2 := Lib.hid hI2
              have HB2 := Lib.hid (hB.trans hB2)
              clear hI2 hB2
              have hap2 := ApX.mk hap2
              go_wp2_with fail
              refine (HSP.out _).mono ?_
              rintro e w3 ⟨rfl, rfl⟩
              go_wp2_with (at_builtin; refine wp_apX rfl _ _ _ _ rfl _ _ hap2 ?_)
              go_roundw
              case rel => exact ⟨i + 1, _, by omega, by go_num, HI2, by simp; omega, Lib.hid (HTB.out () HF.out), HB2.out⟩
              case measure => simp [intOf]; omega
          · have e35 : (s[i]'hlt) ≠ 35 := fun h => h35 (by rw [h]; rfl)
            have q35 : ((((s[i]'hlt).toNat : Int) == 35)) = false := by rw [beq_eq_false_iff_ne]; omega
            cases hs : special (s[i]'hlt) with
            | true =>
              have HF : Hid (fenced (decide (i = 0)) (decide (i + 1 = s.size)) (s[i]'hlt) = true) := by show _ = _; rw [HF0, hs]; rfl
              rw [hs] at HSP
              clear HF0 hs e32 e35
              obtain ⟨ao1, m1, cap1, w1, hap1, hI1, hB1⟩ := brow_app 92 HI.out (by omega) hsz
              have hap1' : (Builtin.append_ #[54, 54] 54 #[.slice ao m cap, .slice (some ⟨wr.heap.size, 0, none⟩) 1 1]).run Tryd.prog (wr.alloc (.cells #[.int .u8 92] 5)) = .ok (.slice ao1 m1 cap1) w1 := hap1
              have hsz1 := Nat.le_trans hsz hB1.size
              obtain ⟨ao2, m2, cap2, w2, hap2, hI2, hB2⟩ := brow_app (s[i]'hlt) hI1 (by simp; omega) hsz1
              have HI2 := Lib.hid hI2
              have HB2 := Lib.hid ((hB.trans hB1).trans hB2)
              clear hap1 hI1 hB1 hI2 hB2
              have hap1' := ApX.mk hap1'
              have hap2 := ApX.mk hap2
              go_wp2_with fail
              refine (HSP.out _).mono ?_
              rintro e w3 ⟨rfl, rfl⟩
              go_wp2_with (first | (at_builtin; refine wp_apX rfl _ _ _ _ rfl _ _ hap2 ?_) | (at_builtin; refine wp_apX rfl _ _ _ _ rfl _ _ hap1' ?_))
              go_roundw
              case rel => exact ⟨i + 1, _, by omega, by go_num, HI2, by simp; omega, Lib.hid (HTE.out () HF.out), HB2.out⟩
              case measure => simp [intOf]; omega
            | false =>
              have HF : Hid (fenced (decide (i = 0)) (decide (i + 1 = s.size)) (s[i]'hlt) = false) := by show _ = _; rw [HF0, hs, decide_eq_false e32, decide_eq_false e35]; rfl
              rw [hs] at HSP
              clear HF0 hs e32 e35
              obtain ⟨ao2, m2, cap2, w2, hap2, hI2, hB2⟩ := brow_app (s[i]'hlt) HI.out (by omega) hsz
              have HI2 := Lib.hid hI2
              have HB2 := Lib.hid (hB.trans hB2)
              clear hI2 hB2
              have hap2 := ApX.mk hap2
              go_wp2_with fail
              refine (HSP.out _).mono ?_
              rintro e w3 ⟨rfl, rfl⟩
              go_wp2_with (at_builtin; refine wp_apX rfl _ _ _ _ rfl _ _ hap2 ?_)
              go_roundw
              case rel => exact ⟨i + 1, _, by omega, by go_num, HI2, by simp; omega, Lib.hid (HTB.out () HF.out), HB2.out⟩
              case measure => simp [intOf]; omega
    · obtain rfl : i = s.size := by omega
      have HT := Lib.hid (txAt_end hT.out)
      have hst := brow_str HI.out
      go_wp2_with fail
      go_ret
      exact ⟨kt.ret_str (by rw [HT.out]), hB⟩
end dnw
end Go.Proofs.YtjjbmhndakmkbaaDoor
