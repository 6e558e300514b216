/- The walk of the reference's Encode. -/
import Derived.Test.YtkeheaempbmmaaaEnc
namespace Go.Proofs.Ytkeheaempbmmaaa
open Go.RowKit
namespace nod
open fldw
theorem numS2 {n : Nat} (h : n < 65536) : numS n 2 = ⟨(fld.be n 2).toArray⟩ := numS_be (by omega) (by omega) (by
  have : (256 : Nat) ^ 2 = 65536 := by decide
  omega)
set_option maxHeartbeats 4000000 in
theorem rencode_any (leaf : Bool) (ao : Option Addr) (cap : Nat) (l : List Cel) (w : World) (hl : Hid (Cels w ao l)) (hs : Hid (∀ c ∈ l, c.key.size ≤ 1000000 ∧ c.val.size ≤ 1000000)) (hn : l.length ≤ 1000000) :
    Calls Try.prog 12 #[.bool leaf, .slice ao l.length cap] w fun e w' => EncE leaf l e ∧ Below w.heap.size w w' := by
  have R := Lib.hid (rright_any leaf ao cap l w hl (fun c hc => (hs.out c hc).1) hn)
  have S := Lib.hid (fun w' (h : Below w.heap.size w w') => count_any leaf ao cap l w' (Lib.hid (cels_below hl.out h)) hs hn)
  go_enter Try.func12, Try.ntmps12
  go_wp2_with fail
  refine R.out.mono ?_
  rintro e w1 ⟨⟨b, rfl, hb⟩, hB1⟩
  have hb' := Lib.hid hb
  clear hb
  cases b with
  | false =>
    have HN : Hid (¬ Fit leaf l) := fun h => by have := hb'.out.2 h; cases this
    go_wp2_with fail
    go_ret2
    exact ⟨⟨_, _, rfl, Or.inl ⟨HN.out, rfl, rfl⟩⟩, hB1⟩
  | true =>
    have HY : Hid (Fit leaf l) := hb'.out.1 rfl
    obtain ⟨M, hM⟩ : ∃ M : Nat, Hid (M = sum leaf l) := ⟨_, rfl⟩
    rw [← hM.out] at S
    go_wp2_with fail
    refine (S.out w1 hB1).mono ?_
    rintro e w2 ⟨rfl, hB2⟩
    have hB12 := hB1.trans (hB2.mono hB1.size)
    by_cases h4 : 488 < M
    · have h4' : 488 < (M : Int) := by omega
      go_wp2_with fail
      go_ret2
      exact ⟨⟨_, _, rfl, Or.inr (Or.inl ⟨HY.out, by rw [← hM.out]; exact h4, rfl, rfl⟩)⟩, hB12⟩
    · have h4' : ¬ 488 < (M : Int) := by omega
      have hsl := sum_lens leaf l
      rw [← hM.out] at hsl
      have hn488 : l.length ≤ 243 := by omega
      obtain ⟨T, hT⟩ : ∃ T : Nat, Hid (T = lens leaf l) := ⟨_, rfl⟩
      rw [← hT.out] at hsl
      have P : ∀ w, Calls Try.prog 27 #[.int .i64 (l.length : Int), .int .i64 2] w fun e w' => e = .returned (.string (numS l.length 2)) ∧ Below w.heap.size w w' := fun w => number_any l.length 2 w (by omega) (by omega)
      obtain ⟨h0, hh0⟩ : ∃ h0 : ByteArray, Hid (h0 = numS l.length 2) := ⟨_, rfl⟩
      rw [← hh0.out] at P
      have PH := Lib.hid P
      clear P
      go_wp2_with fail
      refine (PH.out _).mono ?_
      rintro e w3 ⟨rfl, hB3'⟩
      have hB3 := hB12.trans (hB3'.mono hB12.size)
      clear hB3'
      go_wp2_with fail
      go_loopw [6, 7, 8] (fun hv av iv wr => ∃ (i a : Nat) (h : ByteArray), i ≤ l.length ∧ iv = .int .i64 i ∧ hv = .string h ∧ av = .int .i64 a ∧ Hid (h.data.toList = fld.be l.length 2 ++ slots leaf (2 + 2 * l.length) (l.take i)) ∧ h.size = 2 + 2 * i ∧ Hid (a = 2 + 2 * l.length + lens leaf (l.take i)) ∧ Below w.heap.size w wr) (fun _ _ iv _ => l.length - (intOf iv).toNat)
      case atStart => exact ⟨0, 2 + 2 * l.length, h0, Nat.zero_le _, rfl, rfl, by go_num, by show _ = _; rw [hh0.out, numS2 (by omega)]; simp [slots], by rw [hh0.out, numS2 (by omega), ← kt.size_len]; simp [fld.be_length], by show _ = _; simp [lens], hB3⟩
      case round =>
        obtain ⟨i, a, h, hi, rfl, rfl, rfl, hH, hhz, ha, hB⟩ := hrel
        have hsz := hB.size
        by_cases hil : i < l.length
        · have hil' : (i : Int) < (l.length : Int) := by omega
          obtain ⟨c, hc⟩ : ∃ c : Cel, Hid (c = l[i]'hil) := ⟨l[i]'hil, rfl⟩
          have hok : ok leaf c = true := by rw [hc.out]; exact (HY.out.2 i hil).1
          have hlt := lens_take leaf l i hil
          have hle := lens_le leaf l (i + 1)
          rw [← hc.out] at hlt
          rw [hlt, ← hT.out] at hle
          have hab : a + len leaf c ≤ 488 := by rw [ha.out]; omega
          have P : ∀ w, Calls Try.prog 27 #[.int .i64 (a : Int), .int .i64 2] w fun e w' => e = .returned (.string (numS a 2)) ∧ Below w.heap.size w w' := fun w => number_any a 2 w (by omega) (by omega)
          obtain ⟨q, hq⟩ : ∃ q : ByteArray, Hid (q = numS a 2) := ⟨_, rfl⟩
          rw [← hq.out] at P
          have hqb : q = ⟨(fld.be a 2).toArray⟩ := by rw [hq.out, numS2 (by omega)]
          have hqz : q.size = 2 := by rw [hqb, ← kt.size_len]; simp [fld.be_length]
          have HH2 : Hid ((h ++ q).data.toList = fld.be l.length 2 ++ slots leaf (2 + 2 * l.length) (l.take (i + 1))) := by
            show _ = _
            rw [slots_take leaf _ l i hil, ← List.append_assoc, ← hH.out, hqb, ha.out]
            simp
          have hzz : (h ++ q).size = 2 + 2 * (i + 1) := by
            have e : (h ++ q).size = h.size + q.size := by simp
            omega
          have HA2 : Hid (a + len leaf c = 2 + 2 * l.length + lens leaf (l.take (i + 1))) := by
            show _ = _
            rw [hlt, ha.out]
            omega
          have PH := Lib.hid P
          have CC := Lib.hid (fun w => one_any leaf c w hok)
          have hcz := cellB_size hok
          obtain ⟨x, hx⟩ : ∃ x : ByteArray, Hid (x = cellB leaf c) := ⟨_, rfl⟩
          rw [← hx.out] at CC hcz
          have hsm : ¬ 9223372036854775807 < h.size + q.size := by omega
          have hsm2 : ¬ 9223372036854775807 < 2 + 2 * i + 2 := by omega
          rw [← hcz] at hab HA2
          have HZ := Lib.hid hzz
          clear P hlt hle hok hqb hcz hzz
          unfold Cel.v at CC
          go_wp2_with fail
          refine (PH.out _).mono ?_
          rintro e w4 ⟨rfl, hB4⟩
          have hB44 := hB.trans (hB4.mono hsz)
          obtain ⟨b, o, hao, f0, f1, f2, f3, f4⟩ := (cels_below hl.out hB44) i hil
          rw [← hc.out] at f0 f1 f2 f3 f4
          subst hao
          go_wp2_with fail
          refine (CC.out _).mono ?_
          rintro e w5 ⟨rfl, hB5⟩
          go_wp2_with fail
          go_roundw
          case rel => exact ⟨i + 1, a + x.size, h ++ q, by omega, by go_num, rfl, by go_num, HH2, HZ.out, HA2, hB44.trans (hB5.mono hB44.size)⟩
          case measure => simp [intOf]; omega
        · obtain rfl : i = l.length := by omega
          have hil' : ¬ (l.length : Int) < (l.length : Int) := by omega
          have hH2 := hH.out
          rw [List.take_of_length_le (Nat.le_refl _)] at hH2
          have HH := Lib.hid hH2
          clear hH2 hH ha
          go_wp2_with fail
          go_loopw [6, 9] (fun sv iv wr => ∃ (i : Nat) (s : ByteArray), i ≤ l.length ∧ iv = .int .i64 i ∧ sv = .string s ∧ Hid (s.data.toList = fld.be l.length 2 ++ slots leaf (2 + 2 * l.length) l ++ tails leaf (l.take i)) ∧ Hid (s.size = 2 + 2 * l.length + lens leaf (l.take i)) ∧ Below w.heap.size w wr) (fun _ iv _ => l.length - (intOf iv).toNat)
          case atStart => exact ⟨0, h, Nat.zero_le _, rfl, rfl, by show _ = _; simp [tails, HH.out], by show _ = _; simp [lens, hhz], hB⟩
          case round =>
            obtain ⟨i, s, hi, rfl, rfl, hS, hsz', hB⟩ := hrel
            have hsz := hB.size
            by_cases hil : i < l.length
            · have hil' : (i : Int) < (l.length : Int) := by omega
              obtain ⟨c, hc⟩ : ∃ c : Cel, Hid (c = l[i]'hil) := ⟨l[i]'hil, rfl⟩
              obtain ⟨b, o, hao, f0, f1, f2, f3, f4⟩ := (cels_below hl.out hB) i hil
              rw [← hc.out] at f0 f1 f2 f3 f4
              have hok : ok leaf c = true := by rw [hc.out]; exact (HY.out.2 i hil).1
              have hlt := lens_take leaf l i hil
              have hle := lens_le leaf l (i + 1)
              rw [← hc.out] at hlt
              rw [hlt, ← hT.out] at hle
              have CC := Lib.hid (fun w => one_any leaf c w hok)
              have hcz := cellB_size hok
              obtain ⟨x, hx⟩ : ∃ x : ByteArray, Hid (x = cellB leaf c) := ⟨_, rfl⟩
              rw [← hx.out] at CC hcz
              have hss := hsz'.out
              have hsm : ¬ 9223372036854775807 < s.size + x.size := by omega
              have HS2 : Hid ((s ++ x).data.toList = fld.be l.length 2 ++ slots leaf (2 + 2 * l.length) l ++ tails leaf (l.take (i + 1))) := by
                show _ = _
                rw [tails_take leaf l i hil, ← hc.out, ← hx.out, ← List.append_assoc, ← hS.out]
                simp
              have HZ2 : Hid ((s ++ x).size = 2 + 2 * l.length + lens leaf (l.take (i + 1))) := by
                show _ = _
                have e : (s ++ x).size = s.size + x.size := by simp
                rw [e, hlt, hss, hcz]
                omega
              clear hlt hle hok hcz hss
              unfold Cel.v at CC
              subst hao
              go_wp2_with fail
              refine (CC.out _).mono ?_
              rintro e w5 ⟨rfl, hB5⟩
              go_wp2_with fail
              go_roundw
              case rel => exact ⟨i + 1, s ++ x, by omega, by go_num, rfl, HS2, HZ2, hB.trans (hB5.mono hsz)⟩
              case measure => simp [intOf]; omega
            · obtain rfl : i = l.length := by omega
              have hil' : ¬ (l.length : Int) < (l.length : Int) := by omega
              have HX : Hid (s = encB leaf l) := by
                show _ = _
                have h1 := hS.out
                rw [List.take_of_length_le (Nat.le_refl _)] at h1
                exact kt.str_eq (by simp [encB, h1])
              go_wp2_with fail
              go_ret2
              exact ⟨⟨_, _, rfl, Or.inr (Or.inr ⟨HY.out, by rw [← hM.out]; omega, HX.out, rfl⟩)⟩, hB⟩
end nod
end Go.Proofs.Ytkeheaempbmmaaa
