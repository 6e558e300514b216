/- The walks of the reference's Bit, Letter, Encode, Number. -/
import Derived.Test.YtifplgnabkkbjaaDoorPlain2
import Derived.Test.YtifplgnabkkbjaaDoorEnc
namespace Go.Proofs.YtifplgnabkkbjaaDoor
open Go.RowKit

theorem emptyRow (w : World) (e : TypeId) : (w.alloc (.cells #[] e)).ownsRow w.heap.size e 1 (.slice (some ⟨w.heap.size, 0, none⟩) 0 0) ([] : List Value).length [] :=
  World.ownsRow_made w #[] 0 (Nat.le_refl _) (by unfold maxLen; omega) rfl
theorem half_pow (c i : Nat) : c / 2 ^ i / 2 = c / 2 ^ (i + 1) := by rw [Nat.div_div_eq_div_mul, Nat.pow_succ]

set_option maxHeartbeats 400000 in
theorem bit_any (s : ByteArray) (k : Nat) (hk : k < 1000000) (w : World) :
    Calls Tryd.prog 50 #[.string s, .int .i64 (k : Int)] w fun e w' => e = .returned (.int .i64 (b64p.bit s.data.toList k : Nat)) ∧ w = w' := by
  obtain ⟨q, hq⟩ : ∃ q : Nat, Hid (q = k / 8) := ⟨k / 8, rfl⟩
  obtain ⟨r, hr⟩ : ∃ r : Nat, Hid (r = k % 8) := ⟨k % 8, rfl⟩
  have e1 : (k : Int) / 8 = (q : Int) := by have := hq.out; omega
  have e2 : (k : Int) % 8 = (r : Int) := by have := hr.out; omega
  have hr8 : r < 8 := by have := hr.out; omega
  have hq8 : q < 1000000 := by have := hq.out; omega
  by_cases hin : q < s.size
  · have hc := s[q].toNat_lt
    go_enter Tryd.func50, Tryd.ntmps50
    go_wp2_with fail
    go_loop [5, 6] (fun nv iv => ∃ (i N : Nat), i ≤ 7 - r ∧ iv = .int .i64 i ∧ nv = .int .i64 N ∧ N < 256 ∧ Hid (N = s[q].toNat / 2 ^ i)) (fun _ iv => 7 - r - (intOf iv).toNat)
    case atStart => exact ⟨0, _, Nat.zero_le _, rfl, rfl, hc, by show _ = _; simp⟩
    case round =>
      obtain ⟨i, N, hi, rfl, rfl, hN, hNe⟩ := hrel
      by_cases hlt : i < 7 - r
      · have g1 : (i : Int) < 7 - (r : Int) := by omega
        go_wp2_with fail
        go_round
        case rel => exact ⟨i + 1, N / 2, by omega, by go_num, by go_num, by omega, by
          show N / 2 = _
          rw [hNe.out, half_pow]⟩
        case measure => simp [intOf]; omega
      · obtain rfl : i = 7 - r := by omega
        have g1 : ¬ (((7 - r : Nat) : Int) < 7 - (r : Int)) := by omega
        go_wp2_with fail
        go_ret
        exact ⟨kt.ret_int (by
          unfold b64p.bit
          rw [← hq.out, ← hr.out, getD_at s q hin, ← hNe.out]; omega), rfl⟩
  · go_enter Tryd.func50, Tryd.ntmps50
    go_wp2_with fail
    go_ret
    exact ⟨kt.ret_int (by
      unfold b64p.bit
      rw [← hq.out, getD_out s q hin]; simp), rfl⟩

theorem letter_any (n : Nat) (hn : n < 64) (w : World) : Calls Tryd.prog 49 #[.int .i64 (n : Int)] w fun e w' => e = .returned (.int .u8 ((b64p.letters.getD n 0).toNat : Int)) ∧ w = w' := by
  have hd : ((b64p.letters.getD n 0).toNat : Int) = if n < 26 then 65 + (n : Int) else if n < 52 then 97 + (n : Int) - 26 else if n < 62 then 48 + (n : Int) - 52 else if n = 62 then 43 else 47 := by
    have all : ∀ m : Fin 64, ((b64p.letters.getD m.val 0).toNat : Int) = if m.val < 26 then 65 + (m.val : Int) else if m.val < 52 then 97 + (m.val : Int) - 26 else if m.val < 62 then 48 + (m.val : Int) - 52 else if m.val = 62 then 43 else 47 := by decide +kernel
    exact all ⟨n, hn⟩
  rw [hd]
  clear hd
  by_cases h1 : n < 26
  · rw [if_pos h1]
    go_enter Tryd.func49, Tryd.ntmps49
    go_wp2_with fail
    go_ret
    exact ⟨kt.ret_int (by omega), rfl⟩
  · rw [if_neg h1]
    by_cases h2 : n < 52
    · rw [if_pos h2]
      go_enter Tryd.func49, Tryd.ntmps49
      go_wp2_with fail
      go_ret
      exact ⟨kt.ret_int (by omega), rfl⟩
    · rw [if_neg h2]
      by_cases h3 : n < 62
      · rw [if_pos h3]
        go_enter Tryd.func49, Tryd.ntmps49
        go_wp2_with fail
        go_ret
        exact ⟨kt.ret_int (by omega), rfl⟩
      · rw [if_neg h3]
        by_cases h4 : n = 62
        · rw [if_pos h4]
          have q : ((n : Int) == 62) = true := by rw [beq_iff_eq]; omega
          clear h4
          go_enter Tryd.func49, Tryd.ntmps49
          go_wp2_with fail
          go_ret
          exact ⟨rfl, rfl⟩
        · rw [if_neg h4]
          have q : ((n : Int) == 62) = false := by rw [beq_eq_false_iff_ne]; omega
          clear h4
          go_enter Tryd.func49, Tryd.ntmps49
          go_wp2_with fail
          go_ret
          exact ⟨rfl, rfl⟩

set_option maxHeartbeats 400000 in
theorem number_any (c : UInt8) (w : World) : Calls Tryd.prog 39 #[.int .u8 (c.toNat : Int)] w fun e w' => e = .returned (.int .i64 (b64p.idx c)) ∧ w = w' := by
  have hc := c.toNat_lt
  go_enter Tryd.func39, Tryd.ntmps39
  go_wp2_with fail
  go_loop [3] (fun nv => ∃ (n : Nat), n ≤ 64 ∧ nv = .int .i64 n ∧ Hid (∀ m, m < n → b64p.letters.getD m 0 ≠ c)) (fun nv => 64 - (intOf nv).toNat)
  case atStart => exact ⟨0, by omega, rfl, fun m hm => absurd hm (by omega)⟩
  case round =>
    obtain ⟨n, hn, rfl, hM⟩ := hrel
    by_cases hlt : n < 64
    · obtain ⟨x, hx⟩ : ∃ x : Nat, Hid (x = (b64p.letters.getD n 0).toNat) := ⟨_, rfl⟩
      have C : Hid (∀ W : World, Calls Tryd.prog 49 #[.int .i64 (n : Int)] W fun e w' => e = .returned (.int .u8 (x : Int)) ∧ W = w') := by
        intro W; rw [hx.out]; exact letter_any n hlt W
      by_cases heq : x = c.toNat
      · have q : ((x : Int) == (c.toNat : Int)) = true := by rw [beq_iff_eq]; omega
        have hE := Lib.hid heq
        clear heq
        go_wp2_with fail
        refine (C.out _).mono ?_
        rintro e w' ⟨rfl, rfl⟩
        go_wp2_with fail
        go_ret
        exact ⟨kt.ret_int (by
          unfold b64p.idx
          rw [b64p.indexByte_hit _ _ n hM.out hlt (by apply UInt8.toNat_inj.1; rw [← hx.out, hE.out])]), rfl⟩
      · have q : ((x : Int) == (c.toNat : Int)) = false := by rw [beq_eq_false_iff_ne]; omega
        have hE := Lib.hid heq
        clear heq
        go_wp2_with fail
        refine (C.out _).mono ?_
        rintro e w' ⟨rfl, rfl⟩
        go_wp2_with fail
        go_round
        case rel => exact ⟨n + 1, by omega, by go_num, fun m hm => by
          by_cases hmn : m = n
          · subst hmn
            intro e
            exact hE.out (by rw [hx.out, e])
          · exact hM.out m (by omega)⟩
        case measure => simp [intOf]; omega
    · obtain rfl : n = 64 := by omega
      go_wp2_with fail
      go_ret
      exact ⟨kt.ret_int (by
        unfold b64p.idx
        rw [b64p.indexByte_miss _ _ (fun m hm => hM.out m hm)]), rfl⟩
end Go.Proofs.YtifplgnabkkbjaaDoor
