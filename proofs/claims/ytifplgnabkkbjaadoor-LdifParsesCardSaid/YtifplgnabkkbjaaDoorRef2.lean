/- The walk of the reference's Encode. -/
import Derived.Test.YtifplgnabkkbjaaDoorRef
namespace Go.Proofs.YtifplgnabkkbjaaDoor
open Go.RowKit

/-- a slice's length, off its value: a loop's measure -/
def sliceLen : Value → Nat
  | .slice _ n _ => n
  | _ => 0
set_option maxHeartbeats 1000000 in
theorem rencode_any (s : ByteArray) (w : World) (hs : s.size ≤ 30000) :
    Calls Tryd.prog 40 #[.string s] w fun e w' => e = .returned (.string ⟨(b64p.enc s.data.toList).toArray⟩) ∧ Below w.heap.size w w' := by
  obtain ⟨M, hM⟩ : ∃ M : Nat, Hid (M = b64p.cnt s.size) := ⟨b64p.cnt s.size, rfl⟩
  have hM6 : 6 * M < 8 * s.size + 6 := by have := hM.out; unfold b64p.cnt at this; omega
  have hM8 : 8 * s.size ≤ 6 * M := by have := hM.out; unfold b64p.cnt at this; omega
  have hfin := b64p.raw_enc _ s.data.toList (Nat.le_refl _)
  rw [kt.size_len, ← hM.out] at hfin
  have HF := Lib.hid hfin
  clear hfin
  go_enter Tryd.func40, Tryd.ntmps40
  go_wp2_with fail
  go_loopw [3, 4] (fun bv kv wr => ∃ (m : Nat), m ≤ M ∧ kv = .int .i64 ((6 * m : Nat) : Int) ∧ Hid (wr.ownsRow w.heap.size 5 1 bv (Lib.byteCells (b64p.raw s.data.toList m)).length (Lib.byteCells (b64p.raw s.data.toList m))) ∧ Below w.heap.size w wr) (fun _ kv _ => 6 * M - (intOf kv).toNat)
  case atStart => exact ⟨0, by omega, rfl, emptyRow w _, (Below.refl _ _).alloc (Nat.le_refl _) _⟩
  case round =>
    obtain ⟨m, hm, rfl, hO, hB⟩ := hrel
    have hsz := hB.size
    obtain ⟨K, hK⟩ : ∃ K : Nat, Hid (K = 6 * m) := ⟨6 * m, rfl⟩
    rw [← hK.out]
    by_cases hlt : m < M
    · have hK2 : K < 8 * s.size := by have := hK.out; omega
      have hK1 : (K : Int) < 8 * (s.size : Int) := by omega
      have hlen : (Lib.byteCells (b64p.raw s.data.toList m)).length ≤ 60000 := by rw [Lib.byteCells_length, b64p.raw_length]; omega
      go_wp2_with fail
      go_loop [5, 6] (fun nv iv => ∃ (i N : Nat), i ≤ 6 ∧ iv = .int .i64 i ∧ nv = .int .i64 N ∧ N < 64 ∧ Hid (N = b64p.bits s.data.toList K i)) (fun _ iv => 6 - (intOf iv).toNat)
      case atStart => exact ⟨0, 0, by omega, rfl, rfl, by omega, rfl⟩
      case round =>
        obtain ⟨i, N, hi, rfl, rfl, hN, hNe⟩ := hrel
        by_cases hi6 : i < 6
        · obtain ⟨x, hx⟩ : ∃ x : Nat, Hid (x = b64p.bit s.data.toList (K + i)) := ⟨_, rfl⟩
          have hx2 : x < 2 := by rw [hx.out]; exact b64p.bit_lt _ _
          have hN2 : N < 32 := by
            have h1 := b64p.bits_lt s.data.toList K i
            rw [← hNe.out] at h1
            have h2 : 2 ^ i ≤ 2 ^ 5 := Nat.pow_le_pow_right (by omega) (by omega)
            have h3 : (2 : Nat) ^ 5 = 32 := by decide
            omega
          have C : Hid (∀ W : World, Calls Tryd.prog 50 #[.string s, .int .i64 ((K : Int) + (i : Int))] W fun e w' => e = .returned (.int .i64 (x : Int)) ∧ W = w') := by
            intro W; rw [hx.out, ← Int.natCast_add]; exact bit_any s (K + i) (by omega) W
          go_wp2_with fail
          refine (C.out _).mono ?_
          rintro e w' ⟨rfl, rfl⟩
          go_wp2_with fail
          go_round
          case rel => exact ⟨i + 1, 2 * N + x, by omega, by go_num, by go_num, by omega, by
            show 2 * N + x = _
            rw [b64p.bits, ← hNe.out, ← hx.out]⟩
          case measure => simp [intOf]; omega
        · obtain rfl : i = 6 := by omega
          have C : Hid (∀ W : World, Calls Tryd.prog 49 #[.int .i64 (N : Int)] W fun e w' => e = .returned (.int .u8 ((b64p.letters.getD N 0).toNat : Int)) ∧ W = w') := by
            intro W; exact letter_any N hN W
          obtain ⟨v', w1, hap, hO1, hg1, hB1⟩ := kt.app1 (P := Tryd.prog) (ty := 56) (w := wr) Tryd.underlying56 bld.infoByte rfl (.int .u8 ((b64p.letters.getD N 0).toNat : Int)) rfl hO.out (by unfold maxLen; omega) (by omega) hsz
          have HO1 := Lib.hid hO1
          have HG1 := Lib.hid hg1
          clear hO1 hg1
          go_wp2_with (first | (go_at_call 49; refine (C.out _).mono ?_; rintro e w' ⟨rfl, rfl⟩) | (at_builtin; refine Lib.wpList_append_run _ rfl _ _ _ _ rfl _ _ rfl rfl _ _ hap ?_))
          go_roundw
          case rel =>
            refine ⟨m + 1, by omega, by have := hK.out; congr 1; omega, ?_, hB.trans hB1⟩
            have h := HO1.out
            show World.ownsRow _ _ _ _ _ _ _
            rw [b64p.raw_succ, Lib.byteCells_append, ← hK.out, ← hNe.out, b64p.lt, Nat.mod_eq_of_lt hN]
            exact h
          case measure => simp [intOf]; have := hK.out; omega
    · obtain rfl : m = M := by omega
      have hK1 : ¬ ((K : Int) < 8 * (s.size : Int)) := by have := hK.out; omega
      have hrl := b64p.raw_length s.data.toList m
      obtain ⟨P, hP⟩ : ∃ P : Nat, Hid (P = (4 - m % 4) % 4) := ⟨(4 - m % 4) % 4, rfl⟩
      rw [← hP.out] at HF
      obtain ⟨ao0, n0, cap0, rfl, hn0⟩ := kt.row_form hO.out
      have hn0' : n0 = m := by rw [hn0.out, Lib.byteCells_length, hrl]
      have hN0 := Lib.hid hn0'
      clear hn0'
      go_wp2_with fail
      go_loopw [3] (fun bv wq => ∃ (p : Nat) (ao : Option Addr) (n cap : Nat), p ≤ P ∧ bv = .slice ao n cap ∧ n = m + p ∧ Hid (wq.ownsRow w.heap.size 5 1 bv (Lib.byteCells (b64p.raw s.data.toList m ++ List.replicate p 61)).length (Lib.byteCells (b64p.raw s.data.toList m ++ List.replicate p 61))) ∧ Below w.heap.size w wq) (fun bv _ => m + P - sliceLen bv)
      case atStart => exact ⟨0, ao0, n0, cap0, by omega, rfl, hN0.out, by simpa using hO, hB⟩
      case round =>
        obtain ⟨p, ao, n, cap, hp, rfl, hn, hO2, hB2⟩ := hrel
        have hsz2 := hB2.size
        have hlen2 : (Lib.byteCells (b64p.raw s.data.toList m ++ List.replicate p 61)).length = m + p := by rw [Lib.byteCells_length, List.length_append, hrl, List.length_replicate]
        by_cases hlt2 : p < P
        · have q : ((n : Int) % 4 != 0) = true := by rw [bne_iff_ne]; have := hP.out; omega
          obtain ⟨v', w1, hap, hO3, hg1, hB1⟩ := kt.app1 (P := Tryd.prog) (ty := 56) (w := wr) Tryd.underlying56 bld.infoByte rfl (.int .u8 61) rfl hO2.out (by rw [hlen2]; unfold maxLen; have := hP.out; omega) (by rw [hlen2]; have := hP.out; omega) hsz2
          obtain ⟨ao3, n3, cap3, rfl, hn3⟩ := kt.row_form hO3
          have hn3' : n3 = m + (p + 1) := by rw [hn3.out, List.length_append, hlen2]; rfl
          have HO3 := Lib.hid hO3
          have HG1 := Lib.hid hg1
          have HN3 := Lib.hid hn3'
          have HN := Lib.hid hn
          have HL := Lib.hid hlen2
          clear hO3 hg1 hn3' hn hlen2
          go_wp2_with (at_builtin; refine Lib.wpList_append_run _ rfl _ _ _ _ rfl _ _ rfl rfl _ _ hap ?_)
          go_roundw
          case rel =>
            refine ⟨p + 1, ao3, n3, cap3, by omega, rfl, HN3.out, ?_, hB2.trans hB1⟩
            show World.ownsRow _ _ _ _ _ _ _
            rw [List.replicate_succ', ← List.append_assoc, Lib.byteCells_append]
            exact HO3.out
          case measure => show m + P - n3 < m + P - n; have := HN3.out; have := HN.out; omega
        · obtain rfl : p = P := by omega
          have q : ((n : Int) % 4 != 0) = false := by rw [bne_eq_false_iff_eq]; have := hP.out; omega
          have hst := kt.str_of_row (P := Tryd.prog) (dst := 9) Tryd.underlying56 Tryd.underlying5 Tryd.underlying9 hO2.out
          have HN := Lib.hid hn
          have HL := Lib.hid hlen2
          clear hn hlen2
          go_wp2_with fail
          go_ret
          exact ⟨kt.ret_str (by rw [HF.out]), hB2⟩
end Go.Proofs.YtifplgnabkkbjaaDoor
