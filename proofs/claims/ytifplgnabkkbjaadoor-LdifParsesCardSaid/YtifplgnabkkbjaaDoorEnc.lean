/- The walk of Encode. -/
import Derived.Test.YtifplgnabkkbjaaDoorB64P
import Derived.Test.YtifplgnabkkbjaaDoorBuild
import Derived.Test.YtifplgnabkkbjaaDoorShelf
namespace Go.Proofs.YtifplgnabkkbjaaDoor
open Go.RowKit

/-- a text's length, off its value: a loop's measure -/
def strLen : Value → Nat
  | .string s => s.size
  | _ => 0

theorem letter_at (n : Nat) (h : n < (ByteArray.mk #[65, 66, 67, 68, 69, 70, 71, 72, 73, 74, 75, 76, 77, 78, 79, 80, 81, 82, 83, 84, 85, 86, 87, 88, 89, 90, 97, 98, 99, 100, 101, 102, 103, 104, 105, 106, 107, 108, 109, 110, 111, 112, 113, 114, 115, 116, 117, 118, 119, 120, 121, 122, 48, 49, 50, 51, 52, 53, 54, 55, 56, 57, 43, 47]).size) :
    (ByteArray.mk #[65, 66, 67, 68, 69, 70, 71, 72, 73, 74, 75, 76, 77, 78, 79, 80, 81, 82, 83, 84, 85, 86, 87, 88, 89, 90, 97, 98, 99, 100, 101, 102, 103, 104, 105, 106, 107, 108, 109, 110, 111, 112, 113, 114, 115, 116, 117, 118, 119, 120, 121, 122, 48, 49, 50, 51, 52, 53, 54, 55, 56, 57, 43, 47])[n] = b64p.letters.getD n 0 := by
  have h64 : n < 64 := h
  have all : ∀ m : Fin 64, (ByteArray.mk #[65, 66, 67, 68, 69, 70, 71, 72, 73, 74, 75, 76, 77, 78, 79, 80, 81, 82, 83, 84, 85, 86, 87, 88, 89, 90, 97, 98, 99, 100, 101, 102, 103, 104, 105, 106, 107, 108, 109, 110, 111, 112, 113, 114, 115, 116, 117, 118, 119, 120, 121, 122, 48, 49, 50, 51, 52, 53, 54, 55, 56, 57, 43, 47])[m.val]'(m.isLt) = b64p.letters.getD m.val 0 := by decide
  exact all ⟨n, h64⟩
theorem nonempty (t : ByteArray) (h0 : ¬ t.size = 0) : t.data.toList ≠ [] := by
  intro h
  exact h0 (by rw [← kt.size_len, h]; rfl)
theorem rest_data (t : ByteArray) : (t.extract (min 3 (t.size : Int)).toNat t.size).data.toList = t.data.toList.drop 3 := by
  rw [Lib.extract_to_end]
  by_cases h : t.size < 3
  · rw [List.drop_eq_nil_of_le (by simp; omega), List.drop_eq_nil_of_le (by simp; omega)]
  · rw [show (min 3 (t.size : Int)).toNat = 3 from by omega]
theorem rest_size (t : ByteArray) : (t.extract (min 3 (t.size : Int)).toNat t.size).size = t.size - 3 := by
  rw [← kt.size_len, rest_data]; simp
theorem getD_at (t : ByteArray) (j : Nat) (h : j < t.size) : t.data.toList.getD j 0 = t[j] := by
  rw [List.getD, List.getElem?_eq_getElem (by simpa using h)]
  rfl
theorem getD_out (t : ByteArray) (j : Nat) (h : ¬ j < t.size) : t.data.toList.getD j 0 = 0 := by
  rw [List.getD, List.getElem?_eq_none (by simp; omega)]
  rfl
set_option maxHeartbeats 1000000 in
theorem encode_any (s : ByteArray) (w : World) (hs : s.size ≤ 30000) :
    Calls Tryd.prog 34 #[.string s] w fun e w' => e = .returned (.string ⟨(b64p.enc s.data.toList).toArray⟩) ∧ Below w.heap.size w w' := by
  go_enter Tryd.func34, Tryd.ntmps34
  go_wp2_with fail
  go_loopw [0] (fun sv wr => ∃ (t : ByteArray) (d : List UInt8), t.size ≤ 30000 ∧ sv = .string t ∧ Hid (d ++ b64p.enc t.data.toList = b64p.enc s.data.toList) ∧ bld.Is w.heap.size w.heap.size d wr ∧ Below w.heap.size w wr) (fun sv _ => strLen sv)
  case atStart => exact ⟨s, [], hs, rfl, rfl, bld.fresh w, (Below.refl _ _).alloc (Nat.le_refl _) _⟩
  case round =>
    obtain ⟨t, d, ht, rfl, hE, hI, hB⟩ := hrel
    by_cases h0 : t.size = 0
    · have hem : t = ByteArray.empty := kt.str_eq (List.eq_nil_of_length_eq_zero (by rw [kt.size_len]; exact h0))
      subst hem
      have hsz := hB.size
      have hI' := Lib.hid hI
      clear hI
      go_wp2_with fail
      refine (Tryd.Builder_String_any _ _ _ _ hI'.out hsz).mono ?_
      rintro e w1 ⟨rfl, hB1⟩
      go_wp2
      go_ret
      have hh := hE.out
      rw [show ByteArray.empty.data.toList = [] from rfl, b64p.enc_nil, List.append_nil] at hh
      exact ⟨kt.ret_str (by rw [hh]), hB.trans hB1⟩
    · have hne : t.toList.isEmpty = false := by
        rw [Lib.toList_data]
        cases h : t.data.toList with
        | nil => exact absurd (by rw [← kt.size_len, h]; rfl) h0
        | cons a l => rfl
      have hI' := Lib.hid hI
      clear hI
      have hd : d.length ≤ 60002 := by
        have h1 := (b64p.enc_length _ s.data.toList (Nat.le_refl _)).1
        have h2 := congrArg List.length hE.out
        rw [List.length_append] at h2
        rw [kt.size_len] at h1
        omega
      go_wp2_with fail
      go_loop [4, 5, 14] (fun n _ i => ∃ (j N : Nat), j ≤ 3 ∧ i = .int .i64 j ∧ n = .int .i64 N ∧ N < 16777216 ∧ Hid (N = b64p.numAt t.data.toList j)) (fun _ _ i => 3 - (intOf i).toNat)
      case atStart => exact ⟨0, 0, by omega, rfl, rfl, by omega, rfl⟩
      case round =>
        obtain ⟨j, N, hj, rfl, rfl, hN, hNe⟩ := hrel
        by_cases hj3 : j < 3
        · have hNj : N < 65536 := by
            have h1 := b64p.numAt_lt t.data.toList j
            rw [← hNe.out] at h1
            have h2 : 256 ^ j ≤ 256 ^ 2 := Nat.pow_le_pow_right (by omega) (by omega)
            have h3 : (256 : Nat) ^ 2 = 65536 := by decide
            omega
          by_cases hjs : j < t.size
          · have hb := t[j].toNat_lt
            have e1 : bits .or .i64 ((N : Int) * 256) (t[j].toNat : Int) = ((256 * N + t[j].toNat : Nat) : Int) := by
              have h := kt.i64_or_low 8 N t[j].toNat (by omega) (by omega)
              have p8 : (2 : Nat) ^ 8 = 256 := by decide
              rw [p8] at h
              rw [← h, Int.mul_comm]
              rfl
            go_wp2_with fail
            go_round
            case rel => exact ⟨j + 1, 256 * N + t[j].toNat, by omega, by go_num, rfl, by omega, by
              show 256 * N + t[j].toNat = _
              rw [b64p.numAt, ← hNe.out, getD_at t j hjs]⟩
            case measure => simp [intOf]; omega
          · go_wp2_with fail
            go_round
            case rel => exact ⟨j + 1, 256 * N, by omega, by go_num, by go_num, by omega, by
              show 256 * N = _
              rw [b64p.numAt, ← hNe.out, getD_out t j hjs]; rfl⟩
            case measure => simp [intOf]; omega
        · obtain rfl : j = 3 := by omega
          have hN3 := Lib.hid hNe.out
          have hfl := b64p.four_length t.data.toList
          go_wp2_with fail
          go_loopw [30] (fun i wq => ∃ (j : Nat), j ≤ 4 ∧ i = .int .i64 j ∧ Hid (bld.Is w.heap.size w.heap.size (d ++ (b64p.four t.data.toList).take j) wq) ∧ Below w.heap.size w wq) (fun i _ => 4 - (intOf i).toNat)
          case atStart => exact ⟨0, by omega, rfl, by simpa using hI', hB⟩
          case round =>
            obtain ⟨j, hj, rfl, hJ, hBq⟩ := hrel
            have hszq := hBq.size
            have htk : ((b64p.four t.data.toList).take j).length ≤ 4 := by rw [List.length_take]; omega
            by_cases hj4 : j < 4
            · have hft := b64p.four_take t.data.toList j hj4
              have hft' := Lib.hid hft
              clear hft
              by_cases hjs : t.size < j
              · go_wp2_with fail
                refine (bld.writeByte_cell _ _ _ 61 _ hJ.out (by rw [List.length_append]; omega) hszq).mono ?_
                rintro e w1 ⟨rfl, hI1, hB1⟩
                have hI1' := Lib.hid hI1
                clear hI1
                go_wp2_with fail
                go_roundw
                case rel =>
                  refine ⟨j + 1, by omega, by go_num, ?_, hBq.trans hB1⟩
                  have h := hI1'.out
                  show bld.Is _ _ _ _
                  rw [hft'.out, b64p.sign, if_pos (by rw [kt.size_len]; exact hjs), ← List.append_assoc]
                  exact h
                case measure => simp [intOf]; omega
              · obtain ⟨x, hx⟩ : ∃ x : Nat, Hid (x = N / 2 ^ (18 - 6 * j) % 64) := ⟨N / 2 ^ (18 - 6 * j) % 64, rfl⟩
                have hx64 : x < 64 := by rw [hx.out]; exact Nat.mod_lt _ (by omega)
                have e5 : bits .and .i64 ((N : Int) / 2 ^ (18 - 6 * j)) 63 = (x : Int) := by
                  have h := kt.i64_low 6 (N / 2 ^ (18 - 6 * j)) (by decide) (Nat.lt_of_le_of_lt (Nat.div_le_self _ _) (by omega))
                  rw [hx.out, show (64 : Nat) = 2 ^ 6 from rfl, ← h, Int.natCast_ediv, Int.natCast_pow]
                  rfl
                go_wp2_with fail
                refine (bld.writeByte_cell _ _ _ _ _ hJ.out (by rw [List.length_append]; omega) hszq).mono ?_
                rintro e w1 ⟨rfl, hI1, hB1⟩
                have hI1' := Lib.hid hI1
                clear hI1
                go_wp2_with fail
                go_roundw
                case rel =>
                  refine ⟨j + 1, by omega, by go_num, ?_, hBq.trans hB1⟩
                  have h := hI1'.out
                  rw [letter_at] at h
                  show bld.Is _ _ _ _
                  rw [hft'.out, b64p.sign, if_neg (by rw [kt.size_len]; exact hjs), ← List.append_assoc, b64p.lt, ← hN3.out, ← hx.out]
                  exact h
                case measure => simp [intOf]; omega
            · obtain rfl : j = 4 := by omega
              go_wp2_with fail
              go_roundw
              case rel =>
                refine ⟨_, d ++ b64p.four t.data.toList, ?_, rfl, ?_, ?_, hBq⟩
                · rw [rest_size]; omega
                · show (_ : List UInt8) = _
                  rw [← hE.out, rest_data, b64p.enc_cons (nonempty t h0), List.append_assoc]
                · have h := hJ.out
                  rw [List.take_of_length_le (by rw [hfl]; omega)] at h
                  exact h
              case measure => show (t.extract _ _).size < t.size; rw [rest_size]; omega
end Go.Proofs.YtifplgnabkkbjaaDoor
