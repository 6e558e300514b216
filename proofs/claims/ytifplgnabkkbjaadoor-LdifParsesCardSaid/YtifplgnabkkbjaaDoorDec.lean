/- The walk of the program's four and Decode. -/
import Derived.Test.YtifplgnabkkbjaaDoorRef2
namespace Go.Proofs.YtifplgnabkkbjaaDoor
open Go.RowKit

/-- what four leaves -/
def FourRes (o : Option (List UInt8)) (B : Nat) (d : List UInt8) (w : World) (e : Ending) (w' : World) : Prop :=
  match o with
  | none => e = .returned (.tuple #[.slice none 0 0, .bool false]) ∧ Below w.heap.size w w'
  | some r => ∃ v, e = .returned (.tuple #[v, .bool true]) ∧ w'.ownsRow B 5 1 v (Lib.byteCells (d ++ r)).length (Lib.byteCells (d ++ r)) ∧ Below B w w'

theorem ix_any (c : UInt8) (w : World) : Calls Tryd.prog 19 #[.string { data := #[65, 66, 67, 68, 69, 70, 71, 72, 73, 74, 75, 76, 77, 78, 79, 80, 81, 82, 83, 84, 85, 86, 87, 88, 89, 90, 97, 98, 99, 100, 101, 102, 103, 104, 105, 106, 107, 108, 109, 110, 111, 112, 113, 114, 115, 116, 117, 118, 119, 120, 121, 122, 48, 49, 50, 51, 52, 53, 54, 55, 56, 57, 43, 47] }, .int .u8 (c.toNat : Int)] w fun e w' => e = .returned (.int .i64 (b64p.idx c)) ∧ w = w' := by
  refine (Tryd.strings_IndexByte _ (c.toNat : Int) w).mono ?_
  rintro e w' ⟨rfl, rfl⟩
  refine ⟨kt.ret_int ?_, rfl⟩
  unfold b64p.idx b64p.letters
  rw [show (c.toNat : Int).toNat.toUInt8 = c from by simp]

set_option maxHeartbeats 1000000 in
theorem four_any (t : ByteArray) (ht : t.size = 4) (B : Nat) (v : Value) (d : List UInt8) (hd : d.length ≤ 30000) (w : World) (hO : Hid (w.ownsRow B 5 1 v (Lib.byteCells d).length (Lib.byteCells d))) (hBw : B ≤ w.heap.size) :
    Calls Tryd.prog 33 #[.string t, v] w (FourRes (b64p.fourD t.data.toList) B d w) := by
  go_enter Tryd.func33, Tryd.ntmps33
  go_wp2_with fail
  go_loop [6, 7, 11] (fun nv pv iv => ∃ (i N p : Nat), i ≤ 4 ∧ iv = .int .i64 i ∧ nv = .int .i64 N ∧ pv = .int .i64 p ∧ p ≤ i ∧ Hid (N < 64 ^ i) ∧ Hid (b64p.fRun (t.data.toList.drop i) N p = b64p.fRun t.data.toList 0 0)) (fun _ _ iv => 4 - (intOf iv).toNat)
  case atStart => exact ⟨0, 0, 0, by omega, rfl, rfl, rfl, by omega, by show _ < _; simp, rfl⟩
  case round =>
    obtain ⟨i, N, p, hi, rfl, rfl, rfl, hp, hN, hR⟩ := hrel
    by_cases hi4 : i < 4
    · have hlt : i < t.size := by omega
      have hN3 : N < 262144 := by
        have h2 : 64 ^ i ≤ 64 ^ 3 := Nat.pow_le_pow_right (by omega) (by omega)
        have h3 : (64 : Nat) ^ 3 = 262144 := by decide
        have := hN.out
        omega
      have hdrop : t.data.toList.drop i = t[i] :: t.data.toList.drop (i + 1) := List.drop_eq_getElem_cons (by simpa using hlt)
      have hR2 := hR.out
      rw [hdrop] at hR2
      have HR := Lib.hid hR2
      clear hR2 hdrop
      obtain ⟨c, hc⟩ : ∃ c : UInt8, Hid (c = t[i]) := ⟨t[i], rfl⟩
      rw [← hc.out] at HR
      obtain ⟨x, hx⟩ : ∃ x : Int, Hid (x = b64p.idx c) := ⟨_, rfl⟩
      have hxb : -1 ≤ x ∧ x ≤ 63 := by rw [hx.out]; exact b64p.idx_le c
      obtain ⟨hx1, hx2⟩ := hxb
      have C : Hid (∀ W : World, Calls Tryd.prog 19 #[.string { data := #[65, 66, 67, 68, 69, 70, 71, 72, 73, 74, 75, 76, 77, 78, 79, 80, 81, 82, 83, 84, 85, 86, 87, 88, 89, 90, 97, 98, 99, 100, 101, 102, 103, 104, 105, 106, 107, 108, 109, 110, 111, 112, 113, 114, 115, 116, 117, 118, 119, 120, 121, 122, 48, 49, 50, 51, 52, 53, 54, 55, 56, 57, 43, 47] }, .int .u8 (c.toNat : Int)] W fun e w' => e = .returned (.int .i64 x) ∧ W = w') := by
        intro W; rw [hx.out]; exact ix_any c W
      have hce : t[i] = c := hc.out.symm
      by_cases hpad : c = 61
      · have q1 : ((c.toNat : Int) == 61) = true := by rw [hpad]; rfl
        have q2 : ((c.toNat : Int) != 61) = false := by rw [hpad]; rfl
        have e1 : bits .or .i64 ((N : Int) * 64) 0 = ((64 * N : Nat) : Int) := by
          have h := kt.i64_or_low 6 N 0 (by omega) (by omega)
          rw [show (N : Int) * 64 = ((2 ^ 6 * N : Nat) : Int) from by omega]
          exact h
        have HP := Lib.hid hpad
        clear hpad
        go_wp2_with fail
        refine (C.out _).mono ?_
        rintro e w' ⟨rfl, rfl⟩
        go_wp2_with fail
        go_round
        case rel => exact ⟨i + 1, 64 * N, p + 1, by omega, by go_num, rfl, by go_num, by omega, by show _ < _; have := hN.out; rw [Nat.pow_succ]; omega, by
          show _ = _
          rw [← HR.out, HP.out]
          simp only [b64p.fRun, if_true]
          rw [Nat.mul_comm]⟩
        case measure => simp [intOf]; omega
      · have q1 : ((c.toNat : Int) == 61) = false := by rw [beq_eq_false_iff_ne]; intro h; apply hpad; apply UInt8.toNat_inj.1; show c.toNat = 61; omega
        have q2 : ((c.toNat : Int) != 61) = true := by rw [bne_iff_ne]; intro h; apply hpad; apply UInt8.toNat_inj.1; show c.toNat = 61; omega
        have HP := Lib.hid hpad
        clear hpad
        by_cases hbad : x < 0 ∨ 0 < p
        · have hnone : b64p.fourD t.data.toList = none := by
            unfold b64p.fourD
            rw [← HR.out]
            simp only [b64p.fRun]
            rw [if_neg HP.out, if_pos (by rw [← hx.out]; exact hbad)]
          have HN := Lib.hid hnone
          clear hnone
          by_cases hx0 : x < 0
          · clear hbad
            go_wp2_with fail
            refine (C.out _).mono ?_
            rintro e w' ⟨rfl, rfl⟩
            go_wp2_with fail
            go_ret2
            unfold FourRes
            rw [HN.out]
            exact ⟨rfl, Below.refl _ _⟩
          · have hp0 : 0 < p := by omega
            clear hbad
            go_wp2_with fail
            refine (C.out _).mono ?_
            rintro e w' ⟨rfl, rfl⟩
            go_wp2_with fail
            go_ret2
            unfold FourRes
            rw [HN.out]
            exact ⟨rfl, Below.refl _ _⟩
        · have hx0 : 0 ≤ x := by omega
          have hp0 : p = 0 := by omega
          have HB := Lib.hid hbad
          clear hbad
          subst hp0
          obtain ⟨X, rfl⟩ := Int.eq_ofNat_of_zero_le hx0
          have e1 : bits .or .i64 ((N : Int) * 64) (X : Int) = ((64 * N + X : Nat) : Int) := by
            have h := kt.i64_or_low 6 N X (by omega) (by omega)
            rw [show (N : Int) * 64 = ((2 ^ 6 * N : Nat) : Int) from by omega]
            exact h
          go_wp2_with fail
          refine (C.out _).mono ?_
          rintro e w' ⟨rfl, rfl⟩
          go_wp2_with fail
          go_round
          case rel => exact ⟨i + 1, 64 * N + X, 0, by omega, by go_num, rfl, rfl, by omega, by show _ < _; have := hN.out; rw [Nat.pow_succ]; omega, by
            show _ = _
            rw [← HR.out]
            simp only [b64p.fRun]
            rw [if_neg HP.out, if_neg (by rw [← hx.out]; exact HB.out), ← hx.out, Nat.mul_comm]
            rfl⟩
          case measure => simp [intOf]; omega
    · obtain rfl : i = 4 := by omega
      have hfin : b64p.fRun t.data.toList 0 0 = some (N, p) := by
        rw [← hR.out, List.drop_of_length_le (by rw [kt.size_len]; omega)]
        rfl
      have hN4 : N < 16777216 := by
        have h3 : (64 : Nat) ^ 4 = 16777216 := by decide
        have := hN.out
        omega
      by_cases hp2 : 2 < p
      · have hnone : b64p.fourD t.data.toList = none := by
          unfold b64p.fourD
          rw [hfin]
          simp only []
          rw [if_pos hp2]
        have HN := Lib.hid hnone
        clear hnone hfin
        go_wp2_with fail
        go_ret2
        unfold FourRes
        rw [HN.out]
        exact ⟨rfl, Below.refl _ _⟩
      · have hsome : b64p.fourD t.data.toList = some ((b64p.three N).take (3 - p)) := by
          unfold b64p.fourD
          rw [hfin]
          simp only []
          rw [if_neg hp2]
        have HS := Lib.hid hsome
        clear hsome hfin
        have q0 : ((UInt8.ofNat (N / 65536)).toNat : Int) = (N : Int) / 65536 := by rw [UInt8.toNat_ofNat']; omega
        have q1 : ((UInt8.ofNat (N / 256)).toNat : Int) = (N : Int) / 256 % 256 := by rw [UInt8.toNat_ofNat']; omega
        have q2 : ((UInt8.ofNat N).toNat : Int) = (N : Int) % 256 := by rw [UInt8.toNat_ofNat']; omega
        obtain ⟨m, hm⟩ : ∃ m : Nat, Hid (m = 3 - p) := ⟨3 - p, rfl⟩
        have hm3 : m ≤ 3 := by have := hm.out; omega
        have em : (3 : Int) - (p : Int) = (m : Int) := by have := hm.out; omega
        obtain ⟨v', w1, hap, hO1, hg1, hB1⟩ := kt.appN (P := Tryd.prog) (ty := 56) (w := w.alloc (.cells #[.int .u8 ((N : Int) / 65536), .int .u8 ((N : Int) / 256 % 256), .int .u8 ((N : Int) % 256)] 5)) Tryd.underlying56 bld.infoByte rfl ⟨w.heap.size, 0, none⟩ m 3 (Lib.byteCells ((b64p.three N).take m))
          (by rw [Lib.byteCells_length, List.length_take]; simp [b64p.three]; omega)
          (fun j u hj => by
            have e : (⟨w.heap.size, 0, none⟩ : Addr).add j = ⟨w.heap.size, j, none⟩ := by
              unfold Addr.add
              split
              · rename_i hj0; rw [hj0]
              · simp
            rw [e, World.cell?_alloc_new, ← q0, ← q1, ← q2]
            have hjm : j < m := by
              have := (List.getElem?_eq_some_iff.1 hj).1
              rw [Lib.byteCells_length, List.length_take] at this; omega
            have h3 : (Lib.byteCells (b64p.three N))[j]? = some u := by
              rw [← hj]
              unfold Lib.byteCells
              rw [List.getElem?_map, List.getElem?_map, List.getElem?_take, if_pos hjm]
            rw [← h3]
            match j, hjm, hm3 with
            | 0, _, _ => rfl
            | 1, _, _ => rfl
            | 2, _, _ => rfl
            | j + 3, h, _ => omega)
          (fun u hu => by
            simp only [Lib.byteCells, List.mem_map] at hu
            obtain ⟨x, _, rfl⟩ := hu
            rfl)
          (hO.out.alloc _) (by rw [Lib.byteCells_length]; unfold maxLen; omega) (by rw [Lib.byteCells_length]; omega) (by simp; omega)
        have HO1 := Lib.hid hO1
        have HG1 := Lib.hid hg1
        clear hO1 hg1 q0 q1 q2
        go_wp2_with (at_builtin; refine Lib.wpList_append_run _ rfl _ _ _ _ rfl _ _ rfl rfl _ _ hap ?_)
        go_ret2
        unfold FourRes
        rw [HS.out]
        refine ⟨_, rfl, ?_, ((Below.refl _ _).alloc hBw _).trans hB1⟩
        rw [Lib.byteCells_append, ← hm.out]
        exact HO1.out
end Go.Proofs.YtifplgnabkkbjaaDoor
