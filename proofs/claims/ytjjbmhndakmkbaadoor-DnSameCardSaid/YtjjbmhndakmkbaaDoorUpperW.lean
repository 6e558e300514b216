/- The walk of the statements' upper, and its plain law. -/
import Derived.Test.YtjjbmhndakmkbaaDoorPrintQ
namespace Go.Proofs.YtjjbmhndakmkbaaDoor
open Go.RowKit
namespace dnw
open dnp
set_option linter.unusedVariables false
set_option linter.unusedSimpArgs false
def up (c : UInt8) : UInt8 := if 97 ≤ c ∧ c ≤ 122 then c - 32 else c
def upL (l : List UInt8) : List UInt8 := l.map up
theorem low_up : ∀ c : UInt8, typeCh c = true → low (up c) = c := by
  have all : ∀ m : Fin 256, (!typeCh (UInt8.ofNat m.val) || decide (low (up (UInt8.ofNat m.val)) = UInt8.ofNat m.val)) = true := by decide +kernel
  intro c h
  have := all ⟨c.toNat, c.toNat_lt⟩
  simp only [UInt8.ofNat_toNat, h, Bool.not_true, Bool.false_or, decide_eq_true_eq] at this
  exact this
theorem tyAs_up {a : Av} (h : typeOK a.t.data.toList = true) : TyAs upL a := by
  refine ⟨?_, h⟩
  unfold typeOK at h
  simp only [Bool.and_eq_true] at h
  unfold lowL upL
  rw [List.map_map]
  conv => rhs; rw [← List.map_id a.t.data.toList]
  apply List.map_congr_left
  intro c hc
  exact low_up c (List.all_eq_true.1 h.2 c hc)
theorem up_nat (c : UInt8) : ((up c).toNat : Int) = if 97 ≤ (c.toNat : Int) ∧ (c.toNat : Int) ≤ 122 then (c.toNat : Int) - 32 else (c.toNat : Int) := by
  have all : ∀ m : Fin 256, ((up (UInt8.ofNat m.val)).toNat : Int) = if 97 ≤ (m.val : Int) ∧ (m.val : Int) ≤ 122 then (m.val : Int) - 32 else (m.val : Int) := by decide +kernel
  have h := all ⟨c.toNat, c.toNat_lt⟩
  simp only [UInt8.ofNat_toNat] at h
  exact h
theorem up_id {c : UInt8} (h : ¬ (97 ≤ (c.toNat : Int) ∧ (c.toNat : Int) ≤ 122)) : up c = c := by
  have := up_nat c
  rw [if_neg h] at this
  exact UInt8.toNat_inj.1 (by omega)
def upTo (s : List UInt8) (i : Nat) : List UInt8 := (s.take i).map up ++ s.drop i
theorem upTo_len (s : List UInt8) (i : Nat) : (upTo s i).length = s.length := by unfold upTo; rw [List.length_append, List.length_map, List.length_take, List.length_drop]; omega
theorem upTo_get (s : List UInt8) (i : Nat) (h : i < s.length) : (upTo s i)[i]'(by rw [upTo_len]; exact h) = s[i] := by
  unfold upTo
  rw [List.getElem_append_right (by rw [List.length_map, List.length_take]; omega)]
  simp only [List.length_map, List.length_take, List.getElem_drop]
  congr 1
  omega
theorem upTo_next (s : List UInt8) (i : Nat) (h : i < s.length) : upTo s (i + 1) = (upTo s i).set i (up s[i]) := by
  unfold upTo
  rw [List.set_append_right _ _ (by rw [List.length_map, List.length_take]; omega)]
  rw [List.take_succ_eq_append_getElem h, List.map_append, List.length_map, List.length_take, show i - min i s.length = 0 from by omega, List.drop_eq_getElem_cons h, List.set_cons_zero, List.append_assoc]
  rfl
theorem upTo_same (s : List UInt8) (i : Nat) (h : i < s.length) (hs : up s[i] = s[i]) : upTo s (i + 1) = upTo s i := by
  rw [upTo_next s i h, hs, ← upTo_get s i h]
  exact List.set_getElem_self _
set_option maxRecDepth 20000 in
set_option maxHeartbeats 2000000 in
theorem upper_any (s : ByteArray) (w : World) (hs : s.size ≤ 1000000) : Calls Tryd.prog 17 #[.string s] w fun e w' => e = .returned (.string ⟨(upL s.data.toList).toArray⟩) ∧ Below w.heap.size w w' := by
  obtain ⟨W1, cap, hcv, hrow, hB1⟩ := kt.bytes_of (P := Tryd.prog) (src := 9) (dst := 54) (e := 5) Tryd.underlying9 Tryd.underlying54 Tryd.underlying5 w s
  have HROW : Hid (kt.ByteRow W1 w.heap.size (upTo s.data.toList 0)) := by
    show kt.ByteRow _ _ _
    unfold upTo
    simpa using hrow
  have HB1 := Lib.hid hB1
  clear hrow hB1
  go_enter Tryd.func17, Tryd.ntmps17
  go_wp2_with fail
  go_loopw [4] (fun iv wr => ∃ i : Nat, i ≤ s.size ∧ iv = .int .i64 (i : Int) ∧ Hid (kt.ByteRow wr w.heap.size (upTo s.data.toList i)) ∧ Below w.heap.size w wr) (fun iv _ => s.size - (intOf iv).toNat)
  case atStart => exact ⟨0, Nat.zero_le _, rfl, HROW, HB1.out⟩
  case round =>
    obtain ⟨i, hi, rfl, hR, hB⟩ := hrel
    by_cases hlt : i < s.size
    · have hlt' : (i : Int) < (s.size : Int) := by omega
      have hil : i < s.data.toList.length := by rw [kt.size_len]; exact hlt
      obtain ⟨hc, hf⟩ := hR.out i (by rw [upTo_len]; exact hil)
      rw [upTo_get _ i hil] at hc
      have hnext := upTo_next s.data.toList i hil
      have hsame := upTo_same s.data.toList i hil
      have hset := kt.byterow_set hR.out i (up s.data.toList[i])
      rw [← hnext] at hset
      generalize s.data.toList[i] = c at hc hset hsame
      have hcn := c.toNat_lt
      by_cases h97 : 97 ≤ (c.toNat : Int)
      · by_cases h122 : (c.toNat : Int) ≤ 122
        · have hu := up_nat c
          rw [if_pos ⟨h97, h122⟩] at hu
          rw [hu] at hset
          have HS := Lib.hid hset
          have r1 : IntKind.u8.wrap ((c.toNat : Int) - 32) = (c.toNat : Int) - 32 := IntWalk.u8_in _ (by omega)
          clear hset hsame hnext hu
          go_wp2_with fail
          go_roundw
          case rel => exact ⟨i + 1, by omega, by go_num, HS, hB.setCell (p := ⟨w.heap.size, i, none⟩) (Nat.le_refl _) _⟩
          case measure => simp [intOf] <;> omega
        · have HS : Hid (kt.ByteRow wr w.heap.size (upTo s.data.toList (i + 1))) := by
            show kt.ByteRow _ _ _
            rw [hsame (up_id (by omega))]
            exact hR.out
          clear hset hsame hnext
          go_wp2_with fail
          go_roundw
          case rel => exact ⟨i + 1, by omega, by go_num, HS, hB⟩
          case measure => simp [intOf] <;> omega
      · have HS : Hid (kt.ByteRow wr w.heap.size (upTo s.data.toList (i + 1))) := by
          show kt.ByteRow _ _ _
          rw [hsame (up_id (by omega))]
          exact hR.out
        clear hset hsame hnext
        go_wp2_with fail
        go_roundw
        case rel => exact ⟨i + 1, by omega, by go_num, HS, hB⟩
        case measure => simp [intOf] <;> omega
    · obtain rfl : i = s.size := by omega
      have hst := kt.byterow_str (P := Tryd.prog) (cap := cap) (n := s.size) Tryd.underlying54 Tryd.underlying5 Tryd.underlying9 hR.out (by rw [upTo_len, kt.size_len])
      have hend : upTo s.data.toList s.size = upL s.data.toList := by
        unfold upTo upL
        rw [List.take_of_length_le (by rw [kt.size_len]; exact Nat.le_refl _), List.drop_eq_nil_of_le (by rw [kt.size_len]; exact Nat.le_refl _), List.append_nil]
      rw [hend] at hst
      clear hend
      go_wp2_with fail
      go_ret
      exact ⟨rfl, hB⟩
end dnw
end Go.Proofs.YtjjbmhndakmkbaaDoor
