/- The walk of dn.value: a value's text. -/
import Derived.Test.YtjjbmhndakmkbaaGreatDoorPrintQ
import Derived.Test.YtjjbmhndakmkbaaGreatDoorHexW
namespace Go.Proofs.YtjjbmhndakmkbaaGreatDoor
open Go.RowKit
namespace dnw
open dnp
set_option linter.unusedVariables false
set_option linter.unusedSimpArgs false
theorem ix_special (d : UInt8) : 0 ≤ Lib.indexByte [34, 43, 44, 59, 60, 61, 62, 92] d ↔ special d = true := by
  have all : ∀ m : Fin 256, (decide (0 ≤ Lib.indexByte [34, 43, 44, 59, 60, 61, 62, 92] (UInt8.ofNat m.val))) = special (UInt8.ofNat m.val) := by decide +kernel
  have h := all ⟨d.toNat, d.toNat_lt⟩
  simp only [UInt8.ofNat_toNat] at h
  rw [← h, decide_eq_true_iff]
theorem signsIx (c : UInt8) (W : World) : ∃ r : Int, (0 ≤ r ↔ special c = true) ∧ Calls Tryz.prog 47 #[.string ⟨#[34, 43, 44, 59, 60, 61, 62, 92]⟩, .int .u8 (c.toNat : Int)] W fun e w' => e = .returned (.int .i64 r) ∧ W = w' := by
  have C := Tryz.strings_IndexByte { data := #[34, 43, 44, 59, 60, 61, 62, 92] } (c.toNat : Int) W
  refine ⟨_, ?_, C.mono fun e w' h => ⟨h.1, by first | exact h.2 | exact h.2.symm⟩⟩
  rw [show ((c.toNat : Int)).toNat.toUInt8 = c from by simp]
  exact ix_special c
/-- how far a value's text has gone -/
def TxAt (s : ByteArray) (i : Nat) (acc : List UInt8) : Prop := acc ++ textF (decide (i = 0)) (s.data.toList.drop i) = textL s.data.toList
theorem txAt_step {s : ByteArray} {i : Nat} {acc : List UInt8} (h : TxAt s i acc) (hi : i < s.size) : TxAt s (i + 1) (acc ++ textB (decide (i = 0)) (decide (i + 1 = s.size)) s[i]) := by
  unfold TxAt at *
  rw [drop_cons s i hi, textF] at h
  rw [← h, List.append_assoc]
  have e : (s.data.toList.drop (i + 1)).isEmpty = decide (i + 1 = s.size) := by
    by_cases h : i + 1 = s.size
    · rw [decide_eq_true h, List.isEmpty_iff, List.drop_eq_nil_iff, kt.size_len]; omega
    · rw [decide_eq_false h, Bool.eq_false_iff]
      intro h2
      rw [List.isEmpty_iff, List.drop_eq_nil_iff, kt.size_len] at h2
      omega
  rw [e, decide_eq_false (by omega : ¬ i + 1 = 0)]
theorem txAt_end {s : ByteArray} {acc : List UInt8} (h : TxAt s s.size acc) : acc = textL s.data.toList := by
  unfold TxAt at h
  rw [drop_end] at h
  simpa [textF] using h
theorem textB_hex {f l : Bool} {c : UInt8} (h : hexed c = true) : textB f l c = [92] ++ b64p.hex [c] := if_pos h
theorem textB_esc {f l : Bool} {c : UInt8} (h : hexed c = false) (h2 : fenced f l c = true) : textB f l c = [92] ++ [c] := (if_neg (by rw [h]; simp)).trans (if_pos h2)
theorem textB_bare {f l : Bool} {c : UInt8} (h : hexed c = false) (h2 : fenced f l c = false) : textB f l c = [c] := (if_neg (by rw [h]; simp)).trans (if_neg (by rw [h2]; simp))
theorem hexed_iff (c : UInt8) : hexed c = true ↔ (c.toNat : Int) < 32 ∨ (c.toNat : Int) = 127 := by
  unfold hexed
  rw [decide_eq_true_iff]
  constructor
  · rintro (h | h)
    · left; have : c.toNat < 32 := h; omega
    · right; rw [h]; rfl
  · rintro (h | h)
    · left; show c.toNat < 32; omega
    · right; exact u8_eq (n := 127) (by omega) h
theorem is_below {B b : Nat} {l : List UInt8} {w w' : World} (h : bld.Is B b l w) (hb : Below w.heap.size w w') : bld.Is B b l w' := by
  rcases h with ⟨hB, v, hbk, hown, hne⟩ | ⟨hB, v, hbk, hown, hne⟩
  · exact Or.inl ⟨hB, v, (hb.block b (bld.lt_of_heap hbk)).trans hbk, kt.row_below hown hb, hne⟩
  · exact Or.inr ⟨hB, v, (hb.block b (bld.lt_of_heap hbk)).trans hbk, kt.row_below hown hb, hne⟩
set_option maxRecDepth 20000 in
set_option maxHeartbeats 4000000 in
theorem dval_any (s : ByteArray) (w : World) (hs : s.size ≤ 1000000) : Calls Tryz.prog 29 #[.string s] w fun e w' => e = .returned (.string ⟨(textL s.data.toList).toArray⟩) ∧ Below w.heap.size w w' := by
  go_enter Tryz.func29, Tryz.ntmps29
  go_wp2_with fail
  go_loopw [4, 5, 6, 9] (fun _ _ _ iv wr => ∃ (i : Nat) (acc : List UInt8), i ≤ s.size ∧ iv = .int .i64 (i : Int) ∧ Hid (bld.Is w.heap.size w.heap.size acc wr) ∧ acc.length ≤ 3 * i ∧ Hid (TxAt s i acc) ∧ Below w.heap.size w wr) (fun _ _ _ iv _ => s.size - (intOf iv).toNat)
  case atStart => exact ⟨0, [], Nat.zero_le _, rfl, bld.fresh w, Nat.zero_le _, rfl, (Below.refl _ _).alloc (Nat.le_refl _) _⟩
  case round =>
    obtain ⟨i, acc, hi, rfl, HI, hal, hT, hB⟩ := hrel
    have hsz := hB.size
    by_cases hlt : i < s.size
    · have hlt' : (i : Int) < (s.size : Int) := by omega
      have HT := txAt_step hT.out hlt
      obtain ⟨r, hr, CX⟩ := signsIx (s[i]'hlt) wr
      have HC := Lib.hid CX
      have HX0 := hexed_iff (s[i]'hlt)
      have hlen : acc.length ≤ 3000000 := by omega
      have hc := (s[i]'hlt).toNat_lt
      have HT := Lib.hid HT
      clear CX
      by_cases hx : hexed (s[i]'hlt) = true
      · have HTX : Hid (TxAt s (i + 1) (acc ++ [92] ++ b64p.hex [(s[i]'hlt)])) := by
          have h := HT.out
          rw [textB_hex hx, ← List.append_assoc] at h
          exact h
        have y1 : ¬ ((s[i]'hlt).toNat : Int) = 32 := by have := HX0.1 hx; omega
        have y2 : ¬ ((s[i]'hlt).toNat : Int) = 35 := by have := HX0.1 hx; omega
        have q32 : (((s[i]'hlt).toNat : Int) == 32) = false := by rw [beq_eq_false_iff_ne]; exact y1
        have q35 : (((s[i]'hlt).toNat : Int) == 35) = false := by rw [beq_eq_false_iff_ne]; exact y2
        have hst : (convert 61 9 (.slice (some ⟨wr.heap.size, 0, none⟩) 1 1)).run Tryz.prog (wr.alloc (.cells #[.int .u8 ((s[i]'hlt).toNat : Int)] 5)) = .ok (.string ⟨[(s[i]'hlt)].toArray⟩) (wr.alloc (.cells #[.int .u8 ((s[i]'hlt).toNat : Int)] 5)) :=
          run_convert_bytes_back _ _ _ 5 ⟨wr.heap.size, 0, none⟩ 1 [(s[i]'hlt)] Tryz.underlying61 Tryz.underlying5 Tryz.underlying9 (fun j hj => by
            have h0 : j = 0 := by simpa using hj
            subst h0
            rw [kt.addr_add, World.cell?_alloc_new]
            rfl)
        have CH := Lib.hid (hex_any ⟨[(s[i]'hlt)].toArray⟩ (wr.alloc (.cells #[.int .u8 ((s[i]'hlt).toNat : Int)] 5)) (by show ([(s[i]'hlt)].toArray : Array UInt8).size ≤ 3000; simp))
        have HBA : Hid (Below wr.heap.size wr (wr.alloc (.cells #[.int .u8 ((s[i]'hlt).toNat : Int)] 5))) := (Below.refl _ _).alloc (Nat.le_refl _) _
        have hx3 : ((s[i]'hlt).toNat : Int) < 32 ∨ (¬ ((s[i]'hlt).toNat : Int) < 32 ∧ (((s[i]'hlt).toNat : Int) == 127) = true) := by
          rcases HX0.1 hx with h | h
          · exact Or.inl h
          · exact Or.inr ⟨by omega, by rw [beq_iff_eq]; exact h⟩
        have HTd : Hid (((⟨#[92]⟩ : ByteArray) ++ ⟨(b64p.hex [(s[i]'hlt)]).toArray⟩).data.toList = [92] ++ b64p.hex [(s[i]'hlt)]) := by
          show _ = _
          rw [ByteArray.data_append]
          simp
        clear hr HC HX0 hx y1 y2 HT
        rcases hx3 with x1 | ⟨x1, x2⟩
        all_goals
          go_wp2_with fail
          refine CH.out.mono ?_
          rintro e w1 ⟨rfl, hB1⟩
          have HB1 : Hid (Below wr.heap.size wr w1) := HBA.out.trans (hB1.mono (by simp))
          have HI1 := Lib.hid (is_below HI.out HB1.out)
          have hsz1 := Nat.le_trans hsz HB1.out.size
          have hhl := b64p.hex_length [(s[i]'hlt)]
          clear hB1 hst
          go_wp2_with fail
          refine (bld.writeString_any _ _ _ _ _ HI1.out (by have h := congrArg List.length HTd.out; rw [kt.size_len] at h; rw [h, List.length_append, hhl]; simp; omega) hsz1).mono ?_
          rintro e w2 ⟨rfl, hI2, hB2⟩
          have HI2 := Lib.hid hI2
          clear hI2
          go_wp2_with fail
          go_roundw
          case rel => exact ⟨i + 1, _, by omega, by go_num, HI2, by rw [HTd.out, List.length_append, List.length_append, hhl]; simp; omega, by rw [HTd.out, ← List.append_assoc]; exact HTX, (hB.trans (HB1.out.mono hsz)).trans hB2⟩
          case measure => simp [intOf]; omega
      · have hx' : hexed (s[i]'hlt) = false := by simpa using hx
        have x1 : ¬ ((s[i]'hlt).toNat : Int) < 32 := fun h => hx (HX0.2 (Or.inl h))
        have x2 : (((s[i]'hlt).toNat : Int) == 127) = false := by rw [beq_eq_false_iff_ne]; exact fun h => hx (HX0.2 (Or.inr h))
        have HTE : Hid (∀ x : Unit, fenced (decide (i = 0)) (decide (i + 1 = s.size)) (s[i]'hlt) = true → TxAt s (i + 1) (acc ++ [92] ++ [(s[i]'hlt)])) := by
          intro _ hf
          have h := HT.out
          rw [textB_esc hx' hf, ← List.append_assoc] at h
          exact h
        have HTB : Hid (∀ x : Unit, fenced (decide (i = 0)) (decide (i + 1 = s.size)) (s[i]'hlt) = false → TxAt s (i + 1) (acc ++ [(s[i]'hlt)])) := by
          intro _ hf
          have h := HT.out
          rw [textB_bare hx' hf] at h
          exact h
        have HF0 : fenced (decide (i = 0)) (decide (i + 1 = s.size)) (s[i]'hlt) = (special (s[i]'hlt) || (decide ((s[i]'hlt) = 32) && (decide (i = 0) || decide (i + 1 = s.size))) || (decide ((s[i]'hlt) = 35) && decide (i = 0))) := rfl
        clear hx hx' HX0 HT
        by_cases h32 : ((s[i]'hlt).toNat : Int) = 32
        · have e32 : (s[i]'hlt) = 32 := u8_eq (n := 32) (by omega) h32
          have e35 : (s[i]'hlt) ≠ 35 := by rw [e32]; decide
          have hs : special (s[i]'hlt) = false := by rw [e32]; decide
          have q32 : ((((s[i]'hlt).toNat : Int) == 32)) = true := by rw [beq_iff_eq]; omega
          have q35 : ((((s[i]'hlt).toNat : Int) == 35)) = false := by rw [beq_eq_false_iff_ne]; omega
          clear h32
          by_cases h0 : i = 0
          · have q0 : ((i : Int) == 0) = true := by rw [beq_iff_eq]; omega
            have HF : Hid (fenced (decide (i = 0)) (decide (i + 1 = s.size)) (s[i]'hlt) = true) := by show _ = _; rw [HF0, e32, decide_eq_true h0]; rfl
            clear HF0 hr e32 e35 h0
            go_wp2_with fail
            refine (bld.writeByte_cell _ _ _ (92 : UInt8) _ HI.out (by omega) hsz).mono ?_
            rintro e w1 ⟨rfl, hI1, hB1⟩
            have HI1 := Lib.hid hI1
            have hsz1 := Nat.le_trans hsz hB1.size
            clear hI1
            go_wp2_with fail
            refine (bld.writeByte_cell _ _ _ (s[i]'hlt) _ HI1.out (by simp; omega) hsz1).mono ?_
            rintro e w2 ⟨rfl, hI2, hB2⟩
            have HI2 := Lib.hid hI2
            clear hI2
            go_wp2_with fail
            go_roundw
            case rel => exact ⟨i + 1, _, by omega, by go_num, HI2, by simp; omega, Lib.hid (HTE.out () HF.out), (hB.trans hB1).trans hB2⟩
            case measure => simp [intOf]; omega
          · have q0 : ((i : Int) == 0) = false := by rw [beq_eq_false_iff_ne]; omega
            by_cases hl : i + 1 = s.size
            · have ql : ((i : Int) == (s.size : Int) - 1) = true := by rw [beq_iff_eq]; omega
              have HF : Hid (fenced (decide (i = 0)) (decide (i + 1 = s.size)) (s[i]'hlt) = true) := by show _ = _; rw [HF0, e32, decide_eq_false h0, decide_eq_true hl]; rfl
              clear HF0 hr e32 e35 hl
              go_wp2_with fail
              refine (bld.writeByte_cell _ _ _ (92 : UInt8) _ HI.out (by omega) hsz).mono ?_
              rintro e w1 ⟨rfl, hI1, hB1⟩
              have HI1 := Lib.hid hI1
              have hsz1 := Nat.le_trans hsz hB1.size
              clear hI1
              go_wp2_with fail
              refine (bld.writeByte_cell _ _ _ (s[i]'hlt) _ HI1.out (by simp; omega) hsz1).mono ?_
              rintro e w2 ⟨rfl, hI2, hB2⟩
              have HI2 := Lib.hid hI2
              clear hI2
              go_wp2_with fail
              go_roundw
              case rel => exact ⟨i + 1, _, by omega, by go_num, HI2, by simp; omega, Lib.hid (HTE.out () HF.out), (hB.trans hB1).trans hB2⟩
              case measure => simp [intOf]; omega
            · have ql : ((i : Int) == (s.size : Int) - 1) = false := by rw [beq_eq_false_iff_ne]; omega
              have HF : Hid (fenced (decide (i = 0)) (decide (i + 1 = s.size)) (s[i]'hlt) = false) := by show _ = _; rw [HF0, e32, decide_eq_false h0, decide_eq_false hl]; rfl
              have hr' : ¬ 0 ≤ r := fun h => absurd (hr.1 h) (by rw [hs]; simp)
              clear HF0 hr hs e32 e35
              go_wp2_with fail
              refine HC.out.mono ?_
              rintro e w0 ⟨rfl, rfl⟩
              go_wp2_with fail
              refine (bld.writeByte_cell _ _ _ (s[i]'hlt) _ HI.out (by omega) hsz).mono ?_
              rintro e w1 ⟨rfl, hI1, hB1⟩
              have HI1 := Lib.hid hI1
              clear hI1
              go_wp2_with fail
              go_roundw
              case rel => exact ⟨i + 1, _, by omega, by go_num, HI1, by simp; omega, Lib.hid (HTB.out () HF.out), hB.trans hB1⟩
              case measure => simp [intOf]; omega
        · have e32 : (s[i]'hlt) ≠ 32 := fun h => h32 (by rw [h]; rfl)
          have q32 : ((((s[i]'hlt).toNat : Int) == 32)) = false := by rw [beq_eq_false_iff_ne]; omega
          by_cases h35 : ((s[i]'hlt).toNat : Int) = 35
          · have e35 : (s[i]'hlt) = 35 := u8_eq (n := 35) (by omega) h35
            have hs : special (s[i]'hlt) = false := by rw [e35]; decide
            have q35 : ((((s[i]'hlt).toNat : Int) == 35)) = true := by rw [beq_iff_eq]; omega
            clear h35
            by_cases h0 : i = 0
            · have q0 : ((i : Int) == 0) = true := by rw [beq_iff_eq]; omega
              have HF : Hid (fenced (decide (i = 0)) (decide (i + 1 = s.size)) (s[i]'hlt) = true) := by show _ = _; rw [HF0, e35, decide_eq_true h0]; rfl
              clear HF0 hr e32 e35 h0
              go_wp2_with fail
              refine (bld.writeByte_cell _ _ _ (92 : UInt8) _ HI.out (by omega) hsz).mono ?_
              rintro e w1 ⟨rfl, hI1, hB1⟩
              have HI1 := Lib.hid hI1
              have hsz1 := Nat.le_trans hsz hB1.size
              clear hI1
              go_wp2_with fail
              refine (bld.writeByte_cell _ _ _ (s[i]'hlt) _ HI1.out (by simp; omega) hsz1).mono ?_
              rintro e w2 ⟨rfl, hI2, hB2⟩
              have HI2 := Lib.hid hI2
              clear hI2
              go_wp2_with fail
              go_roundw
              case rel => exact ⟨i + 1, _, by omega, by go_num, HI2, by simp; omega, Lib.hid (HTE.out () HF.out), (hB.trans hB1).trans hB2⟩
              case measure => simp [intOf]; omega
            · have q0 : ((i : Int) == 0) = false := by rw [beq_eq_false_iff_ne]; omega
              have HF : Hid (fenced (decide (i = 0)) (decide (i + 1 = s.size)) (s[i]'hlt) = false) := by show _ = _; rw [HF0, e35, decide_eq_false h0]; rfl
              have hr' : ¬ 0 ≤ r := fun h => absurd (hr.1 h) (by rw [hs]; simp)
              clear HF0 hr hs e32 e35
              go_wp2_with fail
              refine HC.out.mono ?_
              rintro e w0 ⟨rfl, rfl⟩
              go_wp2_with fail
              refine (bld.writeByte_cell _ _ _ (s[i]'hlt) _ HI.out (by omega) hsz).mono ?_
              rintro e w1 ⟨rfl, hI1, hB1⟩
              have HI1 := Lib.hid hI1
              clear hI1
              go_wp2_with fail
              go_roundw
              case rel => exact ⟨i + 1, _, by omega, by go_num, HI1, by simp; omega, Lib.hid (HTB.out () HF.out), hB.trans hB1⟩
              case measure => simp [intOf]; omega
          · have e35 : (s[i]'hlt) ≠ 35 := fun h => h35 (by rw [h]; rfl)
            have q35 : ((((s[i]'hlt).toNat : Int) == 35)) = false := by rw [beq_eq_false_iff_ne]; omega
            cases hs : special (s[i]'hlt) with
            | true =>
              have HF : Hid (fenced (decide (i = 0)) (decide (i + 1 = s.size)) (s[i]'hlt) = true) := by show _ = _; rw [HF0, hs]; rfl
              have hr' : 0 ≤ r := hr.2 hs
              clear HF0 hr hs e32 e35
              go_wp2_with fail
              refine HC.out.mono ?_
              rintro e w0 ⟨rfl, rfl⟩
              go_wp2_with fail
              refine (bld.writeByte_cell _ _ _ (92 : UInt8) _ HI.out (by omega) hsz).mono ?_
              rintro e w1 ⟨rfl, hI1, hB1⟩
              have HI1 := Lib.hid hI1
              have hsz1 := Nat.le_trans hsz hB1.size
              clear hI1
              go_wp2_with fail
              refine (bld.writeByte_cell _ _ _ (s[i]'hlt) _ HI1.out (by simp; omega) hsz1).mono ?_
              rintro e w2 ⟨rfl, hI2, hB2⟩
              have HI2 := Lib.hid hI2
              clear hI2
              go_wp2_with fail
              go_roundw
              case rel => exact ⟨i + 1, _, by omega, by go_num, HI2, by simp; omega, Lib.hid (HTE.out () HF.out), (hB.trans hB1).trans hB2⟩
              case measure => simp [intOf]; omega
            | false =>
              have HF : Hid (fenced (decide (i = 0)) (decide (i + 1 = s.size)) (s[i]'hlt) = false) := by show _ = _; rw [HF0, hs, decide_eq_false e32, decide_eq_false e35]; rfl
              have hr' : ¬ 0 ≤ r := fun h => absurd (hr.1 h) (by rw [hs]; simp)
              clear HF0 hr hs e32 e35
              go_wp2_with fail
              refine HC.out.mono ?_
              rintro e w0 ⟨rfl, rfl⟩
              go_wp2_with fail
              refine (bld.writeByte_cell _ _ _ (s[i]'hlt) _ HI.out (by omega) hsz).mono ?_
              rintro e w1 ⟨rfl, hI1, hB1⟩
              have HI1 := Lib.hid hI1
              clear hI1
              go_wp2_with fail
              go_roundw
              case rel => exact ⟨i + 1, _, by omega, by go_num, HI1, by simp; omega, Lib.hid (HTB.out () HF.out), hB.trans hB1⟩
              case measure => simp [intOf]; omega
    · obtain rfl : i = s.size := by omega
      have HT := Lib.hid (txAt_end hT.out)
      go_wp2_with fail
      refine (Tryz.Builder_String_any _ _ _ _ HI.out hsz).mono ?_
      rintro e w1 ⟨rfl, hB1⟩
      go_wp2
      go_ret
      exact ⟨kt.ret_str (by rw [HT.out]), hB.trans hB1⟩
end dnw
end Go.Proofs.YtjjbmhndakmkbaaGreatDoor
