/- The walk of the scanner's escaped: what stands behind a \. -/
import Derived.Test.YtjjbmhndakmkbaaGreatDoorKindW
namespace Go.Proofs.YtjjbmhndakmkbaaGreatDoor
open Go.RowKit
namespace dnw
open dnp
set_option linter.unusedVariables false
set_option linter.unusedSimpArgs false
/-- what escaped leaves -/
def EscE (b : Nat) (s : ByteArray) (i : Nat) (w : World) (e : Ending) (w' : World) : Prop :=
  w.grownBy w' (some b) ∧ match esc (s.data.toList.drop i) with
    | none => ∃ j, e = .returned (.tuple #[.int .u8 0, .bool false]) ∧ Sc w' b s j
    | some (d, n) => e = .returned (.tuple #[.int .u8 (d.toNat : Int), .bool true]) ∧ Sc w' b s (i + n)
def plainEsc (d : UInt8) : Prop := special d = true ∨ d = 35 ∨ d = 32
theorem ix_signs (d : UInt8) : 0 ≤ Lib.indexByte [34, 43, 44, 59, 60, 61, 62, 92, 35, 32] d ↔ plainEsc d := by
  have all : ∀ m : Fin 256, (decide (0 ≤ Lib.indexByte [34, 43, 44, 59, 60, 61, 62, 92, 35, 32] (UInt8.ofNat m.val))) = (special (UInt8.ofNat m.val) || decide (UInt8.ofNat m.val = 35) || decide (UInt8.ofNat m.val = 32)) := by decide +kernel
  have h := all ⟨d.toNat, d.toNat_lt⟩
  simp only [UInt8.ofNat_toNat] at h
  unfold plainEsc
  rw [← decide_eq_true_iff (p := 0 ≤ _), h, Bool.or_eq_true, Bool.or_eq_true, decide_eq_true_iff, decide_eq_true_iff]
  constructor
  · rintro ((h | h) | h)
    · exact Or.inl h
    · exact Or.inr (Or.inl h)
    · exact Or.inr (Or.inr h)
  · rintro (h | h | h)
    · exact Or.inl (Or.inl h)
    · exact Or.inl (Or.inr h)
    · exact Or.inr h
theorem esc_plain {d : UInt8} {t : List UInt8} (h : plainEsc d) : esc (d :: t) = some (d, 1) := if_pos h
theorem esc_one {d : UInt8} (h : ¬ plainEsc d) : esc [d] = none := if_neg h
theorem esc_hex {d e : UInt8} {t : List UInt8} (h : ¬ plainEsc d) (h2 : ¬ (b64p.valI d < 0 ∨ b64p.valI e < 0)) : esc (d :: e :: t) = some (UInt8.ofNat (16 * b64p.valI d + b64p.valI e).toNat, 2) := (if_neg h).trans (if_neg h2)
theorem esc_nohex {d e : UInt8} {t : List UInt8} (h : ¬ plainEsc d) (h2 : b64p.valI d < 0 ∨ b64p.valI e < 0) : esc (d :: e :: t) = none := (if_neg h).trans (if_pos h2)
theorem unhex_two (d e : UInt8) : b64p.unhex [d, e] = if b64p.valI d < 0 ∨ b64p.valI e < 0 then none else some [UInt8.ofNat (16 * b64p.valI d + b64p.valI e).toNat] := by
  unfold b64p.unhex
  split
  · rfl
  · rfl
theorem sc_two {w : World} {b i : Nat} {s : ByteArray} (h : Sc w b s i) (n : Nat) : Sc ((w.drewN n).setCell ⟨b, 1, none⟩ (.int .i64 ((i : Int) + 2))) b s (i + 2) := sc_set h n (i + 2)
theorem sc_inc0 {w : World} {b i : Nat} {s : ByteArray} (h : Sc w b s i) : Sc (w.setCell ⟨b, 1, none⟩ (.int .i64 ((i : Int) + 1))) b s (i + 1) := sc_set0 h (i + 1)
theorem sc_two0 {w : World} {b i : Nat} {s : ByteArray} (h : Sc w b s i) : Sc (w.setCell ⟨b, 1, none⟩ (.int .i64 ((i : Int) + 2))) b s (i + 2) := sc_set0 h (i + 2)
theorem gr_set0 {w w' : World} {b : Nat} (h : w.grownBy w' (some b)) (v : Value) : w.grownBy (w'.setCell ⟨b, 1, none⟩ v) (some b) := gr_set h 0 v
set_option maxRecDepth 100000 in
set_option maxHeartbeats 4000000 in
theorem escaped_any (b : Nat) (s : ByteArray) (i : Nat) (w : World) (hS : Hid (Sc w b s i)) (hi : i ≤ s.size) (hs : s.size ≤ 10000) :
    Calls Tryz.prog 44 #[.pointer (some ⟨b, 0, none⟩)] w fun e w' => EscE b s i w e w' := by
  obtain ⟨c0, c1, f1, hb⟩ := sc_cells hS.out
  obtain ⟨U, hU⟩ : ∃ U : ByteArray, s.extract i s.size = U := ⟨_, rfl⟩
  have hUd : U.data.toList = s.data.toList.drop i := by rw [← hU, Lib.extract_to_end]
  have hUs : U.size = s.size - i := by rw [← kt.size_len, hUd, List.length_drop, kt.size_len]
  have hi' : (i : Int) ≤ (s.size : Int) := by omega
  have hi0 : (0 : Int) ≤ (i : Int) := by omega
  by_cases h0 : U.size = 0
  · have hd0 : s.data.toList.drop i = [] := by rw [← hUd]; exact List.eq_nil_of_length_eq_zero (by rw [kt.size_len]; exact h0)
    have HD0 := Lib.hid hd0
    obtain rfl : U = ⟨#[]⟩ := kt.str_eq (by rw [hUd, hd0])
    clear hUd hUs h0 hd0
    go_enter Tryz.func44, Tryz.ntmps44
    go_wp2_with fail
    go_quiet (fail)
    go_wp2_with fail
    go_ret2
    refine ⟨gr_drewN (gr_refl _ _) _, ?_⟩
    rw [HD0.out]
    exact ⟨i, rfl, sc_drewN hS.out _⟩
  · have hU0 : 0 < U.size := by omega
    have hU0' : 0 < (U.size : Int) := by omega
    have hcons : s.data.toList.drop i = U[0] :: U.data.toList.drop 1 := by
      rw [← hUd]
      have := drop_cons U 0 hU0
      simpa using this
    have g1 : (U.toList == []) = false := by
      rw [beq_eq_false_iff_ne, Lib.toList_data, hUd, hcons]
      simp
    have g2 : ¬ U.toList = [] := by simpa using g1
    have CX : Hid (∀ W : World, Calls Tryz.prog 47 #[.string ⟨#[34, 43, 44, 59, 60, 61, 62, 92, 35, 32]⟩, .int .u8 ((U[0]'hU0).toNat : Int)] W fun e w' => e = .returned (.int .i64 (Lib.indexByte [34, 43, 44, 59, 60, 61, 62, 92, 35, 32] (U[0]'hU0))) ∧ w' = W) := by
      intro W
      have := Tryz.strings_IndexByte ⟨#[34, 43, 44, 59, 60, 61, 62, 92, 35, 32]⟩ ((U[0]'hU0).toNat : Int) W
      have e : ((U[0]'hU0).toNat : Int).toNat.toUInt8 = U[0]'hU0 := by simp
      rw [e] at this
      exact this
    have hix := ix_signs (U[0]'hU0)
    generalize Lib.indexByte [34, 43, 44, 59, 60, 61, 62, 92, 35, 32] (U[0]'hU0) = ix at CX hix
    by_cases hp : plainEsc (U[0]'hU0)
    · have hix' : 0 ≤ ix := hix.2 hp
      have HE : Hid (esc (s.data.toList.drop i) = some (U[0]'hU0, 1)) := by show _ = _; rw [hcons]; exact esc_plain hp
      clear hix hp hcons hUd
      go_enter Tryz.func44, Tryz.ntmps44
      go_wp2_with fail
      go_quiet (fail)
      go_wp2_with fail
      refine (CX.out _).mono ?_
      rintro e w1 ⟨rfl, rfl⟩
      go_wp2_with fail
      go_ret2
      refine ⟨gr_set (gr_refl _ _) _ _, ?_⟩
      rw [HE.out]
      exact ⟨rfl, sc_inc hS.out _⟩
    · have hix' : ¬ 0 ≤ ix := fun h => hp (hix.1 h)
      have hix2 : decide (0 ≤ ix) = false := by rw [decide_eq_false_iff_not]; exact hix'
      by_cases h2 : U.size < 2
      · have h2' : (U.size : Int) < 2 := by omega
        have HE : Hid (esc (s.data.toList.drop i) = none) := by
          show _ = _
          rw [hcons, List.drop_of_length_le (by rw [kt.size_len]; omega)]
          exact esc_one hp
        clear hix hix' hp hcons hUd
        go_enter Tryz.func44, Tryz.ntmps44
        go_wp2_with fail
        go_quiet (fail)
        go_wp2_with fail
        refine (CX.out _).mono ?_
        rintro e w1 ⟨rfl, rfl⟩
        go_wp2_with fail
        go_ret2
        refine ⟨gr_drewN (gr_refl _ _) _, ?_⟩
        rw [HE.out]
        exact ⟨i, rfl, sc_drewN hS.out _⟩
      · have h2' : ¬ (U.size : Int) < 2 := by omega
        have hU1 : 1 < U.size := by omega
        have h2b : (2 : Int) ≤ (U.size : Int) := by omega
        have hc2 : U.data.toList.drop 1 = U[1] :: U.data.toList.drop 2 := drop_cons U 1 hU1
        rw [hc2] at hcons
        obtain ⟨V, hV⟩ : ∃ V : ByteArray, U.extract 0 2 = V := ⟨_, rfl⟩
        have hVd : V.data.toList = [U[0], U[1]] := by
          rw [← hV, Lib.extract_from_zero, hUd, hcons]; rfl
        have CU : ∀ W, _ := fun W => unhex_any V W (by rw [← kt.size_len, hVd]; simp)
        rw [hVd, unhex_two] at CU
        by_cases hn : b64p.valI (U[0]'hU0) < 0 ∨ b64p.valI (U[1]'hU1) < 0
        · have HE : Hid (esc (s.data.toList.drop i) = none) := by show _ = _; rw [hcons]; exact esc_nohex hp hn
          rw [if_pos hn] at CU
          have HCU := Lib.hid CU
          clear hix hix' hp hcons hUd hc2 hVd hn CU
          go_enter Tryz.func44, Tryz.ntmps44
          go_wp2_with fail
          go_quiet (fail)
          go_wp2_with fail
          refine (CX.out _).mono ?_
          rintro e w1 ⟨rfl, rfl⟩
          go_wp2_with fail
          refine (HCU.out _).mono ?_
          rintro e w2 ⟨rfl, hB2⟩
          unfold b64p.uhV
          go_wp2_with fail
          go_ret2
          refine ⟨gr_trans (gr_drewN (gr_refl _ _) _) (gr_below _ hB2), ?_⟩
          rw [HE.out]
          exact ⟨i, rfl, sc_below (sc_drewN hS.out _) hB2⟩
        · have HE : Hid (esc (s.data.toList.drop i) = some (UInt8.ofNat (16 * b64p.valI (U[0]'hU0) + b64p.valI (U[1]'hU1)).toNat, 2)) := by show _ = _; rw [hcons]; exact esc_hex hp hn
          rw [if_neg hn] at CU
          generalize UInt8.ofNat (16 * b64p.valI (U[0]'hU0) + b64p.valI (U[1]'hU1)).toNat = x at CU HE
          have HCU := Lib.hid CU
          clear hix hix' hp hcons hUd hc2 hVd hn CU
          go_enter Tryz.func44, Tryz.ntmps44
          go_wp2_with fail
          go_quiet (fail)
          go_wp2_with fail
          refine (CX.out _).mono ?_
          rintro e w1 ⟨rfl, rfl⟩
          go_wp2_with fail
          refine (HCU.out _).mono ?_
          rintro e w2 ⟨rfl, hB2⟩
          have HS2 := Lib.hid (sc_below (sc_drewN hS.out _) hB2)
          have HG2 := Lib.hid (gr_trans (gr_drewN (gr_refl w (some b)) _) (gr_below _ hB2))
          obtain ⟨d0, d1, e1, hb2⟩ := sc_cells HS2.out
          clear hB2 c0 c1 f1
          unfold b64p.uhV
          go_wp2_with fail
          go_ret2
          refine ⟨gr_set0 HG2.out _, ?_⟩
          rw [HE.out]
          exact ⟨rfl, sc_two0 HS2.out⟩
end dnw
end Go.Proofs.YtjjbmhndakmkbaaGreatDoor
