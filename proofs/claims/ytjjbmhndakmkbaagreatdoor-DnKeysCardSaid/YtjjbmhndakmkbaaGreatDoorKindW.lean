/- The walks of lower, and of the scanner's kind: a type and the = behind it. -/
import Derived.Test.YtjjbmhndakmkbaaGreatDoorLowP
import Derived.Test.YtjjbmhndakmkbaaGreatDoorScanW
import Derived.Test.YtjjbmhndakmkbaaGreatDoorTypeW
import Derived.Lib.LaidU8
import Derived.Deep.MidRow
namespace Go.Proofs.YtjjbmhndakmkbaaGreatDoor
open Go.RowKit
namespace dnw
open dnp
set_option linter.unusedVariables false
set_option linter.unusedSimpArgs false
/-- the library's tables -/
def Tabs (w : World) : Prop := Lib.Utf8Tabs 1 2 w
theorem tabs_below {w w' : World} (h : Tabs w) (hb : Below w.heap.size w w') : Tabs w' := Utf8Tabs_below h hb
theorem lower1_any (W : World) (x : Nat) (hx : x ≤ 1114111) : Calls Tryz.prog 64 #[.int .i32 (x : Int)] W fun e w' => e = .returned (.int .i32 (lowf (x : Int))) ∧ ∃ q, w' = W.drewN q := by
  obtain ⟨r, hr⟩ : ∃ r : Int, r = (x : Int) := ⟨_, rfl⟩
  have h0 : 0 ≤ r := by omega
  have h1 : r ≤ 1114111 := by omega
  rw [← hr]
  clear hr
  unfold lowf
  by_cases h : 65 ≤ r ∧ r ≤ 90
  · rw [if_pos h]
    obtain ⟨h2, h3⟩ := h
    go_enter Tryz.func64, Tryz.ntmps64
    go_wp2_with fail
    go_ret
    exact ⟨rfl, 0, rfl⟩
  · rw [if_neg h]
    by_cases h2 : 65 ≤ r
    · have h3 : ¬ r ≤ 90 := by omega
      have h3' : decide (r ≤ 90) = false := by rw [decide_eq_false_iff_not]; exact h3
      clear h h3
      go_enter Tryz.func64, Tryz.ntmps64
      go_wp2_with fail
      go_ret
      exact ⟨rfl, 0, rfl⟩
    · clear h
      go_enter Tryz.func64, Tryz.ntmps64
      go_wp2_with fail
      go_ret
      exact ⟨rfl, 0, rfl⟩
theorem lower_any (s : ByteArray) (w : World) (hs : s.size ≤ 100000) (hT : Hid (Tabs w)) : Calls Tryz.prog 42 #[.string s] w fun e w' => e = .returned (.string ⟨(Lib.mapD lowf s.data.toList).toArray⟩) ∧ Below w.heap.size w w' := by
  have C := Lib.hid (Tryz.strings_Map_runes 64 #[] (enters_of Tryz.func64 (by kernel_rfl) rfl) lowf s w (by omega) (fun W x hx _ => lower1_any W x hx) (fun x hx => by unfold lowf; split <;> omega) hT.out)
  go_enter Tryz.func42, Tryz.ntmps42
  go_wp2_with fail
  refine C.out.mono ?_
  rintro e w1 ⟨rfl, hB1⟩
  go_wp2_with fail
  go_ret
  exact ⟨rfl, hB1⟩
/-- what kind leaves -/
def KindE (b : Nat) (s : ByteArray) (i : Nat) (w : World) (e : Ending) (w' : World) : Prop :=
  w.grownBy w' (some b) ∧ match kindP (s.data.toList.drop i) with
    | none => ∃ j, e = .returned (.tuple #[.string ⟨#[]⟩, .bool false]) ∧ Sc w' b s j
    | some (t, r) => ∃ j, e = .returned (.tuple #[.string ⟨t.toArray⟩, .bool true]) ∧ i < j ∧ j ≤ s.size ∧ s.data.toList.drop j = r ∧ Sc w' b s j
def tpB (c : UInt8) : Bool := decide (c ≠ 61 ∧ c ≠ 32)
theorem u8_ne {c : UInt8} {n : Nat} (hn : n < 256) (h : ¬ (c.toNat : Int) = (n : Int)) : c ≠ UInt8.ofNat n := by
  rintro rfl
  apply h
  rw [UInt8.toNat_ofNat']
  omega
theorem u8_eq {c : UInt8} {n : Nat} (hn : n < 256) (h : (c.toNat : Int) = (n : Int)) : c = UInt8.ofNat n := by
  apply UInt8.toNat_inj.1
  rw [UInt8.toNat_ofNat']
  omega
theorem tpB_iff (c : UInt8) : tpB c = true ↔ ¬ (c.toNat : Int) = 61 ∧ ¬ (c.toNat : Int) = 32 := by
  unfold tpB
  rw [decide_eq_true_iff]
  constructor
  · rintro ⟨h1, h2⟩
    exact ⟨fun e => h1 (u8_eq (n := 61) (by omega) e), fun e => h2 (u8_eq (n := 32) (by omega) e)⟩
  · rintro ⟨h1, h2⟩
    exact ⟨u8_ne (n := 61) (by omega) h1, u8_ne (n := 32) (by omega) h2⟩
def kTail (T : List UInt8) : List UInt8 → Option (List UInt8 × List UInt8)
  | [] => none
  | c :: r => if c = 61 ∧ typeOK (lowL T) = true then some (lowL T, r) else none
theorem kindP_eq (l : List UInt8) (T l3 : List UInt8) (hT : (l.dropWhile (· = 32)).takeWhile tpB = T) (h3 : ((l.dropWhile (· = 32)).dropWhile tpB).dropWhile (· = 32) = l3) :
    kindP l = kTail T l3 := by
  subst hT h3
  rfl
/-- how far the type's loop has gone -/
def TypeAt (s : ByteArray) (j1 j : Nat) : Prop := (s.data.toList.drop j1).takeWhile tpB = (s.data.toList.drop j1).take (j - j1) ++ (s.data.toList.drop j).takeWhile tpB ∧ (s.data.toList.drop j1).dropWhile tpB = (s.data.toList.drop j).dropWhile tpB
theorem typeAt_on {s : ByteArray} {j1 j : Nat} (h : TypeAt s j1 j) (h1 : j1 ≤ j) (hj : j < s.size) (hc : tpB s[j] = true) : TypeAt s j1 (j + 1) := by
  unfold TypeAt at *
  rw [drop_cons s j hj, List.takeWhile_cons, if_pos hc, List.dropWhile_cons, if_pos hc] at h
  refine ⟨?_, h.2⟩
  rw [h.1]
  have e : (s.data.toList.drop j1).take (j + 1 - j1) = (s.data.toList.drop j1).take (j - j1) ++ [s[j]] := by
    have hl : j - j1 < (s.data.toList.drop j1).length := by simp; omega
    rw [show j + 1 - j1 = (j - j1) + 1 from by omega, List.take_succ_eq_append_getElem hl]
    congr 2
    rw [List.getElem_drop]
    simp only [show j1 + (j - j1) = j from by omega]
    rfl
  rw [e]
  simp
theorem typeAt_off {s : ByteArray} {j1 j : Nat} (h : TypeAt s j1 j) (hc : ∀ c t, s.data.toList.drop j = c :: t → tpB c = false) : (s.data.toList.drop j1).takeWhile tpB = (s.data.toList.drop j1).take (j - j1) ∧ (s.data.toList.drop j1).dropWhile tpB = s.data.toList.drop j := by
  unfold TypeAt at h
  rw [dropW_id _ _ hc] at h
  refine ⟨?_, h.2⟩
  have e : (s.data.toList.drop j).takeWhile tpB = [] := by
    cases hd : s.data.toList.drop j with
    | nil => rfl
    | cons c t => rw [List.takeWhile_cons, if_neg (by rw [hc c t hd]; simp)]
  rw [h.1, e, List.append_nil]
theorem gr_trans {w w1 w2 : World} {k : Option Nat} (h : w.grownBy w1 k) (h2 : w1.grownBy w2 k) : w.grownBy w2 k := kt.grown_trans h h2
theorem kindE_none {b i j : Nat} {s : ByteArray} {w w' : World} {T l3 : List UInt8} (hg : w.grownBy w' (some b)) (hs : Sc w' b s j) (hT : ((s.data.toList.drop i).dropWhile (· = 32)).takeWhile tpB = T) (h3 : (((s.data.toList.drop i).dropWhile (· = 32)).dropWhile tpB).dropWhile (· = 32) = l3)
    (h : ∀ c r, l3 = c :: r → ¬ (c = 61 ∧ typeOK (lowL T) = true)) : KindE b s i w (.returned (.tuple #[.string ⟨#[]⟩, .bool false])) w' := by
  refine ⟨hg, ?_⟩
  rw [kindP_eq _ T l3 hT h3]
  have e : kTail T l3 = none := by
    cases l3 with
    | nil => rfl
    | cons c r => exact if_neg (h c r rfl)
  rw [e]
  exact ⟨j, rfl, hs⟩
theorem kindE_some {b i j : Nat} {s : ByteArray} {w w' : World} {T r : List UInt8} (hg : w.grownBy w' (some b)) (hs : Sc w' b s j) (hT : ((s.data.toList.drop i).dropWhile (· = 32)).takeWhile tpB = T) (h3 : (((s.data.toList.drop i).dropWhile (· = 32)).dropWhile tpB).dropWhile (· = 32) = 61 :: r)
    (h : typeOK (lowL T) = true) (hij : i < j) (hj : j ≤ s.size) (hr : s.data.toList.drop j = r) : KindE b s i w (.returned (.tuple #[.string ⟨(lowL T).toArray⟩, .bool true])) w' := by
  refine ⟨hg, ?_⟩
  rw [kindP_eq _ T _ hT h3]
  have e : kTail T (61 :: r) = some (lowL T, r) := if_pos ⟨rfl, h⟩
  rw [e]
  exact ⟨j, rfl, hij, hj, hr, hs⟩
set_option maxRecDepth 100000 in
set_option maxHeartbeats 4000000 in
theorem kind_any (b : Nat) (s : ByteArray) (i : Nat) (w : World) (hS : Hid (Sc w b s i)) (hi : i ≤ s.size) (hs : s.size ≤ 10000) (hT : Hid (Tabs w)) (hTb : Hid (∀ w', w.grownBy w' (some b) → Tabs w')) :
    Calls Tryz.prog 27 #[.pointer (some ⟨b, 0, none⟩)] w fun e w' => KindE b s i w e w' := by
  have CB := Lib.hid (blanks_any b s i w hS hi (by omega))
  go_enter Tryz.func27, Tryz.ntmps27
  go_wp2_with fail
  refine CB.out.mono ?_
  rintro e w1 ⟨rfl, j1, hij1, hj1, hD1, hS1, hG1⟩
  obtain ⟨c0, c1, f1, hb1⟩ := sc_cells hS1
  have HS1 := Lib.hid hS1
  have HD1 := Lib.hid hD1
  clear hS1 hD1 CB
  go_wp2_with fail
  clear c0 c1 f1
  go_loopw [] (fun wr => ∃ j, j1 ≤ j ∧ j ≤ s.size ∧ Hid (TypeAt s j1 j) ∧ Hid (Sc wr b s j) ∧ w.grownBy wr (some b)) (fun wr => s.size - posOf wr b)
  case atStart => exact ⟨j1, Nat.le_refl _, hj1, ⟨by simp, rfl⟩, HS1, hG1⟩
  case round =>
    obtain ⟨j, hj1j, hj, hTA, hC, hG⟩ := hrel
    obtain ⟨c0, c1, f1, hb⟩ := sc_cells hC.out
    have hjI : (j1 : Int) ≤ (j : Int) := by omega
    by_cases hon : ∃ hlt : j < s.size, tpB (s[j]'hlt) = true
    · obtain ⟨hlt, hc⟩ := hon
      have hlt' : (j : Int) < (s.size : Int) := by omega
      have HTA := Lib.hid (typeAt_on hTA.out hj1j hlt hc)
      obtain ⟨q1, q2⟩ := (tpB_iff _).1 hc
      have q1a : (((s[j]'hlt).toNat : Int) == 61) = false := by rw [beq_eq_false_iff_ne]; exact q1
      have q1b : (((s[j]'hlt).toNat : Int) != 61) = true := by rw [bne_iff_ne]; exact q1
      have q2a : (((s[j]'hlt).toNat : Int) == 32) = false := by rw [beq_eq_false_iff_ne]; exact q2
      have q2b : (((s[j]'hlt).toNat : Int) != 32) = true := by rw [bne_iff_ne]; exact q2
      clear hc q1 q2
      go_wp2_with fail
      go_quiet (fail)
      go_wp2_with fail
      go_roundw
      case rel => exact ⟨j + 1, by omega, by omega, HTA, sc_inc hC.out nq, gr_set hG nq _⟩
      case measure => rw [posOf_sc hC.out, posOf_sc (sc_inc hC.out nq)]; omega
    · have hex : ∀ c t, s.data.toList.drop j = c :: t → tpB c = false := by
        intro c t hct
        by_cases hlt : j < s.size
        · rw [drop_cons s j hlt] at hct
          have hcc : s[j] = c := by simp only [List.cons.injEq] at hct; exact hct.1
          rw [← hcc]
          by_cases e : tpB s[j] = true
          · exact absurd ⟨hlt, e⟩ hon
          · simpa using e
        · rw [List.drop_of_length_le (by simp; omega)] at hct
          cases hct
      obtain ⟨hT1, hT2⟩ := typeAt_off hTA.out hex
      rw [HD1.out] at hT1 hT2
      obtain ⟨U, hU⟩ : ∃ U : ByteArray, U = s.extract j1 j := ⟨_, rfl⟩
      have hUd : U.data.toList = (s.data.toList.drop j1).take (j - j1) := by rw [hU, Lib.extract_data]
      rw [← HD1.out] at hT1
      rw [← hUd] at hT1
      rw [HD1.out] at hT1
      have hUs : U.size ≤ 10000 := by rw [← kt.size_len, hUd, List.length_take, List.length_drop, kt.size_len]; omega
      obtain ⟨lt1, lt2⟩ := low_type U.data.toList
      have hml := mapGoD_len lowf _ U.data.toList (Nat.le_refl _)
      rw [kt.size_len] at hml
      have CL : Hid (∀ W : World, Hid (Tabs W) → Calls Tryz.prog 42 #[.string U] W fun e w' => e = .returned (.string ⟨(Lib.mapD lowf U.data.toList).toArray⟩) ∧ Below W.heap.size W w') := fun W h => lower_any U W (by omega) h
      obtain ⟨V, hV⟩ : ∃ V : ByteArray, V = ⟨(Lib.mapD lowf U.data.toList).toArray⟩ := ⟨_, rfl⟩
      have hVd : V.data.toList = Lib.mapD lowf U.data.toList := by rw [hV]
      have hVs : V.size ≤ 40000 := by rw [← kt.size_len, hVd]; omega
      rw [← hV] at CL
      have LR : ∀ W, _ := fun W => rightType_any V W (by omega)
      rw [hVd, lt1] at LR
      have HLT2 : Hid (typeOK (lowL U.data.toList) = true → V = ⟨(lowL U.data.toList).toArray⟩) := fun h => by rw [hV, lt2 h]
      have CLD : Hid (∀ n, Calls Tryz.prog 42 #[.string U] (wr.drewN n) fun e w' => e = .returned (.string V) ∧ Below (wr.drewN n).heap.size (wr.drewN n) w') := fun n => CL.out _ (Lib.hid (hTb.out _ (gr_drewN hG n)))
      have HT1 := Lib.hid hT1
      have HT2 := Lib.hid hT2
      have hex3 : j = s.size ∨ (∃ hlt : j < s.size, ((s[j]'hlt).toNat : Int) = 61) ∨ (∃ hlt : j < s.size, ((s[j]'hlt).toNat : Int) = 32) := by
        by_cases hlt : j < s.size
        · right
          by_cases e1 : ((s[j]'hlt).toNat : Int) = 61
          · exact Or.inl ⟨hlt, e1⟩
          · by_cases e2 : ((s[j]'hlt).toNat : Int) = 32
            · exact Or.inr ⟨hlt, e2⟩
            · exact absurd ⟨hlt, (tpB_iff _).2 ⟨e1, e2⟩⟩ hon
        · left; omega
      have HUS := Lib.hid hUs
      have HVS := Lib.hid hVs
      clear hT1 hT2 hUd lt1 lt2 hml hV hVd hex hon hUs hVs
      have hU' := hU.symm
      clear hU
      have hjj : (j : Int) ≤ (s.size : Int) := by omega
      have hj0 : (0 : Int) ≤ (j : Int) := by omega
      have hj10 : (0 : Int) ≤ (j1 : Int) := by omega
      have htn : ((j : Int)).toNat = j := by omega
      have htn1 : ((j1 : Int)).toNat = j1 := by omega
      rcases hex3 with h0 | ⟨hlt, h0⟩ | ⟨hlt, h0⟩
      · have h0' : decide (j < s.size) = false := by rw [decide_eq_false_iff_not]; omega
        clear h0
        go_wp2_with fail
        go_quiet (fail)
        clear h0'
        go_wp2_with fail
        go_region_held3 (fun W => W.cell? ⟨b, 0, none⟩ = some (.string s) ∧ W.cell? ⟨b, 1, none⟩ = some (.int .i64 (j : Int)) ∧ Hid (Sc W b s j)) (first | exact ⟨c0, c1, hC⟩ | exact ⟨(sc_cells (sc_below (sc_drewN hC.out _) hBn)).1, (sc_cells (sc_below (sc_drewN hC.out _) hBn)).2.1, sc_below (sc_drewN hC.out _) hBn⟩)
          ((go_at_call 42; refine (CLD.out _).mono ?_; rintro e w2 ⟨rfl, hBn⟩))
        have HS2 := Lib.hid (sc_below (sc_drewN hC.out _) hBn)
        have HG2 := Lib.hid (gr_trans (gr_drewN hG _) (gr_below (some b) hBn))
        clear hBn c0 c1 f1
        have CB2 := Lib.hid (blanks_any b s j w2 HS2 hj (by omega))
        go_wp2_with fail
        refine CB2.out.mono ?_
        rintro e w3 ⟨rfl, j3, hij3, hj3, hD3, hS3, hG3⟩
        have HS3 := Lib.hid hS3
        have HG3 := Lib.hid (gr_trans HG2.out hG3)
        rw [← HT2.out] at hD3
        have HD3 := Lib.hid hD3
        obtain ⟨d0, d1, g1, hb3⟩ := sc_cells hS3
        clear hS3 hG3 hD3 CB2
        by_cases hl3 : j3 < s.size
        · have hl3' : decide (s.size ≤ j3) = false := by rw [decide_eq_false_iff_not]; omega
          have hl3i : (j3 : Int) < (s.size : Int) := by omega
          have hdc := drop_cons s j3 hl3
          rw [HD3.out] at hdc
          have HDC := Lib.hid hdc
          clear hdc
          by_cases h61 : ((s[j3]'hl3).toNat : Int) = 61
          · have q3a : (((s[j3]'hl3).toNat : Int) == 61) = true := by rw [beq_iff_eq]; exact h61
            have q3b : (((s[j3]'hl3).toNat : Int) != 61) = false := by rw [bne_eq_false_iff_eq]; exact h61
            have h61' : s[j3] = 61 := u8_eq (n := 61) (by omega) h61
            rw [h61'] at HDC
            by_cases hty : typeOK (lowL U.data.toList) = true
            · rw [hty] at LR
              have HLR := Lib.hid LR
              have HV := Lib.hid (HLT2.out hty)
              have HE : Hid (∀ w', w.grownBy w' (some b) → Sc w' b s (j3 + 1) → KindE b s i w (.returned (.tuple #[.string V, .bool true])) w') := by
                intro w' hg hs'
                rw [HV.out]
                exact kindE_some hg hs' HT1.out HDC.out hty (by omega) (by omega) rfl
              clear LR h61 h61' hty HV
              go_wp2_with fail
              go_quiet ((go_at_call 38; exact Calls.quiet_of_same (kt.flip (HLR.out _))))
              go_wp2_with fail
              go_ret2
              exact HE.out _ (gr_set HG3.out _ _) (sc_inc HS3.out _)
            · have hty' : typeOK (lowL U.data.toList) = false := by simpa using hty
              rw [hty'] at LR
              have HLR := Lib.hid LR
              have HE : Hid (∀ w', w.grownBy w' (some b) → Sc w' b s j3 → KindE b s i w (.returned (.tuple #[.string ⟨#[]⟩, .bool false])) w') :=
                fun w' hg hs' => kindE_none hg hs' HT1.out HDC.out (fun c r _ h => hty h.2)
              clear LR h61 h61' hty hty'
              go_wp2_with fail
              go_quiet ((go_at_call 38; exact Calls.quiet_of_same (kt.flip (HLR.out _))))
              go_wp2_with fail
              go_ret2
              exact HE.out _ (gr_drewN HG3.out _) (sc_drewN HS3.out _)
          · have q3a : (((s[j3]'hl3).toNat : Int) == 61) = false := by rw [beq_eq_false_iff_ne]; exact h61
            have q3b : (((s[j3]'hl3).toNat : Int) != 61) = true := by rw [bne_iff_ne]; exact h61
            have HE : Hid (∀ w', w.grownBy w' (some b) → Sc w' b s j3 → KindE b s i w (.returned (.tuple #[.string ⟨#[]⟩, .bool false])) w') :=
              fun w' hg hs' => kindE_none hg hs' HT1.out HDC.out (fun c r hcr h => by
                simp only [List.cons.injEq] at hcr
                exact u8_ne (n := 61) (by omega) h61 (hcr.1.trans h.1))
            clear h61 LR
            go_wp2_with fail
            go_quiet (fail)
            go_wp2_with fail
            go_ret2
            exact HE.out _ (gr_drewN HG3.out _) (sc_drewN HS3.out _)
        · have hl3' : decide (s.size ≤ j3) = true := by rw [decide_eq_true_iff]; omega
          have hd0 : s.data.toList.drop j3 = [] := List.drop_of_length_le (by simp; omega)
          rw [HD3.out] at hd0
          have HD0 := Lib.hid hd0
          have HE : Hid (∀ w', w.grownBy w' (some b) → Sc w' b s j3 → KindE b s i w (.returned (.tuple #[.string ⟨#[]⟩, .bool false])) w') :=
            fun w' hg hs' => kindE_none hg hs' HT1.out HD0.out (fun c r hcr => by cases hcr)
          clear hd0 LR
          go_wp2_with fail
          go_quiet (fail)
          go_wp2_with fail
          go_ret2
          exact HE.out _ (gr_drewN HG3.out _) (sc_drewN HS3.out _)
      · have hlt' : (j : Int) < (s.size : Int) := by omega
        have q1a : (((s[j]'hlt).toNat : Int) == 61) = true := by rw [beq_iff_eq]; exact h0
        have q1b : (((s[j]'hlt).toNat : Int) != 61) = false := by rw [bne_eq_false_iff_eq]; exact h0
        clear h0
        go_wp2_with fail
        go_quiet (fail)
        clear q1a q1b
        go_wp2_with fail
        go_region_held3 (fun W => W.cell? ⟨b, 0, none⟩ = some (.string s) ∧ W.cell? ⟨b, 1, none⟩ = some (.int .i64 (j : Int)) ∧ Hid (Sc W b s j)) (first | exact ⟨c0, c1, hC⟩ | exact ⟨(sc_cells (sc_below (sc_drewN hC.out _) hBn)).1, (sc_cells (sc_below (sc_drewN hC.out _) hBn)).2.1, sc_below (sc_drewN hC.out _) hBn⟩)
          ((go_at_call 42; refine (CLD.out _).mono ?_; rintro e w2 ⟨rfl, hBn⟩))
        have HS2 := Lib.hid (sc_below (sc_drewN hC.out _) hBn)
        have HG2 := Lib.hid (gr_trans (gr_drewN hG _) (gr_below (some b) hBn))
        clear hBn c0 c1 f1
        have CB2 := Lib.hid (blanks_any b s j w2 HS2 hj (by omega))
        go_wp2_with fail
        refine CB2.out.mono ?_
        rintro e w3 ⟨rfl, j3, hij3, hj3, hD3, hS3, hG3⟩
        have HS3 := Lib.hid hS3
        have HG3 := Lib.hid (gr_trans HG2.out hG3)
        rw [← HT2.out] at hD3
        have HD3 := Lib.hid hD3
        obtain ⟨d0, d1, g1, hb3⟩ := sc_cells hS3
        clear hS3 hG3 hD3 CB2
        by_cases hl3 : j3 < s.size
        · have hl3' : decide (s.size ≤ j3) = false := by rw [decide_eq_false_iff_not]; omega
          have hl3i : (j3 : Int) < (s.size : Int) := by omega
          have hdc := drop_cons s j3 hl3
          rw [HD3.out] at hdc
          have HDC := Lib.hid hdc
          clear hdc
          by_cases h61 : ((s[j3]'hl3).toNat : Int) = 61
          · have q3a : (((s[j3]'hl3).toNat : Int) == 61) = true := by rw [beq_iff_eq]; exact h61
            have q3b : (((s[j3]'hl3).toNat : Int) != 61) = false := by rw [bne_eq_false_iff_eq]; exact h61
            have h61' : s[j3] = 61 := u8_eq (n := 61) (by omega) h61
            rw [h61'] at HDC
            by_cases hty : typeOK (lowL U.data.toList) = true
            · rw [hty] at LR
              have HLR := Lib.hid LR
              have HV := Lib.hid (HLT2.out hty)
              have HE : Hid (∀ w', w.grownBy w' (some b) → Sc w' b s (j3 + 1) → KindE b s i w (.returned (.tuple #[.string V, .bool true])) w') := by
                intro w' hg hs'
                rw [HV.out]
                exact kindE_some hg hs' HT1.out HDC.out hty (by omega) (by omega) rfl
              clear LR h61 h61' hty HV
              go_wp2_with fail
              go_quiet ((go_at_call 38; exact Calls.quiet_of_same (kt.flip (HLR.out _))))
              go_wp2_with fail
              go_ret2
              exact HE.out _ (gr_set HG3.out _ _) (sc_inc HS3.out _)
            · have hty' : typeOK (lowL U.data.toList) = false := by simpa using hty
              rw [hty'] at LR
              have HLR := Lib.hid LR
              have HE : Hid (∀ w', w.grownBy w' (some b) → Sc w' b s j3 → KindE b s i w (.returned (.tuple #[.string ⟨#[]⟩, .bool false])) w') :=
                fun w' hg hs' => kindE_none hg hs' HT1.out HDC.out (fun c r _ h => hty h.2)
              clear LR h61 h61' hty hty'
              go_wp2_with fail
              go_quiet ((go_at_call 38; exact Calls.quiet_of_same (kt.flip (HLR.out _))))
              go_wp2_with fail
              go_ret2
              exact HE.out _ (gr_drewN HG3.out _) (sc_drewN HS3.out _)
          · have q3a : (((s[j3]'hl3).toNat : Int) == 61) = false := by rw [beq_eq_false_iff_ne]; exact h61
            have q3b : (((s[j3]'hl3).toNat : Int) != 61) = true := by rw [bne_iff_ne]; exact h61
            have HE : Hid (∀ w', w.grownBy w' (some b) → Sc w' b s j3 → KindE b s i w (.returned (.tuple #[.string ⟨#[]⟩, .bool false])) w') :=
              fun w' hg hs' => kindE_none hg hs' HT1.out HDC.out (fun c r hcr h => by
                simp only [List.cons.injEq] at hcr
                exact u8_ne (n := 61) (by omega) h61 (hcr.1.trans h.1))
            clear h61 LR
            go_wp2_with fail
            go_quiet (fail)
            go_wp2_with fail
            go_ret2
            exact HE.out _ (gr_drewN HG3.out _) (sc_drewN HS3.out _)
        · have hl3' : decide (s.size ≤ j3) = true := by rw [decide_eq_true_iff]; omega
          have hd0 : s.data.toList.drop j3 = [] := List.drop_of_length_le (by simp; omega)
          rw [HD3.out] at hd0
          have HD0 := Lib.hid hd0
          have HE : Hid (∀ w', w.grownBy w' (some b) → Sc w' b s j3 → KindE b s i w (.returned (.tuple #[.string ⟨#[]⟩, .bool false])) w') :=
            fun w' hg hs' => kindE_none hg hs' HT1.out HD0.out (fun c r hcr => by cases hcr)
          clear hd0 LR
          go_wp2_with fail
          go_quiet (fail)
          go_wp2_with fail
          go_ret2
          exact HE.out _ (gr_drewN HG3.out _) (sc_drewN HS3.out _)
      · have hlt' : (j : Int) < (s.size : Int) := by omega
        have q1a : (((s[j]'hlt).toNat : Int) == 61) = false := by rw [beq_eq_false_iff_ne]; omega
        have q1b : (((s[j]'hlt).toNat : Int) != 61) = true := by rw [bne_iff_ne]; omega
        have q2a : (((s[j]'hlt).toNat : Int) == 32) = true := by rw [beq_iff_eq]; exact h0
        have q2b : (((s[j]'hlt).toNat : Int) != 32) = false := by rw [bne_eq_false_iff_eq]; exact h0
        clear h0
        go_wp2_with fail
        go_quiet (fail)
        clear q1a q1b q2a q2b
        go_wp2_with fail
        go_region_held3 (fun W => W.cell? ⟨b, 0, none⟩ = some (.string s) ∧ W.cell? ⟨b, 1, none⟩ = some (.int .i64 (j : Int)) ∧ Hid (Sc W b s j)) (first | exact ⟨c0, c1, hC⟩ | exact ⟨(sc_cells (sc_below (sc_drewN hC.out _) hBn)).1, (sc_cells (sc_below (sc_drewN hC.out _) hBn)).2.1, sc_below (sc_drewN hC.out _) hBn⟩)
          ((go_at_call 42; refine (CLD.out _).mono ?_; rintro e w2 ⟨rfl, hBn⟩))
        have HS2 := Lib.hid (sc_below (sc_drewN hC.out _) hBn)
        have HG2 := Lib.hid (gr_trans (gr_drewN hG _) (gr_below (some b) hBn))
        clear hBn c0 c1 f1
        have CB2 := Lib.hid (blanks_any b s j w2 HS2 hj (by omega))
        go_wp2_with fail
        refine CB2.out.mono ?_
        rintro e w3 ⟨rfl, j3, hij3, hj3, hD3, hS3, hG3⟩
        have HS3 := Lib.hid hS3
        have HG3 := Lib.hid (gr_trans HG2.out hG3)
        rw [← HT2.out] at hD3
        have HD3 := Lib.hid hD3
        obtain ⟨d0, d1, g1, hb3⟩ := sc_cells hS3
        clear hS3 hG3 hD3 CB2
        by_cases hl3 : j3 < s.size
        · have hl3' : decide (s.size ≤ j3) = false := by rw [decide_eq_false_iff_not]; omega
          have hl3i : (j3 : Int) < (s.size : Int) := by omega
          have hdc := drop_cons s j3 hl3
          rw [HD3.out] at hdc
          have HDC := Lib.hid hdc
          clear hdc
          by_cases h61 : ((s[j3]'hl3).toNat : Int) = 61
          · have q3a : (((s[j3]'hl3).toNat : Int) == 61) = true := by rw [beq_iff_eq]; exact h61
            have q3b : (((s[j3]'hl3).toNat : Int) != 61) = false := by rw [bne_eq_false_iff_eq]; exact h61
            have h61' : s[j3] = 61 := u8_eq (n := 61) (by omega) h61
            rw [h61'] at HDC
            by_cases hty : typeOK (lowL U.data.toList) = true
            · rw [hty] at LR
              have HLR := Lib.hid LR
              have HV := Lib.hid (HLT2.out hty)
              have HE : Hid (∀ w', w.grownBy w' (some b) → Sc w' b s (j3 + 1) → KindE b s i w (.returned (.tuple #[.string V, .bool true])) w') := by
                intro w' hg hs'
                rw [HV.out]
                exact kindE_some hg hs' HT1.out HDC.out hty (by omega) (by omega) rfl
              clear LR h61 h61' hty HV
              go_wp2_with fail
              go_quiet ((go_at_call 38; exact Calls.quiet_of_same (kt.flip (HLR.out _))))
              go_wp2_with fail
              go_ret2
              exact HE.out _ (gr_set HG3.out _ _) (sc_inc HS3.out _)
            · have hty' : typeOK (lowL U.data.toList) = false := by simpa using hty
              rw [hty'] at LR
              have HLR := Lib.hid LR
              have HE : Hid (∀ w', w.grownBy w' (some b) → Sc w' b s j3 → KindE b s i w (.returned (.tuple #[.string ⟨#[]⟩, .bool false])) w') :=
                fun w' hg hs' => kindE_none hg hs' HT1.out HDC.out (fun c r _ h => hty h.2)
              clear LR h61 h61' hty hty'
              go_wp2_with fail
              go_quiet ((go_at_call 38; exact Calls.quiet_of_same (kt.flip (HLR.out _))))
              go_wp2_with fail
              go_ret2
              exact HE.out _ (gr_drewN HG3.out _) (sc_drewN HS3.out _)
          · have q3a : (((s[j3]'hl3).toNat : Int) == 61) = false := by rw [beq_eq_false_iff_ne]; exact h61
            have q3b : (((s[j3]'hl3).toNat : Int) != 61) = true := by rw [bne_iff_ne]; exact h61
            have HE : Hid (∀ w', w.grownBy w' (some b) → Sc w' b s j3 → KindE b s i w (.returned (.tuple #[.string ⟨#[]⟩, .bool false])) w') :=
              fun w' hg hs' => kindE_none hg hs' HT1.out HDC.out (fun c r hcr h => by
                simp only [List.cons.injEq] at hcr
                exact u8_ne (n := 61) (by omega) h61 (hcr.1.trans h.1))
            clear h61 LR
            go_wp2_with fail
            go_quiet (fail)
            go_wp2_with fail
            go_ret2
            exact HE.out _ (gr_drewN HG3.out _) (sc_drewN HS3.out _)
        · have hl3' : decide (s.size ≤ j3) = true := by rw [decide_eq_true_iff]; omega
          have hd0 : s.data.toList.drop j3 = [] := List.drop_of_length_le (by simp; omega)
          rw [HD3.out] at hd0
          have HD0 := Lib.hid hd0
          have HE : Hid (∀ w', w.grownBy w' (some b) → Sc w' b s j3 → KindE b s i w (.returned (.tuple #[.string ⟨#[]⟩, .bool false])) w') :=
            fun w' hg hs' => kindE_none hg hs' HT1.out HD0.out (fun c r hcr => by cases hcr)
          clear hd0 LR
          go_wp2_with fail
          go_quiet (fail)
          go_wp2_with fail
          go_ret2
          exact HE.out _ (gr_drewN HG3.out _) (sc_drewN HS3.out _)
end dnw
end Go.Proofs.YtjjbmhndakmkbaaGreatDoor
