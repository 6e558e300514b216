/- The walks of layer 13's laws. (Printed by laws_gen.py.) -/
import Derived.Test.YtbadknkhedjfaaaDoorSameW
namespace Go.Proofs.YtbadknkhedjfaaaDoor
open Go.RowKit
namespace prw
open run prp
set_option linter.unusedVariables false
set_option linter.unusedSimpArgs false
theorem below_drewN' {B : Nat} {a w : World} (h : Below B a w) (n : Nat) : Below B a (w.drewN n) := ⟨h.os, h.tape, h.output, h.size, h.block⟩
theorem awake_true (w : World) (hE : Hid (Env w)) : Calls Tryd.prog 8 #[] w fun e w' => e = .returned (.bool true) ∧ Below w.heap.size w w' := by
  have C1 := ready_any ⟨#[32, 32, 65, 98, 9, 67]⟩ true w (by decide) hE
  rw [show readyO (ByteArray.mk #[32, 32, 65, 98, 9, 67]).data.toList true = some [97, 98, 32, 99] from by decide +kernel, pairV_some] at C1
  have H1 := Lib.hid C1
  clear C1
  have H2 : Hid (∀ W, Below w.heap.size w W → Calls Tryd.prog 16 #[.string ⟨#[43, 49, 32, 50, 51, 45, 52, 53]⟩] W fun e w' => e = .returned (.tuple #[.string ⟨#[43, 49, 50, 51, 52, 53]⟩, .int .i64 0]) ∧ Below W.heap.size W w') := by
    intro W hB
    have C2 := phone_any ⟨#[43, 49, 32, 50, 51, 45, 52, 53]⟩ W (by decide) (Lib.hid (env_below hE.out hB))
    rw [show phoneO (ByteArray.mk #[43, 49, 32, 50, 51, 45, 52, 53]).data.toList = some [43, 49, 50, 51, 52, 53] from by decide +kernel, pairV_some] at C2
    exact C2
  go_enter Tryd.func8, Tryd.ntmps8
  go_wp2_with fail
  refine H1.out.mono ?_
  rintro e w1 ⟨rfl, hB1⟩
  have H3 := Lib.hid (H2.out w1 hB1)
  go_wp2_with fail
  refine H3.out.mono ?_
  rintro e w2 ⟨rfl, hB2⟩
  go_wp2_with fail
  go_ret
  exact ⟨rfl, hB1.trans (hB2.mono hB1.size)⟩

theorem runs_at {w : World} {ao : Option Addr} {m : List Int} {i : Nat} (h : Runs w ao m) (hi : i < m.length) : ∃ b o, ao = some ⟨b, o, none⟩ ∧ w.cell? ⟨b, o + i, none⟩ = some (.int .i32 m[i]) := h i hi
set_option maxHeartbeats 2000000 in
theorem prunes_any (s : ByteArray) (w : World) (hE : Hid (Env w)) (hs : s.size ≤ 140737488351232) : Calls Tryd.prog 3 #[.string s] w fun e w' => e = .returned (.bool true) ∧ Below w.heap.size w w' := by
  have AW := Lib.hid awake_true
  by_cases hlen : 3000 < s.size
  · have hl' : 3000 < (s.size : Int) := by omega
    go_enter Tryd.func3, Tryd.ntmps3
    go_wp2_with fail
    refine (AW.out _ hE).mono ?_
    rintro e w1 ⟨rfl, hB1⟩
    have hE1 := Lib.hid (env_below hE.out hB1)
    have hz1 := hB1.size
    go_wp2_with fail
    go_ret
    exact ⟨rfl, hB1⟩
  · have hl' : ¬ 3000 < (s.size : Int) := by omega
    have CR : ∀ W, _ := fun W => runes_any s W (by omega)
    have CF : ∀ W, _ := fun W => rrunes_any s W (by omega)
    cases hrs : runes s.data.toList with
    | none =>
      rw [hrs] at CR CF
      have HR := Lib.hid CR
      have HF := Lib.hid CF
      clear CR CF hrs
      go_enter Tryd.func3, Tryd.ntmps3
      go_wp2_with fail
      refine (AW.out _ hE).mono ?_
      rintro e w1 ⟨rfl, hB1⟩
      have hE1 := Lib.hid (env_below hE.out hB1)
      have hz1 := hB1.size
      have K2 := Lib.hid (HR.out w1)
      go_wp2_with fail
      refine K2.out.mono ?_
      rintro e w2 ⟨hC2, rfl⟩
      have K3 := Lib.hid (HF.out w2)
      have hB2 := hB1.trans (hC2.mono hB1.size)
      go_wp2_with fail
      refine K3.out.mono ?_
      rintro e w3 ⟨hC3, rfl⟩
      have hB3 := hB2.trans (hC3.mono hB2.size)
      go_wp2_with fail
      go_ret
      exact ⟨rfl, hB3⟩
    | some m =>
      rw [hrs] at CR CF
      have hml := runes_len hrs
      rw [kt.size_len] at hml
      obtain ⟨htx, hok⟩ := runes_text _ _ m (Nat.le_refl _) hrs
      have HOK := Lib.hid hok
      have hst : (⟨(text m).toArray⟩ : ByteArray) = s := by
        apply kt.str_eq
        exact htx
      have HST := Lib.hid hst
      have HR := Lib.hid CR
      have HF := Lib.hid CF
      have hml2 : m.length ≤ 1000000 := by omega
      clear CR CF hrs htx hok hst
      go_enter Tryd.func3, Tryd.ntmps3
      go_wp2_with fail
      refine (AW.out _ hE).mono ?_
      rintro e w1 ⟨rfl, hB1⟩
      have hE1 := Lib.hid (env_below hE.out hB1)
      have hz1 := hB1.size
      have K2 := Lib.hid (HR.out w1)
      go_wp2_with fail
      refine K2.out.mono ?_
      rintro e w2 ⟨hC2, v2, rfl, hO2⟩
      obtain ⟨ao2, cap2, rfl, hS2⟩ := runs_of hO2
      have HS2 := Lib.hid hS2
      have K3 := Lib.hid (HF.out w2)
      have hB2 := hB1.trans (hC2.mono hB1.size)
      clear hO2 hS2
      go_wp2_with fail
      refine K3.out.mono ?_
      rintro e w3 ⟨hC3, v3, rfl, hO3⟩
      obtain ⟨ao3, cap3, rfl, hS3⟩ := runs_of hO3
      have HS3 := Lib.hid hS3
      have HS2' := Lib.hid (runs_below HS2.out hC3)
      have hB3 := hB2.trans (hC3.mono hB2.size)
      clear hO3 hS3 HS2
      go_wp2_with fail
      go_loopw [7] (fun iv wr => ∃ (i : Nat), i ≤ m.length ∧ iv = .int .i64 (i : Int) ∧ Below w3.heap.size w3 wr) (fun iv _ => m.length - (intOf iv).toNat)
      case atStart => exact ⟨0, Nat.zero_le _, rfl, Below.refl _ _⟩
      case round =>
        obtain ⟨i, hi, rfl, hB⟩ := hrel
        by_cases hlt : i < m.length
        · have hlt' : (i : Int) < (m.length : Int) := by omega
          obtain ⟨b, o, hao, hc⟩ := runs_below HS2'.out hB i hlt
          obtain ⟨b', o', hao', hc'⟩ := runs_below HS3.out hB i hlt
          subst hao hao'
          generalize m[i] = x at hc hc'
          go_wp2_with fail
          go_quiet (fail)
          go_wp2_with fail
          go_roundw
          case rel => exact ⟨i + 1, by omega, by go_num, below_drewN' hB nq⟩
          case measure => simp [intOf]; omega
        · obtain rfl : i = m.length := by omega
          have CT := text_any ao2 cap2 m wr hml2 (Lib.hid (runs_below HS2'.out hB)) HOK
          rw [HST.out] at CT
          have KT := Lib.hid CT
          clear CT
          go_wp2_with fail
          refine KT.out.mono ?_
          rintro e w4 ⟨rfl, hC4⟩
          go_wp2_with fail
          go_ret
          exact ⟨rfl, hB3.trans ((hB.trans (hC4.mono hB.size)).mono hB3.size)⟩
set_option maxHeartbeats 2000000 in
theorem pready_any (s : ByteArray) (fold : Bool) (w : World) (hE : Hid (Env w)) (hs : s.size ≤ 140737488351232) : Calls Tryd.prog 4 #[.string s, .bool fold] w fun e w' => e = .returned (.bool true) ∧ Below w.heap.size w w' := by
  have AW := Lib.hid awake_true
  by_cases hlen : 3000 < s.size
  · have hl' : 3000 < (s.size : Int) := by omega
    go_enter Tryd.func4, Tryd.ntmps4
    go_wp2_with fail
    refine (AW.out _ hE).mono ?_
    rintro e w1 ⟨rfl, hB1⟩
    have hE1 := Lib.hid (env_below hE.out hB1)
    have hz1 := hB1.size
    go_wp2_with fail
    go_ret
    exact ⟨rfl, hB1⟩
  · have hl' : ¬ 3000 < (s.size : Int) := by omega
    have pv : ∀ o : Option (List UInt8), ∃ (t : ByteArray) (er : Int), pairV o = .tuple #[.string t, .int .i64 er] := fun o => by cases o <;> exact ⟨_, _, rfl⟩
    have F1 : ∀ W, _ := fun W => map_any s fold W (by omega)
    have F2 : ∀ W, _ := fun W => rmap_any s fold W (by omega)
    have F3 : ∀ W (h : Hid (Env W)), _ := fun W h => ready_any s fold W (by omega) h
    have F4 : ∀ W, _ := fun W => rready_any s fold W (by omega)
    have F5 : ∀ W (h : Hid (Env W)), _ := fun W h => phone_any s W (by omega) h
    have F6 : ∀ W, _ := fun W => rphone_any s W (by omega)
    obtain ⟨t1, e1, h1⟩ := pv (mapO s.data.toList fold)
    obtain ⟨t2, e2, h2⟩ := pv (readyO s.data.toList fold)
    obtain ⟨t3, e3, h3⟩ := pv (phoneO s.data.toList)
    rw [h1] at F1 F2
    rw [h2] at F3 F4
    rw [h3] at F5 F6
    have G1 := Lib.hid F1
    have G2 := Lib.hid F2
    have G3 := Lib.hid F3
    have G4 := Lib.hid F4
    have G5 := Lib.hid F5
    have G6 := Lib.hid F6
    clear pv F1 F2 F3 F4 F5 F6 h1 h2 h3
    go_enter Tryd.func4, Tryd.ntmps4
    go_wp2_with fail
    refine (AW.out _ hE).mono ?_
    rintro e w1 ⟨rfl, hB1⟩
    have hE1 := Lib.hid (env_below hE.out hB1)
    have hz1 := hB1.size
    have K2 := Lib.hid (G1.out w1)
    go_wp2_with fail
    refine K2.out.mono ?_
    rintro e w2 ⟨rfl, hC2⟩
    have hB2 := hB1.trans (hC2.mono hB1.size)
    have hE2 := Lib.hid (env_below hE.out hB2)
    clear K2 hC2
    have K3 := Lib.hid (G2.out w2)
    go_wp2_with fail
    refine K3.out.mono ?_
    rintro e w3 ⟨rfl, hC3⟩
    have hB3 := hB2.trans (hC3.mono hB2.size)
    have hE3 := Lib.hid (env_below hE.out hB3)
    clear K3 hC3
    have K4 := Lib.hid (G3.out w3 hE3)
    go_wp2_with fail
    refine K4.out.mono ?_
    rintro e w4 ⟨rfl, hC4⟩
    have hB4 := hB3.trans (hC4.mono hB3.size)
    have hE4 := Lib.hid (env_below hE.out hB4)
    clear K4 hC4
    have K5 := Lib.hid (G4.out w4)
    go_wp2_with fail
    refine K5.out.mono ?_
    rintro e w5 ⟨rfl, hC5⟩
    have hB5 := hB4.trans (hC5.mono hB4.size)
    have hE5 := Lib.hid (env_below hE.out hB5)
    clear K5 hC5
    have K6 := Lib.hid (G5.out w5 hE5)
    go_wp2_with fail
    refine K6.out.mono ?_
    rintro e w6 ⟨rfl, hC6⟩
    have hB6 := hB5.trans (hC6.mono hB5.size)
    have hE6 := Lib.hid (env_below hE.out hB6)
    clear K6 hC6
    have K7 := Lib.hid (G6.out w6)
    go_wp2_with fail
    refine K7.out.mono ?_
    rintro e w7 ⟨rfl, hC7⟩
    have hB7 := hB6.trans (hC7.mono hB6.size)
    have hE7 := Lib.hid (env_below hE.out hB7)
    clear K7 hC7
    go_wp2_with fail
    go_ret
    exact ⟨rfl, hB7⟩
set_option maxHeartbeats 2000000 in
theorem ponce_any (s : ByteArray) (fold : Bool) (w : World) (hE : Hid (Env w)) (hs : s.size ≤ 140737488351232) : Calls Tryd.prog 5 #[.string s, .bool fold] w fun e w' => e = .returned (.bool true) ∧ Below w.heap.size w w' := by
  have AW := Lib.hid awake_true
  by_cases hlen : 3000 < s.size
  · have hl' : 3000 < (s.size : Int) := by omega
    go_enter Tryd.func5, Tryd.ntmps5
    go_wp2_with fail
    refine (AW.out _ hE).mono ?_
    rintro e w1 ⟨rfl, hB1⟩
    have hE1 := Lib.hid (env_below hE.out hB1)
    have hz1 := hB1.size
    go_wp2_with fail
    go_ret
    exact ⟨rfl, hB1⟩
  · have hl' : ¬ 3000 < (s.size : Int) := by omega
    have F1 : ∀ W (h : Hid (Env W)), _ := fun W h => ready_any s fold W (by omega) h
    cases hrs : readyO s.data.toList fold with
    | none =>
      rw [hrs] at F1
      have G1 := Lib.hid F1
      clear F1 hrs
      go_enter Tryd.func5, Tryd.ntmps5
      go_wp2_with fail
      refine (AW.out _ hE).mono ?_
      rintro e w1 ⟨rfl, hB1⟩
      have hE1 := Lib.hid (env_below hE.out hB1)
      have hz1 := hB1.size
      have K2 := Lib.hid (G1.out w1 hE1)
      go_wp2_with fail
      refine K2.out.mono ?_
      rintro e w2 ⟨rfl, hC2⟩
      have hB2 := hB1.trans (hC2.mono hB1.size)
      have hE2 := Lib.hid (env_below hE.out hB2)
      clear K2 hC2
      unfold pairV
      go_wp2_with fail
      go_ret
      exact ⟨rfl, hB2⟩
    | some t =>
      rw [hrs, pairV_some] at F1
      have htl := readyO_len hrs
      rw [kt.size_len] at htl
      obtain ⟨ho1, ho2⟩ := once hrs
      obtain ⟨ta, hta⟩ : ∃ ta : ByteArray, ta = ⟨t.toArray⟩ := ⟨_, rfl⟩
      have htd : ta.data.toList = t := by rw [hta]
      have hts : ta.size ≤ s.size := by rw [← kt.size_len, htd]; exact htl
      have hts' : (ta.size : Int) ≤ (s.size : Int) := by omega
      have F2 : ∀ W (h : Hid (Env W)), _ := fun W h => ready_any ta fold W (by omega) h
      have F3 : ∀ W (h : Hid (Env W)), _ := fun W h => same_any s ta W (by omega) (by omega) h
      rw [htd] at F2 F3
      rw [ho1, pairV_some, ← hta] at F2
      rw [ho2] at F3
      rw [← hta] at F1
      have G1 := Lib.hid F1
      have G2 := Lib.hid F2
      have G3 := Lib.hid F3
      clear F1 F2 F3 hrs ho1 ho2 htd htl hta
      go_enter Tryd.func5, Tryd.ntmps5
      go_wp2_with fail
      refine (AW.out _ hE).mono ?_
      rintro e w1 ⟨rfl, hB1⟩
      have hE1 := Lib.hid (env_below hE.out hB1)
      have hz1 := hB1.size
      have K2 := Lib.hid (G1.out w1 hE1)
      go_wp2_with fail
      refine K2.out.mono ?_
      rintro e w2 ⟨rfl, hC2⟩
      have hB2 := hB1.trans (hC2.mono hB1.size)
      have hE2 := Lib.hid (env_below hE.out hB2)
      clear K2 hC2
      have K3 := Lib.hid (G2.out w2 hE2)
      go_wp2_with fail
      refine K3.out.mono ?_
      rintro e w3 ⟨rfl, hC3⟩
      have hB3 := hB2.trans (hC3.mono hB2.size)
      have hE3 := Lib.hid (env_below hE.out hB3)
      clear K3 hC3
      have K4 := Lib.hid (G3.out w3 hE3)
      go_wp2_with fail
      refine K4.out.mono ?_
      rintro e w4 ⟨rfl, hC4⟩
      have hB4 := hB3.trans (hC4.mono hB3.size)
      have hE4 := Lib.hid (env_below hE.out hB4)
      clear K4 hC4
      go_wp2_with fail
      go_ret
      exact ⟨rfl, hB4⟩
set_option maxHeartbeats 4000000 in
theorem psame_any (a b c : ByteArray) (w : World) (hE : Hid (Env w)) (ha : a.size ≤ 140737488351232) (hb : b.size ≤ 140737488351232) (hc : c.size ≤ 140737488351232) : Calls Tryd.prog 6 #[.string a, .string b, .string c] w fun e w' => e = .returned (.bool true) ∧ Below w.heap.size w w' := by
  have AW := Lib.hid awake_true
  by_cases hal : 3000 < a.size
  · have ha' : 3000 < (a.size : Int) := by omega
    clear ha hb hc
    go_enter Tryd.func6, Tryd.ntmps6
    go_wp2_with fail
    refine (AW.out _ hE).mono ?_
    rintro e w1 ⟨rfl, hB1⟩
    have hE1 := Lib.hid (env_below hE.out hB1)
    have hz1 := hB1.size
    go_wp2_with fail
    go_ret
    exact ⟨rfl, hB1⟩
  · have ha' : ¬ 3000 < (a.size : Int) := by omega
    by_cases hbl : 3000 < b.size
    · have hb' : 3000 < (b.size : Int) := by omega
      clear ha hb hc
      go_enter Tryd.func6, Tryd.ntmps6
      go_wp2_with fail
      refine (AW.out _ hE).mono ?_
      rintro e w1 ⟨rfl, hB1⟩
      have hE1 := Lib.hid (env_below hE.out hB1)
      have hz1 := hB1.size
      go_wp2_with fail
      go_ret
      exact ⟨rfl, hB1⟩
    · have hb' : ¬ 3000 < (b.size : Int) := by omega
      by_cases hcl : 3000 < c.size
      · have hc' : 3000 < (c.size : Int) := by omega
        clear ha hb hc
        go_enter Tryd.func6, Tryd.ntmps6
        go_wp2_with fail
        refine (AW.out _ hE).mono ?_
        rintro e w1 ⟨rfl, hB1⟩
        have hE1 := Lib.hid (env_below hE.out hB1)
        have hz1 := hB1.size
        go_wp2_with fail
        go_ret
        exact ⟨rfl, hB1⟩
      · have hc' : ¬ 3000 < (c.size : Int) := by omega
        have S : ∀ (p q : ByteArray) (W : World), p.size ≤ 3000 → q.size ≤ 3000 → Hid (Env W) → _ := fun p q W hp hq h => same_any p q W (by omega) (by omega) h
        have SAB : ∀ W, Hid (Env W) → _ := fun W h => S a b W (by omega) (by omega) h
        have SBA : ∀ W, Hid (Env W) → _ := fun W h => S b a W (by omega) (by omega) h
        have SAA : ∀ W, Hid (Env W) → _ := fun W h => S a a W (by omega) (by omega) h
        have SBC : ∀ W, Hid (Env W) → _ := fun W h => S b c W (by omega) (by omega) h
        have SAC : ∀ W, Hid (Env W) → _ := fun W h => S a c W (by omega) (by omega) h
        have RA : ∀ W, _ := fun W => rready_any a true W (by omega)
        have RB : ∀ W, _ := fun W => rready_any b true W (by omega)
        clear S ha hb hc hal hbl hcl
        rw [sameB_comm b.data.toList a.data.toList] at SBA
        rw [sameB_self] at SAA
        have htr := @sameB_trans a.data.toList b.data.toList c.data.toList
        have hsb : sameB a.data.toList b.data.toList = ((readyO a.data.toList true).isSome && decide (readyO a.data.toList true = readyO b.data.toList true)) := rfl
        rw [hsb] at SAB SBA htr
        clear hsb
        generalize sameB b.data.toList c.data.toList = sbc at SBC htr
        generalize sameB a.data.toList c.data.toList = sac at SAC htr
        generalize readyO a.data.toList true = oa at RA SAB SBA SAA htr
        generalize readyO b.data.toList true = ob at RB SAB SBA htr
        have HBC := Lib.hid SBC
        have HAC := Lib.hid SAC
        clear SBC SAC
        cases oa with
        | none =>
          cases ob with
          | none =>
            have z1 : ((none : Option (List UInt8)).isSome && decide ((none : Option (List UInt8)) = none)) = false := by decide
            rw [z1] at SAB SBA
            rw [show (none : Option (List UInt8)).isSome = false from rfl] at SAA
            unfold pairV at RA RB
            clear z1
            have HAB := Lib.hid SAB
            have HBA := Lib.hid SBA
            have HAA := Lib.hid SAA
            have HRA := Lib.hid RA
            have HRB := Lib.hid RB
            clear SAB SBA SAA RA RB
            clear htr
            go_enter Tryd.func6, Tryd.ntmps6
            go_wp2_with fail
            refine (AW.out _ hE).mono ?_
            rintro e w1 ⟨rfl, hB1⟩
            have hE1 := Lib.hid (env_below hE.out hB1)
            have hz1 := hB1.size
            have K2 := Lib.hid (HRA.out w1)
            go_wp2_with fail
            refine K2.out.mono ?_
            rintro e w2 ⟨rfl, hC2⟩
            have hB2 := hB1.trans (hC2.mono hB1.size)
            have hE2 := Lib.hid (env_below hE.out hB2)
            clear K2 hC2
            have K3 := Lib.hid (HRB.out w2)
            go_wp2_with fail
            refine K3.out.mono ?_
            rintro e w3 ⟨rfl, hC3⟩
            have hB3 := hB2.trans (hC3.mono hB2.size)
            have hE3 := Lib.hid (env_below hE.out hB3)
            clear K3 hC3
            have K4 := Lib.hid (HAB.out w3 hE3)
            go_wp2_with fail
            refine K4.out.mono ?_
            rintro e w4 ⟨rfl, hC4⟩
            have hB4 := hB3.trans (hC4.mono hB3.size)
            have hE4 := Lib.hid (env_below hE.out hB4)
            clear K4 hC4
            have K5 := Lib.hid (HAA.out w4 hE4)
            go_wp2_with fail
            refine K5.out.mono ?_
            rintro e w5 ⟨rfl, hC5⟩
            have hB5 := hB4.trans (hC5.mono hB4.size)
            have hE5 := Lib.hid (env_below hE.out hB5)
            clear K5 hC5
            have K6 := Lib.hid (HAB.out w5 hE5)
            go_wp2_with fail
            refine K6.out.mono ?_
            rintro e w6 ⟨rfl, hC6⟩
            have hB6 := hB5.trans (hC6.mono hB5.size)
            have hE6 := Lib.hid (env_below hE.out hB6)
            clear K6 hC6
            have K7 := Lib.hid (HBA.out w6 hE6)
            go_wp2_with fail
            refine K7.out.mono ?_
            rintro e w7 ⟨rfl, hC7⟩
            have hB7 := hB6.trans (hC7.mono hB6.size)
            have hE7 := Lib.hid (env_below hE.out hB7)
            clear K7 hC7
            have K8 := Lib.hid (HAB.out w7 hE7)
            go_wp2_with fail
            refine K8.out.mono ?_
            rintro e w8 ⟨rfl, hC8⟩
            have hB8 := hB7.trans (hC8.mono hB7.size)
            have hE8 := Lib.hid (env_below hE.out hB8)
            clear K8 hC8
            go_wp2_with fail
            go_ret
            exact ⟨rfl, hB8⟩
          | some u =>
            have z1 : ((none : Option (List UInt8)).isSome && decide ((none : Option (List UInt8)) = some u)) = false := by simp
            rw [z1] at SAB SBA
            rw [show (none : Option (List UInt8)).isSome = false from rfl] at SAA
            unfold pairV at RA RB
            clear z1
            have HAB := Lib.hid SAB
            have HBA := Lib.hid SBA
            have HAA := Lib.hid SAA
            have HRA := Lib.hid RA
            have HRB := Lib.hid RB
            clear SAB SBA SAA RA RB
            clear htr
            go_enter Tryd.func6, Tryd.ntmps6
            go_wp2_with fail
            refine (AW.out _ hE).mono ?_
            rintro e w1 ⟨rfl, hB1⟩
            have hE1 := Lib.hid (env_below hE.out hB1)
            have hz1 := hB1.size
            have K2 := Lib.hid (HRA.out w1)
            go_wp2_with fail
            refine K2.out.mono ?_
            rintro e w2 ⟨rfl, hC2⟩
            have hB2 := hB1.trans (hC2.mono hB1.size)
            have hE2 := Lib.hid (env_below hE.out hB2)
            clear K2 hC2
            have K3 := Lib.hid (HRB.out w2)
            go_wp2_with fail
            refine K3.out.mono ?_
            rintro e w3 ⟨rfl, hC3⟩
            have hB3 := hB2.trans (hC3.mono hB2.size)
            have hE3 := Lib.hid (env_below hE.out hB3)
            clear K3 hC3
            have K4 := Lib.hid (HAB.out w3 hE3)
            go_wp2_with fail
            refine K4.out.mono ?_
            rintro e w4 ⟨rfl, hC4⟩
            have hB4 := hB3.trans (hC4.mono hB3.size)
            have hE4 := Lib.hid (env_below hE.out hB4)
            clear K4 hC4
            have K5 := Lib.hid (HAA.out w4 hE4)
            go_wp2_with fail
            refine K5.out.mono ?_
            rintro e w5 ⟨rfl, hC5⟩
            have hB5 := hB4.trans (hC5.mono hB4.size)
            have hE5 := Lib.hid (env_below hE.out hB5)
            clear K5 hC5
            have K6 := Lib.hid (HAB.out w5 hE5)
            go_wp2_with fail
            refine K6.out.mono ?_
            rintro e w6 ⟨rfl, hC6⟩
            have hB6 := hB5.trans (hC6.mono hB5.size)
            have hE6 := Lib.hid (env_below hE.out hB6)
            clear K6 hC6
            have K7 := Lib.hid (HBA.out w6 hE6)
            go_wp2_with fail
            refine K7.out.mono ?_
            rintro e w7 ⟨rfl, hC7⟩
            have hB7 := hB6.trans (hC7.mono hB6.size)
            have hE7 := Lib.hid (env_below hE.out hB7)
            clear K7 hC7
            have K8 := Lib.hid (HAB.out w7 hE7)
            go_wp2_with fail
            refine K8.out.mono ?_
            rintro e w8 ⟨rfl, hC8⟩
            have hB8 := hB7.trans (hC8.mono hB7.size)
            have hE8 := Lib.hid (env_below hE.out hB8)
            clear K8 hC8
            go_wp2_with fail
            go_ret
            exact ⟨rfl, hB8⟩
        | some t =>
          rw [show (some t : Option (List UInt8)).isSome = true from rfl] at SAA
          cases ob with
          | none =>
            have z1 : ((some t).isSome && decide (some t = (none : Option (List UInt8)))) = false := by simp
            rw [z1] at SAB SBA
            unfold pairV at RA RB
            clear z1
            have HAB := Lib.hid SAB
            have HBA := Lib.hid SBA
            have HAA := Lib.hid SAA
            have HRA := Lib.hid RA
            have HRB := Lib.hid RB
            clear SAB SBA SAA RA RB
            clear htr
            go_enter Tryd.func6, Tryd.ntmps6
            go_wp2_with fail
            refine (AW.out _ hE).mono ?_
            rintro e w1 ⟨rfl, hB1⟩
            have hE1 := Lib.hid (env_below hE.out hB1)
            have hz1 := hB1.size
            have K2 := Lib.hid (HRA.out w1)
            go_wp2_with fail
            refine K2.out.mono ?_
            rintro e w2 ⟨rfl, hC2⟩
            have hB2 := hB1.trans (hC2.mono hB1.size)
            have hE2 := Lib.hid (env_below hE.out hB2)
            clear K2 hC2
            have K3 := Lib.hid (HRB.out w2)
            go_wp2_with fail
            refine K3.out.mono ?_
            rintro e w3 ⟨rfl, hC3⟩
            have hB3 := hB2.trans (hC3.mono hB2.size)
            have hE3 := Lib.hid (env_below hE.out hB3)
            clear K3 hC3
            have K4 := Lib.hid (HAB.out w3 hE3)
            go_wp2_with fail
            refine K4.out.mono ?_
            rintro e w4 ⟨rfl, hC4⟩
            have hB4 := hB3.trans (hC4.mono hB3.size)
            have hE4 := Lib.hid (env_below hE.out hB4)
            clear K4 hC4
            have K5 := Lib.hid (HAA.out w4 hE4)
            go_wp2_with fail
            refine K5.out.mono ?_
            rintro e w5 ⟨rfl, hC5⟩
            have hB5 := hB4.trans (hC5.mono hB4.size)
            have hE5 := Lib.hid (env_below hE.out hB5)
            clear K5 hC5
            have K6 := Lib.hid (HAB.out w5 hE5)
            go_wp2_with fail
            refine K6.out.mono ?_
            rintro e w6 ⟨rfl, hC6⟩
            have hB6 := hB5.trans (hC6.mono hB5.size)
            have hE6 := Lib.hid (env_below hE.out hB6)
            clear K6 hC6
            have K7 := Lib.hid (HBA.out w6 hE6)
            go_wp2_with fail
            refine K7.out.mono ?_
            rintro e w7 ⟨rfl, hC7⟩
            have hB7 := hB6.trans (hC7.mono hB6.size)
            have hE7 := Lib.hid (env_below hE.out hB7)
            clear K7 hC7
            have K8 := Lib.hid (HAB.out w7 hE7)
            go_wp2_with fail
            refine K8.out.mono ?_
            rintro e w8 ⟨rfl, hC8⟩
            have hB8 := hB7.trans (hC8.mono hB7.size)
            have hE8 := Lib.hid (env_below hE.out hB8)
            clear K8 hC8
            go_wp2_with fail
            go_ret
            exact ⟨rfl, hB8⟩
          | some u =>
            rw [pairV_some] at RA RB
            by_cases htu : t = u
            · subst htu
              have z1 : ((some t).isSome && decide (some t = some t)) = true := by simp
              rw [z1] at SAB SBA htr
              generalize (⟨t.toArray⟩ : ByteArray) = tb at RA RB
              clear z1
              have HAB := Lib.hid SAB
              have HBA := Lib.hid SBA
              have HAA := Lib.hid SAA
              have HRA := Lib.hid RA
              have HRB := Lib.hid RB
              clear SAB SBA SAA RA RB
              cases sbc with
              | false =>
                clear htr
                go_enter Tryd.func6, Tryd.ntmps6
                go_wp2_with fail
                refine (AW.out _ hE).mono ?_
                rintro e w1 ⟨rfl, hB1⟩
                have hE1 := Lib.hid (env_below hE.out hB1)
                have hz1 := hB1.size
                have K2 := Lib.hid (HRA.out w1)
                go_wp2_with fail
                refine K2.out.mono ?_
                rintro e w2 ⟨rfl, hC2⟩
                have hB2 := hB1.trans (hC2.mono hB1.size)
                have hE2 := Lib.hid (env_below hE.out hB2)
                clear K2 hC2
                have K3 := Lib.hid (HRB.out w2)
                go_wp2_with fail
                refine K3.out.mono ?_
                rintro e w3 ⟨rfl, hC3⟩
                have hB3 := hB2.trans (hC3.mono hB2.size)
                have hE3 := Lib.hid (env_below hE.out hB3)
                clear K3 hC3
                have K4 := Lib.hid (HAB.out w3 hE3)
                go_wp2_with fail
                refine K4.out.mono ?_
                rintro e w4 ⟨rfl, hC4⟩
                have hB4 := hB3.trans (hC4.mono hB3.size)
                have hE4 := Lib.hid (env_below hE.out hB4)
                clear K4 hC4
                have K5 := Lib.hid (HAA.out w4 hE4)
                go_wp2_with fail
                refine K5.out.mono ?_
                rintro e w5 ⟨rfl, hC5⟩
                have hB5 := hB4.trans (hC5.mono hB4.size)
                have hE5 := Lib.hid (env_below hE.out hB5)
                clear K5 hC5
                have K6 := Lib.hid (HAB.out w5 hE5)
                go_wp2_with fail
                refine K6.out.mono ?_
                rintro e w6 ⟨rfl, hC6⟩
                have hB6 := hB5.trans (hC6.mono hB5.size)
                have hE6 := Lib.hid (env_below hE.out hB6)
                clear K6 hC6
                have K7 := Lib.hid (HBA.out w6 hE6)
                go_wp2_with fail
                refine K7.out.mono ?_
                rintro e w7 ⟨rfl, hC7⟩
                have hB7 := hB6.trans (hC7.mono hB6.size)
                have hE7 := Lib.hid (env_below hE.out hB7)
                clear K7 hC7
                have K8 := Lib.hid (HAB.out w7 hE7)
                go_wp2_with fail
                refine K8.out.mono ?_
                rintro e w8 ⟨rfl, hC8⟩
                have hB8 := hB7.trans (hC8.mono hB7.size)
                have hE8 := Lib.hid (env_below hE.out hB8)
                clear K8 hC8
                have K9 := Lib.hid (HBC.out w8 hE8)
                go_wp2_with fail
                refine K9.out.mono ?_
                rintro e w9 ⟨rfl, hC9⟩
                have hB9 := hB8.trans (hC9.mono hB8.size)
                have hE9 := Lib.hid (env_below hE.out hB9)
                clear K9 hC9
                go_wp2_with fail
                go_ret
                exact ⟨rfl, hB9⟩
              | true =>
                obtain rfl : sac = true := htr rfl rfl
                clear htr
                go_enter Tryd.func6, Tryd.ntmps6
                go_wp2_with fail
                refine (AW.out _ hE).mono ?_
                rintro e w1 ⟨rfl, hB1⟩
                have hE1 := Lib.hid (env_below hE.out hB1)
                have hz1 := hB1.size
                have K2 := Lib.hid (HRA.out w1)
                go_wp2_with fail
                refine K2.out.mono ?_
                rintro e w2 ⟨rfl, hC2⟩
                have hB2 := hB1.trans (hC2.mono hB1.size)
                have hE2 := Lib.hid (env_below hE.out hB2)
                clear K2 hC2
                have K3 := Lib.hid (HRB.out w2)
                go_wp2_with fail
                refine K3.out.mono ?_
                rintro e w3 ⟨rfl, hC3⟩
                have hB3 := hB2.trans (hC3.mono hB2.size)
                have hE3 := Lib.hid (env_below hE.out hB3)
                clear K3 hC3
                have K4 := Lib.hid (HAB.out w3 hE3)
                go_wp2_with fail
                refine K4.out.mono ?_
                rintro e w4 ⟨rfl, hC4⟩
                have hB4 := hB3.trans (hC4.mono hB3.size)
                have hE4 := Lib.hid (env_below hE.out hB4)
                clear K4 hC4
                have K5 := Lib.hid (HAA.out w4 hE4)
                go_wp2_with fail
                refine K5.out.mono ?_
                rintro e w5 ⟨rfl, hC5⟩
                have hB5 := hB4.trans (hC5.mono hB4.size)
                have hE5 := Lib.hid (env_below hE.out hB5)
                clear K5 hC5
                have K6 := Lib.hid (HAB.out w5 hE5)
                go_wp2_with fail
                refine K6.out.mono ?_
                rintro e w6 ⟨rfl, hC6⟩
                have hB6 := hB5.trans (hC6.mono hB5.size)
                have hE6 := Lib.hid (env_below hE.out hB6)
                clear K6 hC6
                have K7 := Lib.hid (HBA.out w6 hE6)
                go_wp2_with fail
                refine K7.out.mono ?_
                rintro e w7 ⟨rfl, hC7⟩
                have hB7 := hB6.trans (hC7.mono hB6.size)
                have hE7 := Lib.hid (env_below hE.out hB7)
                clear K7 hC7
                have K8 := Lib.hid (HAB.out w7 hE7)
                go_wp2_with fail
                refine K8.out.mono ?_
                rintro e w8 ⟨rfl, hC8⟩
                have hB8 := hB7.trans (hC8.mono hB7.size)
                have hE8 := Lib.hid (env_below hE.out hB8)
                clear K8 hC8
                have K9 := Lib.hid (HBC.out w8 hE8)
                go_wp2_with fail
                refine K9.out.mono ?_
                rintro e w9 ⟨rfl, hC9⟩
                have hB9 := hB8.trans (hC9.mono hB8.size)
                have hE9 := Lib.hid (env_below hE.out hB9)
                clear K9 hC9
                have K10 := Lib.hid (HAC.out w9 hE9)
                go_wp2_with fail
                refine K10.out.mono ?_
                rintro e w10 ⟨rfl, hC10⟩
                have hB10 := hB9.trans (hC10.mono hB9.size)
                have hE10 := Lib.hid (env_below hE.out hB10)
                clear K10 hC10
                go_wp2_with fail
                go_ret
                exact ⟨rfl, hB10⟩
            · have hne : (⟨t.toArray⟩ : ByteArray) ≠ ⟨u.toArray⟩ := by
                intro e
                apply htu
                have := congrArg (fun x : ByteArray => x.data.toList) e
                exact this
              have z1 : ((some t).isSome && decide (some t = some u)) = false := by simp [htu]
              rw [z1] at SAB SBA
              generalize (⟨t.toArray⟩ : ByteArray) = tb at RA hne
              generalize (⟨u.toArray⟩ : ByteArray) = ub at RB hne
              have g1 : (tb.toList == ub.toList) = false := by
                rw [beq_eq_false_iff_ne]
                intro e
                apply hne
                apply kt.str_eq
                rw [← Lib.toList_data, ← Lib.toList_data, e]
              clear z1 htu hne
              have HAB := Lib.hid SAB
              have HBA := Lib.hid SBA
              have HAA := Lib.hid SAA
              have HRA := Lib.hid RA
              have HRB := Lib.hid RB
              clear SAB SBA SAA RA RB
              clear htr
              go_enter Tryd.func6, Tryd.ntmps6
              go_wp2_with fail
              refine (AW.out _ hE).mono ?_
              rintro e w1 ⟨rfl, hB1⟩
              have hE1 := Lib.hid (env_below hE.out hB1)
              have hz1 := hB1.size
              have K2 := Lib.hid (HRA.out w1)
              go_wp2_with fail
              refine K2.out.mono ?_
              rintro e w2 ⟨rfl, hC2⟩
              have hB2 := hB1.trans (hC2.mono hB1.size)
              have hE2 := Lib.hid (env_below hE.out hB2)
              clear K2 hC2
              have K3 := Lib.hid (HRB.out w2)
              go_wp2_with fail
              refine K3.out.mono ?_
              rintro e w3 ⟨rfl, hC3⟩
              have hB3 := hB2.trans (hC3.mono hB2.size)
              have hE3 := Lib.hid (env_below hE.out hB3)
              clear K3 hC3
              have K4 := Lib.hid (HAB.out w3 hE3)
              go_wp2_with fail
              refine K4.out.mono ?_
              rintro e w4 ⟨rfl, hC4⟩
              have hB4 := hB3.trans (hC4.mono hB3.size)
              have hE4 := Lib.hid (env_below hE.out hB4)
              clear K4 hC4
              have K5 := Lib.hid (HAA.out w4 hE4)
              go_wp2_with fail
              refine K5.out.mono ?_
              rintro e w5 ⟨rfl, hC5⟩
              have hB5 := hB4.trans (hC5.mono hB4.size)
              have hE5 := Lib.hid (env_below hE.out hB5)
              clear K5 hC5
              have K6 := Lib.hid (HAB.out w5 hE5)
              go_wp2_with fail
              refine K6.out.mono ?_
              rintro e w6 ⟨rfl, hC6⟩
              have hB6 := hB5.trans (hC6.mono hB5.size)
              have hE6 := Lib.hid (env_below hE.out hB6)
              clear K6 hC6
              have K7 := Lib.hid (HBA.out w6 hE6)
              go_wp2_with fail
              refine K7.out.mono ?_
              rintro e w7 ⟨rfl, hC7⟩
              have hB7 := hB6.trans (hC7.mono hB6.size)
              have hE7 := Lib.hid (env_below hE.out hB7)
              clear K7 hC7
              have K8 := Lib.hid (HAB.out w7 hE7)
              go_wp2_with fail
              refine K8.out.mono ?_
              rintro e w8 ⟨rfl, hC8⟩
              have hB8 := hB7.trans (hC8.mono hB7.size)
              have hE8 := Lib.hid (env_below hE.out hB8)
              clear K8 hC8
              go_wp2_with fail
              go_ret
              exact ⟨rfl, hB8⟩
end prw
end Go.Proofs.YtbadknkhedjfaaaDoor
