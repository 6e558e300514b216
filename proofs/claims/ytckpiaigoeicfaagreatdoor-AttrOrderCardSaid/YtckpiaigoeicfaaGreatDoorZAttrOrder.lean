/- THE STATEMENT 'AttrOrder': whatever the input, the law returns true and leaves its input as it was. Conditions: those of the row alone (its listed variables are tied to the program's text by the given tie). -/
import Derived.Test.YtckpiaigoeicfaaGreatDoorB13
import Derived.Test.YtckpiaigoeicfaaGreatDoorB12
import Derived.Test.YtckpiaigoeicfaaGreatDoorCards
import Derived.Test.YtckpiaigoeicfaaGreatDoorTie
import Derived.Lay
import Derived.Lib.LaidU8
import Derived.Lib.SmallJoins
import Derived.PinnedBridge
import Derived.WalkKit
import Derived.ProofKit
import Derived.OpenShut
import Derived.ChangeOld
import Derived.Below
import Derived.SizedLaws
import Derived.LaidMore
import Derived.Deep.DeepHandedRow
import Derived.Deep.DeepWitnessRowRef
import Derived.Lib.LaidTab
/-! LawO -/
namespace Go.Proofs.YtckpiaigoeicfaaGreatDoor
open Go.RowKit
namespace atw
open atp tupw prw
set_option linter.unusedVariables false
set_option linter.unusedSimpArgs false
set_option maxRecDepth 20000 in
set_option maxHeartbeats 16000000 in
theorem orders_law (nm : ByteArray) (syn : Int) (sg : Bool) (a b c : ByteArray) (w : World) (ha : a.size ≤ 140737488351232) (hb : b.size ≤ 140737488351232) (hc : c.size ≤ 140737488351232) (hE : Hid (prw.Env w)) (hT : Hid (dnw.Tabs w)) (hY : Hid (TyEnv w)) :
    Calls Tryz.prog 7 #[.agg #[.string nm, .int .i64 syn, .bool sg], .string a, .string b, .string c] w fun e w' => e = .returned (.bool true) ∧ Below w.heap.size w w' := by
  obtain ⟨W0, hW0⟩ : ∃ W, w.alloc (.cells #[.string nm, .int .i64 syn, .bool sg] 23) = W := ⟨_, rfl⟩
  have hB0 : Below w.heap.size w W0 := by rw [← hW0]; exact (Below.refl _ _).alloc (Nat.le_refl _) _
  have HB0 := Lib.hid hB0
  have hw0 : w.heap.size ≤ W0.heap.size := hB0.size
  have HTB0 : Hid (TB W0 w.heap.size nm syn sg) := by rw [← hW0]; exact tb_new w nm syn sg
  have HAW := Lib.hid (awake_any W0 (Lib.hid (prw.env_below hE.out hB0)) (Lib.hid (dnw.tabs_below hT.out hB0)) (Lib.hid (tyEnv_below hY.out hB0)))
  have HQ : Hid (∀ (x y : ByteArray), x.size ≤ 140737488351232 → y.size ≤ 140737488351232 → ∀ w, prw.Env w → dnw.Tabs w → Calls Tryz.prog 10 #[.agg #[.string nm, .int .i64 syn, .bool sg], .string x, .string y] w fun e w' => e = .returned (.tuple #[.bool (eqL syn x.data.toList y.data.toList).1, .int .i64 (eqL syn x.data.toList y.data.toList).2]) ∧ Below w.heap.size w w') := fun x y hx hy w h1 h2 => equal_any nm syn sg x y w hx hy (Lib.hid h1) (Lib.hid h2)
  have HO : Hid (∀ (x y : ByteArray), x.size ≤ 140737488351232 → y.size ≤ 140737488351232 → ∀ w, prw.Env w → dnw.Tabs w → Calls Tryz.prog 12 #[.agg #[.string nm, .int .i64 syn, .bool sg], .string x, .string y] w fun e w' => e = .returned (.tuple #[.int .i64 (ordL syn x.data.toList y.data.toList).1, .int .i64 (ordL syn x.data.toList y.data.toList).2]) ∧ Below w.heap.size w w') := fun x y hx hy w h1 h2 => order_any nm syn sg x y w hx hy (Lib.hid h1) (Lib.hid h2)
  have HC : Hid (∀ (x : ByteArray), x.size ≤ 140737488351232 → ∀ w, prw.Env w → dnw.Tabs w → Calls Tryz.prog 21 #[.agg #[.string nm, .int .i64 syn, .bool sg], .string x] w fun e w' => e = .returned (.int .i64 (normL syn x.data.toList).2) ∧ Below w.heap.size w w') := fun x hx w h1 h2 => check_any nm syn sg x w hx (Lib.hid h1) (Lib.hid h2)
  have HLAW : Hid (∀ x y : List UInt8, (eqL syn x y).2 = 0 ↔ (normL syn x).2 = 0 ∧ (normL syn y).2 = 0) := fun x y => eq_err
  by_cases hl1 : 2000 < a.size
  · have d1 : (2000 : Int) < (a.size : Int) := by omega
    clear hl1
    clear HQ HO HC HLAW hB0
    go_enter Tryz.func7, Tryz.ntmps7
    go_wp2_with fail
    refine (HAW.out).mono ?_
    rintro e w1 ⟨rfl, hB1⟩
    have HB1 := Lib.hid (HB0.out.trans (hB1.mono hw0))
    have HT1 := Lib.hid (tb_below HTB0.out hB1)
    obtain ⟨k10, k11, k12⟩ := tb_cells HT1.out
    clear hB1 hW0
    go_wp2_with fail
    go_ret
    exact ⟨rfl, HB1.out⟩
  · have d1 : decide ((2000 : Int) < (a.size : Int)) = false := by rw [decide_eq_false_iff_not]; omega
    clear hl1
    by_cases hl2 : 2000 < b.size
    · have d2 : (2000 : Int) < (b.size : Int) := by omega
      clear hl2
      clear HQ HO HC HLAW hB0
      go_enter Tryz.func7, Tryz.ntmps7
      go_wp2_with fail
      refine (HAW.out).mono ?_
      rintro e w1 ⟨rfl, hB1⟩
      have HB1 := Lib.hid (HB0.out.trans (hB1.mono hw0))
      have HT1 := Lib.hid (tb_below HTB0.out hB1)
      obtain ⟨k10, k11, k12⟩ := tb_cells HT1.out
      clear hB1 hW0
      go_wp2_with fail
      go_ret
      exact ⟨rfl, HB1.out⟩
    · have d2 : decide ((2000 : Int) < (b.size : Int)) = false := by rw [decide_eq_false_iff_not]; omega
      clear hl2
      by_cases hl3 : 2000 < c.size
      · have d3 : (2000 : Int) < (c.size : Int) := by omega
        clear hl3
        clear HQ HO HC HLAW hB0
        go_enter Tryz.func7, Tryz.ntmps7
        go_wp2_with fail
        refine (HAW.out).mono ?_
        rintro e w1 ⟨rfl, hB1⟩
        have HB1 := Lib.hid (HB0.out.trans (hB1.mono hw0))
        have HT1 := Lib.hid (tb_below HTB0.out hB1)
        obtain ⟨k10, k11, k12⟩ := tb_cells HT1.out
        clear hB1 hW0
        go_wp2_with fail
        go_ret
        exact ⟨rfl, HB1.out⟩
      · have d3 : decide ((2000 : Int) < (c.size : Int)) = false := by rw [decide_eq_false_iff_not]; omega
        clear hl3
        obtain ⟨r1, hr1⟩ : ∃ u, eqL syn a.data.toList b.data.toList = u := ⟨_, rfl⟩
        obtain ⟨r2, hr2⟩ : ∃ u, eqL syn b.data.toList c.data.toList = u := ⟨_, rfl⟩
        obtain ⟨r3, hr3⟩ : ∃ u, eqL syn a.data.toList c.data.toList = u := ⟨_, rfl⟩
        obtain ⟨r4, hr4⟩ : ∃ u, eqL syn b.data.toList a.data.toList = u := ⟨_, rfl⟩
        obtain ⟨x, e1⟩ := r1
        obtain ⟨y, e2⟩ := r2
        obtain ⟨z, e3⟩ := r3
        obtain ⟨v, e4⟩ := r4
        obtain ⟨nA, hnA⟩ : ∃ u, (normL syn a.data.toList).2 = u := ⟨_, rfl⟩
        obtain ⟨nB, hnB⟩ : ∃ u, (normL syn b.data.toList).2 = u := ⟨_, rfl⟩
        obtain ⟨nC, hnC⟩ : ∃ u, (normL syn c.data.toList).2 = u := ⟨_, rfl⟩
        have HQ1 : Hid (∀ w, prw.Env w → dnw.Tabs w → Calls Tryz.prog 10 #[.agg #[.string nm, .int .i64 syn, .bool sg], .string a, .string b] w fun e w' => e = .returned (.tuple #[.bool x, .int .i64 e1]) ∧ Below w.heap.size w w') := by
          intro w h1 h2
          have := HQ.out a b ha hb w h1 h2
          rw [hr1] at this
          exact this
        have HQ2 : Hid (∀ w, prw.Env w → dnw.Tabs w → Calls Tryz.prog 10 #[.agg #[.string nm, .int .i64 syn, .bool sg], .string b, .string c] w fun e w' => e = .returned (.tuple #[.bool y, .int .i64 e2]) ∧ Below w.heap.size w w') := by
          intro w h1 h2
          have := HQ.out b c hb hc w h1 h2
          rw [hr2] at this
          exact this
        have HQ3 : Hid (∀ w, prw.Env w → dnw.Tabs w → Calls Tryz.prog 10 #[.agg #[.string nm, .int .i64 syn, .bool sg], .string a, .string c] w fun e w' => e = .returned (.tuple #[.bool z, .int .i64 e3]) ∧ Below w.heap.size w w') := by
          intro w h1 h2
          have := HQ.out a c ha hc w h1 h2
          rw [hr3] at this
          exact this
        have HQ4 : Hid (∀ w, prw.Env w → dnw.Tabs w → Calls Tryz.prog 10 #[.agg #[.string nm, .int .i64 syn, .bool sg], .string b, .string a] w fun e w' => e = .returned (.tuple #[.bool v, .int .i64 e4]) ∧ Below w.heap.size w w') := by
          intro w h1 h2
          have := HQ.out b a hb ha w h1 h2
          rw [hr4] at this
          exact this
        have HC1 : Hid (∀ w, prw.Env w → dnw.Tabs w → Calls Tryz.prog 21 #[.agg #[.string nm, .int .i64 syn, .bool sg], .string a] w fun e w' => e = .returned (.int .i64 nA) ∧ Below w.heap.size w w') := by
          intro w h1 h2
          have := HC.out a ha w h1 h2
          rw [hnA] at this
          exact this
        have HC2 : Hid (∀ w, prw.Env w → dnw.Tabs w → Calls Tryz.prog 21 #[.agg #[.string nm, .int .i64 syn, .bool sg], .string b] w fun e w' => e = .returned (.int .i64 nB) ∧ Below w.heap.size w w') := by
          intro w h1 h2
          have := HC.out b hb w h1 h2
          rw [hnB] at this
          exact this
        have HC3 : Hid (∀ w, prw.Env w → dnw.Tabs w → Calls Tryz.prog 21 #[.agg #[.string nm, .int .i64 syn, .bool sg], .string c] w fun e w' => e = .returned (.int .i64 nC) ∧ Below w.heap.size w w') := by
          intro w h1 h2
          have := HC.out c hc w h1 h2
          rw [hnC] at this
          exact this
        have l1 : e1 = 0 ↔ nA = 0 ∧ nB = 0 := by rw [← hnA, ← hnB, ← HLAW.out, hr1]
        have l2 : e2 = 0 ↔ nB = 0 ∧ nC = 0 := by rw [← hnB, ← hnC, ← HLAW.out, hr2]
        have l3 : e3 = 0 ↔ nA = 0 ∧ nC = 0 := by rw [← hnA, ← hnC, ← HLAW.out, hr3]
        have l4 : e4 = 0 ↔ nB = 0 ∧ nA = 0 := by rw [← hnB, ← hnA, ← HLAW.out, hr4]
        by_cases hA : nA = 0
        · by_cases hB : nB = 0
          · by_cases hC : nC = 0
            · skip
              obtain rfl : e1 = 0 := l1.2 ⟨hA, hB⟩
              obtain rfl : e2 = 0 := l2.2 ⟨hB, hC⟩
              obtain rfl : e3 = 0 := l3.2 ⟨hA, hC⟩
              obtain rfl : e4 = 0 := l4.2 ⟨hB, hA⟩
              have zA : (normL syn a.data.toList).2 = 0 := hnA.trans hA
              have zB : (normL syn b.data.toList).2 = 0 := hnB.trans hB
              have zC : (normL syn c.data.toList).2 = 0 := hnC.trans hC
              have X : x = decide ((normL syn a.data.toList).1 = (normL syn b.data.toList).1) := by have := hr1; rw [eq_ok zA zB] at this; exact (congrArg Prod.fst this).symm
              have Y : y = decide ((normL syn b.data.toList).1 = (normL syn c.data.toList).1) := by have := hr2; rw [eq_ok zB zC] at this; exact (congrArg Prod.fst this).symm
              have Z : z = decide ((normL syn a.data.toList).1 = (normL syn c.data.toList).1) := by have := hr3; rw [eq_ok zA zC] at this; exact (congrArg Prod.fst this).symm
              have V : v = x := by
                have := hr4
                rw [eq_ok zB zA] at this
                have h4 : decide ((normL syn b.data.toList).1 = (normL syn a.data.toList).1) = v := congrArg Prod.fst this
                rw [X, ← h4, Bool.eq_iff_iff, decide_eq_true_iff, decide_eq_true_iff]
                exact eq_comm
              subst V
              have ZZ : v = true → y = true → z = true := by
                intro h1 h2
                rw [X, decide_eq_true_iff] at h1
                rw [Y, decide_eq_true_iff] at h2
                rw [Z, decide_eq_true_iff, h1, h2]
              clear l1 l2 l3 l4 HC1 HC2 HC3 hA hB hC hnA hnB hnC hr1 hr2 hr3 hr4 Y Z
              rcases ordS_cases syn with hsy | ⟨hno, q1, q2, q4, n1, n2, n4⟩
              · have hos : ordS syn = true := by rcases hsy with rfl | rfl | rfl <;> rfl
                obtain ⟨f, p, hO, hp, hf⟩ := ord_laws hos
                have hOab := hf _ _ zA zB
                have hObc := hf _ _ zB zC
                have hOac := hf _ _ zA zC
                have hOba := hf _ _ zB zA
                have pA := hp _ zA
                have pB := hp _ zB
                have pC := hp _ zC
                generalize (normL syn a.data.toList).1 = na at *
                generalize (normL syn b.data.toList).1 = nb at *
                generalize (normL syn c.data.toList).1 = nc at *
                have h3m := hO.three na nb
                have h3p := hO.three nb na
                have h3n := hO.three nb nc
                have h3o := hO.three na nc
                have hneg := hO.neg nb na
                have hzero := hO.zero na nb pA pB
                have htr := hO.trans na nb nc pA pB pC
                obtain ⟨m, hm⟩ : ∃ u, f na nb = u := ⟨_, rfl⟩
                obtain ⟨n, hn⟩ : ∃ u, f nb nc = u := ⟨_, rfl⟩
                obtain ⟨o, ho⟩ : ∃ u, f na nc = u := ⟨_, rfl⟩
                obtain ⟨q, hq⟩ : ∃ u, f nb na = u := ⟨_, rfl⟩
                rw [hm] at h3m hneg hzero htr hOab
                rw [hn] at h3n htr hObc
                rw [ho] at h3o htr hOac
                rw [hq] at h3p hneg hOba
                have HO1 : Hid (∀ w, prw.Env w → dnw.Tabs w → Calls Tryz.prog 12 #[.agg #[.string nm, .int .i64 syn, .bool sg], .string a, .string b] w fun e w' => e = .returned (.tuple #[.int .i64 m, .int .i64 0]) ∧ Below w.heap.size w w') := by
                  intro w h1 h2
                  have := HO.out a b ha hb w h1 h2
                  rw [hOab] at this
                  exact this
                have HO2 : Hid (∀ w, prw.Env w → dnw.Tabs w → Calls Tryz.prog 12 #[.agg #[.string nm, .int .i64 syn, .bool sg], .string b, .string c] w fun e w' => e = .returned (.tuple #[.int .i64 n, .int .i64 0]) ∧ Below w.heap.size w w') := by
                  intro w h1 h2
                  have := HO.out b c hb hc w h1 h2
                  rw [hObc] at this
                  exact this
                have HO3 : Hid (∀ w, prw.Env w → dnw.Tabs w → Calls Tryz.prog 12 #[.agg #[.string nm, .int .i64 syn, .bool sg], .string a, .string c] w fun e w' => e = .returned (.tuple #[.int .i64 o, .int .i64 0]) ∧ Below w.heap.size w w') := by
                  intro w h1 h2
                  have := HO.out a c ha hc w h1 h2
                  rw [hOac] at this
                  exact this
                have HO4 : Hid (∀ w, prw.Env w → dnw.Tabs w → Calls Tryz.prog 12 #[.agg #[.string nm, .int .i64 syn, .bool sg], .string b, .string a] w fun e w' => e = .returned (.tuple #[.int .i64 q, .int .i64 0]) ∧ Below w.heap.size w w') := by
                  intro w h1 h2
                  have := HO.out b a hb ha w h1 h2
                  rw [hOba] at this
                  exact this
                have bq1 : -1 ≤ q := by omega
                have bq2 : q ≤ 1 := by omega
                have mq : (m == -q) = true := by rw [beq_iff_eq]; exact hneg
                have mx : ((m == 0) == v) = true := by
                  rw [X, beq_iff_eq, Bool.eq_iff_iff, beq_iff_eq, decide_eq_true_iff]; exact hzero
                have h3 : (decide ((0 : Int) < m) = true) ∨ (decide ((0 : Int) < m) = false ∧ decide ((0 : Int) < n) = true) ∨ (decide ((0 : Int) < m) = false ∧ decide ((0 : Int) < n) = false ∧ decide (o ≤ (0 : Int)) = true) := by
                  by_cases i1 : 0 < m
                  · exact Or.inl (decide_eq_true i1)
                  · by_cases i2 : 0 < n
                    · exact Or.inr (Or.inl ⟨decide_eq_false i1, decide_eq_true i2⟩)
                    · exact Or.inr (Or.inr ⟨decide_eq_false i1, decide_eq_false i2, decide_eq_true (htr (by omega) (by omega))⟩)
                clear hneg hzero htr h3m h3p h3n h3o hm hn ho hq hOab hObc hOac hOba pA pB pC hf hp hO zA zB zC hos hsy HQ HO HC HLAW hB0 X
                have xx : (v != v) = false := by simp
                rcases h3 with h1 | ⟨h1, h2⟩ | ⟨h1, h2, h3⟩
                all_goals
                  cases v
                  · have mz : (m == 0) = false := by simpa using mx
                    clear mx ZZ
                    go_enter Tryz.func7, Tryz.ntmps7
                    go_wp2_with fail
                    refine (HAW.out).mono ?_
                    rintro e w1 ⟨rfl, hB1⟩
                    have HB1 := Lib.hid (HB0.out.trans (hB1.mono hw0))
                    have HT1 := Lib.hid (tb_below HTB0.out hB1)
                    obtain ⟨k10, k11, k12⟩ := tb_cells HT1.out
                    clear hB1 hW0
                    go_wp2_with fail
                    refine (HQ1.out _ (prw.env_below hE.out HB1.out) (dnw.tabs_below hT.out HB1.out)).mono ?_
                    rintro e w2 ⟨rfl, hB2⟩
                    have HB2 := Lib.hid (HB1.out.trans (hB2.mono HB1.out.size))
                    have HT2 := Lib.hid (tb_below HT1.out hB2)
                    obtain ⟨k20, k21, k22⟩ := tb_cells HT2.out
                    clear hB2 k10 k11 k12
                    go_wp2_with fail
                    refine (HQ2.out _ (prw.env_below hE.out HB2.out) (dnw.tabs_below hT.out HB2.out)).mono ?_
                    rintro e w3 ⟨rfl, hB3⟩
                    have HB3 := Lib.hid (HB2.out.trans (hB3.mono HB2.out.size))
                    have HT3 := Lib.hid (tb_below HT2.out hB3)
                    obtain ⟨k30, k31, k32⟩ := tb_cells HT3.out
                    clear hB3 k20 k21 k22
                    go_wp2_with fail
                    refine (HQ3.out _ (prw.env_below hE.out HB3.out) (dnw.tabs_below hT.out HB3.out)).mono ?_
                    rintro e w4 ⟨rfl, hB4⟩
                    have HB4 := Lib.hid (HB3.out.trans (hB4.mono HB3.out.size))
                    have HT4 := Lib.hid (tb_below HT3.out hB4)
                    obtain ⟨k40, k41, k42⟩ := tb_cells HT4.out
                    clear hB4 k30 k31 k32
                    go_wp2_with fail
                    refine (HQ4.out _ (prw.env_below hE.out HB4.out) (dnw.tabs_below hT.out HB4.out)).mono ?_
                    rintro e w5 ⟨rfl, hB5⟩
                    have HB5 := Lib.hid (HB4.out.trans (hB5.mono HB4.out.size))
                    have HT5 := Lib.hid (tb_below HT4.out hB5)
                    obtain ⟨k50, k51, k52⟩ := tb_cells HT5.out
                    clear hB5 k40 k41 k42
                    go_wp2_with fail
                    refine (HO1.out _ (prw.env_below hE.out HB5.out) (dnw.tabs_below hT.out HB5.out)).mono ?_
                    rintro e w6 ⟨rfl, hB6⟩
                    have HB6 := Lib.hid (HB5.out.trans (hB6.mono HB5.out.size))
                    have HT6 := Lib.hid (tb_below HT5.out hB6)
                    obtain ⟨k60, k61, k62⟩ := tb_cells HT6.out
                    clear hB6 k50 k51 k52
                    go_wp2_with fail
                    refine (HO2.out _ (prw.env_below hE.out HB6.out) (dnw.tabs_below hT.out HB6.out)).mono ?_
                    rintro e w7 ⟨rfl, hB7⟩
                    have HB7 := Lib.hid (HB6.out.trans (hB7.mono HB6.out.size))
                    have HT7 := Lib.hid (tb_below HT6.out hB7)
                    obtain ⟨k70, k71, k72⟩ := tb_cells HT7.out
                    clear hB7 k60 k61 k62
                    go_wp2_with fail
                    refine (HO3.out _ (prw.env_below hE.out HB7.out) (dnw.tabs_below hT.out HB7.out)).mono ?_
                    rintro e w8 ⟨rfl, hB8⟩
                    have HB8 := Lib.hid (HB7.out.trans (hB8.mono HB7.out.size))
                    have HT8 := Lib.hid (tb_below HT7.out hB8)
                    obtain ⟨k80, k81, k82⟩ := tb_cells HT8.out
                    clear hB8 k70 k71 k72
                    go_wp2_with fail
                    refine (HO4.out _ (prw.env_below hE.out HB8.out) (dnw.tabs_below hT.out HB8.out)).mono ?_
                    rintro e w9 ⟨rfl, hB9⟩
                    have HB9 := Lib.hid (HB8.out.trans (hB9.mono HB8.out.size))
                    have HT9 := Lib.hid (tb_below HT8.out hB9)
                    obtain ⟨k90, k91, k92⟩ := tb_cells HT9.out
                    clear hB9 k80 k81 k82
                    go_wp2_with fail
                    go_ret
                    exact ⟨rfl, HB9.out⟩
                  · have mz : (m == 0) = true := by simpa using mx
                    clear mx
                    cases y
                    · clear ZZ
                      go_enter Tryz.func7, Tryz.ntmps7
                      go_wp2_with fail
                      refine (HAW.out).mono ?_
                      rintro e w1 ⟨rfl, hB1⟩
                      have HB1 := Lib.hid (HB0.out.trans (hB1.mono hw0))
                      have HT1 := Lib.hid (tb_below HTB0.out hB1)
                      obtain ⟨k10, k11, k12⟩ := tb_cells HT1.out
                      clear hB1 hW0
                      go_wp2_with fail
                      refine (HQ1.out _ (prw.env_below hE.out HB1.out) (dnw.tabs_below hT.out HB1.out)).mono ?_
                      rintro e w2 ⟨rfl, hB2⟩
                      have HB2 := Lib.hid (HB1.out.trans (hB2.mono HB1.out.size))
                      have HT2 := Lib.hid (tb_below HT1.out hB2)
                      obtain ⟨k20, k21, k22⟩ := tb_cells HT2.out
                      clear hB2 k10 k11 k12
                      go_wp2_with fail
                      refine (HQ2.out _ (prw.env_below hE.out HB2.out) (dnw.tabs_below hT.out HB2.out)).mono ?_
                      rintro e w3 ⟨rfl, hB3⟩
                      have HB3 := Lib.hid (HB2.out.trans (hB3.mono HB2.out.size))
                      have HT3 := Lib.hid (tb_below HT2.out hB3)
                      obtain ⟨k30, k31, k32⟩ := tb_cells HT3.out
                      clear hB3 k20 k21 k22
                      go_wp2_with fail
                      refine (HQ3.out _ (prw.env_below hE.out HB3.out) (dnw.tabs_below hT.out HB3.out)).mono ?_
                      rintro e w4 ⟨rfl, hB4⟩
                      have HB4 := Lib.hid (HB3.out.trans (hB4.mono HB3.out.size))
                      have HT4 := Lib.hid (tb_below HT3.out hB4)
                      obtain ⟨k40, k41, k42⟩ := tb_cells HT4.out
                      clear hB4 k30 k31 k32
                      go_wp2_with fail
                      refine (HQ4.out _ (prw.env_below hE.out HB4.out) (dnw.tabs_below hT.out HB4.out)).mono ?_
                      rintro e w5 ⟨rfl, hB5⟩
                      have HB5 := Lib.hid (HB4.out.trans (hB5.mono HB4.out.size))
                      have HT5 := Lib.hid (tb_below HT4.out hB5)
                      obtain ⟨k50, k51, k52⟩ := tb_cells HT5.out
                      clear hB5 k40 k41 k42
                      go_wp2_with fail
                      refine (HO1.out _ (prw.env_below hE.out HB5.out) (dnw.tabs_below hT.out HB5.out)).mono ?_
                      rintro e w6 ⟨rfl, hB6⟩
                      have HB6 := Lib.hid (HB5.out.trans (hB6.mono HB5.out.size))
                      have HT6 := Lib.hid (tb_below HT5.out hB6)
                      obtain ⟨k60, k61, k62⟩ := tb_cells HT6.out
                      clear hB6 k50 k51 k52
                      go_wp2_with fail
                      refine (HO2.out _ (prw.env_below hE.out HB6.out) (dnw.tabs_below hT.out HB6.out)).mono ?_
                      rintro e w7 ⟨rfl, hB7⟩
                      have HB7 := Lib.hid (HB6.out.trans (hB7.mono HB6.out.size))
                      have HT7 := Lib.hid (tb_below HT6.out hB7)
                      obtain ⟨k70, k71, k72⟩ := tb_cells HT7.out
                      clear hB7 k60 k61 k62
                      go_wp2_with fail
                      refine (HO3.out _ (prw.env_below hE.out HB7.out) (dnw.tabs_below hT.out HB7.out)).mono ?_
                      rintro e w8 ⟨rfl, hB8⟩
                      have HB8 := Lib.hid (HB7.out.trans (hB8.mono HB7.out.size))
                      have HT8 := Lib.hid (tb_below HT7.out hB8)
                      obtain ⟨k80, k81, k82⟩ := tb_cells HT8.out
                      clear hB8 k70 k71 k72
                      go_wp2_with fail
                      refine (HO4.out _ (prw.env_below hE.out HB8.out) (dnw.tabs_below hT.out HB8.out)).mono ?_
                      rintro e w9 ⟨rfl, hB9⟩
                      have HB9 := Lib.hid (HB8.out.trans (hB9.mono HB8.out.size))
                      have HT9 := Lib.hid (tb_below HT8.out hB9)
                      obtain ⟨k90, k91, k92⟩ := tb_cells HT9.out
                      clear hB9 k80 k81 k82
                      go_wp2_with fail
                      go_ret
                      exact ⟨rfl, HB9.out⟩
                    · obtain rfl := ZZ rfl rfl
                      clear ZZ
                      go_enter Tryz.func7, Tryz.ntmps7
                      go_wp2_with fail
                      refine (HAW.out).mono ?_
                      rintro e w1 ⟨rfl, hB1⟩
                      have HB1 := Lib.hid (HB0.out.trans (hB1.mono hw0))
                      have HT1 := Lib.hid (tb_below HTB0.out hB1)
                      obtain ⟨k10, k11, k12⟩ := tb_cells HT1.out
                      clear hB1 hW0
                      go_wp2_with fail
                      refine (HQ1.out _ (prw.env_below hE.out HB1.out) (dnw.tabs_below hT.out HB1.out)).mono ?_
                      rintro e w2 ⟨rfl, hB2⟩
                      have HB2 := Lib.hid (HB1.out.trans (hB2.mono HB1.out.size))
                      have HT2 := Lib.hid (tb_below HT1.out hB2)
                      obtain ⟨k20, k21, k22⟩ := tb_cells HT2.out
                      clear hB2 k10 k11 k12
                      go_wp2_with fail
                      refine (HQ2.out _ (prw.env_below hE.out HB2.out) (dnw.tabs_below hT.out HB2.out)).mono ?_
                      rintro e w3 ⟨rfl, hB3⟩
                      have HB3 := Lib.hid (HB2.out.trans (hB3.mono HB2.out.size))
                      have HT3 := Lib.hid (tb_below HT2.out hB3)
                      obtain ⟨k30, k31, k32⟩ := tb_cells HT3.out
                      clear hB3 k20 k21 k22
                      go_wp2_with fail
                      refine (HQ3.out _ (prw.env_below hE.out HB3.out) (dnw.tabs_below hT.out HB3.out)).mono ?_
                      rintro e w4 ⟨rfl, hB4⟩
                      have HB4 := Lib.hid (HB3.out.trans (hB4.mono HB3.out.size))
                      have HT4 := Lib.hid (tb_below HT3.out hB4)
                      obtain ⟨k40, k41, k42⟩ := tb_cells HT4.out
                      clear hB4 k30 k31 k32
                      go_wp2_with fail
                      refine (HQ4.out _ (prw.env_below hE.out HB4.out) (dnw.tabs_below hT.out HB4.out)).mono ?_
                      rintro e w5 ⟨rfl, hB5⟩
                      have HB5 := Lib.hid (HB4.out.trans (hB5.mono HB4.out.size))
                      have HT5 := Lib.hid (tb_below HT4.out hB5)
                      obtain ⟨k50, k51, k52⟩ := tb_cells HT5.out
                      clear hB5 k40 k41 k42
                      go_wp2_with fail
                      refine (HO1.out _ (prw.env_below hE.out HB5.out) (dnw.tabs_below hT.out HB5.out)).mono ?_
                      rintro e w6 ⟨rfl, hB6⟩
                      have HB6 := Lib.hid (HB5.out.trans (hB6.mono HB5.out.size))
                      have HT6 := Lib.hid (tb_below HT5.out hB6)
                      obtain ⟨k60, k61, k62⟩ := tb_cells HT6.out
                      clear hB6 k50 k51 k52
                      go_wp2_with fail
                      refine (HO2.out _ (prw.env_below hE.out HB6.out) (dnw.tabs_below hT.out HB6.out)).mono ?_
                      rintro e w7 ⟨rfl, hB7⟩
                      have HB7 := Lib.hid (HB6.out.trans (hB7.mono HB6.out.size))
                      have HT7 := Lib.hid (tb_below HT6.out hB7)
                      obtain ⟨k70, k71, k72⟩ := tb_cells HT7.out
                      clear hB7 k60 k61 k62
                      go_wp2_with fail
                      refine (HO3.out _ (prw.env_below hE.out HB7.out) (dnw.tabs_below hT.out HB7.out)).mono ?_
                      rintro e w8 ⟨rfl, hB8⟩
                      have HB8 := Lib.hid (HB7.out.trans (hB8.mono HB7.out.size))
                      have HT8 := Lib.hid (tb_below HT7.out hB8)
                      obtain ⟨k80, k81, k82⟩ := tb_cells HT8.out
                      clear hB8 k70 k71 k72
                      go_wp2_with fail
                      refine (HO4.out _ (prw.env_below hE.out HB8.out) (dnw.tabs_below hT.out HB8.out)).mono ?_
                      rintro e w9 ⟨rfl, hB9⟩
                      have HB9 := Lib.hid (HB8.out.trans (hB9.mono HB8.out.size))
                      have HT9 := Lib.hid (tb_below HT8.out hB9)
                      obtain ⟨k90, k91, k92⟩ := tb_cells HT9.out
                      clear hB9 k80 k81 k82
                      go_wp2_with fail
                      go_ret
                      exact ⟨rfl, HB9.out⟩
              · have hOab : ordL syn a.data.toList b.data.toList = (0, 20) := ordL_no hno
                have hObc : ordL syn b.data.toList c.data.toList = (0, 20) := ordL_no hno
                have hOac : ordL syn a.data.toList c.data.toList = (0, 20) := ordL_no hno
                have hOba : ordL syn b.data.toList a.data.toList = (0, 20) := ordL_no hno
                have HO1 : Hid (∀ w, prw.Env w → dnw.Tabs w → Calls Tryz.prog 12 #[.agg #[.string nm, .int .i64 syn, .bool sg], .string a, .string b] w fun e w' => e = .returned (.tuple #[.int .i64 0, .int .i64 20]) ∧ Below w.heap.size w w') := by
                  intro w h1 h2
                  have := HO.out a b ha hb w h1 h2
                  rw [hOab] at this
                  exact this
                have HO2 : Hid (∀ w, prw.Env w → dnw.Tabs w → Calls Tryz.prog 12 #[.agg #[.string nm, .int .i64 syn, .bool sg], .string b, .string c] w fun e w' => e = .returned (.tuple #[.int .i64 0, .int .i64 20]) ∧ Below w.heap.size w w') := by
                  intro w h1 h2
                  have := HO.out b c hb hc w h1 h2
                  rw [hObc] at this
                  exact this
                have HO3 : Hid (∀ w, prw.Env w → dnw.Tabs w → Calls Tryz.prog 12 #[.agg #[.string nm, .int .i64 syn, .bool sg], .string a, .string c] w fun e w' => e = .returned (.tuple #[.int .i64 0, .int .i64 20]) ∧ Below w.heap.size w w') := by
                  intro w h1 h2
                  have := HO.out a c ha hc w h1 h2
                  rw [hOac] at this
                  exact this
                have HO4 : Hid (∀ w, prw.Env w → dnw.Tabs w → Calls Tryz.prog 12 #[.agg #[.string nm, .int .i64 syn, .bool sg], .string b, .string a] w fun e w' => e = .returned (.tuple #[.int .i64 0, .int .i64 20]) ∧ Below w.heap.size w w') := by
                  intro w h1 h2
                  have := HO.out b a hb ha w h1 h2
                  rw [hOba] at this
                  exact this
                clear hOab hObc hOac hOba zA zB zC hno HQ HO HC HLAW hB0 X
                cases v
                · clear ZZ
                  go_enter Tryz.func7, Tryz.ntmps7
                  go_wp2_with fail
                  refine (HAW.out).mono ?_
                  rintro e w1 ⟨rfl, hB1⟩
                  have HB1 := Lib.hid (HB0.out.trans (hB1.mono hw0))
                  have HT1 := Lib.hid (tb_below HTB0.out hB1)
                  obtain ⟨k10, k11, k12⟩ := tb_cells HT1.out
                  clear hB1 hW0
                  go_wp2_with fail
                  refine (HQ1.out _ (prw.env_below hE.out HB1.out) (dnw.tabs_below hT.out HB1.out)).mono ?_
                  rintro e w2 ⟨rfl, hB2⟩
                  have HB2 := Lib.hid (HB1.out.trans (hB2.mono HB1.out.size))
                  have HT2 := Lib.hid (tb_below HT1.out hB2)
                  obtain ⟨k20, k21, k22⟩ := tb_cells HT2.out
                  clear hB2 k10 k11 k12
                  go_wp2_with fail
                  refine (HQ2.out _ (prw.env_below hE.out HB2.out) (dnw.tabs_below hT.out HB2.out)).mono ?_
                  rintro e w3 ⟨rfl, hB3⟩
                  have HB3 := Lib.hid (HB2.out.trans (hB3.mono HB2.out.size))
                  have HT3 := Lib.hid (tb_below HT2.out hB3)
                  obtain ⟨k30, k31, k32⟩ := tb_cells HT3.out
                  clear hB3 k20 k21 k22
                  go_wp2_with fail
                  refine (HQ3.out _ (prw.env_below hE.out HB3.out) (dnw.tabs_below hT.out HB3.out)).mono ?_
                  rintro e w4 ⟨rfl, hB4⟩
                  have HB4 := Lib.hid (HB3.out.trans (hB4.mono HB3.out.size))
                  have HT4 := Lib.hid (tb_below HT3.out hB4)
                  obtain ⟨k40, k41, k42⟩ := tb_cells HT4.out
                  clear hB4 k30 k31 k32
                  go_wp2_with fail
                  refine (HQ4.out _ (prw.env_below hE.out HB4.out) (dnw.tabs_below hT.out HB4.out)).mono ?_
                  rintro e w5 ⟨rfl, hB5⟩
                  have HB5 := Lib.hid (HB4.out.trans (hB5.mono HB4.out.size))
                  have HT5 := Lib.hid (tb_below HT4.out hB5)
                  obtain ⟨k50, k51, k52⟩ := tb_cells HT5.out
                  clear hB5 k40 k41 k42
                  go_wp2_with fail
                  refine (HO1.out _ (prw.env_below hE.out HB5.out) (dnw.tabs_below hT.out HB5.out)).mono ?_
                  rintro e w6 ⟨rfl, hB6⟩
                  have HB6 := Lib.hid (HB5.out.trans (hB6.mono HB5.out.size))
                  have HT6 := Lib.hid (tb_below HT5.out hB6)
                  obtain ⟨k60, k61, k62⟩ := tb_cells HT6.out
                  clear hB6 k50 k51 k52
                  go_wp2_with fail
                  refine (HO2.out _ (prw.env_below hE.out HB6.out) (dnw.tabs_below hT.out HB6.out)).mono ?_
                  rintro e w7 ⟨rfl, hB7⟩
                  have HB7 := Lib.hid (HB6.out.trans (hB7.mono HB6.out.size))
                  have HT7 := Lib.hid (tb_below HT6.out hB7)
                  obtain ⟨k70, k71, k72⟩ := tb_cells HT7.out
                  clear hB7 k60 k61 k62
                  go_wp2_with fail
                  refine (HO3.out _ (prw.env_below hE.out HB7.out) (dnw.tabs_below hT.out HB7.out)).mono ?_
                  rintro e w8 ⟨rfl, hB8⟩
                  have HB8 := Lib.hid (HB7.out.trans (hB8.mono HB7.out.size))
                  have HT8 := Lib.hid (tb_below HT7.out hB8)
                  obtain ⟨k80, k81, k82⟩ := tb_cells HT8.out
                  clear hB8 k70 k71 k72
                  go_wp2_with fail
                  refine (HO4.out _ (prw.env_below hE.out HB8.out) (dnw.tabs_below hT.out HB8.out)).mono ?_
                  rintro e w9 ⟨rfl, hB9⟩
                  have HB9 := Lib.hid (HB8.out.trans (hB9.mono HB8.out.size))
                  have HT9 := Lib.hid (tb_below HT8.out hB9)
                  obtain ⟨k90, k91, k92⟩ := tb_cells HT9.out
                  clear hB9 k80 k81 k82
                  go_wp2_with fail
                  go_ret
                  exact ⟨rfl, HB9.out⟩
                · cases y
                  · clear ZZ
                    go_enter Tryz.func7, Tryz.ntmps7
                    go_wp2_with fail
                    refine (HAW.out).mono ?_
                    rintro e w1 ⟨rfl, hB1⟩
                    have HB1 := Lib.hid (HB0.out.trans (hB1.mono hw0))
                    have HT1 := Lib.hid (tb_below HTB0.out hB1)
                    obtain ⟨k10, k11, k12⟩ := tb_cells HT1.out
                    clear hB1 hW0
                    go_wp2_with fail
                    refine (HQ1.out _ (prw.env_below hE.out HB1.out) (dnw.tabs_below hT.out HB1.out)).mono ?_
                    rintro e w2 ⟨rfl, hB2⟩
                    have HB2 := Lib.hid (HB1.out.trans (hB2.mono HB1.out.size))
                    have HT2 := Lib.hid (tb_below HT1.out hB2)
                    obtain ⟨k20, k21, k22⟩ := tb_cells HT2.out
                    clear hB2 k10 k11 k12
                    go_wp2_with fail
                    refine (HQ2.out _ (prw.env_below hE.out HB2.out) (dnw.tabs_below hT.out HB2.out)).mono ?_
                    rintro e w3 ⟨rfl, hB3⟩
                    have HB3 := Lib.hid (HB2.out.trans (hB3.mono HB2.out.size))
                    have HT3 := Lib.hid (tb_below HT2.out hB3)
                    obtain ⟨k30, k31, k32⟩ := tb_cells HT3.out
                    clear hB3 k20 k21 k22
                    go_wp2_with fail
                    refine (HQ3.out _ (prw.env_below hE.out HB3.out) (dnw.tabs_below hT.out HB3.out)).mono ?_
                    rintro e w4 ⟨rfl, hB4⟩
                    have HB4 := Lib.hid (HB3.out.trans (hB4.mono HB3.out.size))
                    have HT4 := Lib.hid (tb_below HT3.out hB4)
                    obtain ⟨k40, k41, k42⟩ := tb_cells HT4.out
                    clear hB4 k30 k31 k32
                    go_wp2_with fail
                    refine (HQ4.out _ (prw.env_below hE.out HB4.out) (dnw.tabs_below hT.out HB4.out)).mono ?_
                    rintro e w5 ⟨rfl, hB5⟩
                    have HB5 := Lib.hid (HB4.out.trans (hB5.mono HB4.out.size))
                    have HT5 := Lib.hid (tb_below HT4.out hB5)
                    obtain ⟨k50, k51, k52⟩ := tb_cells HT5.out
                    clear hB5 k40 k41 k42
                    go_wp2_with fail
                    refine (HO1.out _ (prw.env_below hE.out HB5.out) (dnw.tabs_below hT.out HB5.out)).mono ?_
                    rintro e w6 ⟨rfl, hB6⟩
                    have HB6 := Lib.hid (HB5.out.trans (hB6.mono HB5.out.size))
                    have HT6 := Lib.hid (tb_below HT5.out hB6)
                    obtain ⟨k60, k61, k62⟩ := tb_cells HT6.out
                    clear hB6 k50 k51 k52
                    go_wp2_with fail
                    refine (HO2.out _ (prw.env_below hE.out HB6.out) (dnw.tabs_below hT.out HB6.out)).mono ?_
                    rintro e w7 ⟨rfl, hB7⟩
                    have HB7 := Lib.hid (HB6.out.trans (hB7.mono HB6.out.size))
                    have HT7 := Lib.hid (tb_below HT6.out hB7)
                    obtain ⟨k70, k71, k72⟩ := tb_cells HT7.out
                    clear hB7 k60 k61 k62
                    go_wp2_with fail
                    refine (HO3.out _ (prw.env_below hE.out HB7.out) (dnw.tabs_below hT.out HB7.out)).mono ?_
                    rintro e w8 ⟨rfl, hB8⟩
                    have HB8 := Lib.hid (HB7.out.trans (hB8.mono HB7.out.size))
                    have HT8 := Lib.hid (tb_below HT7.out hB8)
                    obtain ⟨k80, k81, k82⟩ := tb_cells HT8.out
                    clear hB8 k70 k71 k72
                    go_wp2_with fail
                    refine (HO4.out _ (prw.env_below hE.out HB8.out) (dnw.tabs_below hT.out HB8.out)).mono ?_
                    rintro e w9 ⟨rfl, hB9⟩
                    have HB9 := Lib.hid (HB8.out.trans (hB9.mono HB8.out.size))
                    have HT9 := Lib.hid (tb_below HT8.out hB9)
                    obtain ⟨k90, k91, k92⟩ := tb_cells HT9.out
                    clear hB9 k80 k81 k82
                    go_wp2_with fail
                    go_ret
                    exact ⟨rfl, HB9.out⟩
                  · obtain rfl := ZZ rfl rfl
                    clear ZZ
                    go_enter Tryz.func7, Tryz.ntmps7
                    go_wp2_with fail
                    refine (HAW.out).mono ?_
                    rintro e w1 ⟨rfl, hB1⟩
                    have HB1 := Lib.hid (HB0.out.trans (hB1.mono hw0))
                    have HT1 := Lib.hid (tb_below HTB0.out hB1)
                    obtain ⟨k10, k11, k12⟩ := tb_cells HT1.out
                    clear hB1 hW0
                    go_wp2_with fail
                    refine (HQ1.out _ (prw.env_below hE.out HB1.out) (dnw.tabs_below hT.out HB1.out)).mono ?_
                    rintro e w2 ⟨rfl, hB2⟩
                    have HB2 := Lib.hid (HB1.out.trans (hB2.mono HB1.out.size))
                    have HT2 := Lib.hid (tb_below HT1.out hB2)
                    obtain ⟨k20, k21, k22⟩ := tb_cells HT2.out
                    clear hB2 k10 k11 k12
                    go_wp2_with fail
                    refine (HQ2.out _ (prw.env_below hE.out HB2.out) (dnw.tabs_below hT.out HB2.out)).mono ?_
                    rintro e w3 ⟨rfl, hB3⟩
                    have HB3 := Lib.hid (HB2.out.trans (hB3.mono HB2.out.size))
                    have HT3 := Lib.hid (tb_below HT2.out hB3)
                    obtain ⟨k30, k31, k32⟩ := tb_cells HT3.out
                    clear hB3 k20 k21 k22
                    go_wp2_with fail
                    refine (HQ3.out _ (prw.env_below hE.out HB3.out) (dnw.tabs_below hT.out HB3.out)).mono ?_
                    rintro e w4 ⟨rfl, hB4⟩
                    have HB4 := Lib.hid (HB3.out.trans (hB4.mono HB3.out.size))
                    have HT4 := Lib.hid (tb_below HT3.out hB4)
                    obtain ⟨k40, k41, k42⟩ := tb_cells HT4.out
                    clear hB4 k30 k31 k32
                    go_wp2_with fail
                    refine (HQ4.out _ (prw.env_below hE.out HB4.out) (dnw.tabs_below hT.out HB4.out)).mono ?_
                    rintro e w5 ⟨rfl, hB5⟩
                    have HB5 := Lib.hid (HB4.out.trans (hB5.mono HB4.out.size))
                    have HT5 := Lib.hid (tb_below HT4.out hB5)
                    obtain ⟨k50, k51, k52⟩ := tb_cells HT5.out
                    clear hB5 k40 k41 k42
                    go_wp2_with fail
                    refine (HO1.out _ (prw.env_below hE.out HB5.out) (dnw.tabs_below hT.out HB5.out)).mono ?_
                    rintro e w6 ⟨rfl, hB6⟩
                    have HB6 := Lib.hid (HB5.out.trans (hB6.mono HB5.out.size))
                    have HT6 := Lib.hid (tb_below HT5.out hB6)
                    obtain ⟨k60, k61, k62⟩ := tb_cells HT6.out
                    clear hB6 k50 k51 k52
                    go_wp2_with fail
                    refine (HO2.out _ (prw.env_below hE.out HB6.out) (dnw.tabs_below hT.out HB6.out)).mono ?_
                    rintro e w7 ⟨rfl, hB7⟩
                    have HB7 := Lib.hid (HB6.out.trans (hB7.mono HB6.out.size))
                    have HT7 := Lib.hid (tb_below HT6.out hB7)
                    obtain ⟨k70, k71, k72⟩ := tb_cells HT7.out
                    clear hB7 k60 k61 k62
                    go_wp2_with fail
                    refine (HO3.out _ (prw.env_below hE.out HB7.out) (dnw.tabs_below hT.out HB7.out)).mono ?_
                    rintro e w8 ⟨rfl, hB8⟩
                    have HB8 := Lib.hid (HB7.out.trans (hB8.mono HB7.out.size))
                    have HT8 := Lib.hid (tb_below HT7.out hB8)
                    obtain ⟨k80, k81, k82⟩ := tb_cells HT8.out
                    clear hB8 k70 k71 k72
                    go_wp2_with fail
                    refine (HO4.out _ (prw.env_below hE.out HB8.out) (dnw.tabs_below hT.out HB8.out)).mono ?_
                    rintro e w9 ⟨rfl, hB9⟩
                    have HB9 := Lib.hid (HB8.out.trans (hB9.mono HB8.out.size))
                    have HT9 := Lib.hid (tb_below HT8.out hB9)
                    obtain ⟨k90, k91, k92⟩ := tb_cells HT9.out
                    clear hB9 k80 k81 k82
                    go_wp2_with fail
                    go_ret
                    exact ⟨rfl, HB9.out⟩
            · skip
              have p1 : (e1 != 0) = false := by rw [bne_eq_false_iff_eq]; exact l1.2 ⟨hA, hB⟩
              have p2 : (e2 != 0) = true := by rw [bne_iff_ne]; exact fun h => hC (l2.1 h).2
              have pA : (nA != 0) = false := by rw [bne_eq_false_iff_eq]; exact hA
              have pB : (nB != 0) = false := by rw [bne_eq_false_iff_eq]; exact hB
              have pC : (nC != 0) = true := by rw [bne_iff_ne]; exact hC
              clear l1 l2 l3 l4 hA hB hC
              clear HQ HO HC HLAW hB0 hr1 hr2 hr3 hr4 hnA hnB hnC
              go_enter Tryz.func7, Tryz.ntmps7
              go_wp2_with fail
              refine (HAW.out).mono ?_
              rintro e w1 ⟨rfl, hB1⟩
              have HB1 := Lib.hid (HB0.out.trans (hB1.mono hw0))
              have HT1 := Lib.hid (tb_below HTB0.out hB1)
              obtain ⟨k10, k11, k12⟩ := tb_cells HT1.out
              clear hB1 hW0
              go_wp2_with fail
              refine (HQ1.out _ (prw.env_below hE.out HB1.out) (dnw.tabs_below hT.out HB1.out)).mono ?_
              rintro e w2 ⟨rfl, hB2⟩
              have HB2 := Lib.hid (HB1.out.trans (hB2.mono HB1.out.size))
              have HT2 := Lib.hid (tb_below HT1.out hB2)
              obtain ⟨k20, k21, k22⟩ := tb_cells HT2.out
              clear hB2 k10 k11 k12
              go_wp2_with fail
              refine (HQ2.out _ (prw.env_below hE.out HB2.out) (dnw.tabs_below hT.out HB2.out)).mono ?_
              rintro e w3 ⟨rfl, hB3⟩
              have HB3 := Lib.hid (HB2.out.trans (hB3.mono HB2.out.size))
              have HT3 := Lib.hid (tb_below HT2.out hB3)
              obtain ⟨k30, k31, k32⟩ := tb_cells HT3.out
              clear hB3 k20 k21 k22
              go_wp2_with fail
              refine (HQ3.out _ (prw.env_below hE.out HB3.out) (dnw.tabs_below hT.out HB3.out)).mono ?_
              rintro e w4 ⟨rfl, hB4⟩
              have HB4 := Lib.hid (HB3.out.trans (hB4.mono HB3.out.size))
              have HT4 := Lib.hid (tb_below HT3.out hB4)
              obtain ⟨k40, k41, k42⟩ := tb_cells HT4.out
              clear hB4 k30 k31 k32
              go_wp2_with fail
              refine (HQ4.out _ (prw.env_below hE.out HB4.out) (dnw.tabs_below hT.out HB4.out)).mono ?_
              rintro e w5 ⟨rfl, hB5⟩
              have HB5 := Lib.hid (HB4.out.trans (hB5.mono HB4.out.size))
              have HT5 := Lib.hid (tb_below HT4.out hB5)
              obtain ⟨k50, k51, k52⟩ := tb_cells HT5.out
              clear hB5 k40 k41 k42
              go_wp2_with fail
              refine (HC1.out _ (prw.env_below hE.out HB5.out) (dnw.tabs_below hT.out HB5.out)).mono ?_
              rintro e w6 ⟨rfl, hB6⟩
              have HB6 := Lib.hid (HB5.out.trans (hB6.mono HB5.out.size))
              have HT6 := Lib.hid (tb_below HT5.out hB6)
              obtain ⟨k60, k61, k62⟩ := tb_cells HT6.out
              clear hB6 k50 k51 k52
              go_wp2_with fail
              refine (HC2.out _ (prw.env_below hE.out HB6.out) (dnw.tabs_below hT.out HB6.out)).mono ?_
              rintro e w7 ⟨rfl, hB7⟩
              have HB7 := Lib.hid (HB6.out.trans (hB7.mono HB6.out.size))
              have HT7 := Lib.hid (tb_below HT6.out hB7)
              obtain ⟨k70, k71, k72⟩ := tb_cells HT7.out
              clear hB7 k60 k61 k62
              go_wp2_with fail
              refine (HC3.out _ (prw.env_below hE.out HB7.out) (dnw.tabs_below hT.out HB7.out)).mono ?_
              rintro e w8 ⟨rfl, hB8⟩
              have HB8 := Lib.hid (HB7.out.trans (hB8.mono HB7.out.size))
              have HT8 := Lib.hid (tb_below HT7.out hB8)
              obtain ⟨k80, k81, k82⟩ := tb_cells HT8.out
              clear hB8 k70 k71 k72
              go_wp2_with fail
              go_ret
              exact ⟨rfl, HB8.out⟩
          · skip
            have p1 : (e1 != 0) = true := by rw [bne_iff_ne]; exact fun h => hB (l1.1 h).2
            have pA : (nA != 0) = false := by rw [bne_eq_false_iff_eq]; exact hA
            have pB : (nB != 0) = true := by rw [bne_iff_ne]; exact hB
            clear l1 l2 l3 l4 hA hB
            clear HQ HO HC HLAW hB0 hr1 hr2 hr3 hr4 hnA hnB hnC
            go_enter Tryz.func7, Tryz.ntmps7
            go_wp2_with fail
            refine (HAW.out).mono ?_
            rintro e w1 ⟨rfl, hB1⟩
            have HB1 := Lib.hid (HB0.out.trans (hB1.mono hw0))
            have HT1 := Lib.hid (tb_below HTB0.out hB1)
            obtain ⟨k10, k11, k12⟩ := tb_cells HT1.out
            clear hB1 hW0
            go_wp2_with fail
            refine (HQ1.out _ (prw.env_below hE.out HB1.out) (dnw.tabs_below hT.out HB1.out)).mono ?_
            rintro e w2 ⟨rfl, hB2⟩
            have HB2 := Lib.hid (HB1.out.trans (hB2.mono HB1.out.size))
            have HT2 := Lib.hid (tb_below HT1.out hB2)
            obtain ⟨k20, k21, k22⟩ := tb_cells HT2.out
            clear hB2 k10 k11 k12
            go_wp2_with fail
            refine (HQ2.out _ (prw.env_below hE.out HB2.out) (dnw.tabs_below hT.out HB2.out)).mono ?_
            rintro e w3 ⟨rfl, hB3⟩
            have HB3 := Lib.hid (HB2.out.trans (hB3.mono HB2.out.size))
            have HT3 := Lib.hid (tb_below HT2.out hB3)
            obtain ⟨k30, k31, k32⟩ := tb_cells HT3.out
            clear hB3 k20 k21 k22
            go_wp2_with fail
            refine (HQ3.out _ (prw.env_below hE.out HB3.out) (dnw.tabs_below hT.out HB3.out)).mono ?_
            rintro e w4 ⟨rfl, hB4⟩
            have HB4 := Lib.hid (HB3.out.trans (hB4.mono HB3.out.size))
            have HT4 := Lib.hid (tb_below HT3.out hB4)
            obtain ⟨k40, k41, k42⟩ := tb_cells HT4.out
            clear hB4 k30 k31 k32
            go_wp2_with fail
            refine (HQ4.out _ (prw.env_below hE.out HB4.out) (dnw.tabs_below hT.out HB4.out)).mono ?_
            rintro e w5 ⟨rfl, hB5⟩
            have HB5 := Lib.hid (HB4.out.trans (hB5.mono HB4.out.size))
            have HT5 := Lib.hid (tb_below HT4.out hB5)
            obtain ⟨k50, k51, k52⟩ := tb_cells HT5.out
            clear hB5 k40 k41 k42
            go_wp2_with fail
            refine (HC1.out _ (prw.env_below hE.out HB5.out) (dnw.tabs_below hT.out HB5.out)).mono ?_
            rintro e w6 ⟨rfl, hB6⟩
            have HB6 := Lib.hid (HB5.out.trans (hB6.mono HB5.out.size))
            have HT6 := Lib.hid (tb_below HT5.out hB6)
            obtain ⟨k60, k61, k62⟩ := tb_cells HT6.out
            clear hB6 k50 k51 k52
            go_wp2_with fail
            refine (HC2.out _ (prw.env_below hE.out HB6.out) (dnw.tabs_below hT.out HB6.out)).mono ?_
            rintro e w7 ⟨rfl, hB7⟩
            have HB7 := Lib.hid (HB6.out.trans (hB7.mono HB6.out.size))
            have HT7 := Lib.hid (tb_below HT6.out hB7)
            obtain ⟨k70, k71, k72⟩ := tb_cells HT7.out
            clear hB7 k60 k61 k62
            go_wp2_with fail
            go_ret
            exact ⟨rfl, HB7.out⟩
        · skip
          have p1 : (e1 != 0) = true := by rw [bne_iff_ne]; exact fun h => hA (l1.1 h).1
          have pA : (nA != 0) = true := by rw [bne_iff_ne]; exact hA
          clear l1 l2 l3 l4 hA
          clear HQ HO HC HLAW hB0 hr1 hr2 hr3 hr4 hnA hnB hnC
          go_enter Tryz.func7, Tryz.ntmps7
          go_wp2_with fail
          refine (HAW.out).mono ?_
          rintro e w1 ⟨rfl, hB1⟩
          have HB1 := Lib.hid (HB0.out.trans (hB1.mono hw0))
          have HT1 := Lib.hid (tb_below HTB0.out hB1)
          obtain ⟨k10, k11, k12⟩ := tb_cells HT1.out
          clear hB1 hW0
          go_wp2_with fail
          refine (HQ1.out _ (prw.env_below hE.out HB1.out) (dnw.tabs_below hT.out HB1.out)).mono ?_
          rintro e w2 ⟨rfl, hB2⟩
          have HB2 := Lib.hid (HB1.out.trans (hB2.mono HB1.out.size))
          have HT2 := Lib.hid (tb_below HT1.out hB2)
          obtain ⟨k20, k21, k22⟩ := tb_cells HT2.out
          clear hB2 k10 k11 k12
          go_wp2_with fail
          refine (HQ2.out _ (prw.env_below hE.out HB2.out) (dnw.tabs_below hT.out HB2.out)).mono ?_
          rintro e w3 ⟨rfl, hB3⟩
          have HB3 := Lib.hid (HB2.out.trans (hB3.mono HB2.out.size))
          have HT3 := Lib.hid (tb_below HT2.out hB3)
          obtain ⟨k30, k31, k32⟩ := tb_cells HT3.out
          clear hB3 k20 k21 k22
          go_wp2_with fail
          refine (HQ3.out _ (prw.env_below hE.out HB3.out) (dnw.tabs_below hT.out HB3.out)).mono ?_
          rintro e w4 ⟨rfl, hB4⟩
          have HB4 := Lib.hid (HB3.out.trans (hB4.mono HB3.out.size))
          have HT4 := Lib.hid (tb_below HT3.out hB4)
          obtain ⟨k40, k41, k42⟩ := tb_cells HT4.out
          clear hB4 k30 k31 k32
          go_wp2_with fail
          refine (HQ4.out _ (prw.env_below hE.out HB4.out) (dnw.tabs_below hT.out HB4.out)).mono ?_
          rintro e w5 ⟨rfl, hB5⟩
          have HB5 := Lib.hid (HB4.out.trans (hB5.mono HB4.out.size))
          have HT5 := Lib.hid (tb_below HT4.out hB5)
          obtain ⟨k50, k51, k52⟩ := tb_cells HT5.out
          clear hB5 k40 k41 k42
          go_wp2_with fail
          refine (HC1.out _ (prw.env_below hE.out HB5.out) (dnw.tabs_below hT.out HB5.out)).mono ?_
          rintro e w6 ⟨rfl, hB6⟩
          have HB6 := Lib.hid (HB5.out.trans (hB6.mono HB5.out.size))
          have HT6 := Lib.hid (tb_below HT5.out hB6)
          obtain ⟨k60, k61, k62⟩ := tb_cells HT6.out
          clear hB6 k50 k51 k52
          go_wp2_with fail
          go_ret
          exact ⟨rfl, HB6.out⟩
end atw
end Go.Proofs.YtckpiaigoeicfaaGreatDoor
/-! AttrOrder -/
namespace Go.Proofs.YtckpiaigoeicfaaGreatDoor.attrOrder
open Go.ChangeShapes Go.WideShapes Go.ChangeAt Go.RowKit
open Go.ChangeMaps (open_string shut_string)
set_option linter.unusedVariables false

theorem own : ownKnob Tryz.prog.godebug = none := by kernel_rfl
theorem laidOut : laidOutB Tryz.prog = true := by kernel_rfl
theorem u8x : U8Extra Tryz.prog Tryz.lays260_ren where
  n3 := by kernel_rfl
  n4 := by kernel_rfl
  y3 := by kernel_rfl
  y4 := by kernel_rfl
  c5 := by kernel_rfl
  c119 := by kernel_rfl
  c138 := by kernel_rfl
theorem accEq : (Rows.laid_unicode_utf8_acceptRanges : DataW Unit) = Lib.acceptData := by kernel_rfl
theorem tyEq : (Rows.laid_rollbook_attr_types : DataW Unit) = atw.tyData := by kernel_rfl
/-- WHAT THE ROW's LIST GIVES, and the shape: the library's tables. -/
theorem tabs {W : World} (h : laidMetH Tryz.prog Rows.attrOrderRow.laid W) : Hid (dnw.Tabs W) :=
  utf8Tabs_of_reads Tryz.lays260 u8x (by have := Lib.laidMet.reads h (n := "unicode/utf8.first") (d := Rows.laid_unicode_utf8_first) (by simp [Rows.attrOrderRow]); rw [show Rows.laid_unicode_utf8_first = Lib.firstData from Pinned.utf8First_eq] at this; exact this) (by have := Lib.laidMet.reads h (n := "unicode/utf8.acceptRanges") (d := Rows.laid_unicode_utf8_acceptRanges) (by simp [Rows.attrOrderRow]); rw [accEq] at this; exact this)
theorem env {W : World} (hsh : W.ShapedOpen Tryz.prog) : Hid (prw.Env W) := Tryz.laysM146.s1_3 W hsh
theorem typ {W : World} (h : laidMetH Tryz.prog Rows.attrOrderRow.laid W) : Hid (atw.TyEnv W) :=
  atw.tyEnv_of_reads (by have := Lib.laidMet.reads h (n := "rollbook/attr.types") (d := Rows.laid_rollbook_attr_types) (by simp [Rows.attrOrderRow]); rw [tyEq] at this; exact this)

set_option maxRecDepth 100000 in
/-- WHAT THE WALK GIVES, FOR EVERY ARGUMENT. -/
theorem contract (H : Type) (enc : TypeId × Value → H) (W : World) (base : Nat) (args : Array Value) (ds gs : List (DataW H)) (before : List MemPlace)
    (hval : ∀ (j : Nat) t v, Tryz.f7.params[j]? = some t → args[j]? = some v → Value.okWide Tryz.prog W .any base t v)
    (hW : DataW.Whole enc Tryz.prog Tryz.f7.params.toList Rows.attrOrderSpec.vars false W args.toList ds gs before)
    (hsz0 : (DataW.weightsEach Tryz.prog (Tryz.f7.params.toList ++ Rows.attrOrderSpec.plain.varTypes Tryz.prog) (ds ++ gs)).all (· ≤ reachBytes) = true)
    (hL : laidMetH Tryz.prog Rows.attrOrderRow.laid W) (hsh : W.ShapedOpen Tryz.prog) :
    Calls Tryz.prog 7 args W fun e W' => ∃ v, e = .returned v ∧ Rows.attrOrderSpec.post enc Tryz.prog Tryz.f7 false true false false W args v W' := by
  have hW' := hW
  obtain ⟨p, q, hA0, hV, rfl, hfz, hnd⟩ := hW
  have hA : DataW.TrodAll enc Tryz.prog W 0 (fun _ => true) true Tryz.f7.params.toList args.toList ds p := hA0
  have hsz := hsz0
  rw [Tryz.params7] at hA hval hsz
  obtain ⟨v0, vs0, d0, ds0, p0, q0, hargs, rfl, rfl, h0, r0⟩ := trodAll_cons hA
  obtain ⟨v1, vs1, d1, ds1, p1, q1, rfl, rfl, rfl, h1, r1⟩ := trodAll_cons r0
  obtain ⟨v2, vs2, d2, ds2, p2, q2, rfl, rfl, rfl, h2, r2⟩ := trodAll_cons r1
  obtain ⟨v3, vs3, d3, ds3, p3, q3, rfl, rfl, rfl, h3, r3⟩ := trodAll_cons r2
  obtain ⟨rfl, rfl, rfl⟩ := trodAll_nil r3
  obtain rfl : args = #[v0, v1, v2, v3] := by cases args; simp_all
  obtain ⟨rfl, rfl⟩ := trodVars_none hV
  have k0 := h0
  have lt0 : ∀ x ∈ p0, x.block < W.heap.size := by obtain ⟨m, hm⟩ := k0; exact DataW.trod_lt m _ _ _ hm
  have k1 := h1
  have lt1 : ∀ x ∈ p1, x.block < W.heap.size := by obtain ⟨m, hm⟩ := k1; exact DataW.trod_lt m _ _ _ hm
  have k2 := h2
  have lt2 : ∀ x ∈ p2, x.block < W.heap.size := by obtain ⟨m, hm⟩ := k2; exact DataW.trod_lt m _ _ _ hm
  have k3 := h3
  have lt3 : ∀ x ∈ p3, x.block < W.heap.size := by obtain ⟨m, hm⟩ := k3; exact DataW.trod_lt m _ _ _ hm
  obtain ⟨x0, y0, z0, u0, u0', u0'', n0, rfl, rfl, rfl, s0, t0, r0'⟩ := Joins.open_agg3 Tryz.underlying23 (by kernel_rfl) (by kernel_rfl) (hval 0 23 v0 rfl rfl) h0
  obtain ⟨nm0, e0s, _⟩ := DataW.trod_string Tryz.underlying9 s0
  obtain ⟨sy0, e0t, _⟩ := DataW.trod_int Tryz.underlying3 t0
  obtain ⟨sg0, e0r, _⟩ := DataW.trod_bool Tryz.underlying4 r0'
  simp only [List.cons.injEq, and_true] at e0s e0t e0r
  subst e0s e0t e0r
  obtain ⟨a1, rfl, rfl, rfl, ws1⟩ := open_string Tryz.underlying9 (hval 1 9 v1 rfl rfl) h1
  have ha1 : a1.size ≤ 140737488351232 := by
    have := sized_string hsz (j := 1) (t := 9) rfl rfl
    simpa [reachBytes] using this
  obtain ⟨a2, rfl, rfl, rfl, ws2⟩ := open_string Tryz.underlying9 (hval 2 9 v2 rfl rfl) h2
  have ha2 : a2.size ≤ 140737488351232 := by
    have := sized_string hsz (j := 2) (t := 9) rfl rfl
    simpa [reachBytes] using this
  obtain ⟨a3, rfl, rfl, rfl, ws3⟩ := open_string Tryz.underlying9 (hval 3 9 v3 rfl rfl) h3
  have ha3 : a3.size ≤ 140737488351232 := by
    have := sized_string hsz (j := 3) (t := 9) rfl rfl
    simpa [reachBytes] using this
  clear hA0
  simp only [List.append_nil] at hW'
  have walk : Calls Tryz.prog 7 #[.agg #[.string nm0, .int .i64 sy0, .bool sg0], .string a1, .string a2, .string a3] W fun e w' => e = .returned (.bool true) ∧ Below W.heap.size W w' := by
    exact atw.orders_law nm0 sy0 sg0 a1 a2 a3 W ha1 ha2 ha3 (env hsh) (tabs hL) (typ hL)
  refine walk.mono fun e W' ⟨he, hb⟩ => ?_
  subst he
  exact ⟨_, rfl, _, _, _, [], _, [], hW', trodAll_cons_mk (shut_bool Tryz.underlying4 _) trodAll_mk0, (trodAll_cons_mk (Below.trod laidOut (by kernel_rfl) (of_decide_eq_true (by kernel_rfl)) k0 hb lt0) (trodAll_cons_mk (Below.trod laidOut (by kernel_rfl) (of_decide_eq_true (by kernel_rfl)) k1 hb lt1) (trodAll_cons_mk (Below.trod laidOut (by kernel_rfl) (of_decide_eq_true (by kernel_rfl)) k2 hb lt2) (trodAll_cons_mk (Below.trod laidOut (by kernel_rfl) (of_decide_eq_true (by kernel_rfl)) k3 hb lt3) trodAll_mk0)))), rfl, hb.frame _, fun h => by cases h⟩

theorem laid_met (os : Os) : laidMet Tryz.prog Rows.attrOrderRow.laid ((World.laidAll Tryz.prog os Rows.attrOrderRow.laid).forCall (fun _ _ => 0) ⟨#[], #[.agg #[.string ByteArray.empty, .int .i64 0, .bool false], .string ByteArray.empty, .string ByteArray.empty, .string ByteArray.empty], []⟩).memory :=
  laidMet_laidAll _ (by kernel_rfl) (by kernel_rfl)
theorem reads (os : Os) {H : Type} (enc : TypeId × Value → H) : ∃ places, DataW.whole enc Tryz.prog ((World.laidAll Tryz.prog os Rows.attrOrderRow.laid).forCall (fun _ _ => 0) ⟨#[], #[.agg #[.string ByteArray.empty, .int .i64 0, .bool false], .string ByteArray.empty, .string ByteArray.empty, .string ByteArray.empty], []⟩).memory Tryz.f7.params.toList Rows.attrOrderSpec.vars false (#[.agg #[.string ByteArray.empty, .int .i64 0, .bool false], .string ByteArray.empty, .string ByteArray.empty, .string ByteArray.empty] : Array Value).toList 8 = some ([.agg [.lit (.string []), .lit (.int .i64 0), .lit (.bool false)], .lit (.string []), .lit (.string []), .lit (.string [])], [], places) :=
  ⟨[], by kernel_rfl⟩

set_option maxRecDepth 100000 in
theorem lifted (os : Os) (started : os.Started) (H : Type) (enc : TypeId × Value → H) (F : Stop.Interp) :
    ReturnsInHanded {} Tryz.checked os 7 .any ((OpenSpec.ofChange Rows.attrOrderSpec).preRow enc Tryz.prog Tryz.f7 Rows.attrOrderRow.domain false Rows.attrOrderRow.laid) (((OpenSpec.ofChange Rows.attrOrderSpec).at F).post enc Tryz.prog Tryz.f7 false true false false) := by
  obtain ⟨places, hx⟩ := reads os enc
  refine returnsInHanded_of_row (C := Tryz.checked) (s := (OpenSpec.ofChange Rows.attrOrderSpec)) own started (by kernel_rfl) Tryz.func7
    (witness_row_at (enc := enc) (C := Tryz.checked) false (World.laidAll Tryz.prog os Rows.attrOrderRow.laid) #[.agg #[.string ByteArray.empty, .int .i64 0, .bool false], .string ByteArray.empty, .string ByteArray.empty, .string ByteArray.empty] (World.laidAll_os _ _ _) (by kernel_rfl) (by kernel_rfl) (by kernel_rfl)
      (OpenSpec.preRow_of_cond 8 hx (by kernel_rfl) (fun k hk => by cases hk) (by kernel_rfl) (laid_met os))) ?_
  intro W base args ds gs before hval hW _ _ hsz hL hsh _
  exact contract H enc W base args ds gs before hval hW hsz hL hsh

theorem said : Rows.AttrOrderSaid :=
  OpenClaim.holds_of_cond 7 Tryz.f7 rfl rfl rfl rfl rfl rfl rfl ⟨rfl, rfl, rfl, rfl, rfl⟩ rfl rfl rfl rfl rfl (by kernel_rfl) Tryz.func7 (by kernel_rfl)
    (of_decide_eq_true (by kernel_rfl)) (by unfold Func.isWrapper; first | (rw [if_pos (by decide +kernel)]; kernel_rfl) | (rw [if_neg (by decide +kernel)]; exact ⟨rfl, rfl⟩))
    (fun os started H enc _ F => by rw [OpenClaim.pre_eq_preRow]; exact lifted os started H enc F)

theorem plain (f : FuncId) (fn : Func) (hf : Tryz.pinned.checked.prog.funcNamed "rollbook/rollbooklaw16.AttrOrder" = some f) (hfn : Tryz.pinned.checked.prog.funcs[f]? = some fn) :
    true = Tryz.pinned.checked.prog.looks [] ∧ ∀ (j : Nat) t, fn.params[j]? = some t → Tryz.pinned.checked.prog.wantsStandIn t = false := by
  obtain rfl : f = 7 := Option.some.inj ((show Tryz.prog.funcNamed "rollbook/rollbooklaw16.AttrOrder" = some 7 by kernel_rfl).symm.trans hf) |>.symm
  obtain rfl : fn = Tryz.f7 := (Option.some.inj (Tryz.func7.symm.trans hfn)).symm
  refine ⟨by kernel_rfl, fun j t ht => ?_⟩
  rw [Tryz.params7] at ht
  have hm : t ∈ [23, 9, 9, 9] := by simpa using Array.mem_of_getElem? ht
  have hall : ([23, 9, 9, 9].all fun u => !Tryz.prog.wantsStandIn u) = true := by kernel_rfl
  exact (show Tryz.prog.wantsStandIn t = false by simpa using List.all_eq_true.1 hall t hm)

theorem proved : Rows.AttrOrderCardSaid :=
  Claim7.holds_tied_plain_at .later [] _ _ _ _ said (fun _ h => by cases h) (by kernel_rfl) (fun _ h => by cases h) attrOrder_row_tie rfl ⟨rfl, rfl⟩ (by kernel_rfl) rfl plain (by kernel_rfl)
#print axioms proved
end Go.Proofs.YtckpiaigoeicfaaGreatDoor.attrOrder
