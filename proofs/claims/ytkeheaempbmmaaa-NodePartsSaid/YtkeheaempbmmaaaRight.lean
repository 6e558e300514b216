/- The walks of Right, both. -/
import Derived.Test.YtkeheaempbmmaaaCount
import Derived.Test.YtkeheaempbmmaaaLessW
import Derived.Test.YtkeheaempbmmaaaCmpB
import Derived.Laws.Cover1
namespace Go.Proofs.Ytkeheaempbmmaaa
open Go.RowKit
namespace nod
open ord
/-- may they stand side by side: each may be, each key above the one ahead -/
def okAt (leaf : Bool) (l : List Cel) (i : Nat) (h : i < l.length) : Prop :=
  ok leaf l[i] = true ∧ (∀ j, j + 1 = i → ∀ (hj : j < l.length), Lib.compareBytes l[j].key.data.toList l[i].key.data.toList = -1)
/-- may they be a node's -/
def Fit (leaf : Bool) (l : List Cel) : Prop :=
  (leaf = false → ∃ h : 0 < l.length, l[0].key.toList = []) ∧ ∀ i (h : i < l.length), okAt leaf l i h
theorem below_drewN {B : Nat} {a b : World} (h : Below B a b) (n : Nat) : Below B a (b.drewN n) := ⟨h.os, h.tape, h.output, h.size, h.block⟩
/-- an answer that says whether P holds -/
def BoolAns (P : Prop) (e : Ending) : Prop := ∃ b : Bool, e = .returned (.bool b) ∧ (b = true ↔ P)
theorem ans_no {P Q : Prop} (h : P = Q) (hn : ¬ Q) : BoolAns P (.returned (.bool false)) := ⟨false, rfl, by rw [h]; exact ⟨fun h => absurd h (by decide), fun h => absurd h hn⟩⟩
theorem ans_yes {P Q : Prop} (h : P = Q) (hn : Q) : BoolAns P (.returned (.bool true)) := ⟨true, rfl, by rw [h]; exact ⟨fun _ => hn, fun _ => rfl⟩⟩
theorem fit_ne {leaf : Bool} {l : List Cel} {j : Nat} (hj : j + 1 < l.length) (h : ¬ Lib.compareBytes l[j].key.data.toList l[j + 1].key.data.toList = -1) : ¬ Fit leaf l := fun hf => h ((hf.2 (j + 1) hj).2 j rfl (by omega))
theorem fit_not {leaf : Bool} {l : List Cel} {i : Nat} (hi : i < l.length) (h : ¬ ok leaf l[i] = true) : ¬ Fit leaf l := fun hf => h (hf.2 i hi).1
set_option maxHeartbeats 4000000 in
theorem right_true (ao : Option Addr) (cap : Nat) (l : List Cel) (w : World) (hl : Hid (Cels w ao l)) (hn : l.length ≤ 1000000) :
    Calls Try.prog 13 #[.bool true, .slice ao l.length cap] w fun e w' => BoolAns (Fit true l) e ∧ Below w.heap.size w w' := by
  obtain ⟨Fp, hF⟩ : ∃ Fp : Prop, Hid (Fp = Fit true l) := ⟨_, rfl⟩
  rw [← hF.out]
  go_enter Try.func13, Try.ntmps13
  go_wp2_with fail
  go_loopw [24] (fun iv wr => ∃ (i : Nat), i ≤ l.length ∧ iv = .int .i64 i ∧ Hid (∀ j (h : j < l.length), j < i → okAt true l j h) ∧ Below w.heap.size w wr) (fun iv _ => l.length - (intOf iv).toNat)
  case atStart => exact ⟨0, Nat.zero_le _, rfl, fun j _ h => by omega, Below.refl _ _⟩
  case round =>
    obtain ⟨i, hi, rfl, hA, hB⟩ := hrel
    have hsz := hB.size
    by_cases hil : i < l.length
    · have hil' : (i : Int) < (l.length : Int) := by omega
      obtain ⟨c, hc⟩ : ∃ c : Cel, Hid (c = l[i]'hil) := ⟨l[i]'hil, rfl⟩
      obtain ⟨b, o, hao, f0, f1, f2, f3, f4⟩ := (cels_below hl.out hB) i hil
      rw [← hc.out] at f0 f1 f2 f3 f4
      have R := Lib.hid (fun w => rightLeaf_any c w)
      unfold Cel.v at R
      have hB1 : Below w.heap.size w (wr.alloc (.cells #[.string c.key, .string c.val, .int .i64 c.over, .int .i64 c.size, .int .i64 c.child] 35)) := hB.alloc hsz _
      have RB := Lib.hid (fun w => rightBranch_any c w)
      unfold Cel.v at RB
      have H1 := Lib.hid hB1
      clear hB1
      have hblk : wr.heap.size < (wr.alloc (.cells #[.string c.key, .string c.val, .int .i64 c.over, .int .i64 c.size, .int .i64 c.child] 35)).heap.size := by rw [size1]; omega
      have d0 : (wr.alloc (.cells #[.string c.key, .string c.val, .int .i64 c.over, .int .i64 c.size, .int .i64 c.child] 35)).cell? ⟨wr.heap.size, 0, none⟩ = some (.string c.key) := by rw [World.cell?_alloc_new]; rfl
      have d1 : (wr.alloc (.cells #[.string c.key, .string c.val, .int .i64 c.over, .int .i64 c.size, .int .i64 c.child] 35)).cell? ⟨wr.heap.size, 1, none⟩ = some (.string c.val) := by rw [World.cell?_alloc_new]; rfl
      have d2 : (wr.alloc (.cells #[.string c.key, .string c.val, .int .i64 c.over, .int .i64 c.size, .int .i64 c.child] 35)).cell? ⟨wr.heap.size, 2, none⟩ = some (.int .i64 c.over) := by rw [World.cell?_alloc_new]; rfl
      have d3 : (wr.alloc (.cells #[.string c.key, .string c.val, .int .i64 c.over, .int .i64 c.size, .int .i64 c.child] 35)).cell? ⟨wr.heap.size, 3, none⟩ = some (.int .i64 c.size) := by rw [World.cell?_alloc_new]; rfl
      have d4 : (wr.alloc (.cells #[.string c.key, .string c.val, .int .i64 c.over, .int .i64 c.size, .int .i64 c.child] 35)).cell? ⟨wr.heap.size, 4, none⟩ = some (.int .i64 c.child) := by rw [World.cell?_alloc_new]; rfl
      subst hao
      go_wp2_with fail
      refine (RB.out _).mono ?_
      rintro e w1 ⟨rfl, hB1⟩
      have e0 := (hB1.cell (p := ⟨wr.heap.size, 0, none⟩) hblk).trans d0
      have e1 := (hB1.cell (p := ⟨wr.heap.size, 1, none⟩) hblk).trans d1
      have e2 := (hB1.cell (p := ⟨wr.heap.size, 2, none⟩) hblk).trans d2
      have e3 := (hB1.cell (p := ⟨wr.heap.size, 3, none⟩) hblk).trans d3
      have e4 := (hB1.cell (p := ⟨wr.heap.size, 4, none⟩) hblk).trans d4
      clear d1 d2 d3 d4
      go_wp2_with fail
      refine (R.out _).mono ?_
      rintro e w2 ⟨rfl, hB2⟩
      have hblk2 := Nat.lt_of_lt_of_le hblk hB1.size
      have g0 := (hB2.cell (p := ⟨wr.heap.size, 0, none⟩) hblk2).trans e0
      have HB : Hid (Below w.heap.size w w2) := (H1.out.trans (hB1.mono (by have := hsz; rw [size1]; omega))).trans (hB2.mono (by have := hB1.size; rw [size1] at this; omega))
      clear e1 e2 e3 e4 e0 d0 hB1 hB2 f1 f2 f3 f4
      by_cases hok : okLeaf c
      · have hok' : decide (okLeaf c) = true := decide_eq_true hok
        have HOK : Hid (ok true (l[i]'hil) = true) := by
          show ok true (l[i]'hil) = true
          rw [← hc.out]
          exact hok'
        rw [hok']
        clear hok hok'
        by_cases hi0 : 0 < i
        · have hi0' : 0 < (i : Int) := by omega
          obtain ⟨j, rfl⟩ : ∃ j, i = j + 1 := ⟨i - 1, by omega⟩
          have hjl : j < l.length := by omega
          obtain ⟨p, hp⟩ : ∃ p : ByteArray, Hid (p = (l[j]'hjl).key) := ⟨(l[j]'hjl).key, rfl⟩
          have wj : IntKind.i64.wrap (j : Int) = (j : Int) := kt.wrap_i64_nat _ (by omega)
          have j0 : (0 : Int) ≤ (j : Int) := by omega
          have j1 : (j : Int) < (l.length : Int) := by omega
          obtain ⟨b', o', ho', fp', _⟩ := (cels_below hl.out HB.out) j hjl
          injection ho' with ho2
          injection ho2 with ho3 ho4
          subst ho3 ho4
          rw [← hp.out] at fp'
          have hcc : ∀ (hj : j < l.length), Lib.compareBytes (l[j]'hj).key.data.toList (l[j + 1]'hil).key.data.toList = - Lib.compareBytes c.key.data.toList p.data.toList := by
            intro hj
            rw [← cmp_neg, hp.out, hc.out]
          have HCC := Lib.hid hcc
          clear hcc
          rcases ord.ways c.key p with ⟨hw, q1, q2, _⟩ | ⟨hw, q1⟩ | ⟨hw, q1, q2, _⟩
          · have HN : Hid (¬ Fit true l) := fit_ne hil (by rw [HCC.out hjl, hw]; decide)
            clear hw
            go_wp2_with fail
            go_quiet (fail)
            go_wp2_with fail
            go_ret
            exact ⟨ans_no hF.out HN.out, below_drewN HB.out nq⟩
          · have HN : Hid (¬ Fit true l) := fit_ne hil (by rw [HCC.out hjl, hw]; decide)
            clear hw
            rw [q1] at g0
            go_wp2_with fail
            go_quiet (fail)
            go_wp2_with fail
            go_ret
            exact ⟨ans_no hF.out HN.out, below_drewN HB.out nq⟩
          · have HS : Hid (∀ k (h : k < l.length), k < j + 1 + 1 → okAt true l k h) := by
              intro k h hk
              by_cases hkj : k < j + 1
              · exact hA.out k h hkj
              · obtain rfl : k = j + 1 := by omega
                refine ⟨HOK.out, fun j' hj' hj'l => ?_⟩
                obtain rfl : j' = j := by omega
                rw [HCC.out hj'l, hw]
            have hh := Lib.hid hil
            clear hw
            go_wp2_with fail
            go_quiet (fail)
            go_wp2_with fail
            go_roundw
            case rel => exact ⟨j + 1 + 1, hh.out, by go_num, HS, below_drewN HB.out nq⟩
            case measure =>
              have := hh.out
              simp [intOf]; omega
        · obtain rfl : i = 0 := by omega
          have HS : Hid (∀ k (h : k < l.length), k < 0 + 1 → okAt true l k h) := by
            intro k h hk
            obtain rfl : k = 0 := by omega
            exact ⟨HOK.out, fun j' hj' _ => by omega⟩
          have hh := Lib.hid hil
          go_wp2_with fail
          go_quiet (fail)
          go_wp2_with fail
          go_roundw
          case rel => exact ⟨0 + 1, hh.out, by go_num, HS, below_drewN HB.out nq⟩
          case measure =>
            have := hh.out
            simp [intOf]; omega
      · have hok' : decide (okLeaf c) = false := decide_eq_false hok
        have HN : Hid (¬ Fit true l) := fit_not hil (by
          rw [← hc.out]
          show ¬ decide (okLeaf c) = true
          rw [hok']
          decide)
        rw [hok']
        clear hok hok'
        go_wp2_with fail
        go_quiet (fail)
        go_wp2_with fail
        go_ret
        exact ⟨ans_no hF.out HN.out, below_drewN HB.out nq⟩
    · obtain rfl : i = l.length := by omega
      have hil' : ¬ (l.length : Int) < (l.length : Int) := by omega
      have HY : Hid (Fit true l) := ⟨(fun h => by cases h), fun k h => hA.out k h h⟩
      clear hA
      go_wp2_with fail
      go_ret
      exact ⟨ans_yes hF.out HY.out, hB⟩
set_option maxHeartbeats 4000000 in
theorem right_false (ao : Option Addr) (cap : Nat) (l : List Cel) (w : World) (hl : Hid (Cels w ao l)) (hn : l.length ≤ 1000000) :
    Calls Try.prog 13 #[.bool false, .slice ao l.length cap] w fun e w' => BoolAns (Fit false l) e ∧ Below w.heap.size w w' := by
  obtain ⟨Fp, hF⟩ : ∃ Fp : Prop, Hid (Fp = Fit false l) := ⟨_, rfl⟩
  rw [← hF.out]
  by_cases h0 : 0 < l.length
  · have h0' : ((l.length : Int) == 0) = false := by rw [beq_eq_false_iff_ne]; omega
    have h0'' : (0 : Int) < (l.length : Int) := by omega
    obtain ⟨k0, hk0⟩ : ∃ k0 : ByteArray, Hid (k0 = (l[0]'h0).key) := ⟨(l[0]'h0).key, rfl⟩
    obtain ⟨b0, o0, hao0, z0, _⟩ := hl.out 0 h0
    rw [← hk0.out, Nat.zero_mul, Nat.add_zero] at z0
    by_cases hke : k0.toList = []
    · have HK0 : Hid ((l[0]'h0).key.toList = []) := by
        show _ = _
        rw [← hk0.out]; exact hke
      have hke' : k0.toList.isEmpty = true := by rw [hke]; rfl
      go_enter Try.func13, Try.ntmps13
      subst hao0
      go_wp2_with fail
      go_loopw [24] (fun iv wr => ∃ (i : Nat), i ≤ l.length ∧ iv = .int .i64 i ∧ Hid (∀ j (h : j < l.length), j < i → okAt false l j h) ∧ Below w.heap.size w wr) (fun iv _ => l.length - (intOf iv).toNat)
      case atStart => exact ⟨0, Nat.zero_le _, rfl, fun j _ h => by omega, Below.refl _ _⟩
      case round =>
        obtain ⟨i, hi, rfl, hA, hB⟩ := hrel
        have hsz := hB.size
        by_cases hil : i < l.length
        · have hil' : (i : Int) < (l.length : Int) := by omega
          obtain ⟨c, hc⟩ : ∃ c : Cel, Hid (c = l[i]'hil) := ⟨l[i]'hil, rfl⟩
          obtain ⟨b, o, hao, f0, f1, f2, f3, f4⟩ := (cels_below hl.out hB) i hil
          rw [← hc.out] at f0 f1 f2 f3 f4
          have R := Lib.hid (fun w => rightBranch_any c w)
          unfold Cel.v at R
          have hB1 : Below w.heap.size w (wr.alloc (.cells #[.string c.key, .string c.val, .int .i64 c.over, .int .i64 c.size, .int .i64 c.child] 35)) := hB.alloc hsz _
          have H1 := Lib.hid hB1
          clear hB1
          have hblk : wr.heap.size < (wr.alloc (.cells #[.string c.key, .string c.val, .int .i64 c.over, .int .i64 c.size, .int .i64 c.child] 35)).heap.size := by rw [size1]; omega
          have d0 : (wr.alloc (.cells #[.string c.key, .string c.val, .int .i64 c.over, .int .i64 c.size, .int .i64 c.child] 35)).cell? ⟨wr.heap.size, 0, none⟩ = some (.string c.key) := by rw [World.cell?_alloc_new]; rfl
          have d1 : (wr.alloc (.cells #[.string c.key, .string c.val, .int .i64 c.over, .int .i64 c.size, .int .i64 c.child] 35)).cell? ⟨wr.heap.size, 1, none⟩ = some (.string c.val) := by rw [World.cell?_alloc_new]; rfl
          have d2 : (wr.alloc (.cells #[.string c.key, .string c.val, .int .i64 c.over, .int .i64 c.size, .int .i64 c.child] 35)).cell? ⟨wr.heap.size, 2, none⟩ = some (.int .i64 c.over) := by rw [World.cell?_alloc_new]; rfl
          have d3 : (wr.alloc (.cells #[.string c.key, .string c.val, .int .i64 c.over, .int .i64 c.size, .int .i64 c.child] 35)).cell? ⟨wr.heap.size, 3, none⟩ = some (.int .i64 c.size) := by rw [World.cell?_alloc_new]; rfl
          have d4 : (wr.alloc (.cells #[.string c.key, .string c.val, .int .i64 c.over, .int .i64 c.size, .int .i64 c.child] 35)).cell? ⟨wr.heap.size, 4, none⟩ = some (.int .i64 c.child) := by rw [World.cell?_alloc_new]; rfl
          injection hao with hq
          injection hq with hq1 hq2
          subst hq1 hq2
          go_wp2_with fail
          refine (R.out _).mono ?_
          rintro e w2 ⟨rfl, hB2⟩
          have g0 := (hB2.cell (p := ⟨wr.heap.size, 0, none⟩) hblk).trans d0
          have HB : Hid (Below w.heap.size w w2) := H1.out.trans (hB2.mono (by have := hsz; rw [size1]; omega))
          clear d0 d1 d2 d3 d4 hB2 f1 f2 f3 f4
          by_cases hok : okBranch c
          · have hok' : decide (okBranch c) = true := decide_eq_true hok
            have HOK : Hid (ok false (l[i]'hil) = true) := by
              show ok false (l[i]'hil) = true
              rw [← hc.out]
              exact hok'
            rw [hok']
            clear hok hok'
            by_cases hi0 : 0 < i
            · have hi0' : 0 < (i : Int) := by omega
              obtain ⟨j, rfl⟩ : ∃ j, i = j + 1 := ⟨i - 1, by omega⟩
              have hjl : j < l.length := by omega
              obtain ⟨p, hp⟩ : ∃ p : ByteArray, Hid (p = (l[j]'hjl).key) := ⟨(l[j]'hjl).key, rfl⟩
              have wj : IntKind.i64.wrap (j : Int) = (j : Int) := kt.wrap_i64_nat _ (by omega)
              have j0 : (0 : Int) ≤ (j : Int) := by omega
              have j1 : (j : Int) < (l.length : Int) := by omega
              obtain ⟨b', o', ho', fp', _⟩ := (cels_below hl.out HB.out) j hjl
              injection ho' with ho2
              injection ho2 with ho3 ho4
              subst ho3 ho4
              rw [← hp.out] at fp'
              have hcc : ∀ (hj : j < l.length), Lib.compareBytes (l[j]'hj).key.data.toList (l[j + 1]'hil).key.data.toList = - Lib.compareBytes c.key.data.toList p.data.toList := by
                intro hj
                rw [← cmp_neg, hp.out, hc.out]
              have HCC := Lib.hid hcc
              clear hcc
              rcases ord.ways c.key p with ⟨hw, q1, q2, _⟩ | ⟨hw, q1⟩ | ⟨hw, q1, q2, _⟩
              · have HN : Hid (¬ Fit false l) := fit_ne hil (by rw [HCC.out hjl, hw]; decide)
                clear hw
                go_wp2_with fail
                go_quiet (fail)
                go_wp2_with fail
                go_ret
                exact ⟨ans_no hF.out HN.out, below_drewN HB.out nq⟩
              · have HN : Hid (¬ Fit false l) := fit_ne hil (by rw [HCC.out hjl, hw]; decide)
                clear hw
                rw [q1] at g0
                go_wp2_with fail
                go_quiet (fail)
                go_wp2_with fail
                go_ret
                exact ⟨ans_no hF.out HN.out, below_drewN HB.out nq⟩
              · have HS : Hid (∀ k (h : k < l.length), k < j + 1 + 1 → okAt false l k h) := by
                  intro k h hk
                  by_cases hkj : k < j + 1
                  · exact hA.out k h hkj
                  · obtain rfl : k = j + 1 := by omega
                    refine ⟨HOK.out, fun j' hj' hj'l => ?_⟩
                    obtain rfl : j' = j := by omega
                    rw [HCC.out hj'l, hw]
                have hh := Lib.hid hil
                clear hw
                go_wp2_with fail
                go_quiet (fail)
                go_wp2_with fail
                go_roundw
                case rel => exact ⟨j + 1 + 1, hh.out, by go_num, HS, below_drewN HB.out nq⟩
                case measure =>
                  have := hh.out
                  simp [intOf]; omega
            · obtain rfl : i = 0 := by omega
              have HS : Hid (∀ k (h : k < l.length), k < 0 + 1 → okAt false l k h) := by
                intro k h hk
                obtain rfl : k = 0 := by omega
                exact ⟨HOK.out, fun j' hj' _ => by omega⟩
              have hh := Lib.hid hil
              go_wp2_with fail
              go_quiet (fail)
              go_wp2_with fail
              go_roundw
              case rel => exact ⟨0 + 1, hh.out, by go_num, HS, below_drewN HB.out nq⟩
              case measure =>
                have := hh.out
                simp [intOf]; omega
          · have hok' : decide (okBranch c) = false := decide_eq_false hok
            have HN : Hid (¬ Fit false l) := fit_not hil (by
              rw [← hc.out]
              show ¬ decide (okBranch c) = true
              rw [hok']
              decide)
            rw [hok']
            clear hok hok'
            go_wp2_with fail
            go_quiet (fail)
            go_wp2_with fail
            go_ret
            exact ⟨ans_no hF.out HN.out, below_drewN HB.out nq⟩
        · obtain rfl : i = l.length := by omega
          have hil' : ¬ (l.length : Int) < (l.length : Int) := by omega
          have HY : Hid (Fit false l) := ⟨fun _ => ⟨h0, HK0.out⟩, fun k h => hA.out k h h⟩
          clear hA
          go_wp2_with fail
          go_ret
          exact ⟨ans_yes hF.out HY.out, hB⟩
    · have HN : Hid (¬ Fit false l) := fun hf => by
        obtain ⟨_, hk⟩ := hf.1 rfl
        rw [← hk0.out] at hk
        exact hke hk
      have hke' : k0.toList.isEmpty = false := by
        cases h : k0.toList with
        | nil => exact absurd h hke
        | cons a t => rfl
      go_enter Try.func13, Try.ntmps13
      subst hao0
      go_wp2_with fail
      go_ret
      exact ⟨ans_no hF.out HN.out, Below.refl _ _⟩
  · have h0' : ((l.length : Int) == 0) = true := by rw [beq_iff_eq]; omega
    have hz : l.length = 0 := by omega
    have HN : Hid (¬ Fit false l) := fun hf => by
      obtain ⟨h, _⟩ := hf.1 rfl
      omega
    rw [hz]
    go_enter Try.func13, Try.ntmps13
    go_wp2_with fail
    go_ret
    exact ⟨ans_no hF.out HN.out, Below.refl _ _⟩
theorem right_any (leaf : Bool) (ao : Option Addr) (cap : Nat) (l : List Cel) (w : World) (hl : Hid (Cels w ao l)) (hn : l.length ≤ 1000000) :
    Calls Try.prog 13 #[.bool leaf, .slice ao l.length cap] w fun e w' => BoolAns (Fit leaf l) e ∧ Below w.heap.size w w' := by
  cases leaf with
  | true => exact right_true ao cap l w hl hn
  | false => exact right_false ao cap l w hl hn
end nod
end Go.Proofs.Ytkeheaempbmmaaa
