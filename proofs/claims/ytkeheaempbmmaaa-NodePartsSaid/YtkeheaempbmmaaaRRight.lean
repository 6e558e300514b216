/- The walk of the reference's Right. -/
import Derived.Test.YtkeheaempbmmaaaRight
namespace Go.Proofs.Ytkeheaempbmmaaa
open Go.RowKit
namespace nod
open ord
set_option maxHeartbeats 4000000 in
theorem rright_true (ao : Option Addr) (cap : Nat) (l : List Cel) (w : World) (hl : Hid (Cels w ao l)) (hs : Hid (∀ c ∈ l, c.key.size ≤ 1000000)) (hn : l.length ≤ 1000000) :
    Calls Try.prog 14 #[.bool true, .slice ao l.length cap] w fun e w' => BoolAns (Fit true l) e ∧ Below w.heap.size w w' := by
  obtain ⟨Fp, hF⟩ : ∃ Fp : Prop, Hid (Fp = Fit true l) := ⟨_, rfl⟩
  rw [← hF.out]
  go_enter Try.func14, Try.ntmps14
  go_wp2_with fail
  go_loopw [5] (fun iv wr => ∃ (i : Nat), i ≤ l.length ∧ iv = .int .i64 i ∧ Hid (∀ j (h : j < l.length), j < i → okAt true l j h) ∧ Below w.heap.size w wr) (fun iv _ => l.length - (intOf iv).toNat)
  case atStart => exact ⟨0, Nat.zero_le _, rfl, fun j _ h => by omega, Below.refl _ _⟩
  case round =>
    obtain ⟨i, hi, rfl, hA, hB⟩ := hrel
    have hsz := hB.size
    by_cases hil : i < l.length
    · have hil' : (i : Int) < (l.length : Int) := by omega
      obtain ⟨c, hc⟩ : ∃ c : Cel, Hid (c = l[i]'hil) := ⟨l[i]'hil, rfl⟩
      obtain ⟨b, o, hao, f0, f1, f2, f3, f4⟩ := (cels_below hl.out hB) i hil
      rw [← hc.out] at f0 f1 f2 f3 f4
      have R := Lib.hid (fun w => rcell_any true c w)
      unfold Cel.v at R
      have hkb : c.key.size ≤ 1000000 := by rw [hc.out]; exact hs.out _ (List.getElem_mem hil)
      subst hao
      go_wp2_with fail
      refine (R.out _).mono ?_
      rintro e w2 ⟨rfl, hB2⟩
      have HB : Hid (Below w.heap.size w w2) := hB.trans (hB2.mono hsz)
      have g0 := (hB2.cell (p := ⟨b, o + i * 5, none⟩) (World.block_lt_of_cell? wr _ f0)).trans f0
      clear f0 f1 f2 f3 f4 hB2
      by_cases hok : ok true c = true
      · have HOK : Hid (ok true (l[i]'hil) = true) := by
          show ok true (l[i]'hil) = true
          rw [← hc.out]
          exact hok
        rw [hok]
        clear hok
        by_cases hi0 : 0 < i
        · have hi0' : 0 < (i : Int) := by omega
          obtain ⟨j, rfl⟩ : ∃ j, i = j + 1 := ⟨i - 1, by omega⟩
          have hjl : j < l.length := by omega
          obtain ⟨p, hp⟩ : ∃ p : ByteArray, Hid (p = (l[j]'hjl).key) := ⟨(l[j]'hjl).key, rfl⟩
          have wj : IntKind.i64.wrap (j : Int) = (j : Int) := kt.wrap_i64_nat _ (by omega)
          have j0 : (0 : Int) ≤ (j : Int) := by omega
          have j1 : (j : Int) < (l.length : Int) := by omega
          obtain ⟨b', o', ho', fp', _⟩ := (cels_below hl.out HB.out) j hjl
          injection ho' with ho2
          injection ho2 with ho3 ho4
          subst ho3 ho4
          rw [← hp.out] at fp'
          have hpb : p.size ≤ 1000000 := by rw [hp.out]; exact hs.out _ (List.getElem_mem hjl)
          obtain ⟨r, hr⟩ : ∃ r : Int, Hid (r = Lib.compareBytes p.data.toList c.key.data.toList) := ⟨_, rfl⟩
          have L : Hid (∀ w, Calls Try.prog 18 #[.string p, .string c.key] w fun e w' => e = .returned (.int .i64 r) ∧ ∃ n, w' = w.drewN n) := by
            intro w
            rw [hr.out]
            exact ordw.less_any p c.key w hpb
          have HR : Hid (∀ (hj : j < l.length), Lib.compareBytes (l[j]'hj).key.data.toList (l[j + 1]'hil).key.data.toList = r) := by
            intro hj
            rw [hr.out, hp.out, hc.out]
          have h3 : r = -1 ∨ r = 0 ∨ r = 1 := by rw [hr.out]; exact cmp_three _ _
          clear hr
          by_cases hr1 : r = -1
          · have HS : Hid (∀ k (h : k < l.length), k < j + 1 + 1 → okAt true l k h) := by
              intro k h hk
              by_cases hkj : k < j + 1
              · exact hA.out k h hkj
              · obtain rfl : k = j + 1 := by omega
                refine ⟨HOK.out, fun j' hj' hj'l => ?_⟩
                obtain rfl : j' = j := by omega
                rw [HR.out hj'l, hr1]
            have hh := Lib.hid hil
            have hr2 : ¬ (0 : Int) ≤ r := by omega
            clear h3
            go_wp2_with fail
            go_quiet ((go_at_call 18; exact Calls.quiet_of (L.out _)))
            go_wp2_with fail
            go_roundw
            case rel => exact ⟨j + 1 + 1, hh.out, by go_num, HS, below_drewN HB.out nq⟩
            case measure =>
              have := hh.out
              simp [intOf]; omega
          · have HN : Hid (¬ Fit true l) := fit_ne hil (by rw [HR.out hjl]; exact hr1)
            have hr2 : (0 : Int) ≤ r := by omega
            clear h3 hr1
            go_wp2_with fail
            go_quiet ((go_at_call 18; exact Calls.quiet_of (L.out _)))
            go_wp2_with fail
            go_ret
            exact ⟨ans_no hF.out HN.out, below_drewN HB.out nq⟩
        · obtain rfl : i = 0 := by omega
          have HS : Hid (∀ k (h : k < l.length), k < 0 + 1 → okAt true l k h) := by
            intro k h hk
            obtain rfl : k = 0 := by omega
            exact ⟨HOK.out, fun j' hj' _ => by omega⟩
          have hh := Lib.hid hil
          go_wp2_with fail
          go_quiet (fail)
          go_wp2_with fail
          go_roundw
          case rel => exact ⟨0 + 1, hh.out, by go_num, HS, below_drewN HB.out nq⟩
          case measure =>
            have := hh.out
            simp [intOf]; omega
      · have hok' : ok true c = false := by simpa using hok
        have HN : Hid (¬ Fit true l) := fit_not hil (by
          rw [← hc.out, hok']
          decide)
        rw [hok']
        clear hok hok'
        go_wp2_with fail
        go_ret
        exact ⟨ans_no hF.out HN.out, HB.out⟩
    · obtain rfl : i = l.length := by omega
      have hil' : ¬ (l.length : Int) < (l.length : Int) := by omega
      have HY : Hid (Fit true l) := ⟨(fun h => by cases h), fun k h => hA.out k h h⟩
      clear hA
      go_wp2_with fail
      go_ret
      exact ⟨ans_yes hF.out HY.out, hB⟩
set_option maxHeartbeats 4000000 in
theorem rright_false (ao : Option Addr) (cap : Nat) (l : List Cel) (w : World) (hl : Hid (Cels w ao l)) (hs : Hid (∀ c ∈ l, c.key.size ≤ 1000000)) (hn : l.length ≤ 1000000) :
    Calls Try.prog 14 #[.bool false, .slice ao l.length cap] w fun e w' => BoolAns (Fit false l) e ∧ Below w.heap.size w w' := by
  obtain ⟨Fp, hF⟩ : ∃ Fp : Prop, Hid (Fp = Fit false l) := ⟨_, rfl⟩
  rw [← hF.out]
  by_cases h0 : 0 < l.length
  · have h0' : ((l.length : Int) == 0) = false := by rw [beq_eq_false_iff_ne]; omega
    go_enter Try.func14, Try.ntmps14
    go_wp2_with fail
    go_loopw [5] (fun iv wr => ∃ (i : Nat), i ≤ l.length ∧ iv = .int .i64 i ∧ Hid (∀ j (h : j < l.length), j < i → okAt false l j h) ∧ Below w.heap.size w wr) (fun iv _ => l.length - (intOf iv).toNat)
    case atStart => exact ⟨0, Nat.zero_le _, rfl, fun j _ h => by omega, Below.refl _ _⟩
    case round =>
      obtain ⟨i, hi, rfl, hA, hB⟩ := hrel
      have hsz := hB.size
      by_cases hil : i < l.length
      · have hil' : (i : Int) < (l.length : Int) := by omega
        obtain ⟨c, hc⟩ : ∃ c : Cel, Hid (c = l[i]'hil) := ⟨l[i]'hil, rfl⟩
        obtain ⟨b, o, hao, f0, f1, f2, f3, f4⟩ := (cels_below hl.out hB) i hil
        rw [← hc.out] at f0 f1 f2 f3 f4
        have R := Lib.hid (fun w => rcell_any false c w)
        unfold Cel.v at R
        have hkb : c.key.size ≤ 1000000 := by rw [hc.out]; exact hs.out _ (List.getElem_mem hil)
        subst hao
        go_wp2_with fail
        refine (R.out _).mono ?_
        rintro e w2 ⟨rfl, hB2⟩
        have HB : Hid (Below w.heap.size w w2) := hB.trans (hB2.mono hsz)
        have g0 := (hB2.cell (p := ⟨b, o + i * 5, none⟩) (World.block_lt_of_cell? wr _ f0)).trans f0
        clear f0 f1 f2 f3 f4 hB2
        by_cases hok : ok false c = true
        · have HOK : Hid (ok false (l[i]'hil) = true) := by
            show ok false (l[i]'hil) = true
            rw [← hc.out]
            exact hok
          rw [hok]
          clear hok
          by_cases hi0 : 0 < i
          · have hi0' : 0 < (i : Int) := by omega
            obtain ⟨j, rfl⟩ : ∃ j, i = j + 1 := ⟨i - 1, by omega⟩
            have hjl : j < l.length := by omega
            obtain ⟨p, hp⟩ : ∃ p : ByteArray, Hid (p = (l[j]'hjl).key) := ⟨(l[j]'hjl).key, rfl⟩
            have wj : IntKind.i64.wrap (j : Int) = (j : Int) := kt.wrap_i64_nat _ (by omega)
            have j0 : (0 : Int) ≤ (j : Int) := by omega
            have j1 : (j : Int) < (l.length : Int) := by omega
            obtain ⟨b', o', ho', fp', _⟩ := (cels_below hl.out HB.out) j hjl
            injection ho' with ho2
            injection ho2 with ho3 ho4
            subst ho3 ho4
            rw [← hp.out] at fp'
            have hpb : p.size ≤ 1000000 := by rw [hp.out]; exact hs.out _ (List.getElem_mem hjl)
            obtain ⟨r, hr⟩ : ∃ r : Int, Hid (r = Lib.compareBytes p.data.toList c.key.data.toList) := ⟨_, rfl⟩
            have L : Hid (∀ w, Calls Try.prog 18 #[.string p, .string c.key] w fun e w' => e = .returned (.int .i64 r) ∧ ∃ n, w' = w.drewN n) := by
              intro w
              rw [hr.out]
              exact ordw.less_any p c.key w hpb
            have HR : Hid (∀ (hj : j < l.length), Lib.compareBytes (l[j]'hj).key.data.toList (l[j + 1]'hil).key.data.toList = r) := by
              intro hj
              rw [hr.out, hp.out, hc.out]
            have h3 : r = -1 ∨ r = 0 ∨ r = 1 := by rw [hr.out]; exact cmp_three _ _
            clear hr
            by_cases hr1 : r = -1
            · have HS : Hid (∀ k (h : k < l.length), k < j + 1 + 1 → okAt false l k h) := by
                intro k h hk
                by_cases hkj : k < j + 1
                · exact hA.out k h hkj
                · obtain rfl : k = j + 1 := by omega
                  refine ⟨HOK.out, fun j' hj' hj'l => ?_⟩
                  obtain rfl : j' = j := by omega
                  rw [HR.out hj'l, hr1]
              have hh := Lib.hid hil
              have hr2 : ¬ (0 : Int) ≤ r := by omega
              clear h3
              go_wp2_with fail
              go_quiet ((go_at_call 18; exact Calls.quiet_of (L.out _)))
              go_wp2_with fail
              go_roundw
              case rel => exact ⟨j + 1 + 1, hh.out, by go_num, HS, below_drewN HB.out nq⟩
              case measure =>
                have := hh.out
                simp [intOf]; omega
            · have HN : Hid (¬ Fit false l) := fit_ne hil (by rw [HR.out hjl]; exact hr1)
              have hr2 : (0 : Int) ≤ r := by omega
              clear h3 hr1
              go_wp2_with fail
              go_quiet ((go_at_call 18; exact Calls.quiet_of (L.out _)))
              go_wp2_with fail
              go_ret
              exact ⟨ans_no hF.out HN.out, below_drewN HB.out nq⟩
          · obtain rfl : i = 0 := by omega
            have HS : Hid (∀ k (h : k < l.length), k < 0 + 1 → okAt false l k h) := by
              intro k h hk
              obtain rfl : k = 0 := by omega
              exact ⟨HOK.out, fun j' hj' _ => by omega⟩
            have hh := Lib.hid hil
            go_wp2_with fail
            go_quiet (fail)
            go_wp2_with fail
            go_roundw
            case rel => exact ⟨0 + 1, hh.out, by go_num, HS, below_drewN HB.out nq⟩
            case measure =>
              have := hh.out
              simp [intOf]; omega
        · have hok' : ok false c = false := by simpa using hok
          have HN : Hid (¬ Fit false l) := fit_not hil (by
            rw [← hc.out, hok']
            decide)
          rw [hok']
          clear hok hok'
          go_wp2_with fail
          go_ret
          exact ⟨ans_no hF.out HN.out, HB.out⟩
      · obtain rfl : i = l.length := by omega
        have hil' : ¬ (l.length : Int) < (l.length : Int) := by omega
        obtain ⟨k0, hk0⟩ : ∃ k0 : ByteArray, Hid (k0 = (l[0]'h0).key) := ⟨(l[0]'h0).key, rfl⟩
        obtain ⟨b0, o0, hao0, z0, _⟩ := (cels_below hl.out hB) 0 h0
        rw [← hk0.out, Nat.zero_mul, Nat.add_zero] at z0
        subst hao0
        have h0'' : (0 : Int) < (l.length : Int) := by omega
        by_cases hke : k0.toList = []
        · have HY : Hid (Fit false l) := ⟨fun _ => ⟨h0, by rw [← hk0.out]; exact hke⟩, fun k h => hA.out k h h⟩
          have hke' : k0.toList.isEmpty = true := by rw [hke]; rfl
          clear hA
          go_wp2_with fail
          go_ret
          exact ⟨ans_yes hF.out HY.out, hB⟩
        · have HN : Hid (¬ Fit false l) := fun hf => by
            obtain ⟨_, hk⟩ := hf.1 rfl
            rw [← hk0.out] at hk
            exact hke hk
          have hke' : k0.toList.isEmpty = false := by
            cases h : k0.toList with
            | nil => exact absurd h hke
            | cons a t => rfl
          clear hA
          go_wp2_with fail
          go_ret
          exact ⟨ans_no hF.out HN.out, hB⟩
  · have hz : l.length = 0 := by omega
    have HN : Hid (¬ Fit false l) := fun hf => by
      obtain ⟨h, _⟩ := hf.1 rfl
      omega
    rw [hz]
    go_enter Try.func14, Try.ntmps14
    go_wp2_with fail
    go_ret
    exact ⟨ans_no hF.out HN.out, Below.refl _ _⟩
theorem rright_any (leaf : Bool) (ao : Option Addr) (cap : Nat) (l : List Cel) (w : World) (hl : Hid (Cels w ao l)) (hs : Hid (∀ c ∈ l, c.key.size ≤ 1000000)) (hn : l.length ≤ 1000000) :
    Calls Try.prog 14 #[.bool leaf, .slice ao l.length cap] w fun e w' => BoolAns (Fit leaf l) e ∧ Below w.heap.size w w' := by
  cases leaf with
  | true => exact rright_true ao cap l w hl hs hn
  | false => exact rright_false ao cap l w hl hs hn
end nod
end Go.Proofs.Ytkeheaempbmmaaa
