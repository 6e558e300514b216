/- The walk of Same. -/
import Derived.Test.YthbofgfdgpidcaaDoorTupW
import Derived.Deep.QuietTactic
import Derived.BigQuiet
namespace Go.Proofs.YthbofgfdgpidcaaDoor
open Go.RowKit
namespace same
open tupw
theorem str_ne {x y : ByteArray} (h : ¬ x = y) : (x.toList == y.toList) = false := by
  rw [beq_eq_false_iff_ne]
  intro e
  exact h (kt.str_eq (by rw [← Lib.toList_data, ← Lib.toList_data, e]))
theorem take_next {l m : List ByteArray} {i : Nat} (h1 : i < l.length) (h2 : i < m.length) (h : l.take i = m.take i) (he : l[i] = m[i]) : l.take (i + 1) = m.take (i + 1) := by
  rw [List.take_succ_eq_append_getElem h1, List.take_succ_eq_append_getElem h2, h, he]
theorem ne_at {l m : List ByteArray} {i : Nat} (h1 : i < l.length) (h2 : i < m.length) (he : ¬ l[i] = m[i]) : ¬ l = m := by
  rintro rfl
  exact he rfl
theorem below_drewN {B : Nat} {a b : World} (h : Below B a b) (n : Nat) : Below B a (b.drewN n) := ⟨h.os, h.tape, h.output, h.size, h.block⟩
set_option maxHeartbeats 1000000 in
theorem same_any (a1 a2 : Option Addr) (c1 c2 : Nat) (l m : List ByteArray) (w : World) (h1 : Hid (Strs w a1 l)) (h2 : Hid (Strs w a2 m)) (hm : m.length ≤ 1000000) :
    Calls Tryd.prog 17 #[.slice a1 l.length c1, .slice a2 m.length c2] w fun e w' => e = .returned (.bool (decide (l = m))) ∧ Below w.heap.size w w' := by
  by_cases hl : l.length = m.length
  · rw [hl]
    go_enter Tryd.func17, Tryd.ntmps17
    go_wp2_with fail
    go_loopw [5] (fun iv wr => ∃ i : Nat, i ≤ m.length ∧ iv = .int .i64 i ∧ Hid (l.take i = m.take i) ∧ Below w.heap.size w wr) (fun iv _ => m.length - (intOf iv).toNat)
    case atStart => exact ⟨0, Nat.zero_le _, rfl, by show _ = _; simp, Below.refl _ _⟩
    case round =>
      obtain ⟨i, hi, rfl, hE, hB⟩ := hrel
      by_cases c : i < m.length
      · have c' : (i : Int) < (m.length : Int) := by omega
        have cl : i < l.length := by omega
        have hcc := Lib.hid c
        obtain ⟨b1, o1, e1, f1⟩ := h1.out i cl
        obtain ⟨b2, o2, e2, f2⟩ := h2.out i c
        have g1 := (hB.cell (World.block_lt_of_cell? w _ f1)).trans f1
        have g2 := (hB.cell (World.block_lt_of_cell? w _ f2)).trans f2
        obtain ⟨x, hx⟩ : ∃ x : ByteArray, Hid (x = l[i]'cl) := ⟨l[i]'cl, rfl⟩
        obtain ⟨y, hy⟩ : ∃ y : ByteArray, Hid (y = m[i]'c) := ⟨m[i]'c, rfl⟩
        rw [← hx.out] at g1
        rw [← hy.out] at g2
        clear f1 f2
        subst e1 e2
        by_cases hxy : x = y
        · have hn : Hid (l.take (i + 1) = m.take (i + 1)) := take_next cl c hE.out (by rw [← hx.out, ← hy.out, hxy])
          subst hxy
          go_wp2_with fail
          go_quiet (fail)
          go_wp2_with fail
          go_roundw
          case rel => exact ⟨i + 1, hcc.out, by go_num, hn, below_drewN hB nq⟩
          case measure =>
            have := hcc.out
            simp [intOf]; omega
        · have hr : decide (l = m) = false := by
            rw [decide_eq_false_iff_not]
            exact ne_at cl c (by rw [← hx.out, ← hy.out]; exact hxy)
          have HR := Lib.hid hr
          have hne := str_ne hxy
          clear hr hxy
          go_wp2_with fail
          go_quiet (fail)
          go_wp2_with fail
          go_ret
          exact ⟨by rw [HR.out]; rfl, below_drewN hB nq⟩
      · obtain rfl : i = m.length := by omega
        have c' : ¬ (m.length : Int) < (m.length : Int) := by omega
        have hr : decide (l = m) = true := by
          rw [decide_eq_true_iff]
          have := hE.out
          rw [List.take_of_length_le (Nat.le_refl _), List.take_of_length_le (by omega)] at this
          exact this
        have HR := Lib.hid hr
        clear hr
        go_wp2_with fail
        go_ret
        exact ⟨by rw [HR.out]; rfl, hB⟩
  · have hr : decide (l = m) = false := by
      rw [decide_eq_false_iff_not]
      rintro rfl
      exact hl rfl
    have HR := Lib.hid hr
    have hl' : ((l.length : Int) == (m.length : Int)) = false := by rw [beq_eq_false_iff_ne]; omega
    clear hr hl
    go_enter Tryd.func17, Tryd.ntmps17
    go_wp2_with fail
    go_ret
    exact ⟨by rw [HR.out]; rfl, Below.refl _ _⟩
end same
end Go.Proofs.YthbofgfdgpidcaaDoor
