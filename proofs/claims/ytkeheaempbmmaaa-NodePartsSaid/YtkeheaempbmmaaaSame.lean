/- The walk of Same: two rows of cells. -/
import Derived.Test.YtkeheaempbmmaaaREnc
namespace Go.Proofs.Ytkeheaempbmmaaa
open Go.RowKit
namespace nod
theorem str_ne {x y : ByteArray} (h : ¬ x = y) : (x.toList == y.toList) = false := by
  rw [beq_eq_false_iff_ne]
  intro e
  exact h (kt.str_eq (by rw [← Lib.toList_data, ← Lib.toList_data, e]))
theorem take_next {l m : List Cel} {i : Nat} (h1 : i < l.length) (h2 : i < m.length) (h : l.take i = m.take i) (he : l[i] = m[i]) : l.take (i + 1) = m.take (i + 1) := by
  rw [List.take_succ_eq_append_getElem h1, List.take_succ_eq_append_getElem h2, h, he]
theorem ne_at {l m : List Cel} {i : Nat} (h1 : i < l.length) (h2 : i < m.length) (he : ¬ l[i] = m[i]) : ¬ l = m := by
  rintro rfl
  exact he rfl
set_option maxHeartbeats 1000000 in
theorem same_any (a1 a2 : Option Addr) (c1 c2 : Nat) (l m : List Cel) (w : World) (h1 : Hid (Cels w a1 l)) (h2 : Hid (Cels w a2 m)) (hm : m.length ≤ 1000000) :
    Calls Try.prog 9 #[.slice a1 l.length c1, .slice a2 m.length c2] w fun e w' => e = .returned (.bool (decide (l = m))) ∧ Below w.heap.size w w' := by
  by_cases hl : l.length = m.length
  · rw [hl]
    go_enter Try.func9, Try.ntmps9
    go_wp2_with fail
    go_loopw [5] (fun iv wr => ∃ i : Nat, i ≤ m.length ∧ iv = .int .i64 i ∧ Hid (l.take i = m.take i) ∧ Below w.heap.size w wr) (fun iv _ => m.length - (intOf iv).toNat)
    case atStart => exact ⟨0, Nat.zero_le _, rfl, by show _ = _; simp, Below.refl _ _⟩
    case round =>
      obtain ⟨i, hi, rfl, hE, hB⟩ := hrel
      by_cases c : i < m.length
      · have c' : (i : Int) < (m.length : Int) := by omega
        have cl : i < l.length := by omega
        obtain ⟨b1, o1, e1, f0, f1, f2, f3, f4⟩ := (cels_below h1.out hB) i cl
        obtain ⟨b2, o2, e2, g0, g1, g2, g3, g4⟩ := (cels_below h2.out hB) i c
        obtain ⟨x, hx⟩ : ∃ x : Cel, Hid (x = l[i]'cl) := ⟨l[i]'cl, rfl⟩
        obtain ⟨y, hy⟩ : ∃ y : Cel, Hid (y = m[i]'c) := ⟨m[i]'c, rfl⟩
        rw [← hx.out] at f0 f1 f2 f3 f4
        rw [← hy.out] at g0 g1 g2 g3 g4
        subst e1 e2
        have hcc := Lib.hid c
        by_cases hxy : x = y
        · have hn : Hid (l.take (i + 1) = m.take (i + 1)) := take_next cl c hE.out (by rw [← hx.out, ← hy.out, hxy])
          subst hxy
          go_wp2_with fail
          go_quiet (fail)
          go_wp2_with fail
          go_roundw
          case rel => exact ⟨i + 1, hcc.out, by go_num, hn, below_drewN hB nq⟩
          case measure =>
            have := hcc.out
            simp [intOf]; omega
        · have hr : decide (l = m) = false := by
            rw [decide_eq_false_iff_not]
            exact ne_at cl c (by rw [← hx.out, ← hy.out]; exact hxy)
          have HR := Lib.hid hr
          obtain ⟨xk, xv, xo, xs, xc⟩ := x
          obtain ⟨yk, yv, yo, ys, yc⟩ := y
          dsimp only at f0 f1 f2 f3 f4 g0 g1 g2 g3 g4
          clear hr
          by_cases n0 : xk = yk
          · subst n0
            by_cases n1 : xv = yv
            · subst n1
              by_cases n2 : xo = yo
              · subst n2
                by_cases n3 : xs = ys
                · subst n3
                  have n4 : (xc == yc) = false := by
                    rw [beq_eq_false_iff_ne]
                    rintro rfl
                    exact hxy rfl
                  clear hxy
                  go_wp2_with fail
                  go_quiet (fail)
                  go_wp2_with fail
                  go_ret
                  exact ⟨by rw [HR.out]; rfl, below_drewN hB nq⟩
                · have n3' : (xs == ys) = false := by simpa using n3
                  clear hxy n3
                  go_wp2_with fail
                  go_quiet (fail)
                  go_wp2_with fail
                  go_ret
                  exact ⟨by rw [HR.out]; rfl, below_drewN hB nq⟩
              · have n2' : (xo == yo) = false := by simpa using n2
                clear hxy n2
                go_wp2_with fail
                go_quiet (fail)
                go_wp2_with fail
                go_ret
                exact ⟨by rw [HR.out]; rfl, below_drewN hB nq⟩
            · have n1' := str_ne n1
              clear hxy n1
              go_wp2_with fail
              go_quiet (fail)
              go_wp2_with fail
              go_ret
              exact ⟨by rw [HR.out]; rfl, below_drewN hB nq⟩
          · have n0' := str_ne n0
            clear hxy n0
            go_wp2_with fail
            go_quiet (fail)
            go_wp2_with fail
            go_ret
            exact ⟨by rw [HR.out]; rfl, below_drewN hB nq⟩
      · obtain rfl : i = m.length := by omega
        have c' : ¬ (m.length : Int) < (m.length : Int) := by omega
        have hr : decide (l = m) = true := by
          rw [decide_eq_true_iff]
          have := hE.out
          rw [List.take_of_length_le (Nat.le_refl _), List.take_of_length_le (by omega)] at this
          exact this
        have HR := Lib.hid hr
        clear hr
        go_wp2_with fail
        go_ret
        exact ⟨by rw [HR.out]; rfl, hB⟩
  · have hr : decide (l = m) = false := by
      rw [decide_eq_false_iff_not]
      rintro rfl
      exact hl rfl
    have HR := Lib.hid hr
    have hl' : ((l.length : Int) == (m.length : Int)) = false := by rw [beq_eq_false_iff_ne]; omega
    clear hr hl
    go_enter Try.func9, Try.ntmps9
    go_wp2_with fail
    go_ret
    exact ⟨by rw [HR.out]; rfl, Below.refl _ _⟩
end nod
end Go.Proofs.Ytkeheaempbmmaaa
