/- Walks of the functions of one rune: is it dropped, is it a blank, its small one; the program's and the reference's. -/
import Derived.Test.YtjjbmhndakmkbaaGreatDoorPrepP
import Derived.Test.YtjjbmhndakmkbaaGreatDoorKit
import Derived.Test.YtjjbmhndakmkbaaGreatDoorRows
namespace Go.Proofs.YtjjbmhndakmkbaaGreatDoor
open Go.RowKit
namespace prw
open run prp
set_option linter.unusedVariables false
set_option linter.unusedSimpArgs false
theorem drop_yes {r : Int} (h : r ≤ 8 ∨ (14 ≤ r ∧ r ≤ 31) ∨ (127 ≤ r ∧ r ≤ 132) ∨ (134 ≤ r ∧ r ≤ 159) ∨ r = 173 ∨ (8203 ≤ r ∧ r ≤ 8207) ∨ r = 65279) : true = dropB r := by
  unfold dropB; exact (decide_eq_true h).symm
theorem drop_no {r : Int} (h : ¬ (r ≤ 8 ∨ (14 ≤ r ∧ r ≤ 31) ∨ (127 ≤ r ∧ r ≤ 132) ∨ (134 ≤ r ∧ r ≤ 159) ∨ r = 173 ∨ (8203 ≤ r ∧ r ≤ 8207) ∨ r = 65279)) : false = dropB r := by
  unfold dropB; exact (decide_eq_false h).symm
theorem blank_yes {r : Int} (h : (9 ≤ r ∧ r ≤ 13) ∨ r = 32 ∨ r = 133 ∨ r = 160 ∨ r = 5760 ∨ (8192 ≤ r ∧ r ≤ 8202) ∨ r = 8232 ∨ r = 8233 ∨ r = 8239 ∨ r = 8287 ∨ r = 12288) : true = blankB r := by
  unfold blankB; exact (decide_eq_true h).symm
theorem blank_no {r : Int} (h : ¬ ((9 ≤ r ∧ r ≤ 13) ∨ r = 32 ∨ r = 133 ∨ r = 160 ∨ r = 5760 ∨ (8192 ≤ r ∧ r ≤ 8202) ∨ r = 8232 ∨ r = 8233 ∨ r = 8239 ∨ r = 8287 ∨ r = 12288)) : false = blankB r := by
  unfold blankB; exact (decide_eq_false h).symm
set_option maxRecDepth 20000 in
set_option maxHeartbeats 4000000 in
theorem dropped_any (r : Int) (w : World) : Calls Tryz.prog 71 #[.int .i32 r] w fun e w' => e = .returned (.bool (dropB r)) ∧ w = w' := by
  go_enter Tryz.func71, Tryz.ntmps71
  go_wp2
  all_goals
    go_ret
    refine ⟨kt.ret_bool ?_, rfl⟩
    first
      | ((try simp only [beq_iff_eq, beq_eq_false_iff_ne, ne_eq, bne_iff_ne] at *); exact drop_yes (by omega))
      | ((try simp only [beq_iff_eq, beq_eq_false_iff_ne, ne_eq, bne_iff_ne] at *); exact drop_no (by omega))
      | (rw [Bool.eq_iff_iff]; unfold dropB; (try simp only [beq_iff_eq, beq_eq_false_iff_ne, ne_eq, bne_iff_ne] at *); simp only [Bool.and_eq_true, Bool.or_eq_true, decide_eq_true_eq, beq_iff_eq]; omega)
set_option maxRecDepth 20000 in
set_option maxHeartbeats 4000000 in
theorem rdropped_any (r : Int) (w : World) : Calls Tryz.prog 59 #[.int .i32 r] w fun e w' => e = .returned (.bool (dropB r)) ∧ w = w' := by
  go_enter Tryz.func59, Tryz.ntmps59
  go_wp2
  all_goals
    go_ret
    refine ⟨kt.ret_bool ?_, rfl⟩
    first
      | ((try simp only [beq_iff_eq, beq_eq_false_iff_ne, ne_eq, bne_iff_ne] at *); exact drop_yes (by omega))
      | ((try simp only [beq_iff_eq, beq_eq_false_iff_ne, ne_eq, bne_iff_ne] at *); exact drop_no (by omega))
      | (rw [Bool.eq_iff_iff]; unfold dropB; (try simp only [beq_iff_eq, beq_eq_false_iff_ne, ne_eq, bne_iff_ne] at *); simp only [Bool.and_eq_true, Bool.or_eq_true, decide_eq_true_eq, beq_iff_eq]; omega)
set_option maxRecDepth 20000 in
set_option maxHeartbeats 4000000 in
theorem blank_any (r : Int) (w : World) : Calls Tryz.prog 72 #[.int .i32 r] w fun e w' => e = .returned (.bool (blankB r)) ∧ w = w' := by
  go_enter Tryz.func72, Tryz.ntmps72
  go_wp2
  all_goals
    go_ret
    refine ⟨kt.ret_bool ?_, rfl⟩
    first
      | ((try simp only [beq_iff_eq, beq_eq_false_iff_ne, ne_eq, bne_iff_ne] at *); exact blank_yes (by omega))
      | ((try simp only [beq_iff_eq, beq_eq_false_iff_ne, ne_eq, bne_iff_ne] at *); exact blank_no (by omega))
      | (rw [Bool.eq_iff_iff]; unfold blankB; (try simp only [beq_iff_eq, beq_eq_false_iff_ne, ne_eq, bne_iff_ne] at *); simp only [Bool.and_eq_true, Bool.or_eq_true, decide_eq_true_eq, beq_iff_eq]; omega)
set_option maxRecDepth 20000 in
set_option maxHeartbeats 4000000 in
theorem rblank_any (r : Int) (w : World) : Calls Tryz.prog 60 #[.int .i32 r] w fun e w' => e = .returned (.bool (blankB r)) ∧ w = w' := by
  go_enter Tryz.func60, Tryz.ntmps60
  go_wp2
  all_goals
    go_ret
    refine ⟨kt.ret_bool ?_, rfl⟩
    first
      | ((try simp only [beq_iff_eq, beq_eq_false_iff_ne, ne_eq, bne_iff_ne] at *); exact blank_yes (by omega))
      | ((try simp only [beq_iff_eq, beq_eq_false_iff_ne, ne_eq, bne_iff_ne] at *); exact blank_no (by omega))
      | (rw [Bool.eq_iff_iff]; unfold blankB; (try simp only [beq_iff_eq, beq_eq_false_iff_ne, ne_eq, bne_iff_ne] at *); simp only [Bool.and_eq_true, Bool.or_eq_true, decide_eq_true_eq, beq_iff_eq]; omega)
set_option maxRecDepth 20000 in
set_option maxHeartbeats 4000000 in
theorem small_any (r : Int) (w : World) (h0 : 0 ≤ r) (h1 : r ≤ 1114111) : Calls Tryz.prog 73 #[.int .i32 r] w fun e w' => e = .returned (.int .i32 (smallI r)) ∧ w = w' := by
  have ha : r + 32 ≤ 2147483647 := by omega
  have hb : r + 80 ≤ 2147483647 := by omega
  go_enter Tryz.func73, Tryz.ntmps73
  go_wp2
  all_goals
    go_ret
    refine ⟨kt.ret_int ?_, rfl⟩
    (try simp only [bne, Bool.not_eq_true', Bool.not_eq_false', beq_iff_eq, beq_eq_false_iff_ne, ne_eq, bne_iff_ne] at *)
    unfold smallI
    repeat' split
    all_goals omega
set_option maxRecDepth 20000 in
set_option maxHeartbeats 4000000 in
theorem rsmall_any (r : Int) (w : World) (h0 : 0 ≤ r) (h1 : r ≤ 1114111) : Calls Tryz.prog 61 #[.int .i32 r] w fun e w' => e = .returned (.int .i32 (smallI r)) ∧ w = w' := by
  have ha : r + 32 ≤ 2147483647 := by omega
  have hb : r + 80 ≤ 2147483647 := by omega
  go_enter Tryz.func61, Tryz.ntmps61
  go_wp2
  all_goals
    go_ret
    refine ⟨kt.ret_int ?_, rfl⟩
    (try simp only [bne, Bool.not_eq_true', Bool.not_eq_false', beq_iff_eq, beq_eq_false_iff_ne, ne_eq, bne_iff_ne] at *)
    unfold smallI
    repeat' split
    all_goals omega
end prw
end Go.Proofs.YtjjbmhndakmkbaaGreatDoor
