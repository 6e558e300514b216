/- The ends of a name: plain laws, and where they lie. -/
import Derived.Test.YtjjbmhndakmkbaaGreatDoorUnderW
namespace Go.Proofs.YtjjbmhndakmkbaaGreatDoor
open Go.RowKit
namespace dnw
open dnp
set_option linter.unusedVariables false
set_option linter.unusedSimpArgs false
theorem nameOK_drop {n : List (List Av)} (h : nameOK n = true) (a : Nat) : nameOK (n.drop a) = true := by
  obtain ⟨h1, h2⟩ := nameOK_facts h
  unfold nameOK
  rw [decide_eq_true (by rw [List.length_drop]; omega)]
  simp only [Bool.true_and]
  exact List.all_eq_true.2 (fun l hl => h2 l (List.mem_of_mem_drop hl))
theorem keysB_drop (n : List (List Av)) (a : Nat) : (keysB n).take (n.drop a).length = keysB (n.drop a) := by
  unfold keysB
  rw [← List.map_take, List.length_drop]
  congr 1
  rw [List.reverse_drop]
theorem under_drop {n : List (List Av)} (h : nameOK n = true) (a : Nat) : underR n (n.drop a) = true := by
  unfold underR
  rw [h, nameOK_drop h, keysB_drop, decide_eq_true (by rw [List.length_drop]; omega)]
  simp
theorem under_back {n : List (List Av)} (h : nameOK n = true) (a : Nat) (ha : a ≤ n.length) : underR (n.drop a) n = decide (a = 0) := by
  by_cases h0 : a = 0
  · subst h0
    have := under_drop h 0
    rw [List.drop_zero] at this ⊢
    rw [this]; rfl
  · rw [decide_eq_false h0]
    unfold underR
    rw [decide_eq_false (by rw [List.length_drop]; omega : ¬ n.length ≤ (n.drop a).length)]
    simp
theorem under_nil {n : List (List Av)} (h : nameOK n = true) : underR n [] = true := by
  have := under_drop h n.length
  rw [List.drop_length] at this
  exact this
theorem under_drop2 {n : List (List Av)} (h : nameOK n = true) (a e : Nat) : underR (n.drop a) (n.drop (a + e)) = true := by
  have := under_drop (nameOK_drop h a) e
  rw [List.drop_drop] at this
  exact this
theorem rdns_drop {w : World} {b o : Nat} {n : List (List Av)} (h : Rdns w (some ⟨b, o, none⟩) n) (a : Nat) (X : Option Addr) (hX : X = some ⟨b, o + a, none⟩ ∨ n.drop a = []) : Rdns w X (n.drop a) := by
  rcases hX with rfl | h0
  · intro i hi
    rw [List.length_drop] at hi
    obtain ⟨b', o', ao', cap', e, h1, h2, h3⟩ := h (a + i) (by omega)
    cases e
    refine ⟨b, o + a, ao', cap', rfl, ?_, ?_, ?_⟩
    · rw [List.getElem_drop, Nat.add_assoc]; exact h1
    · rw [List.getElem_drop]; exact h2
    · rw [List.getElem_drop]; exact h3
  · rw [h0]
    intro i hi
    simp at hi
end dnw
end Go.Proofs.YtjjbmhndakmkbaaGreatDoor
