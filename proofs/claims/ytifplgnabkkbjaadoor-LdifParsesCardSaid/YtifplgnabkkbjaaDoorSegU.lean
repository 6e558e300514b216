/- Small laws of no program: one cell of an owned row is stored anew. -/
import Derived.Test.YtifplgnabkkbjaaDoorSegS
import Derived.Laws.OwnMore
namespace Go.Proofs.YtifplgnabkkbjaaDoor
open Go.RowKit
namespace kt
set_option linter.unusedVariables false
/-- a cell of a row is stored anew -/
theorem segX_set {w : World} {B n : Nat} {e : TypeId} {sz g o cap : Nat} {xs : List Value} (h : SegX w B e sz (.slice (some ⟨g, o, none⟩) n cap) n xs) (j : Nat) (hj : j < xs.length) (u : Value) :
    SegX (w.setCell ⟨g, o + j, none⟩ u) B e sz (.slice (some ⟨g, o, none⟩) n cap) n (xs.set j u) ∧ w.grownBy (w.setCell ⟨g, o + j, none⟩ u) (some g) := by
  rcases h.2 with ⟨h', _⟩ | ⟨g', o', cap', pre, post, hv, hB, hg, hp, hr⟩
  · simp at h'
  · simp only [Value.slice.injEq, Option.some.injEq, Addr.mk.injEq, and_true, true_and] at hv
    obtain ⟨⟨rfl, rfl⟩, rfl⟩ := hv
    refine ⟨⟨by simpa using h.1, Or.inr ⟨g, o, cap, pre, post, rfl, hB, ?_, hp, hr⟩⟩, ⟨rfl, rfl, rfl, by simp, fun k _ hk => heap_setCell_other w ⟨g, o + j, none⟩ k u (fun e => hk (by simp [e]))⟩⟩
    rw [heap_setCell_same w g (o + j) _ e u hg]
    congr 3
    simp only [List.setIfInBounds_toArray]
    congr 1
    rw [List.append_assoc, List.set_append_right _ _ (by omega), show o + j - pre.length = j by omega, List.set_append_left _ _ hj, List.append_assoc]
/-- its cells, and that none is frozen -/
theorem segX_at {w : World} {B n : Nat} {e : TypeId} {sz g o cap : Nat} {xs : List Value} (h : SegX w B e sz (.slice (some ⟨g, o, none⟩) n cap) n xs) : B ≤ g ∧ g < w.heap.size ∧ (∀ (j : Nat) (x : Value), xs[j]? = some x → w.cell? ⟨g, o + j, none⟩ = some x) ∧ (∀ j, w.frozen? ⟨g, j, none⟩ = false) := by
  rcases h.2 with ⟨h', _⟩ | ⟨g', o', cap', pre, post, hv, hB, hg, hp, hr⟩
  · simp at h'
  · simp only [Value.slice.injEq, Option.some.injEq, Addr.mk.injEq, and_true, true_and] at hv
    obtain ⟨⟨rfl, rfl⟩, rfl⟩ := hv
    refine ⟨hB, bld_lt hg, fun j x hx => ?_, fun j => Lib.frozen_of_heap hg j⟩
    have hj := (List.getElem?_eq_some_iff.1 hx).1
    rw [Lib.cell_of_heap hg]
    simp only [List.getElem?_toArray]
    rw [List.append_assoc, List.getElem?_append_right (by omega), show o + j - pre.length = j by omega, List.getElem?_append_left hj]
    exact hx
theorem segX_addr {w : World} {B n : Nat} {e : TypeId} {sz cap : Nat} {ao : Option Addr} {xs : List Value} (h : SegX w B e sz (.slice ao n cap) n xs) (hn : 0 < n) : ∃ g o, ao = some ⟨g, o, none⟩ := by
  obtain ⟨g, o, cap', hv, _⟩ := segX_cell h hn
  simp only [Value.slice.injEq] at hv
  exact ⟨g, o, hv.1⟩
end kt
end Go.Proofs.YtifplgnabkkbjaaDoor
