/- A row of cells that came in, opened. -/
import Derived.Test.YtkeheaempbmmaaaLaws
import Derived.Test.YtkeheaempbmmaaaOpenS
namespace Go.Proofs.Ytkeheaempbmmaaa
open Go.RowKit Go.ChangeShapes Go.WideShapes Go.Deep
namespace nod
theorem cels_of {H : Type} {enc : TypeId × Value → H} {w : World} {base : Nat} {sp : Nat → Bool} {held : Bool} {d : DataW H} {p : List MemPlace} {ao : Option Addr} {len cap : Nat}
    (h : ∃ fuel, DataW.trod enc Try.prog w base sp held fuel 23 [.slice ao len cap] = some (d, p)) : ∃ l : List Cel, len = l.length ∧ Cels w ao l ∧ len ≤ 9223372036854775807 := by
  obtain ⟨fuel, h⟩ := h
  rcases opn.open_slice_fields Try.underlying23 Try.underlying35 (by kernel_rfl) (by kernel_rfl) h with ⟨hcs, _⟩ | ⟨a, len', cap', m, D, Pl, hcs, _, hlc, hcm, hm, _, hf⟩
  · simp at hcs
    obtain ⟨rfl, rfl, rfl⟩ := hcs
    exact ⟨[], rfl, fun i hi => by simp at hi, by omega⟩
  · simp at hcs
    obtain ⟨rfl, rfl, rfl⟩ := hcs
    have hlm : len ≤ m := by rw [hm]; split <;> omega
    have hlmax : len ≤ 9223372036854775807 := by unfold maxLen at hcm; omega
    have key : ∀ i, i < len → ∃ c : Cel, ∃ b o, some a = some ⟨b, o, none⟩ ∧ w.cell? ⟨b, o + i * 5, none⟩ = some (.string c.key) ∧ w.cell? ⟨b, o + i * 5 + 1, none⟩ = some (.string c.val) ∧ w.cell? ⟨b, o + i * 5 + 2, none⟩ = some (.int .i64 c.over) ∧
        w.cell? ⟨b, o + i * 5 + 3, none⟩ = some (.int .i64 c.size) ∧ w.cell? ⟨b, o + i * 5 + 4, none⟩ = some (.int .i64 c.child) := by
      intro i hi
      obtain ⟨ys, n, _, _, _, hfs⟩ := hf i (by omega)
      obtain ⟨v0, y0, c0, _, t0⟩ := hfs 0 _ rfl
      obtain ⟨v1, y1, c1, _, t1⟩ := hfs 1 _ rfl
      obtain ⟨v2, y2, c2, _, t2⟩ := hfs 2 _ rfl
      obtain ⟨v3, y3, c3, _, t3⟩ := hfs 3 _ rfl
      obtain ⟨v4, y4, c4, _, t4⟩ := hfs 4 _ rfl
      obtain ⟨k, e0, _⟩ := DataW.trod_string Try.underlying9 t0
      obtain ⟨x, e1, _⟩ := DataW.trod_string Try.underlying9 t1
      obtain ⟨o, e2, _⟩ := DataW.trod_int Try.underlying3 t2
      obtain ⟨z, e3, _⟩ := DataW.trod_int Try.underlying3 t3
      obtain ⟨q, e4, _⟩ := DataW.trod_int Try.underlying3 t4
      simp only [List.cons.injEq, and_true] at e0 e1 e2 e3 e4
      subst e0 e1 e2 e3 e4
      have hcell : ∃ b o, a = ⟨b, o, none⟩ := by
        obtain ⟨ys0, n0, _, _, _, hfs0⟩ := hf 0 (by omega)
        obtain ⟨v, y, c, _, _⟩ := hfs0 0 _ rfl
        obtain ⟨b, o, s⟩ := a
        have e0 : (⟨b, o, s⟩ : Addr).add (0 * 5 + 0) = ⟨b, o, s⟩ := by unfold Addr.add; rfl
        have hc : w.cell? ((⟨b, o, s⟩ : Addr).add (0 * 5 + 0)) = some v := c
        rw [e0] at hc
        obtain rfl := opn.cell_spot hc
        exact ⟨b, o, rfl⟩
      obtain ⟨b, o', rfl⟩ := hcell
      have ad : ∀ j, (⟨b, o', none⟩ : Addr).add j = ⟨b, o' + j, none⟩ := fun j => by rw [Addr.add_mid]
      have d0 : w.cell? ((⟨b, o', none⟩ : Addr).add (i * 5 + 0)) = _ := c0
      have d1 : w.cell? ((⟨b, o', none⟩ : Addr).add (i * 5 + 1)) = _ := c1
      have d2 : w.cell? ((⟨b, o', none⟩ : Addr).add (i * 5 + 2)) = _ := c2
      have d3 : w.cell? ((⟨b, o', none⟩ : Addr).add (i * 5 + 3)) = _ := c3
      have d4 : w.cell? ((⟨b, o', none⟩ : Addr).add (i * 5 + 4)) = _ := c4
      rw [ad] at d0 d1 d2 d3 d4
      exact ⟨⟨k, x, o, z, q⟩, b, o', rfl, d0, by rw [Nat.add_assoc]; exact d1, by rw [Nat.add_assoc]; exact d2, by rw [Nat.add_assoc]; exact d3, by rw [Nat.add_assoc]; exact d4⟩
    obtain ⟨l, hl, hq⟩ := opn.list_of len key
    exact ⟨l, hl.symm, hq, hlmax⟩
end nod
end Go.Proofs.Ytkeheaempbmmaaa
