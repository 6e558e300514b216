/- A name that came in, opened: rows of rows of pairs. -/
import Derived.Test.YtjjbmhndakmkbaaGreatDoorPrintP
import Derived.Test.YtjjbmhndakmkbaaGreatDoorOpenS
namespace Go.Proofs.YtjjbmhndakmkbaaGreatDoor
open Go.RowKit Go.ChangeShapes Go.WideShapes Go.Deep
namespace dnw
theorem avas_of {H : Type} {enc : TypeId × Value → H} {w : World} {base : Nat} {sp : Nat → Bool} {held : Bool} {cs : List Value} {x : DataW H × List MemPlace} {fuel : Nat}
    (h : DataW.trod enc Tryz.prog w base sp held fuel 35 cs = some x) : ∃ (ao : Option Addr) (l : List Av) (cap : Nat), cs = [.slice ao l.length cap] ∧ l.length ≤ cap ∧ l.length ≤ 9223372036854775807 ∧ Avas w ao l := by
  rcases opn.open_slice_fields Tryz.underlying35 Tryz.underlying40 (by kernel_rfl) (by kernel_rfl) h with ⟨hcs, _⟩ | ⟨a, len, cap, m, D, Pl, hcs, _, hlc, hcm, hm, _, hf⟩
  · exact ⟨none, [], 0, hcs, Nat.le_refl _, by simp, fun i hi => by simp at hi⟩
  · have hlm : len ≤ m := by rw [hm]; split <;> omega
    have hlmax : len ≤ 9223372036854775807 := by unfold maxLen at hcm; omega
    have key : ∀ i, i < len → ∃ c : Av, ∃ b o, some a = some ⟨b, o, none⟩ ∧ w.cell? ⟨b, o + i * 2, none⟩ = some (.string c.t) ∧ w.cell? ⟨b, o + i * 2 + 1, none⟩ = some (.string c.v) := by
      intro i hi
      obtain ⟨ys, n, _, _, _, hfs⟩ := hf i (by omega)
      obtain ⟨v0, y0, c0, _, t0⟩ := hfs 0 _ rfl
      obtain ⟨v1, y1, c1, _, t1⟩ := hfs 1 _ rfl
      obtain ⟨k, e0, _⟩ := DataW.trod_string Tryz.underlying9 t0
      obtain ⟨y, e1, _⟩ := DataW.trod_string Tryz.underlying9 t1
      simp only [List.cons.injEq, and_true] at e0 e1
      subst e0 e1
      have hcell : ∃ b o, a = ⟨b, o, none⟩ := by
        obtain ⟨ys0, n0, _, _, _, hfs0⟩ := hf 0 (by omega)
        obtain ⟨v, y, c, _, _⟩ := hfs0 0 _ rfl
        obtain ⟨b, o, s⟩ := a
        have e0 : (⟨b, o, s⟩ : Addr).add (0 * 2 + 0) = ⟨b, o, s⟩ := by unfold Addr.add; rfl
        have hc : w.cell? ((⟨b, o, s⟩ : Addr).add (0 * 2 + 0)) = some v := c
        rw [e0] at hc
        obtain rfl := opn.cell_spot hc
        exact ⟨b, o, rfl⟩
      obtain ⟨b, o', rfl⟩ := hcell
      have ad : ∀ j, (⟨b, o', none⟩ : Addr).add j = ⟨b, o' + j, none⟩ := fun j => by rw [Addr.add_mid]
      have d0 : w.cell? ((⟨b, o', none⟩ : Addr).add (i * 2 + 0)) = _ := c0
      have d1 : w.cell? ((⟨b, o', none⟩ : Addr).add (i * 2 + 1)) = _ := c1
      rw [ad] at d0 d1
      exact ⟨⟨k, y⟩, b, o', rfl, d0, by rw [Nat.add_assoc]; exact d1⟩
    obtain ⟨l, hl, hq⟩ := opn.list_of len key
    subst hl
    exact ⟨some a, l, cap, hcs, hlc, hlmax, hq⟩
theorem rdns_of {H : Type} {enc : TypeId × Value → H} {w : World} {base : Nat} {sp : Nat → Bool} {held : Bool} {d : DataW H} {p : List MemPlace} {ao : Option Addr} {len cap : Nat}
    (h : ∃ fuel, DataW.trod enc Tryz.prog w base sp held fuel 22 [.slice ao len cap] = some (d, p)) : ∃ n : List (List Av), len = n.length ∧ Rdns w ao n ∧ len ≤ cap ∧ len ≤ 9223372036854775807 ∧ ∀ l ∈ n, l.length ≤ 9223372036854775807 := by
  obtain ⟨fuel, h⟩ := h
  rcases open_slice1 Tryz.underlying22 (by kernel_rfl) h with ⟨hcs, _⟩ | ⟨a, len', cap', m, n, V, D, Pl, hcs, _, hlc, hcm, hm, _, hf⟩
  · simp at hcs
    obtain ⟨rfl, rfl, rfl⟩ := hcs
    exact ⟨[], rfl, fun i hi => by simp at hi, Nat.le_refl _, by omega, by simp⟩
  · simp at hcs
    obtain ⟨rfl, rfl, rfl⟩ := hcs
    have hlm : len ≤ m := by rw [hm]; split <;> omega
    have hlmax : len ≤ 9223372036854775807 := by unfold maxLen at hcm; omega
    have key : ∀ i, i < len → ∃ l : List Av, (∃ b o ao' cap', some a = some ⟨b, o, none⟩ ∧ w.cell? ⟨b, o + i, none⟩ = some (.slice ao' l.length cap') ∧ l.length ≤ cap' ∧ Avas w ao' l) ∧ l.length ≤ 9223372036854775807 := by
      intro i hi
      obtain ⟨hc, ht⟩ := hf i (by omega)
      obtain ⟨ao', l, cap', hv, h1, h2, h3⟩ := avas_of ht
      simp only [List.cons.injEq, and_true] at hv
      rw [hv] at hc
      have hcell : ∃ b o, a = ⟨b, o, none⟩ := by
        obtain ⟨c, _⟩ := hf 0 (by omega)
        obtain ⟨b, o, s⟩ := a
        have e0 : (⟨b, o, s⟩ : Addr).add 0 = ⟨b, o, s⟩ := by unfold Addr.add; rfl
        rw [e0] at c
        obtain rfl := opn.cell_spot c
        exact ⟨b, o, rfl⟩
      obtain ⟨b, o', rfl⟩ := hcell
      rw [Addr.add_mid] at hc
      exact ⟨l, ⟨b, o', ao', cap', rfl, hc, h1, h3⟩, h2⟩
    obtain ⟨n, hl, hq⟩ := opn.list_of len key
    subst hl
    refine ⟨n, rfl, fun i hi => (hq i hi).1, hlc, hlmax, fun l hl => ?_⟩
    obtain ⟨i, hi, rfl⟩ := List.mem_iff_getElem.1 hl
    exact (hq i hi).2
end dnw
end Go.Proofs.YtjjbmhndakmkbaaGreatDoor
