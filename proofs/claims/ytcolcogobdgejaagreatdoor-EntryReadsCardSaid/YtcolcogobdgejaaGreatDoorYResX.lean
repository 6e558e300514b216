/- What Add .. answer, told alike for both ways; the bounds that the results keep. -/
import Derived.Test.YtcolcogobdgejaaGreatDoorC10
import Derived.Test.YtcolcogobdgejaaGreatDoorC11
/-! ResX -/
namespace Go.Proofs.YtcolcogobdgejaaGreatDoor
open Go.RowKit
namespace etw
open atp atw etp
open dnw (Av Avas)
open tupw (Strs strs_below)
set_option linter.unusedVariables false
set_option linter.unusedSimpArgs false
def valE : Except Int En → En
 | .ok E => E
 | .error _ => ⟨[], []⟩
def codeE : Except Int En → Int
 | .ok _ => 0
 | .error f => f
def ResX (X : En) (f : Int) (W : World) (e : Ending) (w' : World) : Prop := ∃ r1 n1 c1 r2 n2 c2, e = .returned (.tuple #[.agg #[.slice r1 n1 c1, .slice r2 n2 c2], .int .i64 f]) ∧ EntV w' (.agg #[.slice r1 n1 c1, .slice r2 n2 c2]) X ∧ Below W.heap.size W w'
theorem entV_zero (w : World) : EntV w (.agg #[.slice none 0 0, .slice none 0 0]) ⟨[], []⟩ := ⟨none, 0, none, 0, rfl, Nat.le_refl _, Nat.le_refl _, fun i hi => absurd hi (Nat.not_lt_zero _), fun i hi => absurd hi (Nat.not_lt_zero _)⟩
theorem resX_of {r : Except Int En} {W : World} {e : Ending} {w' : World} (h : ResE r W e w') : ResX (valE r) (codeE r) W e w' := by
 obtain ⟨hb, h⟩ := h
 cases r with
 | ok E =>
  obtain ⟨v, rfl, hv⟩ := h
  obtain ⟨r1, n1, c1, r2, n2, c2, rfl⟩ := ent_agg hv
  exact ⟨_, _, _, _, _, _, rfl, hv, hb⟩
 | error f =>
  have h2 : e = .returned (.tuple #[.agg #[.slice none 0 0, .slice none 0 0], .int .i64 f]) := h
  subst h2
  exact ⟨_, _, _, _, _, _, rfl, entV_zero w', hb⟩
theorem bd_zero : Bd ⟨[], []⟩ := ⟨by simp, by simp, by simp, by simp⟩
end etw
end Go.Proofs.YtcolcogobdgejaaGreatDoor
