/- What Parse answers, as a value. -/
import Derived.Test.YtjjbmhndakmkbaaDoorParseW
import Derived.Test.YtjjbmhndakmkbaaDoorPrintQ
namespace Go.Proofs.YtjjbmhndakmkbaaDoor
open Go.RowKit
namespace dnw
open dnp
set_option linter.unusedVariables false
set_option linter.unusedSimpArgs false
theorem parseR_ok {l : List UInt8} {n : List (List Av)} (h : parseR l = some n) : nameOK n = true := by
  unfold parseR at h
  split at h
  · cases h; rfl
  · split at h
    · cases h
    · split at h
      · cases h; assumption
      · cases h
def parseV (s : ByteArray) : List (List Av) × Int := if 1000 < s.size then ([], 5) else match parseR s.data.toList with
  | none => ([], 4)
  | some n => (n, 0)
theorem parseV_small (s : ByteArray) : (parseV s).1.length ≤ 12 ∧ ∀ l ∈ (parseV s).1, l.length ≤ 4 := by
  unfold parseV
  split
  · simp
  · cases h : parseR s.data.toList with
    | none => simp
    | some n =>
      have hn := nameOK_facts (parseR_ok h)
      exact ⟨hn.1, fun l hl => (rdnOK_facts (hn.2 l hl)).2.1⟩
theorem parseE_V {s : ByteArray} {w : World} {e : Ending} {w' : World} (h : ParseE s w e w') : Below w.heap.size w w' ∧ ∃ ao cap, e = .returned (.tuple #[.slice ao (parseV s).1.length cap, .int .i64 (parseV s).2]) ∧ Rdns w' ao (parseV s).1 := by
  obtain ⟨h1, h2⟩ := h
  refine ⟨h1, ?_⟩
  unfold parseV
  split at h2
  · rename_i hl
    rw [if_pos hl]
    exact ⟨none, 0, h2, fun i hi => by simp at hi⟩
  · rename_i hl
    rw [if_neg hl]
    cases hp : parseR s.data.toList with
    | none =>
      rw [hp] at h2
      exact ⟨none, 0, h2, fun i hi => by simp at hi⟩
    | some n =>
      rw [hp] at h2
      obtain ⟨ao, cap, h3, _, h4, _⟩ := h2
      exact ⟨ao, cap, h3, h4⟩
end dnw
end Go.Proofs.YtjjbmhndakmkbaaDoor
