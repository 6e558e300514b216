/- The walk of the statements' awake: the chapter's example. -/
import Derived.Test.YtjjbmhndakmkbaaGreatDoorDPrintW
import Derived.Test.YtjjbmhndakmkbaaGreatDoorParseW
namespace Go.Proofs.YtjjbmhndakmkbaaGreatDoor
open Go.RowKit
namespace dnw
open dnp
set_option linter.unusedVariables false
set_option linter.unusedSimpArgs false
def exT : ByteArray := ⟨#[67, 78, 61, 65, 110, 110, 32, 92, 44, 32, 66, 32, 43, 32, 115, 110, 61, 120, 32, 44, 32, 111, 117, 61, 80, 101, 111, 112, 108, 101]⟩
def exS : List UInt8 := [99, 110, 61, 65, 110, 110, 32, 92, 44, 32, 66, 43, 115, 110, 61, 120, 44, 111, 117, 61, 80, 101, 111, 112, 108, 101]
def exN : List (List Av) := [[av ([99, 110], [65, 110, 110, 32, 44, 32, 66]), av ([115, 110], [120])], [av ([111, 117], [80, 101, 111, 112, 108, 101])]]
theorem ex_ok : nameOK exN = true := by kernel_rfl
theorem ex_GP : GP [] [] (exT.data.toList.dropWhile (· = 32)) = some exN := by kernel_rfl
theorem ex_parse : parseR exT.data.toList = some exN := by
  unfold parseR
  rw [ex_GP, if_neg (by decide)]
  simp only [ex_ok, if_true]
theorem ex_name : nameX exN = exS := by kernel_rfl
theorem ex_print : printR exN = (exS, 0) := by
  unfold printR
  rw [if_pos ex_ok, ex_name]
  rfl
set_option maxRecDepth 100000 in
set_option maxHeartbeats 4000000 in
theorem awake_any (w : World) (hE : Hid (prw.Env w)) (hT : Hid (Tabs w)) : Calls Tryz.prog 5 #[] w fun e w' => e = .returned (.bool true) ∧ Below w.heap.size w w' := by
  have CP := parse_any exT w (by decide) hE hT
  have HC : Hid (Calls Tryz.prog 16 #[.string exT] w fun e w' => Below w.heap.size w w' ∧ ∃ ao cap, e = .returned (.tuple #[.slice ao 2 cap, .int .i64 0]) ∧ Rdns w' ao exN) := by
    refine CP.mono fun e w' h => ?_
    obtain ⟨h1, h2⟩ := h
    rw [if_neg (by decide), ex_parse] at h2
    obtain ⟨ao, cap, h3, _, h4, _⟩ := h2
    exact ⟨h1, ao, cap, h3, h4⟩
  have HC' : Hid (Calls Tryz.prog 16 #[.string ⟨#[67, 78, 61, 65, 110, 110, 32, 92, 44, 32, 66, 32, 43, 32, 115, 110, 61, 120, 32, 44, 32, 111, 117, 61, 80, 101, 111, 112, 108, 101]⟩] w fun e w' => Below w.heap.size w w' ∧ ∃ ao cap, e = .returned (.tuple #[.slice ao 2 cap, .int .i64 0]) ∧ Rdns w' ao exN) := HC
  clear CP HC
  go_enter Tryz.func5, Tryz.ntmps5
  go_wp2_with fail
  refine HC'.out.mono ?_
  rintro e w1 ⟨hB1, ao, cap, rfl, hN⟩
  have HN := Lib.hid hN
  have HB1 := Lib.hid hB1
  have hsm : ∀ l ∈ exN, l.length ≤ 4 → Smalls l := by
    intro l hl _ x hx
    have : ∀ l ∈ exN, ∀ x ∈ l, x.t.size ≤ 100000 ∧ x.v.size ≤ 1000000 := by decide
    exact this l hl x hx
  have CQ := print_any ao cap exN w1 HN (Lib.hid (prw.env_below hE.out hB1)) (Lib.hid hsm)
  have HQ : Hid (Calls Tryz.prog 17 #[.slice ao 2 cap] w1 fun e w' => e = .returned (.tuple #[.string ⟨#[99, 110, 61, 65, 110, 110, 32, 92, 44, 32, 66, 43, 115, 110, 61, 120, 44, 111, 117, 61, 80, 101, 111, 112, 108, 101]⟩, .int .i64 0]) ∧ Below w1.heap.size w1 w') := by
    refine CQ.mono fun e w' h => ⟨?_, h.2⟩
    have h1 := h.1
    unfold PrintE at h1
    rw [ex_print] at h1
    exact h1
  obtain ⟨b, o, ao', cap', hao, hc, _, _⟩ := hN 0 (by decide)
  subst hao
  have hc0 : w1.cell? ⟨b, o, none⟩ = some (.slice ao' 2 cap') := hc
  have HC0 := Lib.hid hc0
  clear hN hB1 hsm CQ hc hc0
  go_wp2_with fail
  refine HQ.out.mono ?_
  rintro e w2 ⟨rfl, hB2⟩
  have hc2 := (hB2.cell (World.block_lt_of_cell? w1 _ HC0.out)).trans HC0.out
  go_wp2_with fail
  go_ret
  exact ⟨rfl, HB1.out.trans (hB2.mono HB1.out.size)⟩
end dnw
end Go.Proofs.YtjjbmhndakmkbaaGreatDoor
