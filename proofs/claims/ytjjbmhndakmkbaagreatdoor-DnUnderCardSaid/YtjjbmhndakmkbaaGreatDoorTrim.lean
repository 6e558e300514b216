/- What the library's variables hold, for Tuple. -/
import Derived.Test.YtjjbmhndakmkbaaGreatDoorReadyW
import Derived.Test.YtjjbmhndakmkbaaGreatDoorKindW
namespace Go.Proofs.YtjjbmhndakmkbaaGreatDoor
open Go.RowKit
namespace trm
def Env (w : World) : Prop := (∃ m : Int, w.cell? ⟨0, 0, none⟩ = some (.int .i64 m)) ∧ Lib.Utf8Tabs 1 2 w
theorem env_below {w w' : World} (h : Env w) (hb : Below w.heap.size w w') : Env w' := by
  obtain ⟨⟨m, hm⟩, ht⟩ := h
  exact ⟨⟨m, (hb.cell (World.block_lt_of_cell? w _ hm)).trans hm⟩, Utf8Tabs_below ht hb⟩
end trm
end Go.Proofs.YtjjbmhndakmkbaaGreatDoor
