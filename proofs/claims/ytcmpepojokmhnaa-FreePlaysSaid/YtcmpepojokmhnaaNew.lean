/- The walk of New. -/
import Derived.Test.YtcmpepojokmhnaaBin
namespace Go.Proofs.Ytcmpepojokmhnaa
open Go.RowKit
namespace fre
set_option linter.unusedVariables false
/-- a list's cells: its row, and of each page whether it is here -/
def lcN (n : Nat) (v : Value) (here : Nat → Bool) : List Value := v :: (List.range n).map fun k => Value.bool (here k)
def lcells (v : Value) (here : Nat → Bool) : Array Value := (lcN 512 v here).toArray
theorem build0 (w : World) : (zeroValue 55).run Try.prog w = .ok (.agg (lcells (.slice none 0 0) fun _ => false)) w := by kernel_rfl
theorem new_any (w : World) : Calls Try.prog 10 #[] w fun e w' => e = .returned (.pointer (some ⟨w.heap.size, 0, none⟩)) ∧ w' = w.alloc (.cells (lcells (.slice none 0 0) fun _ => false) 55) := by
  obtain ⟨cs, hcs⟩ : ∃ cs : Array Value, Hid (cs = lcells (.slice none 0 0) fun _ => false) := ⟨_, rfl⟩
  have hb : ∀ w, (zeroValue 55).run Try.prog w = .ok (.agg cs) w := fun w => by rw [hcs.out]; exact build0 w
  rw [← hcs.out]
  go_enter Try.func10, Try.ntmps10
  go_wp2_with fail
  go_ret
  exact ⟨rfl, rfl⟩
end fre
end Go.Proofs.Ytcmpepojokmhnaa
