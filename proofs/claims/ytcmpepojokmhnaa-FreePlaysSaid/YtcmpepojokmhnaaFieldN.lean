/- The walk of the reference's Number. -/
import Derived.Test.YtcmpepojokmhnaaFieldS
namespace Go.Proofs.Ytcmpepojokmhnaa
open Go.RowKit
namespace fldw
/-- a number's bytes, as the reference's Number gives them -/
def numS (n k : Nat) : ByteArray := ⟨((fld.put n (k : Int)).getD []).toArray⟩
set_option maxHeartbeats 400000 in
theorem number_any (n k : Nat) (w : World) (hn : n < 9223372036854775808) (hk : k ≤ 8) :
    Calls Try.prog 39 #[.int .i64 (n : Int), .int .i64 (k : Int)] w fun e w' => e = .returned (.string (numS n k)) ∧ Below w.heap.size w w' := by
  have C := rput_any ⟨#[]⟩ n (k : Int) w (by decide) (by show n < _; omega) (by omega) (by omega)
  obtain ⟨er, hC⟩ : ∃ er : Int, Hid (putV ⟨#[]⟩ (fld.put n (k : Int)) = .tuple #[.string (numS n k), .int .i64 er]) := by
    cases h : fld.put n (k : Int) with
    | none => exact ⟨1, by show _ = _; unfold numS; rw [h]; rfl⟩
    | some l => exact ⟨0, by show _ = _; unfold numS; rw [h]; rfl⟩
  rw [hC.out] at C
  have C1 := Lib.hid C
  have e1 : IntKind.u64.wrap (n : Int) = (n : Int) := by rw [IntKind.wrap_u64]; omega
  have E1 := Lib.hid e1
  clear C e1
  have hn2 : (n : Int) ≤ 9223372036854775807 := by omega
  clear hn
  go_enter Try.func39, Try.ntmps39
  go_wp2_with fail
  refine C1.out.mono ?_
  rintro e w1 ⟨rfl, hB1⟩
  go_wp2_with fail
  go_ret
  exact ⟨rfl, hB1⟩
end fldw
end Go.Proofs.Ytcmpepojokmhnaa
