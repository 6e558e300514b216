/- The walk of Copy. -/
import Derived.Test.YtcmpepojokmhnaaObs
import Derived.Test.YtcmpepojokmhnaaMay
namespace Go.Proofs.Ytcmpepojokmhnaa
open Go.RowKit
namespace fre
set_option linter.unusedVariables false
set_option linter.unusedSimpArgs false
theorem yieldsIf_build2 {P : Program} {ops : Array Oper} {S : World → Prop} {op : Oper} {a : Act} (hw : Region.wanted op (yielded ops a.tmps) = true) (t : TypeId) (x y : Operand) (i j : Nat) (ho : op.op = .build t #[(i, x), (j, y)])
    (v0 v1 : Value) (hx : a.eval x = v0) (hy : a.eval y = v1) (cells : Array Value) (hr : ∀ w, (Instr.build t #[(i, v0), (j, v1)]).run P w = .ok (.agg cells) w) : YieldsIf P ops S op (.agg cells) a :=
  .inl ⟨hw, fun w hw' => by
    unfold execOp
    simp [ho, hx, hy, hr]⟩
set_option maxRecDepth 20000 in
theorem built_copy (ao : Option Addr) (n cap : Nat) (f : Nat → Bool) (w : World) : (Instr.build 55 #[(0, .slice ao n cap), (1, .agg (hcells f))]).run Try.prog w = .ok (.agg (lcells (.slice ao n cap) f)) w := by
  exact run_build w _ _ _ (by kernel_rfl)
end fre
end Go.Proofs.Ytcmpepojokmhnaa
