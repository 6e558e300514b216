/- Rows of signs cut: what a slice expression yields, and where its signs lie. -/
import Derived.Test.YtjjbmhndakmkbaaDoorSpecW
import Derived.ChangeKeysEq
namespace Go.Proofs.YtjjbmhndakmkbaaDoor
open Go.RowKit
namespace dnw
open dnp
set_option linter.unusedVariables false
set_option linter.unusedSimpArgs false
/-- where a row cut at lo begins -/
def cutA (ao : Option Addr) (cap lo : Nat) : Option Addr := if cap = lo then ao else ao.map (·.add (lo * 2))
theorem elemSign : Tryd.prog.elem 43 = 48 := by kernel_rfl
theorem sizeSign (w : World) : (Go.sizeOf (Tryd.prog.elem 43)).run Tryd.prog w = .ok 2 w := by
  obtain ⟨i0, hi, _, _, _⟩ := info_parts infoSign
  rw [elemSign, run_sizeOf w hi]
  exact congrArg (fun n => Result.ok n w) (by kernel_rfl)
theorem undSign : Tryd.prog.underlying 43 = some (.slice (Tryd.prog.elem 43)) := by rw [elemSign]; exact Tryd.underlying43
theorem cut_lh (ao : Option Addr) (m cap lo hi : Nat) (h1 : lo ≤ hi) (h2 : hi ≤ cap) (wx : World) :
    (Instr.slice 43 (.slice ao m cap) (some (.int .i64 (lo : Int))) (some (.int .i64 (hi : Int))) none).run Tryd.prog wx = .ok (.slice (cutA ao cap lo) (hi - lo) (cap - lo)) wx := by
  rw [run_slice_lh (P := Tryd.prog) wx _ _ _ _ undSign _ _ _ _ (by omega) (by omega) (by omega), sizeSign]
  rfl
theorem cut_l (ao : Option Addr) (m cap lo : Nat) (h1 : lo ≤ m) (wx : World) :
    (Instr.slice 43 (.slice ao m cap) (some (.int .i64 (lo : Int))) none none).run Tryd.prog wx = .ok (.slice (cutA ao cap lo) (m - lo) (cap - lo)) wx := by
  rw [run_slice_l (P := Tryd.prog) wx _ _ _ _ undSign _ _ (by omega) (by omega), sizeSign]
  rfl
theorem cut_h (ao : Option Addr) (m cap hi : Nat) (h2 : hi ≤ cap) (wx : World) :
    (Instr.slice 43 (.slice ao m cap) none (some (.int .i64 (hi : Int))) none).run Tryd.prog wx = .ok (.slice (cutA ao cap 0) hi cap) wx := by
  rw [run_slice_h (P := Tryd.prog) wx _ _ _ _ undSign _ _ (by omega) (by omega), sizeSign]
  rfl
theorem cutA_zero (ao : Option Addr) (cap : Nat) : cutA ao cap 0 = ao := by
  unfold cutA
  split
  · rfl
  · cases ao with
    | none => rfl
    | some a =>
      simp only [Nat.zero_mul, Option.map_some]
      unfold Addr.add
      rfl
theorem cutA_some (b o cap lo : Nat) : cutA (some ⟨b, o, none⟩) cap lo = if cap = lo then some ⟨b, o, none⟩ else some ⟨b, o + lo * 2, none⟩ := by
  unfold cutA
  split
  · rfl
  · simp only [Option.map_some, Addr.add_mid]
theorem sgs_cut {w : World} {ao : Option Addr} {L : List Sg} {cap lo : Nat} (h : Sgs w ao L) (hc : L.length ≤ cap) : Sgs w (cutA ao cap lo) (L.drop lo) := by
  intro i hi
  rw [List.length_drop] at hi
  obtain ⟨b, o, e, h1, h2⟩ := h (lo + i) (by omega)
  subst e
  rw [List.getElem_drop]
  unfold cutA
  rw [if_neg (by omega)]
  refine ⟨b, o + lo * 2, by simp only [Option.map_some, Addr.add_mid], ?_, ?_⟩
  · rw [show o + lo * 2 + i * 2 = o + (lo + i) * 2 from by rw [Nat.add_mul]; omega]; exact h1
  · rw [show o + lo * 2 + i * 2 + 1 = o + (lo + i) * 2 + 1 from by rw [Nat.add_mul]; omega]; exact h2
theorem sgs_take {w : World} {ao : Option Addr} {M : List Sg} (h : Sgs w ao M) (k : Nat) : Sgs w ao (M.take k) := by
  intro i hi
  rw [List.length_take] at hi
  rw [List.getElem_take]
  exact h i (by omega)
def slen : Value → Nat
  | .slice _ n _ => n
  | _ => 0
end dnw
end Go.Proofs.YtjjbmhndakmkbaaDoor
