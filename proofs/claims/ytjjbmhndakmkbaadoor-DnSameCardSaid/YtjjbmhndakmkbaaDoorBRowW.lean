/- Rows of bytes that a call owns, appended to. -/
import Derived.Test.YtjjbmhndakmkbaaDoorSpecW
namespace Go.Proofs.YtjjbmhndakmkbaaDoor
open Go.RowKit
namespace dnw
set_option linter.unusedVariables false
/-- an append's run, in a box: two of them are told apart by their arguments alone -/
structure ApX (P : Program) (t tn ty : TypeId) (vs vx : Value) (w : World) (v' : Value) (w' : World) : Prop where
  run : (Builtin.append_ #[t, tn] ty #[vs, vx]).run P w = .ok v' w'
theorem wp_apX {P : Program} {w : World} {ops : Array Oper} {rest : List Oper} {o : Oper} {a : Act} {Q : Exit → Act → World → Prop} (hgd : o.guard = none) (s x : Operand) (t tn : TypeId)
    (ho : o.op = .call { callee := .builtin .append, args := #[s, x], argTypes := #[t, tn] }) (v' : Value) (w' : World) (hr : ApX P t tn o.type (a.eval s) (a.eval x) w v' w') (h : wpList P ops Q rest (a.put o.dst v') w') : wpList P ops Q (o :: rest) a w :=
  Lib.wpList_append_run w hgd s x t tn ho _ _ rfl rfl v' w' hr.run h
def BRow (w : World) (B : Nat) (v : Value) (l : List UInt8) : Prop := w.ownsRow B 5 1 v (Lib.byteCells l).length (Lib.byteCells l)
theorem brow_made (w : World) (B : Nat) (hB : B ≤ w.heap.size) : BRow (w.alloc (.cells #[] 5)) B (.slice (some ⟨w.heap.size, 0, none⟩) 0 0) [] := World.ownsRow_made w #[] 0 hB (by unfold maxLen; omega) rfl
theorem brow_below {w w' : World} {B : Nat} {v : Value} {l : List UInt8} (h : BRow w B v l) (hb : Below w.heap.size w w') : BRow w' B v l := kt.row_below h hb
theorem brow_same {w w' : World} {B : Nat} {v : Value} {l : List UInt8} (h : BRow w B v l) (hs : ∀ k, B ≤ k → k < w.heap.size → w'.heap[k]? = w.heap[k]?) : BRow w' B v l := by
  refine ⟨h.1, ?_⟩
  rcases h.2 with h0 | ⟨g, cap, cur, hv, hBg, hg, h1, h2, h3, h4⟩
  · exact Or.inl h0
  · refine Or.inr ⟨g, cap, cur, hv, hBg, ?_, h1, h2, h3, h4⟩
    rw [hs g hBg (bld.lt_of_heap hg)]
    exact hg
theorem brow_form {w : World} {B : Nat} {v : Value} {l : List UInt8} (h : BRow w B v l) : ∃ (ao : Option Addr) (m cap : Nat), v = .slice ao m cap ∧ Hid (m = l.length) := by
  obtain ⟨ao, n, cap, h1, h2⟩ := kt.row_form h
  exact ⟨ao, n, cap, h1, by show _ = _; rw [h2.out, Lib.byteCells_length]⟩
theorem brow_app {w : World} {B : Nat} {v : Value} {l : List UInt8} (c : UInt8) (h : BRow w B v l) (hl : l.length ≤ 100000000) (hB : B ≤ w.heap.size) :
    ∃ ao m cap w1, (Builtin.append_ #[54, 54] 54 #[v, .slice (some ⟨w.heap.size, 0, none⟩) 1 1]).run Tryd.prog (w.alloc (.cells #[.int .u8 (c.toNat : Int)] 5)) = .ok (.slice ao m cap) w1 ∧ BRow w1 B (.slice ao m cap) (l ++ [c]) ∧ Below B w w1 := by
  have hlen : (Lib.byteCells l).length = l.length := Lib.byteCells_length l
  obtain ⟨v', w1, h1, h2, _, h3⟩ := kt.app1 (P := Tryd.prog) (ty := 54) Tryd.underlying54 bld.infoByte rfl (.int .u8 (c.toNat : Int)) rfl h (by rw [hlen]; unfold maxLen; omega) (by rw [hlen]; omega) hB
  have h2' : BRow w1 B v' (l ++ [c]) := by unfold BRow; rw [Lib.byteCells_append]; exact h2
  obtain ⟨ao, m, cap, rfl, _⟩ := brow_form h2'
  exact ⟨ao, m, cap, w1, h1, h2', h3⟩
theorem brow_app3 {w : World} {B : Nat} {v : Value} {l : List UInt8} (a b c : UInt8) (h : BRow w B v l) (hl : l.length ≤ 100000000) (hB : B ≤ w.heap.size) :
    ∃ ao m cap w1, (Builtin.append_ #[54, 54] 54 #[v, .slice (some ⟨w.heap.size, 0, none⟩) 3 3]).run Tryd.prog (w.alloc (.cells #[.int .u8 (a.toNat : Int), .int .u8 (b.toNat : Int), .int .u8 (c.toNat : Int)] 5)) = .ok (.slice ao m cap) w1 ∧ BRow w1 B (.slice ao m cap) (l ++ [a, b, c]) ∧ Below B w w1 := by
  have hlen : (Lib.byteCells l).length = l.length := Lib.byteCells_length l
  have hb0 : Below w.heap.size w (w.alloc (.cells #[.int .u8 (a.toNat : Int), .int .u8 (b.toNat : Int), .int .u8 (c.toNat : Int)] 5)) := (Below.refl _ _).alloc (Nat.le_refl _) _
  obtain ⟨v', w1, h1, h2, _, h3⟩ := kt.appN (P := Tryd.prog) (ty := 54) Tryd.underlying54 bld.infoByte rfl ⟨w.heap.size, 0, none⟩ 3 3 [.int .u8 (a.toNat : Int), .int .u8 (b.toNat : Int), .int .u8 (c.toNat : Int)] rfl (fun j u hj => by
    rw [kt.addr_add, World.cell?_alloc_new]
    simpa using hj) (fun u hu => by simp at hu; rcases hu with rfl | rfl | rfl <;> rfl) (kt.row_below h hb0) (by rw [hlen]; unfold maxLen; omega) (by rw [hlen]; omega) (by simp; omega)
  have h2' : BRow w1 B v' (l ++ [a, b, c]) := by unfold BRow; rw [Lib.byteCells_append]; exact h2
  obtain ⟨ao, m, cap, rfl, _⟩ := brow_form h2'
  exact ⟨ao, m, cap, w1, h1, h2', ((Below.refl B w).alloc hB _).trans h3⟩
theorem brow_str {w : World} {B : Nat} {v : Value} {l : List UInt8} (h : BRow w B v l) : (convert 54 9 v).run Tryd.prog w = .ok (.string ⟨l.toArray⟩) w := kt.str_of_row Tryd.underlying54 Tryd.underlying5 Tryd.underlying9 h
end dnw
end Go.Proofs.YtjjbmhndakmkbaaDoor
