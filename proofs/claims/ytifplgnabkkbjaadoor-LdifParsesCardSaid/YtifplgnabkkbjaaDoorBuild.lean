/- Contracts of strings.Builder's copyCheck and WriteByte over this translation, for a builder that the call itself has made. -/
import Derived.Test.YtifplgnabkkbjaaDoorKit
import Derived.Test.YtifplgnabkkbjaaDoorRows
import Derived.Lib.Builder
import Derived.Lib.AppendZeros
import Derived.WalkLawsBesides
namespace Go.Proofs.YtifplgnabkkbjaaDoor
open Go.RowKit
namespace bld
theorem sizeB : (Tryd.prog.info? 71).map (·.size) = some 2 := by kernel_rfl
theorem liesB : liesAt Tryd.prog Tryd.prog.depth 71 (2 / Tryd.prog.cellsOf 71) 0 71 1 = true := by kernel_rfl
theorem infoByte : (Tryd.prog.info? 5).map (fun i => (i.zero, i.size, i.bytes)) = some (some (.int .u8 0), 1, 1) := by kernel_rfl

/-- the builder in block b, number B and up being the call's own, holds the bytes l -/
abbrev Is (B b : Nat) (l : List UInt8) (w : World) : Prop := Lib.IsBuilder 71 5 B b (Lib.byteCells l) w

theorem copyCheck_used (b : Nat) (w : World) (h0 : w.cell? ⟨b, 0, none⟩ = some (.pointer (some ⟨b, 0, none⟩))) :
    Calls Tryd.prog 54 #[.pointer (some ⟨b, 0, none⟩)] w fun e w' => e = .returned (.tuple #[]) ∧ w = w' := by
  obtain ⟨j, hj, _⟩ := Option.map_eq_some_iff.1 sizeB
  have hne := fun w' : World => Lib.run_neq_ptr_same (P := Tryd.prog) w' (⟨b, 0, none⟩ : Addr) Tryd.underlying69 hj
  go_enter Tryd.func54, Tryd.ntmps54
  go_wp2
  go_end0
  exact ⟨rfl, rfl⟩

theorem copyCheck_fresh (b : Nat) (w : World) (h0 : w.cell? ⟨b, 0, none⟩ = some (.pointer none)) (hsh : w.shape? b = some (71, 2)) (hfz : w.frozen? ⟨b, 0, none⟩ = false) :
    Calls Tryd.prog 54 #[.pointer (some ⟨b, 0, none⟩)] w fun e w' => e = .returned (.tuple #[]) ∧ w.setCell ⟨b, 0, none⟩ (.pointer (some ⟨b, 0, none⟩)) = w' := by
  obtain ⟨j, hj, hjs⟩ := Option.map_eq_some_iff.1 sizeB
  have hne := fun w' : World => Lib.run_neq_ptr_same (P := Tryd.prog) w' (⟨b, 0, none⟩ : Addr) Tryd.underlying69 hj
  go_enter Tryd.func54, Tryd.ntmps54
  go_wp2
  rw [Lib.run_to_unsafe w ⟨b, 0, none⟩ Tryd.underlying69 Tryd.underlying88 hj (by rw [hjs]; decide) hsh (Nat.zero_lt_succ 1)]
  simp only [Result.andThen]
  rw [Oper.upon_value]
  go_wp2
  rw [run_callFunc_extern Tryd.func58 (by kernel_rfl) (by kernel_rfl) (by kernel_rfl) (e := Extern.AbiNoEscape.same) (by kernel_rfl)]
  rw [Lib.run_noEscape]
  simp only [Result.andThen]
  rw [Oper.upon_value]
  go_wp2
  rw [Lib.run_from_unsafe w ⟨b, 0, none⟩ Tryd.underlying88 Tryd.underlying69 hj hsh liesB]
  simp only [Result.andThen]
  rw [Oper.upon_value]
  go_wp2
  go_end0
  exact ⟨rfl, rfl⟩

theorem copyCheck_any (B b : Nat) (bs : List Value) (w : World) (h : Lib.IsBuilder 71 5 B b bs w) :
    Calls Tryd.prog 54 #[.pointer (some ⟨b, 0, none⟩)] w fun e w' => e = .returned (.tuple #[]) ∧ (Lib.BuilderAt 71 5 B b (.pointer (some ⟨b, 0, none⟩)) bs w' ∧ Below B w w') := by
  rcases h with h | h
  · refine (copyCheck_fresh b w h.cell0 h.shape h.frozen0).mono ?_
    rintro e w' ⟨rfl, rfl⟩
    exact ⟨rfl, h.used _, (Below.refl B w).setCell (p := ⟨b, 0, none⟩) h.1 _⟩
  · refine (copyCheck_used b w h.cell0).mono ?_
    rintro e w' ⟨rfl, rfl⟩
    exact ⟨rfl, h, Below.refl B _⟩

theorem lt_of_heap {w : World} {b : Nat} {o : Obj} (h : w.heap[b]? = some o) : b < w.heap.size := by
  rcases Nat.lt_or_ge b w.heap.size with h' | h'
  · exact h'
  · simp [Array.getElem?_eq_none h'] at h

set_option maxHeartbeats 400000 in
theorem writeByte_cell (B b : Nat) (l : List UInt8) (c : UInt8) (w : World) (h : Is B b l w) (hlen : l.length + 1 ≤ 140737488355328) (hBw : B ≤ w.heap.size) :
    Calls Tryd.prog 44 #[.pointer (some ⟨b, 0, none⟩), .int .u8 (c.toNat : Int)] w fun e w' => e = .returned .nilIface ∧ (Is B b (l ++ [c]) w' ∧ Below B w w') := by
  have hbc : (Lib.byteCells l).length = l.length := Lib.byteCells_length l
  have hbc' : Lib.byteCells (l ++ [c]) = Lib.byteCells l ++ [.int .u8 (c.toNat : Int)] := by rw [Lib.byteCells_append]; rfl
  unfold Is
  rw [hbc']
  have h0 : Lib.IsBuilder 71 5 B b (Lib.byteCells l) w := h
  clear h hbc'
  generalize Lib.byteCells l = bs at h0 hbc ⊢
  have C := Lib.hid (copyCheck_any B b bs w h0)
  clear h0
  go_enter Tryd.func44, Tryd.ntmps44
  go_wp2_with fail
  refine C.out.mono ?_
  rintro e w1 ⟨rfl, h1, hb1⟩
  obtain ⟨hB, v, hbk, hown, hne⟩ := h1
  have hsz := hb1.size
  have c0 : w1.cell? ⟨b, 0, none⟩ = some (.pointer (some ⟨b, 0, none⟩)) := by rw [Lib.cell_of_heap hbk]; rfl
  have c1 : w1.cell? ⟨b, 1, none⟩ = some v := by rw [Lib.cell_of_heap hbk]; rfl
  obtain ⟨v', w2, hap, hown', hgr, hb2⟩ := kt.app1 (P := Tryd.prog) (ty := 56) Tryd.underlying56 infoByte rfl (.int .u8 (c.toNat : Int)) rfl hown (by rw [hbc]; unfold maxLen; omega) (by rw [hbc]; omega) (by omega)
  have hlt := lt_of_heap hbk
  have hbk2 : w2.heap[b]? = some (.cells #[.pointer (some ⟨b, 0, none⟩), v] 71 (0, 0)) := by
    rw [hgr.block b hlt (fun e => hne e.symm)]; exact hbk
  have d1 : w2.cell? ⟨b, 1, none⟩ = some v := by rw [Lib.cell_of_heap hbk2]; rfl
  have f1 : w2.frozen? ⟨b, 1, none⟩ = false := Lib.frozen_of_heap hbk2 1
  obtain ⟨ao, n, cap, rfl, hn⟩ := kt.row_form hown'
  have H1 := Lib.hid hown'
  have H2 := Lib.hid hown
  have HB := Lib.hid hbk2
  have HK := Lib.hid hbk
  have HN := Lib.hid hne
  have HG := Lib.hid hgr
  clear hown' hown hbk2 hbk hne hgr C
  go_wp2_with (at_builtin; refine Lib.wpList_append_run _ rfl _ _ _ _ rfl _ _ rfl rfl _ _ hap ?_)
  go_ret
  exact ⟨rfl, Or.inr (Lib.BuilderAt.put hB HB.out H1.out (by decide)), (hb1.trans hb2).setCell (p := ⟨b, 1, none⟩) hB _⟩

/-- a new builder -/
theorem fresh (w : World) : Is w.heap.size w.heap.size [] (w.alloc (.cells #[.pointer none, .slice none 0 0] 71)) := Lib.fresh_isBuilder _ _ w
end bld
end Go.Proofs.YtifplgnabkkbjaaDoor
