/- Contracts of strings.Builder's WriteString and WriteByte that say what else stays: blocks of no bytes, but the builder's own. -/
import Derived.Test.YtcolcogobdgejaaGreatDoorC2
import Derived.Test.YtcolcogobdgejaaGreatDoorC1
/-! BldW -/
namespace Go.Proofs.YtcolcogobdgejaaGreatDoor
open Go.RowKit
namespace bld
set_option linter.unusedVariables false
set_option linter.unusedSimpArgs false
def Keep (b : Nat) (w w' : World) : Prop := ∀ (k : Nat) (o : Obj), w.heap[k]? = some o → (∀ cs f, o ≠ .cells cs 5 f) → k ≠ b → w'.heap[k]? = some o
theorem Keep.refl (b : Nat) (w : World) : Keep b w w := fun k o h _ _ => h
theorem Keep.trans {b : Nat} {w w' w'' : World} (h : Keep b w w') (h' : Keep b w' w'') : Keep b w w'' := fun k o h1 h2 h3 => h' k o (h k o h1 h2 h3) h2 h3
theorem Keep.set {b j : Nat} {w w' : World} (h : Keep b w w') (u : Value) : Keep b w (w'.setCell ⟨b, j, none⟩ u) := fun k o h1 h2 h3 => by
 rw [Below.heap_setCell _ _ _ _ (fun e => h3 (by rw [e]))]
 exact h k o h1 h2 h3
theorem Keep.below {b : Nat} {w w' : World} (h : Below w.heap.size w w') : Keep b w w' := fun k o h1 _ _ => (h.block k (lt_of_heap h1)).trans h1
theorem Keep.row {b B n : Nat} {w w' w'' : World} {v : Value} {xs : List Value} (h : Keep b w w') (hown : w'.ownsRow B 5 1 v n xs) (hg : w'.grownBy w'' v.ownBlock) : Keep b w w'' := fun k o h1 h2 h3 => by
 have h4 := h k o h1 h2 h3
 rw [hg.block k (lt_of_heap h4) ?_]
 ·exact h4
 ·intro e
  rcases hown.2 with ⟨rfl, _⟩ | ⟨g, cap, cur, rfl, _, hg2, _⟩
  ·cases e
  ·have : k = g := by simpa [Value.ownBlock] using e
   subst this
   rw [h4] at hg2
   exact h2 _ _ (Option.some.inj hg2)
theorem copyCheck_keep (B b : Nat) (bs : List Value) (w : World) (h : Lib.IsBuilder 103 5 B b bs w) :
  Calls Tryz.prog 136 #[.pointer (some ⟨b, 0, none⟩)] w fun e w' => e = .returned (.tuple #[]) ∧ (Lib.BuilderAt 103 5 B b (.pointer (some ⟨b, 0, none⟩)) bs w' ∧ Below B w w' ∧ Keep b w w') := by
 rcases h with h | h
 ·refine (copyCheck_fresh b w h.cell0 h.shape h.frozen0).mono ?_
  rintro e w' ⟨rfl, rfl⟩
  exact ⟨rfl, h.used _, (Below.refl B w).setCell (p := ⟨b, 0, none⟩) h.1 _, (Keep.refl b w).set _⟩
 ·refine (copyCheck_used b w h.cell0).mono ?_
  rintro e w' ⟨rfl, rfl⟩
  exact ⟨rfl, h, Below.refl B _, Keep.refl b _⟩
set_option maxRecDepth 20000 in
set_option maxHeartbeats 400000 in
theorem writeString_keep (B b : Nat) (l : List UInt8) (t : ByteArray) (w : World) (h : Is B b l w) (hlen : l.length + t.size ≤ 140737488355328) (hBw : B ≤ w.heap.size) :
  Calls Tryz.prog 91 #[.pointer (some ⟨b, 0, none⟩), .string t] w fun e w' => e = .returned (.tuple #[.int .i64 (t.size : Int), .nilIface]) ∧ (Is B b (l ++ t.data.toList) w' ∧ Below B w w' ∧ Keep b w w') := by
 have hbc : (Lib.byteCells l).length = l.length := Lib.byteCells_length l
 have hbc' : Lib.byteCells (l ++ t.data.toList) = Lib.byteCells l ++ Lib.strCells t := by rw [Lib.byteCells_append]; rfl
 unfold Is
 rw [hbc']
 have h0 : Lib.IsBuilder 103 5 B b (Lib.byteCells l) w := h
 clear h hbc'
 generalize Lib.byteCells l = bs at h0 hbc ⊢
 have C := Lib.hid (copyCheck_keep B b bs w h0)
 clear h0
 obtain ⟨i0, hi, hz0, hz1, hz2⟩ := info_parts infoByte
 go_enter Tryz.func91, Tryz.ntmps91
 go_wp2_with fail
 refine C.out.mono ?_
 rintro e w1 ⟨rfl, h1, hb1, hk1⟩
 obtain ⟨hB, v, hbk, hown, hne⟩ := h1
 have hsz := hb1.size
 have c0 : w1.cell? ⟨b, 0, none⟩ = some (.pointer (some ⟨b, 0, none⟩)) := by rw [Lib.cell_of_heap hbk]; rfl
 have c1 : w1.cell? ⟨b, 1, none⟩ = some v := by rw [Lib.cell_of_heap hbk]; rfl
 obtain ⟨v', w2, hap, hown', hgr, _⟩ := Lib.run_append_own_string (P := Tryz.prog) w1 B 96 9 96 5 i0 Tryz.underlying96 Tryz.underlying9 hi hz0 hz1 hz2 v bs.length bs hown t (by rw [hbc]; unfold maxLen; omega) (by rw [hbc]; omega) (by omega)
 have hlt := lt_of_heap hbk
 have hbk2 : w2.heap[b]? = some (.cells #[.pointer (some ⟨b, 0, none⟩), v] 103 (0, 0)) := by
  rw [hgr.block b hlt (fun e => hne e.symm)]; exact hbk
 have hb2 : Below B w1 w2 := (Below.refl B w1).grown hgr (by omega) (fun k hk => (hown.lt k hk).1)
 have d1 : w2.cell? ⟨b, 1, none⟩ = some v := by rw [Lib.cell_of_heap hbk2]; rfl
 have f1 : w2.frozen? ⟨b, 1, none⟩ = false := Lib.frozen_of_heap hbk2 1
 have hown2 : w2.ownsRow B 5 1 v' (bs ++ Lib.strCells t).length (bs ++ Lib.strCells t) := by
  rw [List.length_append, Lib.strCells_length]; exact hown'
 obtain ⟨ao, n, cap, rfl, hn⟩ := kt.row_form hown2
 have H1 := Lib.hid hown2
 have HK := Lib.hid (hk1.row hown hgr)
 have HB := Lib.hid hbk2
 clear hk1 hown' hown hbk2 hbk hne hgr C hown2
 go_wp2_with (at_builtin; refine Lib.wpList_append_run _ rfl _ _ _ _ rfl _ _ rfl rfl _ _ hap ?_)
 go_ret2
 exact ⟨rfl, Or.inr (Lib.BuilderAt.put hB HB.out H1.out (by decide)), (hb1.trans hb2).setCell (p := ⟨b, 1, none⟩) hB _, HK.out.set _⟩
set_option maxRecDepth 20000 in
set_option maxHeartbeats 400000 in
theorem writeByte_keep (B b : Nat) (l : List UInt8) (c : UInt8) (w : World) (h : Is B b l w) (hlen : l.length + 1 ≤ 140737488355328) (hBw : B ≤ w.heap.size) :
  Calls Tryz.prog 92 #[.pointer (some ⟨b, 0, none⟩), .int .u8 (c.toNat : Int)] w fun e w' => e = .returned .nilIface ∧ (Is B b (l ++ [c]) w' ∧ Below B w w' ∧ Keep b w w') := by
 have hbc : (Lib.byteCells l).length = l.length := Lib.byteCells_length l
 have hbc' : Lib.byteCells (l ++ [c]) = Lib.byteCells l ++ [.int .u8 (c.toNat : Int)] := by rw [Lib.byteCells_append]; rfl
 unfold Is
 rw [hbc']
 have h0 : Lib.IsBuilder 103 5 B b (Lib.byteCells l) w := h
 clear h hbc'
 generalize Lib.byteCells l = bs at h0 hbc ⊢
 have C := Lib.hid (copyCheck_keep B b bs w h0)
 clear h0
 go_enter Tryz.func92, Tryz.ntmps92
 go_wp2_with fail
 refine C.out.mono ?_
 rintro e w1 ⟨rfl, h1, hb1, hk1⟩
 obtain ⟨hB, v, hbk, hown, hne⟩ := h1
 have hsz := hb1.size
 have c0 : w1.cell? ⟨b, 0, none⟩ = some (.pointer (some ⟨b, 0, none⟩)) := by rw [Lib.cell_of_heap hbk]; rfl
 have c1 : w1.cell? ⟨b, 1, none⟩ = some v := by rw [Lib.cell_of_heap hbk]; rfl
 obtain ⟨v', w2, hap, hown', hgr, hb2⟩ := kt.app1 (P := Tryz.prog) (ty := 96) Tryz.underlying96 infoByte rfl (.int .u8 (c.toNat : Int)) rfl hown (by rw [hbc]; unfold maxLen; omega) (by rw [hbc]; omega) (by omega)
 have hlt := lt_of_heap hbk
 have hbk2 : w2.heap[b]? = some (.cells #[.pointer (some ⟨b, 0, none⟩), v] 103 (0, 0)) := by
  rw [hgr.block b hlt (fun e => hne e.symm)]; exact hbk
 have d1 : w2.cell? ⟨b, 1, none⟩ = some v := by rw [Lib.cell_of_heap hbk2]; rfl
 have f1 : w2.frozen? ⟨b, 1, none⟩ = false := Lib.frozen_of_heap hbk2 1
 obtain ⟨ao, n, cap, rfl, hn⟩ := kt.row_form hown'
 have H1 := Lib.hid hown'
 have HKK := Lib.hid (hk1.row hown hgr)
 have H2 := Lib.hid hown
 have HB := Lib.hid hbk2
 have HK := Lib.hid hbk
 have HN := Lib.hid hne
 have HG := Lib.hid hgr
 clear hk1 hown' hown hbk2 hbk hne hgr C
 go_wp2_with (at_builtin; refine Lib.wpList_append_run _ rfl _ _ _ _ rfl _ _ rfl rfl _ _ hap ?_)
 go_ret
 exact ⟨rfl, Or.inr (Lib.BuilderAt.put hB HB.out H1.out (by decide)), (hb1.trans hb2).setCell (p := ⟨b, 1, none⟩) hB _, HKK.out.set _⟩
end bld
end Go.Proofs.YtcolcogobdgejaaGreatDoor
