/- Contract of strings.Builder's WriteByte over this translation, for a builder that the call itself has made. -/
import Derived.Test.YtjjbmhndakmkbaaGreatDoorBuildS
namespace Go.Proofs.YtjjbmhndakmkbaaGreatDoor
open Go.RowKit
namespace bld
set_option maxRecDepth 20000 in
set_option maxHeartbeats 400000 in
theorem writeByte_cell (B b : Nat) (l : List UInt8) (c : UInt8) (w : World) (h : Is B b l w) (hlen : l.length + 1 ≤ 140737488355328) (hBw : B ≤ w.heap.size) :
    Calls Tryz.prog 48 #[.pointer (some ⟨b, 0, none⟩), .int .u8 (c.toNat : Int)] w fun e w' => e = .returned .nilIface ∧ (Is B b (l ++ [c]) w' ∧ Below B w w') := by
  have hbc : (Lib.byteCells l).length = l.length := Lib.byteCells_length l
  have hbc' : Lib.byteCells (l ++ [c]) = Lib.byteCells l ++ [.int .u8 (c.toNat : Int)] := by rw [Lib.byteCells_append]; rfl
  unfold Is
  rw [hbc']
  have h0 : Lib.IsBuilder 67 5 B b (Lib.byteCells l) w := h
  clear h hbc'
  generalize Lib.byteCells l = bs at h0 hbc ⊢
  have C := Lib.hid (copyCheck_any B b bs w h0)
  clear h0
  go_enter Tryz.func48, Tryz.ntmps48
  go_wp2_with fail
  refine C.out.mono ?_
  rintro e w1 ⟨rfl, h1, hb1⟩
  obtain ⟨hB, v, hbk, hown, hne⟩ := h1
  have hsz := hb1.size
  have c0 : w1.cell? ⟨b, 0, none⟩ = some (.pointer (some ⟨b, 0, none⟩)) := by rw [Lib.cell_of_heap hbk]; rfl
  have c1 : w1.cell? ⟨b, 1, none⟩ = some v := by rw [Lib.cell_of_heap hbk]; rfl
  obtain ⟨v', w2, hap, hown', hgr, hb2⟩ := kt.app1 (P := Tryz.prog) (ty := 61) Tryz.underlying61 infoByte rfl (.int .u8 (c.toNat : Int)) rfl hown (by rw [hbc]; unfold maxLen; omega) (by rw [hbc]; omega) (by omega)
  have hlt := lt_of_heap hbk
  have hbk2 : w2.heap[b]? = some (.cells #[.pointer (some ⟨b, 0, none⟩), v] 67 (0, 0)) := by
    rw [hgr.block b hlt (fun e => hne e.symm)]; exact hbk
  have d1 : w2.cell? ⟨b, 1, none⟩ = some v := by rw [Lib.cell_of_heap hbk2]; rfl
  have f1 : w2.frozen? ⟨b, 1, none⟩ = false := Lib.frozen_of_heap hbk2 1
  obtain ⟨ao, n, cap, rfl, hn⟩ := kt.row_form hown'
  have H1 := Lib.hid hown'
  have H2 := Lib.hid hown
  have HB := Lib.hid hbk2
  have HK := Lib.hid hbk
  have HN := Lib.hid hne
  have HG := Lib.hid hgr
  clear hown' hown hbk2 hbk hne hgr C
  go_wp2_with (at_builtin; refine Lib.wpList_append_run _ rfl _ _ _ _ rfl _ _ rfl rfl _ _ hap ?_)
  go_ret
  exact ⟨rfl, Or.inr (Lib.BuilderAt.put hB HB.out H1.out (by decide)), (hb1.trans hb2).setCell (p := ⟨b, 1, none⟩) hB _⟩

end bld
end Go.Proofs.YtjjbmhndakmkbaaGreatDoor
