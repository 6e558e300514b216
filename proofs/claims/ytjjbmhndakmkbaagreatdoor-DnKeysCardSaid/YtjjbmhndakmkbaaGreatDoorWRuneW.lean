/- The walk of strings.Builder's WriteRune, for a builder that the call itself has made. -/
import Derived.Test.YtjjbmhndakmkbaaGreatDoorBuildS
import Derived.Test.YtjjbmhndakmkbaaGreatDoorRunesW
namespace Go.Proofs.YtjjbmhndakmkbaaGreatDoor
open Go.RowKit
namespace bld
set_option linter.unusedVariables false
set_option linter.unusedSimpArgs false
set_option maxRecDepth 20000 in
set_option maxHeartbeats 1000000 in
theorem writeRune_any (B b : Nat) (l : List UInt8) (r : Int) (w : World) (h : Is B b l w) (hr0 : 0 ≤ r) (hr1 : r ≤ 1114111) (hlen : l.length ≤ 1000000000) (hBw : B ≤ w.heap.size) :
    Calls Tryz.prog 74 #[.pointer (some ⟨b, 0, none⟩), .int .i32 r] w fun e w' => ∃ v, e = .returned v ∧ (Is B b (l ++ run.enc r) w' ∧ Below B w w') := by
  have hbc : (Lib.byteCells l).length = l.length := Lib.byteCells_length l
  have hbc' : Lib.byteCells (l ++ run.enc r) = Lib.byteCells l ++ Lib.runeCells r := by rw [Lib.byteCells_append]; unfold run.enc; rw [Lib.byteCells_encodeRune]
  unfold Is
  rw [hbc']
  have h0 : Lib.IsBuilder 67 5 B b (Lib.byteCells l) w := h
  clear h hbc'
  generalize Lib.byteCells l = bs at h0 hbc ⊢
  have C := Lib.hid (copyCheck_any B b bs w h0)
  clear h0
  go_enter Tryz.func74, Tryz.ntmps74
  go_wp2_with fail
  refine C.out.mono ?_
  rintro e w1 ⟨rfl, h1, hb1⟩
  obtain ⟨hB, v, hbk, hown, hne⟩ := h1
  have hsz := hb1.size
  have c0 : w1.cell? ⟨b, 0, none⟩ = some (.pointer (some ⟨b, 0, none⟩)) := by rw [Lib.cell_of_heap hbk]; rfl
  have c1 : w1.cell? ⟨b, 1, none⟩ = some v := by rw [Lib.cell_of_heap hbk]; rfl
  have hlt := lt_of_heap hbk
  have HOWN := Lib.hid hown
  have HBK := Lib.hid hbk
  have HNE := Lib.hid hne
  have HBC := Lib.hid hbc
  obtain ⟨ao, n, cap, hv, hn⟩ := kt.row_form hown
  have CA := Lib.hid (Tryz.utf8_AppendRune_plain B v bs.length bs r (by omega) (by omega) w1 hown (by rw [hbc]; omega) (by omega))
  clear hown hbk hne hbc C
  subst hv
  go_wp2_with fail
  refine CA.out.mono ?_
  rintro e w2 ⟨v', rfl, hown', o, hgr⟩
  have hgr2 : Below B w1 w2 := ((Below.refl B w1).alloc (by omega) o).trans ((Below.refl B _).grown hgr (by simp; omega) (fun k hk => (HOWN.out.lt k hk).1))
  have hbk2 : w2.heap[b]? = some (.cells #[.pointer (some ⟨b, 0, none⟩), .slice ao n cap] 67 (0, 0)) := by
    rw [hgr.block b (by simp; omega) (fun e => HNE.out e.symm), Below.heap_alloc _ _ _ hlt]; exact HBK.out
  have d1 : w2.cell? ⟨b, 1, none⟩ = some (.slice ao n cap) := by rw [Lib.cell_of_heap hbk2]; rfl
  have f1 : w2.frozen? ⟨b, 1, none⟩ = false := Lib.frozen_of_heap hbk2 1
  have hown2 : w2.ownsRow B 5 1 v' (bs ++ Lib.runeCells r).length (bs ++ Lib.runeCells r) := by
    rw [List.length_append]; exact hown'
  obtain ⟨ao', n', cap', rfl, hn'⟩ := kt.row_form hown2
  have H1 := Lib.hid hown2
  have HB := Lib.hid hbk2
  have HGR := Lib.hid hgr2
  clear hown' hbk2 hgr hown2 CA HNE HBK hgr2
  go_wp2_with fail
  go_ret2
  exact ⟨_, rfl, Or.inr (Lib.BuilderAt.put hB HB.out H1.out (by decide)), (hb1.trans HGR.out).setCell (p := ⟨b, 1, none⟩) hB _⟩
end bld
end Go.Proofs.YtjjbmhndakmkbaaGreatDoor
