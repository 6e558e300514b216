/- The walks of After at the example, of the example's check. -/
import Derived.Test.YthbofgfdgpidcaaDoorTupW
import Derived.Test.YthbofgfdgpidcaaDoorFieldW
import Derived.Test.YthbofgfdgpidcaaDoorFieldT
namespace Go.Proofs.YthbofgfdgpidcaaDoor
open Go.RowKit
namespace awk
theorem lit_bytes {P : Program} {src dst e : TypeId} (hs : P.underlying src = some (.slice e)) (he : P.underlying e = some (.int .u8)) (hd : P.underlying dst = some .string)
    (w : World) (l : List UInt8) (hl : l.length ≤ 1000) : (convert src dst (.slice (some ⟨w.heap.size, 0, none⟩) l.length l.length)).run P (w.alloc (.cells (Lib.byteCells l).toArray e)).drew = .ok (.string ⟨l.toArray⟩) (w.alloc (.cells (Lib.byteCells l).toArray e)).drew := by
  have h : (w.alloc (.cells (Lib.byteCells l).toArray e)).ownsRow w.heap.size e 1 (.slice (some ⟨w.heap.size, 0, none⟩) l.length l.length) l.length (Lib.byteCells l) := by
    have hbl := Lib.byteCells_length l
    refine ⟨by rw [hbl]; omega, Or.inr ⟨w.heap.size, l.length, (Lib.byteCells l).toArray, rfl, Nat.le_refl _, heap_alloc_last w _, Nat.le_refl _, by unfold maxLen; omega, by simp [hbl], ?_⟩⟩
    rw [Nat.mul_one, List.toList_toArray, List.take_of_length_le (by omega)]
  exact kt.str_of_row hs he hd (w := (w.alloc (.cells (Lib.byteCells l).toArray e)).drew) (B := w.heap.size) h
set_option maxHeartbeats 1000000 in
theorem after_ex (w : World) (hE : Hid (trm.Env w)) :
    Calls Tryd.prog 27 #[.string { data := #[97, 255] }] w fun e w' => e = .returned (.tuple #[.string { data := #[98] }, .bool true]) ∧ Below w.heap.size w w' := by
  have q2 : (({ data := #[97] } : ByteArray) == { data := #[] }) = false := rfl
  have q3 : (({ data := #[97] } : ByteArray)[0]'(by decide)).toNat = 97 := rfl
  have q4 : ({ data := #[97] } : ByteArray).extract 0 0 = { data := #[] } := by decide
  go_enter Tryd.func27, Tryd.ntmps27
  go_wp2_with fail
  refine (trm.trimRight w hE).mono ?_
  rintro e w1 ⟨rfl, hB1⟩
  go_wp2_with fail
  have cv := lit_bytes (P := Tryd.prog) Tryd.underlying46 Tryd.underlying5 Tryd.underlying9 w1 [98] (by decide)
  change (convert _ _ (.slice (some ⟨w1.heap.size, 0, none⟩) 1 1)).run Tryd.prog (w1.alloc (.cells #[.int .u8 98] 5)).drew = .ok (.string { data := #[98] }) (w1.alloc (.cells #[.int .u8 98] 5)).drew at cv
  go_region
  go_wp2_with fail
  go_ret2
  exact ⟨rfl, (hB1.alloc hB1.size _).drew⟩

set_option maxHeartbeats 1000000 in
theorem awake_true (w : World) (hE : Hid (trm.Env w)) :
    Calls Tryd.prog 8 #[] w fun e w' => e = .returned (.bool true) ∧ Below w.heap.size w w' := by
  have hB0 : Below w.heap.size w (w.alloc (.cells #[.string { data := #[97] }, .string { data := #[] }] 9)) := (Below.refl _ _).alloc (Nat.le_refl _) _
  have hT := tupw.tuple_any (some ⟨w.heap.size, 0, none⟩) 2 [⟨#[97]⟩, ⟨#[]⟩] (w.alloc (.cells #[.string { data := #[97] }, .string { data := #[] }] 9)) (Lib.hid (trm.env_below hE.out hB0)) (by
    intro i hi
    refine ⟨_, _, rfl, ?_⟩
    rw [Nat.zero_add, World.cell?_alloc_new]
    match i, hi with
    | 0, _ => rfl
    | 1, _ => rfl)
  rw [show tup.out [⟨#[97]⟩, ⟨#[]⟩] = (⟨#[97, 0, 1, 0, 1]⟩, 0) from by decide] at hT
  have HT := Lib.hid hT
  clear hT
  go_enter Tryd.func8, Tryd.ntmps8
  go_wp2_with fail
  refine HT.out.mono ?_
  rintro e w1 ⟨rfl, hB1⟩
  unfold tupw.tupV
  have hP := fldw.put_any ⟨#[120]⟩ 258 2 w1 (by decide) (by show 258 < _; omega) (by omega) (by omega)
  rw [show fld.put 258 2 = some [1, 2] from by decide] at hP
  have HP := Lib.hid hP
  clear hP
  go_wp2_with fail
  refine HP.out.mono ?_
  rintro e w2 ⟨rfl, hB2⟩
  have hB3 := (hB0.trans (hB1.mono hB0.size)).trans (hB2.mono (Nat.le_trans hB0.size hB1.size))
  unfold fldw.putV
  go_wp2_with fail
  refine (after_ex w2 (Lib.hid (trm.env_below hE.out hB3))).mono ?_
  rintro e w3 ⟨rfl, hB4⟩
  go_wp2_with fail
  go_ret
  exact ⟨rfl, hB3.trans (hB4.mono hB3.size)⟩
end awk
end Go.Proofs.YthbofgfdgpidcaaDoor
