/- The walks of strings.TrimRight's way, and of field.After, at the example's constants: what is cut is one byte that is no rune. -/
import Derived.Test.YthbofgfdgpidcaaDoorKit
import Derived.Test.YthbofgfdgpidcaaDoorShelf
import Derived.Test.YthbofgfdgpidcaaDoorRows
import Derived.LoopN
import Derived.Deep.MidRow
import Derived.Deep.WholeRow
namespace Go.Proofs.YthbofgfdgpidcaaDoor
open Go.RowKit
namespace trm
/-- what the library's variables hold -/
def Env (w : World) : Prop := (∃ m : Int, w.cell? ⟨0, 0, none⟩ = some (.int .i64 m)) ∧ Lib.Utf8Tabs 1 2 w
theorem env_below {w w' : World} (h : Env w) (hb : Below w.heap.size w w') : Env w' := by
  obtain ⟨⟨m, hm⟩, ht⟩ := h
  exact ⟨⟨m, (hb.cell (World.block_lt_of_cell? w _ hm)).trans hm⟩, Utf8Tabs_below ht hb⟩

set_option maxRecDepth 100000 in
set_option maxHeartbeats 400000 in
theorem indexRune_err (w : World) : Calls Tryd.prog 62 #[.string { data := #[255] }, .int .i32 65533] w fun e w' => e = .returned (.int .i64 0) ∧ Below w.heap.size w w' := by
  have hnx := run_next_any (P := Tryd.prog) w { data := #[255] } 0 0 (by decide)
  rw [show (Utf8.decode { data := #[255] } 0) = (65533, 1) from by decide] at hnx
  go_enter Tryd.func62, Tryd.ntmps62
  go_wp2_with fail
  refine wp_loop_rounds 1 ?_
  rw [rounds_succ]
  go_wp2_with fail
  go_ret
  exact ⟨rfl, (Below.refl _ _).alloc (Nat.le_refl _) _⟩

theorem containsRune_err (w : World) : Calls Tryd.prog 52 #[.string { data := #[255] }, .int .i32 65533] w fun e w' => e = .returned (.bool true) ∧ Below w.heap.size w w' := by
  go_enter Tryd.func52, Tryd.ntmps52
  go_wp2_with fail
  refine (indexRune_err w).mono ?_
  rintro e w1 ⟨rfl, hB1⟩
  go_wp2_with fail
  go_ret
  exact ⟨rfl, hB1⟩

set_option maxHeartbeats 400000 in
theorem trimUnicode (w : World) (hE : Hid (Env w)) : Calls Tryd.prog 42 #[.string { data := #[97, 255] }, .string { data := #[255] }] w fun e w' => e = .returned (.string { data := #[97] }) ∧ Below w.heap.size w w' := by
  have C1 := Tryd.utf8_DecodeLastRuneInString { data := #[97, 255] } w (by decide) hE.out.2
  rw [show (Lib.decodeLastL (ByteArray.mk #[97, 255]).data.toList) = (65533, 1) from by decide] at C1
  have H1 := Lib.hid C1
  clear C1
  have q1 : (({ data := #[97, 255] } : ByteArray)[1]'(by decide)).toNat = 255 := rfl
  have q2 : (({ data := #[97] } : ByteArray)[0]'(by decide)).toNat = 97 := rfl
  have q3 : ({ data := #[97, 255] } : ByteArray).extract 0 1 = { data := #[97] } := by decide
  go_enter Tryd.func42, Tryd.ntmps42
  go_wp2_with fail
  refine wp_loop_rounds 2 ?_
  rw [rounds_succ]
  go_wp2_with fail
  refine H1.out.mono ?_
  rintro e w1 ⟨rfl, hB1⟩
  go_wp2_with fail
  refine (containsRune_err w1).mono ?_
  rintro e w2 ⟨rfl, hB2⟩
  go_wp2_with fail
  rw [rounds_succ]
  have C3 := Tryd.strings_ContainsRune_ascii { data := #[255] } 97 w2 (by omega) (by omega)
  rw [show (decide (0 ≤ Lib.indexByte (ByteArray.mk #[255]).data.toList (97 : Int).toNat.toUInt8)) = false from by decide] at C3
  have H3 := Lib.hid C3
  clear C3
  go_wp2_with fail
  refine H3.out.mono ?_
  rintro e w3 ⟨rfl, rfl⟩
  go_wp2_with fail
  go_ret
  exact ⟨rfl, hB1.trans (hB2.mono hB1.size)⟩

theorem below_setCells {B : Nat} {a : World} (b : Nat) (hB : B ≤ b) : ∀ (vs : List Value) (o : Nat) (w : World), Below B a w → Below B a (w.setCells b o vs)
  | [], _, _, h => h
  | v :: vs, o, w, h => by
    show Below B a ((w.setCell ⟨b, o, none⟩ v).setCells b (o + 1) vs)
    exact below_setCells b hB vs (o + 1) _ (h.setCell (p := ⟨b, o, none⟩) hB v)

/-- what a set is: 256 cells -/
def Cells256 (cs : Array Value) : Prop := cs.size = 256 ∧ cs.all (·.oneCell') = true

set_option maxRecDepth 1000000 in
set_option maxHeartbeats 1000000 in
theorem makeSet (w : World) : Calls Tryd.prog 40 #[.string { data := #[255] }] w fun e w' => ∃ cs, Cells256 cs ∧ e = .returned (.tuple #[.agg cs, .bool false]) ∧ Below w.heap.size w w' := by
  have q1 : (({ data := #[255] } : ByteArray)[0]'(by decide)).toNat = 255 := rfl
  have hv116 : ∀ w, (zeroValue 65).run Tryd.prog w = .ok (.agg (Array.replicate 256 (.bool false))) w := fun w => by kernel_rfl
  go_enter Tryd.func40, Tryd.ntmps40
  go_wp2
  rw [← Lib.setCells_nil]
  have hsz := Lib.setCells_size []
  obtain ⟨C, hC⟩ : ∃ C : Array Value, Lib.setCells [] = C := ⟨_, rfl⟩
  rw [hC] at hsz ⊢
  have h1 : C.all (·.oneCell') = true := by rw [← hC]; exact Lib.setCells_one _
  have HC1 := Lib.hid h1
  have HSZ := Lib.hid hsz
  have hi : (Tryd.prog.info? 65).map (·.size) = some 256 := by kernel_rfl
  have HI := Lib.hid hi
  have st := run_storeCells_new (P := Tryd.prog) w 65 C C (by rw [hi]; simp [hsz]) rfl h1
  have HC1 := Lib.hid h1
  have HSZ := Lib.hid hsz
  have HI := Lib.hid hi
  clear hi h1 hsz hC hv116
  refine wp_loop_rounds 1 ?_
  rw [rounds_succ]
  go_wp2
  refine wp_load_mid _ _ rfl w.heap.size 0 rfl C.toList _ (fun j v hv => by rw [Nat.zero_add, World.cell?_alloc_new]; simpa using hv) Tryd.underlying65 rfl (by rw [HI.out]; simp [HSZ.out]) ?_
  go_wp2
  refine bodyPost_ret (v := .tuple #[.agg C, .bool false]) ?_ rfl ⟨C, ⟨HSZ.out, HC1.out⟩, rfl, (Below.refl _ _).alloc (Nat.le_refl _) _⟩
  have hld := run_loadVar_new (P := Tryd.prog) w 65 C 256 _ Tryd.underlying65 (by rw [HI.out]; simp [HSZ.out])
  rw [results_cell_tmp rfl]
  simp [asAddr, Result.andThen, hld]

set_option maxRecDepth 1000000 in
set_option maxHeartbeats 1000000 in
theorem trimRight (w : World) (hE : Hid (Env w)) : Calls Tryd.prog 34 #[.string { data := #[97, 255] }, .string { data := #[255] }] w fun e w' => e = .returned (.string { data := #[97] }) ∧ Below w.heap.size w w' := by
  have q1 : (({ data := #[255] } : ByteArray)[0]'(by decide)).toNat = 255 := rfl
  have q2 : (({ data := #[97, 255] } : ByteArray) == { data := #[] }) = false := rfl
  have q3 : (({ data := #[255] } : ByteArray) == { data := #[] }) = false := rfl
  have hv116 : ∀ w, (zeroValue 65).run Tryd.prog w = .ok (.agg (Array.replicate 256 (.bool false))) w := fun w => by kernel_rfl
  have hi : (Tryd.prog.info? 65).map (·.size) = some 256 := by kernel_rfl
  have HI := Lib.hid hi
  have HV := Lib.hid hv116
  clear hi hv116
  go_enter Tryd.func34, Tryd.ntmps34
  go_wp2_with fail
  refine (makeSet w).mono ?_
  rintro e w1 ⟨C, hC, rfl, hB1⟩
  obtain ⟨Z, hZ⟩ : ∃ Z : Array Value, Hid (Z = Array.replicate 256 (.bool false)) := ⟨_, rfl⟩
  have hv := HV.out
  rw [← hZ.out] at hv
  have st := run_storeCells_new (P := Tryd.prog) w1 65 Z C (by rw [HI.out]; simp [hC.1]) (by rw [hZ.out]; simp [hC.1]) hC.2
  have hz := hC.1
  clear hC
  go_wp2_with fail
  have hB2 : Below w.heap.size w (w1.alloc (.cells C 65)) := hB1.alloc hB1.size _
  refine (trimUnicode _ (Lib.hid (env_below hE.out hB2))).mono ?_
  rintro e w2 ⟨rfl, hB3⟩
  go_wp2_with fail
  go_ret
  exact ⟨rfl, hB2.trans (hB3.mono hB2.size)⟩
end trm
end Go.Proofs.YthbofgfdgpidcaaDoor
