/- The walks of entry's reader: count and text. -/
import Derived.Test.YtcolcogobdgejaaGreatDoorYField
import Derived.Test.YtcolcogobdgejaaGreatDoorC8
/-! ReadW -/
namespace Go.Proofs.YtcolcogobdgejaaGreatDoor
open Go.RowKit
namespace etw
open atp atw etp
open dnw (Av Avas)
open tupw (Strs strs_below)
set_option linter.unusedVariables false
set_option linter.unusedSimpArgs false
def RB (w : World) (p : Nat) (s : ByteArray) (k : Int) (bad : Bool) : Prop := w.heap[p]? = some (.cells #[.string s, .int .i64 k, .bool bad] 115 (0, 0))
theorem rb_cells {w : World} {p : Nat} {s : ByteArray} {k : Int} {bad : Bool} (h : RB w p s k bad) : w.cell? ⟨p, 0, none⟩ = some (.string s) ∧ w.cell? ⟨p, 1, none⟩ = some (.int .i64 k) ∧ w.cell? ⟨p, 2, none⟩ = some (.bool bad) :=
 ⟨by rw [Lib.cell_of_heap h]; rfl, by rw [Lib.cell_of_heap h]; rfl, by rw [Lib.cell_of_heap h]; rfl⟩
theorem rb_below {w w' : World} {p : Nat} {s : ByteArray} {k : Int} {bad : Bool} (h : RB w p s k bad) (hb : Below w.heap.size w w') : RB w' p s k bad := (hb.block p (kt.bld_lt h)).trans h
theorem rb_set1 {w : World} {p : Nat} {s : ByteArray} {k : Int} {bad : Bool} (h : RB w p s k bad) (n : Int) : RB (w.setCell ⟨p, 1, none⟩ (.int .i64 n)) p s n bad := Joins.block_setCell h _
theorem rb_set2 {w : World} {p : Nat} {s : ByteArray} {k : Int} {bad : Bool} (h : RB w p s k bad) (b : Bool) : RB (w.setCell ⟨p, 2, none⟩ (.bool b)) p s k b := Joins.block_setCell h _
theorem rb_new (w : World) (s : ByteArray) (k : Int) (b : Bool) : RB (w.alloc (.cells #[.string s, .int .i64 k, .bool b] 115)) w.heap.size s k b := heap_alloc_new w _
theorem grown_two {w w5 : World} {p i j : Nat} (h5 : Below w.heap.size w w5) (u v : Value) : w.grownBy ((w5.setCell ⟨p, i, none⟩ u).setCell ⟨p, j, none⟩ v) (some p) := by
 refine ⟨h5.os, h5.tape, h5.output, ?_, fun k hk hne => ?_⟩
 ·have := h5.size; simp; omega
 ·rw [Below.heap_setCell _ _ _ _ (fun e => hne (by rw [e])), Below.heap_setCell _ _ _ _ (fun e => hne (by rw [e])), h5.block k hk]
def cntR (s : ByteArray) (k : Int) : Nat × Bool := match fld.take s.data.toList k 1 with
 | .ok n => (n, false)
 | .error _ => (0, true)
def txtR (s : ByteArray) (k : Int) : ByteArray × Nat × Bool := match fld.takeT s.data.toList k with
 | .ok (t, p) => (⟨t.toArray⟩, p, false)
 | .error _ => (⟨#[]⟩, 0, true)
theorem take_errne {l : List UInt8} {k n x : Int} (h : fld.take l k n = .error x) : x ≠ 0 := by
 unfold fld.take at h
 split at h
 ·cases h; decide
 ·split at h
  ·cases h; decide
  ·cases h
theorem takeT_errne {l : List UInt8} {k x : Int} (h : fld.takeT l k = .error x) : x ≠ 0 := by
 unfold fld.takeT at h
 cases ht : fld.take l k 2 with
 | error e => rw [ht] at h; cases h; exact take_errne ht
 | ok n =>
  rw [ht] at h
  simp only at h
  split at h
  ·cases h; decide
  ·cases h
theorem cntR_le (s : ByteArray) (k : Int) : (cntR s k).1 ≤ 255 := by
 unfold cntR
 cases h : fld.take s.data.toList k 1 with
 | error e => simp
 | ok n =>
  simp only
  unfold fld.take at h
  split at h
  ·cases h
  ·split at h
   ·cases h
   ·cases h
    have := fld.num_le (l := (s.data.toList.drop k.toNat).take (1 : Int).toNat) (k := 1) (by rw [List.length_take]; exact Nat.min_le_left _ _)
    omega
theorem txtR_le (s : ByteArray) (k : Int) : (txtR s k).2.1 ≤ s.size ∧ (txtR s k).1.size ≤ s.size := by
 unfold txtR
 cases h : fld.takeT s.data.toList k with
 | error e => exact ⟨Nat.zero_le _, Nat.zero_le _⟩
 | ok r =>
  obtain ⟨t, p⟩ := r
  simp only
  unfold fld.takeT at h
  cases ht : fld.take s.data.toList k 2 with
  | error e => rw [ht] at h; cases h
  | ok n =>
   rw [ht] at h
   simp only at h
   split at h
   ·cases h
   ·rename_i h1
    cases h
    rw [kt.size_len] at h1
    refine ⟨by omega, ?_⟩
    show (List.take n (s.data.toList.drop (k.toNat + 2))).toArray.size ≤ s.size
    simp only [List.size_toArray, List.length_take, List.length_drop, kt.size_len]
    omega
theorem take_R (s : ByteArray) (k : Int) (hs : s.size ≤ 1100000) (h1 : -9223372036854775808 ≤ k) (h2 : k ≤ 9223372036854775807) : ∃ er : Int, (er != 0) = (cntR s k).2 ∧ ∀ W, Calls Tryz.prog 137 #[.string s, .int .i64 k, .int .i64 1] W fun e w' => e = .returned (.tuple #[.int .u64 ((cntR s k).1 : Int), .int .i64 er]) ∧ Below W.heap.size W w' := by
 have C := fun W => fldw.take_any s k 1 W hs (by omega) (by omega) h1 h2
 unfold cntR
 cases h : fld.take s.data.toList k 1 with
 | ok n => exact ⟨0, rfl, fun W => by have := C W; rw [h] at this; exact this⟩
 | error e => exact ⟨e, by simpa using take_errne h, fun W => by have := C W; rw [h] at this; exact this⟩
theorem text_R (s : ByteArray) (k : Int) (hs : s.size ≤ 1100000) (h1 : -9223372036854775808 ≤ k) (h2 : k ≤ 9223372036854775807) : ∃ er : Int, (er != 0) = (txtR s k).2.2 ∧ ∀ W, Calls Tryz.prog 138 #[.string s, .int .i64 k] W fun e w' => e = .returned (.tuple #[.string (txtR s k).1, .int .i64 ((txtR s k).2.1 : Int), .int .i64 er]) ∧ Below W.heap.size W w' := by
 have C := fun W => fldw.taketext_any s k W hs h1 h2
 unfold txtR
 cases h : fld.takeT s.data.toList k with
 | ok r =>
  obtain ⟨t, p⟩ := r
  exact ⟨0, rfl, fun W => by have := C W; rw [h] at this; exact this⟩
 | error e => exact ⟨e, by simpa using takeT_errne h, fun W => by have := C W; rw [h] at this; exact this⟩
set_option maxRecDepth 20000 in
set_option maxHeartbeats 4000000 in
theorem count_any (p : Nat) (s : ByteArray) (k : Int) (bad : Bool) (w : World) (hR : Hid (RB w p s k bad)) (hs : s.size ≤ 1000000) (h0 : 0 ≤ k) (h1 : k ≤ 1000000) :
  Calls Tryz.prog 95 #[.pointer (some ⟨p, 0, none⟩)] w fun e w' => e = .returned (.int .i64 ((cntR s k).1 : Int)) ∧ RB w' p s (k + 1) (bad || (cntR s k).2) ∧ w.grownBy w' (some p) := by
 obtain ⟨er, her, HC0⟩ := take_R s k (by omega) (by omega) (by omega)
 have HC := Lib.hid HC0
 have hn := cntR_le s k
 clear HC0
 obtain ⟨k0, k1, k2⟩ := rb_cells hR.out
 have hk0 := World.block_lt_of_cell? w _ k0
 have hk1 := World.block_lt_of_cell? w _ k1
 have hk2 := World.block_lt_of_cell? w _ k2
 generalize (cntR s k).1 = n at HC hn ⊢
 generalize (cntR s k).2 = b at her ⊢
 cases b
 all_goals
  cases bad
  all_goals
   go_enter Tryz.func95, Tryz.ntmps95
   go_wp2_with fail
   refine wp_region_held_drew (S := fun W => W.cell? ⟨p, 0, none⟩ = some (.string s) ∧ W.cell? ⟨p, 1, none⟩ = some (.int .i64 k)) (by kernel_rfl) (⟨k0, k1⟩) (fun hHeld => ?_)
   refine tk 0 ⟨some 6,_,_,_,_,_⟩ rfl ?_
   refine tk 1 ⟨some 7,_,_,_,_,_⟩ rfl ?_
   refine tk 2 ⟨some 8,_,_,_,_,_⟩ rfl ?_
   refine tk 3 ⟨some 9,_,_,_,_,_⟩ rfl ?_
   refine tk 4 ⟨some 10,_,_,_,_,_⟩ rfl ?_
   refine tk 5 ⟨some 11,_,_,_,_,_⟩ rfl ?_
   refine tk 6 ⟨some 12,_,_,_,_,_⟩ rfl ?_
   refine tk 7 ⟨some 13,_,_,_,_,_⟩ rfl ?_
   refine tc 8 ⟨some 14,_,_,_,_,_⟩ rfl (fun K hK => ?_)
   go_simp
   go_at_call 137; refine (HC.out _).mono ?_; rintro e w6 ⟨rfl, hB6⟩
   refine hK.out _ _ (⟨(hB6.cell (p := ⟨p, 0, none⟩) hk0).trans (k0), (hB6.cell (p := ⟨p, 1, none⟩) hk1).trans (k1)⟩) (fun hHeld => ?_)
   clear hK
   try simp only [Act.put, List.setIfInBounds_toArray, List.set_cons_zero, List.set_cons_succ]
   refine tk 9 ⟨some 5,_,_,_,_,_⟩ rfl ?_
   refine tk 10 ⟨some 15,_,_,_,_,_⟩ rfl ?_
   refine tk 11 ⟨some 16,_,_,_,_,_⟩ rfl ?_
   refine tk 12 ⟨some 3,_,_,_,_,_⟩ rfl ?_
   refine tk 13 ⟨some 4,_,_,_,_,_⟩ rfl ?_
   refine wpAnyH_done (by kernel_rfl) ?_ _
   have hB := (Below.refl w.heap.size w).drew.trans hB6
   have HR6 := Lib.hid (rb_below hR.out hB)
   have HB := Lib.hid hB
   obtain ⟨m0, m1, m2⟩ := rb_cells HR6.out
   have f1 := Lib.frozen_of_heap HR6.out 1
   have f2 := Lib.frozen_of_heap HR6.out 2
   clear hHeld hB6 hB k0 k1 k2
   go_wp2_with fail
   go_ret
   exact ⟨rfl, rb_set1 (rb_set2 HR6.out _) _, grown_two HB.out _ _⟩
set_option maxRecDepth 20000 in
set_option maxHeartbeats 4000000 in
theorem text1_any (p : Nat) (s : ByteArray) (k : Int) (bad : Bool) (w : World) (hR : Hid (RB w p s k bad)) (hs : s.size ≤ 1000000) (h0 : 0 ≤ k) (h1 : k ≤ 1000000) :
  Calls Tryz.prog 96 #[.pointer (some ⟨p, 0, none⟩)] w fun e w' => e = .returned (.string (txtR s k).1) ∧ RB w' p s ((txtR s k).2.1 : Int) (bad || (txtR s k).2.2) ∧ w.grownBy w' (some p) := by
 obtain ⟨er, her, HC0⟩ := text_R s k (by omega) (by omega) (by omega)
 have HC := Lib.hid HC0
 have hn := (txtR_le s k).1
 clear HC0
 obtain ⟨k0, k1, k2⟩ := rb_cells hR.out
 have hk0 := World.block_lt_of_cell? w _ k0
 have hk1 := World.block_lt_of_cell? w _ k1
 have hk2 := World.block_lt_of_cell? w _ k2
 generalize (txtR s k).1 = tx at HC ⊢
 generalize (txtR s k).2.1 = n at HC hn ⊢
 generalize (txtR s k).2.2 = b at her ⊢
 cases b
 all_goals
  cases bad
  all_goals
   go_enter Tryz.func96, Tryz.ntmps96
   go_wp2_with fail
   refine wp_region_held_drew (S := fun W => W.cell? ⟨p, 0, none⟩ = some (.string s) ∧ W.cell? ⟨p, 1, none⟩ = some (.int .i64 k)) (by kernel_rfl) (⟨k0, k1⟩) (fun hHeld => ?_)
   refine tk 0 ⟨some 7,_,_,_,_,_⟩ rfl ?_
   refine tk 1 ⟨some 8,_,_,_,_,_⟩ rfl ?_
   refine tk 2 ⟨some 9,_,_,_,_,_⟩ rfl ?_
   refine tk 3 ⟨some 10,_,_,_,_,_⟩ rfl ?_
   refine tk 4 ⟨some 11,_,_,_,_,_⟩ rfl ?_
   refine tk 5 ⟨some 12,_,_,_,_,_⟩ rfl ?_
   refine tk 6 ⟨some 13,_,_,_,_,_⟩ rfl ?_
   refine tk 7 ⟨some 14,_,_,_,_,_⟩ rfl ?_
   refine tc 8 ⟨some 15,_,_,_,_,_⟩ rfl (fun K hK => ?_)
   go_simp
   go_at_call 138; refine (HC.out _).mono ?_; rintro e w6 ⟨rfl, hB6⟩
   refine hK.out _ _ (⟨(hB6.cell (p := ⟨p, 0, none⟩) hk0).trans (k0), (hB6.cell (p := ⟨p, 1, none⟩) hk1).trans (k1)⟩) (fun hHeld => ?_)
   clear hK
   try simp only [Act.put, List.setIfInBounds_toArray, List.set_cons_zero, List.set_cons_succ]
   refine tk 9 ⟨some 6,_,_,_,_,_⟩ rfl ?_
   refine tk 10 ⟨some 16,_,_,_,_,_⟩ rfl ?_
   refine tk 11 ⟨some 17,_,_,_,_,_⟩ rfl ?_
   refine tk 12 ⟨some 18,_,_,_,_,_⟩ rfl ?_
   refine tk 13 ⟨some 3,_,_,_,_,_⟩ rfl ?_
   refine tk 14 ⟨some 4,_,_,_,_,_⟩ rfl ?_
   refine tk 15 ⟨some 5,_,_,_,_,_⟩ rfl ?_
   refine wpAnyH_done (by kernel_rfl) ?_ _
   have hB := (Below.refl w.heap.size w).drew.trans hB6
   have HR6 := Lib.hid (rb_below hR.out hB)
   have HB := Lib.hid hB
   obtain ⟨m0, m1, m2⟩ := rb_cells HR6.out
   have f1 := Lib.frozen_of_heap HR6.out 1
   have f2 := Lib.frozen_of_heap HR6.out 2
   clear hHeld hB6 hB k0 k1 k2
   go_wp2_with fail
   go_ret
   exact ⟨rfl, rb_set1 (rb_set2 HR6.out _) _, grown_two HB.out _ _⟩
end etw
end Go.Proofs.YtcolcogobdgejaaGreatDoor
