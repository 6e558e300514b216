/- The walk of entry's Unpack. -/
import Derived.Test.YtcolcogobdgejaaGreatDoorYUnpM
import Derived.Test.YtcolcogobdgejaaGreatDoorYPack
import Derived.Test.YtcolcogobdgejaaGreatDoorC11
/-! UnpW -/
namespace Go.Proofs.YtcolcogobdgejaaGreatDoor
open Go.RowKit
namespace etw
open atp atw etp
open dnw (Av Avas)
open tupw (Strs strs_below)
set_option linter.unusedVariables false
set_option linter.unusedSimpArgs false
theorem grown_drew {w w' : World} {r : Option Nat} (h : w.drew.grownBy w' r) : w.grownBy w' r := ⟨h.os, h.tape, h.output, h.size, h.block⟩
def UnpR (s : ByteArray) (w : World) (e : Ending) (w' : World) : Prop := ∃ r, UnpE s.data.toList r ∧ ResE r w e w'
theorem unp_long {s : ByteArray} (h : 4000 < s.size) : UnpE s.data.toList (.error 4) := unp_none fun e h1 _ => by
 have := (pack_ok h1).2.2
 rw [kt.size_len] at this
 omega
set_option maxRecDepth 20000 in
set_option maxHeartbeats 32000000 in
theorem unpack_any (s : ByteArray) (w : World) (hs : s.size ≤ 140737488351232) (hE : Hid (EnvE w)) :
  Calls Tryz.prog 38 #[.string s] w fun e w' => UnpR s w e w' := by
 obtain ⟨W1, hW1⟩ : ∃ W, w.alloc (.cells #[.slice none 0 0, .slice none 0 0] 25) = W := ⟨_, rfl⟩
 have hB1 : Below w.heap.size w W1 := by rw [← hW1]; exact (Below.refl _ _).alloc (Nat.le_refl _) _
 obtain ⟨q, hqq⟩ : ∃ q, w.heap.size = q := ⟨_, rfl⟩
 have HQ1 : Hid (EntB W1 q (.slice none 0 0) (.slice none 0 0)) := by rw [← hW1, ← hqq]; exact entB_new _ _ _
 have hqw : w.heap.size ≤ q := by omega
 have HB1 := Lib.hid hB1
 by_cases h4 : 4000 < s.size
 ·have h4' : (4000 : Int) < (s.size : Int) := by omega
  have HUE := Lib.hid (unp_long h4)
  have HBX := HB1
  have HQ := HQ1
  clear hB1 h4
  go_enter Tryz.func38, Tryz.ntmps38
  obtain ⟨v0, v1⟩ := entB_cells HQ.out
  have f0 := Lib.frozen_of_heap HQ.out 0
  have f1 := Lib.frozen_of_heap HQ.out 1
  have hq1 := entB_set0 HQ.out (.slice none 0 0)
  have hq2 := entB_set1 hq1 (.slice none 0 0)
  have HQC := Lib.hid (entB_cells hq2)
  have HBF := Lib.hid ((HBX.out.setCell (p := ⟨q, 0, none⟩) hqw (.slice none 0 0)).setCell (p := ⟨q, 1, none⟩) hqw (.slice none 0 0))
  clear hq1 hq2
  go_wp2_with fail
  obtain ⟨r0, r1⟩ := HQC.out
  refine bodyPost_ret (v := .tuple #[.agg #[.slice none 0 0, .slice none 0 0], .int .i64 4]) (by rw [results_cell_tmp rfl]; go_simp) rfl ?_
  exact ⟨_, HUE.out, HBF.out, rfl⟩
 ·have h4' : ¬ (4000 : Int) < (s.size : Int) := by omega
  have hs4 : s.size ≤ 4000 := by omega
  have HCN : Hid (∀ (p : Nat) (k : Int) (b : Bool) W, RB W p s k b → 0 ≤ k → k ≤ 10000 → Calls Tryz.prog 95 #[.pointer (some ⟨p, 0, none⟩)] W fun e w' => e = .returned (.int .i64 ((cntR s k).1 : Int)) ∧ RB w' p s (k + 1) (b || (cntR s k).2) ∧ W.grownBy w' (some p)) := fun p k b W h h0 h1 => count_any p s k b W (Lib.hid h) (by omega) h0 (by omega)
  have HTX : Hid (∀ (p : Nat) (k : Int) (b : Bool) W, RB W p s k b → 0 ≤ k → k ≤ 10000 → Calls Tryz.prog 96 #[.pointer (some ⟨p, 0, none⟩)] W fun e w' => e = .returned (.string (txtR s k).1) ∧ RB w' p s ((txtR s k).2.1 : Int) (b || (txtR s k).2.2) ∧ W.grownBy w' (some p)) := fun p k b W h h0 h1 => text1_any p s k b W (Lib.hid h) (by omega) h0 (by omega)
  have HLT : Hid (∀ k, (txtR s k).2.1 ≤ 4000 ∧ (txtR s k).1.size ≤ 4000) := fun k => by have := txtR_le s k; omega
  have HLC : Hid (∀ k, (cntR s k).1 ≤ 255) := fun k => cntR_le s k
  obtain ⟨W2, hW2⟩ : ∃ W, W1.alloc (.cells #[.string s, .int .i64 0, .bool false] 115) = W := ⟨_, rfl⟩
  have hB2 : Below W1.heap.size W1 W2 := by rw [← hW2]; exact (Below.refl _ _).alloc (Nat.le_refl _) _
  obtain ⟨pr, hpr⟩ : ∃ q, W1.heap.size = q := ⟨_, rfl⟩
  have hR2 : RB W2 pr s 0 false := by rw [← hW2, ← hpr]; exact rb_new _ _ _ _
  have hprw : w.heap.size ≤ pr := by rw [← hpr]; exact hB1.size
  have hprq : pr ≠ q := by rw [← hpr]; exact Nat.ne_of_gt (kt.bld_lt HQ1.out)
  obtain ⟨W3, hW3⟩ : ∃ W, W2.alloc (.cells #[.slice none 0 0, .slice none 0 0] 25) = W := ⟨_, rfl⟩
  have hB3 : Below W2.heap.size W2 W3 := by rw [← hW3]; exact (Below.refl _ _).alloc (Nat.le_refl _) _
  obtain ⟨qe, hqe⟩ : ∃ q, W2.heap.size = q := ⟨_, rfl⟩
  have hE3 : EntB W3 qe (.slice none 0 0) (.slice none 0 0) := by rw [← hW3, ← hqe]; exact entB_new _ _ _
  have hB12 := hB1.trans (hB2.mono hB1.size)
  have hqew : w.heap.size ≤ qe := by rw [← hqe]; exact hB12.size
  have hqeq : q ≠ qe := by rw [← hqe]; exact Nat.ne_of_lt (Nat.lt_of_lt_of_le (kt.bld_lt HQ1.out) hB2.size)
  have hpqe : pr ≠ qe := by rw [← hqe]; exact Nat.ne_of_lt (kt.bld_lt hR2)
  have HB3 := Lib.hid (hB12.trans (hB3.mono hB12.size))
  have HR3 := Lib.hid (rb_below hR2 hB3)
  have HQ3 := Lib.hid (entB_below (entB_below HQ1.out hB2) hB3)
  have HU3 : Hid (Un W3 w.heap.size qe [] [] (.slice none 0 0) (.slice none 0 0)) := ⟨hqew, hE3, kt.segX_nil _ _ _ _, kt.segX_nil _ _ _ _, fun x hx => by cases hx⟩
  have HC0 := Lib.hid (HCN.out pr 0 false W3 HR3.out (by omega) (by omega))
  have HI0 := Lib.hid (r_start s)
  have hc0 := HLC.out 0
  clear hB1 hB2 hB3 hB12 hE3 hR2 h4
  go_enter Tryz.func38, Tryz.ntmps38
  go_wp2_with fail
  refine HC0.out.mono ?_
  rintro e w4 ⟨rfl, hR4, hG4⟩
  rw [Bool.false_or] at hR4
  have HR4 := Lib.hid hR4
  have HU4 := Lib.hid (un_read HU3.out HR3.out hG4)
  have HQ4 := Lib.hid (ent_read HQ3.out HR3.out hG4)
  have HB4 := Lib.hid (below_grown HB3.out hG4 hprw HB3.out.size)
  clear hR4 hG4 HC0 hW1 hW2 hW3 hqq hpr hqe
  generalize (cntR s 0).1 = c0 at HI0 hc0 ⊢
  generalize (cntR s 0).2 = b0 at HI0 HR4
  go_wp2_with fail
  go_loopw [6] (fun nv wr => ∃ (n k : Int) (bad : Bool) (l : List Av) (rv : Value), nv = .int .i64 n ∧ 0 ≤ n ∧ n ≤ 255 ∧ 0 ≤ k ∧ k ≤ 4000 ∧ (l.length : Int) + n ≤ 255 ∧ Hid (RB wr pr s k bad) ∧ Hid (Un wr w.heap.size qe l [] rv (.slice none 0 0)) ∧ Hid (EntB wr q (.slice none 0 0) (.slice none 0 0)) ∧ Hid (InvR s.data.toList bad k n l) ∧ Hid (∀ a ∈ l, a.t.size ≤ 4000 ∧ a.v.size ≤ 4000) ∧ Hid (Below w.heap.size w wr)) (fun nv _ => (intOf nv).toNat)
  case atStart => exact ⟨(c0 : Int), 1, b0, [], _, rfl, by omega, by omega, by omega, by omega, by simp; omega, HR4.out, HU4.out, HQ4.out, HI0.out, (by intro a ha; cases ha), HB4.out⟩
  case round =>
   clear HR4 HU4 HQ4 HI0 HB4 HU3 HR3 HQ3 HB3
   obtain ⟨n, k, bad, l, rv, rfl, hn0, hn1, hk0, hk1, hln, HRB, HU, HQr, HIR, HSL, HBr⟩ := hrel
   obtain ⟨r1, n1, c1, _, _, _, rfl, _⟩ := un_forms HU.out
   obtain ⟨z0, z1, z2⟩ := rb_cells HRB.out
   by_cases hc : 0 < n ∧ bad = false
   ·obtain ⟨hn, hbd⟩ := hc
    subst hbd
    have HT1 := Lib.hid (HTX.out pr k false wr HRB.out hk0 (by omega))
    have hl1000 : l.length ≤ 1000 := by omega
    have HST := Lib.hid (r_step HIR.out hn)
    have hx1 := HLT.out k
    have hkz := hx1.1
    have hxz := hx1.2
    clear hx1
    go_wp2_with fail
    refine HT1.out.mono ?_
    rintro e w5 ⟨rfl, hR5, hG5⟩
    rw [Bool.false_or] at hR5
    have HR5 := Lib.hid hR5
    have HU5 := Lib.hid (un_read HU.out HRB.out hG5)
    have HQ5 := Lib.hid (ent_read HQr.out HRB.out hG5)
    have HB5 := Lib.hid (below_grown HBr.out hG5 hprw HBr.out.size)
    clear hR5 hG5 HT1 z0 z1 z2
    generalize (txtR s k).1 = tx at HST hxz ⊢
    generalize (txtR s k).2.2 = b5 at HST HR5
    generalize (txtR s k).2.1 = k5 at HST HR5 hkz
    have hy1 := HLT.out (k5 : Int)
    have hqz := hy1.1
    have hyz := hy1.2
    have HT2 := Lib.hid (HTX.out pr (k5 : Int) b5 w5.drew HR5.out (by omega) (by omega))
    clear hy1
    generalize (txtR s (k5 : Int)).1 = ty at HST hyz HT2
    generalize (txtR s (k5 : Int)).2.2 = b6 at HST HT2
    generalize (txtR s (k5 : Int)).2.1 = k6 at HST HT2 hqz
    go_wp2_with fail
    refine wp_region_held_drew (S := fun _ => True) (by kernel_rfl) (trivial) (fun hHeld => ?_)
    refine tk 0 ⟨some 35,_,_,_,_,_⟩ rfl ?_
    refine tk 2 ⟨some 37,_,_,_,_,_⟩ rfl ?_
    refine tk 3 ⟨some 38,_,_,_,_,_⟩ rfl ?_
    refine wpAnyH_ready (rs := [1, 4]) (by kernel_rfl) (by simp) ?_
    refine AllReadyH.cons (o := ⟨some 36, _, _, _, _, _⟩) rfl (fun K hK => ?_) (AllReadyH.cons (o := ⟨some 39, _, _, _, _, _⟩) rfl (fun K hK => ?_) AllReadyH.nil)
    have m0 := (show (w5.drew).cell? ⟨qe, 0, none⟩ = some (.slice r1 n1 c1) from (entB_cells HU5.out.eb).1)
    go_simp
    refine hK.out _ _ (trivial) (fun hHeld => ?_)
    clear hK
    try simp only [Act.put, List.setIfInBounds_toArray, List.set_cons_zero, List.set_cons_succ]
    clear m0
    refine tc 4 ⟨some 39,_,_,_,_,_⟩ rfl (fun K hK => ?_)
    go_simp
    go_at_call 96; refine HT2.out.mono ?_; rintro e w6 ⟨rfl, hR6, hG6⟩
    refine hK.out _ _ (trivial) (fun hHeld => ?_)
    clear hK
    try simp only [Act.put, List.setIfInBounds_toArray, List.set_cons_zero, List.set_cons_succ]
    have hU6 := un_read HU5.out HR5.out (grown_drew hG6)
    obtain ⟨ao7, m7, c7, w7, hap, hfz, hcl, hU8, hB8, hK8⟩ := un_pair hU6 ⟨tx, ty⟩ hl1000
    have HAP := Lib.hid hap
    have HFZ := Lib.hid hfz
    have HCL := Lib.hid hcl
    have HU6 := Lib.hid hU6
    have HR6 := Lib.hid hR6
    have HG6 := Lib.hid (grown_drew hG6)
    have HU8 := Lib.hid hU8
    have HB8 := Lib.hid hB8
    have HK8 := Lib.hid hK8
    clear hap hfz hcl hU6 hR6 hG6 hU8 hB8 hK8
    refine tk 5 ⟨some 40,_,_,_,_,_⟩ rfl ?_
    refine tc 6 ⟨some 41,_,_,_,_,_⟩ rfl (fun K hK => ?_)
    go_simp
    refine hK.out _ _ (trivial) (fun hHeld => ?_)
    clear hK
    try simp only [Act.put, List.setIfInBounds_toArray, List.set_cons_zero, List.set_cons_succ]
    refine tc 7 ⟨some 42,_,_,_,_,_⟩ rfl (fun K hK => ?_)
    refine kt.step_append_run rfl _ _ 22 22 rfl _ _ (by simp [Act.eval, Act.put]) (by simp [Act.eval, Act.put]) _ _ HAP.out ?_
    refine hK.out _ _ (trivial) (fun hHeld => ?_)
    clear hK
    try simp only [Act.put, List.setIfInBounds_toArray, List.set_cons_zero, List.set_cons_succ]
    refine tk 8 ⟨some 43,_,_,_,_,_⟩ rfl ?_
    have hz1 := HFZ.out
    have hz2 := HCL.out
    refine tc 9 ⟨none,_,_,_,_,_⟩ rfl (fun K hK => ?_)
    go_simp
    refine hK.out _ _ (trivial) (fun hHeld => ?_)
    clear hK
    try simp only [Act.put, List.setIfInBounds_toArray, List.set_cons_zero, List.set_cons_succ]
    clear hz1 hz2
    refine wpAnyH_done (by kernel_rfl) ?_ _
    rotate_left 1
    go_simp
    go_at_call 96; refine HT2.out.mono ?_; rintro e w6 ⟨rfl, hR6, hG6⟩
    refine hK.out _ _ (trivial) (fun hHeld => ?_)
    clear hK
    try simp only [Act.put, List.setIfInBounds_toArray, List.set_cons_zero, List.set_cons_succ]
    have hU6 := un_read HU5.out HR5.out (grown_drew hG6)
    obtain ⟨ao7, m7, c7, w7, hap, hfz, hcl, hU8, hB8, hK8⟩ := un_pair hU6 ⟨tx, ty⟩ hl1000
    have HAP := Lib.hid hap
    have HFZ := Lib.hid hfz
    have HCL := Lib.hid hcl
    have HU6 := Lib.hid hU6
    have HR6 := Lib.hid hR6
    have HG6 := Lib.hid (grown_drew hG6)
    have HU8 := Lib.hid hU8
    have HB8 := Lib.hid hB8
    have HK8 := Lib.hid hK8
    clear hap hfz hcl hU6 hR6 hG6 hU8 hB8 hK8
    refine tk 5 ⟨some 40,_,_,_,_,_⟩ rfl ?_
    refine wpAnyH_ready (rs := [1, 6]) (by kernel_rfl) (by simp) ?_
    refine AllReadyH.cons (o := ⟨some 36, _, _, _, _, _⟩) rfl (fun K hK => ?_) (AllReadyH.cons (o := ⟨some 41, _, _, _, _, _⟩) rfl (fun K hK => ?_) AllReadyH.nil)
    have m1 := (entB_cells HU6.out.eb).1
    go_simp
    refine hK.out _ _ (trivial) (fun hHeld => ?_)
    clear hK
    try simp only [Act.put, List.setIfInBounds_toArray, List.set_cons_zero, List.set_cons_succ]
    clear m1
    refine tc 6 ⟨some 41,_,_,_,_,_⟩ rfl (fun K hK => ?_)
    go_simp
    refine hK.out _ _ (trivial) (fun hHeld => ?_)
    clear hK
    try simp only [Act.put, List.setIfInBounds_toArray, List.set_cons_zero, List.set_cons_succ]
    refine tc 7 ⟨some 42,_,_,_,_,_⟩ rfl (fun K hK => ?_)
    refine kt.step_append_run rfl _ _ 22 22 rfl _ _ (by simp [Act.eval, Act.put]) (by simp [Act.eval, Act.put]) _ _ HAP.out ?_
    refine hK.out _ _ (trivial) (fun hHeld => ?_)
    clear hK
    try simp only [Act.put, List.setIfInBounds_toArray, List.set_cons_zero, List.set_cons_succ]
    refine tk 8 ⟨some 43,_,_,_,_,_⟩ rfl ?_
    have hz1 := HFZ.out
    have hz2 := HCL.out
    refine tc 9 ⟨none,_,_,_,_,_⟩ rfl (fun K hK => ?_)
    go_simp
    refine hK.out _ _ (trivial) (fun hHeld => ?_)
    clear hK
    try simp only [Act.put, List.setIfInBounds_toArray, List.set_cons_zero, List.set_cons_succ]
    clear hz1 hz2
    refine wpAnyH_done (by kernel_rfl) ?_ _
    rotate_left 1
    go_simp
    refine hK.out _ _ (trivial) (fun hHeld => ?_)
    clear hK
    try simp only [Act.put, List.setIfInBounds_toArray, List.set_cons_zero, List.set_cons_succ]
    have m1 := (entB_cells (un_below HU6.out ((Below.refl _ _).alloc (Nat.le_refl _) (.cells #[.string tx, .string ty] 62))).eb).1
    refine tc 1 ⟨some 36,_,_,_,_,_⟩ rfl (fun K hK => ?_)
    go_simp
    refine hK.out _ _ (trivial) (fun hHeld => ?_)
    clear hK
    try simp only [Act.put, List.setIfInBounds_toArray, List.set_cons_zero, List.set_cons_succ]
    clear m1
    refine tc 7 ⟨some 42,_,_,_,_,_⟩ rfl (fun K hK => ?_)
    refine kt.step_append_run rfl _ _ 22 22 rfl _ _ (by simp [Act.eval, Act.put]) (by simp [Act.eval, Act.put]) _ _ HAP.out ?_
    refine hK.out _ _ (trivial) (fun hHeld => ?_)
    clear hK
    try simp only [Act.put, List.setIfInBounds_toArray, List.set_cons_zero, List.set_cons_succ]
    refine tk 8 ⟨some 43,_,_,_,_,_⟩ rfl ?_
    have hz1 := HFZ.out
    have hz2 := HCL.out
    refine tc 9 ⟨none,_,_,_,_,_⟩ rfl (fun K hK => ?_)
    go_simp
    refine hK.out _ _ (trivial) (fun hHeld => ?_)
    clear hK
    try simp only [Act.put, List.setIfInBounds_toArray, List.set_cons_zero, List.set_cons_succ]
    clear hz1 hz2
    refine wpAnyH_done (by kernel_rfl) ?_ _
    all_goals
     obtain ⟨wz, hwz⟩ : ∃ W, w7.setCell ⟨qe, 0, none⟩ (.slice ao7 m7 c7) = W := ⟨_, rfl⟩
     have hU8 := HU8.out
     have hB8 := HB8.out
     have hK8 := HK8.out
     rw [hwz] at hU8 hB8 hK8 ⊢
     have HUZ := Lib.hid hU8
     have HRZ := Lib.hid (ku_rb HR6.out hK8 hpqe)
     have HQZ := Lib.hid (ku_ent (ent_read HQ5.out HR5.out HG6.out) hK8 hqeq)
     have HBZ := Lib.hid ((below_grown HB5.out HG6.out hprw HB5.out.size).trans hB8)
     have HSZ : Hid (∀ a ∈ l ++ [(⟨tx, ty⟩ : Av)], a.t.size ≤ 4000 ∧ a.v.size ≤ 4000) := fun a ha => by
      rcases List.mem_append.1 ha with ha | ha
      ·exact HSL.out a ha
      ·rw [List.mem_singleton] at ha; subst ha; exact ⟨hxz, hyz⟩
     have hlz : ((l ++ [(⟨tx, ty⟩ : Av)]).length : Int) + (n - 1) ≤ 255 := by rw [List.length_append]; simp only [List.length_cons, List.length_nil]; omega
     clear hU8 hB8 hK8 hwz HAP HFZ HCL hHeld HU8 HB8 HK8 HU6 HT2
     go_wp2_with fail
     go_roundw
     case rel => exact ⟨n - 1, (k6 : Int), b5 || b6, l ++ [(⟨tx, ty⟩ : Av)], _, rfl, by omega, by omega, by omega, by omega, hlz, HRZ.out, HUZ.out, HQZ.out, HST.out, HSZ.out, HBZ.out⟩
     case measure => simp [intOf]; omega
   ·obtain ⟨bb, hbb⟩ : ∃ bb, bb = bad := ⟨_, rfl⟩
    rw [← hbb] at HRB HIR
    have HX : Hid (¬ 0 < n ∨ bb = true) := by
     by_cases hn : 0 < n
     ·right; rw [hbb]; cases bad with
      | true => rfl
      | false => exact absurd ⟨hn, rfl⟩ hc
     ·left; exact hn
    have HXX : ¬ 0 < n ∨ (0 < n ∧ bad = true) := by
     by_cases hn : 0 < n
     ·right; refine ⟨hn, ?_⟩; cases bad with
      | true => rfl
      | false => exact absurd ⟨hn, rfl⟩ hc
     ·left; exact hn
    have HIA := Lib.hid (r_end HIR.out HX.out)
    have HC1 := Lib.hid (HCN.out pr k bb wr HRB.out hk0 (by omega))
    have hc1 := HLC.out k
    have HRB0 := HRB
    have HU0 := HU
    have HQ0 := HQr
    have HB0 := HBr
    have hl255 : l.length ≤ 255 := by omega
    clear hc hbb HX HIR HRB HU HQr HBr
    rcases HXX with hn | ⟨hn, rfl⟩
    all_goals
     go_wp2_with fail
     refine HC1.out.mono ?_
     rintro e w5 ⟨rfl, hR5, hG5⟩
     have HR5 := Lib.hid hR5
     have HU5 := Lib.hid (un_read HU0.out HRB0.out hG5)
     have HQ5 := Lib.hid (ent_read HQ0.out HRB0.out hG5)
     have HB5 := Lib.hid (below_grown HB0.out hG5 hprw HB0.out.size)
     clear hR5 hG5 HC1 z0 z1 z2 HRB0 HU0 HQ0 HB0 hn
     generalize (cntR s k).1 = c1' at HIA hc1 ⊢
     generalize (bb || (cntR s k).2) = b1 at HIA HR5
     go_wp2_with fail
     go_loopw [8] (fun nv wr => ∃ (n k : Int) (bad : Bool) (la : List AV) (av : Value), nv = .int .i64 n ∧ 0 ≤ n ∧ n ≤ 255 ∧ 0 ≤ k ∧ k ≤ 4001 ∧ (la.length : Int) + n ≤ 255 ∧ Hid (RB wr pr s k bad) ∧ Hid (Un wr w.heap.size qe l la (.slice r1 n1 c1) av) ∧ Hid (EntB wr q (.slice none 0 0) (.slice none 0 0)) ∧ Hid (InvA s.data.toList bad k n l (la.map Prod.fst)) ∧ Hid (∀ x ∈ la, x.1.t.size ≤ 4000 ∧ x.1.vs.length ≤ 255 ∧ ∀ v ∈ x.1.vs, v.size ≤ 4000) ∧ Hid (Below w.heap.size w wr)) (fun nv _ => (intOf nv).toNat)
     case atStart => exact ⟨(c1' : Int), k + 1, b1, [], _, rfl, by omega, by omega, by omega, by omega, by simp; omega, HR5.out, HU5.out, HQ5.out, HIA.out, (by intro a ha; cases ha), HB5.out⟩
     case round =>
      clear HR5 HU5 HQ5 HIA HB5
      obtain ⟨n, k, bad, la, av, rfl, hn0, hn1, hk0, hk1, hlan, HRB, HU, HQr, HIA, HSA, HBr⟩ := hrel
      obtain ⟨_, _, _, r2, n2, c2, _, rfl⟩ := un_forms HU.out
      obtain ⟨z0, z1, z2⟩ := rb_cells HRB.out
      by_cases hc : 0 < n ∧ bad = false
      ·obtain ⟨hn, hbd⟩ := hc
       subst hbd
       have HT1 := Lib.hid (HTX.out pr k false wr HRB.out hk0 (by omega))
       have HST := Lib.hid (a_step HIA.out hn)
       have hx1 := HLT.out k
       have hkz := hx1.1
       have hxz := hx1.2
       clear hx1
       go_wp2_with fail
       refine HT1.out.mono ?_
       rintro e w5 ⟨rfl, hR5, hG5⟩
       rw [Bool.false_or] at hR5
       have hU5 := un_read HU.out HRB.out hG5
       have hQ5 := ent_read HQr.out HRB.out hG5
       have hB5 := below_grown HBr.out hG5 hprw HBr.out.size
       generalize (txtR s k).1 = tx at HST hxz ⊢
       generalize (txtR s k).2.2 = b5 at HST hR5
       generalize (txtR s k).2.1 = k5 at HST hR5 hkz
       obtain ⟨w6, hw6⟩ : ∃ W, w5.alloc (.cells #[.string tx, .slice none 0 0] 57) = W := ⟨_, rfl⟩
       have hB6 : Below w5.heap.size w5 w6 := by rw [← hw6]; exact (Below.refl _ _).alloc (Nat.le_refl _) _
       have hC6 := cu_new hU5 tx
       rw [hw6] at hC6
       have HR6 := Lib.hid (rb_below hR5 hB6)
       have hU6 := un_below hU5 hB6
       have hQ6 := entB_below hQ5 hB6
       have HB6 := Lib.hid (hB5.trans (hB6.mono hB5.size))
       have hC7 := HCN.out pr (k5 : Int) b5 w6 HR6.out (by omega) (by omega)
       rw [← hw6] at hC7
       have HC7 := Lib.hid hC7
       have HW6 := Lib.hid hw6
       have hcc := HLC.out (k5 : Int)
       have HU6 := Lib.hid hU6
       have HQ6 := Lib.hid hQ6
       have HCC6 := Lib.hid hC6
       clear hR5 hG5 HT1 z0 z1 z2 hU5 hQ5 hB5 hB6 hC6 hU6 hQ6 hC7 hw6
       go_wp2_with fail
       refine HC7.out.mono ?_
       rintro e w7 ⟨rfl, hR7, hG7⟩
       rw [HW6.out] at hG7
       have HR7 := Lib.hid hR7
       have HU7 := Lib.hid (un_read HU6.out HR6.out hG7)
       have HCC7 := Lib.hid (cu_read HCC6.out HR6.out hG7)
       have HQ7 := Lib.hid (ent_read HQ6.out HR6.out hG7)
       have HB7 := Lib.hid (below_grown HB6.out hG7 hprw HB6.out.size)
       clear hR7 hG7 HC7 HW6 HR6 HU6 HCC6 HQ6 HB6 HRB HU HQr HIA HBr
       generalize (cntR s (k5 : Int)).1 = cm at HST hcc ⊢
       generalize (cntR s (k5 : Int)).2 = bm at HST HR7
       go_wp2_with fail
       go_loopw [10] (fun mv wr => ∃ (m k : Int) (bad : Bool) (vs : List ByteArray) (xv : Value), mv = .int .i64 m ∧ 0 ≤ m ∧ m ≤ 255 ∧ 0 ≤ k ∧ k ≤ 4001 ∧ (vs.length : Int) + m ≤ 255 ∧ Hid (RB wr pr s k bad) ∧ Hid (Un wr w.heap.size qe l la (.slice r1 n1 c1) (.slice r2 n2 c2)) ∧ Hid (Cu wr w.heap.size w5.heap.size tx xv vs la (.slice r2 n2 c2)) ∧ Hid (EntB wr q (.slice none 0 0) (.slice none 0 0)) ∧ Hid (InvV s.data.toList bad k n m l (la.map Prod.fst) tx vs) ∧ Hid (∀ v ∈ vs, v.size ≤ 4000) ∧ Hid (Below w.heap.size w wr)) (fun mv _ => (intOf mv).toNat)
       case atStart => exact ⟨(cm : Int), (k5 : Int) + 1, b5 || bm, [], _, rfl, by omega, by omega, by omega, by omega, by simp; omega, HR7.out, HU7.out, HCC7.out, HQ7.out, HST.out, (by intro a ha; cases ha), HB7.out⟩
       case round =>
        clear HR7 HU7 HCC7 HQ7 HST HB7
        obtain ⟨m, k, bad, vs, xv, rfl, hm0, hm1, hk0, hk1, hvm, HRB, HU, HC, HQr, HIV, HSV, HBr⟩ := hrel
        obtain ⟨x1, y1, z1, rfl⟩ := cu_form HC.out
        obtain ⟨g0, g1, g2⟩ := rb_cells HRB.out
        by_cases hc : 0 < m ∧ bad = false
        ·obtain ⟨hm, hbd⟩ := hc
         subst hbd
         have HT2 := Lib.hid (HTX.out pr k false wr.drew HRB.out hk0 (by omega))
         have hl1000 : vs.length ≤ 1000 := by omega
         have HST := Lib.hid (v_step HIV.out hm)
         have hy1 := HLT.out k
         have hqz := hy1.1
         have hyz := hy1.2
         clear hy1
         rw [show ∀ x : Bool, (false || x) = x from Bool.false_or] at HT2
         generalize (txtR s k).1 = ty at HST hyz HT2
         generalize (txtR s k).2.2 = b6 at HST HT2
         generalize (txtR s k).2.1 = k6 at HST HT2 hqz
         go_wp2_with fail
         refine wp_region_held_drew (S := fun _ => True) (by kernel_rfl) (trivial) (fun hHeld => ?_)
         refine tk 0 ⟨some 73,_,_,_,_,_⟩ rfl ?_
         refine tk 2 ⟨some 75,_,_,_,_,_⟩ rfl ?_
         refine wpAnyH_ready (rs := [1, 3]) (by kernel_rfl) (by simp) ?_
         refine AllReadyH.cons (o := ⟨some 74, _, _, _, _, _⟩) rfl (fun K hK => ?_) (AllReadyH.cons (o := ⟨some 76, _, _, _, _, _⟩) rfl (fun K hK => ?_) AllReadyH.nil)
         have m0 := (show (wr.drew).cell? ⟨w5.heap.size, 1, none⟩ = some (.slice x1 y1 z1) from (attrB_cells HC.out.ab).2)
         go_simp
         refine hK.out _ _ (trivial) (fun hHeld => ?_)
         clear hK
         try simp only [Act.put, List.setIfInBounds_toArray, List.set_cons_zero, List.set_cons_succ]
         clear m0
         refine tc 3 ⟨some 76,_,_,_,_,_⟩ rfl (fun K hK => ?_)
         go_simp
         go_at_call 96; refine HT2.out.mono ?_; rintro e w6 ⟨rfl, hR6, hG6⟩
         refine hK.out _ _ (trivial) (fun hHeld => ?_)
         clear hK
         try simp only [Act.put, List.setIfInBounds_toArray, List.set_cons_zero, List.set_cons_succ]
         have hU6 := un_read HU.out HRB.out (grown_drew hG6)
         have hC6 := cu_read HC.out HRB.out (grown_drew hG6)
         obtain ⟨ao7, m7, c7, w7, hap, hfz, hcl, hU8, hC8, hB8, hK8⟩ := un_val hU6 hC6 ty hl1000
         have HAP := Lib.hid hap
         have HFZ := Lib.hid hfz
         have HCL := Lib.hid hcl
         have HC6 := Lib.hid hC6
         have HR6 := Lib.hid hR6
         have HG6 := Lib.hid (grown_drew hG6)
         have HU8 := Lib.hid hU8
         have HC8 := Lib.hid hC8
         have HB8 := Lib.hid hB8
         have HK8 := Lib.hid hK8
         clear hap hfz hcl hU6 hC6 hR6 hG6 hU8 hC8 hB8 hK8
         refine tc 4 ⟨some 77,_,_,_,_,_⟩ rfl (fun K hK => ?_)
         go_simp
         refine hK.out _ _ (trivial) (fun hHeld => ?_)
         clear hK
         try simp only [Act.put, List.setIfInBounds_toArray, List.set_cons_zero, List.set_cons_succ]
         refine tc 5 ⟨some 78,_,_,_,_,_⟩ rfl (fun K hK => ?_)
         refine kt.step_append_run rfl _ _ 32 32 rfl _ _ (by simp [Act.eval, Act.put]) (by simp [Act.eval, Act.put]) _ _ HAP.out ?_
         refine hK.out _ _ (trivial) (fun hHeld => ?_)
         clear hK
         try simp only [Act.put, List.setIfInBounds_toArray, List.set_cons_zero, List.set_cons_succ]
         refine tk 6 ⟨some 79,_,_,_,_,_⟩ rfl ?_
         have hz1 := HFZ.out
         have hz2 := HCL.out
         refine tc 7 ⟨none,_,_,_,_,_⟩ rfl (fun K hK => ?_)
         go_simp
         refine hK.out _ _ (trivial) (fun hHeld => ?_)
         clear hK
         try simp only [Act.put, List.setIfInBounds_toArray, List.set_cons_zero, List.set_cons_succ]
         clear hz1 hz2
         refine wpAnyH_done (by kernel_rfl) ?_ _
         rotate_left 1
         go_simp
         go_at_call 96; refine HT2.out.mono ?_; rintro e w6 ⟨rfl, hR6, hG6⟩
         refine hK.out _ _ (trivial) (fun hHeld => ?_)
         clear hK
         try simp only [Act.put, List.setIfInBounds_toArray, List.set_cons_zero, List.set_cons_succ]
         have hU6 := un_read HU.out HRB.out (grown_drew hG6)
         have hC6 := cu_read HC.out HRB.out (grown_drew hG6)
         obtain ⟨ao7, m7, c7, w7, hap, hfz, hcl, hU8, hC8, hB8, hK8⟩ := un_val hU6 hC6 ty hl1000
         have HAP := Lib.hid hap
         have HFZ := Lib.hid hfz
         have HCL := Lib.hid hcl
         have HC6 := Lib.hid hC6
         have HR6 := Lib.hid hR6
         have HG6 := Lib.hid (grown_drew hG6)
         have HU8 := Lib.hid hU8
         have HC8 := Lib.hid hC8
         have HB8 := Lib.hid hB8
         have HK8 := Lib.hid hK8
         clear hap hfz hcl hU6 hC6 hR6 hG6 hU8 hC8 hB8 hK8
         refine wpAnyH_ready (rs := [1, 4]) (by kernel_rfl) (by simp) ?_
         refine AllReadyH.cons (o := ⟨some 74, _, _, _, _, _⟩) rfl (fun K hK => ?_) (AllReadyH.cons (o := ⟨some 77, _, _, _, _, _⟩) rfl (fun K hK => ?_) AllReadyH.nil)
         have m1 := (attrB_cells HC6.out.ab).2
         go_simp
         refine hK.out _ _ (trivial) (fun hHeld => ?_)
         clear hK
         try simp only [Act.put, List.setIfInBounds_toArray, List.set_cons_zero, List.set_cons_succ]
         clear m1
         refine tc 4 ⟨some 77,_,_,_,_,_⟩ rfl (fun K hK => ?_)
         go_simp
         refine hK.out _ _ (trivial) (fun hHeld => ?_)
         clear hK
         try simp only [Act.put, List.setIfInBounds_toArray, List.set_cons_zero, List.set_cons_succ]
         refine tc 5 ⟨some 78,_,_,_,_,_⟩ rfl (fun K hK => ?_)
         refine kt.step_append_run rfl _ _ 32 32 rfl _ _ (by simp [Act.eval, Act.put]) (by simp [Act.eval, Act.put]) _ _ HAP.out ?_
         refine hK.out _ _ (trivial) (fun hHeld => ?_)
         clear hK
         try simp only [Act.put, List.setIfInBounds_toArray, List.set_cons_zero, List.set_cons_succ]
         refine tk 6 ⟨some 79,_,_,_,_,_⟩ rfl ?_
         have hz1 := HFZ.out
         have hz2 := HCL.out
         refine tc 7 ⟨none,_,_,_,_,_⟩ rfl (fun K hK => ?_)
         go_simp
         refine hK.out _ _ (trivial) (fun hHeld => ?_)
         clear hK
         try simp only [Act.put, List.setIfInBounds_toArray, List.set_cons_zero, List.set_cons_succ]
         clear hz1 hz2
         refine wpAnyH_done (by kernel_rfl) ?_ _
         rotate_left 1
         go_simp
         refine hK.out _ _ (trivial) (fun hHeld => ?_)
         clear hK
         try simp only [Act.put, List.setIfInBounds_toArray, List.set_cons_zero, List.set_cons_succ]
         have m1 := (attrB_cells (cu_below HC6.out ((Below.refl _ _).alloc (Nat.le_refl _) (.cells #[.string ty] 9))).ab).2
         refine tc 1 ⟨some 74,_,_,_,_,_⟩ rfl (fun K hK => ?_)
         go_simp
         refine hK.out _ _ (trivial) (fun hHeld => ?_)
         clear hK
         try simp only [Act.put, List.setIfInBounds_toArray, List.set_cons_zero, List.set_cons_succ]
         clear m1
         refine tc 5 ⟨some 78,_,_,_,_,_⟩ rfl (fun K hK => ?_)
         refine kt.step_append_run rfl _ _ 32 32 rfl _ _ (by simp [Act.eval, Act.put]) (by simp [Act.eval, Act.put]) _ _ HAP.out ?_
         refine hK.out _ _ (trivial) (fun hHeld => ?_)
         clear hK
         try simp only [Act.put, List.setIfInBounds_toArray, List.set_cons_zero, List.set_cons_succ]
         refine tk 6 ⟨some 79,_,_,_,_,_⟩ rfl ?_
         have hz1 := HFZ.out
         have hz2 := HCL.out
         refine tc 7 ⟨none,_,_,_,_,_⟩ rfl (fun K hK => ?_)
         go_simp
         refine hK.out _ _ (trivial) (fun hHeld => ?_)
         clear hK
         try simp only [Act.put, List.setIfInBounds_toArray, List.set_cons_zero, List.set_cons_succ]
         clear hz1 hz2
         refine wpAnyH_done (by kernel_rfl) ?_ _
         all_goals
          obtain ⟨wz, hwz⟩ : ∃ W, w7.setCell ⟨w5.heap.size, 1, none⟩ (.slice ao7 m7 c7) = W := ⟨_, rfl⟩
          have hU8 := HU8.out
          have hC8 := HC8.out
          have hB8 := HB8.out
          have hK8 := HK8.out
          rw [hwz] at hU8 hC8 hB8 hK8 ⊢
          have HUZ := Lib.hid hU8
          have HCZ := Lib.hid hC8
          have HRZ := Lib.hid (ku_rb HR6.out hK8 hpqe)
          have HQZ := Lib.hid (ku_ent (ent_read HQr.out HRB.out HG6.out) hK8 hqeq)
          have HBZ := Lib.hid ((below_grown HBr.out HG6.out hprw HBr.out.size).trans hB8)
          have HSZ : Hid (∀ v ∈ vs ++ [ty], v.size ≤ 4000) := fun a ha => by
           rcases List.mem_append.1 ha with ha | ha
           ·exact HSV.out a ha
           ·rw [List.mem_singleton] at ha; subst ha; exact hyz
          have hlz : ((vs ++ [ty]).length : Int) + (m - 1) ≤ 255 := by rw [List.length_append]; simp only [List.length_cons, List.length_nil]; omega
          clear hU8 hC8 hB8 hK8 hwz HAP HFZ HCL hHeld HU8 HC8 HB8 HK8 HC6 HT2 g0 g1 g2
          go_wp2_with fail
          go_roundw
          case rel => exact ⟨m - 1, (k6 : Int), b6, vs ++ [ty], _, rfl, by omega, by omega, by omega, by omega, hlz, HRZ.out, HUZ.out, HCZ.out, HQZ.out, HST.out, HSZ.out, HBZ.out⟩
          case measure => simp [intOf]; omega
        ·obtain ⟨bb, hbb⟩ : ∃ bb, bb = bad := ⟨_, rfl⟩
         rw [← hbb] at HRB HIV
         have HXX : ¬ 0 < m ∨ (0 < m ∧ bad = true) := by
          by_cases hm : 0 < m
          ·right; refine ⟨hm, ?_⟩; cases bad with
           | true => rfl
           | false => exact absurd ⟨hm, rfl⟩ hc
          ·left; exact hm
         have HIA := Lib.hid (v_end HIV.out (by rcases HXX with h | ⟨_, h⟩; exact Or.inl h; exact Or.inr (by rw [hbb]; exact h)))
         obtain ⟨ao7, m7, c7, w7, hap, hfz, hcl, hU8, hB8, hK8⟩ := un_attr HU.out HC.out (by omega)
         have HAP := Lib.hid hap
         have HU8 := Lib.hid hU8
         have HB8 := Lib.hid hB8
         have HK8 := Lib.hid hK8
         have HSZ : Hid (∀ x ∈ la ++ [((⟨tx, vs⟩ : At), Value.slice x1 y1 z1)], x.1.t.size ≤ 4000 ∧ x.1.vs.length ≤ 255 ∧ ∀ v ∈ x.1.vs, v.size ≤ 4000) := fun x hx => by
          rcases List.mem_append.1 hx with hx | hx
          ·exact HSA.out x hx
          ·rw [List.mem_singleton] at hx; subst hx; exact ⟨hxz, by show vs.length ≤ 255; omega, HSV.out⟩
         have HIZ : Hid (InvA s.data.toList bb k (n - 1) l ((la ++ [((⟨tx, vs⟩ : At), Value.slice x1 y1 z1)]).map Prod.fst)) := by
          have h := HIA.out
          rw [List.map_append]
          exact h
         have hlz : ((la ++ [((⟨tx, vs⟩ : At), Value.slice x1 y1 z1)]).length : Int) + (n - 1) ≤ 255 := by rw [List.length_append]; simp only [List.length_cons, List.length_nil]; omega
         obtain ⟨k0, k1'⟩ := entB_cells HU.out.eb
         obtain ⟨a0, a1⟩ := attrB_cells HC.out.ab
         clear hc hbb hU8 hB8 hK8 hap HIA
         rcases HXX with hm | ⟨hm, rfl⟩
         all_goals
          go_wp2_with (at_builtin; refine Lib.wpList_append_run _ rfl _ _ _ _ rfl _ _ rfl rfl _ _ HAP.out ?_)
          obtain ⟨wz, hwz⟩ : ∃ W, w7.setCell ⟨qe, 1, none⟩ (.slice ao7 m7 c7) = W := ⟨_, rfl⟩
          have hU8 := HU8.out
          have hB8 := HB8.out
          have hK8 := HK8.out
          rw [hwz] at hU8 hB8 hK8 ⊢
          have HUZ := Lib.hid hU8
          have HRZ := Lib.hid (ku_rb HRB.out hK8 hpqe)
          have HQZ := Lib.hid (ku_ent HQr.out hK8 hqeq)
          have HBZ := Lib.hid (HBr.out.trans hB8)
          clear hU8 hB8 hK8 hwz HU8 HB8 HK8 hfz hcl k0 k1' a0 a1 g0 g1 g2
          go_roundw
          case rel => exact ⟨n - 1, k, bb, la ++ [((⟨tx, vs⟩ : At), Value.slice x1 y1 z1)], _, rfl, by omega, by omega, by omega, by omega, hlz, HRZ.out, HUZ.out, HQZ.out, HIZ.out, HSZ.out, HBZ.out⟩
          case measure => simp [intOf]; omega
      ·obtain ⟨bb, hbb⟩ : ∃ bb, bb = bad := ⟨_, rfl⟩
       rw [← hbb] at HRB HIA
       have HXX : ¬ 0 < n ∨ (0 < n ∧ bad = true) := by
        by_cases hn : 0 < n
        ·right; refine ⟨hn, ?_⟩; cases bad with
         | true => rfl
         | false => exact absurd ⟨hn, rfl⟩ hc
        ·left; exact hn
       have HX : Hid (¬ 0 < n ∨ bb = true) := by
        rcases HXX with h | ⟨_, h⟩
        ·exact Or.inl h
        ·exact Or.inr (by rw [hbb]; exact h)
       have hla255 : la.length ≤ 255 := by omega
       have HBB := Lib.hid hbb
       clear hc hbb z0 z1 z2
       rcases HXX with hn | ⟨hn, hbt⟩
       ·clear HBB
        have HUE0 := Lib.hid (a_end HIA.out HX.out ⟨hl255, (by simp only [List.length_map]; exact hla255), fun a ha => by
         obtain ⟨x, hx, rfl⟩ := List.mem_map.1 ha
         exact (HSA.out x hx).2.1⟩)
        obtain ⟨z0, z1, z2⟩ := rb_cells HRB.out
        cases hbv : bb with
        | true =>
         rw [hbv] at z2
         have HUE : Hid (UnpE s.data.toList (.error 4)) := by
          have h := HUE0.out
          rw [if_pos (Or.inl hbv)] at h
          exact h
         have HBX := HBr
         have HQ := HQr
         clear hbv HX HUE0
         obtain ⟨v0, v1⟩ := entB_cells HQ.out
         have f0 := Lib.frozen_of_heap HQ.out 0
         have f1 := Lib.frozen_of_heap HQ.out 1
         have hq1 := entB_set0 HQ.out (.slice none 0 0)
         have hq2 := entB_set1 hq1 (.slice none 0 0)
         have HQC := Lib.hid (entB_cells hq2)
         have HBF := Lib.hid ((HBX.out.setCell (p := ⟨q, 0, none⟩) hqw (.slice none 0 0)).setCell (p := ⟨q, 1, none⟩) hqw (.slice none 0 0))
         clear hq1 hq2
         go_wp2_with fail
         obtain ⟨r0, r1⟩ := HQC.out
         refine bodyPost_ret (v := .tuple #[.agg #[.slice none 0 0, .slice none 0 0], .int .i64 4]) (by rw [results_cell_tmp rfl]; go_simp) rfl ?_
         exact ⟨_, HUE.out, HBF.out, rfl⟩
        | false =>
         rw [hbv] at z2
         have hv9 := un_ent HU.out
         have HPA := Lib.hid (pack_any _ _ wr (Lib.hid hv9) (Lib.hid ⟨hl255, fun a ha => by have := HSL.out a ha; omega, (by simp only [List.length_map]; exact hla255), fun a ha => by
          obtain ⟨x, hx, rfl⟩ := List.mem_map.1 ha
          have h := HSA.out x hx
          exact ⟨by omega, h.2.1, fun v hv => by have := h.2.2 v hv; omega⟩⟩) (Lib.hid (envE_below hE.out HBr.out)))
         have HV9 := Lib.hid hv9
         have HUE1 : Hid (UnpE s.data.toList (if ¬ packS ⟨l, la.map Prod.fst⟩ = (s, 0) then .error 4 else .ok ⟨l, la.map Prod.fst⟩)) := by
          have h := HUE0.out
          rw [hbv] at h
          simp only [Bool.false_eq_true, false_or] at h
          exact h
         have HEQ : Hid (packS ⟨l, la.map Prod.fst⟩ = ((packS ⟨l, la.map Prod.fst⟩).1, (packS ⟨l, la.map Prod.fst⟩).2)) := rfl
         generalize (packS ⟨l, la.map Prod.fst⟩).1 = ps at HPA HEQ
         generalize (packS ⟨l, la.map Prod.fst⟩).2 = pf at HPA HEQ
         rw [HEQ.out] at HUE1
         obtain ⟨k0, k1⟩ := entB_cells HU.out.eb
         clear hbv HX HUE0 hv9 HEQ
         go_wp2_with fail
         refine HPA.out.mono ?_
         rintro e w9 ⟨rfl, hB9⟩
         have HBX := Lib.hid (HBr.out.trans (hB9.mono HBr.out.size))
         have HQ := Lib.hid (entB_below HQr.out hB9)
         have HV := Lib.hid (entV_below HV9.out hB9)
         have HE9 := Lib.hid (entB_below HU.out.eb hB9)
         clear hB9 k0 k1 z0 z1 z2 HPA
         by_cases hpf : pf = 0
         ·subst hpf
          by_cases hps : ps = s
          ·subst hps
           have HUE : Hid (UnpE ps.data.toList (.ok ⟨l, la.map Prod.fst⟩)) := by
            have h := HUE1.out
            rw [if_neg (not_not_intro rfl)] at h
            exact h
           obtain ⟨k0, k1⟩ := entB_cells HE9.out
           clear HUE1
           obtain ⟨v0, v1⟩ := entB_cells HQ.out
           have f0 := Lib.frozen_of_heap HQ.out 0
           have f1 := Lib.frozen_of_heap HQ.out 1
           have hq1 := entB_set0 HQ.out (.slice r1 n1 c1)
           have hq2 := entB_set1 hq1 (.slice r2 n2 c2)
           have HQC := Lib.hid (entB_cells hq2)
           have HBF := Lib.hid ((HBX.out.setCell (p := ⟨q, 0, none⟩) hqw (.slice r1 n1 c1)).setCell (p := ⟨q, 1, none⟩) hqw (.slice r2 n2 c2))
           have HVF := Lib.hid (entV_set (entV_set HV.out HQ.out (noS_slice _ _ _) (noS_slice _ _ _) 0 (.slice r1 n1 c1)) hq1 (noS_slice _ _ _) (noS_slice _ _ _) 1 (.slice r2 n2 c2))
           clear hq1 hq2
           go_wp2_with fail
           obtain ⟨r0, r1'⟩ := HQC.out
           refine bodyPost_ret (v := .tuple #[.agg #[.slice r1 n1 c1, .slice r2 n2 c2], .int .i64 0]) (by rw [results_cell_tmp rfl]; go_simp) rfl ?_
           exact ⟨_, HUE.out, HBF.out, _, rfl, HVF.out⟩
          ·have dps := ne_str hps
           have HUE : Hid (UnpE s.data.toList (.error 4)) := by
            have h := HUE1.out
            rw [if_pos (fun e => hps (Prod.mk.inj e).1)] at h
            exact h
           clear HUE1 hps
           obtain ⟨v0, v1⟩ := entB_cells HQ.out
           have f0 := Lib.frozen_of_heap HQ.out 0
           have f1 := Lib.frozen_of_heap HQ.out 1
           have hq1 := entB_set0 HQ.out (.slice none 0 0)
           have hq2 := entB_set1 hq1 (.slice none 0 0)
           have HQC := Lib.hid (entB_cells hq2)
           have HBF := Lib.hid ((HBX.out.setCell (p := ⟨q, 0, none⟩) hqw (.slice none 0 0)).setCell (p := ⟨q, 1, none⟩) hqw (.slice none 0 0))
           clear hq1 hq2
           go_wp2_with fail
           obtain ⟨r0, r1⟩ := HQC.out
           refine bodyPost_ret (v := .tuple #[.agg #[.slice none 0 0, .slice none 0 0], .int .i64 4]) (by rw [results_cell_tmp rfl]; go_simp) rfl ?_
           exact ⟨_, HUE.out, HBF.out, rfl⟩
         ·have dpf : (pf != 0) = true := by rw [bne_iff_ne]; exact hpf
          have HUE : Hid (UnpE s.data.toList (.error 4)) := by
           have h := HUE1.out
           rw [if_pos (fun e => hpf (Prod.mk.inj e).2)] at h
           exact h
          clear HUE1 hpf
          obtain ⟨v0, v1⟩ := entB_cells HQ.out
          have f0 := Lib.frozen_of_heap HQ.out 0
          have f1 := Lib.frozen_of_heap HQ.out 1
          have hq1 := entB_set0 HQ.out (.slice none 0 0)
          have hq2 := entB_set1 hq1 (.slice none 0 0)
          have HQC := Lib.hid (entB_cells hq2)
          have HBF := Lib.hid ((HBX.out.setCell (p := ⟨q, 0, none⟩) hqw (.slice none 0 0)).setCell (p := ⟨q, 1, none⟩) hqw (.slice none 0 0))
          clear hq1 hq2
          go_wp2_with fail
          obtain ⟨r0, r1⟩ := HQC.out
          refine bodyPost_ret (v := .tuple #[.agg #[.slice none 0 0, .slice none 0 0], .int .i64 4]) (by rw [results_cell_tmp rfl]; go_simp) rfl ?_
          exact ⟨_, HUE.out, HBF.out, rfl⟩
       ·obtain rfl : bb = true := HBB.out.trans hbt
        clear HBB hbt
        have HUE0 := Lib.hid (a_end HIA.out HX.out ⟨hl255, (by simp only [List.length_map]; exact hla255), fun a ha => by
         obtain ⟨x, hx, rfl⟩ := List.mem_map.1 ha
         exact (HSA.out x hx).2.1⟩)
        obtain ⟨z0, z1, z2⟩ := rb_cells HRB.out
        have HUE : Hid (UnpE s.data.toList (.error 4)) := by
         have h := HUE0.out
         rw [if_pos (Or.inl rfl)] at h
         exact h
        have HBX := HBr
        have HQ := HQr
        clear HX HUE0
        obtain ⟨v0, v1⟩ := entB_cells HQ.out
        have f0 := Lib.frozen_of_heap HQ.out 0
        have f1 := Lib.frozen_of_heap HQ.out 1
        have hq1 := entB_set0 HQ.out (.slice none 0 0)
        have hq2 := entB_set1 hq1 (.slice none 0 0)
        have HQC := Lib.hid (entB_cells hq2)
        have HBF := Lib.hid ((HBX.out.setCell (p := ⟨q, 0, none⟩) hqw (.slice none 0 0)).setCell (p := ⟨q, 1, none⟩) hqw (.slice none 0 0))
        clear hq1 hq2
        go_wp2_with fail
        obtain ⟨r0, r1⟩ := HQC.out
        refine bodyPost_ret (v := .tuple #[.agg #[.slice none 0 0, .slice none 0 0], .int .i64 4]) (by rw [results_cell_tmp rfl]; go_simp) rfl ?_
        exact ⟨_, HUE.out, HBF.out, rfl⟩
end etw
end Go.Proofs.YtcolcogobdgejaaGreatDoor
