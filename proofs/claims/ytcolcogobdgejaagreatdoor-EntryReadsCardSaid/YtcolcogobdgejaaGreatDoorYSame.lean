/- The walk of the reference's Same (entries), where both read as one entry. -/
import Derived.Test.YtcolcogobdgejaaGreatDoorC1
import Derived.Test.YtcolcogobdgejaaGreatDoorC10
import Derived.Test.YtcolcogobdgejaaGreatDoorC12
/-! Same17W -/
namespace Go.Proofs.YtcolcogobdgejaaGreatDoor
open Go.RowKit
namespace etw
open atp atw etp
open dnw (Av Avas)
open tupw (Strs strs_below)
set_option linter.unusedVariables false
set_option linter.unusedSimpArgs false
set_option maxRecDepth 20000 in
set_option maxHeartbeats 8000000 in
theorem same17_eq (v1 v2 : Value) (E : En) (w : World) (h1 : Hid (EntV w v1 E)) (h2 : Hid (EntV w v2 E)) (hb : Hid (Bd E)) :
  Calls Tryz.prog 27 #[v1, v2] w fun e w' => e = .returned (.bool true) ∧ Below w.heap.size w w' := by
 obtain ⟨ro, rc, ao, ac, Nr, N, rfl, HN, HA, hac, HNr, HAv, hrc⟩ := ent_form h1.out
 obtain ⟨ro2, rc2, ao2, ac2, Nr2, N2, rfl, HN2, HA2, hac2, HNr2, HAv2, hrc2⟩ := ent_form h2.out
 have e1 : Nr = Nr2 := by rw [← HNr.out, ← HNr2.out]
 have e2 : N = N2 := by rw [← HN.out, ← HN2.out]
 subst e1 e2
 have hNrb : Nr ≤ 100000 := by rw [← HNr.out]; exact hb.out.rl
 have hNb : N ≤ 100000 := by rw [← HN.out]; exact hb.out.al
 have HVS := Lib.hid hb.out.as_
 obtain ⟨rdn, L⟩ := E
 simp only at HN HA HNr HAv HN2 HA2 HNr2 HAv2 HVS
 obtain ⟨W1, hW1⟩ : ∃ W, w.alloc (.cells #[.slice ro Nr rc, .slice ao N ac] 25) = W := ⟨_, rfl⟩
 have hB1 : Below w.heap.size w W1 := by rw [← hW1]; exact (Below.refl _ _).alloc (Nat.le_refl _) _
 have hT1 : EntB W1 w.heap.size (.slice ro Nr rc) (.slice ao N ac) := by rw [← hW1]; exact entB_new _ _ _
 obtain ⟨W2, hW2⟩ : ∃ W, W1.alloc (.cells #[.slice ro2 Nr rc2, .slice ao2 N ac2] 25) = W := ⟨_, rfl⟩
 have hB2 : Below W1.heap.size W1 W2 := by rw [← hW2]; exact (Below.refl _ _).alloc (Nat.le_refl _) _
 obtain ⟨q, hqq⟩ : ∃ q, W1.heap.size = q := ⟨_, rfl⟩
 have hQ2 : EntB W2 q (.slice ro2 Nr rc2) (.slice ao2 N ac2) := by rw [← hW2, ← hqq]; exact entB_new _ _ _
 have HB2 := Lib.hid (hB1.trans (hB2.mono hB1.size))
 have HT2 := Lib.hid (entB_below hT1 hB2)
 have HQ2 := Lib.hid hQ2
 obtain ⟨k0, k1⟩ := entB_cells HT2.out
 obtain ⟨m0, m1⟩ := entB_cells HQ2.out
 have hz2 := HB2.out.size
 clear hB1 hB2 hT1 hQ2 h1 h2 hb
 go_enter Tryz.func27, Tryz.ntmps27
 go_wp2_with fail
 clear k0 k1 m0 m1 hW1 hW2 hqq
 go_loopw [5] (fun iv wr => ∃ i : Nat, i ≤ Nr ∧ iv = .int .i64 (i : Int) ∧ Hid (Below W2.heap.size W2 wr)) (fun iv _ => Nr - (intOf iv).toNat)
 case atStart => exact ⟨0, Nat.zero_le _, rfl, Below.refl _ _⟩
 case round =>
  obtain ⟨i, hi, rfl, hBr⟩ := hrel
  have HBr := Lib.hid (HB2.out.trans (hBr.out.mono hz2))
  obtain ⟨k0, k1⟩ := entB_cells (entB_below HT2.out hBr.out)
  obtain ⟨m0, m1⟩ := entB_cells (entB_below HQ2.out hBr.out)
  by_cases hlt : i < Nr
  ·have hltI : (i : Int) < (Nr : Int) := by omega
   have hil : i < rdn.length := by rw [HNr.out]; exact hlt
   obtain ⟨b, o, hbo, x0, x1⟩ := (dnw.avas_below HAv.out HBr.out) i hil
   obtain ⟨b2, o2, hbo2, y0, y1⟩ := (dnw.avas_below HAv2.out HBr.out) i hil
   subst hbo hbo2
   generalize rdn[i] = a at x0 x1 y0 y1
   go_wp2_with fail
   go_quiet (fail)
   have HBQ := Lib.hid (same.below_drewN hBr.out nq)
   clear k0 k1 m0 m1 x0 x1 y0 y1
   go_wp2_with fail
   go_roundw
   case rel => exact ⟨i + 1, by omega, by go_num, HBQ⟩
   case measure => simp [intOf]; omega
  ·obtain rfl : Nr = i := by omega
   go_wp2_with fail
   clear k0 k1 m0 m1
   have HB0 := hBr
   go_loopw [6] (fun iv wr => ∃ i : Nat, i ≤ N ∧ iv = .int .i64 (i : Int) ∧ Hid (Below W2.heap.size W2 wr)) (fun iv _ => N - (intOf iv).toNat)
   case atStart => exact ⟨0, Nat.zero_le _, rfl, HB0.out⟩
   case round =>
    clear HBr hBr HB0
    obtain ⟨i, hi, rfl, hBr⟩ := hrel
    have HBr := Lib.hid (HB2.out.trans (hBr.out.mono hz2))
    obtain ⟨k0, z1⟩ := entB_cells (entB_below HT2.out hBr.out)
    obtain ⟨m0, u1⟩ := entB_cells (entB_below HQ2.out hBr.out)
    clear k0 m0
    by_cases hlt : i < N
    ·have hltI : (i : Int) < (N : Int) := by omega
     have hil : i < L.length := by rw [HN.out]; exact hlt
     obtain ⟨b, o, ax, cx, hbo, x0, x1, hcx, hs1⟩ := (ats_below HA.out HBr.out) i hil
     obtain ⟨b2, o2, ay, cy, hbo2, y0, y1, hcy, hs2⟩ := (ats_below HA2.out HBr.out) i hil
     subst hbo hbo2
     have hvl := (HVS.out L[i] (List.getElem_mem _)).2.1
     obtain ⟨tt, htt⟩ : ∃ tt, L[i].t = tt := ⟨_, rfl⟩
     obtain ⟨vs, hvs⟩ : ∃ vs, L[i].vs = vs := ⟨_, rfl⟩
     rw [htt] at x0 y0
     rw [hvs] at x1 y1 hcx hcy hs1 hs2 hvl
     clear htt hvs
     obtain ⟨M, hM⟩ : ∃ M, vs.length = M := ⟨_, rfl⟩
     have HS1 := Lib.hid hs1
     have HS2 := Lib.hid hs2
     have HSM : Hid (∀ W, Below wr.heap.size wr W → Calls Tryz.prog 20 #[.slice ax M cx, .slice ay M cy] W fun e w' => e = .returned (.bool true) ∧ Below W.heap.size W w') := by
      intro W h
      have := same.same_any ax ay cx cy vs vs W (Lib.hid (strs_below HS1.out h)) (Lib.hid (strs_below HS2.out h)) (by omega)
      rw [hM, decide_eq_true rfl] at this
      exact this
     rw [hM] at x1 y1
     clear hM hcx hcy hs1 hs2 hvl HS1 HS2
     have hz1 := World.block_lt_of_cell? wr _ z1
     have hu1 := World.block_lt_of_cell? wr _ u1
     have hx0 := World.block_lt_of_cell? wr _ x0
     have hx1 := World.block_lt_of_cell? wr _ x1
     have hy0 := World.block_lt_of_cell? wr _ y0
     have hy1 := World.block_lt_of_cell? wr _ y1
     go_wp2_with fail
     refine wp_region_held_drew (S := fun W => W.cell? ⟨w.heap.size, 1, none⟩ = some (.slice (some ⟨b, o, none⟩) N ac) ∧ W.cell? ⟨q, 1, none⟩ = some (.slice (some ⟨b2, o2, none⟩) N ac2) ∧ W.cell? ⟨b, o + i * 2, none⟩ = some (.string tt) ∧ W.cell? ⟨b, o + i * 2 + 1, none⟩ = some (.slice ax M cx) ∧ W.cell? ⟨b2, o2 + i * 2, none⟩ = some (.string tt) ∧ W.cell? ⟨b2, o2 + i * 2 + 1, none⟩ = some (.slice ay M cy)) (by kernel_rfl) (⟨z1, u1, x0, x1, y0, y1⟩) (fun hHeld => ?_)
     refine tk 0 ⟨some 48,_,_,_,_,_⟩ rfl ?_
     refine tk 1 ⟨some 49,_,_,_,_,_⟩ rfl ?_
     refine tk 2 ⟨some 50,_,_,_,_,_⟩ rfl ?_
     refine tk 3 ⟨some 51,_,_,_,_,_⟩ rfl ?_
     refine tk 4 ⟨some 52,_,_,_,_,_⟩ rfl ?_
     refine tk 5 ⟨some 53,_,_,_,_,_⟩ rfl ?_
     refine tk 6 ⟨some 54,_,_,_,_,_⟩ rfl ?_
     refine tk 7 ⟨some 55,_,_,_,_,_⟩ rfl ?_
     refine tk 8 ⟨some 56,_,_,_,_,_⟩ rfl ?_
     refine tk 9 ⟨some 57,_,_,_,_,_⟩ rfl ?_
     refine tk 10 ⟨some 58,_,_,_,_,_⟩ rfl ?_
     refine tk 11 ⟨some 59,_,_,_,_,_⟩ rfl ?_
     refine tk 12 ⟨some 60,_,_,_,_,_⟩ rfl ?_
     refine tk 13 ⟨some 61,_,_,_,_,_⟩ rfl ?_
     refine tk 14 ⟨some 62,_,_,_,_,_⟩ rfl ?_
     refine tk 15 ⟨some 63,_,_,_,_,_⟩ rfl ?_
     refine tk 16 ⟨some 64,_,_,_,_,_⟩ rfl ?_
     refine tk 17 ⟨some 65,_,_,_,_,_⟩ rfl ?_
     refine tk 18 ⟨some 66,_,_,_,_,_⟩ rfl ?_
     refine tk 19 ⟨some 67,_,_,_,_,_⟩ rfl ?_
     refine tk 20 ⟨some 68,_,_,_,_,_⟩ rfl ?_
     refine tk 21 ⟨some 69,_,_,_,_,_⟩ rfl ?_
     refine tk 22 ⟨some 70,_,_,_,_,_⟩ rfl ?_
     refine tk 23 ⟨some 71,_,_,_,_,_⟩ rfl ?_
     refine tk 24 ⟨some 72,_,_,_,_,_⟩ rfl ?_
     refine tk 25 ⟨some 73,_,_,_,_,_⟩ rfl ?_
     refine tc 26 ⟨some 74,_,_,_,_,_⟩ rfl (fun K hK => ?_)
     go_simp
     go_at_call 20; refine (HSM.out _ ((Below.refl wr.heap.size wr).drew)).mono ?_; rintro e w6 ⟨rfl, hB6⟩
     refine hK.out _ _ (⟨(hB6.cell (p := ⟨w.heap.size, 1, none⟩) hz1).trans (z1), (hB6.cell (p := ⟨q, 1, none⟩) hu1).trans (u1), (hB6.cell (p := ⟨b, o + i * 2, none⟩) hx0).trans (x0), (hB6.cell (p := ⟨b, o + i * 2 + 1, none⟩) hx1).trans (x1), (hB6.cell (p := ⟨b2, o2 + i * 2, none⟩) hy0).trans (y0), (hB6.cell (p := ⟨b2, o2 + i * 2 + 1, none⟩) hy1).trans (y1)⟩) (fun hHeld => ?_)
     clear hK
     try simp only [Act.put, List.setIfInBounds_toArray, List.set_cons_zero, List.set_cons_succ]
     refine tk 27 ⟨some 75,_,_,_,_,_⟩ rfl ?_
     refine tk 28 ⟨some 76,_,_,_,_,_⟩ rfl ?_
     refine wpAnyH_done (by kernel_rfl) ?_ _
     have HB6 := Lib.hid (hBr.out.trans (((Below.refl wr.heap.size wr).drew.trans hB6).mono hBr.out.size))
     clear hHeld hB6 x0 x1 y0 y1 z1 u1
     go_wp2_with fail
     go_roundw
     case rel => exact ⟨i + 1, by omega, by go_num, HB6⟩
     case measure => simp [intOf]; omega
    ·obtain rfl : N = i := by omega
     go_wp2_with fail
     go_ret
     exact ⟨rfl, HBr.out⟩
end etw
end Go.Proofs.YtcolcogobdgejaaGreatDoor
