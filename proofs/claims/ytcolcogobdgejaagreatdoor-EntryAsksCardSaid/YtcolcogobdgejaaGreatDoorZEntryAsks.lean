/- THE STATEMENT 'EntryAsks': whatever the input, the law returns true and leaves its input as it was. Conditions: those of the row alone (its listed variables are tied to the program's text by the given tie). -/
import Derived.Test.YtcolcogobdgejaaGreatDoorB1
import Derived.Test.YtcolcogobdgejaaGreatDoorB11
import Derived.Test.YtcolcogobdgejaaGreatDoorB12
import Derived.Test.YtcolcogobdgejaaGreatDoorCards
import Derived.Test.YtcolcogobdgejaaGreatDoorTie
import Derived.Lay
import Derived.Lib.LaidU8
import Derived.Lib.SmallJoins
import Derived.PinnedBridge
import Derived.WalkKit
import Derived.ProofKit
import Derived.OpenShut
import Derived.ChangeOld
import Derived.Below
import Derived.SizedLaws
import Derived.LaidMore
import Derived.Deep.DeepHandedRow
import Derived.Deep.DeepWitnessRowRef
import Derived.Lib.LaidTab
/-! AsksW -/
namespace Go.Proofs.YtcolcogobdgejaaGreatDoor
open Go.RowKit
namespace etw
open atp atw etp
open dnw (Av Avas)
open tupw (Strs strs_below)
set_option linter.unusedVariables false
set_option linter.unusedSimpArgs false
set_option maxRecDepth 20000 in
set_option maxHeartbeats 8000000 in
theorem asks_law (v : Value) (E : En) (n x : ByteArray) (w : World) (hv : Hid (EntV w v E)) (hE : Hid (EnvE w)) :
  Calls Tryz.prog 3 #[v, .string n, .string x] w fun e w' => e = .returned (.bool true) ∧ Below w.heap.size w w' := by
 have HLO0 : Hid (∀ W, Below w.heap.size w W → Calls Tryz.prog 15 #[v] W fun e w' => e = .returned (.bool (longE E)) ∧ Below W.heap.size W w') := fun W h => longE_any v E W (Lib.hid (entV_below hv.out h))
 have HRR0 : Hid (Bd E → ∀ W, Below w.heap.size w W → Calls Tryz.prog 17 #[v] W fun e w' => e = .returned (.bool (rightE E)) ∧ Below W.heap.size W w') := fun hb W h => rright_any v E W (Lib.hid (entV_below hv.out h)) (Lib.hid hb)
 have HVA0 : Hid (Bd E → n.size ≤ 600 → ∀ W, Below w.heap.size w W → Calls Tryz.prog 18 #[v, .string n] W fun e w' => ValsE (valuesE E n.data.toList) W e w') := fun hb hn W h => values_any v E n W (Lib.hid (entV_below hv.out h)) (Lib.hid hb) (by omega) (Lib.hid (envE_below hE.out h))
 have HHA0 : Hid (Bd E → n.size ≤ 600 → x.size ≤ 2000 → ∀ W, Below w.heap.size w W → Calls Tryz.prog 19 #[v, .string n, .string x] W fun e w' => e = .returned (.bool (hasE E n.data.toList x)) ∧ Below W.heap.size W w') := fun hb hn hx W h => has_any v E n x W (Lib.hid (entV_below hv.out h)) (Lib.hid hb) (by omega) (by omega) (Lib.hid (envE_below hE.out h))
 have HRV0 : Hid (Bd E → ∀ m W, Below w.heap.size w W → Calls Tryz.prog 21 #[v, .string m] W fun e w' => ValsE (valsA E.ats m) W e w') := fun hb m W h => rvals2_any v E m W (Lib.hid (entV_below hv.out h)) (Lib.hid hb)
 have HFI0 : Hid (n.size ≤ 600 → ∀ W, Calls Tryz.prog 16 #[.string n] W fun e w' => e = .returned (resT (findS (sml.lowL n.data.toList))) ∧ Below W.heap.size W w') := fun hn W => atw.rfind_any n W (by omega)
 have HVX : Hid (valuesE E n.data.toList = match findS (sml.lowL n.data.toList) with
  | none => []
  | some ty => if rightE E = true then valsA E.ats (bs ty.name) else []) := rfl
 have HHX : Hid (hasE E n.data.toList x = match findS (sml.lowL n.data.toList) with
  | none => false
  | some ty => rightE E && decide (0 ≤ likeI ty.syn (valsA E.ats (bs ty.name)) x)) := rfl
 obtain ⟨ro, rc, ao, ac, Nr, N, rfl, HN, HA, hac, HNr, HAv, hrc⟩ := ent_form hv.out
 obtain ⟨W0, hW0⟩ : ∃ W, w.alloc (.cells #[.slice ro Nr rc, .slice ao N ac] 25) = W := ⟨_, rfl⟩
 have hB0 : Below w.heap.size w W0 := by rw [← hW0]; exact (Below.refl _ _).alloc (Nat.le_refl _) _
 have HT0 : Hid (EntB W0 w.heap.size (.slice ro Nr rc) (.slice ao N ac)) := by rw [← hW0]; exact entB_new _ _ _
 have HB0 := Lib.hid hB0
 have HAW := Lib.hid (eawake_any W0 (Lib.hid (envE_below hE.out hB0)))
 clear hB0 hv
 go_enter Tryz.func3, Tryz.ntmps3
 go_wp2_with fail
 refine HAW.out.mono ?_
 rintro e w1 ⟨rfl, hB1⟩
 have HB1 := Lib.hid (HB0.out.trans (hB1.mono HB0.out.size))
 have HT1 := Lib.hid (entB_below HT0.out hB1)
 obtain ⟨k0, k1⟩ := entB_cells HT1.out
 have HLO := Lib.hid (HLO0.out w1 HB1.out)
 clear hB1 hW0 HAW HLO0
 cases hlo : longE E with
 | true =>
  rw [hlo] at HLO
  clear hlo
  go_wp2_with fail
  refine HLO.out.mono ?_
  rintro e w2 ⟨rfl, hB2⟩
  have HBE := Lib.hid (HB1.out.trans (hB2.mono HB1.out.size))
  clear hB2 k0 k1
  go_wp2_with fail
  go_ret
  exact ⟨rfl, HBE.out⟩
 | false =>
  rw [hlo] at HLO
  have hbk := longE_no hlo
  have HBD := Lib.hid (bk_bd hbk (by omega))
  have HVL := Lib.hid (bk_vals hbk)
  clear hlo hbk
  by_cases hn : 600 < n.size
  ·have hn' : (600 : Int) < (n.size : Int) := by omega
   go_wp2_with fail
   refine HLO.out.mono ?_
   rintro e w2 ⟨rfl, hB2⟩
   have HBE := Lib.hid (HB1.out.trans (hB2.mono HB1.out.size))
   clear hB2 k0 k1
   go_wp2_with fail
   go_ret
   exact ⟨rfl, HBE.out⟩
  ·have hn' : ¬ (600 : Int) < (n.size : Int) := by omega
   by_cases hx : 2000 < x.size
   ·have hx' : (2000 : Int) < (x.size : Int) := by omega
    go_wp2_with fail
    refine HLO.out.mono ?_
    rintro e w2 ⟨rfl, hB2⟩
    have HBE := Lib.hid (HB1.out.trans (hB2.mono HB1.out.size))
    clear hB2 k0 k1
    go_wp2_with fail
    go_ret
    exact ⟨rfl, HBE.out⟩
   ·have hx' : ¬ (2000 : Int) < (x.size : Int) := by omega
    have HRR := Lib.hid (HRR0.out HBD.out)
    have HVA := Lib.hid (HVA0.out HBD.out (by omega))
    have HHA1 := Lib.hid (HHA0.out HBD.out (by omega) (by omega))
    have HRV1 := Lib.hid (HRV0.out HBD.out)
    have HFI := Lib.hid (HFI0.out (by omega))
    clear HRR0 HVA0 HHA0 HRV0 HFI0
    go_wp2_with fail
    refine HLO.out.mono ?_
    rintro e w2 ⟨rfl, hB2⟩
    have HB2 := Lib.hid (HB1.out.trans (hB2.mono HB1.out.size))
    have HT2 := Lib.hid (entB_below HT1.out hB2)
    clear hB2 k0 k1
    go_wp2_with fail
    refine (HFI.out _).mono ?_
    rintro e w3 ⟨he, hB3⟩
    have HB3 := Lib.hid (HB2.out.trans (hB3.mono HB2.out.size))
    have HT3 := Lib.hid (entB_below HT2.out hB3)
    clear hB3
    obtain ⟨nm, syn, sg, ok, hok1, hok2⟩ : ∃ nm syn sg ok, e = .returned (.tuple #[.agg #[.string nm, .int .i64 syn, .bool sg], .bool ok]) ∧ ((ok = true ∧ valuesE E n.data.toList = (if rightE E = true then valsA E.ats nm else []) ∧ hasE E n.data.toList x = (rightE E && decide (0 ≤ likeI syn (valsA E.ats nm) x))) ∨ (ok = false ∧ valuesE E n.data.toList = [] ∧ hasE E n.data.toList x = false)) := by
     have h1 := HVX.out
     have h2 := HHX.out
     cases hf : findS (sml.lowL n.data.toList) with
     | none =>
      rw [hf] at he h1 h2
      exact ⟨_, _, _, false, he, Or.inr ⟨rfl, h1, h2⟩⟩
     | some ty =>
      rw [hf] at he h1 h2
      exact ⟨_, _, _, true, he, Or.inl ⟨rfl, h1, h2⟩⟩
    subst hok1
    have HOK := Lib.hid hok2
    clear he hok2 HVX HHX
    obtain ⟨w4, hw4⟩ : ∃ W, w3.alloc (.cells #[.string nm, .int .i64 syn, .bool sg] 29) = W := ⟨_, rfl⟩
    have hB4 : Below w3.heap.size w3 w4 := by rw [← hw4]; exact (Below.refl _ _).alloc (Nat.le_refl _) _
    obtain ⟨tb, htb⟩ : ∃ tb, w3.heap.size = tb := ⟨_, rfl⟩
    have HY4 : Hid (TB w4 tb nm syn sg) := by rw [← hw4, ← htb]; exact tb_new _ _ _ _
    have HB4 := Lib.hid (HB3.out.trans (hB4.mono HB3.out.size))
    have HT4 := Lib.hid (entB_below HT3.out hB4)
    obtain ⟨k0, k1⟩ := entB_cells HT4.out
    have HRR4 := Lib.hid (HRR.out w4 HB4.out)
    clear hB4
    go_wp2_with fail
    refine HRR4.out.mono ?_
    rintro e w5 ⟨rfl, hB5⟩
    have HB5 := Lib.hid (HB4.out.trans (hB5.mono HB4.out.size))
    have HT5 := Lib.hid (entB_below HT4.out hB5)
    have HY5 := Lib.hid (tb_below HY4.out hB5)
    obtain ⟨m0, m1⟩ := entB_cells HT5.out
    have HVA5 := Lib.hid (HVA.out w5 HB5.out)
    clear hB5 k0 k1 hw4 htb HVA HRR HRR4
    go_wp2_with fail
    refine HVA5.out.mono ?_
    rintro e w6 ⟨x6, rfl, hx6, hB6⟩
    have HB6 := Lib.hid (HB5.out.trans (hB6.mono HB5.out.size))
    obtain ⟨z0, z1⟩ := entB_cells (entB_below HT5.out hB6)
    obtain ⟨y0, y1, y2⟩ := tb_cells (tb_below HY5.out hB6)
    have hlz := World.block_lt_of_cell? w6 _ z0
    have hly := World.block_lt_of_cell? w6 _ y0
    obtain ⟨a6, n6, c6, rfl, hn6, hc6, hs6⟩ := elem_form hx6
    have HS6 := Lib.hid hs6
    have HHA2 : Hid (∀ W, Below w6.heap.size w6 W → Calls Tryz.prog 19 #[.agg #[.slice ro Nr rc, .slice ao N ac], .string n, .string x] W fun e w' => e = .returned (.bool (hasE E n.data.toList x)) ∧ Below W.heap.size W w') := fun W h => HHA1.out W (HB6.out.trans (h.mono HB6.out.size))
    clear hx6 hs6 hB6 m0 m1 HHA1
    rcases HOK.out with ⟨hok, hvx, hhx⟩ | ⟨hok, hvx, hhx⟩
    ·subst hok
     cases hr : rightE E with
     | true =>
      rw [hr, if_pos rfl] at hvx
      rw [hr, Bool.true_and] at hhx
      rw [hvx] at hn6 HS6
      rw [hhx] at HHA2
      have HVLn := HVL.out nm
      have hvl1 := HVLn.1
      have HVL2 := Lib.hid HVLn.2
      have HHA := HHA2
      have HRV : Hid (∀ W, Below w6.heap.size w6 W → Calls Tryz.prog 21 #[.agg #[.slice ro Nr rc, .slice ao N ac], .string nm] W fun e w' => ValsE (valsA E.ats nm) W e w') := fun W h => HRV1.out nm W (HB6.out.trans (h.mono HB6.out.size))
      clear hvx hhx hr HVLn HVL HOK HHA2 HRV1
      generalize valsA E.ats nm = vs at hn6 HS6 HHA HRV HVL2 hvl1
      have HSM : Hid (∀ a k c W, Hid (k = vs.length) → Strs W a vs → Below w6.heap.size w6 W → Calls Tryz.prog 20 #[.slice a6 n6 c6, .slice a k c] W fun e w' => e = .returned (.bool true) ∧ Below W.heap.size W w') := by
       intro a k c W hk hs hb
       have := same.same_any a6 a c6 c vs vs W (Lib.hid (strs_below HS6.out hb)) (Lib.hid hs) (by omega)
       rw [← hk.out, decide_eq_true rfl] at this
       rw [hn6.out, ← hk.out]
       exact this
      have HLK : Hid (∀ W, Below w6.heap.size w6 W → Calls Tryz.prog 22 #[.agg #[.string nm, .int .i64 syn, .bool sg], .slice a6 n6 c6, .string x] W fun e w' => e = .returned (.int .i64 (likeI syn vs x)) ∧ Below W.heap.size W w') := fun W h => by
       have := rlike_any nm syn sg a6 c6 vs x W (Lib.hid (strs_below HS6.out h)) (by omega) (Lib.hid fun y hy => by have := HVL2.out y hy; omega) (by omega)
       rw [← hn6.out] at this
       exact this
      generalize likeI syn vs x = lk at HHA HLK
      have HKEEP : Hid (∀ W W' : World, Below W.heap.size W W' → (W.cell? ⟨w.heap.size, 0, none⟩ = some (.slice ro Nr rc) ∧ W.cell? ⟨w.heap.size, 1, none⟩ = some (.slice ao N ac) ∧ W.cell? ⟨tb, 0, none⟩ = some (.string nm) ∧ W.cell? ⟨tb, 1, none⟩ = some (.int .i64 syn) ∧ W.cell? ⟨tb, 2, none⟩ = some (.bool sg)) → (W'.cell? ⟨w.heap.size, 0, none⟩ = some (.slice ro Nr rc) ∧ W'.cell? ⟨w.heap.size, 1, none⟩ = some (.slice ao N ac) ∧ W'.cell? ⟨tb, 0, none⟩ = some (.string nm) ∧ W'.cell? ⟨tb, 1, none⟩ = some (.int .i64 syn) ∧ W'.cell? ⟨tb, 2, none⟩ = some (.bool sg))) := fun W W' hb ⟨h0, h1, h2, h3, h4⟩ =>
       ⟨(hb.cell (World.block_lt_of_cell? W _ h0)).trans h0, (hb.cell (World.block_lt_of_cell? W _ h1)).trans h1, (hb.cell (World.block_lt_of_cell? W _ h2)).trans h2, (hb.cell (World.block_lt_of_cell? W _ h3)).trans h3, (hb.cell (World.block_lt_of_cell? W _ h4)).trans h4⟩
      clear hvl1
      go_wp2_with fail
      refine wp_region_held_drew (S := fun W => W.cell? ⟨w.heap.size, 0, none⟩ = some (.slice ro Nr rc) ∧ W.cell? ⟨w.heap.size, 1, none⟩ = some (.slice ao N ac) ∧ W.cell? ⟨tb, 0, none⟩ = some (.string nm) ∧ W.cell? ⟨tb, 1, none⟩ = some (.int .i64 syn) ∧ W.cell? ⟨tb, 2, none⟩ = some (.bool sg)) (by kernel_rfl) ⟨z0, z1, y0, y1, y2⟩ (fun hHeld => ?_)
      refine tk 0 ⟨some 51,_,_,_,_,_⟩ rfl ?_
      refine tk 1 ⟨some 52,_,_,_,_,_⟩ rfl ?_
      refine tk 2 ⟨some 53,_,_,_,_,_⟩ rfl ?_
      refine tk 3 ⟨some 54,_,_,_,_,_⟩ rfl ?_
      refine wpAnyH_ready (rs := [4]) (by kernel_rfl) (by simp) ?_
      refine AllReadyH.cons (o := ⟨some 55, _, _, _, _, _⟩) rfl (fun K hK => ?_) AllReadyH.nil
      go_simp
      go_at_call 21; refine (HRV.out _ (Below.refl w6.heap.size w6).drew).mono ?_; rintro e w7 ⟨x7, rfl, hx7, hB7⟩; obtain ⟨a7, n7, c7, rfl, hn7, hc7, hs7⟩ := elem_form hx7
      refine hK.out _ _ (HKEEP.out _ _ hB7 hHeld) (fun hHeld => ?_)
      clear hK
      try simp only [Act.put, List.setIfInBounds_toArray, List.set_cons_zero, List.set_cons_succ]
      refine wpAnyH_ready (rs := [5]) (by kernel_rfl) (by simp) ?_
      refine AllReadyH.cons (o := ⟨some 56, _, _, _, _, _⟩) rfl (fun K hK => ?_) AllReadyH.nil
      go_simp
      go_at_call 20; refine (HSM.out a7 n7 c7 _ hn7 hs7 ((Below.refl w6.heap.size w6).drew.trans hB7)).mono ?_; rintro e w8 ⟨rfl, hB8⟩
      refine hK.out _ _ (HKEEP.out _ _ hB8 hHeld) (fun hHeld => ?_)
      clear hK
      try simp only [Act.put, List.setIfInBounds_toArray, List.set_cons_zero, List.set_cons_succ]
      refine tk 6 ⟨some 57,_,_,_,_,_⟩ rfl ?_
      refine tk 7 ⟨some 58,_,_,_,_,_⟩ rfl ?_
      refine tk 8 ⟨some 59,_,_,_,_,_⟩ rfl ?_
      refine tk 9 ⟨some 60,_,_,_,_,_⟩ rfl ?_
      refine tk 11 ⟨some 62,_,_,_,_,_⟩ rfl ?_
      refine tk 12 ⟨some 63,_,_,_,_,_⟩ rfl ?_
      refine tk 13 ⟨some 64,_,_,_,_,_⟩ rfl ?_
      refine wpAnyH_ready (rs := [10]) (by kernel_rfl) (by simp) ?_
      refine AllReadyH.cons (o := ⟨some 61, _, _, _, _, _⟩) rfl (fun K hK => ?_) AllReadyH.nil
      go_simp
      go_at_call 19; refine (HHA.out _ (((Below.refl w6.heap.size w6).drew.trans hB7).trans (hB8.mono hB7.size))).mono ?_; rintro e w9 ⟨rfl, hB9⟩
      refine hK.out _ _ (HKEEP.out _ _ hB9 hHeld) (fun hHeld => ?_)
      clear hK
      try simp only [Act.put, List.setIfInBounds_toArray, List.set_cons_zero, List.set_cons_succ]
      refine wpAnyH_ready (rs := [14]) (by kernel_rfl) (by simp) ?_
      refine AllReadyH.cons (o := ⟨some 65, _, _, _, _, _⟩) rfl (fun K hK => ?_) AllReadyH.nil
      go_simp
      go_at_call 22; refine (HLK.out _ ((((Below.refl w6.heap.size w6).drew.trans hB7).trans (hB8.mono hB7.size)).trans (hB9.mono (((Below.refl w6.heap.size w6).drew.trans hB7).trans (hB8.mono hB7.size)).size))).mono ?_; rintro e w10 ⟨rfl, hB10⟩
      refine hK.out _ _ (HKEEP.out _ _ hB10 hHeld) (fun hHeld => ?_)
      clear hK
      try simp only [Act.put, List.setIfInBounds_toArray, List.set_cons_zero, List.set_cons_succ]
      refine tk 15 ⟨some 66,_,_,_,_,_⟩ rfl ?_
      refine tk 16 ⟨some 67,_,_,_,_,_⟩ rfl ?_
      refine tk 17 ⟨some 68,_,_,_,_,_⟩ rfl ?_
      refine tk 18 ⟨some 6,_,_,_,_,_⟩ rfl ?_
      refine wpAnyH_done (by kernel_rfl) ?_ _
      have HBE := Lib.hid (HB6.out.trans (((((Below.refl w6.heap.size w6).drew.trans hB7).trans (hB8.mono hB7.size)).trans ((hB9.trans (hB10.mono hB9.size)).mono (((Below.refl w6.heap.size w6).drew.trans hB7).trans (hB8.mono hB7.size)).size)).mono HB6.out.size))
      clear hHeld hB7 hB8 hB9 hB10 hx7 hs7
      go_wp2_with fail
      go_ret
      exact ⟨rfl, HBE.out⟩
     | false =>
      rw [hr, if_neg (by decide)] at hvx
      rw [hr, Bool.false_and] at hhx
      rw [hvx] at hn6
      rw [hhx] at HHA2
      have h60 : n6 = 0 := hn6.out
      subst h60
      have HHA := HHA2
      clear hvx hhx hr HVL HOK HHA2 HRV1 HS6
      go_wp2_with fail
      refine (HHA.out _ (Below.refl w6.heap.size w6)).mono ?_
      rintro e w9 ⟨rfl, hB9⟩
      have HBE := Lib.hid (HB6.out.trans (hB9.mono HB6.out.size))
      clear hB9 z0 z1 y0 y1 y2
      go_wp2_with fail
      go_ret
      exact ⟨rfl, HBE.out⟩
    ·subst hok
     rw [hvx] at hn6
     rw [hhx] at HHA2
     have h60 : n6 = 0 := hn6.out
     subst h60
     have HHA := HHA2
     clear hvx hhx HVL HOK HHA2 HRV1 HS6
     go_wp2_with fail
     refine (HHA.out _ (Below.refl w6.heap.size w6)).mono ?_
     rintro e w9 ⟨rfl, hB9⟩
     have HBE := Lib.hid (HB6.out.trans (hB9.mono HB6.out.size))
     clear hB9 z0 z1 y0 y1 y2
     go_wp2_with fail
     go_ret
     exact ⟨rfl, HBE.out⟩
end etw
end Go.Proofs.YtcolcogobdgejaaGreatDoor
/-! EntryAsks -/
namespace Go.Proofs.YtcolcogobdgejaaGreatDoor.entryAsks
open Go.ChangeShapes Go.WideShapes Go.ChangeAt Go.RowKit
open Go.ChangeMaps (open_string shut_string)
set_option linter.unusedVariables false
theorem own : ownKnob Tryz.prog.godebug = none := by kernel_rfl
theorem laidOut : laidOutB Tryz.prog = true := by kernel_rfl
theorem u8x : U8Extra Tryz.prog Tryz.lays260_ren where
 n3 := by kernel_rfl
 n4 := by kernel_rfl
 y3 := by kernel_rfl
 y4 := by kernel_rfl
 c5 := by kernel_rfl
 c119 := by kernel_rfl
 c138 := by kernel_rfl
theorem accEq : (Rows.laid_unicode_utf8_acceptRanges : DataW Unit) = Lib.acceptData := by kernel_rfl
theorem tyEq : (Rows.laid_rollbook_attr_types : DataW Unit) = atw.tyData := by kernel_rfl
theorem tabs {W : World} (h : laidMetH Tryz.prog Rows.entryAsksRow.laid W) : Hid (dnw.Tabs W) :=
 utf8Tabs_of_reads Tryz.lays260 u8x (by have := Lib.laidMet.reads h (n := "unicode/utf8.first") (d := Rows.laid_unicode_utf8_first) (by simp [Rows.entryAsksRow]); rw [show Rows.laid_unicode_utf8_first = Lib.firstData from Pinned.utf8First_eq] at this; exact this) (by have := Lib.laidMet.reads h (n := "unicode/utf8.acceptRanges") (d := Rows.laid_unicode_utf8_acceptRanges) (by simp [Rows.entryAsksRow]); rw [accEq] at this; exact this)
theorem env {W : World} (hsh : W.ShapedOpen Tryz.prog) : Hid (prw.Env W) := Tryz.laysM146.s1_3 W hsh
theorem typ {W : World} (h : laidMetH Tryz.prog Rows.entryAsksRow.laid W) : Hid (atw.TyEnv W) :=
 atw.tyEnv_of_reads (by have := Lib.laidMet.reads h (n := "rollbook/attr.types") (d := Rows.laid_rollbook_attr_types) (by simp [Rows.entryAsksRow]); rw [tyEq] at this; exact this)
theorem envE {W : World} (hsh : W.ShapedOpen Tryz.prog) (h : laidMetH Tryz.prog Rows.entryAsksRow.laid W) : Hid (etw.EnvE W) := Lib.hid ⟨(env hsh).out, (tabs h).out, (typ h).out⟩
set_option maxRecDepth 100000 in
theorem contract (H : Type) (enc : TypeId × Value → H) (W : World) (base : Nat) (args : Array Value) (ds gs : List (DataW H)) (before : List MemPlace)
  (hval : ∀ (j : Nat) t v, Tryz.f3.params[j]? = some t → args[j]? = some v → Value.okWide Tryz.prog W .any base t v)
  (hW : DataW.Whole enc Tryz.prog Tryz.f3.params.toList Rows.entryAsksSpec.vars false W args.toList ds gs before)
  (hsz0 : (DataW.weightsEach Tryz.prog (Tryz.f3.params.toList ++ Rows.entryAsksSpec.plain.varTypes Tryz.prog) (ds ++ gs)).all (· ≤ reachBytes) = true)
  (hL : laidMetH Tryz.prog Rows.entryAsksRow.laid W) (hsh : W.ShapedOpen Tryz.prog) :
  Calls Tryz.prog 3 args W fun e W' => ∃ v, e = .returned v ∧ Rows.entryAsksSpec.post enc Tryz.prog Tryz.f3 false true false false W args v W' := by
 have hW' := hW
 obtain ⟨p, q, hA0, hV, rfl, hfz, hnd⟩ := hW
 have hA : DataW.TrodAll enc Tryz.prog W 0 (fun _ => true) true Tryz.f3.params.toList args.toList ds p := hA0
 have hsz := hsz0
 rw [Tryz.params3] at hA hval hsz
 obtain ⟨v0, vs0, d0, ds0, p0, q0, hargs, rfl, rfl, h0, r0⟩ := trodAll_cons hA
 obtain ⟨v1, vs1, d1, ds1, p1, q1, rfl, rfl, rfl, h1, r1⟩ := trodAll_cons r0
 obtain ⟨v2, vs2, d2, ds2, p2, q2, rfl, rfl, rfl, h2, r2⟩ := trodAll_cons r1
 obtain ⟨rfl, rfl, rfl⟩ := trodAll_nil r2
 obtain rfl : args = #[v0, v1, v2] := by cases args; simp_all
 obtain ⟨rfl, rfl⟩ := trodVars_none hV
 have k0 := h0
 have lt0 : ∀ x ∈ p0, x.block < W.heap.size := by obtain ⟨m, hm⟩ := k0; exact DataW.trod_lt m _ _ _ hm
 have k1 := h1
 have lt1 : ∀ x ∈ p1, x.block < W.heap.size := by obtain ⟨m, hm⟩ := k1; exact DataW.trod_lt m _ _ _ hm
 have k2 := h2
 have lt2 : ∀ x ∈ p2, x.block < W.heap.size := by obtain ⟨m, hm⟩ := k2; exact DataW.trod_lt m _ _ _ hm
 obtain ⟨E0, hE0, hr0, ha0, hv0⟩ := etw.ent_of (hval 0 25 v0 rfl rfl) h0
 obtain ⟨a1, rfl, rfl, rfl, ws1⟩ := open_string Tryz.underlying9 (hval 1 9 v1 rfl rfl) h1
 have ha1 : a1.size ≤ 140737488351232 := by
  have := sized_string hsz (j := 1) (t := 9) rfl rfl
  simpa [reachBytes] using this
 obtain ⟨a2, rfl, rfl, rfl, ws2⟩ := open_string Tryz.underlying9 (hval 2 9 v2 rfl rfl) h2
 have ha2 : a2.size ≤ 140737488351232 := by
  have := sized_string hsz (j := 2) (t := 9) rfl rfl
  simpa [reachBytes] using this
 clear hA0
 simp only [List.append_nil] at hW'
 have walk : Calls Tryz.prog 3 #[v0, .string a1, .string a2] W fun e w' => e = .returned (.bool true) ∧ Below W.heap.size W w' := by
  exact etw.asks_law v0 E0 a1 a2 W (Lib.hid hE0) (envE hsh hL)
 refine walk.mono fun e W' ⟨he, hb⟩ => ?_
 subst he
 exact ⟨_, rfl, _, _, _, [], _, [], hW', trodAll_cons_mk (shut_bool Tryz.underlying4 _) trodAll_mk0, (trodAll_cons_mk (Below.trod laidOut (by kernel_rfl) (of_decide_eq_true (by kernel_rfl)) k0 hb lt0) (trodAll_cons_mk (Below.trod laidOut (by kernel_rfl) (of_decide_eq_true (by kernel_rfl)) k1 hb lt1) (trodAll_cons_mk (Below.trod laidOut (by kernel_rfl) (of_decide_eq_true (by kernel_rfl)) k2 hb lt2) trodAll_mk0))), rfl, hb.frame _, fun h => by cases h⟩
theorem laid_met (os : Os) : laidMet Tryz.prog Rows.entryAsksRow.laid ((World.laidAll Tryz.prog os Rows.entryAsksRow.laid).forCall (fun _ _ => 0) ⟨#[], #[.agg #[.slice none 0 0, .slice none 0 0], .string ByteArray.empty, .string ByteArray.empty], []⟩).memory :=
 laidMet_laidAll _ (by kernel_rfl) (by kernel_rfl)
theorem reads (os : Os) {H : Type} (enc : TypeId × Value → H) : ∃ places, DataW.whole enc Tryz.prog ((World.laidAll Tryz.prog os Rows.entryAsksRow.laid).forCall (fun _ _ => 0) ⟨#[], #[.agg #[.slice none 0 0, .slice none 0 0], .string ByteArray.empty, .string ByteArray.empty], []⟩).memory Tryz.f3.params.toList Rows.entryAsksSpec.vars false (#[.agg #[.slice none 0 0, .slice none 0 0], .string ByteArray.empty, .string ByteArray.empty] : Array Value).toList 8 = some ([.agg [.nil, .nil], .lit (.string []), .lit (.string [])], [], places) :=
 ⟨[], by kernel_rfl⟩
set_option maxRecDepth 100000 in
theorem lifted (os : Os) (started : os.Started) (H : Type) (enc : TypeId × Value → H) (F : Stop.Interp) :
  ReturnsInHanded {} Tryz.checked os 3 .any ((OpenSpec.ofChange Rows.entryAsksSpec).preRow enc Tryz.prog Tryz.f3 Rows.entryAsksRow.domain false Rows.entryAsksRow.laid) (((OpenSpec.ofChange Rows.entryAsksSpec).at F).post enc Tryz.prog Tryz.f3 false true false false) := by
 obtain ⟨places, hx⟩ := reads os enc
 refine returnsInHanded_of_row (C := Tryz.checked) (s := (OpenSpec.ofChange Rows.entryAsksSpec)) own started (by kernel_rfl) Tryz.func3
  (witness_row_at (enc := enc) (C := Tryz.checked) false (World.laidAll Tryz.prog os Rows.entryAsksRow.laid) #[.agg #[.slice none 0 0, .slice none 0 0], .string ByteArray.empty, .string ByteArray.empty] (World.laidAll_os _ _ _) (by kernel_rfl) (by kernel_rfl) (by kernel_rfl)
   (OpenSpec.preRow_of_cond 8 hx (by kernel_rfl) (fun k hk => by cases hk) (by kernel_rfl) (laid_met os))) ?_
 intro W base args ds gs before hval hW _ _ hsz hL hsh _
 exact contract H enc W base args ds gs before hval hW hsz hL hsh
theorem band {a b : Bool} (h1 : a = true) (h2 : b = true) : (a && b) = true := by rw [h1, h2]; rfl
set_option maxRecDepth 100000 in
theorem k0 : (Rows.entryAsksRow.wf (OpenSpec.ofChange (OpenSpec.ofChange Rows.entryAsksSpec).bare)) = true := by kernel_rfl
set_option maxRecDepth 100000 in
theorem k1 : (laidOutB Tryz.pinned.checked.prog) = true := by kernel_rfl
set_option maxRecDepth 100000 in
theorem k2 : (mapsRowed Tryz.pinned.checked.prog) = true := by kernel_rfl
set_option maxRecDepth 100000 in
theorem k3 : (Tryz.f3.params.all (Tryz.pinned.checked.prog.readableRec ·)) = true := by kernel_rfl
set_option maxRecDepth 100000 in
theorem k4 : (namedTie Tryz.pinned.checked.prog Rows.entryAsksRow.named (OpenSpec.ofChange Rows.entryAsksSpec).bare.vars) = true := by kernel_rfl
set_option maxRecDepth 100000 in
theorem k5 : ((Rows.entryAsksRow.stops == [])) = true := by kernel_rfl
set_option maxRecDepth 100000 in
theorem k6 : ((Tryz.pinned.checked.prog.stops == [])) = true := by kernel_rfl
set_option maxRecDepth 100000 in
theorem k7 : ((Rows.entryAsksRow.knobs == [])) = true := by kernel_rfl
set_option maxRecDepth 100000 in
theorem k8 : ((Tryz.pinned.checked.prog.stopKnobs == [])) = true := by kernel_rfl
set_option maxRecDepth 100000 in
theorem k9 : ((Rows.entryAsksRow.inPlace == Tryz.pinned.checked.prog.inPlace 3)) = true := by kernel_rfl
set_option maxRecDepth 100000 in
theorem k10 : ((Rows.entryAsksRow.unfollowed == Tryz.pinned.checked.prog.unfollowed 3)) = true := by kernel_rfl
set_option maxRecDepth 100000 in
theorem k11 : ((Rows.entryAsksRow.recurses == Tryz.pinned.checked.prog.recurses 3)) = true := by kernel_rfl
set_option maxRecDepth 100000 in
theorem k12 : ((Rows.entryAsksRow.named == Tryz.pinned.checked.prog.varsNamed 3)) = true := by kernel_rfl
set_option maxRecDepth 100000 in
theorem k13 : ((Rows.entryAsksRow.maps == (Tryz.f3.params.toList ++ (OpenSpec.ofChange Rows.entryAsksSpec).bare.plain.varTypes Tryz.pinned.checked.prog).any (Tryz.pinned.checked.prog.mapsRec ·))) = true := by kernel_rfl
set_option maxRecDepth 100000 in
theorem k14 : ((Rows.entryAsksRow.ifaces == (Tryz.f3.params.toList ++ (OpenSpec.ofChange Rows.entryAsksSpec).bare.plain.varTypes Tryz.pinned.checked.prog).any (Tryz.pinned.checked.prog.ifacesRec ·))) = true := by kernel_rfl
set_option maxRecDepth 100000 in
theorem k15 : ((Rows.entryAsksRow.mapsOut == Tryz.pinned.checked.prog.mapsAmong Tryz.f3.resultTypes.toList)) = true := by kernel_rfl
set_option maxRecDepth 100000 in
theorem k16 : ((Rows.entryAsksRow.loops == (Tryz.f3.params.toList ++ (OpenSpec.ofChange Rows.entryAsksSpec).bare.plain.varTypes Tryz.pinned.checked.prog).any (Tryz.pinned.checked.prog.loopsFrom ·))) = true := by kernel_rfl
set_option maxRecDepth 100000 in
theorem k17 : ((Rows.entryAsksRow.wideKeys == (Tryz.f3.params.toList ++ (OpenSpec.ofChange Rows.entryAsksSpec).bare.plain.varTypes Tryz.pinned.checked.prog ++ Tryz.f3.resultTypes.toList).any (Tryz.pinned.checked.prog.wideKeysFrom ·))) = true := by kernel_rfl
set_option maxRecDepth 100000 in
theorem k18 : ((OpenSpec.ofChange Rows.entryAsksSpec).bare.vars.all (Tryz.pinned.checked.prog.varReadable ·)) = true := by kernel_rfl
set_option maxRecDepth 100000 in
theorem k19 : (Tryz.f3.resultTypes.all (fun t => Tryz.pinned.checked.prog.readableRec t && decide (t < Tryz.pinned.checked.prog.types.size))) = true := by kernel_rfl
set_option maxRecDepth 100000 in
theorem k20 : ((Rows.entryAsksRow.ifacesOut == Tryz.f3.resultTypes.toList.any (Tryz.pinned.checked.prog.ifacesRec ·))) = true := by kernel_rfl
set_option maxRecDepth 100000 in
theorem k21 : ((Rows.entryAsksRow.loopsOut == Tryz.f3.resultTypes.toList.any (Tryz.pinned.checked.prog.loopsFrom ·))) = true := by kernel_rfl
set_option maxRecDepth 100000 in
theorem k22 : ((Rows.entryAsksRow.plainKeys == Tryz.pinned.checked.prog.plainKeys)) = true := by kernel_rfl
set_option maxRecDepth 100000 in
theorem k23 : (Rows.entryAsksRow.shortTexts.isNone) = true := by kernel_rfl
set_option maxRecDepth 100000 in
theorem k24 : (Tryz.pinned.checked.prog.stopsHeard) = true := by kernel_rfl
set_option maxRecDepth 100000 in
theorem k25 : (Tryz.pinned.checked.prog.mayEnter) = true := by kernel_rfl
set_option maxRecDepth 100000 in
theorem k26 : ((Rows.entryAsksRow.lifted == Tryz.pinned.checked.prog.liftsFinal)) = true := by kernel_rfl
set_option maxRecDepth 100000 in
theorem k27 : ((Tryz.pinned.checked.prog.make == some Rows.entryAsksRow.make)) = true := by kernel_rfl
set_option maxRecDepth 100000 in
theorem k28 : ((Rows.entryAsksRow.kinds == (if Rows.entryAsksRow.domain.isEmpty then [] else Tryz.f3.params.toList.map fun t => match Tryz.pinned.checked.prog.underlying t with | some (.int k) => some k | _ => none))) = true := by kernel_rfl
set_option maxRecDepth 100000 in
theorem k29 : ((Rows.entryAsksRow.pinned == Rows.entryAsksRow.pinnedBy)) = true := by kernel_rfl
set_option maxRecDepth 100000 in
theorem k30 : ((Rows.entryAsksRow.veiled == (Tryz.f3.params.toList ++ (OpenSpec.ofChange Rows.entryAsksSpec).bare.plain.varTypes Tryz.pinned.checked.prog ++ Tryz.f3.resultTypes.toList).any (Tryz.pinned.checked.prog.veiledRec ·))) = true := by kernel_rfl
set_option maxRecDepth 100000 in
theorem k31 : (Rows.entryAsksRow.veiledFits Tryz.pinned.checked.prog Tryz.f3.params.toList (Tryz.f3.params.toList ++ (OpenSpec.ofChange Rows.entryAsksSpec).bare.plain.varTypes Tryz.pinned.checked.prog ++ Tryz.f3.resultTypes.toList)) = true := by kernel_rfl
set_option maxRecDepth 100000 in
theorem joined : joinedFacts Tryz.pinned.checked.prog 3 Tryz.f3 (OpenSpec.ofChange Rows.entryAsksSpec).bare Rows.entryAsksRow = true := by
 unfold joinedFacts
 exact (band (band (band (band (band (band (band (band (band (band (band (band (band (band (band (band (band (band (band (band (band (band (band (band (band (band (band (band (band (band (band k0 k1) k2) k3) k4) k5) k6) k7) k8) k9) k10) k11) k12) k13) k14) k15) k16) k17) k18) k19) k20) k21) k22) k23) k24) k25) k26) k27) k28) k29) k30) k31)
theorem named : Tryz.pinned.checked.prog.funcNamed Rows.entryAsksRow.func = some 3 := by kernel_rfl
set_option maxRecDepth 100000 in
theorem inst : Tryz.f3.isInstance Tryz.pinned.checked.prog Rows.entryAsksRow.origin Rows.entryAsksRow.targs := of_decide_eq_true (by kernel_rfl)
set_option maxRecDepth 100000 in
theorem wrap : Tryz.f3.isWrapper Tryz.pinned.checked.prog Rows.entryAsksRow.wrapper Rows.entryAsksRow.mainSum := by unfold Func.isWrapper; first | (rw [if_pos (by decide +kernel)]; kernel_rfl) | (rw [if_neg (by decide +kernel)]; exact ⟨rfl, rfl⟩)
theorem said : Rows.EntryAsksSaid :=
 OpenClaim.holds_of_cond 3 Tryz.f3 rfl rfl rfl rfl rfl rfl rfl ⟨rfl, rfl, rfl, rfl, rfl⟩ rfl rfl rfl rfl rfl named Tryz.func3 joined inst wrap
  (fun os started H enc _ F => by rw [OpenClaim.pre_eq_preRow]; exact lifted os started H enc F)
theorem plain (f : FuncId) (fn : Func) (hf : Tryz.pinned.checked.prog.funcNamed "rollbook/rollbooklaw17.EntryAsks" = some f) (hfn : Tryz.pinned.checked.prog.funcs[f]? = some fn) :
  false = Tryz.pinned.checked.prog.looks [] ∧ ∀ (j : Nat) t, fn.params[j]? = some t → Tryz.pinned.checked.prog.wantsStandIn t = false := by
 obtain rfl : f = 3 := Option.some.inj ((show Tryz.prog.funcNamed "rollbook/rollbooklaw17.EntryAsks" = some 3 by kernel_rfl).symm.trans hf) |>.symm
 obtain rfl : fn = Tryz.f3 := (Option.some.inj (Tryz.func3.symm.trans hfn)).symm
 refine ⟨by kernel_rfl, fun j t ht => ?_⟩
 rw [Tryz.params3] at ht
 have hm : t ∈ [25, 9, 9] := by simpa using Array.mem_of_getElem? ht
 have hall : ([25, 9, 9].all fun u => !Tryz.prog.wantsStandIn u) = true := by kernel_rfl
 exact (show Tryz.prog.wantsStandIn t = false by simpa using List.all_eq_true.1 hall t hm)
theorem proved : Rows.EntryAsksCardSaid :=
 Claim7.holds_tied_plain_at .later [] _ _ _ _ said (fun _ h => by cases h) (by kernel_rfl) (fun _ h => by cases h) entryAsks_row_tie rfl ⟨rfl, rfl⟩ (by kernel_rfl) rfl plain (by kernel_rfl)
#print axioms proved
end Go.Proofs.YtcolcogobdgejaaGreatDoor.entryAsks
