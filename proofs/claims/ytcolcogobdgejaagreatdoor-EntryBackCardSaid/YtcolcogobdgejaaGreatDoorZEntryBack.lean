/- THE STATEMENT 'EntryBack': whatever the input, the law returns true and leaves its input as it was. Conditions: those of the row alone (its listed variables are tied to the program's text by the given tie). -/
import Derived.Test.YtcolcogobdgejaaGreatDoorB1
import Derived.Test.YtcolcogobdgejaaGreatDoorB11
import Derived.Test.YtcolcogobdgejaaGreatDoorZRem
import Derived.Test.YtcolcogobdgejaaGreatDoorB12
import Derived.Test.YtcolcogobdgejaaGreatDoorCards
import Derived.Test.YtcolcogobdgejaaGreatDoorTie
import Derived.Lay
import Derived.Lib.LaidU8
import Derived.Lib.SmallJoins
import Derived.PinnedBridge
import Derived.WalkKit
import Derived.ProofKit
import Derived.OpenShut
import Derived.ChangeOld
import Derived.Below
import Derived.SizedLaws
import Derived.LaidMore
import Derived.Deep.DeepHandedRow
import Derived.Deep.DeepWitnessRowRef
import Derived.Lib.LaidTab
/-! BackW -/
namespace Go.Proofs.YtcolcogobdgejaaGreatDoor
open Go.RowKit
namespace etw
open atp atw etp
open dnw (Av Avas)
open tupw (Strs strs_below)
set_option linter.unusedVariables false
set_option linter.unusedSimpArgs false
theorem add_err {e : En} {n : List UInt8} {l : List ByteArray} {f : Int} (h : addE e n l = .error f) : f ≠ 0 := by
 unfold addE at h
 cases hf : findE e n with
 | error g => rw [hf] at h; cases h; exact find_err hf
 | ok ty =>
  rw [hf] at h
  simp only at h
  split at h
  ·cases h; decide
  ·split at h
   ·rename_i hfa
    cases h
    exact hfa
   ·split at h
    ·cases h; decide
    ·split at h
     ·cases h; decide
     ·cases h
set_option maxRecDepth 20000 in
set_option maxHeartbeats 8000000 in
theorem back_law (v : Value) (E : En) (n : ByteArray) (bo : Option Addr) (bcap : Nat) (l : List ByteArray) (w : World) (hv : Hid (EntV w v E)) (hS : Hid (Strs w bo l)) (hlc : l.length ≤ bcap) (hE : Hid (EnvE w)) :
  Calls Tryz.prog 4 #[v, .string n, .slice bo l.length bcap] w fun e w' => e = .returned (.bool true) ∧ Below w.heap.size w w' := by
 have HLO0 : Hid (∀ W, Below w.heap.size w W → Calls Tryz.prog 15 #[v] W fun e w' => e = .returned (.bool (longE E)) ∧ Below W.heap.size W w') := fun W h => longE_any v E W (Lib.hid (entV_below hv.out h))
 have HLL0 : Hid (∀ W, Below w.heap.size w W → Calls Tryz.prog 23 #[.slice bo l.length bcap] W fun e w' => e = .returned (.bool (longL l)) ∧ W = w') := fun W h => longL_any bo bcap l W (Lib.hid (strs_below hS.out h))
 have HAD0 : Hid (Bk 1000 E → n.size ≤ 600 → l.length ≤ 50 → (∀ x ∈ l, x.size ≤ 1200) → ∀ W, Below w.heap.size w W → Calls Tryz.prog 24 #[v, .string n, .slice bo l.length bcap] W fun e w' => ResE (addE E n.data.toList l) W e w') := fun hb hn h1 h2 W h => add_any v E n bo bcap l W (Lib.hid (entV_below hv.out h)) (Lib.hid hb) (Lib.hid (strs_below hS.out h)) h1 hlc (Lib.hid h2) (by omega) (Lib.hid (envE_below hE.out h))
 have HHE0 : Hid (Bd E → n.size ≤ 600 → ∀ x : ByteArray, x.size ≤ 1200 → ∀ W, Below w.heap.size w W → Calls Tryz.prog 19 #[v, .string n, .string x] W fun e w' => e = .returned (.bool (hasE E n.data.toList x)) ∧ Below W.heap.size W w') := fun hb hn x hx W h => has_any v E n x W (Lib.hid (entV_below hv.out h)) (Lib.hid hb) (by omega) (by omega) (Lib.hid (envE_below hE.out h))
 have HSA0 : Hid (Bd E → ∀ u W, EntV W u E → Below w.heap.size w W → Calls Tryz.prog 27 #[u, v] W fun e w' => e = .returned (.bool true) ∧ Below W.heap.size W w') := fun hb u W hu h => same17_eq u v E W (Lib.hid hu) (Lib.hid (entV_below hv.out h)) (Lib.hid hb)
 obtain ⟨ro, rc, ao, ac, Nr, N, rfl, HN, HA, hac, HNr, HAv, hrc⟩ := ent_form hv.out
 obtain ⟨W0, hW0⟩ : ∃ W, w.alloc (.cells #[.slice ro Nr rc, .slice ao N ac] 25) = W := ⟨_, rfl⟩
 have hB0 : Below w.heap.size w W0 := by rw [← hW0]; exact (Below.refl _ _).alloc (Nat.le_refl _) _
 have HT0 : Hid (EntB W0 w.heap.size (.slice ro Nr rc) (.slice ao N ac)) := by rw [← hW0]; exact entB_new _ _ _
 have HB0 := Lib.hid hB0
 have HAW := Lib.hid (eawake_any W0 (Lib.hid (envE_below hE.out hB0)))
 obtain ⟨K, hK⟩ : ∃ K, l.length = K := ⟨_, rfl⟩
 rw [hK] at HLL0 hlc ⊢
 have HAD1 : Hid (Bk 1000 E → n.size ≤ 600 → l.length ≤ 50 → (∀ x ∈ l, x.size ≤ 1200) → ∀ W, Below w.heap.size w W → Calls Tryz.prog 24 #[.agg #[.slice ro Nr rc, .slice ao N ac], .string n, .slice bo K bcap] W fun e w' => ResE (addE E n.data.toList l) W e w') := by
  intro a1 a2 a3 a4 W h
  have := HAD0.out a1 a2 a3 a4 W h
  rw [hK] at this
  exact this
 have HK := Lib.hid hK
 clear hB0 hv hK HAD0
 go_enter Tryz.func4, Tryz.ntmps4
 go_wp2_with fail
 refine HAW.out.mono ?_
 rintro e w1 ⟨rfl, hB1⟩
 have HB1 := Lib.hid (HB0.out.trans (hB1.mono HB0.out.size))
 have HT1 := Lib.hid (entB_below HT0.out hB1)
 obtain ⟨k0, k1⟩ := entB_cells HT1.out
 have HLO := Lib.hid (HLO0.out w1 HB1.out)
 clear hB1 hW0 HAW HLO0
 cases hlo : longE E with
 | true =>
  rw [hlo] at HLO
  clear hlo
  go_wp2_with fail
  refine HLO.out.mono ?_
  rintro e w2 ⟨rfl, hB2⟩
  have HBE := Lib.hid (HB1.out.trans (hB2.mono HB1.out.size))
  clear hB2 k0 k1
  go_wp2_with fail
  go_ret
  exact ⟨rfl, HBE.out⟩
 | false =>
  rw [hlo] at HLO
  have hbk := longE_no hlo
  have HBK := Lib.hid hbk
  have HBD := Lib.hid (bk_bd hbk (by omega))
  clear hlo hbk
  by_cases hn : 600 < n.size
  ·have hn' : (600 : Int) < (n.size : Int) := by omega
   go_wp2_with fail
   refine HLO.out.mono ?_
   rintro e w2 ⟨rfl, hB2⟩
   have HBE := Lib.hid (HB1.out.trans (hB2.mono HB1.out.size))
   clear hB2 k0 k1
   go_wp2_with fail
   go_ret
   exact ⟨rfl, HBE.out⟩
  ·have hn' : ¬ (600 : Int) < (n.size : Int) := by omega
   go_wp2_with fail
   refine HLO.out.mono ?_
   rintro e w2 ⟨rfl, hB2⟩
   have HB2 := Lib.hid (HB1.out.trans (hB2.mono HB1.out.size))
   have HT2 := Lib.hid (entB_below HT1.out hB2)
   have HLL := Lib.hid (HLL0.out w2 HB2.out)
   clear hB2 k0 k1 HLO
   cases hll : longL l with
   | true =>
    rw [hll] at HLL
    clear hll
    go_wp2_with fail
    refine HLL.out.mono ?_
    rintro e w3 ⟨rfl, rfl⟩
    go_wp2_with fail
    go_ret
    exact ⟨rfl, HB2.out⟩
   | false =>
    rw [hll] at HLL
    have hlb := longL_no hll
    have hK40 : K ≤ 40 := by rw [← HK.out]; exact hlb.1
    have HLS := Lib.hid hlb.2
    have HAD := Lib.hid (HAD1.out (bk_le HBK.out (by omega)) (by omega) (by omega) (fun x hx => by have := HLS.out x hx; omega) w2 HB2.out)
    obtain ⟨k0, k1⟩ := entB_cells HT2.out
    clear hll hlb HAD1 HLL0
    go_wp2_with fail
    refine HLL.out.mono ?_
    rintro e w3 ⟨rfl, rfl⟩
    clear HLL
    go_wp2_with fail
    refine HAD.out.mono ?_
    rintro e w3 ⟨hB3, hres⟩
    have HB3 := Lib.hid (HB2.out.trans (hB3.mono HB2.out.size))
    have HT3 := Lib.hid (entB_below HT2.out hB3)
    clear hB3 k0 k1 HAD
    cases hadd : addE E n.data.toList l with
    | error f =>
     rw [hadd] at hres
     have hres2 : e = .returned (.tuple #[.agg #[.slice none 0 0, .slice none 0 0], .int .i64 f]) := hres
     have qf : (f != 0) = true := by rw [bne_iff_ne]; exact add_err hadd
     subst hres2
     have HBE : Hid (Below w.heap.size w (w3.alloc (.cells #[.slice none 0 0, .slice none 0 0] 25))) := HB3.out.trans (((Below.refl _ _).alloc (Nat.le_refl _) _).mono HB3.out.size)
     clear hres hadd
     go_wp2_with fail
     go_ret
     exact ⟨rfl, HBE.out⟩
    | ok A =>
     rw [hadd] at hres
     obtain ⟨vA, rfl, hvA⟩ := hres
     obtain ⟨hbr, hbri, hbh⟩ := back hadd
     have hbkA := bk_add HBK.out (fun v hv => by have := HLS.out v hv; omega) hadd
     obtain ⟨r1, n1, c1, r2, n2, c2, rfl⟩ := ent_agg hvA
     obtain ⟨w4, hw4⟩ : ∃ W, w3.alloc (.cells #[.slice r1 n1 c1, .slice r2 n2 c2] 25) = W := ⟨_, rfl⟩
     have hB4 : Below w3.heap.size w3 w4 := by rw [← hw4]; exact (Below.refl _ _).alloc (Nat.le_refl _) _
     obtain ⟨q, hqq⟩ : ∃ q, w3.heap.size = q := ⟨_, rfl⟩
     have HQ4 : Hid (EntB w4 q (.slice r1 n1 c1) (.slice r2 n2 c2)) := by rw [← hw4, ← hqq]; exact entB_new _ _ _
     have HB4 := Lib.hid (HB3.out.trans (hB4.mono HB3.out.size))
     have HT4 := Lib.hid (entB_below HT3.out hB4)
     have HVA := Lib.hid (entV_below hvA hB4)
     have hs4 := HB4.out.size
     have HHA0 : Hid (∀ x : ByteArray, x ∈ l → ∀ W, Below w4.heap.size w4 W → Calls Tryz.prog 19 #[.agg #[.slice r1 n1 c1, .slice r2 n2 c2], .string n, .string x] W fun e w' => e = .returned (.bool true) ∧ Below W.heap.size W w') := by
      intro x hx W h
      have := has_any _ A n x W (Lib.hid (entV_below HVA.out h)) (Lib.hid (bk_bd hbkA (by omega))) (by omega) (by have := HLS.out x hx; omega) (Lib.hid (envE_below hE.out (HB4.out.trans (h.mono hs4))))
      rw [(hbh x hx).1] at this
      exact this
     have HHE2 : Hid (∀ x : ByteArray, x ∈ l → ∀ W, Below w4.heap.size w4 W → Calls Tryz.prog 19 #[.agg #[.slice ro Nr rc, .slice ao N ac], .string n, .string x] W fun e w' => e = .returned (.bool false) ∧ Below W.heap.size W w') := by
      intro x hx W h
      have := HHE0.out HBD.out (by omega) x (by have := HLS.out x hx; omega) W (HB4.out.trans (h.mono hs4))
      rw [(hbh x hx).2] at this
      exact this
     have HRE0 : Hid (∀ W, Below w4.heap.size w4 W → Calls Tryz.prog 25 #[.agg #[.slice r1 n1 c1, .slice r2 n2 c2], .string n, .slice bo K bcap] W fun e w' => ResE (.ok E) W e w') := by
      intro W h
      have := remove_any _ A n bo bcap l W (Lib.hid (entV_below HVA.out h)) (Lib.hid (bk_le hbkA (by omega))) (Lib.hid (strs_below hS.out (HB4.out.trans (h.mono hs4)))) (by rw [HK.out]; omega) (by rw [HK.out]; exact hlc) (Lib.hid fun x hx => by have := HLS.out x hx; omega) (by omega) (Lib.hid (envE_below hE.out (HB4.out.trans (h.mono hs4))))
      rw [hbr, HK.out] at this
      exact this
     have HRI0 : Hid (∀ W, Below w4.heap.size w4 W → Calls Tryz.prog 26 #[.agg #[.slice r1 n1 c1, .slice r2 n2 c2]] W fun e w' => e = .returned (.bool true) ∧ Below W.heap.size W w') := by
      intro W h
      have := right_any _ A W (Lib.hid (entV_below HVA.out h)) (Lib.hid (bk_bd hbkA (by omega))) (Lib.hid (envE_below hE.out (HB4.out.trans (h.mono hs4))))
      rw [hbri] at this
      exact this
     have HSA1 := Lib.hid (HSA0.out HBD.out)
     clear hB4 hvA hbr hbri hbh hbkA hadd HHE0 HSA0 HVA HBK HBD HA HAv HN HNr
     go_wp2_with fail
     clear hw4 hqq
     go_loopw [9] (fun iv wr => ∃ i : Nat, i ≤ K ∧ iv = .int .i64 (i : Int) ∧ Hid (Below w4.heap.size w4 wr)) (fun iv _ => K - (intOf iv).toNat)
     case atStart => exact ⟨0, Nat.zero_le _, rfl, Below.refl _ _⟩
     case round =>
      obtain ⟨i, hi, rfl, hBr⟩ := hrel
      have HBr := Lib.hid (HB4.out.trans (hBr.out.mono hs4))
      obtain ⟨z0, z1⟩ := entB_cells (entB_below HT4.out hBr.out)
      obtain ⟨u0, u1⟩ := entB_cells (entB_below HQ4.out hBr.out)
      by_cases hlt : i < K
      ·have hltI : (i : Int) < (K : Int) := by omega
       have hil : i < l.length := by rw [HK.out]; exact hlt
       obtain ⟨b, o, hbo, x0⟩ := (strs_below hS.out HBr.out) i hil
       have hbo' := Lib.hid hbo
       have hxm := List.getElem_mem hil
       have HHA1 : Hid (∀ W, Below wr.heap.size wr W → Calls Tryz.prog 19 #[.agg #[.slice r1 n1 c1, .slice r2 n2 c2], .string n, .string l[i]] W fun e w' => e = .returned (.bool true) ∧ Below W.heap.size W w') := fun W h => HHA0.out _ hxm W (hBr.out.trans (h.mono hBr.out.size))
       have HHE1 : Hid (∀ W, Below wr.heap.size wr W → Calls Tryz.prog 19 #[.agg #[.slice ro Nr rc, .slice ao N ac], .string n, .string l[i]] W fun e w' => e = .returned (.bool false) ∧ Below W.heap.size W w') := fun W h => HHE2.out _ hxm W (hBr.out.trans (h.mono hBr.out.size))
       generalize l[i] = x at x0 HHA1 HHE1
       clear hxm hbo' HHA0 HHE2
       subst hbo
       have hz0 := World.block_lt_of_cell? wr _ z0
       have hu0 := World.block_lt_of_cell? wr _ u0
       have hx0 := World.block_lt_of_cell? wr _ x0
       go_wp2_with fail
       refine wp_region_held_drew (S := fun W => W.cell? ⟨w.heap.size, 0, none⟩ = some (.slice ro Nr rc) ∧ W.cell? ⟨w.heap.size, 1, none⟩ = some (.slice ao N ac) ∧ W.cell? ⟨q, 0, none⟩ = some (.slice r1 n1 c1) ∧ W.cell? ⟨q, 1, none⟩ = some (.slice r2 n2 c2) ∧ W.cell? ⟨b, o + i, none⟩ = some (.string x)) (by kernel_rfl) (⟨z0, z1, u0, u1, x0⟩) (fun hHeld => ?_)
       refine tk 0 ⟨some 40,_,_,_,_,_⟩ rfl ?_
       refine tk 1 ⟨some 41,_,_,_,_,_⟩ rfl ?_
       refine tk 2 ⟨some 42,_,_,_,_,_⟩ rfl ?_
       refine tk 3 ⟨some 43,_,_,_,_,_⟩ rfl ?_
       refine tk 4 ⟨some 44,_,_,_,_,_⟩ rfl ?_
       refine tk 5 ⟨some 45,_,_,_,_,_⟩ rfl ?_
       refine wpAnyH_ready (rs := [6]) (by kernel_rfl) (by simp) ?_
       refine AllReadyH.cons (o := ⟨some 46, _, _, _, _, _⟩) rfl (fun K hK => ?_) AllReadyH.nil
       go_simp
       go_at_call 19; refine (HHA1.out _ ((Below.refl wr.heap.size wr).drew)).mono ?_; rintro e w6 ⟨rfl, hB6⟩
       refine hK.out _ _ (⟨(hB6.cell (p := ⟨w.heap.size, 0, none⟩) hz0).trans (z0), (hB6.cell (p := ⟨w.heap.size, 1, none⟩) hz0).trans (z1), (hB6.cell (p := ⟨q, 0, none⟩) hu0).trans (u0), (hB6.cell (p := ⟨q, 1, none⟩) hu0).trans (u1), (hB6.cell (p := ⟨b, o + i, none⟩) hx0).trans (x0)⟩) (fun hHeld => ?_)
       clear hK
       try simp only [Act.put, List.setIfInBounds_toArray, List.set_cons_zero, List.set_cons_succ]
       refine tk 7 ⟨some 47,_,_,_,_,_⟩ rfl ?_
       refine tk 8 ⟨some 48,_,_,_,_,_⟩ rfl ?_
       refine tk 9 ⟨some 49,_,_,_,_,_⟩ rfl ?_
       refine tk 10 ⟨some 50,_,_,_,_,_⟩ rfl ?_
       refine tk 11 ⟨some 51,_,_,_,_,_⟩ rfl ?_
       refine tk 12 ⟨some 52,_,_,_,_,_⟩ rfl ?_
       refine tk 13 ⟨some 53,_,_,_,_,_⟩ rfl ?_
       refine tk 14 ⟨some 54,_,_,_,_,_⟩ rfl ?_
       refine wpAnyH_ready (rs := [15]) (by kernel_rfl) (by simp) ?_
       refine AllReadyH.cons (o := ⟨some 55, _, _, _, _, _⟩) rfl (fun K hK => ?_) AllReadyH.nil
       go_simp
       go_at_call 19; refine (HHE1.out _ (((Below.refl wr.heap.size wr).drew).trans hB6)).mono ?_; rintro e w7 ⟨rfl, hB7⟩
       refine hK.out _ _ (⟨(hB7.cell (p := ⟨w.heap.size, 0, none⟩) (Nat.lt_of_lt_of_le hz0 hB6.size)).trans ((hB6.cell (p := ⟨w.heap.size, 0, none⟩) hz0).trans (z0)), (hB7.cell (p := ⟨w.heap.size, 1, none⟩) (Nat.lt_of_lt_of_le hz0 hB6.size)).trans ((hB6.cell (p := ⟨w.heap.size, 1, none⟩) hz0).trans (z1)), (hB7.cell (p := ⟨q, 0, none⟩) (Nat.lt_of_lt_of_le hu0 hB6.size)).trans ((hB6.cell (p := ⟨q, 0, none⟩) hu0).trans (u0)), (hB7.cell (p := ⟨q, 1, none⟩) (Nat.lt_of_lt_of_le hu0 hB6.size)).trans ((hB6.cell (p := ⟨q, 1, none⟩) hu0).trans (u1)), (hB7.cell (p := ⟨b, o + i, none⟩) (Nat.lt_of_lt_of_le hx0 hB6.size)).trans ((hB6.cell (p := ⟨b, o + i, none⟩) hx0).trans (x0))⟩) (fun hHeld => ?_)
       clear hK
       try simp only [Act.put, List.setIfInBounds_toArray, List.set_cons_zero, List.set_cons_succ]
       refine tk 16 ⟨some 56,_,_,_,_,_⟩ rfl ?_
       refine wpAnyH_done (by kernel_rfl) ?_ _
       have HB6 := Lib.hid (hBr.out.trans ((((Below.refl wr.heap.size wr).drew.trans hB6).trans (hB7.mono hB6.size)).mono hBr.out.size))
       clear hHeld hB6 hB7 x0 z0 z1 u0 u1
       go_wp2_with fail
       go_roundw
       case rel => exact ⟨i + 1, by omega, by go_num, HB6⟩
       case measure => simp [intOf]; omega
      ·obtain rfl : K = i := by omega
       have HRE := Lib.hid (HRE0.out wr hBr.out)
       clear HHA0 HHE2 HRE0
       go_wp2_with fail
       refine HRE.out.mono ?_
       rintro e w5 ⟨hB5, v5, rfl, hv5⟩
       obtain ⟨r3, n3, c3, r4, n4, c4, rfl⟩ := ent_agg hv5
       obtain ⟨w6, hw6⟩ : ∃ W, w5.alloc (.cells #[.slice r3 n3 c3, .slice r4 n4 c4] 25) = W := ⟨_, rfl⟩
       have hB6 : Below w5.heap.size w5 w6 := by rw [← hw6]; exact (Below.refl _ _).alloc (Nat.le_refl _) _
       obtain ⟨q2, hq2⟩ : ∃ q, w5.heap.size = q := ⟨_, rfl⟩
       have HX6 : Hid (EntB w6 q2 (.slice r3 n3 c3) (.slice r4 n4 c4)) := by rw [← hw6, ← hq2]; exact entB_new _ _ _
       have hB56 := hB5.trans (hB6.mono hB5.size)
       have HB6r := Lib.hid (hBr.out.trans (hB56.mono hBr.out.size))
       have HB6 := Lib.hid (HB4.out.trans (HB6r.out.mono hs4))
       have HV6 := Lib.hid (entV_below hv5 hB6)
       have HT6 := Lib.hid (entB_below HT4.out HB6r.out)
       have HQ6 := Lib.hid (entB_below HQ4.out HB6r.out)
       have HRI := Lib.hid (HRI0.out w6 HB6r.out)
       obtain ⟨m0, m1⟩ := entB_cells HQ6.out
       clear hB5 hB6 hB56 hv5 z0 z1 u0 u1 HRE HRI0
       go_wp2_with fail
       refine HRI.out.mono ?_
       rintro e w7 ⟨rfl, hB7⟩
       have HB7 := Lib.hid (HB6.out.trans (hB7.mono HB6.out.size))
       obtain ⟨z0, z1⟩ := entB_cells (entB_below HT6.out hB7)
       obtain ⟨x0, x1⟩ := entB_cells (entB_below HX6.out hB7)
       have HSA := Lib.hid (HSA1.out _ w7 (entV_below HV6.out hB7) HB7.out)
       clear hB7 m0 m1 hw6 hq2 HRI HSA1
       go_wp2_with fail
       refine HSA.out.mono ?_
       rintro e w8 ⟨rfl, hB8⟩
       have HBE := Lib.hid (HB7.out.trans (hB8.mono HB7.out.size))
       clear hB8 z0 z1 x0 x1
       go_wp2_with fail
       go_ret
       exact ⟨rfl, HBE.out⟩
end etw
end Go.Proofs.YtcolcogobdgejaaGreatDoor
/-! EntryBack -/
namespace Go.Proofs.YtcolcogobdgejaaGreatDoor.entryBack
open Go.ChangeShapes Go.WideShapes Go.ChangeAt Go.RowKit
open Go.ChangeMaps (open_string shut_string)
set_option linter.unusedVariables false
theorem own : ownKnob Tryz.prog.godebug = none := by kernel_rfl
theorem laidOut : laidOutB Tryz.prog = true := by kernel_rfl
theorem u8x : U8Extra Tryz.prog Tryz.lays260_ren where
 n3 := by kernel_rfl
 n4 := by kernel_rfl
 y3 := by kernel_rfl
 y4 := by kernel_rfl
 c5 := by kernel_rfl
 c119 := by kernel_rfl
 c138 := by kernel_rfl
theorem accEq : (Rows.laid_unicode_utf8_acceptRanges : DataW Unit) = Lib.acceptData := by kernel_rfl
theorem tyEq : (Rows.laid_rollbook_attr_types : DataW Unit) = atw.tyData := by kernel_rfl
theorem tabs {W : World} (h : laidMetH Tryz.prog Rows.entryBackRow.laid W) : Hid (dnw.Tabs W) :=
 utf8Tabs_of_reads Tryz.lays260 u8x (by have := Lib.laidMet.reads h (n := "unicode/utf8.first") (d := Rows.laid_unicode_utf8_first) (by simp [Rows.entryBackRow]); rw [show Rows.laid_unicode_utf8_first = Lib.firstData from Pinned.utf8First_eq] at this; exact this) (by have := Lib.laidMet.reads h (n := "unicode/utf8.acceptRanges") (d := Rows.laid_unicode_utf8_acceptRanges) (by simp [Rows.entryBackRow]); rw [accEq] at this; exact this)
theorem env {W : World} (hsh : W.ShapedOpen Tryz.prog) : Hid (prw.Env W) := Tryz.laysM146.s1_3 W hsh
theorem typ {W : World} (h : laidMetH Tryz.prog Rows.entryBackRow.laid W) : Hid (atw.TyEnv W) :=
 atw.tyEnv_of_reads (by have := Lib.laidMet.reads h (n := "rollbook/attr.types") (d := Rows.laid_rollbook_attr_types) (by simp [Rows.entryBackRow]); rw [tyEq] at this; exact this)
theorem envE {W : World} (hsh : W.ShapedOpen Tryz.prog) (h : laidMetH Tryz.prog Rows.entryBackRow.laid W) : Hid (etw.EnvE W) := Lib.hid ⟨(env hsh).out, (tabs h).out, (typ h).out⟩
set_option maxRecDepth 100000 in
theorem contract (H : Type) (enc : TypeId × Value → H) (W : World) (base : Nat) (args : Array Value) (ds gs : List (DataW H)) (before : List MemPlace)
  (hval : ∀ (j : Nat) t v, Tryz.f4.params[j]? = some t → args[j]? = some v → Value.okWide Tryz.prog W .any base t v)
  (hW : DataW.Whole enc Tryz.prog Tryz.f4.params.toList Rows.entryBackSpec.vars false W args.toList ds gs before)
  (hsz0 : (DataW.weightsEach Tryz.prog (Tryz.f4.params.toList ++ Rows.entryBackSpec.plain.varTypes Tryz.prog) (ds ++ gs)).all (· ≤ reachBytes) = true)
  (hL : laidMetH Tryz.prog Rows.entryBackRow.laid W) (hsh : W.ShapedOpen Tryz.prog) :
  Calls Tryz.prog 4 args W fun e W' => ∃ v, e = .returned v ∧ Rows.entryBackSpec.post enc Tryz.prog Tryz.f4 false true false false W args v W' := by
 have hW' := hW
 obtain ⟨p, q, hA0, hV, rfl, hfz, hnd⟩ := hW
 have hA : DataW.TrodAll enc Tryz.prog W 0 (fun _ => true) true Tryz.f4.params.toList args.toList ds p := hA0
 have hsz := hsz0
 rw [Tryz.params4] at hA hval hsz
 obtain ⟨v0, vs0, d0, ds0, p0, q0, hargs, rfl, rfl, h0, r0⟩ := trodAll_cons hA
 obtain ⟨v1, vs1, d1, ds1, p1, q1, rfl, rfl, rfl, h1, r1⟩ := trodAll_cons r0
 obtain ⟨v2, vs2, d2, ds2, p2, q2, rfl, rfl, rfl, h2, r2⟩ := trodAll_cons r1
 obtain ⟨rfl, rfl, rfl⟩ := trodAll_nil r2
 obtain rfl : args = #[v0, v1, v2] := by cases args; simp_all
 obtain ⟨rfl, rfl⟩ := trodVars_none hV
 have k0 := h0
 have lt0 : ∀ x ∈ p0, x.block < W.heap.size := by obtain ⟨m, hm⟩ := k0; exact DataW.trod_lt m _ _ _ hm
 have k1 := h1
 have lt1 : ∀ x ∈ p1, x.block < W.heap.size := by obtain ⟨m, hm⟩ := k1; exact DataW.trod_lt m _ _ _ hm
 have k2 := h2
 have lt2 : ∀ x ∈ p2, x.block < W.heap.size := by obtain ⟨m, hm⟩ := k2; exact DataW.trod_lt m _ _ _ hm
 obtain ⟨E0, hE0, hr0, ha0, hv0⟩ := etw.ent_of (hval 0 25 v0 rfl rfl) h0
 obtain ⟨a1, rfl, rfl, rfl, ws1⟩ := open_string Tryz.underlying9 (hval 1 9 v1 rfl rfl) h1
 have ha1 : a1.size ≤ 140737488351232 := by
  have := sized_string hsz (j := 1) (t := 9) rfl rfl
  simpa [reachBytes] using this
 obtain ⟨ao2, len2, cap2, rfl⟩ := WideShapes.okWide_slice Tryz.underlying32 (hval 2 32 v2 rfl rfl)
 obtain ⟨l2, hlen2, hS2, hm2, hx2, hc2, hn2⟩ := tupo.texts_of Tryz.underlying32 Tryz.underlying9 (by kernel_rfl) h2
 subst hlen2
 clear hA0
 simp only [List.append_nil] at hW'
 have walk : Calls Tryz.prog 4 #[v0, .string a1, .slice ao2 l2.length cap2] W fun e w' => e = .returned (.bool true) ∧ Below W.heap.size W w' := by
  exact etw.back_law v0 E0 a1 ao2 cap2 l2 W (Lib.hid hE0) (Lib.hid hS2) hc2 (envE hsh hL)
 refine walk.mono fun e W' ⟨he, hb⟩ => ?_
 subst he
 exact ⟨_, rfl, _, _, _, [], _, [], hW', trodAll_cons_mk (shut_bool Tryz.underlying4 _) trodAll_mk0, (trodAll_cons_mk (Below.trod laidOut (by kernel_rfl) (of_decide_eq_true (by kernel_rfl)) k0 hb lt0) (trodAll_cons_mk (Below.trod laidOut (by kernel_rfl) (of_decide_eq_true (by kernel_rfl)) k1 hb lt1) (trodAll_cons_mk (Below.trod laidOut (by kernel_rfl) (of_decide_eq_true (by kernel_rfl)) k2 hb lt2) trodAll_mk0))), rfl, hb.frame _, fun h => by cases h⟩
theorem laid_met (os : Os) : laidMet Tryz.prog Rows.entryBackRow.laid ((World.laidAll Tryz.prog os Rows.entryBackRow.laid).forCall (fun _ _ => 0) ⟨#[], #[.agg #[.slice none 0 0, .slice none 0 0], .string ByteArray.empty, .slice none 0 0], []⟩).memory :=
 laidMet_laidAll _ (by kernel_rfl) (by kernel_rfl)
theorem reads (os : Os) {H : Type} (enc : TypeId × Value → H) : ∃ places, DataW.whole enc Tryz.prog ((World.laidAll Tryz.prog os Rows.entryBackRow.laid).forCall (fun _ _ => 0) ⟨#[], #[.agg #[.slice none 0 0, .slice none 0 0], .string ByteArray.empty, .slice none 0 0], []⟩).memory Tryz.f4.params.toList Rows.entryBackSpec.vars false (#[.agg #[.slice none 0 0, .slice none 0 0], .string ByteArray.empty, .slice none 0 0] : Array Value).toList 8 = some ([.agg [.nil, .nil], .lit (.string []), .nil], [], places) :=
 ⟨[], by kernel_rfl⟩
set_option maxRecDepth 100000 in
theorem lifted (os : Os) (started : os.Started) (H : Type) (enc : TypeId × Value → H) (F : Stop.Interp) :
  ReturnsInHanded {} Tryz.checked os 4 .any ((OpenSpec.ofChange Rows.entryBackSpec).preRow enc Tryz.prog Tryz.f4 Rows.entryBackRow.domain false Rows.entryBackRow.laid) (((OpenSpec.ofChange Rows.entryBackSpec).at F).post enc Tryz.prog Tryz.f4 false true false false) := by
 obtain ⟨places, hx⟩ := reads os enc
 refine returnsInHanded_of_row (C := Tryz.checked) (s := (OpenSpec.ofChange Rows.entryBackSpec)) own started (by kernel_rfl) Tryz.func4
  (witness_row_at (enc := enc) (C := Tryz.checked) false (World.laidAll Tryz.prog os Rows.entryBackRow.laid) #[.agg #[.slice none 0 0, .slice none 0 0], .string ByteArray.empty, .slice none 0 0] (World.laidAll_os _ _ _) (by kernel_rfl) (by kernel_rfl) (by kernel_rfl)
   (OpenSpec.preRow_of_cond 8 hx (by kernel_rfl) (fun k hk => by cases hk) (by kernel_rfl) (laid_met os))) ?_
 intro W base args ds gs before hval hW _ _ hsz hL hsh _
 exact contract H enc W base args ds gs before hval hW hsz hL hsh
theorem band {a b : Bool} (h1 : a = true) (h2 : b = true) : (a && b) = true := by rw [h1, h2]; rfl
set_option maxRecDepth 100000 in
theorem k0 : (Rows.entryBackRow.wf (OpenSpec.ofChange (OpenSpec.ofChange Rows.entryBackSpec).bare)) = true := by kernel_rfl
set_option maxRecDepth 100000 in
theorem k1 : (laidOutB Tryz.pinned.checked.prog) = true := by kernel_rfl
set_option maxRecDepth 100000 in
theorem k2 : (mapsRowed Tryz.pinned.checked.prog) = true := by kernel_rfl
set_option maxRecDepth 100000 in
theorem k3 : (Tryz.f4.params.all (Tryz.pinned.checked.prog.readableRec ·)) = true := by kernel_rfl
set_option maxRecDepth 100000 in
theorem k4 : (namedTie Tryz.pinned.checked.prog Rows.entryBackRow.named (OpenSpec.ofChange Rows.entryBackSpec).bare.vars) = true := by kernel_rfl
set_option maxRecDepth 100000 in
theorem k5 : ((Rows.entryBackRow.stops == [])) = true := by kernel_rfl
set_option maxRecDepth 100000 in
theorem k6 : ((Tryz.pinned.checked.prog.stops == [])) = true := by kernel_rfl
set_option maxRecDepth 100000 in
theorem k7 : ((Rows.entryBackRow.knobs == [])) = true := by kernel_rfl
set_option maxRecDepth 100000 in
theorem k8 : ((Tryz.pinned.checked.prog.stopKnobs == [])) = true := by kernel_rfl
set_option maxRecDepth 100000 in
theorem k9 : ((Rows.entryBackRow.inPlace == Tryz.pinned.checked.prog.inPlace 4)) = true := by kernel_rfl
set_option maxRecDepth 100000 in
theorem k10 : ((Rows.entryBackRow.unfollowed == Tryz.pinned.checked.prog.unfollowed 4)) = true := by kernel_rfl
set_option maxRecDepth 100000 in
theorem k11 : ((Rows.entryBackRow.recurses == Tryz.pinned.checked.prog.recurses 4)) = true := by kernel_rfl
set_option maxRecDepth 100000 in
theorem k12 : ((Rows.entryBackRow.named == Tryz.pinned.checked.prog.varsNamed 4)) = true := by kernel_rfl
set_option maxRecDepth 100000 in
theorem k13 : ((Rows.entryBackRow.maps == (Tryz.f4.params.toList ++ (OpenSpec.ofChange Rows.entryBackSpec).bare.plain.varTypes Tryz.pinned.checked.prog).any (Tryz.pinned.checked.prog.mapsRec ·))) = true := by kernel_rfl
set_option maxRecDepth 100000 in
theorem k14 : ((Rows.entryBackRow.ifaces == (Tryz.f4.params.toList ++ (OpenSpec.ofChange Rows.entryBackSpec).bare.plain.varTypes Tryz.pinned.checked.prog).any (Tryz.pinned.checked.prog.ifacesRec ·))) = true := by kernel_rfl
set_option maxRecDepth 100000 in
theorem k15 : ((Rows.entryBackRow.mapsOut == Tryz.pinned.checked.prog.mapsAmong Tryz.f4.resultTypes.toList)) = true := by kernel_rfl
set_option maxRecDepth 100000 in
theorem k16 : ((Rows.entryBackRow.loops == (Tryz.f4.params.toList ++ (OpenSpec.ofChange Rows.entryBackSpec).bare.plain.varTypes Tryz.pinned.checked.prog).any (Tryz.pinned.checked.prog.loopsFrom ·))) = true := by kernel_rfl
set_option maxRecDepth 100000 in
theorem k17 : ((Rows.entryBackRow.wideKeys == (Tryz.f4.params.toList ++ (OpenSpec.ofChange Rows.entryBackSpec).bare.plain.varTypes Tryz.pinned.checked.prog ++ Tryz.f4.resultTypes.toList).any (Tryz.pinned.checked.prog.wideKeysFrom ·))) = true := by kernel_rfl
set_option maxRecDepth 100000 in
theorem k18 : ((OpenSpec.ofChange Rows.entryBackSpec).bare.vars.all (Tryz.pinned.checked.prog.varReadable ·)) = true := by kernel_rfl
set_option maxRecDepth 100000 in
theorem k19 : (Tryz.f4.resultTypes.all (fun t => Tryz.pinned.checked.prog.readableRec t && decide (t < Tryz.pinned.checked.prog.types.size))) = true := by kernel_rfl
set_option maxRecDepth 100000 in
theorem k20 : ((Rows.entryBackRow.ifacesOut == Tryz.f4.resultTypes.toList.any (Tryz.pinned.checked.prog.ifacesRec ·))) = true := by kernel_rfl
set_option maxRecDepth 100000 in
theorem k21 : ((Rows.entryBackRow.loopsOut == Tryz.f4.resultTypes.toList.any (Tryz.pinned.checked.prog.loopsFrom ·))) = true := by kernel_rfl
set_option maxRecDepth 100000 in
theorem k22 : ((Rows.entryBackRow.plainKeys == Tryz.pinned.checked.prog.plainKeys)) = true := by kernel_rfl
set_option maxRecDepth 100000 in
theorem k23 : (Rows.entryBackRow.shortTexts.isNone) = true := by kernel_rfl
set_option maxRecDepth 100000 in
theorem k24 : (Tryz.pinned.checked.prog.stopsHeard) = true := by kernel_rfl
set_option maxRecDepth 100000 in
theorem k25 : (Tryz.pinned.checked.prog.mayEnter) = true := by kernel_rfl
set_option maxRecDepth 100000 in
theorem k26 : ((Rows.entryBackRow.lifted == Tryz.pinned.checked.prog.liftsFinal)) = true := by kernel_rfl
set_option maxRecDepth 100000 in
theorem k27 : ((Tryz.pinned.checked.prog.make == some Rows.entryBackRow.make)) = true := by kernel_rfl
set_option maxRecDepth 100000 in
theorem k28 : ((Rows.entryBackRow.kinds == (if Rows.entryBackRow.domain.isEmpty then [] else Tryz.f4.params.toList.map fun t => match Tryz.pinned.checked.prog.underlying t with | some (.int k) => some k | _ => none))) = true := by kernel_rfl
set_option maxRecDepth 100000 in
theorem k29 : ((Rows.entryBackRow.pinned == Rows.entryBackRow.pinnedBy)) = true := by kernel_rfl
set_option maxRecDepth 100000 in
theorem k30 : ((Rows.entryBackRow.veiled == (Tryz.f4.params.toList ++ (OpenSpec.ofChange Rows.entryBackSpec).bare.plain.varTypes Tryz.pinned.checked.prog ++ Tryz.f4.resultTypes.toList).any (Tryz.pinned.checked.prog.veiledRec ·))) = true := by kernel_rfl
set_option maxRecDepth 100000 in
theorem k31 : (Rows.entryBackRow.veiledFits Tryz.pinned.checked.prog Tryz.f4.params.toList (Tryz.f4.params.toList ++ (OpenSpec.ofChange Rows.entryBackSpec).bare.plain.varTypes Tryz.pinned.checked.prog ++ Tryz.f4.resultTypes.toList)) = true := by kernel_rfl
set_option maxRecDepth 100000 in
theorem joined : joinedFacts Tryz.pinned.checked.prog 4 Tryz.f4 (OpenSpec.ofChange Rows.entryBackSpec).bare Rows.entryBackRow = true := by
 unfold joinedFacts
 exact (band (band (band (band (band (band (band (band (band (band (band (band (band (band (band (band (band (band (band (band (band (band (band (band (band (band (band (band (band (band (band k0 k1) k2) k3) k4) k5) k6) k7) k8) k9) k10) k11) k12) k13) k14) k15) k16) k17) k18) k19) k20) k21) k22) k23) k24) k25) k26) k27) k28) k29) k30) k31)
theorem named : Tryz.pinned.checked.prog.funcNamed Rows.entryBackRow.func = some 4 := by kernel_rfl
set_option maxRecDepth 100000 in
theorem inst : Tryz.f4.isInstance Tryz.pinned.checked.prog Rows.entryBackRow.origin Rows.entryBackRow.targs := of_decide_eq_true (by kernel_rfl)
set_option maxRecDepth 100000 in
theorem wrap : Tryz.f4.isWrapper Tryz.pinned.checked.prog Rows.entryBackRow.wrapper Rows.entryBackRow.mainSum := by unfold Func.isWrapper; first | (rw [if_pos (by decide +kernel)]; kernel_rfl) | (rw [if_neg (by decide +kernel)]; exact ⟨rfl, rfl⟩)
theorem said : Rows.EntryBackSaid :=
 OpenClaim.holds_of_cond 4 Tryz.f4 rfl rfl rfl rfl rfl rfl rfl ⟨rfl, rfl, rfl, rfl, rfl⟩ rfl rfl rfl rfl rfl named Tryz.func4 joined inst wrap
  (fun os started H enc _ F => by rw [OpenClaim.pre_eq_preRow]; exact lifted os started H enc F)
theorem plain (f : FuncId) (fn : Func) (hf : Tryz.pinned.checked.prog.funcNamed "rollbook/rollbooklaw17.EntryBack" = some f) (hfn : Tryz.pinned.checked.prog.funcs[f]? = some fn) :
  false = Tryz.pinned.checked.prog.looks [] ∧ ∀ (j : Nat) t, fn.params[j]? = some t → Tryz.pinned.checked.prog.wantsStandIn t = false := by
 obtain rfl : f = 4 := Option.some.inj ((show Tryz.prog.funcNamed "rollbook/rollbooklaw17.EntryBack" = some 4 by kernel_rfl).symm.trans hf) |>.symm
 obtain rfl : fn = Tryz.f4 := (Option.some.inj (Tryz.func4.symm.trans hfn)).symm
 refine ⟨by kernel_rfl, fun j t ht => ?_⟩
 rw [Tryz.params4] at ht
 have hm : t ∈ [25, 9, 32] := by simpa using Array.mem_of_getElem? ht
 have hall : ([25, 9, 32].all fun u => !Tryz.prog.wantsStandIn u) = true := by kernel_rfl
 exact (show Tryz.prog.wantsStandIn t = false by simpa using List.all_eq_true.1 hall t hm)
theorem proved : Rows.EntryBackCardSaid :=
 Claim7.holds_tied_plain_at .later [] _ _ _ _ said (fun _ h => by cases h) (by kernel_rfl) (fun _ h => by cases h) entryBack_row_tie rfl ⟨rfl, rfl⟩ (by kernel_rfl) rfl plain (by kernel_rfl)
#print axioms proved
end Go.Proofs.YtcolcogobdgejaaGreatDoor.entryBack
