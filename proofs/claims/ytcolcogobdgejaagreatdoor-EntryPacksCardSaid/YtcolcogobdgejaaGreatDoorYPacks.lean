/- The body of EntryPacks. -/
import Derived.Test.YtcolcogobdgejaaGreatDoorC11
import Derived.Test.YtcolcogobdgejaaGreatDoorYUnp
import Derived.Test.YtcolcogobdgejaaGreatDoorYSame
/-! PacksW -/
namespace Go.Proofs.YtcolcogobdgejaaGreatDoor
open Go.RowKit
namespace etw
open atp atw etp
open dnw (Av Avas)
open tupw (Strs strs_below)
set_option linter.unusedVariables false
set_option linter.unusedSimpArgs false
theorem packS_err {E : En} (h : ¬ (packS E).2 = 0) : (packS E).1 = ⟨#[]⟩ := by
 unfold packS at h ⊢
 cases hp : packE E with
 | ok s => rw [hp] at h; exact absurd rfl h
 | error f => rfl
theorem packS_ok {E : En} (h : (packS E).2 = 0) : packE E = .ok (packS E).1.data.toList := by
 rw [packS_eq] at h ⊢
 unfold packE
 by_cases h1 : rightE E = false
 ·rw [if_pos h1] at h; exact absurd h (by decide)
 ·rw [if_neg h1] at h ⊢
  rw [if_neg h1]
  by_cases h2 : 4000 < (packB E).length
  ·rw [if_pos h2] at h; exact absurd h (by decide)
  ·rw [if_neg h2, if_neg h2]
set_option maxRecDepth 20000 in
set_option maxHeartbeats 8000000 in
theorem packs_law (v : Value) (E : En) (w : World) (hv : Hid (EntV w v E)) (hE : Hid (EnvE w)) :
  Calls Tryz.prog 7 #[v] w fun e w' => e = .returned (.bool true) ∧ Below w.heap.size w w' := by
 have HLO0 : Hid (∀ W, Below w.heap.size w W → Calls Tryz.prog 15 #[v] W fun e w' => e = .returned (.bool (longE E)) ∧ Below W.heap.size W w') := fun W h => longE_any v E W (Lib.hid (entV_below hv.out h))
 have HPK0 : Hid (Pk E → ∀ W, Below w.heap.size w W → Calls Tryz.prog 37 #[v] W fun e w' => e = .returned (.tuple #[.string (packS E).1, .int .i64 (packS E).2]) ∧ Below W.heap.size W w') := fun hp W h => pack_any v E W (Lib.hid (entV_below hv.out h)) (Lib.hid hp) (Lib.hid (envE_below hE.out h))
 have HRP0 : Hid (Pk E → ∀ W, Below w.heap.size w W → Calls Tryz.prog 28 #[v] W fun e w' => e = .returned (.tuple #[.string (packS E).1, .int .i64 (packS E).2]) ∧ Below W.heap.size W w') := fun hp W h => rpack_any v E W (Lib.hid (entV_below hv.out h)) (Lib.hid hp)
 have HRI0 : Hid (Bd E → ∀ W, Below w.heap.size w W → Calls Tryz.prog 26 #[v] W fun e w' => e = .returned (.bool (rightE E)) ∧ Below W.heap.size W w') := fun hb W h => right_any v E W (Lib.hid (entV_below hv.out h)) (Lib.hid hb) (Lib.hid (envE_below hE.out h))
 have HRR0 : Hid (Bd E → ∀ W, Below w.heap.size w W → Calls Tryz.prog 17 #[v] W fun e w' => e = .returned (.bool (rightE E)) ∧ Below W.heap.size W w') := fun hb W h => rright_any v E W (Lib.hid (entV_below hv.out h)) (Lib.hid hb)
 have HSA0 : Hid (Bd E → ∀ u W, EntV W u E → Below w.heap.size w W → Calls Tryz.prog 27 #[u, v] W fun e w' => e = .returned (.bool true) ∧ Below W.heap.size W w') := fun hb u W hu h => same17_eq u v E W (Lib.hid hu) (Lib.hid (entV_below hv.out h)) (Lib.hid hb)
 obtain ⟨ro, rc, ao, ac, Nr, N, rfl, HN, HA, hac, HNr, HAv, hrc⟩ := ent_form hv.out
 obtain ⟨W0, hW0⟩ : ∃ W, w.alloc (.cells #[.slice ro Nr rc, .slice ao N ac] 25) = W := ⟨_, rfl⟩
 have hB0 : Below w.heap.size w W0 := by rw [← hW0]; exact (Below.refl _ _).alloc (Nat.le_refl _) _
 have HT0 : Hid (EntB W0 w.heap.size (.slice ro Nr rc) (.slice ao N ac)) := by rw [← hW0]; exact entB_new _ _ _
 have HB0 := Lib.hid hB0
 have HAW := Lib.hid (eawake_any W0 (Lib.hid (envE_below hE.out hB0)))
 clear hB0 hv
 go_enter Tryz.func7, Tryz.ntmps7
 go_wp2_with fail
 refine HAW.out.mono ?_
 rintro e w1 ⟨rfl, hB1⟩
 have HB1 := Lib.hid (HB0.out.trans (hB1.mono HB0.out.size))
 have HT1 := Lib.hid (entB_below HT0.out hB1)
 obtain ⟨k0, k1⟩ := entB_cells HT1.out
 have HLO := Lib.hid (HLO0.out w1 HB1.out)
 clear hB1 hW0 HAW HLO0
 cases hlo : longE E with
 | true =>
  rw [hlo] at HLO
  clear hlo
  go_wp2_with fail
  refine HLO.out.mono ?_
  rintro e w2 ⟨rfl, hB2⟩
  have HBE := Lib.hid (HB1.out.trans (hB2.mono HB1.out.size))
  clear hB2 k0 k1
  go_wp2_with fail
  go_ret
  exact ⟨rfl, HBE.out⟩
 | false =>
  rw [hlo] at HLO
  have HPK1 := Lib.hid (pk_of hlo)
  have HBD := Lib.hid (pk_bd HPK1.out)
  have HSM : Hid (SmallE E) := ⟨HPK1.out.rl, HPK1.out.al, fun a ha => (HPK1.out.as_ a ha).2.1⟩
  have HRI1 := Lib.hid (HRI0.out HBD.out)
  have HRR1 := Lib.hid (HRR0.out HBD.out)
  have HPK := Lib.hid (HPK0.out HPK1.out)
  have HRP := Lib.hid (HRP0.out HPK1.out)
  have HSA1 := Lib.hid (HSA0.out HBD.out)
  have HER := Lib.hid (packS_err (E := E))
  have HOK := Lib.hid (packS_ok (E := E))
  clear hlo HRI0 HRR0 HPK0 HRP0 HSA0
  generalize rightE E = rt at HRI1 HRR1
  generalize (packS E).1 = ps at HPK HRP HER HOK
  generalize (packS E).2 = pf at HPK HRP HER HOK
  go_wp2_with fail
  refine HLO.out.mono ?_
  rintro e w2 ⟨rfl, hB2⟩
  have HB2 := Lib.hid (HB1.out.trans (hB2.mono HB1.out.size))
  have HT2 := Lib.hid (entB_below HT1.out hB2)
  have HP2 := Lib.hid (HPK.out w2 HB2.out)
  clear hB2 k0 k1 HLO
  obtain ⟨k0, k1⟩ := entB_cells HT2.out
  go_wp2_with fail
  refine HP2.out.mono ?_
  rintro e w3 ⟨rfl, hB3⟩
  have HB3 := Lib.hid (HB2.out.trans (hB3.mono HB2.out.size))
  have HT3 := Lib.hid (entB_below HT2.out hB3)
  have HP3 := Lib.hid (HRP.out w3 HB3.out)
  clear hB3 k0 k1 HP2
  obtain ⟨k0, k1⟩ := entB_cells HT3.out
  go_wp2_with fail
  refine HP3.out.mono ?_
  rintro e w4 ⟨rfl, hB4⟩
  have HB4 := Lib.hid (HB3.out.trans (hB4.mono HB3.out.size))
  have HT4 := Lib.hid (entB_below HT3.out hB4)
  clear hB4 k0 k1 HP3
  obtain ⟨k0, k1⟩ := entB_cells HT4.out
  have hk0 := World.block_lt_of_cell? w4 _ k0
  have HRI : Hid (∀ W, Below w4.heap.size w4 W → Calls Tryz.prog 26 #[.agg #[.slice ro Nr rc, .slice ao N ac]] W fun e w' => e = .returned (.bool rt) ∧ Below W.heap.size W w') := fun W h => HRI1.out W (HB4.out.trans (h.mono HB4.out.size))
  have HRR : Hid (∀ W, Below w4.heap.size w4 W → Calls Tryz.prog 17 #[.agg #[.slice ro Nr rc, .slice ao N ac]] W fun e w' => e = .returned (.bool rt) ∧ Below W.heap.size W w') := fun W h => HRR1.out W (HB4.out.trans (h.mono HB4.out.size))
  have hrt : (rt != rt) = false := by simp
  go_wp2_with fail
  refine wp_region_held_drew (S := fun W => W.cell? ⟨w.heap.size, 0, none⟩ = some (.slice ro Nr rc) ∧ W.cell? ⟨w.heap.size, 1, none⟩ = some (.slice ao N ac)) (by kernel_rfl) (⟨k0, k1⟩) (fun hHeld => ?_)
  refine tk 0 ⟨some 23,_,_,_,_,_⟩ rfl ?_
  refine tk 1 ⟨some 24,_,_,_,_,_⟩ rfl ?_
  refine tk 2 ⟨some 25,_,_,_,_,_⟩ rfl ?_
  refine tk 3 ⟨some 26,_,_,_,_,_⟩ rfl ?_
  refine tk 4 ⟨some 27,_,_,_,_,_⟩ rfl ?_
  refine tk 5 ⟨some 28,_,_,_,_,_⟩ rfl ?_
  refine tk 6 ⟨some 29,_,_,_,_,_⟩ rfl ?_
  refine tk 7 ⟨some 30,_,_,_,_,_⟩ rfl ?_
  refine tk 8 ⟨some 31,_,_,_,_,_⟩ rfl ?_
  refine tk 9 ⟨some 32,_,_,_,_,_⟩ rfl ?_
  refine tk 11 ⟨some 34,_,_,_,_,_⟩ rfl ?_
  refine tc 10 ⟨some 33,_,_,_,_,_⟩ rfl (fun K hK => ?_)
  go_simp
  go_at_call 26; refine (HRI.out _ (Below.refl w4.heap.size w4).drew).mono ?_; rintro e w5 ⟨rfl, hB5⟩
  refine hK.out _ _ (⟨(hB5.cell (p := ⟨w.heap.size, 0, none⟩) hk0).trans (k0), (hB5.cell (p := ⟨w.heap.size, 1, none⟩) hk0).trans (k1)⟩) (fun hHeld => ?_)
  clear hK
  try simp only [Act.put, List.setIfInBounds_toArray, List.set_cons_zero, List.set_cons_succ]
  refine tc 12 ⟨some 35,_,_,_,_,_⟩ rfl (fun K hK => ?_)
  go_simp
  go_at_call 17; refine (HRR.out _ ((Below.refl w4.heap.size w4).drew.trans hB5)).mono ?_; rintro e w6 ⟨rfl, hB6⟩
  refine hK.out _ _ (⟨(hB6.cell (p := ⟨w.heap.size, 0, none⟩) (Nat.lt_of_lt_of_le hk0 hB5.size)).trans ((hB5.cell (p := ⟨w.heap.size, 0, none⟩) hk0).trans (k0)), (hB6.cell (p := ⟨w.heap.size, 1, none⟩) (Nat.lt_of_lt_of_le hk0 hB5.size)).trans ((hB5.cell (p := ⟨w.heap.size, 1, none⟩) hk0).trans (k1))⟩) (fun hHeld => ?_)
  clear hK
  try simp only [Act.put, List.setIfInBounds_toArray, List.set_cons_zero, List.set_cons_succ]
  refine tk 13 ⟨some 36,_,_,_,_,_⟩ rfl ?_
  refine tk 14 ⟨some 37,_,_,_,_,_⟩ rfl ?_
  refine wpAnyH_done (by kernel_rfl) ?_ _
  have hB46 := ((Below.refl w4.heap.size w4).drew.trans hB5).trans (hB6.mono hB5.size)
  have HB6 := Lib.hid (HB4.out.trans (hB46.mono HB4.out.size))
  have HT6 := Lib.hid (entB_below HT4.out hB46)
  clear hHeld hB5 hB6 hB46 k0 k1 hrt
  by_cases hpf : pf = 0
  ·have hd0 : (pf != 0) = false := by rw [bne_eq_false_iff_eq]; exact hpf
   have hok := HOK.out hpf
   have hps : ps.size ≤ 4000 := by have := (pack_ok hok).2.2; rw [kt.size_len] at this; exact this
   have HUN := Lib.hid (unpack_any ps w6 (by omega) (Lib.hid (envE_below hE.out HB6.out)))
   have HOK2 := Lib.hid hok
   clear hpf hok hps
   go_wp2_with fail
   refine HUN.out.mono ?_
   rintro e w7 ⟨r, hr1, hB7, hr2⟩
   have hr := unp_pack hr1 HOK2.out HSM.out
   subst hr
   obtain ⟨v7, rfl, hv7⟩ := hr2
   obtain ⟨r1, n1, c1, r2, n2, c2, rfl⟩ := ent_agg hv7
   obtain ⟨w8, hw8⟩ : ∃ W, w7.alloc (.cells #[.slice r1 n1 c1, .slice r2 n2 c2] 25) = W := ⟨_, rfl⟩
   have hB8 : Below w7.heap.size w7 w8 := by rw [← hw8]; exact (Below.refl _ _).alloc (Nat.le_refl _) _
   obtain ⟨q, hqq⟩ : ∃ q, w7.heap.size = q := ⟨_, rfl⟩
   have HX8 : Hid (EntB w8 q (.slice r1 n1 c1) (.slice r2 n2 c2)) := by rw [← hw8, ← hqq]; exact entB_new _ _ _
   have hB78 := hB7.trans (hB8.mono hB7.size)
   have HB8 := Lib.hid (HB6.out.trans (hB78.mono HB6.out.size))
   have HSA := Lib.hid (HSA1.out _ w8 (entV_below hv7 hB8) HB8.out)
   obtain ⟨x0, x1⟩ := entB_cells HX8.out
   obtain ⟨k0, k1⟩ := entB_cells (entB_below HT6.out hB78)
   clear hB7 hB8 hB78 hv7 hr1 HUN
   go_wp2_with fail
   refine HSA.out.mono ?_
   rintro e w9 ⟨rfl, hB9⟩
   have HBE := Lib.hid (HB8.out.trans (hB9.mono HB8.out.size))
   clear hB9 x0 x1 k0 k1 hw8 hqq
   go_wp2_with fail
   go_ret
   exact ⟨rfl, HBE.out⟩
  ·have hd0 : (pf != 0) = true := by rw [bne_iff_ne]; exact hpf
   have he := HER.out hpf
   subst he
   clear hpf
   go_wp2_with fail
   go_ret
   exact ⟨rfl, HB6.out⟩
end etw
end Go.Proofs.YtcolcogobdgejaaGreatDoor
