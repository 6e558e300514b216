/- The walks of Replace: the program's and the reference's. -/
import Derived.Test.YtcolcogobdgejaaGreatDoorC11
import Derived.Test.YtcolcogobdgejaaGreatDoorYRAdd
/-! ReplW -/
namespace Go.Proofs.YtcolcogobdgejaaGreatDoor
open Go.RowKit
namespace etw
open atp atw etp
open dnw (Av Avas)
open tupw (Strs strs_below)
set_option linter.unusedVariables false
set_option linter.unusedSimpArgs false
set_option maxRecDepth 20000 in
set_option maxHeartbeats 8000000 in
theorem replace_any (v : Value) (E : En) (n : ByteArray) (bo : Option Addr) (bcap : Nat) (l : List ByteArray) (w : World) (hv : Hid (EntV w v E)) (hb : Hid (Bk 900 E)) (hS : Hid (Strs w bo l)) (hl : l.length ≤ 50) (hlc : l.length ≤ bcap) (hls : Hid (∀ x ∈ l, x.size ≤ 1200)) (hn : n.size ≤ 1000) (hE : Hid (EnvE w)) :
  Calls Tryz.prog 31 #[v, .string n, .slice bo l.length bcap] w fun e w' => ResE (replaceE E n.data.toList l) w e w' := by
 have HBD := Lib.hid (bk_bd hb.out (by omega))
 have HFI0 : Hid (∀ W, Below w.heap.size w W → Calls Tryz.prog 75 #[v, .string n] W fun e w' => FindR (findE E n.data.toList) e ∧ Below W.heap.size W w') := fun W h => finde_any v E n W (Lib.hid (entV_below hv.out h)) HBD (by omega) (Lib.hid (envE_below hE.out h))
 have HWI0 : Hid (∀ m W, Below w.heap.size w W → Calls Tryz.prog 78 #[v, .string m, .slice none 0 0] W fun e w' => EntE (withE E m []) W e w') := fun m W h => with_any v E m none 0 [] W (Lib.hid (entV_below hv.out h)) HBD (Lib.hid fun i hi => absurd hi (Nat.not_lt_zero _)) (by simp) (by simp)
 have HAD0 : Hid (∀ (nm : ByteArray) vB W, nm.size ≤ 1000 → EntV W vB (withE E nm []) → Below w.heap.size w W → Calls Tryz.prog 24 #[vB, .string n, .slice bo l.length bcap] W fun e w' => ResE (addE (withE E nm []) n.data.toList l) W e w') := fun nm vB W hnm hvB h =>
  add_any vB (withE E nm []) n bo bcap l W (Lib.hid hvB) (Lib.hid (bk_le (bk_with hb.out hnm (by simp) (by simp)) (by omega))) (Lib.hid (strs_below hS.out h)) hl hlc hls hn (Lib.hid (envE_below hE.out h))
 have HRES : Hid (replaceE E n.data.toList l = match findE E n.data.toList with
  | .error f => .error f
  | .ok ty => if l = [] then .ok (withE E (bs ty.name) []) else addE (withE E (bs ty.name) []) n.data.toList l) := rfl
 obtain ⟨RR, hRR⟩ : ∃ r, replaceE E n.data.toList l = r := ⟨_, rfl⟩
 rw [hRR] at HRES ⊢
 have HR := Lib.hid HRES.out.symm
 clear HRES hRR
 obtain ⟨ro, rc, ao, ac, Nr, N, rfl, HN, HA, hac, HNr, HAv, hrc⟩ := ent_form hv.out
 obtain ⟨W1, hW1⟩ : ∃ W, w.alloc (.cells #[.slice ro Nr rc, .slice ao N ac] 25) = W := ⟨_, rfl⟩
 have hB1 : Below w.heap.size w W1 := by rw [← hW1]; exact (Below.refl _ _).alloc (Nat.le_refl _) _
 have hT1 : EntB W1 w.heap.size (.slice ro Nr rc) (.slice ao N ac) := by rw [← hW1]; exact entB_new _ _ _
 obtain ⟨W2, hW2⟩ : ∃ W, W1.alloc (.cells #[.slice none 0 0, .slice none 0 0] 25) = W := ⟨_, rfl⟩
 have hB2 : Below W1.heap.size W1 W2 := by rw [← hW2]; exact (Below.refl _ _).alloc (Nat.le_refl _) _
 obtain ⟨q, hqq⟩ : ∃ q, W1.heap.size = q := ⟨_, rfl⟩
 have hqw : w.heap.size ≤ q := by rw [← hqq]; exact hB1.size
 have hQ2 : EntB W2 q (.slice none 0 0) (.slice none 0 0) := by rw [← hW2, ← hqq]; exact entB_new _ _ _
 have HB2 := Lib.hid (hB1.trans (hB2.mono hB1.size))
 have HT2 := Lib.hid (entB_below hT1 hB2)
 have HQ2 := Lib.hid hQ2
 obtain ⟨k0, k1⟩ := entB_cells HT2.out
 have hz2 := HB2.out.size
 clear hB1 hB2 hT1 hQ2 hv
 have HFI := Lib.hid (HFI0.out W2 HB2.out)
 clear HFI0
 have HKL : Hid (l = [] ↔ l.length = 0) := List.length_eq_zero_iff.symm
 obtain ⟨K, hK⟩ : ∃ K, l.length = K := ⟨_, rfl⟩
 rw [hK] at HAD0 HKL hl hlc ⊢
 clear hK
 go_enter Tryz.func31, Tryz.ntmps31
 go_wp2_with fail
 refine HFI.out.mono ?_
 rintro e w3 ⟨hfr, hB3⟩
 have HB3 := Lib.hid (HB2.out.trans (hB3.mono hz2))
 have HT3 := Lib.hid (entB_below HT2.out hB3)
 have HQ3 := Lib.hid (entB_below HQ2.out hB3)
 clear hB3 k0 k1 hW1 hW2 HFI hqq
 cases hfe : findE E n.data.toList with
 | error f =>
  rw [hfe] at hfr HR
  have hfr2 : e = .returned (.tuple #[.agg #[.string ⟨#[]⟩, .int .i64 0, .bool false], .int .i64 f]) := hfr
  have hf0 : f ≠ 0 := find_err hfe
  have qf : (f != 0) = true := by rw [bne_iff_ne]; exact hf0
  subst hfr2
  clear hfr hfe hf0
  have hB4 : Below w3.heap.size w3 (w3.alloc (.cells #[.string ⟨#[]⟩, .int .i64 0, .bool false] 29)) := (Below.refl _ _).alloc (Nat.le_refl _) _
  have HBX := Lib.hid (HB3.out.trans (hB4.mono HB3.out.size))
  have HQ := Lib.hid (entB_below HQ3.out hB4)
  clear hB4
  obtain ⟨v0, v1⟩ := entB_cells HQ.out
  have f0 := Lib.frozen_of_heap HQ.out 0
  have f1 := Lib.frozen_of_heap HQ.out 1
  have hq1 := entB_set0 HQ.out (.slice none 0 0)
  have hq2 := entB_set1 hq1 (.slice none 0 0)
  have HQC := Lib.hid (entB_cells hq2)
  have HBF := Lib.hid ((HBX.out.setCell (p := ⟨q, 0, none⟩) hqw (.slice none 0 0)).setCell (p := ⟨q, 1, none⟩) hqw (.slice none 0 0))
  clear hq1 hq2
  go_wp2_with fail
  obtain ⟨r0, r1⟩ := HQC.out
  refine bodyPost_ret (v := .tuple #[.agg #[.slice none 0 0, .slice none 0 0], .int .i64 f]) (by rw [results_cell_tmp rfl]; go_simp) rfl ?_
  exact ⟨HBF.out, (by rw [← HR.out])⟩
 | ok ty =>
  rw [hfe] at hfr HR
  have hfr2 : e = .returned (.tuple #[.agg #[.string (bs ty.name), .int .i64 ty.syn, .bool ty.single], .int .i64 0]) := hfr
  subst hfr2
  clear hfr
  simp only at HR
  have HNS : Hid ((bs ty.name).size ≤ 1000) := name_size (findE_ok hfe).2
  clear hfe
  generalize bs ty.name = nm at HNS HR
  generalize ty.syn = syn
  generalize ty.single = sg
  obtain ⟨w4, hw4⟩ : ∃ W, w3.alloc (.cells #[.string nm, .int .i64 syn, .bool sg] 29) = W := ⟨_, rfl⟩
  have hB4 : Below w3.heap.size w3 w4 := by rw [← hw4]; exact (Below.refl _ _).alloc (Nat.le_refl _) _
  obtain ⟨tb, htb⟩ : ∃ tb, w3.heap.size = tb := ⟨_, rfl⟩
  have HY4 : Hid (TB w4 tb nm syn sg) := by rw [← hw4, ← htb]; exact tb_new _ _ _ _
  have HBe := Lib.hid (HB3.out.trans (hB4.mono HB3.out.size))
  have HTe := Lib.hid (entB_below HT3.out hB4)
  have HQe := Lib.hid (entB_below HQ3.out hB4)
  obtain ⟨y0, y1, y2⟩ := tb_cells HY4.out
  obtain ⟨e0, e1⟩ := entB_cells HTe.out
  have HWC := Lib.hid (HWI0.out nm w4 HBe.out)
  clear hB4 HWI0
  go_wp2_with fail
  refine HWC.out.mono ?_
  rintro e w5 ⟨v5, rfl, hv5, hB5⟩
  obtain ⟨r1, n1, c1, r2, n2, c2, rfl⟩ := ent_agg hv5
  have HB5 := Lib.hid (HBe.out.trans (hB5.mono HBe.out.size))
  have HQ5 := Lib.hid (entB_below HQe.out hB5)
  obtain ⟨w6, hw6⟩ : ∃ W, w5.alloc (.cells #[.slice r1 n1 c1, .slice r2 n2 c2] 25) = W := ⟨_, rfl⟩
  have hB6 : Below w5.heap.size w5 w6 := by rw [← hw6]; exact (Below.refl _ _).alloc (Nat.le_refl _) _
  obtain ⟨p6, hp6⟩ : ∃ q, w5.heap.size = q := ⟨_, rfl⟩
  have HP6 : Hid (EntB w6 p6 (.slice r1 n1 c1) (.slice r2 n2 c2)) := by rw [← hw6, ← hp6]; exact entB_new _ _ _
  have HBX := Lib.hid (HB5.out.trans (hB6.mono HB5.out.size))
  have HQ := Lib.hid (entB_below HQ5.out hB6)
  have HV := Lib.hid (entV_below hv5 hB6)
  obtain ⟨m0, m1⟩ := entB_cells HP6.out
  clear hv5 hB5 hB6 e0 e1 y0 y1 y2
  by_cases hK0 : K = 0
  ·have dk : ((K : Int) == 0) = true := by rw [beq_iff_eq]; omega
   rw [if_pos (HKL.out.2 hK0)] at HR
   clear hK0
   obtain ⟨v0, v1⟩ := entB_cells HQ.out
   have f0 := Lib.frozen_of_heap HQ.out 0
   have f1 := Lib.frozen_of_heap HQ.out 1
   have hq1 := entB_set0 HQ.out (.slice r1 n1 c1)
   have hq2 := entB_set1 hq1 (.slice r2 n2 c2)
   have HQC := Lib.hid (entB_cells hq2)
   have HBF := Lib.hid ((HBX.out.setCell (p := ⟨q, 0, none⟩) hqw (.slice r1 n1 c1)).setCell (p := ⟨q, 1, none⟩) hqw (.slice r2 n2 c2))
   have HVF := Lib.hid (entV_set (entV_set HV.out HQ.out (noS_slice _ _ _) (noS_slice _ _ _) 0 (.slice r1 n1 c1)) hq1 (noS_slice _ _ _) (noS_slice _ _ _) 1 (.slice r2 n2 c2))
   clear hq1 hq2
   go_wp2_with fail
   obtain ⟨r0, r1'⟩ := HQC.out
   refine bodyPost_ret (v := .tuple #[.agg #[.slice r1 n1 c1, .slice r2 n2 c2], .int .i64 0]) (by rw [results_cell_tmp rfl]; go_simp) rfl ?_
   exact ⟨HBF.out, (by rw [← HR.out]; exact ⟨_, rfl, HVF.out⟩)⟩
  ·have dk : ((K : Int) == 0) = false := by rw [beq_eq_false_iff_ne]; omega
   rw [if_neg (fun h => hK0 (HKL.out.1 h))] at HR
   have HAD := Lib.hid (HAD0.out nm _ w6 HNS.out HV.out HBX.out)
   clear hK0 HAD0
   go_wp2_with fail
   refine HAD.out.mono ?_
   rintro e w7 ⟨hB7, hres⟩
   have HBX7 := Lib.hid (HBX.out.trans (hB7.mono HBX.out.size))
   have HQ7 := Lib.hid (entB_below HQ.out hB7)
   clear hB7 m0 m1 HBX HQ HV hw6 hp6
   have HBX := HBX7
   have HQ := HQ7
   clear HBX7 HQ7
   cases hadd : addE (withE E nm []) n.data.toList l with
   | error f =>
    rw [hadd] at hres HR
    have hres2 : e = .returned (.tuple #[.agg #[.slice none 0 0, .slice none 0 0], .int .i64 f]) := hres
    subst hres2
    clear hres hadd
    obtain ⟨v0, v1⟩ := entB_cells HQ.out
    have f0 := Lib.frozen_of_heap HQ.out 0
    have f1 := Lib.frozen_of_heap HQ.out 1
    have hq1 := entB_set0 HQ.out (.slice none 0 0)
    have hq2 := entB_set1 hq1 (.slice none 0 0)
    have HQC := Lib.hid (entB_cells hq2)
    have HBF := Lib.hid ((HBX.out.setCell (p := ⟨q, 0, none⟩) hqw (.slice none 0 0)).setCell (p := ⟨q, 1, none⟩) hqw (.slice none 0 0))
    clear hq1 hq2
    go_wp2_with fail
    obtain ⟨r0, r1⟩ := HQC.out
    refine bodyPost_ret (v := .tuple #[.agg #[.slice none 0 0, .slice none 0 0], .int .i64 f]) (by rw [results_cell_tmp rfl]; go_simp) rfl ?_
    exact ⟨HBF.out, (by rw [← HR.out])⟩
   | ok A =>
    rw [hadd] at hres HR
    obtain ⟨v7, rfl, hv7⟩ := hres
    obtain ⟨s1, k1, d1, s2, k2, d2, rfl⟩ := ent_agg hv7
    have HV := Lib.hid hv7
    clear hv7 hadd
    obtain ⟨v0, v1⟩ := entB_cells HQ.out
    have f0 := Lib.frozen_of_heap HQ.out 0
    have f1 := Lib.frozen_of_heap HQ.out 1
    have hq1 := entB_set0 HQ.out (.slice s1 k1 d1)
    have hq2 := entB_set1 hq1 (.slice s2 k2 d2)
    have HQC := Lib.hid (entB_cells hq2)
    have HBF := Lib.hid ((HBX.out.setCell (p := ⟨q, 0, none⟩) hqw (.slice s1 k1 d1)).setCell (p := ⟨q, 1, none⟩) hqw (.slice s2 k2 d2))
    have HVF := Lib.hid (entV_set (entV_set HV.out HQ.out (noS_slice _ _ _) (noS_slice _ _ _) 0 (.slice s1 k1 d1)) hq1 (noS_slice _ _ _) (noS_slice _ _ _) 1 (.slice s2 k2 d2))
    clear hq1 hq2
    go_wp2_with fail
    obtain ⟨r0, r1'⟩ := HQC.out
    refine bodyPost_ret (v := .tuple #[.agg #[.slice s1 k1 d1, .slice s2 k2 d2], .int .i64 0]) (by rw [results_cell_tmp rfl]; go_simp) rfl ?_
    exact ⟨HBF.out, (by rw [← HR.out]; exact ⟨_, rfl, HVF.out⟩)⟩
set_option maxRecDepth 20000 in
set_option maxHeartbeats 8000000 in
theorem rreplace_any (v : Value) (E : En) (n : ByteArray) (bo : Option Addr) (bcap : Nat) (l : List ByteArray) (w : World) (hv : Hid (EntV w v E)) (hb : Hid (Bk 900 E)) (hS : Hid (Strs w bo l)) (hl : l.length ≤ 50) (hlc : l.length ≤ bcap) (hls : Hid (∀ x ∈ l, x.size ≤ 1200)) (hn : n.size ≤ 1000) :
  Calls Tryz.prog 32 #[v, .string n, .slice bo l.length bcap] w fun e w' => ResE (replaceE E n.data.toList l) w e w' := by
 have HBD := Lib.hid (bk_bd hb.out (by omega))
 have HRI0 : Hid (∀ W, Below w.heap.size w W → Calls Tryz.prog 17 #[v] W fun e w' => e = .returned (.bool (rightE E)) ∧ Below W.heap.size W w') := fun W h => rright_any v E W (Lib.hid (entV_below hv.out h)) HBD
 have HFI0 : Hid (∀ W, Calls Tryz.prog 16 #[.string n] W fun e w' => e = .returned (resT (findS (sml.lowL n.data.toList))) ∧ Below W.heap.size W w') := fun W => atw.rfind_any n W (by omega)
 have HWI0 : Hid (∀ m p W, m.size ≤ 1000 → Below w.heap.size w W → Calls Tryz.prog 84 #[v, .string m, .slice p 0 0] W fun e w' => EntE (withE E m []) W e w') := fun m p W hm h => rwith_any v E m p 0 [] W (Lib.hid (entV_below hv.out h)) HBD (Lib.hid fun i hi => absurd hi (Nat.not_lt_zero _)) (by simp) (by simp) (by omega)
 have HAD0 : Hid (∀ (nm : ByteArray) vB W, nm.size ≤ 1000 → EntV W vB (withE E nm []) → Below w.heap.size w W → Calls Tryz.prog 29 #[vB, .string n, .slice bo l.length bcap] W fun e w' => ResE (addE (withE E nm []) n.data.toList l) W e w') := fun nm vB W hnm hvB h =>
  radd_any vB (withE E nm []) n bo bcap l W (Lib.hid hvB) (Lib.hid (bk_le (bk_with hb.out hnm (by simp) (by simp)) (by omega))) (Lib.hid (strs_below hS.out h)) hl hlc hls hn
 have HRES : Hid (replaceE E n.data.toList l = match (if rightE E = false then .error 4 else match findS (sml.lowL n.data.toList) with
   | none => .error 14
   | some ty => .ok ty : Except Int Ty) with
  | .error f => .error f
  | .ok ty => if l = [] then .ok (withE E (bs ty.name) []) else addE (withE E (bs ty.name) []) n.data.toList l) := rfl
 obtain ⟨RR, hRR⟩ : ∃ r, replaceE E n.data.toList l = r := ⟨_, rfl⟩
 rw [hRR] at HRES ⊢
 have HR := Lib.hid HRES.out.symm
 clear HRES hRR
 obtain ⟨ro, rc, ao, ac, Nr, N, rfl, HN, HA, hac, HNr, HAv, hrc⟩ := ent_form hv.out
 obtain ⟨W1, hW1⟩ : ∃ W, w.alloc (.cells #[.slice ro Nr rc, .slice ao N ac] 25) = W := ⟨_, rfl⟩
 have hB1 : Below w.heap.size w W1 := by rw [← hW1]; exact (Below.refl _ _).alloc (Nat.le_refl _) _
 have hT1 : EntB W1 w.heap.size (.slice ro Nr rc) (.slice ao N ac) := by rw [← hW1]; exact entB_new _ _ _
 obtain ⟨W2, hW2⟩ : ∃ W, W1.alloc (.cells #[.slice none 0 0, .slice none 0 0] 25) = W := ⟨_, rfl⟩
 have hB2 : Below W1.heap.size W1 W2 := by rw [← hW2]; exact (Below.refl _ _).alloc (Nat.le_refl _) _
 obtain ⟨q, hqq⟩ : ∃ q, W1.heap.size = q := ⟨_, rfl⟩
 have hqw : w.heap.size ≤ q := by rw [← hqq]; exact hB1.size
 have hQ2 : EntB W2 q (.slice none 0 0) (.slice none 0 0) := by rw [← hW2, ← hqq]; exact entB_new _ _ _
 have HB2 := Lib.hid (hB1.trans (hB2.mono hB1.size))
 have HT2 := Lib.hid (entB_below hT1 hB2)
 have HQ2 := Lib.hid hQ2
 obtain ⟨k0, k1⟩ := entB_cells HT2.out
 have hz2 := HB2.out.size
 clear hB1 hB2 hT1 hQ2 hv
 have HRI := Lib.hid (HRI0.out W2 HB2.out)
 clear HRI0
 have HKL : Hid (l = [] ↔ l.length = 0) := List.length_eq_zero_iff.symm
 obtain ⟨K, hK⟩ : ∃ K, l.length = K := ⟨_, rfl⟩
 rw [hK] at HAD0 HKL hl hlc ⊢
 clear hK
 go_enter Tryz.func32, Tryz.ntmps32
 go_wp2_with fail
 refine HRI.out.mono ?_
 rintro e w3 ⟨rfl, hB3⟩
 have HB3 := Lib.hid (HB2.out.trans (hB3.mono HB2.out.size))
 have HT3 := Lib.hid (entB_below HT2.out hB3)
 have HQ3 := Lib.hid (entB_below HQ2.out hB3)
 clear hB3 k0 k1 hW1 hW2 HRI hqq
 cases hr : rightE E with
 | false =>
  rw [hr, if_pos rfl] at HR
  clear hr
  have HBX := HB3
  have HQ := HQ3
  obtain ⟨v0, v1⟩ := entB_cells HQ.out
  have f0 := Lib.frozen_of_heap HQ.out 0
  have f1 := Lib.frozen_of_heap HQ.out 1
  have hq1 := entB_set0 HQ.out (.slice none 0 0)
  have hq2 := entB_set1 hq1 (.slice none 0 0)
  have HQC := Lib.hid (entB_cells hq2)
  have HBF := Lib.hid ((HBX.out.setCell (p := ⟨q, 0, none⟩) hqw (.slice none 0 0)).setCell (p := ⟨q, 1, none⟩) hqw (.slice none 0 0))
  clear hq1 hq2
  go_wp2_with fail
  obtain ⟨r0, r1⟩ := HQC.out
  refine bodyPost_ret (v := .tuple #[.agg #[.slice none 0 0, .slice none 0 0], .int .i64 4]) (by rw [results_cell_tmp rfl]; go_simp) rfl ?_
  exact ⟨HBF.out, (by rw [← HR.out])⟩
 | true =>
  rw [hr, if_neg (by decide)] at HR
  clear hr
  go_wp2_with fail
  refine (HFI0.out _).mono ?_
  rintro e w4 ⟨he, hB4⟩
  have HB4 := Lib.hid (HB3.out.trans (hB4.mono HB3.out.size))
  have HT4 := Lib.hid (entB_below HT3.out hB4)
  have HQ4 := Lib.hid (entB_below HQ3.out hB4)
  clear hB4
  cases hf : findS (sml.lowL n.data.toList) with
  | none =>
   rw [hf] at he HR
   obtain ⟨nm, syn, sg, he2⟩ : ∃ nm syn sg, e = .returned (.tuple #[.agg #[.string nm, .int .i64 syn, .bool sg], .bool false]) := ⟨_, _, _, he⟩
   subst he2
   clear he hf
   have hB5 : Below w4.heap.size w4 (w4.alloc (.cells #[.string nm, .int .i64 syn, .bool sg] 29)) := (Below.refl _ _).alloc (Nat.le_refl _) _
   have HBX := Lib.hid (HB4.out.trans (hB5.mono HB4.out.size))
   have HQ := Lib.hid (entB_below HQ4.out hB5)
   clear hB5
   obtain ⟨v0, v1⟩ := entB_cells HQ.out
   have f0 := Lib.frozen_of_heap HQ.out 0
   have f1 := Lib.frozen_of_heap HQ.out 1
   have hq1 := entB_set0 HQ.out (.slice none 0 0)
   have hq2 := entB_set1 hq1 (.slice none 0 0)
   have HQC := Lib.hid (entB_cells hq2)
   have HBF := Lib.hid ((HBX.out.setCell (p := ⟨q, 0, none⟩) hqw (.slice none 0 0)).setCell (p := ⟨q, 1, none⟩) hqw (.slice none 0 0))
   clear hq1 hq2
   go_wp2_with fail
   obtain ⟨r0, r1⟩ := HQC.out
   refine bodyPost_ret (v := .tuple #[.agg #[.slice none 0 0, .slice none 0 0], .int .i64 14]) (by rw [results_cell_tmp rfl]; go_simp) rfl ?_
   exact ⟨HBF.out, (by rw [← HR.out])⟩
  | some ty =>
   rw [hf] at he HR
   have he2 : e = .returned (.tuple #[.agg #[.string (bs ty.name), .int .i64 ty.syn, .bool ty.single], .bool true]) := he
   subst he2
   clear he
   simp only at HR
   have HNS : Hid ((bs ty.name).size ≤ 1000) := name_size hf
   clear hf
   generalize bs ty.name = nm at HNS HR
   generalize ty.syn = syn
   generalize ty.single = sg
   obtain ⟨wz, hwz⟩ : ∃ W, w4.alloc (.cells #[.string nm, .int .i64 syn, .bool sg] 29) = W := ⟨_, rfl⟩
   have hBz : Below w4.heap.size w4 wz := by rw [← hwz]; exact (Below.refl _ _).alloc (Nat.le_refl _) _
   obtain ⟨tb, htb⟩ : ∃ tb, w4.heap.size = tb := ⟨_, rfl⟩
   have HYz : Hid (TB wz tb nm syn sg) := by rw [← hwz, ← htb]; exact tb_new _ _ _ _
   have HBz := Lib.hid (HB4.out.trans (hBz.mono HB4.out.size))
   have HTz := Lib.hid (entB_below HT4.out hBz)
   have HQz := Lib.hid (entB_below HQ4.out hBz)
   have hEA : Below wz.heap.size wz (wz.alloc (.cells #[] 9)) := (Below.refl _ _).alloc (Nat.le_refl _) _
   obtain ⟨w9, hw9⟩ : ∃ W, wz.alloc (.cells #[] 9) = W := ⟨_, rfl⟩
   rw [hw9] at hEA
   have HBe := Lib.hid (HBz.out.trans (hEA.mono HBz.out.size))
   have HTe := Lib.hid (entB_below HTz.out hEA)
   have HQe := Lib.hid (entB_below HQz.out hEA)
   have HYe := Lib.hid (tb_below HYz.out hEA)
   obtain ⟨y0, y1, y2⟩ := tb_cells HYz.out
   obtain ⟨e0, e1⟩ := entB_cells HTz.out
   have HWC := Lib.hid (HWI0.out nm (some ⟨wz.heap.size, 0, none⟩) w9 HNS.out HBe.out)
   clear hBz hEA HWI0
   go_wp2_with fail
   refine HWC.out.mono ?_
   rintro e w5 ⟨v5, rfl, hv5, hB5⟩
   obtain ⟨r1, n1, c1, r2, n2, c2, rfl⟩ := ent_agg hv5
   have HB5 := Lib.hid (HBe.out.trans (hB5.mono HBe.out.size))
   have HQ5 := Lib.hid (entB_below HQe.out hB5)
   obtain ⟨w6, hw6⟩ : ∃ W, w5.alloc (.cells #[.slice r1 n1 c1, .slice r2 n2 c2] 25) = W := ⟨_, rfl⟩
   have hB6 : Below w5.heap.size w5 w6 := by rw [← hw6]; exact (Below.refl _ _).alloc (Nat.le_refl _) _
   obtain ⟨p6, hp6⟩ : ∃ q, w5.heap.size = q := ⟨_, rfl⟩
   have HP6 : Hid (EntB w6 p6 (.slice r1 n1 c1) (.slice r2 n2 c2)) := by rw [← hw6, ← hp6]; exact entB_new _ _ _
   have HBX := Lib.hid (HB5.out.trans (hB6.mono HB5.out.size))
   have HQ := Lib.hid (entB_below HQ5.out hB6)
   have HV := Lib.hid (entV_below hv5 hB6)
   obtain ⟨m0, m1⟩ := entB_cells HP6.out
   clear hv5 hB5 hB6 e0 e1 y0 y1 y2
   by_cases hK0 : K = 0
   ·have dk : ((K : Int) == 0) = true := by rw [beq_iff_eq]; omega
    rw [if_pos (HKL.out.2 hK0)] at HR
    clear hK0
    obtain ⟨v0, v1⟩ := entB_cells HQ.out
    have f0 := Lib.frozen_of_heap HQ.out 0
    have f1 := Lib.frozen_of_heap HQ.out 1
    have hq1 := entB_set0 HQ.out (.slice r1 n1 c1)
    have hq2 := entB_set1 hq1 (.slice r2 n2 c2)
    have HQC := Lib.hid (entB_cells hq2)
    have HBF := Lib.hid ((HBX.out.setCell (p := ⟨q, 0, none⟩) hqw (.slice r1 n1 c1)).setCell (p := ⟨q, 1, none⟩) hqw (.slice r2 n2 c2))
    have HVF := Lib.hid (entV_set (entV_set HV.out HQ.out (noS_slice _ _ _) (noS_slice _ _ _) 0 (.slice r1 n1 c1)) hq1 (noS_slice _ _ _) (noS_slice _ _ _) 1 (.slice r2 n2 c2))
    clear hq1 hq2
    go_wp2_with fail
    obtain ⟨r0, r1'⟩ := HQC.out
    refine bodyPost_ret (v := .tuple #[.agg #[.slice r1 n1 c1, .slice r2 n2 c2], .int .i64 0]) (by rw [results_cell_tmp rfl]; go_simp) rfl ?_
    exact ⟨HBF.out, (by rw [← HR.out]; exact ⟨_, rfl, HVF.out⟩)⟩
   ·have dk : ((K : Int) == 0) = false := by rw [beq_eq_false_iff_ne]; omega
    rw [if_neg (fun h => hK0 (HKL.out.1 h))] at HR
    have HAD := Lib.hid (HAD0.out nm _ w6 HNS.out HV.out HBX.out)
    clear hK0 HAD0
    go_wp2_with fail
    refine HAD.out.mono ?_
    rintro e w7 ⟨hB7, hres⟩
    have HBX7 := Lib.hid (HBX.out.trans (hB7.mono HBX.out.size))
    have HQ7 := Lib.hid (entB_below HQ.out hB7)
    clear hB7 m0 m1 HBX HQ HV hw6 hp6
    have HBX := HBX7
    have HQ := HQ7
    clear HBX7 HQ7
    cases hadd : addE (withE E nm []) n.data.toList l with
    | error f =>
     rw [hadd] at hres HR
     have hres2 : e = .returned (.tuple #[.agg #[.slice none 0 0, .slice none 0 0], .int .i64 f]) := hres
     subst hres2
     clear hres hadd
     obtain ⟨v0, v1⟩ := entB_cells HQ.out
     have f0 := Lib.frozen_of_heap HQ.out 0
     have f1 := Lib.frozen_of_heap HQ.out 1
     have hq1 := entB_set0 HQ.out (.slice none 0 0)
     have hq2 := entB_set1 hq1 (.slice none 0 0)
     have HQC := Lib.hid (entB_cells hq2)
     have HBF := Lib.hid ((HBX.out.setCell (p := ⟨q, 0, none⟩) hqw (.slice none 0 0)).setCell (p := ⟨q, 1, none⟩) hqw (.slice none 0 0))
     clear hq1 hq2
     go_wp2_with fail
     obtain ⟨r0, r1⟩ := HQC.out
     refine bodyPost_ret (v := .tuple #[.agg #[.slice none 0 0, .slice none 0 0], .int .i64 f]) (by rw [results_cell_tmp rfl]; go_simp) rfl ?_
     exact ⟨HBF.out, (by rw [← HR.out])⟩
    | ok A =>
     rw [hadd] at hres HR
     obtain ⟨v7, rfl, hv7⟩ := hres
     obtain ⟨s1, k1, d1, s2, k2, d2, rfl⟩ := ent_agg hv7
     have HV := Lib.hid hv7
     clear hv7 hadd
     obtain ⟨v0, v1⟩ := entB_cells HQ.out
     have f0 := Lib.frozen_of_heap HQ.out 0
     have f1 := Lib.frozen_of_heap HQ.out 1
     have hq1 := entB_set0 HQ.out (.slice s1 k1 d1)
     have hq2 := entB_set1 hq1 (.slice s2 k2 d2)
     have HQC := Lib.hid (entB_cells hq2)
     have HBF := Lib.hid ((HBX.out.setCell (p := ⟨q, 0, none⟩) hqw (.slice s1 k1 d1)).setCell (p := ⟨q, 1, none⟩) hqw (.slice s2 k2 d2))
     have HVF := Lib.hid (entV_set (entV_set HV.out HQ.out (noS_slice _ _ _) (noS_slice _ _ _) 0 (.slice s1 k1 d1)) hq1 (noS_slice _ _ _) (noS_slice _ _ _) 1 (.slice s2 k2 d2))
     clear hq1 hq2
     go_wp2_with fail
     obtain ⟨r0, r1'⟩ := HQC.out
     refine bodyPost_ret (v := .tuple #[.agg #[.slice s1 k1 d1, .slice s2 k2 d2], .int .i64 0]) (by rw [results_cell_tmp rfl]; go_simp) rfl ?_
     exact ⟨HBF.out, (by rw [← HR.out]; exact ⟨_, rfl, HVF.out⟩)⟩
end etw
end Go.Proofs.YtcolcogobdgejaaGreatDoor
