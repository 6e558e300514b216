/- The walk of the reference's Add. -/
import Derived.Test.YtcolcogobdgejaaGreatDoorYRW
import Derived.Test.YtcolcogobdgejaaGreatDoorC12
import Derived.Test.YtcolcogobdgejaaGreatDoorC9
import Derived.Test.YtcolcogobdgejaaGreatDoorC10
/-! RAddW -/
namespace Go.Proofs.YtcolcogobdgejaaGreatDoor
open Go.RowKit
namespace etw
open atp atw etp
open dnw (Av Avas)
open tupw (Strs strs_below)
set_option linter.unusedVariables false
set_option linter.unusedSimpArgs false
set_option maxRecDepth 20000 in
set_option maxHeartbeats 8000000 in
theorem radd_any (v : Value) (E : En) (n : ByteArray) (bo : Option Addr) (bcap : Nat) (l : List ByteArray) (w : World) (hv : Hid (EntV w v E)) (hb : Hid (Bk 1000 E)) (hS : Hid (Strs w bo l)) (hl : l.length ≤ 50) (hlc : l.length ≤ bcap) (hls : Hid (∀ x ∈ l, x.size ≤ 1200)) (hn : n.size ≤ 1000) :
  Calls Tryz.prog 29 #[v, .string n, .slice bo l.length bcap] w fun e w' => ResE (addE E n.data.toList l) w e w' := by
 have HBD := Lib.hid (bk_bd hb.out (by omega))
 have HRI0 : Hid (∀ W, Below w.heap.size w W → Calls Tryz.prog 17 #[v] W fun e w' => e = .returned (.bool (rightE E)) ∧ Below W.heap.size W w') := fun W h => rright_any v E W (Lib.hid (entV_below hv.out h)) HBD
 have HFI0 : Hid (∀ W, Calls Tryz.prog 16 #[.string n] W fun e w' => e = .returned (resT (findS (sml.lowL n.data.toList))) ∧ Below W.heap.size W w') := fun W => atw.rfind_any n W (by omega)
 have HFA0 : Hid (∀ nm syn sg W, Below w.heap.size w W → Calls Tryz.prog 83 #[.agg #[.string nm, .int .i64 syn, .bool sg], .slice bo l.length bcap] W fun e w' => e = .returned (.int .i64 (faultI syn l)) ∧ Below W.heap.size W w') := fun nm syn sg W h => rfault_any nm syn sg bo bcap l W (Lib.hid (strs_below hS.out h)) (by omega) (Lib.hid fun x hx => by have := hls.out x hx; omega)
 have HVA0 : Hid (∀ m W, Below w.heap.size w W → Calls Tryz.prog 21 #[v, .string m] W fun e w' => ValsE (valsA E.ats m) W e w') := fun m W h => rvals2_any v E m W (Lib.hid (entV_below hv.out h)) HBD
 have HWI0 : Hid (∀ m o c (all : List ByteArray) W, Below w.heap.size w W → m.size ≤ 1000 → Strs W o all → all.length ≤ 1000 → all.length ≤ c → Calls Tryz.prog 84 #[v, .string m, .slice o all.length c] W fun e w' => EntE (withE E m all) W e w') := fun m o c all W h hm hs h1 h2 => rwith_any v E m o c all W (Lib.hid (entV_below hv.out h)) HBD (Lib.hid hs) (by omega) h2 (by omega)
 have HLK0 : Hid (∀ nm syn sg o c k (all : List ByteArray) x W, Hid (k = all.length) → Strs W o all → k ≤ 1000 → (∀ y ∈ all, y.size ≤ 1200) → x.size ≤ 1200 → Calls Tryz.prog 22 #[.agg #[.string nm, .int .i64 syn, .bool sg], .slice o k c, .string x] W fun e w' => e = .returned (.int .i64 (likeI syn all x)) ∧ Below W.heap.size W w') := by
  intro nm syn sg o c k all x W hk hs h1 h2 h3
  have := rlike_any nm syn sg o c all x W (Lib.hid hs) (by rw [← hk.out]; omega) (Lib.hid fun y hy => by have := h2 y hy; omega) (by omega)
  rw [← hk.out] at this
  exact this
 have HVL := Lib.hid (bk_vals hb.out)
 have HRES : Hid (addE E n.data.toList l = match (if rightE E = false then .error 4 else match findS (sml.lowL n.data.toList) with
   | none => .error 14
   | some ty => .ok ty : Except Int Ty) with
  | .error f => .error f
  | .ok ty => if l = [] then .error 1 else if faultI ty.syn l ≠ 0 then .error (faultI ty.syn l) else match joinF ty.syn (valsA E.ats (bs ty.name)) l with
   | none => .error 8
   | some all => if mostT ty.single < all.length then .error 9 else .ok (withE E (bs ty.name) all)) := rfl
 obtain ⟨RR, hRR⟩ : ∃ r, addE E n.data.toList l = r := ⟨_, rfl⟩
 rw [hRR] at HRES ⊢
 have HR := Lib.hid HRES.out.symm
 clear HRES hRR
 obtain ⟨ro, rc, ao, ac, Nr, N, rfl, HN, HA, hac, HNr, HAv, hrc⟩ := ent_form hv.out
 obtain ⟨W1, hW1⟩ : ∃ W, w.alloc (.cells #[.slice ro Nr rc, .slice ao N ac] 25) = W := ⟨_, rfl⟩
 have hB1 : Below w.heap.size w W1 := by rw [← hW1]; exact (Below.refl _ _).alloc (Nat.le_refl _) _
 have hT1 : EntB W1 w.heap.size (.slice ro Nr rc) (.slice ao N ac) := by rw [← hW1]; exact entB_new _ _ _
 obtain ⟨W2, hW2⟩ : ∃ W, W1.alloc (.cells #[.slice none 0 0, .slice none 0 0] 25) = W := ⟨_, rfl⟩
 have hB2 : Below W1.heap.size W1 W2 := by rw [← hW2]; exact (Below.refl _ _).alloc (Nat.le_refl _) _
 obtain ⟨q, hqq⟩ : ∃ q, W1.heap.size = q := ⟨_, rfl⟩
 have hqw : w.heap.size ≤ q := by rw [← hqq]; exact hB1.size
 have hQ2 : EntB W2 q (.slice none 0 0) (.slice none 0 0) := by rw [← hW2, ← hqq]; exact entB_new _ _ _
 have HB2 := Lib.hid (hB1.trans (hB2.mono hB1.size))
 have HT2 := Lib.hid (entB_below hT1 hB2)
 have HQ2 := Lib.hid hQ2
 obtain ⟨k0, k1⟩ := entB_cells HT2.out
 have hz2 := HB2.out.size
 clear hB1 hB2 hT1 hQ2 hv
 have HRI := Lib.hid (HRI0.out W2 HB2.out)
 clear HRI0
 have HKL : Hid (l = [] ↔ l.length = 0) := List.length_eq_zero_iff.symm
 obtain ⟨K, hK⟩ : ∃ K, l.length = K := ⟨_, rfl⟩
 rw [hK] at HFA0 HKL hl hlc ⊢
 have HK := Lib.hid hK
 clear hK
 go_enter Tryz.func29, Tryz.ntmps29
 go_wp2_with fail
 refine HRI.out.mono ?_
 rintro e w3 ⟨rfl, hB3⟩
 have HB3 := Lib.hid (HB2.out.trans (hB3.mono HB2.out.size))
 have HT3 := Lib.hid (entB_below HT2.out hB3)
 have HQ3 := Lib.hid (entB_below HQ2.out hB3)
 clear hB3 k0 k1 hW1 hW2 HRI hqq
 cases hr : rightE E with
 | false =>
  rw [hr, if_pos rfl] at HR
  clear hr
  have HBX := HB3
  have HQ := HQ3
  obtain ⟨v0, v1⟩ := entB_cells HQ.out
  have f0 := Lib.frozen_of_heap HQ.out 0
  have f1 := Lib.frozen_of_heap HQ.out 1
  have hq1 := entB_set0 HQ.out (.slice none 0 0)
  have hq2 := entB_set1 hq1 (.slice none 0 0)
  have HQC := Lib.hid (entB_cells hq2)
  have HBF := Lib.hid ((HBX.out.setCell (p := ⟨q, 0, none⟩) hqw (.slice none 0 0)).setCell (p := ⟨q, 1, none⟩) hqw (.slice none 0 0))
  clear hq1 hq2
  go_wp2_with fail
  obtain ⟨r0, r1⟩ := HQC.out
  refine bodyPost_ret (v := .tuple #[.agg #[.slice none 0 0, .slice none 0 0], .int .i64 4]) (by rw [results_cell_tmp rfl]; go_simp) rfl ?_
  exact ⟨HBF.out, (by rw [← HR.out])⟩
 | true =>
  rw [hr, if_neg (by decide)] at HR
  clear hr
  go_wp2_with fail
  refine (HFI0.out _).mono ?_
  rintro e w4 ⟨he, hB4⟩
  have HB4 := Lib.hid (HB3.out.trans (hB4.mono HB3.out.size))
  have HT4 := Lib.hid (entB_below HT3.out hB4)
  have HQ4 := Lib.hid (entB_below HQ3.out hB4)
  clear hB4
  cases hf : findS (sml.lowL n.data.toList) with
  | none =>
   rw [hf] at he HR
   obtain ⟨nm, syn, sg, he2⟩ : ∃ nm syn sg, e = .returned (.tuple #[.agg #[.string nm, .int .i64 syn, .bool sg], .bool false]) := ⟨_, _, _, he⟩
   subst he2
   clear he hf
   have hB5 : Below w4.heap.size w4 (w4.alloc (.cells #[.string nm, .int .i64 syn, .bool sg] 29)) := (Below.refl _ _).alloc (Nat.le_refl _) _
   have HBX := Lib.hid (HB4.out.trans (hB5.mono HB4.out.size))
   have HQ := Lib.hid (entB_below HQ4.out hB5)
   clear hB5
   obtain ⟨v0, v1⟩ := entB_cells HQ.out
   have f0 := Lib.frozen_of_heap HQ.out 0
   have f1 := Lib.frozen_of_heap HQ.out 1
   have hq1 := entB_set0 HQ.out (.slice none 0 0)
   have hq2 := entB_set1 hq1 (.slice none 0 0)
   have HQC := Lib.hid (entB_cells hq2)
   have HBF := Lib.hid ((HBX.out.setCell (p := ⟨q, 0, none⟩) hqw (.slice none 0 0)).setCell (p := ⟨q, 1, none⟩) hqw (.slice none 0 0))
   clear hq1 hq2
   go_wp2_with fail
   obtain ⟨r0, r1⟩ := HQC.out
   refine bodyPost_ret (v := .tuple #[.agg #[.slice none 0 0, .slice none 0 0], .int .i64 14]) (by rw [results_cell_tmp rfl]; go_simp) rfl ?_
   exact ⟨HBF.out, (by rw [← HR.out])⟩
  | some ty =>
   rw [hf] at he HR
   have he2 : e = .returned (.tuple #[.agg #[.string (bs ty.name), .int .i64 ty.syn, .bool ty.single], .bool true]) := he
   subst he2
   clear he
   simp only at HR
   have HNS : Hid ((bs ty.name).size ≤ 1000) := name_size hf
   clear hf
   have HMO : Hid (∀ nm W, Calls Tryz.prog 67 #[.agg #[.string nm, .int .i64 ty.syn, .bool ty.single]] W fun e w' => e = .returned (.int .i64 (mostT ty.single : Int)) ∧ Below W.heap.size W w') := fun nm W => most_any nm ty.syn ty.single W
   have hm20 : mostT ty.single ≤ 20 := by unfold mostT; split <;> omega
   generalize bs ty.name = nm at HNS HR
   generalize ty.syn = syn at HMO HR
   generalize ty.single = sg at HMO hm20 HR
   generalize mostT sg = MX at HMO hm20 HR
   obtain ⟨w5, hw5⟩ : ∃ W, w4.alloc (.cells #[.string nm, .int .i64 syn, .bool sg] 29) = W := ⟨_, rfl⟩
   have hB5 : Below w4.heap.size w4 w5 := by rw [← hw5]; exact (Below.refl _ _).alloc (Nat.le_refl _) _
   obtain ⟨tb, htb⟩ : ∃ tb, w4.heap.size = tb := ⟨_, rfl⟩
   have HY5 : Hid (TB w5 tb nm syn sg) := by rw [← hw5, ← htb]; exact tb_new _ _ _ _
   have HB5 := Lib.hid (HB4.out.trans (hB5.mono HB4.out.size))
   have HT5 := Lib.hid (entB_below HT4.out hB5)
   have HQ5 := Lib.hid (entB_below HQ4.out hB5)
   obtain ⟨y0, y1, y2⟩ := tb_cells HY5.out
   clear hB5
   by_cases hK0 : K = 0
   ·have hl0 := HKL.out.2 hK0
    have dk : ((K : Int) == 0) = true := by rw [beq_iff_eq]; omega
    rw [if_pos hl0] at HR
    clear hl0
    have HBX := HB5
    have HQ := HQ5
    clear hK0
    obtain ⟨v0, v1⟩ := entB_cells HQ.out
    have f0 := Lib.frozen_of_heap HQ.out 0
    have f1 := Lib.frozen_of_heap HQ.out 1
    have hq1 := entB_set0 HQ.out (.slice none 0 0)
    have hq2 := entB_set1 hq1 (.slice none 0 0)
    have HQC := Lib.hid (entB_cells hq2)
    have HBF := Lib.hid ((HBX.out.setCell (p := ⟨q, 0, none⟩) hqw (.slice none 0 0)).setCell (p := ⟨q, 1, none⟩) hqw (.slice none 0 0))
    clear hq1 hq2
    go_wp2_with fail
    obtain ⟨r0, r1⟩ := HQC.out
    refine bodyPost_ret (v := .tuple #[.agg #[.slice none 0 0, .slice none 0 0], .int .i64 1]) (by rw [results_cell_tmp rfl]; go_simp) rfl ?_
    exact ⟨HBF.out, (by rw [← HR.out])⟩
   ·have dk : ((K : Int) == 0) = false := by rw [beq_eq_false_iff_ne]; omega
    rw [if_neg (fun h => hK0 (HKL.out.1 h))] at HR
    have hKp : 0 < K := by omega
    clear hK0
    have HFA := Lib.hid (HFA0.out nm syn sg w5 HB5.out)
    clear HFA0
    generalize faultI syn l = fa at HFA HR
    go_wp2_with fail
    refine HFA.out.mono ?_
    rintro e w6 ⟨rfl, hB6⟩
    have HB6 := Lib.hid (HB5.out.trans (hB6.mono HB5.out.size))
    have HT6 := Lib.hid (entB_below HT5.out hB6)
    have HQ6 := Lib.hid (entB_below HQ5.out hB6)
    have HY6 := Lib.hid (tb_below HY5.out hB6)
    clear hB6 y0 y1 y2 hw5 htb
    by_cases hfa : fa = 0
    ·have qa : (fa != 0) = false := by rw [bne_eq_false_iff_eq]; exact hfa
     rw [if_neg (not_not_intro hfa)] at HR
     clear hfa
     have HV1 := HVL.out nm
     have hvl1 := HV1.1
     have HV2 := Lib.hid HV1.2
     clear HVL HV1
     have hEA : Below w6.heap.size w6 (w6.alloc (.cells #[] 9)) := (Below.refl _ _).alloc (Nat.le_refl _) _
     have HOE := Lib.hid (own_empty w6 w6.heap.size (Nat.le_refl _))
     obtain ⟨w7, hw7⟩ : ∃ W, w6.alloc (.cells #[] 9) = W := ⟨_, rfl⟩
     rw [hw7] at hEA HOE
     have HEA := Lib.hid hEA
     have HB7 := Lib.hid (HB6.out.trans (hEA.mono HB6.out.size))
     have HT7 := Lib.hid (entB_below HT6.out hEA)
     have HQ7 := Lib.hid (entB_below HQ6.out hEA)
     have HY7 := Lib.hid (tb_below HY6.out hEA)
     have HVA := Lib.hid (HVA0.out nm w7 HB7.out)
     obtain ⟨e0, e1⟩ := entB_cells HT7.out
     obtain ⟨y0, y1, y2⟩ := tb_cells HY7.out
     have HWI : Hid (∀ o c (all : List ByteArray) W, Below w.heap.size w W → Strs W o all → all.length ≤ 1000 → all.length ≤ c → Calls Tryz.prog 84 #[.agg #[.slice ro Nr rc, .slice ao N ac], .string nm, .slice o all.length c] W fun e w' => EntE (withE E nm all) W e w') := fun o c all W h => HWI0.out nm o c all W h HNS.out
     clear HWI0 HVA0 hEA
     generalize valsA E.ats nm = p0 at HVA HV2 hvl1 HR
     go_wp2_with fail
     refine HVA.out.mono ?_
     rintro e w8 ⟨x8, rfl, hx8, hB8⟩
     obtain ⟨a8, n8, c8, rfl, hn8, hc8, hs8⟩ := elem_form hx8
     have HEA8 := Lib.hid (HEA.out.trans (hB8.mono HEA.out.size))
     obtain ⟨a9, m9, c9, w9, hap9, hO9, hB9, hm9⟩ := appAll (dnw.ownT_below HOE.out hB8) hx8 (by simp) (by omega) HEA8.out.size
     rw [List.nil_append] at hO9 hm9
     have HO9 := Lib.hid hO9
     have HM9 := Lib.hid hm9
     have HB69 := Lib.hid (HEA8.out.trans hB9)
     clear hx8 hs8 hO9 hm9 hB9 hB8 e0 e1 y0 y1 y2 HEA8 HEA HOE hw7
     go_wp2_with (at_builtin; refine Lib.wpList_append_run _ rfl _ _ _ _ rfl _ _ rfl rfl _ _ hap9 ?_)
     clear hap9
     go_loopw [11, 12] (fun av iv wr => ∃ (i : Nat) (all : List ByteArray), i ≤ K ∧ iv = .int .i64 (i : Int) ∧ Hid (prw.OwnT wr w6.heap.size av all) ∧ Hid (Below w6.heap.size w6 wr) ∧ Hid (joinF syn p0 l = joinF syn all (l.drop i)) ∧ Hid (all.length ≤ 100 + i) ∧ Hid (∀ y ∈ all, y.size ≤ 1200)) (fun _ iv _ => K - (intOf iv).toNat)
     case atStart => exact ⟨0, p0, Nat.zero_le _, rfl, HO9.out, HB69.out, rfl, (by show _ ≤ _; omega), HV2.out⟩
     case round =>
      obtain ⟨i, all, hi, rfl, hO, hBr, hJ, hLN, hSZ⟩ := hrel
      obtain ⟨aR, nR, cR, rfl, hnR⟩ := dnw.ownT_form hO.out
      have hszr := hBr.out.size
      have HBr := Lib.hid (HB6.out.trans (hBr.out.mono HB6.out.size))
      have HTr := Lib.hid (entB_below HT6.out hBr.out)
      have HQr := Lib.hid (entB_below HQ6.out hBr.out)
      have HYr := Lib.hid (tb_below HY6.out hBr.out)
      obtain ⟨y0, y1, y2⟩ := tb_cells HYr.out
      have hnR100 : nR ≤ 200 := by rw [hnR.out]; have := hLN.out; omega
      by_cases hlt : i < K
      ·have hltI : (i : Int) < (K : Int) := by omega
       have hil : i < l.length := by rw [HK.out]; exact hlt
       obtain ⟨b, o, hbo, hc0⟩ := (strs_below hS.out HBr.out) i hil
       subst hbo
       have hly := World.block_lt_of_cell? wr _ y0
       have hlc0 := World.block_lt_of_cell? wr _ hc0
       have HST := Lib.hid (join_step (syn := syn) (all := all) hil)
       have hxs := hls.out l[i] (List.getElem_mem _)
       obtain ⟨x, hx⟩ : ∃ x, l[i] = x := ⟨_, rfl⟩
       rw [hx] at hc0 HST hxs
       clear hx
       have hg5 : Strs wr aR all := by obtain ⟨g1, g2, g3, g4⟩ := elem_form (own_elem hO.out); simp only [Value.slice.injEq] at g4; obtain ⟨⟨rfl, rfl, rfl⟩, _, _, g5⟩ := g4; exact g5
       have HLK : Hid (∀ W, Below wr.heap.size wr W → Calls Tryz.prog 22 #[.agg #[.string nm, .int .i64 syn, .bool sg], .slice aR nR cR, .string x] W fun e w' => e = .returned (.int .i64 (likeI syn all x)) ∧ Below W.heap.size W w') := fun W h => HLK0.out nm syn sg aR cR nR all x W hnR (strs_below hg5 h) (by omega) hSZ.out hxs
       clear hg5
       generalize hlk : likeI syn all x = lk at HLK HST
       clear hlk
       by_cases hneg : lk < 0
       ·have q2 : decide ((0 : Int) ≤ lk) = false := decide_eq_false (by omega)
        have HJ : Hid (joinF syn p0 l = joinF syn (all ++ [x]) (l.drop (i + 1))) := by
         show _ = _
         rw [hJ.out, HST.out, if_pos hneg]
        clear hneg HST
        go_wp2_with fail
        go_region_held3 (fun W => W.cell? ⟨tb, 0, none⟩ = some (.string nm) ∧ W.cell? ⟨tb, 1, none⟩ = some (.int .i64 syn) ∧ W.cell? ⟨tb, 2, none⟩ = some (.bool sg) ∧ W.cell? ⟨b, o + i, none⟩ = some (.string x)) (first
          | exact ⟨y0, y1, y2, hc0⟩
          | exact ⟨(hB6.cell (p := ⟨tb, 0, none⟩) hly).trans y0, (hB6.cell (p := ⟨tb, 1, none⟩) hly).trans y1, (hB6.cell (p := ⟨tb, 2, none⟩) hly).trans y2, (hB6.cell (p := ⟨b, o + i, none⟩) hlc0).trans hc0⟩)
         (first | (go_at_call 22; refine (HLK.out _ ((Below.refl wr.heap.size wr).drew)).mono ?_; rintro e w6' ⟨rfl, hB6⟩) | fail)
        all_goals
         have hB8 : Below wr.heap.size wr w6' := (Below.refl wr.heap.size wr).drew.trans hB6
         have hBr8 := hBr.out.trans (hB8.mono hszr)
         have hc0' := (hB8.cell (p := ⟨b, o + i, none⟩) hlc0).trans hc0
         obtain ⟨a9, m9, c9, w9, hap, hO9, _, hB9⟩ := dnw.ownT_appG x (dnw.ownT_below hO.out hB8) (by have := hLN.out; omega) hBr8.size
         have HO9 := Lib.hid hO9
         have HB9 := Lib.hid (hBr8.trans hB9)
         have HLN9 : Hid ((all ++ [x]).length ≤ 100 + (i + 1)) := by show _ ≤ _; rw [List.length_append]; have := hLN.out; simp only [List.length_cons, List.length_nil]; omega
         have HSZ9 : Hid (∀ y ∈ all ++ [x], y.size ≤ 1200) := fun y hy => by
          rcases List.mem_append.1 hy with hy | hy
          ·exact hSZ.out y hy
          ·rw [List.mem_singleton] at hy; rw [hy]; exact hxs
         clear hO9 hB9 hBr8 hB8 hB6 y0 y1 y2 hc0
         go_wp2_with (at_builtin; refine Lib.wpList_append_run _ rfl _ _ _ _ rfl _ _ rfl rfl _ _ hap ?_)
         go_roundw
         case rel => exact ⟨i + 1, all ++ [x], by omega, by go_num, HO9.out, HB9, HJ, HLN9, HSZ9⟩
         case measure => simp [intOf]; omega
       ·have q2 : decide ((0 : Int) ≤ lk) = true := decide_eq_true (by omega)
        have HJ : Hid (joinF syn p0 l = none) := by
         show _ = _
         rw [hJ.out, HST.out, if_neg hneg]
        rw [HJ.out] at HR
        clear hneg HST HJ
        simp only at HR
        go_wp2_with fail
        go_region_held3 (fun W => W.cell? ⟨tb, 0, none⟩ = some (.string nm) ∧ W.cell? ⟨tb, 1, none⟩ = some (.int .i64 syn) ∧ W.cell? ⟨tb, 2, none⟩ = some (.bool sg) ∧ W.cell? ⟨b, o + i, none⟩ = some (.string x)) (first
          | exact ⟨y0, y1, y2, hc0⟩
          | exact ⟨(hB6.cell (p := ⟨tb, 0, none⟩) hly).trans y0, (hB6.cell (p := ⟨tb, 1, none⟩) hly).trans y1, (hB6.cell (p := ⟨tb, 2, none⟩) hly).trans y2, (hB6.cell (p := ⟨b, o + i, none⟩) hlc0).trans hc0⟩)
         (first | (go_at_call 22; refine (HLK.out _ ((Below.refl wr.heap.size wr).drew)).mono ?_; rintro e w6' ⟨rfl, hB6⟩) | fail)
        all_goals
         have hB8 : Below wr.heap.size wr w6' := (Below.refl wr.heap.size wr).drew.trans hB6
         have HBX := Lib.hid (HBr.out.trans (hB8.mono HBr.out.size))
         have HQ := Lib.hid (entB_below HQr.out hB8)
         clear hB8 hB6 y0 y1 y2 hc0
         obtain ⟨v0, v1⟩ := entB_cells HQ.out
         have f0 := Lib.frozen_of_heap HQ.out 0
         have f1 := Lib.frozen_of_heap HQ.out 1
         have hq1 := entB_set0 HQ.out (.slice none 0 0)
         have hq2 := entB_set1 hq1 (.slice none 0 0)
         have HQC := Lib.hid (entB_cells hq2)
         have HBF := Lib.hid ((HBX.out.setCell (p := ⟨q, 0, none⟩) hqw (.slice none 0 0)).setCell (p := ⟨q, 1, none⟩) hqw (.slice none 0 0))
         clear hq1 hq2
         go_wp2_with fail
         obtain ⟨r0, r1⟩ := HQC.out
         refine bodyPost_ret (v := .tuple #[.agg #[.slice none 0 0, .slice none 0 0], .int .i64 8]) (by rw [results_cell_tmp rfl]; go_simp) rfl ?_
         exact ⟨HBF.out, (by rw [← HR.out])⟩
      ·obtain rfl : K = i := by omega
       have HJ : Hid (joinF syn p0 l = some all) := by
        show _ = _
        rw [hJ.out, ← HK.out, List.drop_length]; rfl
       rw [HJ.out] at HR
       simp only at HR
       rw [← hnR.out] at HR
       clear HJ
       by_cases hmx : MX < nR
       ·have q3 : decide (MX < nR) = true := decide_eq_true hmx
        rw [if_pos hmx] at HR
        clear hmx
        go_wp2_with fail
        refine (HMO.out _ _).mono ?_
        rintro e w8 ⟨rfl, hB8⟩
        have HBX := Lib.hid (HBr.out.trans (hB8.mono HBr.out.size))
        have HQ := Lib.hid (entB_below HQr.out hB8)
        clear hB8 y0 y1 y2
        obtain ⟨v0, v1⟩ := entB_cells HQ.out
        have f0 := Lib.frozen_of_heap HQ.out 0
        have f1 := Lib.frozen_of_heap HQ.out 1
        have hq1 := entB_set0 HQ.out (.slice none 0 0)
        have hq2 := entB_set1 hq1 (.slice none 0 0)
        have HQC := Lib.hid (entB_cells hq2)
        have HBF := Lib.hid ((HBX.out.setCell (p := ⟨q, 0, none⟩) hqw (.slice none 0 0)).setCell (p := ⟨q, 1, none⟩) hqw (.slice none 0 0))
        clear hq1 hq2
        go_wp2_with fail
        obtain ⟨r0, r1⟩ := HQC.out
        refine bodyPost_ret (v := .tuple #[.agg #[.slice none 0 0, .slice none 0 0], .int .i64 9]) (by rw [results_cell_tmp rfl]; go_simp) rfl ?_
        exact ⟨HBF.out, (by rw [← HR.out])⟩
       ·have q3 : decide (MX < nR) = false := decide_eq_false hmx
        rw [if_neg hmx] at HR
        go_wp2_with fail
        refine (HMO.out _ _).mono ?_
        rintro e w8 ⟨rfl, hB8⟩
        have HB8 := Lib.hid (HBr.out.trans (hB8.mono HBr.out.size))
        obtain ⟨e0, e1⟩ := entB_cells (entB_below HTr.out hB8)
        have HQ8 := Lib.hid (entB_below HQr.out hB8)
        have hz8 := (tb_cells (tb_below HYr.out hB8)).1
        obtain ⟨g1, g2, g3, g4⟩ := elem_form (elem_below (own_elem hO.out) hB8)
        simp only [Value.slice.injEq] at g4
        obtain ⟨⟨rfl, rfl, rfl⟩, g5, g6, g7⟩ := g4
        have HWC0 := HWI.out aR cR all w8 HB8.out g7 (by rw [← g5.out]; omega) (by rw [← g5.out]; exact g6)
        rw [← g5.out] at HWC0
        have HWC := Lib.hid HWC0
        clear hB8 y0 y1 y2 g5 g6 g7 HWC0 hmx
        go_wp2_with fail
        refine HWC.out.mono ?_
        rintro e w9 ⟨v9, rfl, hv9, hB9⟩
        obtain ⟨r1, n1, c1, r2, n2, c2, rfl⟩ := ent_agg hv9
        have HV := Lib.hid hv9
        have HBX := Lib.hid (HB8.out.trans (hB9.mono HB8.out.size))
        have HQ := Lib.hid (entB_below HQ8.out hB9)
        clear hv9 hB9 e0 e1 hz8
        obtain ⟨v0, v1⟩ := entB_cells HQ.out
        have f0 := Lib.frozen_of_heap HQ.out 0
        have f1 := Lib.frozen_of_heap HQ.out 1
        have hq1 := entB_set0 HQ.out (.slice r1 n1 c1)
        have hq2 := entB_set1 hq1 (.slice r2 n2 c2)
        have HQC := Lib.hid (entB_cells hq2)
        have HBF := Lib.hid ((HBX.out.setCell (p := ⟨q, 0, none⟩) hqw (.slice r1 n1 c1)).setCell (p := ⟨q, 1, none⟩) hqw (.slice r2 n2 c2))
        have HVF := Lib.hid (entV_set (entV_set HV.out HQ.out (noS_slice _ _ _) (noS_slice _ _ _) 0 (.slice r1 n1 c1)) hq1 (noS_slice _ _ _) (noS_slice _ _ _) 1 (.slice r2 n2 c2))
        clear hq1 hq2
        go_wp2_with fail
        obtain ⟨r0, r1'⟩ := HQC.out
        refine bodyPost_ret (v := .tuple #[.agg #[.slice r1 n1 c1, .slice r2 n2 c2], .int .i64 0]) (by rw [results_cell_tmp rfl]; go_simp) rfl ?_
        exact ⟨HBF.out, (by rw [← HR.out]; exact ⟨_, rfl, HVF.out⟩)⟩
    ·have qa : (fa != 0) = true := by rw [bne_iff_ne]; exact hfa
     rw [if_pos hfa] at HR
     have HBX := HB6
     have HQ := HQ6
     clear hfa
     obtain ⟨v0, v1⟩ := entB_cells HQ.out
     have f0 := Lib.frozen_of_heap HQ.out 0
     have f1 := Lib.frozen_of_heap HQ.out 1
     have hq1 := entB_set0 HQ.out (.slice none 0 0)
     have hq2 := entB_set1 hq1 (.slice none 0 0)
     have HQC := Lib.hid (entB_cells hq2)
     have HBF := Lib.hid ((HBX.out.setCell (p := ⟨q, 0, none⟩) hqw (.slice none 0 0)).setCell (p := ⟨q, 1, none⟩) hqw (.slice none 0 0))
     clear hq1 hq2
     go_wp2_with fail
     obtain ⟨r0, r1⟩ := HQC.out
     refine bodyPost_ret (v := .tuple #[.agg #[.slice none 0 0, .slice none 0 0], .int .i64 fa]) (by rw [results_cell_tmp rfl]; go_simp) rfl ?_
     exact ⟨HBF.out, (by rw [← HR.out])⟩
end etw
end Go.Proofs.YtcolcogobdgejaaGreatDoor
