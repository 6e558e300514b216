/- The walk of the reference's Remove. -/
import Derived.Test.YtcolcogobdgejaaGreatDoorYRW
import Derived.Test.YtcolcogobdgejaaGreatDoorC12
import Derived.Test.YtcolcogobdgejaaGreatDoorC9
import Derived.Test.YtcolcogobdgejaaGreatDoorC10
import Derived.Test.YtcolcogobdgejaaGreatDoorYRem
/-! RRemW -/
namespace Go.Proofs.YtcolcogobdgejaaGreatDoor
open Go.RowKit
namespace etw
open atp atw etp
open dnw (Av Avas)
open tupw (Strs strs_below)
set_option linter.unusedVariables false
set_option linter.unusedSimpArgs false
theorem elem_take {w : World} {a : Option Addr} {c k : Nat} {l : List ByteArray} (h : Strs w a l) (hk : k ≤ l.length) (hc : k ≤ c) : ElemAt w (.slice a k c) (l.take k) := by
 have hl : (l.take k).length = k := by rw [List.length_take]; omega
 refine ⟨a, c, by rw [hl], by rw [hl]; exact hc, fun i hi => ?_⟩
 rw [hl] at hi
 obtain ⟨b, o, e, hcell⟩ := h i (by omega)
 exact ⟨b, o, e, by rw [List.getElem_take]; exact hcell⟩
theorem elem_drop {w : World} {g o n c k : Nat} {l : List ByteArray} (h : Strs w (some ⟨g, o, none⟩) l) (hn : n = l.length - k) (hc : n ≤ c) : ElemAt w (.slice (some ⟨g, o + k, none⟩) n c) (l.drop k) := by
 have hl : (l.drop k).length = n := by rw [List.length_drop]; omega
 refine ⟨_, c, by rw [hl], by rw [hl]; exact hc, fun i hi => ?_⟩
 rw [hl] at hi
 obtain ⟨b, o', e, hcell⟩ := h (k + i) (by omega)
 simp only [Option.some.injEq, Addr.mk.injEq] at e
 obtain ⟨rfl, rfl, _⟩ := e
 exact ⟨g, o + k, rfl, by rw [List.getElem_drop, Nat.add_assoc]; exact hcell⟩
set_option maxRecDepth 20000 in
set_option maxHeartbeats 8000000 in
theorem rremove_any (v : Value) (E : En) (n : ByteArray) (bo : Option Addr) (bcap : Nat) (l : List ByteArray) (w : World) (hv : Hid (EntV w v E)) (hb : Hid (Bk 1000 E)) (hS : Hid (Strs w bo l)) (hl : l.length ≤ 50) (hlc : l.length ≤ bcap) (hls : Hid (∀ x ∈ l, x.size ≤ 1200)) (hn : n.size ≤ 1000) :
  Calls Tryz.prog 30 #[v, .string n, .slice bo l.length bcap] w fun e w' => ResE (removeE E n.data.toList l) w e w' := by
 have HBD := Lib.hid (bk_bd hb.out (by omega))
 have HRI0 : Hid (∀ W, Below w.heap.size w W → Calls Tryz.prog 17 #[v] W fun e w' => e = .returned (.bool (rightE E)) ∧ Below W.heap.size W w') := fun W h => rright_any v E W (Lib.hid (entV_below hv.out h)) HBD
 have HFI0 : Hid (∀ W, Calls Tryz.prog 16 #[.string n] W fun e w' => e = .returned (resT (findS (sml.lowL n.data.toList))) ∧ Below W.heap.size W w') := fun W => atw.rfind_any n W (by omega)
 have HFA0 : Hid (∀ nm syn sg W, Below w.heap.size w W → Calls Tryz.prog 83 #[.agg #[.string nm, .int .i64 syn, .bool sg], .slice bo l.length bcap] W fun e w' => e = .returned (.int .i64 (faultI syn l)) ∧ Below W.heap.size W w') := fun nm syn sg W h => rfault_any nm syn sg bo bcap l W (Lib.hid (strs_below hS.out h)) (by omega) (Lib.hid fun x hx => by have := hls.out x hx; omega)
 have HVA0 : Hid (∀ m W, Below w.heap.size w W → Calls Tryz.prog 21 #[v, .string m] W fun e w' => ValsE (valsA E.ats m) W e w') := fun m W h => rvals2_any v E m W (Lib.hid (entV_below hv.out h)) HBD
 have HWI0 : Hid (∀ m o c (all : List ByteArray) W, Below w.heap.size w W → m.size ≤ 1000 → Strs W o all → all.length ≤ 1000 → all.length ≤ c → Calls Tryz.prog 84 #[v, .string m, .slice o all.length c] W fun e w' => EntE (withE E m all) W e w') := fun m o c all W h hm hs h1 h2 => rwith_any v E m o c all W (Lib.hid (entV_below hv.out h)) HBD (Lib.hid hs) (by omega) h2 (by omega)
 have HLK0 : Hid (∀ nm syn sg o c k (all : List ByteArray) x W, Hid (k = all.length) → Strs W o all → k ≤ 1000 → (∀ y ∈ all, y.size ≤ 1200) → x.size ≤ 1200 → Calls Tryz.prog 22 #[.agg #[.string nm, .int .i64 syn, .bool sg], .slice o k c, .string x] W fun e w' => e = .returned (.int .i64 (likeI syn all x)) ∧ Below W.heap.size W w') := by
  intro nm syn sg o c k all x W hk hs h1 h2 h3
  have := rlike_any nm syn sg o c all x W (Lib.hid hs) (by rw [← hk.out]; omega) (Lib.hid fun y hy => by have := h2 y hy; omega) (by omega)
  rw [← hk.out] at this
  exact this
 have HVL := Lib.hid (bk_vals hb.out)
 have HRES : Hid (removeE E n.data.toList l = match (if rightE E = false then .error 4 else match findS (sml.lowL n.data.toList) with
   | none => .error 14
   | some ty => .ok ty : Except Int Ty) with
  | .error f => .error f
  | .ok ty => if faultI ty.syn l ≠ 0 then .error (faultI ty.syn l) else if valsA E.ats (bs ty.name) = [] then .error 7 else match dropF ty.syn (valsA E.ats (bs ty.name)) l with
   | none => .error 7
   | some left => .ok (withE E (bs ty.name) (if l = [] then [] else left))) := rfl
 obtain ⟨RR, hRR⟩ : ∃ r, removeE E n.data.toList l = r := ⟨_, rfl⟩
 rw [hRR] at HRES ⊢
 have HR := Lib.hid HRES.out.symm
 clear HRES hRR
 obtain ⟨ro, rc, ao, ac, Nr, N, rfl, HN, HA, hac, HNr, HAv, hrc⟩ := ent_form hv.out
 obtain ⟨W1, hW1⟩ : ∃ W, w.alloc (.cells #[.slice ro Nr rc, .slice ao N ac] 25) = W := ⟨_, rfl⟩
 have hB1 : Below w.heap.size w W1 := by rw [← hW1]; exact (Below.refl _ _).alloc (Nat.le_refl _) _
 have hT1 : EntB W1 w.heap.size (.slice ro Nr rc) (.slice ao N ac) := by rw [← hW1]; exact entB_new _ _ _
 obtain ⟨W2, hW2⟩ : ∃ W, W1.alloc (.cells #[.slice none 0 0, .slice none 0 0] 25) = W := ⟨_, rfl⟩
 have hB2 : Below W1.heap.size W1 W2 := by rw [← hW2]; exact (Below.refl _ _).alloc (Nat.le_refl _) _
 obtain ⟨q, hqq⟩ : ∃ q, W1.heap.size = q := ⟨_, rfl⟩
 have hqw : w.heap.size ≤ q := by rw [← hqq]; exact hB1.size
 have hQ2 : EntB W2 q (.slice none 0 0) (.slice none 0 0) := by rw [← hW2, ← hqq]; exact entB_new _ _ _
 have HB2 := Lib.hid (hB1.trans (hB2.mono hB1.size))
 have HT2 := Lib.hid (entB_below hT1 hB2)
 have HQ2 := Lib.hid hQ2
 obtain ⟨k0, k1⟩ := entB_cells HT2.out
 have hz2 := HB2.out.size
 clear hB1 hB2 hT1 hQ2 hv
 have HRI := Lib.hid (HRI0.out W2 HB2.out)
 clear HRI0
 have HKL : Hid (l = [] ↔ l.length = 0) := List.length_eq_zero_iff.symm
 obtain ⟨K, hK⟩ : ∃ K, l.length = K := ⟨_, rfl⟩
 rw [hK] at HFA0 HKL hl hlc ⊢
 have HK := Lib.hid hK
 clear hK
 go_enter Tryz.func30, Tryz.ntmps30
 go_wp2_with fail
 refine HRI.out.mono ?_
 rintro e w3 ⟨rfl, hB3⟩
 have HB3 := Lib.hid (HB2.out.trans (hB3.mono HB2.out.size))
 have HT3 := Lib.hid (entB_below HT2.out hB3)
 have HQ3 := Lib.hid (entB_below HQ2.out hB3)
 clear hB3 k0 k1 hW1 hW2 HRI hqq
 cases hr : rightE E with
 | false =>
  rw [hr, if_pos rfl] at HR
  clear hr
  have HBX := HB3
  have HQ := HQ3
  obtain ⟨v0, v1⟩ := entB_cells HQ.out
  have f0 := Lib.frozen_of_heap HQ.out 0
  have f1 := Lib.frozen_of_heap HQ.out 1
  have hq1 := entB_set0 HQ.out (.slice none 0 0)
  have hq2 := entB_set1 hq1 (.slice none 0 0)
  have HQC := Lib.hid (entB_cells hq2)
  have HBF := Lib.hid ((HBX.out.setCell (p := ⟨q, 0, none⟩) hqw (.slice none 0 0)).setCell (p := ⟨q, 1, none⟩) hqw (.slice none 0 0))
  clear hq1 hq2
  go_wp2_with fail
  obtain ⟨r0, r1⟩ := HQC.out
  refine bodyPost_ret (v := .tuple #[.agg #[.slice none 0 0, .slice none 0 0], .int .i64 4]) (by rw [results_cell_tmp rfl]; go_simp) rfl ?_
  exact ⟨HBF.out, (by rw [← HR.out])⟩
 | true =>
  rw [hr, if_neg (by decide)] at HR
  clear hr
  go_wp2_with fail
  refine (HFI0.out _).mono ?_
  rintro e w4 ⟨he, hB4⟩
  have HB4 := Lib.hid (HB3.out.trans (hB4.mono HB3.out.size))
  have HT4 := Lib.hid (entB_below HT3.out hB4)
  have HQ4 := Lib.hid (entB_below HQ3.out hB4)
  clear hB4
  cases hf : findS (sml.lowL n.data.toList) with
  | none =>
   rw [hf] at he HR
   obtain ⟨nm, syn, sg, he2⟩ : ∃ nm syn sg, e = .returned (.tuple #[.agg #[.string nm, .int .i64 syn, .bool sg], .bool false]) := ⟨_, _, _, he⟩
   subst he2
   clear he hf
   have hB5 : Below w4.heap.size w4 (w4.alloc (.cells #[.string nm, .int .i64 syn, .bool sg] 29)) := (Below.refl _ _).alloc (Nat.le_refl _) _
   have HBX := Lib.hid (HB4.out.trans (hB5.mono HB4.out.size))
   have HQ := Lib.hid (entB_below HQ4.out hB5)
   clear hB5
   obtain ⟨v0, v1⟩ := entB_cells HQ.out
   have f0 := Lib.frozen_of_heap HQ.out 0
   have f1 := Lib.frozen_of_heap HQ.out 1
   have hq1 := entB_set0 HQ.out (.slice none 0 0)
   have hq2 := entB_set1 hq1 (.slice none 0 0)
   have HQC := Lib.hid (entB_cells hq2)
   have HBF := Lib.hid ((HBX.out.setCell (p := ⟨q, 0, none⟩) hqw (.slice none 0 0)).setCell (p := ⟨q, 1, none⟩) hqw (.slice none 0 0))
   clear hq1 hq2
   go_wp2_with fail
   obtain ⟨r0, r1⟩ := HQC.out
   refine bodyPost_ret (v := .tuple #[.agg #[.slice none 0 0, .slice none 0 0], .int .i64 14]) (by rw [results_cell_tmp rfl]; go_simp) rfl ?_
   exact ⟨HBF.out, (by rw [← HR.out])⟩
  | some ty =>
   rw [hf] at he HR
   have he2 : e = .returned (.tuple #[.agg #[.string (bs ty.name), .int .i64 ty.syn, .bool ty.single], .bool true]) := he
   subst he2
   clear he
   simp only at HR
   have HNS : Hid ((bs ty.name).size ≤ 1000) := name_size hf
   clear hf
   generalize bs ty.name = nm at HNS HR
   generalize ty.syn = syn at HR
   generalize ty.single = sg
   obtain ⟨w5, hw5⟩ : ∃ W, w4.alloc (.cells #[.string nm, .int .i64 syn, .bool sg] 29) = W := ⟨_, rfl⟩
   have hB5 : Below w4.heap.size w4 w5 := by rw [← hw5]; exact (Below.refl _ _).alloc (Nat.le_refl _) _
   obtain ⟨tb, htb⟩ : ∃ tb, w4.heap.size = tb := ⟨_, rfl⟩
   have HY5 : Hid (TB w5 tb nm syn sg) := by rw [← hw5, ← htb]; exact tb_new _ _ _ _
   have HB5 := Lib.hid (HB4.out.trans (hB5.mono HB4.out.size))
   have HT5 := Lib.hid (entB_below HT4.out hB5)
   have HQ5 := Lib.hid (entB_below HQ4.out hB5)
   obtain ⟨y0, y1, y2⟩ := tb_cells HY5.out
   clear hB5
   have HFA := Lib.hid (HFA0.out nm syn sg w5 HB5.out)
   clear HFA0
   generalize faultI syn l = fa at HFA HR
   go_wp2_with fail
   refine HFA.out.mono ?_
   rintro e w6 ⟨rfl, hB6⟩
   have HB6 := Lib.hid (HB5.out.trans (hB6.mono HB5.out.size))
   have HT6 := Lib.hid (entB_below HT5.out hB6)
   have HQ6 := Lib.hid (entB_below HQ5.out hB6)
   have HY6 := Lib.hid (tb_below HY5.out hB6)
   clear hB6 y0 y1 y2 hw5 htb
   by_cases hfa : fa = 0
   ·have qa : (fa != 0) = false := by rw [bne_eq_false_iff_eq]; exact hfa
    rw [if_neg (not_not_intro hfa)] at HR
    clear hfa
    have HV1 := HVL.out nm
    have hvl1 := HV1.1
    have HV2 := Lib.hid HV1.2
    clear HVL HV1
    have HVA := Lib.hid (HVA0.out nm w6 HB6.out)
    obtain ⟨e0, e1⟩ := entB_cells HT6.out
    obtain ⟨y0, y1, y2⟩ := tb_cells HY6.out
    have HWI : Hid (∀ o c (all : List ByteArray) W, Below w.heap.size w W → Strs W o all → all.length ≤ 1000 → all.length ≤ c → Calls Tryz.prog 84 #[.agg #[.slice ro Nr rc, .slice ao N ac], .string nm, .slice o all.length c] W fun e w' => EntE (withE E nm all) W e w') := fun o c all W h => HWI0.out nm o c all W h HNS.out
    clear HWI0 HVA0
    generalize valsA E.ats nm = p0 at HVA HV2 hvl1 HR
    go_wp2_with fail
    refine HVA.out.mono ?_
    rintro e w8 ⟨x8, rfl, hx8, hB8⟩
    obtain ⟨a8, n8, c8, rfl, hn8, hc8, hs8⟩ := elem_form hx8
    have HX8 := Lib.hid hx8
    have HB8 := Lib.hid (HB6.out.trans (hB8.mono HB6.out.size))
    have HT8 := Lib.hid (entB_below HT6.out hB8)
    have HQ8 := Lib.hid (entB_below HQ6.out hB8)
    have HY8 := Lib.hid (tb_below HY6.out hB8)
    have HPE : Hid (p0 = [] ↔ n8 = 0) := by
     have h := hn8.out
     rw [h]
     exact List.length_eq_zero_iff.symm
    clear hx8 hs8 hB8 e0 e1 y0 y1 y2
    by_cases hp : n8 = 0
    ·have d0 : ((n8 : Int) == 0) = true := by rw [beq_iff_eq]; omega
     rw [if_pos (HPE.out.2 hp)] at HR
     have HBX := HB8
     have HQ := HQ8
     clear hp
     obtain ⟨v0, v1⟩ := entB_cells HQ.out
     have f0 := Lib.frozen_of_heap HQ.out 0
     have f1 := Lib.frozen_of_heap HQ.out 1
     have hq1 := entB_set0 HQ.out (.slice none 0 0)
     have hq2 := entB_set1 hq1 (.slice none 0 0)
     have HQC := Lib.hid (entB_cells hq2)
     have HBF := Lib.hid ((HBX.out.setCell (p := ⟨q, 0, none⟩) hqw (.slice none 0 0)).setCell (p := ⟨q, 1, none⟩) hqw (.slice none 0 0))
     clear hq1 hq2
     go_wp2_with fail
     obtain ⟨r0, r1⟩ := HQC.out
     refine bodyPost_ret (v := .tuple #[.agg #[.slice none 0 0, .slice none 0 0], .int .i64 7]) (by rw [results_cell_tmp rfl]; go_simp) rfl ?_
     exact ⟨HBF.out, (by rw [← HR.out])⟩
    ·have d0 : ((n8 : Int) == 0) = false := by rw [beq_eq_false_iff_ne]; omega
     rw [if_neg (fun h => hp (HPE.out.1 h))] at HR
     clear hp HPE
     go_wp2_with fail
     go_loopw [11, 12] (fun av iv wr => ∃ (i : Nat) (left : List ByteArray), i ≤ K ∧ iv = .int .i64 (i : Int) ∧ Hid (ElemAt wr av left) ∧ Hid (Below w8.heap.size w8 wr) ∧ Hid (dropF syn p0 l = dropF syn left (l.drop i)) ∧ Hid (left.length ≤ 100) ∧ Hid (∀ y ∈ left, y.size ≤ 1200)) (fun _ iv _ => K - (intOf iv).toNat)
     case atStart => exact ⟨0, p0, Nat.zero_le _, rfl, HX8.out, Below.refl _ _, rfl, (by show _ ≤ _; omega), HV2.out⟩
     case round =>
      obtain ⟨i, left, hi, rfl, hO, hBr, hJ, hLN, hSZ⟩ := hrel
      obtain ⟨aR, nR, cR, rfl, hnR, hcR, hg5⟩ := elem_form hO.out
      have hszr := hBr.out.size
      have HBr := Lib.hid (HB8.out.trans (hBr.out.mono HB8.out.size))
      have HTr := Lib.hid (entB_below HT8.out hBr.out)
      have HQr := Lib.hid (entB_below HQ8.out hBr.out)
      have HYr := Lib.hid (tb_below HY8.out hBr.out)
      obtain ⟨y0, y1, y2⟩ := tb_cells HYr.out
      have hnR100 : nR ≤ 100 := by rw [hnR.out]; exact hLN.out
      by_cases hlt : i < K
      ·have hltI : (i : Int) < (K : Int) := by omega
       have hil : i < l.length := by rw [HK.out]; exact hlt
       obtain ⟨b, o, hbo, hc0⟩ := (strs_below hS.out HBr.out) i hil
       subst hbo
       have hly := World.block_lt_of_cell? wr _ y0
       have hlc0 := World.block_lt_of_cell? wr _ hc0
       have HST := Lib.hid (drop_step (syn := syn) (left := left) hil)
       have hxs := hls.out l[i] (List.getElem_mem _)
       obtain ⟨x, hx⟩ : ∃ x, l[i] = x := ⟨_, rfl⟩
       rw [hx] at hc0 HST hxs
       clear hx
       have HG5 := Lib.hid hg5
       have HLK : Hid (∀ W, Below wr.heap.size wr W → Calls Tryz.prog 22 #[.agg #[.string nm, .int .i64 syn, .bool sg], .slice aR nR cR, .string x] W fun e w' => e = .returned (.int .i64 (likeI syn left x)) ∧ Below W.heap.size W w') := fun W h => HLK0.out nm syn sg aR cR nR left x W hnR (strs_below HG5.out h) (by omega) hSZ.out hxs
       clear hg5
       have HLI : Hid (likeI syn left x = match likeN syn left x with
        | some i => (i : Int)
        | none => -1) := rfl
       generalize likeI syn left x = lk at HLK HLI
       cases hln : likeN syn left x with
       | none =>
        rw [hln] at HST HLI
        have hlk : lk = -1 := HLI.out
        subst hlk
        have HJ : Hid (dropF syn p0 l = none) := by
         show _ = _
         rw [hJ.out, HST.out]
        rw [HJ.out] at HR
        clear HST HJ hln HLI
        simp only at HR
        go_wp2_with fail
        go_region_held3 (fun W => W.cell? ⟨tb, 0, none⟩ = some (.string nm) ∧ W.cell? ⟨tb, 1, none⟩ = some (.int .i64 syn) ∧ W.cell? ⟨tb, 2, none⟩ = some (.bool sg) ∧ W.cell? ⟨b, o + i, none⟩ = some (.string x)) (first
          | exact ⟨y0, y1, y2, hc0⟩
          | exact ⟨(hB6.cell (p := ⟨tb, 0, none⟩) hly).trans y0, (hB6.cell (p := ⟨tb, 1, none⟩) hly).trans y1, (hB6.cell (p := ⟨tb, 2, none⟩) hly).trans y2, (hB6.cell (p := ⟨b, o + i, none⟩) hlc0).trans hc0⟩)
         (first | (go_at_call 22; refine (HLK.out _ ((Below.refl wr.heap.size wr).drew)).mono ?_; rintro e w6' ⟨rfl, hB6⟩) | fail)
        all_goals
         have hB8 : Below wr.heap.size wr w6' := (Below.refl wr.heap.size wr).drew.trans hB6
         have HBX := Lib.hid (HBr.out.trans (hB8.mono HBr.out.size))
         have HQ := Lib.hid (entB_below HQr.out hB8)
         clear hB8 hB6 y0 y1 y2 hc0
         obtain ⟨v0, v1⟩ := entB_cells HQ.out
         have f0 := Lib.frozen_of_heap HQ.out 0
         have f1 := Lib.frozen_of_heap HQ.out 1
         have hq1 := entB_set0 HQ.out (.slice none 0 0)
         have hq2 := entB_set1 hq1 (.slice none 0 0)
         have HQC := Lib.hid (entB_cells hq2)
         have HBF := Lib.hid ((HBX.out.setCell (p := ⟨q, 0, none⟩) hqw (.slice none 0 0)).setCell (p := ⟨q, 1, none⟩) hqw (.slice none 0 0))
         clear hq1 hq2
         go_wp2_with fail
         obtain ⟨r0, r1⟩ := HQC.out
         refine bodyPost_ret (v := .tuple #[.agg #[.slice none 0 0, .slice none 0 0], .int .i64 7]) (by rw [results_cell_tmp rfl]; go_simp) rfl ?_
         exact ⟨HBF.out, (by rw [← HR.out])⟩
       | some k =>
        rw [hln] at HST HLI
        have hkl0 := (likeN_some hln).1
        have hkR : k < nR := by rw [hnR.out]; exact hkl0
        have HKLL := Lib.hid hkl0
        have hlk : lk = (k : Int) := HLI.out
        subst hlk
        have HJ : Hid (dropF syn p0 l = dropF syn (left.take k ++ left.drop (k + 1)) (l.drop (i + 1))) := by
         show _ = _
         rw [hJ.out, HST.out]
        obtain ⟨g, oR, haR⟩ : ∃ g oR, aR = some ⟨g, oR, none⟩ := by obtain ⟨g, oR, h, _⟩ := HG5.out k hkl0; exact ⟨g, oR, h⟩
        subst haR
        clear HST hln HLI hkl0
        have q2 : decide ((k : Int) < 0) = false := decide_eq_false (by omega)
        go_wp2_with fail
        go_region_held3 (fun W => W.cell? ⟨tb, 0, none⟩ = some (.string nm) ∧ W.cell? ⟨tb, 1, none⟩ = some (.int .i64 syn) ∧ W.cell? ⟨tb, 2, none⟩ = some (.bool sg) ∧ W.cell? ⟨b, o + i, none⟩ = some (.string x)) (first
          | exact ⟨y0, y1, y2, hc0⟩
          | exact ⟨(hB6.cell (p := ⟨tb, 0, none⟩) hly).trans y0, (hB6.cell (p := ⟨tb, 1, none⟩) hly).trans y1, (hB6.cell (p := ⟨tb, 2, none⟩) hly).trans y2, (hB6.cell (p := ⟨b, o + i, none⟩) hlc0).trans hc0⟩)
         (first | (go_at_call 22; refine (HLK.out _ ((Below.refl wr.heap.size wr).drew)).mono ?_; rintro e w6' ⟨rfl, hB6⟩) | fail)
        all_goals
         have hB8 : Below wr.heap.size wr w6' := (Below.refl wr.heap.size wr).drew.trans hB6
         have hkl := HKLL.out
         have hg5 := HG5.out
         have hnl := hnR.out
         by_cases hck : cR = k + 1
         ·have hnk : nR = k + 1 := by omega
          have hd0 : left.drop (k + 1) = [] := List.drop_eq_nil_of_le (by omega)
          have hnn := hnl
          subst hck hnk
          clear hnl
          have HSZ9 : Hid (∀ y ∈ left.take k ++ left.drop (k + 1), y.size ≤ 1200) := fun y hy => by
           rcases List.mem_append.1 hy with hy | hy
           ·exact hSZ.out y (List.mem_of_mem_take hy)
           ·exact hSZ.out y (List.mem_of_mem_drop hy)
          have hEA : Below w6'.heap.size w6' (w6'.alloc (.cells #[] 9)) := (Below.refl _ _).alloc (Nat.le_refl _) _
          have hOE := own_empty w6' w6'.heap.size (Nat.le_refl _)
          obtain ⟨w7, hw7⟩ : ∃ W, w6'.alloc (.cells #[] 9) = W := ⟨_, rfl⟩
          rw [hw7] at hEA hOE
          have hsE := strs_below hg5 (hB8.trans (hEA.mono hB8.size))
          obtain ⟨aA, mA, cA, wA, hapA, hOA, hBA, hmA⟩ := appAll hOE (elem_take (k := k) (c := k + 1) hsE (by omega) (by omega)) (by simp) (by rw [List.length_take]; have := hLN.out; omega) hEA.size
          have hB6A := hEA.trans hBA
          rw [List.nil_append] at hOA
          obtain ⟨aB, mB, cB, wB, hapB, hOB, hBB, hmB⟩ := appAll hOA ((by rw [hd0]; exact ⟨some ⟨g, oR, none⟩, 0, rfl, Nat.le_refl _, fun i hi => absurd hi (Nat.not_lt_zero _)⟩ : ElemAt wA (.slice (some ⟨g, oR, none⟩) 0 0) (left.drop (k + 1)))) (by rw [List.length_take]; have := hLN.out; omega) (by rw [List.length_drop]; have := hLN.out; omega) hB6A.size
          have hBF := hB8.trans ((hB6A.trans hBB).mono hB8.size)
          have HBF := Lib.hid (hBr.out.trans (hBF.mono hszr))
          have HEF := Lib.hid (own_elem hOB)
          have HLN9 : Hid ((left.take k ++ left.drop (k + 1)).length ≤ 100) := by show _ ≤ _; rw [List.length_append, List.length_take, List.length_drop]; have := hLN.out; omega
          have hapA := dnw.ApR.mk hapA
          have hapB := dnw.ApR.mk hapB
          try clear hnn hd0
          try clear hnl2
          clear hsE hOA hOB hBA hBB hB6A hBF hB8 hB6 hEA hOE hmA hmB y0 y1 y2 hc0 hg5
          go_wp2_with (first | (at_builtin; refine dnw.wp_apR rfl _ _ _ _ rfl _ _ hapA ?_) | (at_builtin; refine dnw.wp_apR rfl _ _ _ _ rfl _ _ hapB ?_))
          go_roundw
          case rel => exact ⟨i + 1, left.take k ++ left.drop (k + 1), by omega, by go_num, HEF.out, HBF, HJ, HLN9, HSZ9⟩
          case measure => simp [intOf]; omega
         ·have hck2 : k + 1 < cR := by omega
          have hnl2 := hnl
          clear hnl
          have HSZ9 : Hid (∀ y ∈ left.take k ++ left.drop (k + 1), y.size ≤ 1200) := fun y hy => by
           rcases List.mem_append.1 hy with hy | hy
           ·exact hSZ.out y (List.mem_of_mem_take hy)
           ·exact hSZ.out y (List.mem_of_mem_drop hy)
          have hEA : Below w6'.heap.size w6' (w6'.alloc (.cells #[] 9)) := (Below.refl _ _).alloc (Nat.le_refl _) _
          have hOE := own_empty w6' w6'.heap.size (Nat.le_refl _)
          obtain ⟨w7, hw7⟩ : ∃ W, w6'.alloc (.cells #[] 9) = W := ⟨_, rfl⟩
          rw [hw7] at hEA hOE
          have hsE := strs_below hg5 (hB8.trans (hEA.mono hB8.size))
          obtain ⟨aA, mA, cA, wA, hapA, hOA, hBA, hmA⟩ := appAll hOE (elem_take (k := k) (c := cR) hsE (by omega) (by omega)) (by simp) (by rw [List.length_take]; have := hLN.out; omega) hEA.size
          have hB6A := hEA.trans hBA
          rw [List.nil_append] at hOA
          obtain ⟨aB, mB, cB, wB, hapB, hOB, hBB, hmB⟩ := appAll hOA (elem_drop (k := k + 1) (n := nR - (k + 1)) (c := cR - (k + 1)) (strs_below hg5 (hB8.trans (hB6A.mono hB8.size))) (by omega) (by omega)) (by rw [List.length_take]; have := hLN.out; omega) (by rw [List.length_drop]; have := hLN.out; omega) hB6A.size
          have hBF := hB8.trans ((hB6A.trans hBB).mono hB8.size)
          have HBF := Lib.hid (hBr.out.trans (hBF.mono hszr))
          have HEF := Lib.hid (own_elem hOB)
          have HLN9 : Hid ((left.take k ++ left.drop (k + 1)).length ≤ 100) := by show _ ≤ _; rw [List.length_append, List.length_take, List.length_drop]; have := hLN.out; omega
          have hapA := dnw.ApR.mk hapA
          have hapB := dnw.ApR.mk hapB
          try clear hnn hd0
          try clear hnl2
          clear hsE hOA hOB hBA hBB hB6A hBF hB8 hB6 hEA hOE hmA hmB y0 y1 y2 hc0 hg5
          go_wp2_with (first | (at_builtin; refine dnw.wp_apR rfl _ _ _ _ rfl _ _ hapA ?_) | (at_builtin; refine dnw.wp_apR rfl _ _ _ _ rfl _ _ hapB ?_))
          go_roundw
          case rel => exact ⟨i + 1, left.take k ++ left.drop (k + 1), by omega, by go_num, HEF.out, HBF, HJ, HLN9, HSZ9⟩
          case measure => simp [intOf]; omega
      ·obtain rfl : K = i := by omega
       have HJ : Hid (dropF syn p0 l = some left) := by
        show _ = _
        rw [hJ.out, ← HK.out, List.drop_length]; rfl
       rw [HJ.out] at HR
       simp only at HR
       clear HJ
       have HG5 := Lib.hid hg5
       clear hg5
       by_cases hK0 : K = 0
       ·have dk : ((K : Int) == 0) = true := by rw [beq_iff_eq]; omega
        rw [if_pos (HKL.out.2 hK0)] at HR
        have hEA : Below wr.heap.size wr (wr.alloc (.cells #[] 9)) := (Below.refl _ _).alloc (Nat.le_refl _) _
        obtain ⟨w7, hw7⟩ : ∃ W, wr.alloc (.cells #[] 9) = W := ⟨_, rfl⟩
        rw [hw7] at hEA
        have HB7 := Lib.hid (HBr.out.trans (hEA.mono HBr.out.size))
        have HQ7 := Lib.hid (entB_below HQr.out hEA)
        obtain ⟨e0, e1⟩ := entB_cells (entB_below HTr.out hEA)
        clear y0 y1 y2
        obtain ⟨y0, y1, y2⟩ := tb_cells (tb_below HYr.out hEA)
        have HWC0 : Calls Tryz.prog 84 #[.agg #[.slice ro Nr rc, .slice ao N ac], .string nm, .slice (some ⟨wr.heap.size, 0, none⟩) 0 0] w7 fun e w' => EntE (withE E nm []) w7 e w' := HWI.out (some ⟨wr.heap.size, 0, none⟩) 0 [] w7 HB7.out (fun i hi => absurd hi (Nat.not_lt_zero _)) (by simp) (by simp)
        have HWC := Lib.hid HWC0
        clear hK0 HWC0 hEA
        go_wp2_with fail
        refine HWC.out.mono ?_
        rintro e w9 ⟨v9, rfl, hv9, hB9⟩
        obtain ⟨r1, n1, c1, r2, n2, c2, rfl⟩ := ent_agg hv9
        have HV := Lib.hid hv9
        have HBX := Lib.hid (HB7.out.trans (hB9.mono HB7.out.size))
        have HQ := Lib.hid (entB_below HQ7.out hB9)
        clear hv9 hB9 e0 e1 y0 y1 y2
        obtain ⟨v0, v1⟩ := entB_cells HQ.out
        have f0 := Lib.frozen_of_heap HQ.out 0
        have f1 := Lib.frozen_of_heap HQ.out 1
        have hq1 := entB_set0 HQ.out (.slice r1 n1 c1)
        have hq2 := entB_set1 hq1 (.slice r2 n2 c2)
        have HQC := Lib.hid (entB_cells hq2)
        have HBF := Lib.hid ((HBX.out.setCell (p := ⟨q, 0, none⟩) hqw (.slice r1 n1 c1)).setCell (p := ⟨q, 1, none⟩) hqw (.slice r2 n2 c2))
        have HVF := Lib.hid (entV_set (entV_set HV.out HQ.out (noS_slice _ _ _) (noS_slice _ _ _) 0 (.slice r1 n1 c1)) hq1 (noS_slice _ _ _) (noS_slice _ _ _) 1 (.slice r2 n2 c2))
        clear hq1 hq2
        go_wp2_with fail
        obtain ⟨r0, r1'⟩ := HQC.out
        refine bodyPost_ret (v := .tuple #[.agg #[.slice r1 n1 c1, .slice r2 n2 c2], .int .i64 0]) (by rw [results_cell_tmp rfl]; go_simp) rfl ?_
        exact ⟨HBF.out, (by rw [← HR.out]; exact ⟨_, rfl, HVF.out⟩)⟩
       ·have dk : ((K : Int) == 0) = false := by rw [beq_eq_false_iff_ne]; omega
        rw [if_neg (fun h => hK0 (HKL.out.1 h))] at HR
        have HWC0 := HWI.out aR cR left wr HBr.out HG5.out (by rw [← hnR.out]; omega) (by rw [← hnR.out]; exact hcR)
        rw [← hnR.out] at HWC0
        have HWC := Lib.hid HWC0
        obtain ⟨e0, e1⟩ := entB_cells HTr.out
        clear hK0 HWC0
        go_wp2_with fail
        refine HWC.out.mono ?_
        rintro e w9 ⟨v9, rfl, hv9, hB9⟩
        obtain ⟨r1, n1, c1, r2, n2, c2, rfl⟩ := ent_agg hv9
        have HV := Lib.hid hv9
        have HBX := Lib.hid (HBr.out.trans (hB9.mono HBr.out.size))
        have HQ := Lib.hid (entB_below HQr.out hB9)
        clear hv9 hB9 e0 e1 y0 y1 y2
        obtain ⟨v0, v1⟩ := entB_cells HQ.out
        have f0 := Lib.frozen_of_heap HQ.out 0
        have f1 := Lib.frozen_of_heap HQ.out 1
        have hq1 := entB_set0 HQ.out (.slice r1 n1 c1)
        have hq2 := entB_set1 hq1 (.slice r2 n2 c2)
        have HQC := Lib.hid (entB_cells hq2)
        have HBF := Lib.hid ((HBX.out.setCell (p := ⟨q, 0, none⟩) hqw (.slice r1 n1 c1)).setCell (p := ⟨q, 1, none⟩) hqw (.slice r2 n2 c2))
        have HVF := Lib.hid (entV_set (entV_set HV.out HQ.out (noS_slice _ _ _) (noS_slice _ _ _) 0 (.slice r1 n1 c1)) hq1 (noS_slice _ _ _) (noS_slice _ _ _) 1 (.slice r2 n2 c2))
        clear hq1 hq2
        go_wp2_with fail
        obtain ⟨r0, r1'⟩ := HQC.out
        refine bodyPost_ret (v := .tuple #[.agg #[.slice r1 n1 c1, .slice r2 n2 c2], .int .i64 0]) (by rw [results_cell_tmp rfl]; go_simp) rfl ?_
        exact ⟨HBF.out, (by rw [← HR.out]; exact ⟨_, rfl, HVF.out⟩)⟩
   ·have qa : (fa != 0) = true := by rw [bne_iff_ne]; exact hfa
    rw [if_pos hfa] at HR
    have HBX := HB6
    have HQ := HQ6
    clear hfa
    obtain ⟨v0, v1⟩ := entB_cells HQ.out
    have f0 := Lib.frozen_of_heap HQ.out 0
    have f1 := Lib.frozen_of_heap HQ.out 1
    have hq1 := entB_set0 HQ.out (.slice none 0 0)
    have hq2 := entB_set1 hq1 (.slice none 0 0)
    have HQC := Lib.hid (entB_cells hq2)
    have HBF := Lib.hid ((HBX.out.setCell (p := ⟨q, 0, none⟩) hqw (.slice none 0 0)).setCell (p := ⟨q, 1, none⟩) hqw (.slice none 0 0))
    clear hq1 hq2
    go_wp2_with fail
    obtain ⟨r0, r1⟩ := HQC.out
    refine bodyPost_ret (v := .tuple #[.agg #[.slice none 0 0, .slice none 0 0], .int .i64 fa]) (by rw [results_cell_tmp rfl]; go_simp) rfl ?_
    exact ⟨HBF.out, (by rw [← HR.out])⟩
end etw
end Go.Proofs.YtcolcogobdgejaaGreatDoor
