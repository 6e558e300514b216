/- One text out of several: AddW, NamedW, EAwakW, ELongW, SynW. -/
import Derived.Test.YtcolcogobdgejaaGreatDoorC10
import Derived.Test.YtcolcogobdgejaaGreatDoorC1
import Derived.Test.YtcolcogobdgejaaGreatDoorC9
import Derived.Test.YtcolcogobdgejaaGreatDoorC5
/-! AddW -/
namespace Go.Proofs.YtcolcogobdgejaaGreatDoor
open Go.RowKit
namespace etw
open atp atw etp
open dnw (Av Avas)
open tupw (Strs strs_below)
set_option linter.unusedVariables false
set_option linter.unusedSimpArgs false
set_option maxRecDepth 20000 in
set_option maxHeartbeats 8000000 in
theorem add_any (v : Value) (E : En) (n : ByteArray) (bo : Option Addr) (bcap : Nat) (l : List ByteArray) (w : World) (hv : Hid (EntV w v E)) (hb : Hid (Bk 1000 E)) (hS : Hid (Strs w bo l)) (hl : l.length ≤ 50) (hlc : l.length ≤ bcap) (hls : Hid (∀ x ∈ l, x.size ≤ 1200)) (hn : n.size ≤ 1000) (hE : Hid (EnvE w)) :
  Calls Tryz.prog 24 #[v, .string n, .slice bo l.length bcap] w fun e w' => ResE (addE E n.data.toList l) w e w' := by
 have HBD := Lib.hid (bk_bd hb.out (by omega))
 have HFI0 : Hid (∀ W, Below w.heap.size w W → Calls Tryz.prog 75 #[v, .string n] W fun e w' => FindR (findE E n.data.toList) e ∧ Below W.heap.size W w') := fun W h => finde_any v E n W (Lib.hid (entV_below hv.out h)) HBD (by omega) (Lib.hid (envE_below hE.out h))
 have HFA0 : Hid (∀ nm syn sg W, Below w.heap.size w W → Calls Tryz.prog 76 #[.agg #[.string nm, .int .i64 syn, .bool sg], .slice bo l.length bcap] W fun e w' => e = .returned (.int .i64 (faultI syn l)) ∧ Below W.heap.size W w') := fun nm syn sg W h => fault_any nm syn sg bo bcap l W (Lib.hid (strs_below hS.out h)) (by omega) (Lib.hid fun x hx => by have := hls.out x hx; omega) (Lib.hid (envE_below hE.out h))
 have HVA0 : Hid (∀ m W, Below w.heap.size w W → Calls Tryz.prog 72 #[v, .string m] W fun e w' => ValsE (valsA E.ats m) W e w') := fun m W h => vals_any v E m W (Lib.hid (entV_below hv.out h)) HBD
 have HWI0 : Hid (∀ m o c (all : List ByteArray) W, Below w.heap.size w W → Strs W o all → all.length ≤ 1000 → all.length ≤ c → Calls Tryz.prog 78 #[v, .string m, .slice o all.length c] W fun e w' => EntE (withE E m all) W e w') := fun m o c all W h hs h1 h2 => with_any v E m o c all W (Lib.hid (entV_below hv.out h)) HBD (Lib.hid hs) (by omega) h2
 have HLK0 : Hid (∀ nm syn sg o c k (all : List ByteArray) x W, Hid (k = all.length) → Strs W o all → k ≤ 1000 → (∀ y ∈ all, y.size ≤ 1200) → x.size ≤ 1200 → EnvE W → Calls Tryz.prog 73 #[.agg #[.string nm, .int .i64 syn, .bool sg], .slice o k c, .string x] W fun e w' => e = .returned (.int .i64 (likeI syn all x)) ∧ Below W.heap.size W w') := by
  intro nm syn sg o c k all x W hk hs h1 h2 h3 he
  have := like_any nm syn sg o c all x W (Lib.hid hs) (by rw [← hk.out]; omega) (Lib.hid fun y hy => by have := h2 y hy; omega) (by omega) (Lib.hid he)
  rw [← hk.out] at this
  exact this
 have HVL := Lib.hid (bk_vals hb.out)
 have HRES : Hid (addE E n.data.toList l = match findE E n.data.toList with
  | .error f => .error f
  | .ok ty => if l = [] then .error 1 else if faultI ty.syn l ≠ 0 then .error (faultI ty.syn l) else match joinF ty.syn (valsA E.ats (bs ty.name)) l with
   | none => .error 8
   | some all => if mostT ty.single < all.length then .error 9 else .ok (withE E (bs ty.name) all)) := rfl
 obtain ⟨RR, hRR⟩ : ∃ r, addE E n.data.toList l = r := ⟨_, rfl⟩
 rw [hRR] at HRES ⊢
 have HR := Lib.hid HRES.out.symm
 clear HRES hRR
 obtain ⟨ro, rc, ao, ac, Nr, N, rfl, HN, HA, hac, HNr, HAv, hrc⟩ := ent_form hv.out
 obtain ⟨W1, hW1⟩ : ∃ W, w.alloc (.cells #[.slice ro Nr rc, .slice ao N ac] 25) = W := ⟨_, rfl⟩
 have hB1 : Below w.heap.size w W1 := by rw [← hW1]; exact (Below.refl _ _).alloc (Nat.le_refl _) _
 have hT1 : EntB W1 w.heap.size (.slice ro Nr rc) (.slice ao N ac) := by rw [← hW1]; exact entB_new _ _ _
 obtain ⟨W2, hW2⟩ : ∃ W, W1.alloc (.cells #[.slice none 0 0, .slice none 0 0] 25) = W := ⟨_, rfl⟩
 have hB2 : Below W1.heap.size W1 W2 := by rw [← hW2]; exact (Below.refl _ _).alloc (Nat.le_refl _) _
 obtain ⟨q, hqq⟩ : ∃ q, W1.heap.size = q := ⟨_, rfl⟩
 have hqw : w.heap.size ≤ q := by rw [← hqq]; exact hB1.size
 have hQ2 : EntB W2 q (.slice none 0 0) (.slice none 0 0) := by rw [← hW2, ← hqq]; exact entB_new _ _ _
 have HB2 := Lib.hid (hB1.trans (hB2.mono hB1.size))
 have HT2 := Lib.hid (entB_below hT1 hB2)
 have HQ2 := Lib.hid hQ2
 obtain ⟨k0, k1⟩ := entB_cells HT2.out
 have hz2 := HB2.out.size
 clear hB1 hB2 hT1 hQ2 hv
 have HFI := Lib.hid (HFI0.out W2 HB2.out)
 clear HFI0
 have HKL : Hid (l = [] ↔ l.length = 0) := List.length_eq_zero_iff.symm
 obtain ⟨K, hK⟩ : ∃ K, l.length = K := ⟨_, rfl⟩
 rw [hK] at HFA0 HKL hl hlc ⊢
 have HK := Lib.hid hK
 clear hK
 go_enter Tryz.func24, Tryz.ntmps24
 go_wp2_with fail
 refine HFI.out.mono ?_
 rintro e w3 ⟨hfr, hB3⟩
 have HB3 := Lib.hid (HB2.out.trans (hB3.mono hz2))
 have HT3 := Lib.hid (entB_below HT2.out hB3)
 have HQ3 := Lib.hid (entB_below HQ2.out hB3)
 clear hB3 k0 k1 hW1 hW2 HFI hqq
 cases hfe : findE E n.data.toList with
 | error f =>
  rw [hfe] at hfr HR
  have hfr2 : e = .returned (.tuple #[.agg #[.string ⟨#[]⟩, .int .i64 0, .bool false], .int .i64 f]) := hfr
  have hf0 : f ≠ 0 := find_err hfe
  have qf : (f != 0) = true := by rw [bne_iff_ne]; exact hf0
  subst hfr2
  clear hfr hfe hf0
  have hB4 : Below w3.heap.size w3 (w3.alloc (.cells #[.string ⟨#[]⟩, .int .i64 0, .bool false] 29)) := (Below.refl _ _).alloc (Nat.le_refl _) _
  have HBX := Lib.hid (HB3.out.trans (hB4.mono HB3.out.size))
  have HQ := Lib.hid (entB_below HQ3.out hB4)
  clear hB4
  obtain ⟨v0, v1⟩ := entB_cells HQ.out
  have f0 := Lib.frozen_of_heap HQ.out 0
  have f1 := Lib.frozen_of_heap HQ.out 1
  have hq1 := entB_set0 HQ.out (.slice none 0 0)
  have hq2 := entB_set1 hq1 (.slice none 0 0)
  have HQC := Lib.hid (entB_cells hq2)
  have HBF := Lib.hid ((HBX.out.setCell (p := ⟨q, 0, none⟩) hqw (.slice none 0 0)).setCell (p := ⟨q, 1, none⟩) hqw (.slice none 0 0))
  clear hq1 hq2
  go_wp2_with fail
  obtain ⟨r0, r1⟩ := HQC.out
  refine bodyPost_ret (v := .tuple #[.agg #[.slice none 0 0, .slice none 0 0], .int .i64 f]) (by rw [results_cell_tmp rfl]; go_simp) rfl ?_
  exact ⟨HBF.out, (by rw [← HR.out])⟩
 | ok ty =>
  rw [hfe] at hfr HR
  have hfr2 : e = .returned (.tuple #[.agg #[.string (bs ty.name), .int .i64 ty.syn, .bool ty.single], .int .i64 0]) := hfr
  subst hfr2
  clear hfr
  simp only at HR
  have HNS : Hid ((bs ty.name).size ≤ 1000) := name_size (findE_ok hfe).2
  clear hfe
  have HMO : Hid (∀ nm W, Calls Tryz.prog 77 #[.agg #[.string nm, .int .i64 ty.syn, .bool ty.single]] W fun e w' => e = .returned (.int .i64 (mostT ty.single : Int)) ∧ Below W.heap.size W w') := fun nm W => room_any nm ty.syn ty.single W
  have hm20 : mostT ty.single ≤ 20 := by unfold mostT; split <;> omega
  generalize bs ty.name = nm at HNS HR
  generalize ty.syn = syn at HMO HR
  generalize ty.single = sg at HMO hm20 HR
  generalize mostT sg = MX at HMO hm20 HR
  obtain ⟨w4, hw4⟩ : ∃ W, w3.alloc (.cells #[.string nm, .int .i64 syn, .bool sg] 29) = W := ⟨_, rfl⟩
  have hB4 : Below w3.heap.size w3 w4 := by rw [← hw4]; exact (Below.refl _ _).alloc (Nat.le_refl _) _
  obtain ⟨tb, htb⟩ : ∃ tb, w3.heap.size = tb := ⟨_, rfl⟩
  have HY4 : Hid (TB w4 tb nm syn sg) := by rw [← hw4, ← htb]; exact tb_new _ _ _ _
  have HB4 := Lib.hid (HB3.out.trans (hB4.mono HB3.out.size))
  have HT4 := Lib.hid (entB_below HT3.out hB4)
  have HQ4 := Lib.hid (entB_below HQ3.out hB4)
  obtain ⟨y0, y1, y2⟩ := tb_cells HY4.out
  clear hB4
  by_cases hK0 : K = 0
  ·have hl0 := HKL.out.2 hK0
   have dk : ((K : Int) == 0) = true := by rw [beq_iff_eq]; omega
   rw [if_pos hl0] at HR
   clear hl0
   have HBX := HB4
   have HQ := HQ4
   clear hK0
   obtain ⟨v0, v1⟩ := entB_cells HQ.out
   have f0 := Lib.frozen_of_heap HQ.out 0
   have f1 := Lib.frozen_of_heap HQ.out 1
   have hq1 := entB_set0 HQ.out (.slice none 0 0)
   have hq2 := entB_set1 hq1 (.slice none 0 0)
   have HQC := Lib.hid (entB_cells hq2)
   have HBF := Lib.hid ((HBX.out.setCell (p := ⟨q, 0, none⟩) hqw (.slice none 0 0)).setCell (p := ⟨q, 1, none⟩) hqw (.slice none 0 0))
   clear hq1 hq2
   go_wp2_with fail
   obtain ⟨r0, r1⟩ := HQC.out
   refine bodyPost_ret (v := .tuple #[.agg #[.slice none 0 0, .slice none 0 0], .int .i64 1]) (by rw [results_cell_tmp rfl]; go_simp) rfl ?_
   exact ⟨HBF.out, (by rw [← HR.out])⟩
  ·have dk : ((K : Int) == 0) = false := by rw [beq_eq_false_iff_ne]; omega
   rw [if_neg (fun h => hK0 (HKL.out.1 h))] at HR
   have hKp : 0 < K := by omega
   clear hK0
   have HFA := Lib.hid (HFA0.out nm syn sg w4 HB4.out)
   clear HFA0
   generalize faultI syn l = fa at HFA HR
   go_wp2_with fail
   refine HFA.out.mono ?_
   rintro e w5 ⟨rfl, hB5⟩
   have HB5 := Lib.hid (HB4.out.trans (hB5.mono HB4.out.size))
   have HT5 := Lib.hid (entB_below HT4.out hB5)
   have HQ5 := Lib.hid (entB_below HQ4.out hB5)
   have HY5 := Lib.hid (tb_below HY4.out hB5)
   clear hB5 y0 y1 y2 hw4 htb
   by_cases hfa : fa = 0
   ·have qa : (fa != 0) = false := by rw [bne_eq_false_iff_eq]; exact hfa
    rw [if_neg (not_not_intro hfa)] at HR
    clear hfa
    have HVA := Lib.hid (HVA0.out nm w5 HB5.out)
    have HV1 := HVL.out nm
    have hvl1 := HV1.1
    have HV2 := Lib.hid HV1.2
    clear HVA0 HVL HV1
    obtain ⟨e0, e1⟩ := entB_cells HT5.out
    obtain ⟨y0, y1, y2⟩ := tb_cells HY5.out
    have HWI : Hid (∀ o c (all : List ByteArray) W, Below w.heap.size w W → Strs W o all → all.length ≤ 1000 → all.length ≤ c → Calls Tryz.prog 78 #[.agg #[.slice ro Nr rc, .slice ao N ac], .string nm, .slice o all.length c] W fun e w' => EntE (withE E nm all) W e w') := fun o c all W => HWI0.out nm o c all W
    clear HWI0
    generalize valsA E.ats nm = p0 at HVA HV2 hvl1 HR
    go_wp2_with fail
    refine HVA.out.mono ?_
    rintro e w6 ⟨x6, rfl, hx6, hB6⟩
    have HCL := Lib.hid (clone_any x6 p0 w6 hx6 (by omega))
    have HB6 := Lib.hid (HB5.out.trans (hB6.mono HB5.out.size))
    have HT6 := Lib.hid (entB_below HT5.out hB6)
    have HQ6 := Lib.hid (entB_below HQ5.out hB6)
    have HY6 := Lib.hid (tb_below HY5.out hB6)
    clear hx6 hB6 e0 e1 y0 y1 y2
    go_wp2_with fail
    refine HCL.out.mono ?_
    rintro e w7 ⟨x7, rfl, ho7, hB7⟩
    have HO7 := Lib.hid ho7
    obtain ⟨a7, n7, c7, rfl, hn7⟩ := dnw.ownT_form ho7
    have HB67 := Lib.hid hB7
    clear ho7 hB7 HCL
    go_wp2_with fail
    go_loopw [11, 44] (fun av iv wr => ∃ (i : Nat) (all : List ByteArray), i ≤ K ∧ iv = .int .i64 (i : Int) ∧ Hid (prw.OwnT wr w6.heap.size av all) ∧ Hid (Below w6.heap.size w6 wr) ∧ Hid (joinF syn p0 l = joinF syn all (l.drop i)) ∧ Hid (all.length ≤ 100 + i) ∧ Hid (∀ y ∈ all, y.size ≤ 1200)) (fun _ iv _ => K - (intOf iv).toNat)
    case atStart => exact ⟨0, p0, Nat.zero_le _, rfl, HO7.out, HB67.out, rfl, (by show _ ≤ _; omega), HV2.out⟩
    case round =>
     obtain ⟨i, all, hi, rfl, hO, hBr, hJ, hLN, hSZ⟩ := hrel
     obtain ⟨aR, nR, cR, rfl, hnR⟩ := dnw.ownT_form hO.out
     have hszr := hBr.out.size
     have HBr := Lib.hid (HB6.out.trans (hBr.out.mono HB6.out.size))
     have HTr := Lib.hid (entB_below HT6.out hBr.out)
     have HQr := Lib.hid (entB_below HQ6.out hBr.out)
     have HYr := Lib.hid (tb_below HY6.out hBr.out)
     obtain ⟨y0, y1, y2⟩ := tb_cells HYr.out
     have hnR100 : nR ≤ 200 := by rw [hnR.out]; have := hLN.out; omega
     by_cases hlt : i < K
     ·have hltI : (i : Int) < (K : Int) := by omega
      have hil : i < l.length := by rw [HK.out]; exact hlt
      obtain ⟨b, o, hbo, hc0⟩ := (strs_below hS.out HBr.out) i hil
      subst hbo
      have HST := Lib.hid (join_step (syn := syn) (all := all) hil)
      have hxs := hls.out l[i] (List.getElem_mem _)
      obtain ⟨x, hx⟩ : ∃ x, l[i] = x := ⟨_, rfl⟩
      rw [hx] at hc0 HST hxs
      clear hx
      have HLK := Lib.hid (HLK0.out nm syn sg aR cR nR all x wr hnR (by obtain ⟨g1, g2, g3, g4⟩ := elem_form (own_elem hO.out); simp only [Value.slice.injEq] at g4; obtain ⟨⟨rfl, rfl, rfl⟩, _, _, g5⟩ := g4; exact g5) (by omega) hSZ.out hxs (envE_below hE.out HBr.out))
      generalize hlk : likeI syn all x = lk at HLK HST
      clear hlk
      by_cases hneg : lk < 0
      ·have q2 : decide ((0 : Int) ≤ lk) = false := decide_eq_false (by omega)
       have HJ : Hid (joinF syn p0 l = joinF syn (all ++ [x]) (l.drop (i + 1))) := by
        show _ = _
        rw [hJ.out, HST.out, if_pos hneg]
       clear hneg HST
       go_wp2_with fail
       refine HLK.out.mono ?_
       rintro e w8 ⟨rfl, hB8⟩
       have hBr8 := hBr.out.trans (hB8.mono hszr)
       obtain ⟨a9, m9, c9, w9, hap, hO9, _, hB9⟩ := dnw.ownT_appG x (dnw.ownT_below hO.out hB8) (by have := hLN.out; omega) hBr8.size
       have HO9 := Lib.hid hO9
       have HB9 := Lib.hid (hBr8.trans hB9)
       have HLN9 : Hid ((all ++ [x]).length ≤ 100 + (i + 1)) := by show _ ≤ _; rw [List.length_append]; have := hLN.out; simp only [List.length_cons, List.length_nil]; omega
       have HSZ9 : Hid (∀ y ∈ all ++ [x], y.size ≤ 1200) := fun y hy => by
        rcases List.mem_append.1 hy with hy | hy
        ·exact hSZ.out y hy
        ·rw [List.mem_singleton] at hy; rw [hy]; exact hxs
       clear hO9 hB9 hBr8 hB8 y0 y1 y2 hc0
       go_wp2_with (at_builtin; refine Lib.wpList_append_run _ rfl _ _ _ _ rfl _ _ rfl rfl _ _ hap ?_)
       go_roundw
       case rel => exact ⟨i + 1, all ++ [x], by omega, by go_num, HO9.out, HB9, HJ, HLN9, HSZ9⟩
       case measure => simp [intOf]; omega
      ·have q2 : decide ((0 : Int) ≤ lk) = true := decide_eq_true (by omega)
       have HJ : Hid (joinF syn p0 l = none) := by
        show _ = _
        rw [hJ.out, HST.out, if_neg hneg]
       rw [HJ.out] at HR
       clear hneg HST HJ
       simp only at HR
       go_wp2_with fail
       refine HLK.out.mono ?_
       rintro e w8 ⟨rfl, hB8⟩
       have HBX := Lib.hid (HBr.out.trans (hB8.mono HBr.out.size))
       have HQ := Lib.hid (entB_below HQr.out hB8)
       clear hB8 y0 y1 y2 hc0
       obtain ⟨v0, v1⟩ := entB_cells HQ.out
       have f0 := Lib.frozen_of_heap HQ.out 0
       have f1 := Lib.frozen_of_heap HQ.out 1
       have hq1 := entB_set0 HQ.out (.slice none 0 0)
       have hq2 := entB_set1 hq1 (.slice none 0 0)
       have HQC := Lib.hid (entB_cells hq2)
       have HBF := Lib.hid ((HBX.out.setCell (p := ⟨q, 0, none⟩) hqw (.slice none 0 0)).setCell (p := ⟨q, 1, none⟩) hqw (.slice none 0 0))
       clear hq1 hq2
       go_wp2_with fail
       obtain ⟨r0, r1⟩ := HQC.out
       refine bodyPost_ret (v := .tuple #[.agg #[.slice none 0 0, .slice none 0 0], .int .i64 8]) (by rw [results_cell_tmp rfl]; go_simp) rfl ?_
       exact ⟨HBF.out, (by rw [← HR.out])⟩
     ·obtain rfl : K = i := by omega
      have HJ : Hid (joinF syn p0 l = some all) := by
       show _ = _
       rw [hJ.out, ← HK.out, List.drop_length]; rfl
      rw [HJ.out] at HR
      simp only at HR
      rw [← hnR.out] at HR
      clear HJ
      by_cases hmx : MX < nR
      ·have q3 : decide (MX < nR) = true := decide_eq_true hmx
       rw [if_pos hmx] at HR
       clear hmx
       go_wp2_with fail
       refine (HMO.out _ _).mono ?_
       rintro e w8 ⟨rfl, hB8⟩
       have HBX := Lib.hid (HBr.out.trans (hB8.mono HBr.out.size))
       have HQ := Lib.hid (entB_below HQr.out hB8)
       clear hB8 y0 y1 y2
       obtain ⟨v0, v1⟩ := entB_cells HQ.out
       have f0 := Lib.frozen_of_heap HQ.out 0
       have f1 := Lib.frozen_of_heap HQ.out 1
       have hq1 := entB_set0 HQ.out (.slice none 0 0)
       have hq2 := entB_set1 hq1 (.slice none 0 0)
       have HQC := Lib.hid (entB_cells hq2)
       have HBF := Lib.hid ((HBX.out.setCell (p := ⟨q, 0, none⟩) hqw (.slice none 0 0)).setCell (p := ⟨q, 1, none⟩) hqw (.slice none 0 0))
       clear hq1 hq2
       go_wp2_with fail
       obtain ⟨r0, r1⟩ := HQC.out
       refine bodyPost_ret (v := .tuple #[.agg #[.slice none 0 0, .slice none 0 0], .int .i64 9]) (by rw [results_cell_tmp rfl]; go_simp) rfl ?_
       exact ⟨HBF.out, (by rw [← HR.out])⟩
      ·have q3 : decide (MX < nR) = false := decide_eq_false hmx
       rw [if_neg hmx] at HR
       go_wp2_with fail
       refine (HMO.out _ _).mono ?_
       rintro e w8 ⟨rfl, hB8⟩
       have HB8 := Lib.hid (HBr.out.trans (hB8.mono HBr.out.size))
       obtain ⟨e0, e1⟩ := entB_cells (entB_below HTr.out hB8)
       have HQ8 := Lib.hid (entB_below HQr.out hB8)
       have hz8 := (tb_cells (tb_below HYr.out hB8)).1
       obtain ⟨g1, g2, g3, g4⟩ := elem_form (elem_below (own_elem hO.out) hB8)
       simp only [Value.slice.injEq] at g4
       obtain ⟨⟨rfl, rfl, rfl⟩, g5, g6, g7⟩ := g4
       have HWC0 := HWI.out aR cR all w8 HB8.out g7 (by rw [← g5.out]; omega) (by rw [← g5.out]; exact g6)
       rw [← g5.out] at HWC0
       have HWC := Lib.hid HWC0
       clear hB8 y0 y1 y2 g5 g6 g7 HWC0 hmx
       go_wp2_with fail
       refine HWC.out.mono ?_
       rintro e w9 ⟨v9, rfl, hv9, hB9⟩
       obtain ⟨r1, n1, c1, r2, n2, c2, rfl⟩ := ent_agg hv9
       have HV := Lib.hid hv9
       have HBX := Lib.hid (HB8.out.trans (hB9.mono HB8.out.size))
       have HQ := Lib.hid (entB_below HQ8.out hB9)
       clear hv9 hB9 e0 e1 hz8
       obtain ⟨v0, v1⟩ := entB_cells HQ.out
       have f0 := Lib.frozen_of_heap HQ.out 0
       have f1 := Lib.frozen_of_heap HQ.out 1
       have hq1 := entB_set0 HQ.out (.slice r1 n1 c1)
       have hq2 := entB_set1 hq1 (.slice r2 n2 c2)
       have HQC := Lib.hid (entB_cells hq2)
       have HBF := Lib.hid ((HBX.out.setCell (p := ⟨q, 0, none⟩) hqw (.slice r1 n1 c1)).setCell (p := ⟨q, 1, none⟩) hqw (.slice r2 n2 c2))
       have HVF := Lib.hid (entV_set (entV_set HV.out HQ.out (noS_slice _ _ _) (noS_slice _ _ _) 0 (.slice r1 n1 c1)) hq1 (noS_slice _ _ _) (noS_slice _ _ _) 1 (.slice r2 n2 c2))
       clear hq1 hq2
       go_wp2_with fail
       obtain ⟨r0, r1'⟩ := HQC.out
       refine bodyPost_ret (v := .tuple #[.agg #[.slice r1 n1 c1, .slice r2 n2 c2], .int .i64 0]) (by rw [results_cell_tmp rfl]; go_simp) rfl ?_
       exact ⟨HBF.out, (by rw [← HR.out]; exact ⟨_, rfl, HVF.out⟩)⟩
   ·have qa : (fa != 0) = true := by rw [bne_iff_ne]; exact hfa
    rw [if_pos hfa] at HR
    have HBX := HB5
    have HQ := HQ5
    clear hfa
    obtain ⟨v0, v1⟩ := entB_cells HQ.out
    have f0 := Lib.frozen_of_heap HQ.out 0
    have f1 := Lib.frozen_of_heap HQ.out 1
    have hq1 := entB_set0 HQ.out (.slice none 0 0)
    have hq2 := entB_set1 hq1 (.slice none 0 0)
    have HQC := Lib.hid (entB_cells hq2)
    have HBF := Lib.hid ((HBX.out.setCell (p := ⟨q, 0, none⟩) hqw (.slice none 0 0)).setCell (p := ⟨q, 1, none⟩) hqw (.slice none 0 0))
    clear hq1 hq2
    go_wp2_with fail
    obtain ⟨r0, r1⟩ := HQC.out
    refine bodyPost_ret (v := .tuple #[.agg #[.slice none 0 0, .slice none 0 0], .int .i64 fa]) (by rw [results_cell_tmp rfl]; go_simp) rfl ?_
    exact ⟨HBF.out, (by rw [← HR.out])⟩
end etw
end Go.Proofs.YtcolcogobdgejaaGreatDoor
/-! NamedW -/
namespace Go.Proofs.YtcolcogobdgejaaGreatDoor
open Go.RowKit
namespace etw
open atp atw etp
open dnw (Av Avas)
open tupw (Strs strs_below)
set_option linter.unusedVariables false
set_option linter.unusedSimpArgs false
theorem like_nil (syn : Int) (v : ByteArray) : likeI syn [] v = -1 := rfl
theorem vals_not {L : List At} {n : ByteArray} (h : atsF none L = true) (hn : tyOf n = none) : valsA L n = [] := by
 refine find_no fun a ha e => ?_
 have := ((atsF_iff L none).1 h).1 a ha
 unfold atOK at this
 rw [e, hn] at this
 cases this
theorem named_step {L : List At} {a : Av} {ty : Ty} (h : atsF none L = true) (hf : findS (sml.lowL a.t.data.toList) = some ty) : namedA L a = decide (0 ≤ likeI ty.syn (valsA L a.t) a.v) := by
 have hn := find_name hf
 unfold namedA
 show (match tyOf a.t with
  | none => false
  | some ty => decide (0 ≤ likeI ty.syn (valsA L a.t) a.v)) = _
 by_cases e : bs ty.name = a.t
 ·rw [if_pos e] at hn
  rw [hn]
 ·rw [if_neg e] at hn
  rw [hn, vals_not h hn, like_nil]
  rfl
theorem named_none {L : List At} {a : Av} (hf : findS (sml.lowL a.t.data.toList) = none) : namedA L a = false := by
 unfold namedA
 have := find_none hf
 unfold tyOf at this
 rw [this]
theorem all_step {α : Type} {f : α → Bool} {l : List α} {i : Nat} (h : i < l.length) : (l.drop i).all f = (f l[i] && (l.drop (i + 1)).all f) := by
 rw [List.drop_eq_getElem_cons h, List.all_cons]
def AvaB (w : World) (p : Nat) (t v : ByteArray) : Prop := w.heap[p]? = some (.cells #[.string t, .string v] 62 (0, 0))
theorem avaB_new (w : World) (t v : ByteArray) : AvaB (w.alloc (.cells #[.string t, .string v] 62)) w.heap.size t v := heap_alloc_new w _
theorem avaB_cells {w : World} {p : Nat} {t v : ByteArray} (h : AvaB w p t v) : w.cell? ⟨p, 0, none⟩ = some (.string t) ∧ w.cell? ⟨p, 1, none⟩ = some (.string v) :=
 ⟨by rw [Lib.cell_of_heap h]; rfl, by rw [Lib.cell_of_heap h]; rfl⟩
theorem avaB_below {w w' : World} {p : Nat} {t v : ByteArray} (h : AvaB w p t v) (hb : Below w.heap.size w w') : AvaB w' p t v := (hb.block p (kt.bld_lt h)).trans h
set_option maxRecDepth 20000 in
set_option maxHeartbeats 4000000 in
theorem named_any (v : Value) (E : En) (w : World) (hv : Hid (EntV w v E)) (hb : Hid (Bd E)) (hE : Hid (EnvE w)) :
  Calls Tryz.prog 35 #[v] w fun e w' => e = .returned (.bool (namedE E)) ∧ Below w.heap.size w w' := by
 have HRI0 : Hid (∀ W, Below w.heap.size w W → Calls Tryz.prog 26 #[v] W fun e w' => e = .returned (.bool (rightE E)) ∧ Below W.heap.size W w') := fun W h => right_any v E W (Lib.hid (entV_below hv.out h)) hb (Lib.hid (envE_below hE.out h))
 have HV0 : Hid (∀ m W, Below w.heap.size w W → Calls Tryz.prog 72 #[v, .string m] W fun e w' => ValsE (valsA E.ats m) W e w') := fun m W h => vals_any v E m W (Lib.hid (entV_below hv.out h)) hb
 have HK0 : Hid (∀ nm syn sg m a c k (x : ByteArray) W, x.size ≤ 140737488351232 → Hid (k = (valsA E.ats m).length) → Strs W a (valsA E.ats m) → EnvE W → Calls Tryz.prog 73 #[.agg #[.string nm, .int .i64 syn, .bool sg], .slice a k c, .string x] W fun e w' => e = .returned (.int .i64 (likeI syn (valsA E.ats m) x)) ∧ Below W.heap.size W w') := by
  intro nm syn sg m a c k x W hx hk hs he
  have := like_any nm syn sg a c (valsA E.ats m) x W (Lib.hid hs) (by have := (vals_len hb.out m).1; omega) (vals_fit hb.out m) hx (Lib.hid he)
  rw [← hk.out] at this
  exact this
 have HRS := Lib.hid hb.out.rs
 have HNE : Hid (namedE E = (rightE E && E.rdn.all (namedA E.ats))) := rfl
 have HAF : Hid (rightE E = true → atsF none E.ats = true) := fun h => (right_iff.1 h).2
 obtain ⟨ro, rc, ao, ac, Nr, N, rfl, HN, HA, hac, HNr, HAv, hrc⟩ := ent_form hv.out
 have hNrb : Nr ≤ 100000 := by rw [← HNr.out]; exact hb.out.rl
 obtain ⟨rdn, L⟩ := E
 simp only at HN HA HNr HAv HRS HNE HAF HK0 HV0
 obtain ⟨W1, hW1⟩ : ∃ W, w.alloc (.cells #[.slice ro Nr rc, .slice ao N ac] 25) = W := ⟨_, rfl⟩
 have hB1 : Below w.heap.size w W1 := by rw [← hW1]; exact (Below.refl _ _).alloc (Nat.le_refl _) _
 have HT1 : Hid (EntB W1 w.heap.size (.slice ro Nr rc) (.slice ao N ac)) := by rw [← hW1]; exact entB_new _ _ _
 obtain ⟨k0, k1⟩ := entB_cells HT1.out
 have HB1 := Lib.hid hB1
 have hs1 := hB1.size
 have HRI := Lib.hid (HRI0.out W1 hB1)
 rw [HNE.out]
 clear hB1 HRI0 HNE hv
 cases hr : rightE ⟨rdn, L⟩ with
 | false =>
  rw [hr] at HRI
  clear hr
  go_enter Tryz.func35, Tryz.ntmps35
  go_wp2_with fail
  refine HRI.out.mono ?_
  rintro e w2 ⟨rfl, hB2⟩
  have HB2 := Lib.hid (HB1.out.trans (hB2.mono hs1))
  clear hB2 k0 k1 hW1
  go_wp2_with fail
  go_ret
  exact ⟨rfl, HB2.out⟩
 | true =>
  have HAT := Lib.hid (HAF.out hr)
  rw [hr] at HRI
  rw [Bool.true_and]
  clear hr HAF
  go_enter Tryz.func35, Tryz.ntmps35
  go_wp2_with fail
  refine HRI.out.mono ?_
  rintro e w0 ⟨rfl, hB0⟩
  have HB0 := Lib.hid (HB1.out.trans (hB0.mono hs1))
  have HT0 := Lib.hid (entB_below HT1.out hB0)
  obtain ⟨m0, m1⟩ := entB_cells HT0.out
  have hs0 := HB0.out.size
  clear hB0 k0 k1 hW1 HRI HT1 HB1 hs1
  have HB1 := HB0
  have hs1 := hs0
  go_wp2_with fail
  go_loopw [13] (fun iv wr => ∃ i : Nat, i ≤ Nr ∧ iv = .int .i64 (i : Int) ∧ Hid (Below w0.heap.size w0 wr) ∧ Hid (rdn.all (namedA L) = (rdn.drop i).all (namedA L))) (fun iv _ => Nr - (intOf iv).toNat)
  case atStart => exact ⟨0, Nat.zero_le _, rfl, Below.refl _ _, rfl⟩
  case round =>
   obtain ⟨i, hi, rfl, hB, hJ⟩ := hrel
   have hsz := hB.out.size
   have HBw := Lib.hid (HB1.out.trans (hB.out.mono hs1))
   have HTr := Lib.hid (entB_below HT0.out hB.out)
   by_cases hlt : i < Nr
   ·have hltI : (i : Int) < (Nr : Int) := by omega
    have hil : i < rdn.length := by rw [HNr.out]; exact hlt
    obtain ⟨b, o, hro, q0, q1⟩ := (dnw.avas_below HAv.out HBw.out) i hil
    subst hro
    have HST := Lib.hid (all_step (f := namedA L) hil)
    have hbd := HRS.out rdn[i] (List.getElem_mem _)
    obtain ⟨a, ha⟩ : ∃ a, rdn[i] = a := ⟨_, rfl⟩
    rw [ha] at HST hbd q0 q1
    clear ha
    have hts := hbd.1
    have hvs := hbd.2
    obtain ⟨Wa, hWa⟩ : ∃ W, wr.alloc (.cells #[.string a.t, .string a.v] 62) = W := ⟨_, rfl⟩
    have hBA : Below wr.heap.size wr Wa := by rw [← hWa]; exact (Below.refl _ _).alloc (Nat.le_refl _) _
    have HTA : Hid (AvaB Wa wr.heap.size a.t a.v) := by rw [← hWa]; exact avaB_new _ _ _
    have HYr : Hid (TyEnv Wa) := (envE_below (envE_below hE.out HBw.out) hBA).y
    have HBA := Lib.hid hBA
    obtain ⟨xa, xb⟩ := avaB_cells HTA.out
    have HFD0 : Hid (∀ W, TyEnv W → Calls Tryz.prog 70 #[.string a.t] W fun e w' => e = .returned (resT (findS (sml.lowL a.t.data.toList))) ∧ Below W.heap.size W w') := fun W hy => find_any a.t W (by omega) (Lib.hid hy)
    clear hbd hBA
    cases hfd : findS (sml.lowL a.t.data.toList) with
    | none =>
     rw [hfd] at HFD0
     obtain ⟨nm, syn, sg, HFD⟩ : ∃ nm syn sg, Hid (∀ W, TyEnv W → Calls Tryz.prog 70 #[.string a.t] W fun e w' => e = .returned (.tuple #[.agg #[.string nm, .int .i64 syn, .bool sg], .bool false]) ∧ Below W.heap.size W w') := ⟨_, _, _, HFD0⟩
     have HJ : Hid (rdn.all (namedA L) = false) := by
      show _ = _
      rw [hJ.out, HST.out, named_none hfd]; rfl
     clear hfd HFD0 HV0 HK0
     go_wp2_with fail
     refine (HFD.out _ HYr.out).mono ?_
     rintro e w2 ⟨rfl, hB2⟩
     obtain ⟨w3, hw3⟩ : ∃ W, w2.alloc (.cells #[.string nm, .int .i64 syn, .bool sg] 29) = W := ⟨_, rfl⟩
     have hB3 : Below w2.heap.size w2 w3 := by rw [← hw3]; exact (Below.refl _ _).alloc (Nat.le_refl _) _
     obtain ⟨y0, y1, y2⟩ := tb_cells (w := w3) (p := w2.heap.size) (nm := nm) (syn := syn) (sg := sg) (by rw [← hw3]; exact tb_new _ _ _ _)
     have hA23 := hB2.trans (hB3.mono hB2.size)
     have hBa : Below wr.heap.size wr w3 := HBA.out.trans (hA23.mono HBA.out.size)
     obtain ⟨x0, x1⟩ := avaB_cells (avaB_below HTA.out hA23)
     obtain ⟨z0, z1⟩ := entB_cells (entB_below HTr.out hBa)
     have HBr3 := Lib.hid (hB.out.trans (hBa.mono hsz))
     have HBw3 := Lib.hid (HB1.out.trans (HBr3.out.mono hs1))
     have hla := World.block_lt_of_cell? w3 _ x0
     have hly := World.block_lt_of_cell? w3 _ y0
     have hlz := World.block_lt_of_cell? w3 _ z0
     have HE3 := Lib.hid (envE_below hE.out HBw3.out)
     clear hB2 hB3 hBa hA23
     go_wp2_with fail
     refine wp_region_held_drew (S := fun W => W.cell? ⟨w.heap.size, 0, none⟩ = some (.slice (some ⟨b, o, none⟩) Nr rc) ∧ W.cell? ⟨w.heap.size, 1, none⟩ = some (.slice ao N ac) ∧ W.cell? ⟨wr.heap.size, 0, none⟩ = some (.string a.t) ∧ W.cell? ⟨wr.heap.size, 1, none⟩ = some (.string a.v) ∧ W.cell? ⟨w2.heap.size, 0, none⟩ = some (.string nm) ∧ W.cell? ⟨w2.heap.size, 1, none⟩ = some (.int .i64 syn) ∧ W.cell? ⟨w2.heap.size, 2, none⟩ = some (.bool sg)) (by kernel_rfl) (⟨z0, z1, x0, x1, y0, y1, y2⟩) (fun hHeld => ?_)
     refine tk 0 ⟨some 23,_,_,_,_,_⟩ rfl ?_
     refine tk 1 ⟨some 24,_,_,_,_,_⟩ rfl ?_
     refine tk 2 ⟨some 25,_,_,_,_,_⟩ rfl ?_
     refine tu 3 ⟨some 26,_,_,_,_,_⟩ rfl ?_
     refine tu 4 ⟨some 27,_,_,_,_,_⟩ rfl ?_
     refine tu 5 ⟨some 28,_,_,_,_,_⟩ rfl ?_
     refine tu 6 ⟨some 29,_,_,_,_,_⟩ rfl ?_
     refine tu 7 ⟨some 30,_,_,_,_,_⟩ rfl ?_
     refine tu 8 ⟨some 31,_,_,_,_,_⟩ rfl ?_
     refine tu 9 ⟨some 32,_,_,_,_,_⟩ rfl ?_
     refine tu 10 ⟨some 33,_,_,_,_,_⟩ rfl ?_
     refine tu 11 ⟨some 34,_,_,_,_,_⟩ rfl ?_
     refine tk 12 ⟨some 35,_,_,_,_,_⟩ rfl ?_
     refine wpAnyH_done (by kernel_rfl) ?_ _
     clear hHeld
     go_wp2_with fail
     go_ret
     exact ⟨kt.ret_bool HJ.out.symm, HBw3.out.drew⟩
    | some ty =>
     rw [hfd] at HFD0
     have HNS := Lib.hid (named_step HAT.out hfd)
     have HFD1 : Hid (∀ W, TyEnv W → Calls Tryz.prog 70 #[.string a.t] W fun e w' => e = .returned (.tuple #[.agg #[.string (bs ty.name), .int .i64 ty.syn, .bool ty.single], .bool true]) ∧ Below W.heap.size W w') := HFD0
     clear hfd HFD0
     generalize bs ty.name = nm at HFD1
     generalize ty.syn = syn at HFD1 HNS
     generalize ty.single = sg at HFD1
     have HFD := HFD1
     have HK1 : Hid (∀ a' c k W, Hid (k = (valsA L a.t).length) → Strs W a' (valsA L a.t) → EnvE W → Calls Tryz.prog 73 #[.agg #[.string nm, .int .i64 syn, .bool sg], .slice a' k c, .string a.v] W fun e w' => e = .returned (.int .i64 (likeI syn (valsA L a.t) a.v)) ∧ Below W.heap.size W w') := fun a' c k W => HK0.out nm syn sg a.t a' c k a.v W (by omega)
     have HK := HK1
     clear HFD1 HK0 HK1
     generalize likeI syn (valsA L a.t) a.v = lk at HK HNS
     by_cases hneg : lk < 0
     ·have q2 : decide (lk < 0) = true := decide_eq_true hneg
      have HJ : Hid (rdn.all (namedA L) = false) := by
       show _ = _
       rw [hJ.out, HST.out, HNS.out, decide_eq_false (by omega)]; rfl
      clear hneg
      go_wp2_with fail
      refine (HFD.out _ HYr.out).mono ?_
      rintro e w2 ⟨rfl, hB2⟩
      obtain ⟨w3, hw3⟩ : ∃ W, w2.alloc (.cells #[.string nm, .int .i64 syn, .bool sg] 29) = W := ⟨_, rfl⟩
      have hB3 : Below w2.heap.size w2 w3 := by rw [← hw3]; exact (Below.refl _ _).alloc (Nat.le_refl _) _
      obtain ⟨y0, y1, y2⟩ := tb_cells (w := w3) (p := w2.heap.size) (nm := nm) (syn := syn) (sg := sg) (by rw [← hw3]; exact tb_new _ _ _ _)
      have hA23 := hB2.trans (hB3.mono hB2.size)
      have hBa : Below wr.heap.size wr w3 := HBA.out.trans (hA23.mono HBA.out.size)
      obtain ⟨x0, x1⟩ := avaB_cells (avaB_below HTA.out hA23)
      obtain ⟨z0, z1⟩ := entB_cells (entB_below HTr.out hBa)
      have HBr3 := Lib.hid (hB.out.trans (hBa.mono hsz))
      have HBw3 := Lib.hid (HB1.out.trans (HBr3.out.mono hs1))
      have hla := World.block_lt_of_cell? w3 _ x0
      have hly := World.block_lt_of_cell? w3 _ y0
      have hlz := World.block_lt_of_cell? w3 _ z0
      have HE3 := Lib.hid (envE_below hE.out HBw3.out)
      clear hB2 hB3 hBa hA23
      have HV : Hid (∀ W, Below w3.heap.size w3 W → _) := fun W h => HV0.out a.t W (HBw3.out.trans (h.mono HBw3.out.size))
      go_wp2_with fail
      refine wp_region_held_drew (S := fun W => W.cell? ⟨w.heap.size, 0, none⟩ = some (.slice (some ⟨b, o, none⟩) Nr rc) ∧ W.cell? ⟨w.heap.size, 1, none⟩ = some (.slice ao N ac) ∧ W.cell? ⟨wr.heap.size, 0, none⟩ = some (.string a.t) ∧ W.cell? ⟨wr.heap.size, 1, none⟩ = some (.string a.v) ∧ W.cell? ⟨w2.heap.size, 0, none⟩ = some (.string nm) ∧ W.cell? ⟨w2.heap.size, 1, none⟩ = some (.int .i64 syn) ∧ W.cell? ⟨w2.heap.size, 2, none⟩ = some (.bool sg)) (by kernel_rfl) (⟨z0, z1, x0, x1, y0, y1, y2⟩) (fun hHeld => ?_)
      refine tk 0 ⟨some 23,_,_,_,_,_⟩ rfl ?_
      refine tk 1 ⟨some 24,_,_,_,_,_⟩ rfl ?_
      refine tk 2 ⟨some 25,_,_,_,_,_⟩ rfl ?_
      refine tk 3 ⟨some 26,_,_,_,_,_⟩ rfl ?_
      refine tk 4 ⟨some 27,_,_,_,_,_⟩ rfl ?_
      refine tk 5 ⟨some 28,_,_,_,_,_⟩ rfl ?_
      refine tk 6 ⟨some 29,_,_,_,_,_⟩ rfl ?_
      refine tk 8 ⟨some 31,_,_,_,_,_⟩ rfl ?_
      refine tk 9 ⟨some 32,_,_,_,_,_⟩ rfl ?_
      refine tc 7 ⟨some 30,_,_,_,_,_⟩ rfl (fun K hK => ?_)
      go_simp
      go_at_call 72; refine (HV.out _ ((Below.refl w3.heap.size w3).drew)).mono ?_; rintro e w5 ⟨x5, rfl, hx5, hB5⟩; obtain ⟨a5, n5, c5, rfl, hn5, hc5, hs5⟩ := elem_form hx5
      refine hK.out _ _ (⟨(hB5.cell (p := ⟨w.heap.size, 0, none⟩) hlz).trans (z0), (hB5.cell (p := ⟨w.heap.size, 1, none⟩) hlz).trans (z1), (hB5.cell (p := ⟨wr.heap.size, 0, none⟩) hla).trans (x0), (hB5.cell (p := ⟨wr.heap.size, 1, none⟩) hla).trans (x1), (hB5.cell (p := ⟨w2.heap.size, 0, none⟩) hly).trans (y0), (hB5.cell (p := ⟨w2.heap.size, 1, none⟩) hly).trans (y1), (hB5.cell (p := ⟨w2.heap.size, 2, none⟩) hly).trans (y2)⟩) (fun hHeld => ?_)
      clear hK
      try simp only [Act.put, List.setIfInBounds_toArray, List.set_cons_zero, List.set_cons_succ]
      refine tc 10 ⟨some 33,_,_,_,_,_⟩ rfl (fun K hK => ?_)
      go_simp
      go_at_call 73; refine (HK.out a5 c5 n5 _ hn5 hs5 (envE_below HE3.out ((Below.refl w3.heap.size w3).drew.trans hB5))).mono ?_; rintro e w6 ⟨rfl, hB6⟩
      refine hK.out _ _ (⟨(hB6.cell (p := ⟨w.heap.size, 0, none⟩) (Nat.lt_of_lt_of_le hlz hB5.size)).trans ((hB5.cell (p := ⟨w.heap.size, 0, none⟩) hlz).trans (z0)), (hB6.cell (p := ⟨w.heap.size, 1, none⟩) (Nat.lt_of_lt_of_le hlz hB5.size)).trans ((hB5.cell (p := ⟨w.heap.size, 1, none⟩) hlz).trans (z1)), (hB6.cell (p := ⟨wr.heap.size, 0, none⟩) (Nat.lt_of_lt_of_le hla hB5.size)).trans ((hB5.cell (p := ⟨wr.heap.size, 0, none⟩) hla).trans (x0)), (hB6.cell (p := ⟨wr.heap.size, 1, none⟩) (Nat.lt_of_lt_of_le hla hB5.size)).trans ((hB5.cell (p := ⟨wr.heap.size, 1, none⟩) hla).trans (x1)), (hB6.cell (p := ⟨w2.heap.size, 0, none⟩) (Nat.lt_of_lt_of_le hly hB5.size)).trans ((hB5.cell (p := ⟨w2.heap.size, 0, none⟩) hly).trans (y0)), (hB6.cell (p := ⟨w2.heap.size, 1, none⟩) (Nat.lt_of_lt_of_le hly hB5.size)).trans ((hB5.cell (p := ⟨w2.heap.size, 1, none⟩) hly).trans (y1)), (hB6.cell (p := ⟨w2.heap.size, 2, none⟩) (Nat.lt_of_lt_of_le hly hB5.size)).trans ((hB5.cell (p := ⟨w2.heap.size, 2, none⟩) hly).trans (y2))⟩) (fun hHeld => ?_)
      clear hK
      try simp only [Act.put, List.setIfInBounds_toArray, List.set_cons_zero, List.set_cons_succ]
      refine tk 11 ⟨some 34,_,_,_,_,_⟩ rfl ?_
      refine tk 12 ⟨some 35,_,_,_,_,_⟩ rfl ?_
      refine wpAnyH_done (by kernel_rfl) ?_ _
      have HB6 := Lib.hid (HBw3.out.trans ((((Below.refl w3.heap.size w3).drew.trans hB5).trans (hB6.mono hB5.size)).mono HBw3.out.size))
      clear hHeld hB5 hB6 hx5 hs5 x0 x1 y0 y1 y2 z0 z1
      go_wp2_with fail
      go_ret
      exact ⟨kt.ret_bool HJ.out.symm, HB6.out⟩
     ·have q2 : decide (lk < 0) = false := decide_eq_false hneg
      have HJ : Hid (rdn.all (namedA L) = (rdn.drop (i + 1)).all (namedA L)) := by
       show _ = _
       rw [hJ.out, HST.out, HNS.out, decide_eq_true (by omega)]; rfl
      clear hneg
      go_wp2_with fail
      refine (HFD.out _ HYr.out).mono ?_
      rintro e w2 ⟨rfl, hB2⟩
      obtain ⟨w3, hw3⟩ : ∃ W, w2.alloc (.cells #[.string nm, .int .i64 syn, .bool sg] 29) = W := ⟨_, rfl⟩
      have hB3 : Below w2.heap.size w2 w3 := by rw [← hw3]; exact (Below.refl _ _).alloc (Nat.le_refl _) _
      obtain ⟨y0, y1, y2⟩ := tb_cells (w := w3) (p := w2.heap.size) (nm := nm) (syn := syn) (sg := sg) (by rw [← hw3]; exact tb_new _ _ _ _)
      have hA23 := hB2.trans (hB3.mono hB2.size)
      have hBa : Below wr.heap.size wr w3 := HBA.out.trans (hA23.mono HBA.out.size)
      obtain ⟨x0, x1⟩ := avaB_cells (avaB_below HTA.out hA23)
      obtain ⟨z0, z1⟩ := entB_cells (entB_below HTr.out hBa)
      have HBr3 := Lib.hid (hB.out.trans (hBa.mono hsz))
      have HBw3 := Lib.hid (HB1.out.trans (HBr3.out.mono hs1))
      have hla := World.block_lt_of_cell? w3 _ x0
      have hly := World.block_lt_of_cell? w3 _ y0
      have hlz := World.block_lt_of_cell? w3 _ z0
      have HE3 := Lib.hid (envE_below hE.out HBw3.out)
      clear hB2 hB3 hBa hA23
      have HV : Hid (∀ W, Below w3.heap.size w3 W → _) := fun W h => HV0.out a.t W (HBw3.out.trans (h.mono HBw3.out.size))
      go_wp2_with fail
      refine wp_region_held_drew (S := fun W => W.cell? ⟨w.heap.size, 0, none⟩ = some (.slice (some ⟨b, o, none⟩) Nr rc) ∧ W.cell? ⟨w.heap.size, 1, none⟩ = some (.slice ao N ac) ∧ W.cell? ⟨wr.heap.size, 0, none⟩ = some (.string a.t) ∧ W.cell? ⟨wr.heap.size, 1, none⟩ = some (.string a.v) ∧ W.cell? ⟨w2.heap.size, 0, none⟩ = some (.string nm) ∧ W.cell? ⟨w2.heap.size, 1, none⟩ = some (.int .i64 syn) ∧ W.cell? ⟨w2.heap.size, 2, none⟩ = some (.bool sg)) (by kernel_rfl) (⟨z0, z1, x0, x1, y0, y1, y2⟩) (fun hHeld => ?_)
      refine tk 0 ⟨some 23,_,_,_,_,_⟩ rfl ?_
      refine tk 1 ⟨some 24,_,_,_,_,_⟩ rfl ?_
      refine tk 2 ⟨some 25,_,_,_,_,_⟩ rfl ?_
      refine tk 3 ⟨some 26,_,_,_,_,_⟩ rfl ?_
      refine tk 4 ⟨some 27,_,_,_,_,_⟩ rfl ?_
      refine tk 5 ⟨some 28,_,_,_,_,_⟩ rfl ?_
      refine tk 6 ⟨some 29,_,_,_,_,_⟩ rfl ?_
      refine tk 8 ⟨some 31,_,_,_,_,_⟩ rfl ?_
      refine tk 9 ⟨some 32,_,_,_,_,_⟩ rfl ?_
      refine tc 7 ⟨some 30,_,_,_,_,_⟩ rfl (fun K hK => ?_)
      go_simp
      go_at_call 72; refine (HV.out _ ((Below.refl w3.heap.size w3).drew)).mono ?_; rintro e w5 ⟨x5, rfl, hx5, hB5⟩; obtain ⟨a5, n5, c5, rfl, hn5, hc5, hs5⟩ := elem_form hx5
      refine hK.out _ _ (⟨(hB5.cell (p := ⟨w.heap.size, 0, none⟩) hlz).trans (z0), (hB5.cell (p := ⟨w.heap.size, 1, none⟩) hlz).trans (z1), (hB5.cell (p := ⟨wr.heap.size, 0, none⟩) hla).trans (x0), (hB5.cell (p := ⟨wr.heap.size, 1, none⟩) hla).trans (x1), (hB5.cell (p := ⟨w2.heap.size, 0, none⟩) hly).trans (y0), (hB5.cell (p := ⟨w2.heap.size, 1, none⟩) hly).trans (y1), (hB5.cell (p := ⟨w2.heap.size, 2, none⟩) hly).trans (y2)⟩) (fun hHeld => ?_)
      clear hK
      try simp only [Act.put, List.setIfInBounds_toArray, List.set_cons_zero, List.set_cons_succ]
      refine tc 10 ⟨some 33,_,_,_,_,_⟩ rfl (fun K hK => ?_)
      go_simp
      go_at_call 73; refine (HK.out a5 c5 n5 _ hn5 hs5 (envE_below HE3.out ((Below.refl w3.heap.size w3).drew.trans hB5))).mono ?_; rintro e w6 ⟨rfl, hB6⟩
      refine hK.out _ _ (⟨(hB6.cell (p := ⟨w.heap.size, 0, none⟩) (Nat.lt_of_lt_of_le hlz hB5.size)).trans ((hB5.cell (p := ⟨w.heap.size, 0, none⟩) hlz).trans (z0)), (hB6.cell (p := ⟨w.heap.size, 1, none⟩) (Nat.lt_of_lt_of_le hlz hB5.size)).trans ((hB5.cell (p := ⟨w.heap.size, 1, none⟩) hlz).trans (z1)), (hB6.cell (p := ⟨wr.heap.size, 0, none⟩) (Nat.lt_of_lt_of_le hla hB5.size)).trans ((hB5.cell (p := ⟨wr.heap.size, 0, none⟩) hla).trans (x0)), (hB6.cell (p := ⟨wr.heap.size, 1, none⟩) (Nat.lt_of_lt_of_le hla hB5.size)).trans ((hB5.cell (p := ⟨wr.heap.size, 1, none⟩) hla).trans (x1)), (hB6.cell (p := ⟨w2.heap.size, 0, none⟩) (Nat.lt_of_lt_of_le hly hB5.size)).trans ((hB5.cell (p := ⟨w2.heap.size, 0, none⟩) hly).trans (y0)), (hB6.cell (p := ⟨w2.heap.size, 1, none⟩) (Nat.lt_of_lt_of_le hly hB5.size)).trans ((hB5.cell (p := ⟨w2.heap.size, 1, none⟩) hly).trans (y1)), (hB6.cell (p := ⟨w2.heap.size, 2, none⟩) (Nat.lt_of_lt_of_le hly hB5.size)).trans ((hB5.cell (p := ⟨w2.heap.size, 2, none⟩) hly).trans (y2))⟩) (fun hHeld => ?_)
      clear hK
      try simp only [Act.put, List.setIfInBounds_toArray, List.set_cons_zero, List.set_cons_succ]
      refine tk 11 ⟨some 34,_,_,_,_,_⟩ rfl ?_
      refine tk 12 ⟨some 35,_,_,_,_,_⟩ rfl ?_
      refine wpAnyH_done (by kernel_rfl) ?_ _
      have HB6 := Lib.hid (HBr3.out.trans ((((Below.refl w3.heap.size w3).drew.trans hB5).trans (hB6.mono hB5.size)).mono HBr3.out.size))
      clear hHeld hB5 hB6 hx5 hs5 x0 x1 y0 y1 y2 z0 z1
      go_wp2_with fail
      go_roundw
      case rel => exact ⟨i + 1, by omega, by go_num, HB6, HJ⟩
      case measure => simp [intOf]; omega
   ·obtain rfl : Nr = i := by omega
    have HJ : Hid (rdn.all (namedA L) = true) := by
     show _ = _
     rw [hJ.out, ← HNr.out, List.drop_length]; rfl
    go_wp2_with fail
    go_ret
    exact ⟨kt.ret_bool HJ.out.symm, HBw.out⟩
end etw
end Go.Proofs.YtcolcogobdgejaaGreatDoor
/-! EAwakW -/
namespace Go.Proofs.YtcolcogobdgejaaGreatDoor
open Go.RowKit
namespace etw
open atp atw etp
open dnw (Av Avas)
open tupw (Strs strs_below)
set_option linter.unusedVariables false
set_option linter.unusedSimpArgs false
def awE : En := ⟨[⟨⟨#[99, 110]⟩, ⟨#[97, 110, 110]⟩⟩], [⟨⟨#[99, 110]⟩, [⟨#[97, 110, 110, 32]⟩]⟩]⟩
def errOf (r : Except Int En) : Option Int := match r with
 | .error f => some f
 | .ok _ => none
theorem errOf_some {r : Except Int En} {f : Int} (h : errOf r = some f) : r = .error f := by
 cases r with
 | error g => unfold errOf at h; simp at h; rw [h]
 | ok e => unfold errOf at h; simp at h
set_option maxRecDepth 100000 in
theorem aw_add0 : errOf (addE awE [99, 110] [⟨#[65, 110, 110]⟩]) = some 8 := by decide +kernel
theorem aw_add : addE awE [99, 110] [⟨#[65, 110, 110]⟩] = .error 8 := errOf_some aw_add0
set_option maxRecDepth 100000 in
theorem aw_has : hasE awE [67, 78] ⟨#[65, 78, 78]⟩ = true := by decide +kernel
set_option maxRecDepth 100000 in
theorem aw_named : namedE awE = true := by decide +kernel
theorem aw_bk : Bk 1000 awE := by
 refine ⟨by decide, fun a ha => ?_, by decide, fun a ha => ?_⟩
 ·unfold awE at ha
  simp only [List.mem_singleton] at ha
  subst ha
  exact ⟨by decide, by decide⟩
 ·unfold awE at ha
  simp only [List.mem_singleton] at ha
  subst ha
  refine ⟨by decide, by decide, fun v hv => ?_⟩
  simp only [List.mem_singleton] at hv
  subst hv
  decide
set_option maxRecDepth 20000 in
set_option maxHeartbeats 8000000 in
theorem eawake_any (w : World) (hE : Hid (EnvE w)) : Calls Tryz.prog 14 #[] w fun e w' => e = .returned (.bool true) ∧ Below w.heap.size w w' := by
 obtain ⟨W1, hW1⟩ : ∃ W, w.alloc (.cells #[.string ⟨#[99, 110]⟩, .string ⟨#[97, 110, 110]⟩] 62) = W := ⟨_, rfl⟩
 have hB1 : Below w.heap.size w W1 := by rw [← hW1]; exact (Below.refl _ _).alloc (Nat.le_refl _) _
 have hA1 : AvaB W1 w.heap.size ⟨#[99, 110]⟩ ⟨#[97, 110, 110]⟩ := by rw [← hW1]; exact avaB_new _ _ _
 obtain ⟨W2, hW2⟩ : ∃ W, W1.alloc (.cells #[.string ⟨#[97, 110, 110, 32]⟩] 9) = W := ⟨_, rfl⟩
 have hB2 : Below W1.heap.size W1 W2 := by rw [← hW2]; exact (Below.refl _ _).alloc (Nat.le_refl _) _
 have hV2 : VB W2 W1.heap.size ⟨#[97, 110, 110, 32]⟩ := by rw [← hW2]; exact vb_new _ _
 obtain ⟨W3, hW3⟩ : ∃ W, W2.alloc (.cells #[.string ⟨#[99, 110]⟩, .slice (some ⟨W1.heap.size, 0, none⟩) 1 1] 57) = W := ⟨_, rfl⟩
 have hB3 : Below W2.heap.size W2 W3 := by rw [← hW3]; exact (Below.refl _ _).alloc (Nat.le_refl _) _
 have hT3 : AttrB W3 W2.heap.size ⟨#[99, 110]⟩ (.slice (some ⟨W1.heap.size, 0, none⟩) 1 1) := by rw [← hW3]; exact attrB_new _ _ _
 obtain ⟨W4, hW4⟩ : ∃ W, W3.alloc (.cells #[.slice (some ⟨w.heap.size, 0, none⟩) 1 1, .slice (some ⟨W2.heap.size, 0, none⟩) 1 1] 25) = W := ⟨_, rfl⟩
 have hB4 : Below W3.heap.size W3 W4 := by rw [← hW4]; exact (Below.refl _ _).alloc (Nat.le_refl _) _
 have hE4 : EntB W4 W3.heap.size (.slice (some ⟨w.heap.size, 0, none⟩) 1 1) (.slice (some ⟨W2.heap.size, 0, none⟩) 1 1) := by rw [← hW4]; exact entB_new _ _ _
 have hA4 := avaB_cells (avaB_below (avaB_below (avaB_below hA1 hB2) hB3) hB4)
 have hV4 := vb_cell (vb_below (vb_below hV2 hB3) hB4)
 have hT4 := attrB_cells (attrB_below hT3 hB4)
 have HV4 : Hid (EntV W4 (.agg #[.slice (some ⟨w.heap.size, 0, none⟩) 1 1, .slice (some ⟨W2.heap.size, 0, none⟩) 1 1]) awE) := by
  refine ⟨_, 1, _, 1, rfl, Nat.le_refl _, Nat.le_refl _, fun i hi => ?_, fun i hi => ?_⟩
  ·have h0 : i = 0 := by have : i < 1 := hi; omega
   subst h0
   exact ⟨_, 0, rfl, hA4.1, hA4.2⟩
  ·have h0 : i = 0 := by have : i < 1 := hi; omega
   subst h0
   refine ⟨_, 0, _, 1, rfl, hT4.1, hT4.2, Nat.le_refl _, fun j hj => ?_⟩
   have h1 : j = 0 := by have : j < 1 := hj; omega
   subst h1
   exact ⟨_, 0, rfl, hV4⟩
 have hB04 := hB1.trans ((hB2.trans ((hB3.trans (hB4.mono hB3.size)).mono hB2.size)).mono hB1.size)
 have HB4 := Lib.hid hB04
 obtain ⟨W5, hW5⟩ : ∃ W, W4.alloc (.cells #[.string ⟨#[65, 110, 110]⟩] 9) = W := ⟨_, rfl⟩
 have hB5 : Below W4.heap.size W4 W5 := by rw [← hW5]; exact (Below.refl _ _).alloc (Nat.le_refl _) _
 have hV5 : VB W5 W4.heap.size ⟨#[65, 110, 110]⟩ := by rw [← hW5]; exact vb_new _ _
 have hB45 := hB04.trans (hB5.mono hB04.size)
 have HB5 := Lib.hid hB5
 have HAD0 := add_any _ awE ⟨#[99, 110]⟩ (some ⟨W4.heap.size, 0, none⟩) 1 [⟨#[65, 110, 110]⟩] W5 (Lib.hid (entV_below HV4.out hB5)) (Lib.hid aw_bk) (Lib.hid fun i hi => by
  have h0 : i = 0 := by have : i < 1 := hi; omega
  subst h0
  exact ⟨_, 0, rfl, vb_cell hV5⟩) (by decide) (by decide) (Lib.hid fun x hx => by simp only [List.mem_singleton] at hx; subst hx; decide) (by decide) (Lib.hid (envE_below hE.out hB45))
 rw [show addE awE (⟨#[99, 110]⟩ : ByteArray).data.toList [⟨#[65, 110, 110]⟩] = .error 8 from aw_add] at HAD0
 have HAD : Hid (Calls Tryz.prog 24 #[.agg #[.slice (some ⟨w.heap.size, 0, none⟩) 1 1, .slice (some ⟨W2.heap.size, 0, none⟩) 1 1], .string ⟨#[99, 110]⟩, .slice (some ⟨W4.heap.size, 0, none⟩) 1 1] W5 fun e w' => Below W5.heap.size W5 w' ∧ e = .returned (.tuple #[.agg #[.slice none 0 0, .slice none 0 0], .int .i64 8])) := HAD0
 have HHA : Hid (∀ W, Below W4.heap.size W4 W → Calls Tryz.prog 19 #[.agg #[.slice (some ⟨w.heap.size, 0, none⟩) 1 1, .slice (some ⟨W2.heap.size, 0, none⟩) 1 1], .string ⟨#[67, 78]⟩, .string ⟨#[65, 78, 78]⟩] W fun e w' => e = .returned (.bool true) ∧ Below W.heap.size W w') := fun W h => by
  have := has_any _ awE ⟨#[67, 78]⟩ ⟨#[65, 78, 78]⟩ W (Lib.hid (entV_below HV4.out h)) (Lib.hid (bk_bd aw_bk (by omega))) (by decide) (by decide) (Lib.hid (envE_below hE.out (HB4.out.trans (h.mono HB4.out.size))))
  rw [show hasE awE (⟨#[67, 78]⟩ : ByteArray).data.toList ⟨#[65, 78, 78]⟩ = true from aw_has] at this
  exact this
 have HNA : Hid (∀ W, Below W4.heap.size W4 W → Calls Tryz.prog 35 #[.agg #[.slice (some ⟨w.heap.size, 0, none⟩) 1 1, .slice (some ⟨W2.heap.size, 0, none⟩) 1 1]] W fun e w' => e = .returned (.bool true) ∧ Below W.heap.size W w') := fun W h => by
  have := named_any _ awE W (Lib.hid (entV_below HV4.out h)) (Lib.hid (bk_bd aw_bk (by omega))) (Lib.hid (envE_below hE.out (HB4.out.trans (h.mono HB4.out.size))))
  rw [aw_named] at this
  exact this
 obtain ⟨k0, k1⟩ := entB_cells hE4
 have HE5 := Lib.hid (entB_below hE4 hB5)
 have hz4 := HB4.out.size
 clear hB1 hA1 hB2 hV2 hB3 hT3 hB4 hE4 hA4 hV4 hT4 hB04 hB5 hV5 hB45 HAD0
 go_enter Tryz.func14, Tryz.ntmps14
 go_wp2_with fail
 refine HAD.out.mono ?_
 rintro e w6 ⟨hB6, rfl⟩
 have HB46 := Lib.hid (HB5.out.trans (hB6.mono HB5.out.size))
 have HE6 := Lib.hid (entB_below HE5.out hB6)
 obtain ⟨m0, m1⟩ := entB_cells HE6.out
 have hlt6 : W3.heap.size < w6.heap.size := kt.bld_lt HE6.out
 clear hB6 k0 k1 hW1 hW2 hW3 hW4 hW5
 go_wp2_with fail
 have hB7 : Below w6.heap.size w6 (w6.alloc (.cells #[.slice none 0 0, .slice none 0 0] 25)) := (Below.refl _ _).alloc (Nat.le_refl _) _
 have HB47 := Lib.hid (HB46.out.trans (hB7.mono HB46.out.size))
 have HE7 := Lib.hid (entB_below HE6.out hB7)
 clear hB7
 refine (HHA.out _ HB47.out).mono ?_
 rintro e w8 ⟨rfl, hB8⟩
 have HB48 := Lib.hid (HB47.out.trans (hB8.mono HB47.out.size))
 have HE8 := Lib.hid (entB_below HE7.out hB8)
 obtain ⟨p0, p1⟩ := entB_cells HE8.out
 clear hB8 m0 m1
 go_wp2_with fail
 refine (HNA.out _ HB48.out).mono ?_
 rintro e w9 ⟨rfl, hB9⟩
 have HB49 := Lib.hid (HB4.out.trans ((HB48.out.trans (hB9.mono HB48.out.size)).mono hz4))
 clear hB9 p0 p1
 go_wp2_with fail
 go_ret
 exact ⟨rfl, HB49.out⟩
end etw
end Go.Proofs.YtcolcogobdgejaaGreatDoor
/-! ELongW -/
namespace Go.Proofs.YtcolcogobdgejaaGreatDoor
open Go.RowKit
namespace etw
open atp atw etp
open dnw (Av Avas)
open tupw (Strs strs_below)
set_option linter.unusedVariables false
set_option linter.unusedSimpArgs false
def bigV (v : ByteArray) : Bool := decide (1100 < v.size)
def longL (l : List ByteArray) : Bool := decide (40 < l.length) || l.any bigV
def bigR (a : Av) : Bool := decide (600 < a.t.size) || decide (600 < a.v.size)
def bigA (a : At) : Bool := decide (600 < a.t.size) || longL a.vs
def longE (e : En) : Bool := decide (20 < e.rdn.length) || decide (30 < e.ats.length) || e.rdn.any bigR || e.ats.any bigA
theorem longL_no {l : List ByteArray} (h : longL l = false) : l.length ≤ 40 ∧ ∀ v ∈ l, v.size ≤ 1100 := by
 unfold longL at h
 rw [Bool.or_eq_false_iff, decide_eq_false_iff_not, List.any_eq_false] at h
 refine ⟨by omega, fun v hv => ?_⟩
 have := h.2 v hv
 unfold bigV at this
 simp at this
 omega
theorem longE_no {e : En} (h : longE e = false) : Bk 30 e := by
 unfold longE at h
 rw [Bool.or_eq_false_iff, Bool.or_eq_false_iff, Bool.or_eq_false_iff, decide_eq_false_iff_not, decide_eq_false_iff_not, List.any_eq_false, List.any_eq_false] at h
 obtain ⟨⟨⟨h1, h2⟩, h3⟩, h4⟩ := h
 refine ⟨by omega, fun a ha => ?_, by omega, fun a ha => ?_⟩
 ·have := h3 a ha
  unfold bigR at this
  simp at this
  omega
 ·have := h4 a ha
  unfold bigA at this
  simp only [Bool.or_eq_true, decide_eq_true_eq, not_or, Bool.not_eq_true] at this
  have h5 := longL_no this.2
  refine ⟨by omega, by omega, fun v hv => ?_⟩
  have := h5.2 v hv
  omega
theorem any_step {α : Type} {f : α → Bool} {l : List α} {i : Nat} (h : i < l.length) : (l.drop i).any f = (f l[i] || (l.drop (i + 1)).any f) := by
 rw [List.drop_eq_getElem_cons h, List.any_cons]
set_option maxRecDepth 20000 in
set_option maxHeartbeats 4000000 in
theorem longL_any (ao : Option Addr) (cap : Nat) (l : List ByteArray) (w : World) (hl : Hid (Strs w ao l)) : Calls Tryz.prog 23 #[.slice ao l.length cap] w fun e w' => e = .returned (.bool (longL l)) ∧ w = w' := by
 have HLD : Hid (longL l = (decide (40 < l.length) || l.any bigV)) := rfl
 rw [HLD.out]
 clear HLD
 obtain ⟨N, hN⟩ : ∃ N, l.length = N := ⟨_, rfl⟩
 have HN := Lib.hid hN
 rw [hN]
 clear hN
 by_cases h40 : 40 < N
 ·have d1 : decide (40 < N) = true := decide_eq_true h40
  have h40' : (40 : Int) < (N : Int) := by omega
  rw [d1, Bool.true_or]
  go_enter Tryz.func23, Tryz.ntmps23
  go_wp2_with fail
  go_ret
  exact ⟨rfl, rfl⟩
 ·have d1 : decide (40 < N) = false := decide_eq_false h40
  have h40' : ¬ (40 : Int) < (N : Int) := by omega
  rw [d1, Bool.false_or]
  go_enter Tryz.func23, Tryz.ntmps23
  go_wp2_with fail
  go_loop [3] (fun iv => ∃ i : Nat, i ≤ N ∧ iv = .int .i64 (i : Int) ∧ Hid (l.any bigV = (l.drop i).any bigV)) (fun iv => N - (intOf iv).toNat)
  case atStart => exact ⟨0, Nat.zero_le _, rfl, rfl⟩
  case round =>
   obtain ⟨i, hi, rfl, hJ⟩ := hrel
   by_cases hlt : i < N
   ·have hltI : (i : Int) < (N : Int) := by omega
    have hil : i < l.length := by rw [HN.out]; exact hlt
    obtain ⟨b, o, hao, hc0⟩ := hl.out i hil
    subst hao
    have HST := Lib.hid (any_step (f := bigV) hil)
    obtain ⟨x, hx⟩ : ∃ x, l[i] = x := ⟨_, rfl⟩
    rw [hx] at hc0 HST
    clear hx
    by_cases hb : 1100 < x.size
    ·have d2 : decide (1100 < x.size) = true := decide_eq_true hb
     have hb' : (1100 : Int) < (x.size : Int) := by omega
     have HJ : Hid (l.any bigV = true) := by
      show _ = _
      rw [hJ.out, HST.out, show bigV x = true from d2]; rfl
     go_wp2_with fail
     go_ret
     exact ⟨kt.ret_bool HJ.out.symm, rfl⟩
    ·have d2 : decide (1100 < x.size) = false := decide_eq_false hb
     have hb' : ¬ (1100 : Int) < (x.size : Int) := by omega
     have HJ : Hid (l.any bigV = (l.drop (i + 1)).any bigV) := by
      show _ = _
      rw [hJ.out, HST.out, show bigV x = false from d2]; rfl
     go_wp2_with fail
     go_round
     case rel => exact ⟨i + 1, by omega, by go_num, HJ⟩
     case measure => simp [intOf]; omega
   ·obtain rfl : N = i := by omega
    have HJ : Hid (l.any bigV = false) := by
     show _ = _
     rw [hJ.out, ← HN.out, List.drop_length]; rfl
    go_wp2_with fail
    go_ret
    exact ⟨kt.ret_bool HJ.out.symm, rfl⟩
set_option maxRecDepth 20000 in
set_option maxHeartbeats 8000000 in
theorem longE_any (v : Value) (E : En) (w : World) (hv : Hid (EntV w v E)) : Calls Tryz.prog 15 #[v] w fun e w' => e = .returned (.bool (longE E)) ∧ Below w.heap.size w w' := by
 have HLD : Hid (longE E = (decide (20 < E.rdn.length) || decide (30 < E.ats.length) || E.rdn.any bigR || E.ats.any bigA)) := rfl
 rw [HLD.out]
 clear HLD
 obtain ⟨ro, rc, ao, ac, Nr, N, rfl, HN, HA, hac, HNr, HAv, hrc⟩ := ent_form hv.out
 obtain ⟨rdn, L⟩ := E
 simp only at HN HA HNr HAv ⊢
 rw [HN.out, HNr.out]
 obtain ⟨W1, hW1⟩ : ∃ W, w.alloc (.cells #[.slice ro Nr rc, .slice ao N ac] 25) = W := ⟨_, rfl⟩
 have hB1 : Below w.heap.size w W1 := by rw [← hW1]; exact (Below.refl _ _).alloc (Nat.le_refl _) _
 have HT1 : Hid (EntB W1 w.heap.size (.slice ro Nr rc) (.slice ao N ac)) := by rw [← hW1]; exact entB_new _ _ _
 obtain ⟨k0, k1⟩ := entB_cells HT1.out
 have HB1 := Lib.hid hB1
 have HA1 := Lib.hid (ats_below HA.out hB1)
 have HAv1 := Lib.hid (dnw.avas_below HAv.out hB1)
 clear hB1 hv HA HAv HT1
 by_cases h20 : 20 < Nr
 ·have d1 : decide (20 < Nr) = true := decide_eq_true h20
  have h20' : (20 : Int) < (Nr : Int) := by omega
  rw [d1, Bool.true_or, Bool.true_or, Bool.true_or]
  go_enter Tryz.func15, Tryz.ntmps15
  go_wp2_with fail
  go_ret
  exact ⟨rfl, HB1.out⟩
 ·have d1 : decide (20 < Nr) = false := decide_eq_false h20
  have h20' : ¬ (20 : Int) < (Nr : Int) := by omega
  rw [d1, Bool.false_or]
  by_cases h30 : 30 < N
  ·have d2 : decide (30 < N) = true := decide_eq_true h30
   have h30' : (30 : Int) < (N : Int) := by omega
   rw [d2, Bool.true_or, Bool.true_or]
   go_enter Tryz.func15, Tryz.ntmps15
   go_wp2_with fail
   go_ret
   exact ⟨rfl, HB1.out⟩
  ·have d2 : decide (30 < N) = false := decide_eq_false h30
   have h30' : ¬ (30 : Int) < (N : Int) := by omega
   rw [d2, Bool.false_or]
   go_enter Tryz.func15, Tryz.ntmps15
   go_wp2_with fail
   go_loop [3] (fun iv => ∃ i : Nat, i ≤ Nr ∧ iv = .int .i64 (i : Int) ∧ Hid (rdn.any bigR = (rdn.drop i).any bigR)) (fun iv => Nr - (intOf iv).toNat)
   case atStart => exact ⟨0, Nat.zero_le _, rfl, rfl⟩
   case round =>
    obtain ⟨i, hi, rfl, hJ⟩ := hrel
    by_cases hlt : i < Nr
    ·have hltI : (i : Int) < (Nr : Int) := by omega
     have hil : i < rdn.length := by rw [HNr.out]; exact hlt
     obtain ⟨b, o, hro, q0, q1⟩ := HAv1.out i hil
     subst hro
     have HST := Lib.hid (any_step (f := bigR) hil)
     obtain ⟨a, ha⟩ : ∃ a, rdn[i] = a := ⟨_, rfl⟩
     rw [ha] at HST q0 q1
     clear ha
     have HBR : Hid (bigR a = (decide (600 < a.t.size) || decide (600 < a.v.size))) := rfl
     by_cases ht : 600 < a.t.size
     ·have d3 : decide (600 < a.t.size) = true := decide_eq_true ht
      have ht' : (600 : Int) < (a.t.size : Int) := by omega
      have HJ : Hid ((rdn.any bigR || L.any bigA) = true) := by
       show _ = _
       rw [hJ.out, HST.out, HBR.out, d3]; simp
      go_wp2_with fail
      go_ret
      exact ⟨kt.ret_bool HJ.out.symm, HB1.out⟩
     ·have d3 : decide (600 < a.t.size) = false := decide_eq_false ht
      have ht' : ¬ (600 : Int) < (a.t.size : Int) := by omega
      by_cases hvv : 600 < a.v.size
      ·have d4 : decide (600 < a.v.size) = true := decide_eq_true hvv
       have hv' : (600 : Int) < (a.v.size : Int) := by omega
       have HJ : Hid ((rdn.any bigR || L.any bigA) = true) := by
        show _ = _
        rw [hJ.out, HST.out, HBR.out, d3, d4]; simp
       go_wp2_with fail
       go_ret
       exact ⟨kt.ret_bool HJ.out.symm, HB1.out⟩
      ·have d4 : decide (600 < a.v.size) = false := decide_eq_false hvv
       have hv' : ¬ (600 : Int) < (a.v.size : Int) := by omega
       have HJ : Hid (rdn.any bigR = (rdn.drop (i + 1)).any bigR) := by
        show _ = _
        rw [hJ.out, HST.out, HBR.out, d3, d4]; rfl
       go_wp2_with fail
       go_round
       case rel => exact ⟨i + 1, by omega, by go_num, HJ⟩
       case measure => simp [intOf]; omega
    ·obtain rfl : Nr = i := by omega
     have HR0 : Hid (rdn.any bigR = false) := by
      show _ = _
      rw [hJ.out, ← HNr.out, List.drop_length]; rfl
     go_wp2_with fail
     go_loop [4] (fun iv => ∃ i : Nat, i ≤ N ∧ iv = .int .i64 (i : Int) ∧ Hid (L.any bigA = (L.drop i).any bigA)) (fun iv => N - (intOf iv).toNat)
     case atStart => exact ⟨0, Nat.zero_le _, rfl, rfl⟩
     case round =>
      obtain ⟨i, hi2, rfl, hJ2⟩ := hrel
      by_cases hlt2 : i < N
      ·have hltI : (i : Int) < (N : Int) := by omega
       have hil : i < L.length := by rw [HN.out]; exact hlt2
       obtain ⟨b, o, ax, cx, hao, q0, q1, hcx, hST⟩ := HA1.out i hil
       subst hao
       have HST := Lib.hid (any_step (f := bigA) hil)
       obtain ⟨a, ha⟩ : ∃ a, L[i] = a := ⟨_, rfl⟩
       rw [ha] at HST q0 q1 hcx hST
       clear ha
       have HLL := Lib.hid (longL_any ax cx a.vs W1 (Lib.hid hST))
       have HBA : Hid (bigA a = (decide (600 < a.t.size) || longL a.vs)) := rfl
       obtain ⟨M, hM⟩ : ∃ M, a.vs.length = M := ⟨_, rfl⟩
       rw [hM] at q1 HLL
       clear hM hST hcx
       by_cases ht : 600 < a.t.size
       ·have d3 : decide (600 < a.t.size) = true := decide_eq_true ht
        have ht' : (600 : Int) < (a.t.size : Int) := by omega
        have HJ : Hid ((rdn.any bigR || L.any bigA) = true) := by
         show _ = _
         rw [hJ2.out, HST.out, HBA.out, d3]; simp
        go_wp2_with fail
        go_ret
        exact ⟨kt.ret_bool HJ.out.symm, HB1.out⟩
       ·have d3 : decide (600 < a.t.size) = false := decide_eq_false ht
        have ht' : ¬ (600 : Int) < (a.t.size : Int) := by omega
        cases hll : longL a.vs with
        | true =>
         rw [hll] at HLL HBA
         have HJ : Hid ((rdn.any bigR || L.any bigA) = true) := by
          show _ = _
          rw [hJ2.out, HST.out, HBA.out, d3]; simp
         clear hll
         go_wp2_with fail
         refine HLL.out.mono ?_
         rintro e w2 ⟨rfl, rfl⟩
         go_wp2_with fail
         go_ret
         exact ⟨kt.ret_bool HJ.out.symm, HB1.out⟩
        | false =>
         rw [hll] at HLL HBA
         have HJ : Hid (L.any bigA = (L.drop (i + 1)).any bigA) := by
          show _ = _
          rw [hJ2.out, HST.out, HBA.out, d3]; rfl
         clear hll
         go_wp2_with fail
         refine HLL.out.mono ?_
         rintro e w2 ⟨rfl, rfl⟩
         go_wp2_with fail
         go_round
         case rel => exact ⟨i + 1, by omega, by go_num, HJ⟩
         case measure => simp [intOf]; omega
      ·obtain rfl : N = i := by omega
       have HJ : Hid ((rdn.any bigR || L.any bigA) = false) := by
        show _ = _
        rw [HR0.out, hJ2.out, ← HN.out, List.drop_length]; rfl
       go_wp2_with fail
       go_ret
       exact ⟨kt.ret_bool HJ.out.symm, HB1.out⟩
end etw
end Go.Proofs.YtcolcogobdgejaaGreatDoor
/-! SynW -/
namespace Go.Proofs.YtcolcogobdgejaaGreatDoor
open Go.RowKit
namespace atw
open atp
set_option linter.unusedVariables false
set_option linter.unusedSimpArgs false
def synL (n : List UInt8) : Int := match findS n with
 | some t => t.syn
 | none => 0
theorem bs_lit (n m : List UInt8) : ((bs n).toList == m) = decide (n = m) := by rw [Lib.toList_data, bs_data, Bool.eq_iff_iff, beq_iff_eq, decide_eq_true_iff]
theorem str_no {s : ByteArray} {m : List UInt8} (h : s.data.toList ≠ m) : (s.toList == m) = false := by rw [Lib.toList_data]; simpa using h
theorem str_is {s : ByteArray} {m : List UInt8} (h : s.data.toList = m) : (s.toList == m) = true := by rw [Lib.toList_data, h]; simp
set_option maxRecDepth 20000 in
set_option maxHeartbeats 4000000 in
theorem syn_0 (s : ByteArray) (w : World) (h : s.data.toList = [99, 110]) : Calls Tryz.prog 65 #[.string s] w fun e w' => e = .returned (.int .i64 1) ∧ w = w' := by
 have f0 := str_is h
 have f1 : (s.toList == [100, 99]) = false := str_no (by rw [h]; decide)
 have f2 : (s.toList == [100, 101, 115, 99, 114, 105, 112, 116, 105, 111, 110]) = false := str_no (by rw [h]; decide)
 have f3 : (s.toList == [101, 110, 97, 98, 108, 101, 100]) = false := str_no (by rw [h]; decide)
 have f4 : (s.toList == [108]) = false := str_no (by rw [h]; decide)
 have f5 : (s.toList == [108, 105, 109, 105, 116]) = false := str_no (by rw [h]; decide)
 have f6 : (s.toList == [109, 97, 105, 108]) = false := str_no (by rw [h]; decide)
 have f7 : (s.toList == [109, 101, 109, 98, 101, 114]) = false := str_no (by rw [h]; decide)
 have f8 : (s.toList == [111]) = false := str_no (by rw [h]; decide)
 have f9 : (s.toList == [111, 98, 106, 101, 99, 116, 99, 108, 97, 115, 115]) = false := str_no (by rw [h]; decide)
 have f10 : (s.toList == [111, 117]) = false := str_no (by rw [h]; decide)
 have f11 : (s.toList == [112, 104, 111, 116, 111]) = false := str_no (by rw [h]; decide)
 have f12 : (s.toList == [115, 101, 101, 97, 108, 115, 111]) = false := str_no (by rw [h]; decide)
 have f13 : (s.toList == [115, 101, 114, 105, 97, 108, 110, 117, 109, 98, 101, 114]) = false := str_no (by rw [h]; decide)
 have f14 : (s.toList == [115, 110]) = false := str_no (by rw [h]; decide)
 have f15 : (s.toList == [116, 101, 108, 101, 112, 104, 111, 110, 101, 110, 117, 109, 98, 101, 114]) = false := str_no (by rw [h]; decide)
 have f16 : (s.toList == [116, 105, 116, 108, 101]) = false := str_no (by rw [h]; decide)
 have f17 : (s.toList == [117, 105, 100]) = false := str_no (by rw [h]; decide)
 have f18 : (s.toList == [117, 105, 100, 110, 117, 109, 98, 101, 114]) = false := str_no (by rw [h]; decide)
 have f19 : (s.toList == [117, 115, 101, 114, 112, 97, 115, 115, 119, 111, 114, 100]) = false := str_no (by rw [h]; decide)
 clear h
 go_enter Tryz.func65, Tryz.ntmps65
 go_wp2_with fail
 go_ret
 exact ⟨rfl, rfl⟩
set_option maxRecDepth 20000 in
set_option maxHeartbeats 4000000 in
theorem syn_1 (s : ByteArray) (w : World) (h : s.data.toList = [100, 99]) : Calls Tryz.prog 65 #[.string s] w fun e w' => e = .returned (.int .i64 1) ∧ w = w' := by
 have f0 : (s.toList == [99, 110]) = false := str_no (by rw [h]; decide)
 have f1 := str_is h
 have f2 : (s.toList == [100, 101, 115, 99, 114, 105, 112, 116, 105, 111, 110]) = false := str_no (by rw [h]; decide)
 have f3 : (s.toList == [101, 110, 97, 98, 108, 101, 100]) = false := str_no (by rw [h]; decide)
 have f4 : (s.toList == [108]) = false := str_no (by rw [h]; decide)
 have f5 : (s.toList == [108, 105, 109, 105, 116]) = false := str_no (by rw [h]; decide)
 have f6 : (s.toList == [109, 97, 105, 108]) = false := str_no (by rw [h]; decide)
 have f7 : (s.toList == [109, 101, 109, 98, 101, 114]) = false := str_no (by rw [h]; decide)
 have f8 : (s.toList == [111]) = false := str_no (by rw [h]; decide)
 have f9 : (s.toList == [111, 98, 106, 101, 99, 116, 99, 108, 97, 115, 115]) = false := str_no (by rw [h]; decide)
 have f10 : (s.toList == [111, 117]) = false := str_no (by rw [h]; decide)
 have f11 : (s.toList == [112, 104, 111, 116, 111]) = false := str_no (by rw [h]; decide)
 have f12 : (s.toList == [115, 101, 101, 97, 108, 115, 111]) = false := str_no (by rw [h]; decide)
 have f13 : (s.toList == [115, 101, 114, 105, 97, 108, 110, 117, 109, 98, 101, 114]) = false := str_no (by rw [h]; decide)
 have f14 : (s.toList == [115, 110]) = false := str_no (by rw [h]; decide)
 have f15 : (s.toList == [116, 101, 108, 101, 112, 104, 111, 110, 101, 110, 117, 109, 98, 101, 114]) = false := str_no (by rw [h]; decide)
 have f16 : (s.toList == [116, 105, 116, 108, 101]) = false := str_no (by rw [h]; decide)
 have f17 : (s.toList == [117, 105, 100]) = false := str_no (by rw [h]; decide)
 have f18 : (s.toList == [117, 105, 100, 110, 117, 109, 98, 101, 114]) = false := str_no (by rw [h]; decide)
 have f19 : (s.toList == [117, 115, 101, 114, 112, 97, 115, 115, 119, 111, 114, 100]) = false := str_no (by rw [h]; decide)
 clear h
 go_enter Tryz.func65, Tryz.ntmps65
 go_wp2_with fail
 go_ret
 exact ⟨rfl, rfl⟩
set_option maxRecDepth 20000 in
set_option maxHeartbeats 4000000 in
theorem syn_2 (s : ByteArray) (w : World) (h : s.data.toList = [100, 101, 115, 99, 114, 105, 112, 116, 105, 111, 110]) : Calls Tryz.prog 65 #[.string s] w fun e w' => e = .returned (.int .i64 1) ∧ w = w' := by
 have f0 : (s.toList == [99, 110]) = false := str_no (by rw [h]; decide)
 have f1 : (s.toList == [100, 99]) = false := str_no (by rw [h]; decide)
 have f2 := str_is h
 have f3 : (s.toList == [101, 110, 97, 98, 108, 101, 100]) = false := str_no (by rw [h]; decide)
 have f4 : (s.toList == [108]) = false := str_no (by rw [h]; decide)
 have f5 : (s.toList == [108, 105, 109, 105, 116]) = false := str_no (by rw [h]; decide)
 have f6 : (s.toList == [109, 97, 105, 108]) = false := str_no (by rw [h]; decide)
 have f7 : (s.toList == [109, 101, 109, 98, 101, 114]) = false := str_no (by rw [h]; decide)
 have f8 : (s.toList == [111]) = false := str_no (by rw [h]; decide)
 have f9 : (s.toList == [111, 98, 106, 101, 99, 116, 99, 108, 97, 115, 115]) = false := str_no (by rw [h]; decide)
 have f10 : (s.toList == [111, 117]) = false := str_no (by rw [h]; decide)
 have f11 : (s.toList == [112, 104, 111, 116, 111]) = false := str_no (by rw [h]; decide)
 have f12 : (s.toList == [115, 101, 101, 97, 108, 115, 111]) = false := str_no (by rw [h]; decide)
 have f13 : (s.toList == [115, 101, 114, 105, 97, 108, 110, 117, 109, 98, 101, 114]) = false := str_no (by rw [h]; decide)
 have f14 : (s.toList == [115, 110]) = false := str_no (by rw [h]; decide)
 have f15 : (s.toList == [116, 101, 108, 101, 112, 104, 111, 110, 101, 110, 117, 109, 98, 101, 114]) = false := str_no (by rw [h]; decide)
 have f16 : (s.toList == [116, 105, 116, 108, 101]) = false := str_no (by rw [h]; decide)
 have f17 : (s.toList == [117, 105, 100]) = false := str_no (by rw [h]; decide)
 have f18 : (s.toList == [117, 105, 100, 110, 117, 109, 98, 101, 114]) = false := str_no (by rw [h]; decide)
 have f19 : (s.toList == [117, 115, 101, 114, 112, 97, 115, 115, 119, 111, 114, 100]) = false := str_no (by rw [h]; decide)
 clear h
 go_enter Tryz.func65, Tryz.ntmps65
 go_wp2_with fail
 go_ret
 exact ⟨rfl, rfl⟩
set_option maxRecDepth 20000 in
set_option maxHeartbeats 4000000 in
theorem syn_3 (s : ByteArray) (w : World) (h : s.data.toList = [101, 110, 97, 98, 108, 101, 100]) : Calls Tryz.prog 65 #[.string s] w fun e w' => e = .returned (.int .i64 5) ∧ w = w' := by
 have f0 : (s.toList == [99, 110]) = false := str_no (by rw [h]; decide)
 have f1 : (s.toList == [100, 99]) = false := str_no (by rw [h]; decide)
 have f2 : (s.toList == [100, 101, 115, 99, 114, 105, 112, 116, 105, 111, 110]) = false := str_no (by rw [h]; decide)
 have f3 := str_is h
 have f4 : (s.toList == [108]) = false := str_no (by rw [h]; decide)
 have f5 : (s.toList == [108, 105, 109, 105, 116]) = false := str_no (by rw [h]; decide)
 have f6 : (s.toList == [109, 97, 105, 108]) = false := str_no (by rw [h]; decide)
 have f7 : (s.toList == [109, 101, 109, 98, 101, 114]) = false := str_no (by rw [h]; decide)
 have f8 : (s.toList == [111]) = false := str_no (by rw [h]; decide)
 have f9 : (s.toList == [111, 98, 106, 101, 99, 116, 99, 108, 97, 115, 115]) = false := str_no (by rw [h]; decide)
 have f10 : (s.toList == [111, 117]) = false := str_no (by rw [h]; decide)
 have f11 : (s.toList == [112, 104, 111, 116, 111]) = false := str_no (by rw [h]; decide)
 have f12 : (s.toList == [115, 101, 101, 97, 108, 115, 111]) = false := str_no (by rw [h]; decide)
 have f13 : (s.toList == [115, 101, 114, 105, 97, 108, 110, 117, 109, 98, 101, 114]) = false := str_no (by rw [h]; decide)
 have f14 : (s.toList == [115, 110]) = false := str_no (by rw [h]; decide)
 have f15 : (s.toList == [116, 101, 108, 101, 112, 104, 111, 110, 101, 110, 117, 109, 98, 101, 114]) = false := str_no (by rw [h]; decide)
 have f16 : (s.toList == [116, 105, 116, 108, 101]) = false := str_no (by rw [h]; decide)
 have f17 : (s.toList == [117, 105, 100]) = false := str_no (by rw [h]; decide)
 have f18 : (s.toList == [117, 105, 100, 110, 117, 109, 98, 101, 114]) = false := str_no (by rw [h]; decide)
 have f19 : (s.toList == [117, 115, 101, 114, 112, 97, 115, 115, 119, 111, 114, 100]) = false := str_no (by rw [h]; decide)
 clear h
 go_enter Tryz.func65, Tryz.ntmps65
 go_wp2_with fail
 go_ret
 exact ⟨rfl, rfl⟩
set_option maxRecDepth 20000 in
set_option maxHeartbeats 4000000 in
theorem syn_4 (s : ByteArray) (w : World) (h : s.data.toList = [108]) : Calls Tryz.prog 65 #[.string s] w fun e w' => e = .returned (.int .i64 1) ∧ w = w' := by
 have f0 : (s.toList == [99, 110]) = false := str_no (by rw [h]; decide)
 have f1 : (s.toList == [100, 99]) = false := str_no (by rw [h]; decide)
 have f2 : (s.toList == [100, 101, 115, 99, 114, 105, 112, 116, 105, 111, 110]) = false := str_no (by rw [h]; decide)
 have f3 : (s.toList == [101, 110, 97, 98, 108, 101, 100]) = false := str_no (by rw [h]; decide)
 have f4 := str_is h
 have f5 : (s.toList == [108, 105, 109, 105, 116]) = false := str_no (by rw [h]; decide)
 have f6 : (s.toList == [109, 97, 105, 108]) = false := str_no (by rw [h]; decide)
 have f7 : (s.toList == [109, 101, 109, 98, 101, 114]) = false := str_no (by rw [h]; decide)
 have f8 : (s.toList == [111]) = false := str_no (by rw [h]; decide)
 have f9 : (s.toList == [111, 98, 106, 101, 99, 116, 99, 108, 97, 115, 115]) = false := str_no (by rw [h]; decide)
 have f10 : (s.toList == [111, 117]) = false := str_no (by rw [h]; decide)
 have f11 : (s.toList == [112, 104, 111, 116, 111]) = false := str_no (by rw [h]; decide)
 have f12 : (s.toList == [115, 101, 101, 97, 108, 115, 111]) = false := str_no (by rw [h]; decide)
 have f13 : (s.toList == [115, 101, 114, 105, 97, 108, 110, 117, 109, 98, 101, 114]) = false := str_no (by rw [h]; decide)
 have f14 : (s.toList == [115, 110]) = false := str_no (by rw [h]; decide)
 have f15 : (s.toList == [116, 101, 108, 101, 112, 104, 111, 110, 101, 110, 117, 109, 98, 101, 114]) = false := str_no (by rw [h]; decide)
 have f16 : (s.toList == [116, 105, 116, 108, 101]) = false := str_no (by rw [h]; decide)
 have f17 : (s.toList == [117, 105, 100]) = false := str_no (by rw [h]; decide)
 have f18 : (s.toList == [117, 105, 100, 110, 117, 109, 98, 101, 114]) = false := str_no (by rw [h]; decide)
 have f19 : (s.toList == [117, 115, 101, 114, 112, 97, 115, 115, 119, 111, 114, 100]) = false := str_no (by rw [h]; decide)
 clear h
 go_enter Tryz.func65, Tryz.ntmps65
 go_wp2_with fail
 go_ret
 exact ⟨rfl, rfl⟩
set_option maxRecDepth 20000 in
set_option maxHeartbeats 4000000 in
theorem syn_5 (s : ByteArray) (w : World) (h : s.data.toList = [108, 105, 109, 105, 116]) : Calls Tryz.prog 65 #[.string s] w fun e w' => e = .returned (.int .i64 4) ∧ w = w' := by
 have f0 : (s.toList == [99, 110]) = false := str_no (by rw [h]; decide)
 have f1 : (s.toList == [100, 99]) = false := str_no (by rw [h]; decide)
 have f2 : (s.toList == [100, 101, 115, 99, 114, 105, 112, 116, 105, 111, 110]) = false := str_no (by rw [h]; decide)
 have f3 : (s.toList == [101, 110, 97, 98, 108, 101, 100]) = false := str_no (by rw [h]; decide)
 have f4 : (s.toList == [108]) = false := str_no (by rw [h]; decide)
 have f5 := str_is h
 have f6 : (s.toList == [109, 97, 105, 108]) = false := str_no (by rw [h]; decide)
 have f7 : (s.toList == [109, 101, 109, 98, 101, 114]) = false := str_no (by rw [h]; decide)
 have f8 : (s.toList == [111]) = false := str_no (by rw [h]; decide)
 have f9 : (s.toList == [111, 98, 106, 101, 99, 116, 99, 108, 97, 115, 115]) = false := str_no (by rw [h]; decide)
 have f10 : (s.toList == [111, 117]) = false := str_no (by rw [h]; decide)
 have f11 : (s.toList == [112, 104, 111, 116, 111]) = false := str_no (by rw [h]; decide)
 have f12 : (s.toList == [115, 101, 101, 97, 108, 115, 111]) = false := str_no (by rw [h]; decide)
 have f13 : (s.toList == [115, 101, 114, 105, 97, 108, 110, 117, 109, 98, 101, 114]) = false := str_no (by rw [h]; decide)
 have f14 : (s.toList == [115, 110]) = false := str_no (by rw [h]; decide)
 have f15 : (s.toList == [116, 101, 108, 101, 112, 104, 111, 110, 101, 110, 117, 109, 98, 101, 114]) = false := str_no (by rw [h]; decide)
 have f16 : (s.toList == [116, 105, 116, 108, 101]) = false := str_no (by rw [h]; decide)
 have f17 : (s.toList == [117, 105, 100]) = false := str_no (by rw [h]; decide)
 have f18 : (s.toList == [117, 105, 100, 110, 117, 109, 98, 101, 114]) = false := str_no (by rw [h]; decide)
 have f19 : (s.toList == [117, 115, 101, 114, 112, 97, 115, 115, 119, 111, 114, 100]) = false := str_no (by rw [h]; decide)
 clear h
 go_enter Tryz.func65, Tryz.ntmps65
 go_wp2_with fail
 go_ret
 exact ⟨rfl, rfl⟩
set_option maxRecDepth 20000 in
set_option maxHeartbeats 4000000 in
theorem syn_6 (s : ByteArray) (w : World) (h : s.data.toList = [109, 97, 105, 108]) : Calls Tryz.prog 65 #[.string s] w fun e w' => e = .returned (.int .i64 1) ∧ w = w' := by
 have f0 : (s.toList == [99, 110]) = false := str_no (by rw [h]; decide)
 have f1 : (s.toList == [100, 99]) = false := str_no (by rw [h]; decide)
 have f2 : (s.toList == [100, 101, 115, 99, 114, 105, 112, 116, 105, 111, 110]) = false := str_no (by rw [h]; decide)
 have f3 : (s.toList == [101, 110, 97, 98, 108, 101, 100]) = false := str_no (by rw [h]; decide)
 have f4 : (s.toList == [108]) = false := str_no (by rw [h]; decide)
 have f5 : (s.toList == [108, 105, 109, 105, 116]) = false := str_no (by rw [h]; decide)
 have f6 := str_is h
 have f7 : (s.toList == [109, 101, 109, 98, 101, 114]) = false := str_no (by rw [h]; decide)
 have f8 : (s.toList == [111]) = false := str_no (by rw [h]; decide)
 have f9 : (s.toList == [111, 98, 106, 101, 99, 116, 99, 108, 97, 115, 115]) = false := str_no (by rw [h]; decide)
 have f10 : (s.toList == [111, 117]) = false := str_no (by rw [h]; decide)
 have f11 : (s.toList == [112, 104, 111, 116, 111]) = false := str_no (by rw [h]; decide)
 have f12 : (s.toList == [115, 101, 101, 97, 108, 115, 111]) = false := str_no (by rw [h]; decide)
 have f13 : (s.toList == [115, 101, 114, 105, 97, 108, 110, 117, 109, 98, 101, 114]) = false := str_no (by rw [h]; decide)
 have f14 : (s.toList == [115, 110]) = false := str_no (by rw [h]; decide)
 have f15 : (s.toList == [116, 101, 108, 101, 112, 104, 111, 110, 101, 110, 117, 109, 98, 101, 114]) = false := str_no (by rw [h]; decide)
 have f16 : (s.toList == [116, 105, 116, 108, 101]) = false := str_no (by rw [h]; decide)
 have f17 : (s.toList == [117, 105, 100]) = false := str_no (by rw [h]; decide)
 have f18 : (s.toList == [117, 105, 100, 110, 117, 109, 98, 101, 114]) = false := str_no (by rw [h]; decide)
 have f19 : (s.toList == [117, 115, 101, 114, 112, 97, 115, 115, 119, 111, 114, 100]) = false := str_no (by rw [h]; decide)
 clear h
 go_enter Tryz.func65, Tryz.ntmps65
 go_wp2_with fail
 go_ret
 exact ⟨rfl, rfl⟩
set_option maxRecDepth 20000 in
set_option maxHeartbeats 4000000 in
theorem syn_7 (s : ByteArray) (w : World) (h : s.data.toList = [109, 101, 109, 98, 101, 114]) : Calls Tryz.prog 65 #[.string s] w fun e w' => e = .returned (.int .i64 6) ∧ w = w' := by
 have f0 : (s.toList == [99, 110]) = false := str_no (by rw [h]; decide)
 have f1 : (s.toList == [100, 99]) = false := str_no (by rw [h]; decide)
 have f2 : (s.toList == [100, 101, 115, 99, 114, 105, 112, 116, 105, 111, 110]) = false := str_no (by rw [h]; decide)
 have f3 : (s.toList == [101, 110, 97, 98, 108, 101, 100]) = false := str_no (by rw [h]; decide)
 have f4 : (s.toList == [108]) = false := str_no (by rw [h]; decide)
 have f5 : (s.toList == [108, 105, 109, 105, 116]) = false := str_no (by rw [h]; decide)
 have f6 : (s.toList == [109, 97, 105, 108]) = false := str_no (by rw [h]; decide)
 have f7 := str_is h
 have f8 : (s.toList == [111]) = false := str_no (by rw [h]; decide)
 have f9 : (s.toList == [111, 98, 106, 101, 99, 116, 99, 108, 97, 115, 115]) = false := str_no (by rw [h]; decide)
 have f10 : (s.toList == [111, 117]) = false := str_no (by rw [h]; decide)
 have f11 : (s.toList == [112, 104, 111, 116, 111]) = false := str_no (by rw [h]; decide)
 have f12 : (s.toList == [115, 101, 101, 97, 108, 115, 111]) = false := str_no (by rw [h]; decide)
 have f13 : (s.toList == [115, 101, 114, 105, 97, 108, 110, 117, 109, 98, 101, 114]) = false := str_no (by rw [h]; decide)
 have f14 : (s.toList == [115, 110]) = false := str_no (by rw [h]; decide)
 have f15 : (s.toList == [116, 101, 108, 101, 112, 104, 111, 110, 101, 110, 117, 109, 98, 101, 114]) = false := str_no (by rw [h]; decide)
 have f16 : (s.toList == [116, 105, 116, 108, 101]) = false := str_no (by rw [h]; decide)
 have f17 : (s.toList == [117, 105, 100]) = false := str_no (by rw [h]; decide)
 have f18 : (s.toList == [117, 105, 100, 110, 117, 109, 98, 101, 114]) = false := str_no (by rw [h]; decide)
 have f19 : (s.toList == [117, 115, 101, 114, 112, 97, 115, 115, 119, 111, 114, 100]) = false := str_no (by rw [h]; decide)
 clear h
 go_enter Tryz.func65, Tryz.ntmps65
 go_wp2_with fail
 go_ret
 exact ⟨rfl, rfl⟩
set_option maxRecDepth 20000 in
set_option maxHeartbeats 4000000 in
theorem syn_8 (s : ByteArray) (w : World) (h : s.data.toList = [111]) : Calls Tryz.prog 65 #[.string s] w fun e w' => e = .returned (.int .i64 1) ∧ w = w' := by
 have f0 : (s.toList == [99, 110]) = false := str_no (by rw [h]; decide)
 have f1 : (s.toList == [100, 99]) = false := str_no (by rw [h]; decide)
 have f2 : (s.toList == [100, 101, 115, 99, 114, 105, 112, 116, 105, 111, 110]) = false := str_no (by rw [h]; decide)
 have f3 : (s.toList == [101, 110, 97, 98, 108, 101, 100]) = false := str_no (by rw [h]; decide)
 have f4 : (s.toList == [108]) = false := str_no (by rw [h]; decide)
 have f5 : (s.toList == [108, 105, 109, 105, 116]) = false := str_no (by rw [h]; decide)
 have f6 : (s.toList == [109, 97, 105, 108]) = false := str_no (by rw [h]; decide)
 have f7 : (s.toList == [109, 101, 109, 98, 101, 114]) = false := str_no (by rw [h]; decide)
 have f8 := str_is h
 have f9 : (s.toList == [111, 98, 106, 101, 99, 116, 99, 108, 97, 115, 115]) = false := str_no (by rw [h]; decide)
 have f10 : (s.toList == [111, 117]) = false := str_no (by rw [h]; decide)
 have f11 : (s.toList == [112, 104, 111, 116, 111]) = false := str_no (by rw [h]; decide)
 have f12 : (s.toList == [115, 101, 101, 97, 108, 115, 111]) = false := str_no (by rw [h]; decide)
 have f13 : (s.toList == [115, 101, 114, 105, 97, 108, 110, 117, 109, 98, 101, 114]) = false := str_no (by rw [h]; decide)
 have f14 : (s.toList == [115, 110]) = false := str_no (by rw [h]; decide)
 have f15 : (s.toList == [116, 101, 108, 101, 112, 104, 111, 110, 101, 110, 117, 109, 98, 101, 114]) = false := str_no (by rw [h]; decide)
 have f16 : (s.toList == [116, 105, 116, 108, 101]) = false := str_no (by rw [h]; decide)
 have f17 : (s.toList == [117, 105, 100]) = false := str_no (by rw [h]; decide)
 have f18 : (s.toList == [117, 105, 100, 110, 117, 109, 98, 101, 114]) = false := str_no (by rw [h]; decide)
 have f19 : (s.toList == [117, 115, 101, 114, 112, 97, 115, 115, 119, 111, 114, 100]) = false := str_no (by rw [h]; decide)
 clear h
 go_enter Tryz.func65, Tryz.ntmps65
 go_wp2_with fail
 go_ret
 exact ⟨rfl, rfl⟩
set_option maxRecDepth 20000 in
set_option maxHeartbeats 4000000 in
theorem syn_9 (s : ByteArray) (w : World) (h : s.data.toList = [111, 98, 106, 101, 99, 116, 99, 108, 97, 115, 115]) : Calls Tryz.prog 65 #[.string s] w fun e w' => e = .returned (.int .i64 1) ∧ w = w' := by
 have f0 : (s.toList == [99, 110]) = false := str_no (by rw [h]; decide)
 have f1 : (s.toList == [100, 99]) = false := str_no (by rw [h]; decide)
 have f2 : (s.toList == [100, 101, 115, 99, 114, 105, 112, 116, 105, 111, 110]) = false := str_no (by rw [h]; decide)
 have f3 : (s.toList == [101, 110, 97, 98, 108, 101, 100]) = false := str_no (by rw [h]; decide)
 have f4 : (s.toList == [108]) = false := str_no (by rw [h]; decide)
 have f5 : (s.toList == [108, 105, 109, 105, 116]) = false := str_no (by rw [h]; decide)
 have f6 : (s.toList == [109, 97, 105, 108]) = false := str_no (by rw [h]; decide)
 have f7 : (s.toList == [109, 101, 109, 98, 101, 114]) = false := str_no (by rw [h]; decide)
 have f8 : (s.toList == [111]) = false := str_no (by rw [h]; decide)
 have f9 := str_is h
 have f10 : (s.toList == [111, 117]) = false := str_no (by rw [h]; decide)
 have f11 : (s.toList == [112, 104, 111, 116, 111]) = false := str_no (by rw [h]; decide)
 have f12 : (s.toList == [115, 101, 101, 97, 108, 115, 111]) = false := str_no (by rw [h]; decide)
 have f13 : (s.toList == [115, 101, 114, 105, 97, 108, 110, 117, 109, 98, 101, 114]) = false := str_no (by rw [h]; decide)
 have f14 : (s.toList == [115, 110]) = false := str_no (by rw [h]; decide)
 have f15 : (s.toList == [116, 101, 108, 101, 112, 104, 111, 110, 101, 110, 117, 109, 98, 101, 114]) = false := str_no (by rw [h]; decide)
 have f16 : (s.toList == [116, 105, 116, 108, 101]) = false := str_no (by rw [h]; decide)
 have f17 : (s.toList == [117, 105, 100]) = false := str_no (by rw [h]; decide)
 have f18 : (s.toList == [117, 105, 100, 110, 117, 109, 98, 101, 114]) = false := str_no (by rw [h]; decide)
 have f19 : (s.toList == [117, 115, 101, 114, 112, 97, 115, 115, 119, 111, 114, 100]) = false := str_no (by rw [h]; decide)
 clear h
 go_enter Tryz.func65, Tryz.ntmps65
 go_wp2_with fail
 go_ret
 exact ⟨rfl, rfl⟩
set_option maxRecDepth 20000 in
set_option maxHeartbeats 4000000 in
theorem syn_10 (s : ByteArray) (w : World) (h : s.data.toList = [111, 117]) : Calls Tryz.prog 65 #[.string s] w fun e w' => e = .returned (.int .i64 1) ∧ w = w' := by
 have f0 : (s.toList == [99, 110]) = false := str_no (by rw [h]; decide)
 have f1 : (s.toList == [100, 99]) = false := str_no (by rw [h]; decide)
 have f2 : (s.toList == [100, 101, 115, 99, 114, 105, 112, 116, 105, 111, 110]) = false := str_no (by rw [h]; decide)
 have f3 : (s.toList == [101, 110, 97, 98, 108, 101, 100]) = false := str_no (by rw [h]; decide)
 have f4 : (s.toList == [108]) = false := str_no (by rw [h]; decide)
 have f5 : (s.toList == [108, 105, 109, 105, 116]) = false := str_no (by rw [h]; decide)
 have f6 : (s.toList == [109, 97, 105, 108]) = false := str_no (by rw [h]; decide)
 have f7 : (s.toList == [109, 101, 109, 98, 101, 114]) = false := str_no (by rw [h]; decide)
 have f8 : (s.toList == [111]) = false := str_no (by rw [h]; decide)
 have f9 : (s.toList == [111, 98, 106, 101, 99, 116, 99, 108, 97, 115, 115]) = false := str_no (by rw [h]; decide)
 have f10 := str_is h
 have f11 : (s.toList == [112, 104, 111, 116, 111]) = false := str_no (by rw [h]; decide)
 have f12 : (s.toList == [115, 101, 101, 97, 108, 115, 111]) = false := str_no (by rw [h]; decide)
 have f13 : (s.toList == [115, 101, 114, 105, 97, 108, 110, 117, 109, 98, 101, 114]) = false := str_no (by rw [h]; decide)
 have f14 : (s.toList == [115, 110]) = false := str_no (by rw [h]; decide)
 have f15 : (s.toList == [116, 101, 108, 101, 112, 104, 111, 110, 101, 110, 117, 109, 98, 101, 114]) = false := str_no (by rw [h]; decide)
 have f16 : (s.toList == [116, 105, 116, 108, 101]) = false := str_no (by rw [h]; decide)
 have f17 : (s.toList == [117, 105, 100]) = false := str_no (by rw [h]; decide)
 have f18 : (s.toList == [117, 105, 100, 110, 117, 109, 98, 101, 114]) = false := str_no (by rw [h]; decide)
 have f19 : (s.toList == [117, 115, 101, 114, 112, 97, 115, 115, 119, 111, 114, 100]) = false := str_no (by rw [h]; decide)
 clear h
 go_enter Tryz.func65, Tryz.ntmps65
 go_wp2_with fail
 go_ret
 exact ⟨rfl, rfl⟩
set_option maxRecDepth 20000 in
set_option maxHeartbeats 4000000 in
theorem syn_11 (s : ByteArray) (w : World) (h : s.data.toList = [112, 104, 111, 116, 111]) : Calls Tryz.prog 65 #[.string s] w fun e w' => e = .returned (.int .i64 3) ∧ w = w' := by
 have f0 : (s.toList == [99, 110]) = false := str_no (by rw [h]; decide)
 have f1 : (s.toList == [100, 99]) = false := str_no (by rw [h]; decide)
 have f2 : (s.toList == [100, 101, 115, 99, 114, 105, 112, 116, 105, 111, 110]) = false := str_no (by rw [h]; decide)
 have f3 : (s.toList == [101, 110, 97, 98, 108, 101, 100]) = false := str_no (by rw [h]; decide)
 have f4 : (s.toList == [108]) = false := str_no (by rw [h]; decide)
 have f5 : (s.toList == [108, 105, 109, 105, 116]) = false := str_no (by rw [h]; decide)
 have f6 : (s.toList == [109, 97, 105, 108]) = false := str_no (by rw [h]; decide)
 have f7 : (s.toList == [109, 101, 109, 98, 101, 114]) = false := str_no (by rw [h]; decide)
 have f8 : (s.toList == [111]) = false := str_no (by rw [h]; decide)
 have f9 : (s.toList == [111, 98, 106, 101, 99, 116, 99, 108, 97, 115, 115]) = false := str_no (by rw [h]; decide)
 have f10 : (s.toList == [111, 117]) = false := str_no (by rw [h]; decide)
 have f11 := str_is h
 have f12 : (s.toList == [115, 101, 101, 97, 108, 115, 111]) = false := str_no (by rw [h]; decide)
 have f13 : (s.toList == [115, 101, 114, 105, 97, 108, 110, 117, 109, 98, 101, 114]) = false := str_no (by rw [h]; decide)
 have f14 : (s.toList == [115, 110]) = false := str_no (by rw [h]; decide)
 have f15 : (s.toList == [116, 101, 108, 101, 112, 104, 111, 110, 101, 110, 117, 109, 98, 101, 114]) = false := str_no (by rw [h]; decide)
 have f16 : (s.toList == [116, 105, 116, 108, 101]) = false := str_no (by rw [h]; decide)
 have f17 : (s.toList == [117, 105, 100]) = false := str_no (by rw [h]; decide)
 have f18 : (s.toList == [117, 105, 100, 110, 117, 109, 98, 101, 114]) = false := str_no (by rw [h]; decide)
 have f19 : (s.toList == [117, 115, 101, 114, 112, 97, 115, 115, 119, 111, 114, 100]) = false := str_no (by rw [h]; decide)
 clear h
 go_enter Tryz.func65, Tryz.ntmps65
 go_wp2_with fail
 go_ret
 exact ⟨rfl, rfl⟩
set_option maxRecDepth 20000 in
set_option maxHeartbeats 4000000 in
theorem syn_12 (s : ByteArray) (w : World) (h : s.data.toList = [115, 101, 101, 97, 108, 115, 111]) : Calls Tryz.prog 65 #[.string s] w fun e w' => e = .returned (.int .i64 6) ∧ w = w' := by
 have f0 : (s.toList == [99, 110]) = false := str_no (by rw [h]; decide)
 have f1 : (s.toList == [100, 99]) = false := str_no (by rw [h]; decide)
 have f2 : (s.toList == [100, 101, 115, 99, 114, 105, 112, 116, 105, 111, 110]) = false := str_no (by rw [h]; decide)
 have f3 : (s.toList == [101, 110, 97, 98, 108, 101, 100]) = false := str_no (by rw [h]; decide)
 have f4 : (s.toList == [108]) = false := str_no (by rw [h]; decide)
 have f5 : (s.toList == [108, 105, 109, 105, 116]) = false := str_no (by rw [h]; decide)
 have f6 : (s.toList == [109, 97, 105, 108]) = false := str_no (by rw [h]; decide)
 have f7 : (s.toList == [109, 101, 109, 98, 101, 114]) = false := str_no (by rw [h]; decide)
 have f8 : (s.toList == [111]) = false := str_no (by rw [h]; decide)
 have f9 : (s.toList == [111, 98, 106, 101, 99, 116, 99, 108, 97, 115, 115]) = false := str_no (by rw [h]; decide)
 have f10 : (s.toList == [111, 117]) = false := str_no (by rw [h]; decide)
 have f11 : (s.toList == [112, 104, 111, 116, 111]) = false := str_no (by rw [h]; decide)
 have f12 := str_is h
 have f13 : (s.toList == [115, 101, 114, 105, 97, 108, 110, 117, 109, 98, 101, 114]) = false := str_no (by rw [h]; decide)
 have f14 : (s.toList == [115, 110]) = false := str_no (by rw [h]; decide)
 have f15 : (s.toList == [116, 101, 108, 101, 112, 104, 111, 110, 101, 110, 117, 109, 98, 101, 114]) = false := str_no (by rw [h]; decide)
 have f16 : (s.toList == [116, 105, 116, 108, 101]) = false := str_no (by rw [h]; decide)
 have f17 : (s.toList == [117, 105, 100]) = false := str_no (by rw [h]; decide)
 have f18 : (s.toList == [117, 105, 100, 110, 117, 109, 98, 101, 114]) = false := str_no (by rw [h]; decide)
 have f19 : (s.toList == [117, 115, 101, 114, 112, 97, 115, 115, 119, 111, 114, 100]) = false := str_no (by rw [h]; decide)
 clear h
 go_enter Tryz.func65, Tryz.ntmps65
 go_wp2_with fail
 go_ret
 exact ⟨rfl, rfl⟩
set_option maxRecDepth 20000 in
set_option maxHeartbeats 4000000 in
theorem syn_13 (s : ByteArray) (w : World) (h : s.data.toList = [115, 101, 114, 105, 97, 108, 110, 117, 109, 98, 101, 114]) : Calls Tryz.prog 65 #[.string s] w fun e w' => e = .returned (.int .i64 2) ∧ w = w' := by
 have f0 : (s.toList == [99, 110]) = false := str_no (by rw [h]; decide)
 have f1 : (s.toList == [100, 99]) = false := str_no (by rw [h]; decide)
 have f2 : (s.toList == [100, 101, 115, 99, 114, 105, 112, 116, 105, 111, 110]) = false := str_no (by rw [h]; decide)
 have f3 : (s.toList == [101, 110, 97, 98, 108, 101, 100]) = false := str_no (by rw [h]; decide)
 have f4 : (s.toList == [108]) = false := str_no (by rw [h]; decide)
 have f5 : (s.toList == [108, 105, 109, 105, 116]) = false := str_no (by rw [h]; decide)
 have f6 : (s.toList == [109, 97, 105, 108]) = false := str_no (by rw [h]; decide)
 have f7 : (s.toList == [109, 101, 109, 98, 101, 114]) = false := str_no (by rw [h]; decide)
 have f8 : (s.toList == [111]) = false := str_no (by rw [h]; decide)
 have f9 : (s.toList == [111, 98, 106, 101, 99, 116, 99, 108, 97, 115, 115]) = false := str_no (by rw [h]; decide)
 have f10 : (s.toList == [111, 117]) = false := str_no (by rw [h]; decide)
 have f11 : (s.toList == [112, 104, 111, 116, 111]) = false := str_no (by rw [h]; decide)
 have f12 : (s.toList == [115, 101, 101, 97, 108, 115, 111]) = false := str_no (by rw [h]; decide)
 have f13 := str_is h
 have f14 : (s.toList == [115, 110]) = false := str_no (by rw [h]; decide)
 have f15 : (s.toList == [116, 101, 108, 101, 112, 104, 111, 110, 101, 110, 117, 109, 98, 101, 114]) = false := str_no (by rw [h]; decide)
 have f16 : (s.toList == [116, 105, 116, 108, 101]) = false := str_no (by rw [h]; decide)
 have f17 : (s.toList == [117, 105, 100]) = false := str_no (by rw [h]; decide)
 have f18 : (s.toList == [117, 105, 100, 110, 117, 109, 98, 101, 114]) = false := str_no (by rw [h]; decide)
 have f19 : (s.toList == [117, 115, 101, 114, 112, 97, 115, 115, 119, 111, 114, 100]) = false := str_no (by rw [h]; decide)
 clear h
 go_enter Tryz.func65, Tryz.ntmps65
 go_wp2_with fail
 go_ret
 exact ⟨rfl, rfl⟩
set_option maxRecDepth 20000 in
set_option maxHeartbeats 4000000 in
theorem syn_14 (s : ByteArray) (w : World) (h : s.data.toList = [115, 110]) : Calls Tryz.prog 65 #[.string s] w fun e w' => e = .returned (.int .i64 1) ∧ w = w' := by
 have f0 : (s.toList == [99, 110]) = false := str_no (by rw [h]; decide)
 have f1 : (s.toList == [100, 99]) = false := str_no (by rw [h]; decide)
 have f2 : (s.toList == [100, 101, 115, 99, 114, 105, 112, 116, 105, 111, 110]) = false := str_no (by rw [h]; decide)
 have f3 : (s.toList == [101, 110, 97, 98, 108, 101, 100]) = false := str_no (by rw [h]; decide)
 have f4 : (s.toList == [108]) = false := str_no (by rw [h]; decide)
 have f5 : (s.toList == [108, 105, 109, 105, 116]) = false := str_no (by rw [h]; decide)
 have f6 : (s.toList == [109, 97, 105, 108]) = false := str_no (by rw [h]; decide)
 have f7 : (s.toList == [109, 101, 109, 98, 101, 114]) = false := str_no (by rw [h]; decide)
 have f8 : (s.toList == [111]) = false := str_no (by rw [h]; decide)
 have f9 : (s.toList == [111, 98, 106, 101, 99, 116, 99, 108, 97, 115, 115]) = false := str_no (by rw [h]; decide)
 have f10 : (s.toList == [111, 117]) = false := str_no (by rw [h]; decide)
 have f11 : (s.toList == [112, 104, 111, 116, 111]) = false := str_no (by rw [h]; decide)
 have f12 : (s.toList == [115, 101, 101, 97, 108, 115, 111]) = false := str_no (by rw [h]; decide)
 have f13 : (s.toList == [115, 101, 114, 105, 97, 108, 110, 117, 109, 98, 101, 114]) = false := str_no (by rw [h]; decide)
 have f14 := str_is h
 have f15 : (s.toList == [116, 101, 108, 101, 112, 104, 111, 110, 101, 110, 117, 109, 98, 101, 114]) = false := str_no (by rw [h]; decide)
 have f16 : (s.toList == [116, 105, 116, 108, 101]) = false := str_no (by rw [h]; decide)
 have f17 : (s.toList == [117, 105, 100]) = false := str_no (by rw [h]; decide)
 have f18 : (s.toList == [117, 105, 100, 110, 117, 109, 98, 101, 114]) = false := str_no (by rw [h]; decide)
 have f19 : (s.toList == [117, 115, 101, 114, 112, 97, 115, 115, 119, 111, 114, 100]) = false := str_no (by rw [h]; decide)
 clear h
 go_enter Tryz.func65, Tryz.ntmps65
 go_wp2_with fail
 go_ret
 exact ⟨rfl, rfl⟩
set_option maxRecDepth 20000 in
set_option maxHeartbeats 4000000 in
theorem syn_15 (s : ByteArray) (w : World) (h : s.data.toList = [116, 101, 108, 101, 112, 104, 111, 110, 101, 110, 117, 109, 98, 101, 114]) : Calls Tryz.prog 65 #[.string s] w fun e w' => e = .returned (.int .i64 7) ∧ w = w' := by
 have f0 : (s.toList == [99, 110]) = false := str_no (by rw [h]; decide)
 have f1 : (s.toList == [100, 99]) = false := str_no (by rw [h]; decide)
 have f2 : (s.toList == [100, 101, 115, 99, 114, 105, 112, 116, 105, 111, 110]) = false := str_no (by rw [h]; decide)
 have f3 : (s.toList == [101, 110, 97, 98, 108, 101, 100]) = false := str_no (by rw [h]; decide)
 have f4 : (s.toList == [108]) = false := str_no (by rw [h]; decide)
 have f5 : (s.toList == [108, 105, 109, 105, 116]) = false := str_no (by rw [h]; decide)
 have f6 : (s.toList == [109, 97, 105, 108]) = false := str_no (by rw [h]; decide)
 have f7 : (s.toList == [109, 101, 109, 98, 101, 114]) = false := str_no (by rw [h]; decide)
 have f8 : (s.toList == [111]) = false := str_no (by rw [h]; decide)
 have f9 : (s.toList == [111, 98, 106, 101, 99, 116, 99, 108, 97, 115, 115]) = false := str_no (by rw [h]; decide)
 have f10 : (s.toList == [111, 117]) = false := str_no (by rw [h]; decide)
 have f11 : (s.toList == [112, 104, 111, 116, 111]) = false := str_no (by rw [h]; decide)
 have f12 : (s.toList == [115, 101, 101, 97, 108, 115, 111]) = false := str_no (by rw [h]; decide)
 have f13 : (s.toList == [115, 101, 114, 105, 97, 108, 110, 117, 109, 98, 101, 114]) = false := str_no (by rw [h]; decide)
 have f14 : (s.toList == [115, 110]) = false := str_no (by rw [h]; decide)
 have f15 := str_is h
 have f16 : (s.toList == [116, 105, 116, 108, 101]) = false := str_no (by rw [h]; decide)
 have f17 : (s.toList == [117, 105, 100]) = false := str_no (by rw [h]; decide)
 have f18 : (s.toList == [117, 105, 100, 110, 117, 109, 98, 101, 114]) = false := str_no (by rw [h]; decide)
 have f19 : (s.toList == [117, 115, 101, 114, 112, 97, 115, 115, 119, 111, 114, 100]) = false := str_no (by rw [h]; decide)
 clear h
 go_enter Tryz.func65, Tryz.ntmps65
 go_wp2_with fail
 go_ret
 exact ⟨rfl, rfl⟩
set_option maxRecDepth 20000 in
set_option maxHeartbeats 4000000 in
theorem syn_16 (s : ByteArray) (w : World) (h : s.data.toList = [116, 105, 116, 108, 101]) : Calls Tryz.prog 65 #[.string s] w fun e w' => e = .returned (.int .i64 1) ∧ w = w' := by
 have f0 : (s.toList == [99, 110]) = false := str_no (by rw [h]; decide)
 have f1 : (s.toList == [100, 99]) = false := str_no (by rw [h]; decide)
 have f2 : (s.toList == [100, 101, 115, 99, 114, 105, 112, 116, 105, 111, 110]) = false := str_no (by rw [h]; decide)
 have f3 : (s.toList == [101, 110, 97, 98, 108, 101, 100]) = false := str_no (by rw [h]; decide)
 have f4 : (s.toList == [108]) = false := str_no (by rw [h]; decide)
 have f5 : (s.toList == [108, 105, 109, 105, 116]) = false := str_no (by rw [h]; decide)
 have f6 : (s.toList == [109, 97, 105, 108]) = false := str_no (by rw [h]; decide)
 have f7 : (s.toList == [109, 101, 109, 98, 101, 114]) = false := str_no (by rw [h]; decide)
 have f8 : (s.toList == [111]) = false := str_no (by rw [h]; decide)
 have f9 : (s.toList == [111, 98, 106, 101, 99, 116, 99, 108, 97, 115, 115]) = false := str_no (by rw [h]; decide)
 have f10 : (s.toList == [111, 117]) = false := str_no (by rw [h]; decide)
 have f11 : (s.toList == [112, 104, 111, 116, 111]) = false := str_no (by rw [h]; decide)
 have f12 : (s.toList == [115, 101, 101, 97, 108, 115, 111]) = false := str_no (by rw [h]; decide)
 have f13 : (s.toList == [115, 101, 114, 105, 97, 108, 110, 117, 109, 98, 101, 114]) = false := str_no (by rw [h]; decide)
 have f14 : (s.toList == [115, 110]) = false := str_no (by rw [h]; decide)
 have f15 : (s.toList == [116, 101, 108, 101, 112, 104, 111, 110, 101, 110, 117, 109, 98, 101, 114]) = false := str_no (by rw [h]; decide)
 have f16 := str_is h
 have f17 : (s.toList == [117, 105, 100]) = false := str_no (by rw [h]; decide)
 have f18 : (s.toList == [117, 105, 100, 110, 117, 109, 98, 101, 114]) = false := str_no (by rw [h]; decide)
 have f19 : (s.toList == [117, 115, 101, 114, 112, 97, 115, 115, 119, 111, 114, 100]) = false := str_no (by rw [h]; decide)
 clear h
 go_enter Tryz.func65, Tryz.ntmps65
 go_wp2_with fail
 go_ret
 exact ⟨rfl, rfl⟩
set_option maxRecDepth 20000 in
set_option maxHeartbeats 4000000 in
theorem syn_17 (s : ByteArray) (w : World) (h : s.data.toList = [117, 105, 100]) : Calls Tryz.prog 65 #[.string s] w fun e w' => e = .returned (.int .i64 1) ∧ w = w' := by
 have f0 : (s.toList == [99, 110]) = false := str_no (by rw [h]; decide)
 have f1 : (s.toList == [100, 99]) = false := str_no (by rw [h]; decide)
 have f2 : (s.toList == [100, 101, 115, 99, 114, 105, 112, 116, 105, 111, 110]) = false := str_no (by rw [h]; decide)
 have f3 : (s.toList == [101, 110, 97, 98, 108, 101, 100]) = false := str_no (by rw [h]; decide)
 have f4 : (s.toList == [108]) = false := str_no (by rw [h]; decide)
 have f5 : (s.toList == [108, 105, 109, 105, 116]) = false := str_no (by rw [h]; decide)
 have f6 : (s.toList == [109, 97, 105, 108]) = false := str_no (by rw [h]; decide)
 have f7 : (s.toList == [109, 101, 109, 98, 101, 114]) = false := str_no (by rw [h]; decide)
 have f8 : (s.toList == [111]) = false := str_no (by rw [h]; decide)
 have f9 : (s.toList == [111, 98, 106, 101, 99, 116, 99, 108, 97, 115, 115]) = false := str_no (by rw [h]; decide)
 have f10 : (s.toList == [111, 117]) = false := str_no (by rw [h]; decide)
 have f11 : (s.toList == [112, 104, 111, 116, 111]) = false := str_no (by rw [h]; decide)
 have f12 : (s.toList == [115, 101, 101, 97, 108, 115, 111]) = false := str_no (by rw [h]; decide)
 have f13 : (s.toList == [115, 101, 114, 105, 97, 108, 110, 117, 109, 98, 101, 114]) = false := str_no (by rw [h]; decide)
 have f14 : (s.toList == [115, 110]) = false := str_no (by rw [h]; decide)
 have f15 : (s.toList == [116, 101, 108, 101, 112, 104, 111, 110, 101, 110, 117, 109, 98, 101, 114]) = false := str_no (by rw [h]; decide)
 have f16 : (s.toList == [116, 105, 116, 108, 101]) = false := str_no (by rw [h]; decide)
 have f17 := str_is h
 have f18 : (s.toList == [117, 105, 100, 110, 117, 109, 98, 101, 114]) = false := str_no (by rw [h]; decide)
 have f19 : (s.toList == [117, 115, 101, 114, 112, 97, 115, 115, 119, 111, 114, 100]) = false := str_no (by rw [h]; decide)
 clear h
 go_enter Tryz.func65, Tryz.ntmps65
 go_wp2_with fail
 go_ret
 exact ⟨rfl, rfl⟩
set_option maxRecDepth 20000 in
set_option maxHeartbeats 4000000 in
theorem syn_18 (s : ByteArray) (w : World) (h : s.data.toList = [117, 105, 100, 110, 117, 109, 98, 101, 114]) : Calls Tryz.prog 65 #[.string s] w fun e w' => e = .returned (.int .i64 4) ∧ w = w' := by
 have f0 : (s.toList == [99, 110]) = false := str_no (by rw [h]; decide)
 have f1 : (s.toList == [100, 99]) = false := str_no (by rw [h]; decide)
 have f2 : (s.toList == [100, 101, 115, 99, 114, 105, 112, 116, 105, 111, 110]) = false := str_no (by rw [h]; decide)
 have f3 : (s.toList == [101, 110, 97, 98, 108, 101, 100]) = false := str_no (by rw [h]; decide)
 have f4 : (s.toList == [108]) = false := str_no (by rw [h]; decide)
 have f5 : (s.toList == [108, 105, 109, 105, 116]) = false := str_no (by rw [h]; decide)
 have f6 : (s.toList == [109, 97, 105, 108]) = false := str_no (by rw [h]; decide)
 have f7 : (s.toList == [109, 101, 109, 98, 101, 114]) = false := str_no (by rw [h]; decide)
 have f8 : (s.toList == [111]) = false := str_no (by rw [h]; decide)
 have f9 : (s.toList == [111, 98, 106, 101, 99, 116, 99, 108, 97, 115, 115]) = false := str_no (by rw [h]; decide)
 have f10 : (s.toList == [111, 117]) = false := str_no (by rw [h]; decide)
 have f11 : (s.toList == [112, 104, 111, 116, 111]) = false := str_no (by rw [h]; decide)
 have f12 : (s.toList == [115, 101, 101, 97, 108, 115, 111]) = false := str_no (by rw [h]; decide)
 have f13 : (s.toList == [115, 101, 114, 105, 97, 108, 110, 117, 109, 98, 101, 114]) = false := str_no (by rw [h]; decide)
 have f14 : (s.toList == [115, 110]) = false := str_no (by rw [h]; decide)
 have f15 : (s.toList == [116, 101, 108, 101, 112, 104, 111, 110, 101, 110, 117, 109, 98, 101, 114]) = false := str_no (by rw [h]; decide)
 have f16 : (s.toList == [116, 105, 116, 108, 101]) = false := str_no (by rw [h]; decide)
 have f17 : (s.toList == [117, 105, 100]) = false := str_no (by rw [h]; decide)
 have f18 := str_is h
 have f19 : (s.toList == [117, 115, 101, 114, 112, 97, 115, 115, 119, 111, 114, 100]) = false := str_no (by rw [h]; decide)
 clear h
 go_enter Tryz.func65, Tryz.ntmps65
 go_wp2_with fail
 go_ret
 exact ⟨rfl, rfl⟩
set_option maxRecDepth 20000 in
set_option maxHeartbeats 4000000 in
theorem syn_19 (s : ByteArray) (w : World) (h : s.data.toList = [117, 115, 101, 114, 112, 97, 115, 115, 119, 111, 114, 100]) : Calls Tryz.prog 65 #[.string s] w fun e w' => e = .returned (.int .i64 3) ∧ w = w' := by
 have f0 : (s.toList == [99, 110]) = false := str_no (by rw [h]; decide)
 have f1 : (s.toList == [100, 99]) = false := str_no (by rw [h]; decide)
 have f2 : (s.toList == [100, 101, 115, 99, 114, 105, 112, 116, 105, 111, 110]) = false := str_no (by rw [h]; decide)
 have f3 : (s.toList == [101, 110, 97, 98, 108, 101, 100]) = false := str_no (by rw [h]; decide)
 have f4 : (s.toList == [108]) = false := str_no (by rw [h]; decide)
 have f5 : (s.toList == [108, 105, 109, 105, 116]) = false := str_no (by rw [h]; decide)
 have f6 : (s.toList == [109, 97, 105, 108]) = false := str_no (by rw [h]; decide)
 have f7 : (s.toList == [109, 101, 109, 98, 101, 114]) = false := str_no (by rw [h]; decide)
 have f8 : (s.toList == [111]) = false := str_no (by rw [h]; decide)
 have f9 : (s.toList == [111, 98, 106, 101, 99, 116, 99, 108, 97, 115, 115]) = false := str_no (by rw [h]; decide)
 have f10 : (s.toList == [111, 117]) = false := str_no (by rw [h]; decide)
 have f11 : (s.toList == [112, 104, 111, 116, 111]) = false := str_no (by rw [h]; decide)
 have f12 : (s.toList == [115, 101, 101, 97, 108, 115, 111]) = false := str_no (by rw [h]; decide)
 have f13 : (s.toList == [115, 101, 114, 105, 97, 108, 110, 117, 109, 98, 101, 114]) = false := str_no (by rw [h]; decide)
 have f14 : (s.toList == [115, 110]) = false := str_no (by rw [h]; decide)
 have f15 : (s.toList == [116, 101, 108, 101, 112, 104, 111, 110, 101, 110, 117, 109, 98, 101, 114]) = false := str_no (by rw [h]; decide)
 have f16 : (s.toList == [116, 105, 116, 108, 101]) = false := str_no (by rw [h]; decide)
 have f17 : (s.toList == [117, 105, 100]) = false := str_no (by rw [h]; decide)
 have f18 : (s.toList == [117, 105, 100, 110, 117, 109, 98, 101, 114]) = false := str_no (by rw [h]; decide)
 have f19 := str_is h
 clear h
 go_enter Tryz.func65, Tryz.ntmps65
 go_wp2_with fail
 go_ret
 exact ⟨rfl, rfl⟩
set_option maxRecDepth 20000 in
set_option maxHeartbeats 4000000 in
theorem syn_none (s : ByteArray) (w : World) (h : ∀ t ∈ tys, t.name ≠ s.data.toList) : Calls Tryz.prog 65 #[.string s] w fun e w' => e = .returned (.int .i64 0) ∧ w = w' := by
 have f0 : (s.toList == [99, 110]) = false := str_no (fun e => h (tys[0]'(by decide)) (List.getElem_mem _) e.symm)
 have f1 : (s.toList == [100, 99]) = false := str_no (fun e => h (tys[1]'(by decide)) (List.getElem_mem _) e.symm)
 have f2 : (s.toList == [100, 101, 115, 99, 114, 105, 112, 116, 105, 111, 110]) = false := str_no (fun e => h (tys[2]'(by decide)) (List.getElem_mem _) e.symm)
 have f3 : (s.toList == [101, 110, 97, 98, 108, 101, 100]) = false := str_no (fun e => h (tys[3]'(by decide)) (List.getElem_mem _) e.symm)
 have f4 : (s.toList == [108]) = false := str_no (fun e => h (tys[4]'(by decide)) (List.getElem_mem _) e.symm)
 have f5 : (s.toList == [108, 105, 109, 105, 116]) = false := str_no (fun e => h (tys[5]'(by decide)) (List.getElem_mem _) e.symm)
 have f6 : (s.toList == [109, 97, 105, 108]) = false := str_no (fun e => h (tys[6]'(by decide)) (List.getElem_mem _) e.symm)
 have f7 : (s.toList == [109, 101, 109, 98, 101, 114]) = false := str_no (fun e => h (tys[7]'(by decide)) (List.getElem_mem _) e.symm)
 have f8 : (s.toList == [111]) = false := str_no (fun e => h (tys[8]'(by decide)) (List.getElem_mem _) e.symm)
 have f9 : (s.toList == [111, 98, 106, 101, 99, 116, 99, 108, 97, 115, 115]) = false := str_no (fun e => h (tys[9]'(by decide)) (List.getElem_mem _) e.symm)
 have f10 : (s.toList == [111, 117]) = false := str_no (fun e => h (tys[10]'(by decide)) (List.getElem_mem _) e.symm)
 have f11 : (s.toList == [112, 104, 111, 116, 111]) = false := str_no (fun e => h (tys[11]'(by decide)) (List.getElem_mem _) e.symm)
 have f12 : (s.toList == [115, 101, 101, 97, 108, 115, 111]) = false := str_no (fun e => h (tys[12]'(by decide)) (List.getElem_mem _) e.symm)
 have f13 : (s.toList == [115, 101, 114, 105, 97, 108, 110, 117, 109, 98, 101, 114]) = false := str_no (fun e => h (tys[13]'(by decide)) (List.getElem_mem _) e.symm)
 have f14 : (s.toList == [115, 110]) = false := str_no (fun e => h (tys[14]'(by decide)) (List.getElem_mem _) e.symm)
 have f15 : (s.toList == [116, 101, 108, 101, 112, 104, 111, 110, 101, 110, 117, 109, 98, 101, 114]) = false := str_no (fun e => h (tys[15]'(by decide)) (List.getElem_mem _) e.symm)
 have f16 : (s.toList == [116, 105, 116, 108, 101]) = false := str_no (fun e => h (tys[16]'(by decide)) (List.getElem_mem _) e.symm)
 have f17 : (s.toList == [117, 105, 100]) = false := str_no (fun e => h (tys[17]'(by decide)) (List.getElem_mem _) e.symm)
 have f18 : (s.toList == [117, 105, 100, 110, 117, 109, 98, 101, 114]) = false := str_no (fun e => h (tys[18]'(by decide)) (List.getElem_mem _) e.symm)
 have f19 : (s.toList == [117, 115, 101, 114, 112, 97, 115, 115, 119, 111, 114, 100]) = false := str_no (fun e => h (tys[19]'(by decide)) (List.getElem_mem _) e.symm)
 clear h
 go_enter Tryz.func65, Tryz.ntmps65
 go_wp2_with fail
 go_ret
 exact ⟨rfl, rfl⟩
theorem syntax_any (s : ByteArray) (w : World) : Calls Tryz.prog 65 #[.string s] w fun e w' => e = .returned (.int .i64 (synL s.data.toList)) ∧ w = w' := by
 unfold synL
 cases hf : findS s.data.toList with
 | none => exact syn_none s w (findS_none hf)
 | some t =>
  obtain ⟨ht, hn⟩ := findS_some hf
  obtain ⟨i, hi, rfl⟩ := List.mem_iff_getElem.1 ht
  clear hf ht
  match i, hi, hn with
  | 0, _, hn => exact syn_0 s w hn.symm
  | 1, _, hn => exact syn_1 s w hn.symm
  | 2, _, hn => exact syn_2 s w hn.symm
  | 3, _, hn => exact syn_3 s w hn.symm
  | 4, _, hn => exact syn_4 s w hn.symm
  | 5, _, hn => exact syn_5 s w hn.symm
  | 6, _, hn => exact syn_6 s w hn.symm
  | 7, _, hn => exact syn_7 s w hn.symm
  | 8, _, hn => exact syn_8 s w hn.symm
  | 9, _, hn => exact syn_9 s w hn.symm
  | 10, _, hn => exact syn_10 s w hn.symm
  | 11, _, hn => exact syn_11 s w hn.symm
  | 12, _, hn => exact syn_12 s w hn.symm
  | 13, _, hn => exact syn_13 s w hn.symm
  | 14, _, hn => exact syn_14 s w hn.symm
  | 15, _, hn => exact syn_15 s w hn.symm
  | 16, _, hn => exact syn_16 s w hn.symm
  | 17, _, hn => exact syn_17 s w hn.symm
  | 18, _, hn => exact syn_18 s w hn.symm
  | 19, _, hn => exact syn_19 s w hn.symm
  | n + 20, h, _ => exact absurd h (by rw [tys_len]; omega)
theorem single_eq (n : List UInt8) (t : Ty) (h : findS n = some t) : t.single = (decide (n = [117, 105, 100, 110, 117, 109, 98, 101, 114]) || decide (n = [101, 110, 97, 98, 108, 101, 100])) := by
 obtain ⟨ht, rfl⟩ := findS_some h
 have all : ∀ t ∈ tys, t.single = (decide (t.name = [117, 105, 100, 110, 117, 109, 98, 101, 114]) || decide (t.name = [101, 110, 97, 98, 108, 101, 100])) := by decide
 exact all t ht
theorem syn_pos (t : Ty) (h : t ∈ tys) : 1 ≤ t.syn ∧ t.syn ≤ 7 := by
 have all : ∀ t ∈ tys, 1 ≤ t.syn ∧ t.syn ≤ 7 := by decide
 exact all t h
set_option maxRecDepth 20000 in
set_option maxHeartbeats 4000000 in
theorem rfind_any (s : ByteArray) (w : World) (hs : s.size ≤ 10000000) :
  Calls Tryz.prog 16 #[.string s] w fun e w' => e = .returned (resT (findS (sml.lowL s.data.toList))) ∧ Below w.heap.size w w' := by
 obtain ⟨n, hn⟩ : ∃ n, n = sml.lowL s.data.toList := ⟨_, rfl⟩
 have HL : Hid (∀ w, Calls Tryz.prog 64 #[.string s] w fun e w' => e = .returned (.string (bs n)) ∧ Below w.heap.size w w') := fun w => by rw [hn]; exact sml.small_any s w hs
 rw [← hn]
 clear hn
 have HPC0 := Lib.hid (ac_new w ByteArray.empty 0 false)
 have HSY : Hid (∀ w, Calls Tryz.prog 65 #[.string (bs n)] w fun e w' => e = .returned (.int .i64 (synL n)) ∧ w = w') := fun w => syntax_any (bs n) w
 cases hf : findS n with
 | none =>
  have hsy : synL n = 0 := by unfold synL; rw [hf]
  rw [hsy] at HSY
  clear hsy hf
  go_enter Tryz.func16, Tryz.ntmps16
  go_wp2_with fail
  refine (HL.out _).mono ?_
  rintro e w1 ⟨rfl, hB1⟩
  have HPC1 := Lib.hid (ac_below HPC0.out hB1)
  have HB1 : Hid (Below w.heap.size w w1) := ((Below.refl _ w).alloc (Nat.le_refl _) _).trans (hB1.mono (by simp))
  clear hB1
  obtain ⟨⟨x0, c0⟩, ⟨y0, c1⟩, ⟨z0, c2⟩, f0, f1, f2⟩ := ac_cells HPC1.out
  obtain ⟨e0, e1, e2⟩ := ac_store HPC1.out (.string ⟨#[]⟩) (.int .i64 0) (.bool false)
  go_wp2_with fail
  refine (HSY.out _).mono ?_
  rintro e w2 ⟨rfl, rfl⟩
  go_wp2_with fail
  (try simp only [Exit.inBlock, Exit.then])
  refine bodyPost_ret (v := .tuple #[.agg #[.string ⟨#[]⟩, .int .i64 0, .bool false], .bool false]) (by rw [results_cell_tmp rfl]; go_simp) rfl ?_
  exact ⟨rfl, below_put3 HB1.out (Nat.le_refl _) _ _ _⟩
 | some t =>
  have hsy : synL n = t.syn := by unfold synL; rw [hf]
  rw [hsy] at HSY
  have hsg := single_eq n t hf
  obtain ⟨ht, hname⟩ := findS_some hf
  have hp := syn_pos t ht
  have q0 : (t.syn == 0) = false := by rw [beq_eq_false_iff_ne]; omega
  have g1 : ((bs n).toList == [117, 105, 100, 110, 117, 109, 98, 101, 114]) = decide (n = [117, 105, 100, 110, 117, 109, 98, 101, 114]) := bs_lit n _
  have g2 : ((bs n).toList == [101, 110, 97, 98, 108, 101, 100]) = decide (n = [101, 110, 97, 98, 108, 101, 100]) := bs_lit n _
  rw [← g1, ← g2] at hsg
  have hpart : ((bs n).toList == [117, 105, 100, 110, 117, 109, 98, 101, 114]) = true ∨ ((bs n).toList == [117, 105, 100, 110, 117, 109, 98, 101, 114]) = false := by cases ((bs n).toList == [117, 105, 100, 110, 117, 109, 98, 101, 114]) <;> simp
  subst hname
  obtain ⟨sg, hsg2⟩ : ∃ sg, t.single = sg := ⟨_, rfl⟩
  obtain ⟨sy, hsy2⟩ : ∃ sg, t.syn = sg := ⟨_, rfl⟩
  have HRES : Hid (resT (some t) = .tuple #[.agg #[.string (bs t.name), .int .i64 sy, .bool sg], .bool true]) := by rw [← hsg2, ← hsy2]; exact rfl
  rw [hsg2] at hsg
  rw [hsy2] at HSY q0
  clear hsy hf g1 g2 ht hp hsg2 hsy2
  rcases hpart with p1 | p1
  ·rw [p1] at hsg
   simp only [Bool.true_or] at hsg
   subst hsg
   go_enter Tryz.func16, Tryz.ntmps16
   go_wp2_with fail
   refine (HL.out _).mono ?_
   rintro e w1 ⟨rfl, hB1⟩
   have HPC1 := Lib.hid (ac_below HPC0.out hB1)
   have HB1 : Hid (Below w.heap.size w w1) := ((Below.refl _ w).alloc (Nat.le_refl _) _).trans (hB1.mono (by simp))
   clear hB1
   obtain ⟨⟨x0, c0⟩, ⟨y0, c1⟩, ⟨z0, c2⟩, f0, f1, f2⟩ := ac_cells HPC1.out
   go_wp2_with fail
   refine (HSY.out _).mono ?_
   rintro e w2 ⟨rfl, rfl⟩
   obtain ⟨e0, e1, e2⟩ := ac_store HPC1.out (.string (bs t.name)) (.int .i64 sy) (.bool true)
   go_wp2_with fail
   (try simp only [Exit.inBlock, Exit.then])
   refine bodyPost_ret (v := .tuple #[.agg #[.string (bs t.name), .int .i64 sy, .bool true], .bool true]) (by rw [results_cell_tmp rfl]; go_simp) rfl ?_
   exact ⟨by rw [HRES.out], below_put3 HB1.out (Nat.le_refl _) _ _ _⟩
  ·rw [p1] at hsg
   simp only [Bool.false_or] at hsg
   have p2 := hsg.symm
   clear hsg
   go_enter Tryz.func16, Tryz.ntmps16
   go_wp2_with fail
   refine (HL.out _).mono ?_
   rintro e w1 ⟨rfl, hB1⟩
   have HPC1 := Lib.hid (ac_below HPC0.out hB1)
   have HB1 : Hid (Below w.heap.size w w1) := ((Below.refl _ w).alloc (Nat.le_refl _) _).trans (hB1.mono (by simp))
   clear hB1
   obtain ⟨⟨x0, c0⟩, ⟨y0, c1⟩, ⟨z0, c2⟩, f0, f1, f2⟩ := ac_cells HPC1.out
   go_wp2_with fail
   refine (HSY.out _).mono ?_
   rintro e w2 ⟨rfl, rfl⟩
   obtain ⟨e0, e1, e2⟩ := ac_store HPC1.out (.string (bs t.name)) (.int .i64 sy) (.bool sg)
   go_wp2_with fail
   (try simp only [Exit.inBlock, Exit.then])
   refine bodyPost_ret (v := .tuple #[.agg #[.string (bs t.name), .int .i64 sy, .bool sg], .bool true]) (by rw [results_cell_tmp rfl]; go_simp) rfl ?_
   exact ⟨by rw [HRES.out], below_put3 HB1.out (Nat.le_refl _) _ _ _⟩
end atw
end Go.Proofs.YtcolcogobdgejaaGreatDoor
