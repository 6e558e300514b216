/- The walk of the reference's Same (entries), where both read as one entry. -/
import Derived.Test.YtcolcogobdgejaaGreatDoorC9
import Derived.Test.YtcolcogobdgejaaGreatDoorC8
import Derived.Test.YtcolcogobdgejaaGreatDoorC10
import Derived.Test.YtcolcogobdgejaaGreatDoorC1
import Derived.Test.YtcolcogobdgejaaGreatDoorC12
/-! DelT -/
namespace Go.Proofs.YtcolcogobdgejaaGreatDoor
open Go.RowKit
namespace etw
open atp atw etp
open tupw (Strs strs_below)
open Go.Sort
set_option linter.unusedVariables false
set_option linter.unusedSimpArgs false
theorem scells_txt (l : List ByteArray) : prw.scells l = (l.map (·.data.toList)).map encStr := by
 unfold prw.scells
 rw [List.map_map]
 apply List.map_congr_left
 intro x _
 rfl
def delL (l : List ByteArray) (k : Nat) : List (List UInt8) := (l.take k ++ l.drop (k + 1)).map (fun x => x.data.toList) ++ [[]]
theorem del_list {l : List ByteArray} {k : Nat} (hk : k < l.length) : (l.map (·.data.toList)).take k ++ (l.map (·.data.toList)).drop (k + 1) ++ List.replicate (k + 1 - k) [] = delL l k := by
 unfold delL
 rw [show k + 1 - k = 1 by omega, List.map_append, List.map_take, List.map_drop]
 rfl
theorem delT {w : World} {B : Nat} {ao : Option Addr} {m cap : Nat} {l : List ByteArray} {k : Nat} (h : prw.OwnT w B (.slice ao m cap) l) (hl : l.length ≤ 1000000) (hk : k < l.length) (hB : B ≤ w.heap.size) (I J : Int) (hI : I = (k : Int)) (hJ : J = (k : Int) + 1) :
  Calls Tryz.prog 79 #[.slice ao m cap, .int .i64 I, .int .i64 J] w fun e w' => ∃ n, e = .returned (.slice ao n cap) ∧ prw.OwnT w' B (.slice ao n cap) (l.take k ++ l.drop (k + 1)) ∧ Below B w w' := by
 obtain ⟨ss, hss⟩ : ∃ ss, ss = l.map (·.data.toList) := ⟨_, rfl⟩
 have hsl : ss.length = l.length := by rw [hss]; simp
 have hm : m = l.length := by
  obtain ⟨ao', cap', hv, _, _⟩ := prw.ownT_cells h
  simp only [Value.slice.injEq] at hv
  exact hv.2.1
 subst hm
 subst hI
 obtain rfl : J = ((k + 1 : Nat) : Int) := by omega
 have hrow : w.ownsRow B 9 1 (.slice ao l.length cap) ss.length (ss.map encStr) := by
  have h1 : w.ownsRow B 9 1 (.slice ao l.length cap) (prw.scells l).length (prw.scells l) := h
  rw [scells_txt, ← hss, List.length_map] at h1
  exact h1
 rcases hrow.2 with ⟨hv, h0⟩ | ⟨g, cap', cur, hv, hBg, hg, h1, h2, h3, h4⟩
 ·exact absurd hk (by rw [← hsl, h0]; omega)
 ·simp only [Value.slice.injEq] at hv
  obtain ⟨rfl, _, rfl⟩ := hv
  rw [Nat.mul_one] at h4
  have hH := holds_of_block hg h4
  have CS := Tryz.slices_Delete_string g 0 cap k (k + 1) ss w hH h1 (by unfold maxLen at h2; omega) (by omega) (by omega)
  rw [hsl] at CS
  refine CS.mono ?_
  rintro e w' ⟨rfl, q, rfl⟩
  have hts : ss.take k ++ ss.drop (k + 1) ++ List.replicate (k + 1 - k) [] = delL l k := by rw [hss]; exact del_list hk
  rw [hts]
  have hb' := heap_sorted (os := #[]) (n := q) (delL l k).toArray hg
  have hgr := grownBy_sorted (w := w) (g := g) (n := q) (os := #[]) (delL l k).toArray
  rw [grow_empty] at hb' hgr
  have hll : (l.take k ++ l.drop (k + 1)).length = l.length - (k + 1 - k) := by rw [List.length_append, List.length_take, List.length_drop]; omega
  refine ⟨l.length - (k + 1 - k), rfl, ?_, (Below.refl B w).grown hgr hB (fun k hk => by cases hk; exact hBg)⟩
  have hsz : (delL l k).length ≤ cur.size := by
   unfold delL
   rw [List.length_append, List.length_map, hll, h3]
   simp only [List.length_cons, List.length_nil]
   omega
  have htk := take_putCells cur _ hsz
  unfold prw.OwnT
  refine ⟨(Nat.mul_one _).symm, .inr ⟨g, cap, _, ?_, hBg, hb', ?_, h2, ?_, ?_⟩⟩
  ·rw [prw.scells_length, hll]
  ·rw [prw.scells_length, hll]; omega
  ·simp [putCells, h3]
  ·rw [Nat.mul_one, prw.scells_length, scells_txt]
   have e2 : (l.take k ++ l.drop (k + 1)).length ≤ (delL l k).length := by unfold delL; simp
   have e3 := congrArg (List.take (l.take k ++ l.drop (k + 1)).length) htk
   rw [List.take_take, Nat.min_eq_left e2] at e3
   rw [e3]
   unfold delL
   rw [List.map_append, List.take_append_of_le_length (by simp), List.take_of_length_le (by simp)]
theorem drop_step {syn : Int} {left l : List ByteArray} {i : Nat} (h : i < l.length) : dropF syn left (l.drop i) = match likeN syn left l[i] with
  | none => none
  | some k => dropF syn (left.take k ++ left.drop (k + 1)) (l.drop (i + 1)) := by
 rw [List.drop_eq_getElem_cons h]
 rfl
end etw
end Go.Proofs.YtcolcogobdgejaaGreatDoor
/-! RemW -/
namespace Go.Proofs.YtcolcogobdgejaaGreatDoor
open Go.RowKit
namespace etw
open atp atw etp
open dnw (Av Avas)
open tupw (Strs strs_below)
set_option linter.unusedVariables false
set_option linter.unusedSimpArgs false
set_option maxRecDepth 20000 in
set_option maxHeartbeats 8000000 in
theorem remove_any (v : Value) (E : En) (n : ByteArray) (bo : Option Addr) (bcap : Nat) (l : List ByteArray) (w : World) (hv : Hid (EntV w v E)) (hb : Hid (Bk 1000 E)) (hS : Hid (Strs w bo l)) (hl : l.length ≤ 50) (hlc : l.length ≤ bcap) (hls : Hid (∀ x ∈ l, x.size ≤ 1200)) (hn : n.size ≤ 1000) (hE : Hid (EnvE w)) :
  Calls Tryz.prog 25 #[v, .string n, .slice bo l.length bcap] w fun e w' => ResE (removeE E n.data.toList l) w e w' := by
 have HBD := Lib.hid (bk_bd hb.out (by omega))
 have HFI0 : Hid (∀ W, Below w.heap.size w W → Calls Tryz.prog 75 #[v, .string n] W fun e w' => FindR (findE E n.data.toList) e ∧ Below W.heap.size W w') := fun W h => finde_any v E n W (Lib.hid (entV_below hv.out h)) HBD (by omega) (Lib.hid (envE_below hE.out h))
 have HFA0 : Hid (∀ nm syn sg W, Below w.heap.size w W → Calls Tryz.prog 76 #[.agg #[.string nm, .int .i64 syn, .bool sg], .slice bo l.length bcap] W fun e w' => e = .returned (.int .i64 (faultI syn l)) ∧ Below W.heap.size W w') := fun nm syn sg W h => fault_any nm syn sg bo bcap l W (Lib.hid (strs_below hS.out h)) (by omega) (Lib.hid fun x hx => by have := hls.out x hx; omega) (Lib.hid (envE_below hE.out h))
 have HVA0 : Hid (∀ m W, Below w.heap.size w W → Calls Tryz.prog 72 #[v, .string m] W fun e w' => ValsE (valsA E.ats m) W e w') := fun m W h => vals_any v E m W (Lib.hid (entV_below hv.out h)) HBD
 have HWI0 : Hid (∀ m o c (all : List ByteArray) W, Below w.heap.size w W → Strs W o all → all.length ≤ 1000 → all.length ≤ c → Calls Tryz.prog 78 #[v, .string m, .slice o all.length c] W fun e w' => EntE (withE E m all) W e w') := fun m o c all W h hs h1 h2 => with_any v E m o c all W (Lib.hid (entV_below hv.out h)) HBD (Lib.hid hs) (by omega) h2
 have HLK0 : Hid (∀ nm syn sg o c k (all : List ByteArray) x W, Hid (k = all.length) → Strs W o all → k ≤ 1000 → (∀ y ∈ all, y.size ≤ 1200) → x.size ≤ 1200 → EnvE W → Calls Tryz.prog 73 #[.agg #[.string nm, .int .i64 syn, .bool sg], .slice o k c, .string x] W fun e w' => e = .returned (.int .i64 (likeI syn all x)) ∧ Below W.heap.size W w') := by
  intro nm syn sg o c k all x W hk hs h1 h2 h3 he
  have := like_any nm syn sg o c all x W (Lib.hid hs) (by rw [← hk.out]; omega) (Lib.hid fun y hy => by have := h2 y hy; omega) (by omega) (Lib.hid he)
  rw [← hk.out] at this
  exact this
 have HVL := Lib.hid (bk_vals hb.out)
 have HRES : Hid (removeE E n.data.toList l = match findE E n.data.toList with
  | .error f => .error f
  | .ok ty => if faultI ty.syn l ≠ 0 then .error (faultI ty.syn l) else if valsA E.ats (bs ty.name) = [] then .error 7 else match dropF ty.syn (valsA E.ats (bs ty.name)) l with
   | none => .error 7
   | some left => .ok (withE E (bs ty.name) (if l = [] then [] else left))) := rfl
 obtain ⟨RR, hRR⟩ : ∃ r, removeE E n.data.toList l = r := ⟨_, rfl⟩
 rw [hRR] at HRES ⊢
 have HR := Lib.hid HRES.out.symm
 clear HRES hRR
 obtain ⟨ro, rc, ao, ac, Nr, N, rfl, HN, HA, hac, HNr, HAv, hrc⟩ := ent_form hv.out
 obtain ⟨W1, hW1⟩ : ∃ W, w.alloc (.cells #[.slice ro Nr rc, .slice ao N ac] 25) = W := ⟨_, rfl⟩
 have hB1 : Below w.heap.size w W1 := by rw [← hW1]; exact (Below.refl _ _).alloc (Nat.le_refl _) _
 have hT1 : EntB W1 w.heap.size (.slice ro Nr rc) (.slice ao N ac) := by rw [← hW1]; exact entB_new _ _ _
 obtain ⟨W2, hW2⟩ : ∃ W, W1.alloc (.cells #[.slice none 0 0, .slice none 0 0] 25) = W := ⟨_, rfl⟩
 have hB2 : Below W1.heap.size W1 W2 := by rw [← hW2]; exact (Below.refl _ _).alloc (Nat.le_refl _) _
 obtain ⟨q, hqq⟩ : ∃ q, W1.heap.size = q := ⟨_, rfl⟩
 have hqw : w.heap.size ≤ q := by rw [← hqq]; exact hB1.size
 have hQ2 : EntB W2 q (.slice none 0 0) (.slice none 0 0) := by rw [← hW2, ← hqq]; exact entB_new _ _ _
 have HB2 := Lib.hid (hB1.trans (hB2.mono hB1.size))
 have HT2 := Lib.hid (entB_below hT1 hB2)
 have HQ2 := Lib.hid hQ2
 obtain ⟨k0, k1⟩ := entB_cells HT2.out
 have hz2 := HB2.out.size
 clear hB1 hB2 hT1 hQ2 hv
 have HFI := Lib.hid (HFI0.out W2 HB2.out)
 clear HFI0
 have HKL : Hid (l = [] ↔ l.length = 0) := List.length_eq_zero_iff.symm
 obtain ⟨K, hK⟩ : ∃ K, l.length = K := ⟨_, rfl⟩
 rw [hK] at HFA0 HKL hl hlc ⊢
 have HK := Lib.hid hK
 clear hK
 go_enter Tryz.func25, Tryz.ntmps25
 go_wp2_with fail
 refine HFI.out.mono ?_
 rintro e w3 ⟨hfr, hB3⟩
 have HB3 := Lib.hid (HB2.out.trans (hB3.mono hz2))
 have HT3 := Lib.hid (entB_below HT2.out hB3)
 have HQ3 := Lib.hid (entB_below HQ2.out hB3)
 clear hB3 k0 k1 hW1 hW2 HFI hqq
 cases hfe : findE E n.data.toList with
 | error f =>
  rw [hfe] at hfr HR
  have hfr2 : e = .returned (.tuple #[.agg #[.string ⟨#[]⟩, .int .i64 0, .bool false], .int .i64 f]) := hfr
  have hf0 : f ≠ 0 := find_err hfe
  have qf : (f != 0) = true := by rw [bne_iff_ne]; exact hf0
  subst hfr2
  clear hfr hfe hf0
  have hB4 : Below w3.heap.size w3 (w3.alloc (.cells #[.string ⟨#[]⟩, .int .i64 0, .bool false] 29)) := (Below.refl _ _).alloc (Nat.le_refl _) _
  have HBX := Lib.hid (HB3.out.trans (hB4.mono HB3.out.size))
  have HQ := Lib.hid (entB_below HQ3.out hB4)
  clear hB4
  obtain ⟨v0, v1⟩ := entB_cells HQ.out
  have f0 := Lib.frozen_of_heap HQ.out 0
  have f1 := Lib.frozen_of_heap HQ.out 1
  have hq1 := entB_set0 HQ.out (.slice none 0 0)
  have hq2 := entB_set1 hq1 (.slice none 0 0)
  have HQC := Lib.hid (entB_cells hq2)
  have HBF := Lib.hid ((HBX.out.setCell (p := ⟨q, 0, none⟩) hqw (.slice none 0 0)).setCell (p := ⟨q, 1, none⟩) hqw (.slice none 0 0))
  clear hq1 hq2
  go_wp2_with fail
  obtain ⟨r0, r1⟩ := HQC.out
  refine bodyPost_ret (v := .tuple #[.agg #[.slice none 0 0, .slice none 0 0], .int .i64 f]) (by rw [results_cell_tmp rfl]; go_simp) rfl ?_
  exact ⟨HBF.out, (by rw [← HR.out])⟩
 | ok ty =>
  rw [hfe] at hfr HR
  have hfr2 : e = .returned (.tuple #[.agg #[.string (bs ty.name), .int .i64 ty.syn, .bool ty.single], .int .i64 0]) := hfr
  subst hfr2
  clear hfr
  simp only at HR
  clear hfe
  generalize bs ty.name = nm at HR
  generalize ty.syn = syn at HR
  generalize ty.single = sg
  obtain ⟨w4, hw4⟩ : ∃ W, w3.alloc (.cells #[.string nm, .int .i64 syn, .bool sg] 29) = W := ⟨_, rfl⟩
  have hB4 : Below w3.heap.size w3 w4 := by rw [← hw4]; exact (Below.refl _ _).alloc (Nat.le_refl _) _
  obtain ⟨tb, htb⟩ : ∃ tb, w3.heap.size = tb := ⟨_, rfl⟩
  have HY4 : Hid (TB w4 tb nm syn sg) := by rw [← hw4, ← htb]; exact tb_new _ _ _ _
  have HB4 := Lib.hid (HB3.out.trans (hB4.mono HB3.out.size))
  have HT4 := Lib.hid (entB_below HT3.out hB4)
  have HQ4 := Lib.hid (entB_below HQ3.out hB4)
  obtain ⟨y0, y1, y2⟩ := tb_cells HY4.out
  clear hB4
  have HFA := Lib.hid (HFA0.out nm syn sg w4 HB4.out)
  clear HFA0
  generalize faultI syn l = fa at HFA HR
  go_wp2_with fail
  refine HFA.out.mono ?_
  rintro e w5 ⟨rfl, hB5⟩
  have HB5 := Lib.hid (HB4.out.trans (hB5.mono HB4.out.size))
  have HT5 := Lib.hid (entB_below HT4.out hB5)
  have HQ5 := Lib.hid (entB_below HQ4.out hB5)
  have HY5 := Lib.hid (tb_below HY4.out hB5)
  clear hB5 y0 y1 y2 hw4 htb
  by_cases hfa : fa = 0
  ·have qa : (fa != 0) = false := by rw [bne_eq_false_iff_eq]; exact hfa
   rw [if_neg (not_not_intro hfa)] at HR
   clear hfa
   have HVA := Lib.hid (HVA0.out nm w5 HB5.out)
   have HV1 := HVL.out nm
   have hvl1 := HV1.1
   have HV2 := Lib.hid HV1.2
   clear HVA0 HVL HV1
   obtain ⟨e0, e1⟩ := entB_cells HT5.out
   obtain ⟨y0, y1, y2⟩ := tb_cells HY5.out
   have HWI : Hid (∀ o c (all : List ByteArray) W, Below w.heap.size w W → Strs W o all → all.length ≤ 1000 → all.length ≤ c → Calls Tryz.prog 78 #[.agg #[.slice ro Nr rc, .slice ao N ac], .string nm, .slice o all.length c] W fun e w' => EntE (withE E nm all) W e w') := fun o c all W => HWI0.out nm o c all W
   clear HWI0
   generalize valsA E.ats nm = p0 at HVA HV2 hvl1 HR
   go_wp2_with fail
   refine HVA.out.mono ?_
   rintro e w6 ⟨x6, rfl, hx6, hB6⟩
   have HCL := Lib.hid (clone_any x6 p0 w6 hx6 (by omega))
   have HB6 := Lib.hid (HB5.out.trans (hB6.mono HB5.out.size))
   have HT6 := Lib.hid (entB_below HT5.out hB6)
   have HQ6 := Lib.hid (entB_below HQ5.out hB6)
   have HY6 := Lib.hid (tb_below HY5.out hB6)
   clear hx6 hB6 e0 e1 y0 y1 y2
   go_wp2_with fail
   refine HCL.out.mono ?_
   rintro e w7 ⟨x7, rfl, ho7, hB7⟩
   have HO7 := Lib.hid ho7
   obtain ⟨a7, n7, c7, rfl, hn7⟩ := dnw.ownT_form ho7
   have HB67 := Lib.hid hB7
   have HPE : Hid (p0 = [] ↔ n7 = 0) := by
    have h := hn7.out
    rw [h]
    exact List.length_eq_zero_iff.symm
   clear ho7 HCL
   by_cases hp : n7 = 0
   ·have d0 : ((n7 : Int) == 0) = true := by rw [beq_iff_eq]; omega
    rw [if_pos (HPE.out.2 hp)] at HR
    have HBX := Lib.hid (HB6.out.trans (hB7.mono HB6.out.size))
    have HQ := Lib.hid (entB_below HQ6.out hB7)
    clear hp hB7 HO7
    obtain ⟨v0, v1⟩ := entB_cells HQ.out
    have f0 := Lib.frozen_of_heap HQ.out 0
    have f1 := Lib.frozen_of_heap HQ.out 1
    have hq1 := entB_set0 HQ.out (.slice none 0 0)
    have hq2 := entB_set1 hq1 (.slice none 0 0)
    have HQC := Lib.hid (entB_cells hq2)
    have HBF := Lib.hid ((HBX.out.setCell (p := ⟨q, 0, none⟩) hqw (.slice none 0 0)).setCell (p := ⟨q, 1, none⟩) hqw (.slice none 0 0))
    clear hq1 hq2
    go_wp2_with fail
    obtain ⟨r0, r1⟩ := HQC.out
    refine bodyPost_ret (v := .tuple #[.agg #[.slice none 0 0, .slice none 0 0], .int .i64 7]) (by rw [results_cell_tmp rfl]; go_simp) rfl ?_
    exact ⟨HBF.out, (by rw [← HR.out])⟩
   ·have d0 : ((n7 : Int) == 0) = false := by rw [beq_eq_false_iff_ne]; omega
    rw [if_neg (fun h => hp (HPE.out.1 h))] at HR
    clear hp hB7 HPE
    go_wp2_with fail
    go_loopw [11, 43] (fun av iv wr => ∃ (i : Nat) (left : List ByteArray), i ≤ K ∧ iv = .int .i64 (i : Int) ∧ Hid (prw.OwnT wr w6.heap.size av left) ∧ Hid (Below w6.heap.size w6 wr) ∧ Hid (dropF syn p0 l = dropF syn left (l.drop i)) ∧ Hid (left.length ≤ 100) ∧ Hid (∀ y ∈ left, y.size ≤ 1200)) (fun _ iv _ => K - (intOf iv).toNat)
    case atStart => exact ⟨0, p0, Nat.zero_le _, rfl, HO7.out, HB67.out, rfl, (by show _ ≤ _; omega), HV2.out⟩
    case round =>
     obtain ⟨i, left, hi, rfl, hO, hBr, hJ, hLN, hSZ⟩ := hrel
     obtain ⟨aR, nR, cR, rfl, hnR⟩ := dnw.ownT_form hO.out
     have hszr := hBr.out.size
     have HBr := Lib.hid (HB6.out.trans (hBr.out.mono HB6.out.size))
     have HTr := Lib.hid (entB_below HT6.out hBr.out)
     have HQr := Lib.hid (entB_below HQ6.out hBr.out)
     have HYr := Lib.hid (tb_below HY6.out hBr.out)
     obtain ⟨y0, y1, y2⟩ := tb_cells HYr.out
     have hnR100 : nR ≤ 200 := by rw [hnR.out]; have := hLN.out; omega
     by_cases hlt : i < K
     ·have hltI : (i : Int) < (K : Int) := by omega
      have hil : i < l.length := by rw [HK.out]; exact hlt
      obtain ⟨b, o, hbo, hc0⟩ := (strs_below hS.out HBr.out) i hil
      subst hbo
      have HST := Lib.hid (drop_step (syn := syn) (left := left) hil)
      have hxs := hls.out l[i] (List.getElem_mem _)
      obtain ⟨x, hx⟩ : ∃ x, l[i] = x := ⟨_, rfl⟩
      rw [hx] at hc0 HST hxs
      clear hx
      have HLK := Lib.hid (HLK0.out nm syn sg aR cR nR left x wr hnR (by obtain ⟨g1, g2, g3, g4⟩ := elem_form (own_elem hO.out); simp only [Value.slice.injEq] at g4; obtain ⟨⟨rfl, rfl, rfl⟩, _, _, g5⟩ := g4; exact g5) (by omega) hSZ.out hxs (envE_below hE.out HBr.out))
      have HLI : Hid (likeI syn left x = match likeN syn left x with
       | some i => (i : Int)
       | none => -1) := rfl
      generalize likeI syn left x = lk at HLK HLI
      cases hln : likeN syn left x with
      | none =>
       rw [hln] at HST HLI
       have hlk : lk < 0 := by have h := HLI.out; simp only at h; omega
       have q2 : decide (lk < 0) = true := decide_eq_true hlk
       have HJ : Hid (dropF syn p0 l = none) := by
        show _ = _
        rw [hJ.out, HST.out]
       rw [HJ.out] at HR
       clear HST HJ hln HLI hlk
       simp only at HR
       go_wp2_with fail
       refine HLK.out.mono ?_
       rintro e w8 ⟨rfl, hB8⟩
       have HBX := Lib.hid (HBr.out.trans (hB8.mono HBr.out.size))
       have HQ := Lib.hid (entB_below HQr.out hB8)
       clear hB8 y0 y1 y2 hc0
       obtain ⟨v0, v1⟩ := entB_cells HQ.out
       have f0 := Lib.frozen_of_heap HQ.out 0
       have f1 := Lib.frozen_of_heap HQ.out 1
       have hq1 := entB_set0 HQ.out (.slice none 0 0)
       have hq2 := entB_set1 hq1 (.slice none 0 0)
       have HQC := Lib.hid (entB_cells hq2)
       have HBF := Lib.hid ((HBX.out.setCell (p := ⟨q, 0, none⟩) hqw (.slice none 0 0)).setCell (p := ⟨q, 1, none⟩) hqw (.slice none 0 0))
       clear hq1 hq2
       go_wp2_with fail
       obtain ⟨r0, r1⟩ := HQC.out
       refine bodyPost_ret (v := .tuple #[.agg #[.slice none 0 0, .slice none 0 0], .int .i64 7]) (by rw [results_cell_tmp rfl]; go_simp) rfl ?_
       exact ⟨HBF.out, (by rw [← HR.out])⟩
      | some k =>
       rw [hln] at HST HLI
       have hkl := (likeN_some hln).1
       have hlk0 : 0 ≤ lk := by have h := HLI.out; simp only at h; omega
       have hlk1 : lk ≤ 1000 := by have h := HLI.out; have h2 := hLN.out; simp only at h; omega
       have q2 : decide (lk < 0) = false := decide_eq_false (by omega)
       have HJ : Hid (dropF syn p0 l = dropF syn (left.take k ++ left.drop (k + 1)) (l.drop (i + 1))) := by
        show _ = _
        rw [hJ.out, HST.out]
       have HKL2 := Lib.hid hkl
       have HLK2 : Hid (lk = (k : Int)) := HLI.out
       clear HST hln HLI hkl
       go_wp2_with fail
       refine HLK.out.mono ?_
       rintro e w8 ⟨rfl, hB8⟩
       have hBr8 := hBr.out.trans (hB8.mono hszr)
       have HDE := Lib.hid (delT (dnw.ownT_below hO.out hB8) (by have := hLN.out; omega) HKL2.out hBr8.size lk (lk + 1) HLK2.out (by rw [HLK2.out]))
       have HBr8 := Lib.hid hBr8
       clear hBr8 hB8 y0 y1 y2 hc0
       go_wp2_with fail
       refine HDE.out.mono ?_
       rintro e w9 ⟨n9, rfl, hO9, hB9⟩
       have HO9 := Lib.hid hO9
       have HB9 := Lib.hid (HBr8.out.trans hB9)
       have HLN9 : Hid ((left.take k ++ left.drop (k + 1)).length ≤ 100) := by show _ ≤ _; rw [List.length_append, List.length_take, List.length_drop]; have := hLN.out; omega
       have HSZ9 : Hid (∀ y ∈ left.take k ++ left.drop (k + 1), y.size ≤ 1200) := fun y hy => by
        rcases List.mem_append.1 hy with hy | hy
        ·exact hSZ.out y (List.mem_of_mem_take hy)
        ·exact hSZ.out y (List.mem_of_mem_drop hy)
       clear hO9 hB9 HDE
       go_wp2_with fail
       go_roundw
       case rel => exact ⟨i + 1, left.take k ++ left.drop (k + 1), by omega, by go_num, HO9.out, HB9, HJ, HLN9, HSZ9⟩
       case measure => simp [intOf]; omega
     ·obtain rfl : K = i := by omega
      have HJ : Hid (dropF syn p0 l = some left) := by
       show _ = _
       rw [hJ.out, ← HK.out, List.drop_length]; rfl
      rw [HJ.out] at HR
      simp only at HR
      clear HJ
      obtain ⟨e0, e1⟩ := entB_cells HTr.out
      have hz8 := (tb_cells HYr.out).1
      by_cases hK0 : K = 0
      ·have dk : ((K : Int) == 0) = true := by rw [beq_iff_eq]; omega
       rw [if_pos (HKL.out.2 hK0)] at HR
       have HWC0 : Calls Tryz.prog 78 #[.agg #[.slice ro Nr rc, .slice ao N ac], .string nm, .slice none 0 0] wr fun e w' => EntE (withE E nm []) wr e w' := HWI.out none 0 [] wr HBr.out (fun i hi => absurd hi (Nat.not_lt_zero _)) (by simp) (by simp)
       have HWC := Lib.hid HWC0
       clear hK0 HWC0 hz8
       go_wp2_with fail
       refine HWC.out.mono ?_
       rintro e w9 ⟨v9, rfl, hv9, hB9⟩
       obtain ⟨r1, n1, c1, r2, n2, c2, rfl⟩ := ent_agg hv9
       have HV := Lib.hid hv9
       have HBX := Lib.hid (HBr.out.trans (hB9.mono HBr.out.size))
       have HQ := Lib.hid (entB_below HQr.out hB9)
       clear hv9 hB9 e0 e1 y0 y1 y2
       obtain ⟨v0, v1⟩ := entB_cells HQ.out
       have f0 := Lib.frozen_of_heap HQ.out 0
       have f1 := Lib.frozen_of_heap HQ.out 1
       have hq1 := entB_set0 HQ.out (.slice r1 n1 c1)
       have hq2 := entB_set1 hq1 (.slice r2 n2 c2)
       have HQC := Lib.hid (entB_cells hq2)
       have HBF := Lib.hid ((HBX.out.setCell (p := ⟨q, 0, none⟩) hqw (.slice r1 n1 c1)).setCell (p := ⟨q, 1, none⟩) hqw (.slice r2 n2 c2))
       have HVF := Lib.hid (entV_set (entV_set HV.out HQ.out (noS_slice _ _ _) (noS_slice _ _ _) 0 (.slice r1 n1 c1)) hq1 (noS_slice _ _ _) (noS_slice _ _ _) 1 (.slice r2 n2 c2))
       clear hq1 hq2
       go_wp2_with fail
       obtain ⟨r0, r1'⟩ := HQC.out
       refine bodyPost_ret (v := .tuple #[.agg #[.slice r1 n1 c1, .slice r2 n2 c2], .int .i64 0]) (by rw [results_cell_tmp rfl]; go_simp) rfl ?_
       exact ⟨HBF.out, (by rw [← HR.out]; exact ⟨_, rfl, HVF.out⟩)⟩
      ·have dk : ((K : Int) == 0) = false := by rw [beq_eq_false_iff_ne]; omega
       rw [if_neg (fun h => hK0 (HKL.out.1 h))] at HR
       obtain ⟨g1, g2, g3, g4⟩ := elem_form (own_elem hO.out)
       simp only [Value.slice.injEq] at g4
       obtain ⟨⟨rfl, rfl, rfl⟩, g5, g6, g7⟩ := g4
       have HWC0 := HWI.out aR cR left wr HBr.out g7 (by rw [← g5.out]; omega) (by rw [← g5.out]; exact g6)
       rw [← g5.out] at HWC0
       have HWC := Lib.hid HWC0
       clear hK0 g5 g6 g7 HWC0 hz8
       go_wp2_with fail
       refine HWC.out.mono ?_
       rintro e w9 ⟨v9, rfl, hv9, hB9⟩
       obtain ⟨r1, n1, c1, r2, n2, c2, rfl⟩ := ent_agg hv9
       have HV := Lib.hid hv9
       have HBX := Lib.hid (HBr.out.trans (hB9.mono HBr.out.size))
       have HQ := Lib.hid (entB_below HQr.out hB9)
       clear hv9 hB9 e0 e1 y0 y1 y2
       obtain ⟨v0, v1⟩ := entB_cells HQ.out
       have f0 := Lib.frozen_of_heap HQ.out 0
       have f1 := Lib.frozen_of_heap HQ.out 1
       have hq1 := entB_set0 HQ.out (.slice r1 n1 c1)
       have hq2 := entB_set1 hq1 (.slice r2 n2 c2)
       have HQC := Lib.hid (entB_cells hq2)
       have HBF := Lib.hid ((HBX.out.setCell (p := ⟨q, 0, none⟩) hqw (.slice r1 n1 c1)).setCell (p := ⟨q, 1, none⟩) hqw (.slice r2 n2 c2))
       have HVF := Lib.hid (entV_set (entV_set HV.out HQ.out (noS_slice _ _ _) (noS_slice _ _ _) 0 (.slice r1 n1 c1)) hq1 (noS_slice _ _ _) (noS_slice _ _ _) 1 (.slice r2 n2 c2))
       clear hq1 hq2
       go_wp2_with fail
       obtain ⟨r0, r1'⟩ := HQC.out
       refine bodyPost_ret (v := .tuple #[.agg #[.slice r1 n1 c1, .slice r2 n2 c2], .int .i64 0]) (by rw [results_cell_tmp rfl]; go_simp) rfl ?_
       exact ⟨HBF.out, (by rw [← HR.out]; exact ⟨_, rfl, HVF.out⟩)⟩
  ·have qa : (fa != 0) = true := by rw [bne_iff_ne]; exact hfa
   rw [if_pos hfa] at HR
   have HBX := HB5
   have HQ := HQ5
   clear hfa
   obtain ⟨v0, v1⟩ := entB_cells HQ.out
   have f0 := Lib.frozen_of_heap HQ.out 0
   have f1 := Lib.frozen_of_heap HQ.out 1
   have hq1 := entB_set0 HQ.out (.slice none 0 0)
   have hq2 := entB_set1 hq1 (.slice none 0 0)
   have HQC := Lib.hid (entB_cells hq2)
   have HBF := Lib.hid ((HBX.out.setCell (p := ⟨q, 0, none⟩) hqw (.slice none 0 0)).setCell (p := ⟨q, 1, none⟩) hqw (.slice none 0 0))
   clear hq1 hq2
   go_wp2_with fail
   obtain ⟨r0, r1⟩ := HQC.out
   refine bodyPost_ret (v := .tuple #[.agg #[.slice none 0 0, .slice none 0 0], .int .i64 fa]) (by rw [results_cell_tmp rfl]; go_simp) rfl ?_
   exact ⟨HBF.out, (by rw [← HR.out])⟩
end etw
end Go.Proofs.YtcolcogobdgejaaGreatDoor
/-! Same17W -/
namespace Go.Proofs.YtcolcogobdgejaaGreatDoor
open Go.RowKit
namespace etw
open atp atw etp
open dnw (Av Avas)
open tupw (Strs strs_below)
set_option linter.unusedVariables false
set_option linter.unusedSimpArgs false
set_option maxRecDepth 20000 in
set_option maxHeartbeats 8000000 in
theorem same17_eq (v1 v2 : Value) (E : En) (w : World) (h1 : Hid (EntV w v1 E)) (h2 : Hid (EntV w v2 E)) (hb : Hid (Bd E)) :
  Calls Tryz.prog 27 #[v1, v2] w fun e w' => e = .returned (.bool true) ∧ Below w.heap.size w w' := by
 obtain ⟨ro, rc, ao, ac, Nr, N, rfl, HN, HA, hac, HNr, HAv, hrc⟩ := ent_form h1.out
 obtain ⟨ro2, rc2, ao2, ac2, Nr2, N2, rfl, HN2, HA2, hac2, HNr2, HAv2, hrc2⟩ := ent_form h2.out
 have e1 : Nr = Nr2 := by rw [← HNr.out, ← HNr2.out]
 have e2 : N = N2 := by rw [← HN.out, ← HN2.out]
 subst e1 e2
 have hNrb : Nr ≤ 100000 := by rw [← HNr.out]; exact hb.out.rl
 have hNb : N ≤ 100000 := by rw [← HN.out]; exact hb.out.al
 have HVS := Lib.hid hb.out.as_
 obtain ⟨rdn, L⟩ := E
 simp only at HN HA HNr HAv HN2 HA2 HNr2 HAv2 HVS
 obtain ⟨W1, hW1⟩ : ∃ W, w.alloc (.cells #[.slice ro Nr rc, .slice ao N ac] 25) = W := ⟨_, rfl⟩
 have hB1 : Below w.heap.size w W1 := by rw [← hW1]; exact (Below.refl _ _).alloc (Nat.le_refl _) _
 have hT1 : EntB W1 w.heap.size (.slice ro Nr rc) (.slice ao N ac) := by rw [← hW1]; exact entB_new _ _ _
 obtain ⟨W2, hW2⟩ : ∃ W, W1.alloc (.cells #[.slice ro2 Nr rc2, .slice ao2 N ac2] 25) = W := ⟨_, rfl⟩
 have hB2 : Below W1.heap.size W1 W2 := by rw [← hW2]; exact (Below.refl _ _).alloc (Nat.le_refl _) _
 obtain ⟨q, hqq⟩ : ∃ q, W1.heap.size = q := ⟨_, rfl⟩
 have hQ2 : EntB W2 q (.slice ro2 Nr rc2) (.slice ao2 N ac2) := by rw [← hW2, ← hqq]; exact entB_new _ _ _
 have HB2 := Lib.hid (hB1.trans (hB2.mono hB1.size))
 have HT2 := Lib.hid (entB_below hT1 hB2)
 have HQ2 := Lib.hid hQ2
 obtain ⟨k0, k1⟩ := entB_cells HT2.out
 obtain ⟨m0, m1⟩ := entB_cells HQ2.out
 have hz2 := HB2.out.size
 clear hB1 hB2 hT1 hQ2 h1 h2 hb
 go_enter Tryz.func27, Tryz.ntmps27
 go_wp2_with fail
 clear k0 k1 m0 m1 hW1 hW2 hqq
 go_loopw [5] (fun iv wr => ∃ i : Nat, i ≤ Nr ∧ iv = .int .i64 (i : Int) ∧ Hid (Below W2.heap.size W2 wr)) (fun iv _ => Nr - (intOf iv).toNat)
 case atStart => exact ⟨0, Nat.zero_le _, rfl, Below.refl _ _⟩
 case round =>
  obtain ⟨i, hi, rfl, hBr⟩ := hrel
  have HBr := Lib.hid (HB2.out.trans (hBr.out.mono hz2))
  obtain ⟨k0, k1⟩ := entB_cells (entB_below HT2.out hBr.out)
  obtain ⟨m0, m1⟩ := entB_cells (entB_below HQ2.out hBr.out)
  by_cases hlt : i < Nr
  ·have hltI : (i : Int) < (Nr : Int) := by omega
   have hil : i < rdn.length := by rw [HNr.out]; exact hlt
   obtain ⟨b, o, hbo, x0, x1⟩ := (dnw.avas_below HAv.out HBr.out) i hil
   obtain ⟨b2, o2, hbo2, y0, y1⟩ := (dnw.avas_below HAv2.out HBr.out) i hil
   subst hbo hbo2
   generalize rdn[i] = a at x0 x1 y0 y1
   go_wp2_with fail
   go_quiet (fail)
   have HBQ := Lib.hid (same.below_drewN hBr.out nq)
   clear k0 k1 m0 m1 x0 x1 y0 y1
   go_wp2_with fail
   go_roundw
   case rel => exact ⟨i + 1, by omega, by go_num, HBQ⟩
   case measure => simp [intOf]; omega
  ·obtain rfl : Nr = i := by omega
   go_wp2_with fail
   clear k0 k1 m0 m1
   have HB0 := hBr
   go_loopw [6] (fun iv wr => ∃ i : Nat, i ≤ N ∧ iv = .int .i64 (i : Int) ∧ Hid (Below W2.heap.size W2 wr)) (fun iv _ => N - (intOf iv).toNat)
   case atStart => exact ⟨0, Nat.zero_le _, rfl, HB0.out⟩
   case round =>
    clear HBr hBr HB0
    obtain ⟨i, hi, rfl, hBr⟩ := hrel
    have HBr := Lib.hid (HB2.out.trans (hBr.out.mono hz2))
    obtain ⟨k0, z1⟩ := entB_cells (entB_below HT2.out hBr.out)
    obtain ⟨m0, u1⟩ := entB_cells (entB_below HQ2.out hBr.out)
    clear k0 m0
    by_cases hlt : i < N
    ·have hltI : (i : Int) < (N : Int) := by omega
     have hil : i < L.length := by rw [HN.out]; exact hlt
     obtain ⟨b, o, ax, cx, hbo, x0, x1, hcx, hs1⟩ := (ats_below HA.out HBr.out) i hil
     obtain ⟨b2, o2, ay, cy, hbo2, y0, y1, hcy, hs2⟩ := (ats_below HA2.out HBr.out) i hil
     subst hbo hbo2
     have hvl := (HVS.out L[i] (List.getElem_mem _)).2.1
     obtain ⟨tt, htt⟩ : ∃ tt, L[i].t = tt := ⟨_, rfl⟩
     obtain ⟨vs, hvs⟩ : ∃ vs, L[i].vs = vs := ⟨_, rfl⟩
     rw [htt] at x0 y0
     rw [hvs] at x1 y1 hcx hcy hs1 hs2 hvl
     clear htt hvs
     obtain ⟨M, hM⟩ : ∃ M, vs.length = M := ⟨_, rfl⟩
     have HS1 := Lib.hid hs1
     have HS2 := Lib.hid hs2
     have HSM : Hid (∀ W, Below wr.heap.size wr W → Calls Tryz.prog 20 #[.slice ax M cx, .slice ay M cy] W fun e w' => e = .returned (.bool true) ∧ Below W.heap.size W w') := by
      intro W h
      have := same.same_any ax ay cx cy vs vs W (Lib.hid (strs_below HS1.out h)) (Lib.hid (strs_below HS2.out h)) (by omega)
      rw [hM, decide_eq_true rfl] at this
      exact this
     rw [hM] at x1 y1
     clear hM hcx hcy hs1 hs2 hvl HS1 HS2
     have hz1 := World.block_lt_of_cell? wr _ z1
     have hu1 := World.block_lt_of_cell? wr _ u1
     have hx0 := World.block_lt_of_cell? wr _ x0
     have hx1 := World.block_lt_of_cell? wr _ x1
     have hy0 := World.block_lt_of_cell? wr _ y0
     have hy1 := World.block_lt_of_cell? wr _ y1
     go_wp2_with fail
     refine wp_region_held_drew (S := fun W => W.cell? ⟨w.heap.size, 1, none⟩ = some (.slice (some ⟨b, o, none⟩) N ac) ∧ W.cell? ⟨q, 1, none⟩ = some (.slice (some ⟨b2, o2, none⟩) N ac2) ∧ W.cell? ⟨b, o + i * 2, none⟩ = some (.string tt) ∧ W.cell? ⟨b, o + i * 2 + 1, none⟩ = some (.slice ax M cx) ∧ W.cell? ⟨b2, o2 + i * 2, none⟩ = some (.string tt) ∧ W.cell? ⟨b2, o2 + i * 2 + 1, none⟩ = some (.slice ay M cy)) (by kernel_rfl) (⟨z1, u1, x0, x1, y0, y1⟩) (fun hHeld => ?_)
     refine tk 0 ⟨some 48,_,_,_,_,_⟩ rfl ?_
     refine tk 1 ⟨some 49,_,_,_,_,_⟩ rfl ?_
     refine tk 2 ⟨some 50,_,_,_,_,_⟩ rfl ?_
     refine tk 3 ⟨some 51,_,_,_,_,_⟩ rfl ?_
     refine tk 4 ⟨some 52,_,_,_,_,_⟩ rfl ?_
     refine tk 5 ⟨some 53,_,_,_,_,_⟩ rfl ?_
     refine tk 6 ⟨some 54,_,_,_,_,_⟩ rfl ?_
     refine tk 7 ⟨some 55,_,_,_,_,_⟩ rfl ?_
     refine tk 8 ⟨some 56,_,_,_,_,_⟩ rfl ?_
     refine tk 9 ⟨some 57,_,_,_,_,_⟩ rfl ?_
     refine tk 10 ⟨some 58,_,_,_,_,_⟩ rfl ?_
     refine tk 11 ⟨some 59,_,_,_,_,_⟩ rfl ?_
     refine tk 12 ⟨some 60,_,_,_,_,_⟩ rfl ?_
     refine tk 13 ⟨some 61,_,_,_,_,_⟩ rfl ?_
     refine tk 14 ⟨some 62,_,_,_,_,_⟩ rfl ?_
     refine tk 15 ⟨some 63,_,_,_,_,_⟩ rfl ?_
     refine tk 16 ⟨some 64,_,_,_,_,_⟩ rfl ?_
     refine tk 17 ⟨some 65,_,_,_,_,_⟩ rfl ?_
     refine tk 18 ⟨some 66,_,_,_,_,_⟩ rfl ?_
     refine tk 19 ⟨some 67,_,_,_,_,_⟩ rfl ?_
     refine tk 20 ⟨some 68,_,_,_,_,_⟩ rfl ?_
     refine tk 21 ⟨some 69,_,_,_,_,_⟩ rfl ?_
     refine tk 22 ⟨some 70,_,_,_,_,_⟩ rfl ?_
     refine tk 23 ⟨some 71,_,_,_,_,_⟩ rfl ?_
     refine tk 24 ⟨some 72,_,_,_,_,_⟩ rfl ?_
     refine tk 25 ⟨some 73,_,_,_,_,_⟩ rfl ?_
     refine tc 26 ⟨some 74,_,_,_,_,_⟩ rfl (fun K hK => ?_)
     go_simp
     go_at_call 20; refine (HSM.out _ ((Below.refl wr.heap.size wr).drew)).mono ?_; rintro e w6 ⟨rfl, hB6⟩
     refine hK.out _ _ (⟨(hB6.cell (p := ⟨w.heap.size, 1, none⟩) hz1).trans (z1), (hB6.cell (p := ⟨q, 1, none⟩) hu1).trans (u1), (hB6.cell (p := ⟨b, o + i * 2, none⟩) hx0).trans (x0), (hB6.cell (p := ⟨b, o + i * 2 + 1, none⟩) hx1).trans (x1), (hB6.cell (p := ⟨b2, o2 + i * 2, none⟩) hy0).trans (y0), (hB6.cell (p := ⟨b2, o2 + i * 2 + 1, none⟩) hy1).trans (y1)⟩) (fun hHeld => ?_)
     clear hK
     try simp only [Act.put, List.setIfInBounds_toArray, List.set_cons_zero, List.set_cons_succ]
     refine tk 27 ⟨some 75,_,_,_,_,_⟩ rfl ?_
     refine tk 28 ⟨some 76,_,_,_,_,_⟩ rfl ?_
     refine wpAnyH_done (by kernel_rfl) ?_ _
     have HB6 := Lib.hid (hBr.out.trans (((Below.refl wr.heap.size wr).drew.trans hB6).mono hBr.out.size))
     clear hHeld hB6 x0 x1 y0 y1 z1 u1
     go_wp2_with fail
     go_roundw
     case rel => exact ⟨i + 1, by omega, by go_num, HB6⟩
     case measure => simp [intOf]; omega
    ·obtain rfl : N = i := by omega
     go_wp2_with fail
     go_ret
     exact ⟨rfl, HBr.out⟩
end etw
end Go.Proofs.YtcolcogobdgejaaGreatDoor
