/- The body of EntryChanges. -/
import Derived.Test.YtcolcogobdgejaaGreatDoorC11
import Derived.Test.YtcolcogobdgejaaGreatDoorYRem
import Derived.Test.YtcolcogobdgejaaGreatDoorYRRem
import Derived.Test.YtcolcogobdgejaaGreatDoorYRepl
import Derived.Test.YtcolcogobdgejaaGreatDoorYRPack
import Derived.Test.YtcolcogobdgejaaGreatDoorYResX
/-! ChgW -/
namespace Go.Proofs.YtcolcogobdgejaaGreatDoor
open Go.RowKit
namespace etw
open atp atw etp
open dnw (Av Avas)
open tupw (Strs strs_below)
set_option linter.unusedVariables false
set_option linter.unusedSimpArgs false
set_option maxRecDepth 20000 in
set_option maxHeartbeats 16000000 in
theorem changes_law (v : Value) (E : En) (n : ByteArray) (bo : Option Addr) (bcap : Nat) (l : List ByteArray) (w : World) (hv : Hid (EntV w v E)) (hS : Hid (Strs w bo l)) (hlc : l.length ≤ bcap) (hE : Hid (EnvE w)) :
  Calls Tryz.prog 5 #[v, .string n, .slice bo l.length bcap] w fun e w' => e = .returned (.bool true) ∧ Below w.heap.size w w' := by
 have HLO0 : Hid (∀ W, Below w.heap.size w W → Calls Tryz.prog 15 #[v] W fun e w' => e = .returned (.bool (longE E)) ∧ Below W.heap.size W w') := fun W h => longE_any v E W (Lib.hid (entV_below hv.out h))
 have HLL0 : Hid (∀ W, Below w.heap.size w W → Calls Tryz.prog 23 #[.slice bo l.length bcap] W fun e w' => e = .returned (.bool (longL l)) ∧ W = w') := fun W h => longL_any bo bcap l W (Lib.hid (strs_below hS.out h))
 obtain ⟨ro, rc, ao, ac, Nr, N, rfl, HN, HA, hac, HNr, HAv, hrc⟩ := ent_form hv.out
 obtain ⟨W0, hW0⟩ : ∃ W, w.alloc (.cells #[.slice ro Nr rc, .slice ao N ac] 25) = W := ⟨_, rfl⟩
 have hB0 : Below w.heap.size w W0 := by rw [← hW0]; exact (Below.refl _ _).alloc (Nat.le_refl _) _
 have HT0 : Hid (EntB W0 w.heap.size (.slice ro Nr rc) (.slice ao N ac)) := by rw [← hW0]; exact entB_new _ _ _
 have HB0 := Lib.hid hB0
 have HAW := Lib.hid (eawake_any W0 (Lib.hid (envE_below hE.out hB0)))
 obtain ⟨K, hK⟩ : ∃ K, l.length = K := ⟨_, rfl⟩
 rw [hK] at HLL0 hlc ⊢
 have HK := Lib.hid hK
 clear hB0 hK HN HA HNr HAv hac hrc
 go_enter Tryz.func5, Tryz.ntmps5
 go_wp2_with fail
 refine HAW.out.mono ?_
 rintro e w1 ⟨rfl, hB1⟩
 have HB1 := Lib.hid (HB0.out.trans (hB1.mono HB0.out.size))
 have HT1 := Lib.hid (entB_below HT0.out hB1)
 obtain ⟨k0, k1⟩ := entB_cells HT1.out
 have HLO := Lib.hid (HLO0.out w1 HB1.out)
 clear hB1 hW0 HAW HLO0
 cases hlo : longE E with
 | true =>
  rw [hlo] at HLO
  clear hlo
  go_wp2_with fail
  refine HLO.out.mono ?_
  rintro e w2 ⟨rfl, hB2⟩
  have HBE := Lib.hid (HB1.out.trans (hB2.mono HB1.out.size))
  clear hB2 k0 k1
  go_wp2_with fail
  go_ret
  exact ⟨rfl, HBE.out⟩
 | false =>
  rw [hlo] at HLO
  have HBK := Lib.hid (longE_no hlo)
  have HPK1 := Lib.hid (pk_of hlo)
  clear hlo
  by_cases hn : 600 < n.size
  ·have hn' : (600 : Int) < (n.size : Int) := by omega
   go_wp2_with fail
   refine HLO.out.mono ?_
   rintro e w2 ⟨rfl, hB2⟩
   have HBE := Lib.hid (HB1.out.trans (hB2.mono HB1.out.size))
   clear hB2 k0 k1
   go_wp2_with fail
   go_ret
   exact ⟨rfl, HBE.out⟩
  ·have hn' : ¬ (600 : Int) < (n.size : Int) := by omega
   go_wp2_with fail
   refine HLO.out.mono ?_
   rintro e w2 ⟨rfl, hB2⟩
   have HB2 := Lib.hid (HB1.out.trans (hB2.mono HB1.out.size))
   have HT2 := Lib.hid (entB_below HT1.out hB2)
   have HLL := Lib.hid (HLL0.out w2 HB2.out)
   clear hB2 k0 k1 HLO
   cases hll : longL l with
   | true =>
    rw [hll] at HLL
    clear hll
    go_wp2_with fail
    refine HLL.out.mono ?_
    rintro e w3 ⟨rfl, rfl⟩
    go_wp2_with fail
    go_ret
    exact ⟨rfl, HB2.out⟩
   | false =>
    rw [hll] at HLL
    have hlb := longL_no hll
    have hK40 : K ≤ 40 := by rw [← HK.out]; exact hlb.1
    have HLS := Lib.hid hlb.2
    clear hll hlb HLL0
    have HPK : Hid (∀ W, Below w.heap.size w W → Calls Tryz.prog 28 #[.agg #[.slice ro Nr rc, .slice ao N ac]] W fun e w' => e = .returned (.tuple #[.string (packS E).1, .int .i64 (packS E).2]) ∧ Below W.heap.size W w') := fun W h => rpack_any _ E W (Lib.hid (entV_below hv.out h)) HPK1
    generalize (packS E).1 = ps at HPK
    generalize (packS E).2 = pf at HPK
    have HC1 : Hid (∀ W, Below w.heap.size w W → Calls Tryz.prog 24 #[.agg #[.slice ro Nr rc, .slice ao N ac], .string n, .slice bo K bcap] W fun e w' => ResX (valE (addE E n.data.toList l)) (codeE (addE E n.data.toList l)) W e w') := by
     intro W h
     have := add_any _ E n bo bcap l W (Lib.hid (entV_below hv.out h)) (Lib.hid (bk_le HBK.out (by omega))) (Lib.hid (strs_below hS.out h)) (by rw [HK.out]; omega) (by rw [HK.out]; exact hlc) (Lib.hid fun x hx => by have := HLS.out x hx; omega) (by omega) (Lib.hid (envE_below hE.out h))
     rw [HK.out] at this
     exact this.mono fun e w' hr => resX_of hr
    have HR1 : Hid (∀ W, Below w.heap.size w W → Calls Tryz.prog 29 #[.agg #[.slice ro Nr rc, .slice ao N ac], .string n, .slice bo K bcap] W fun e w' => ResX (valE (addE E n.data.toList l)) (codeE (addE E n.data.toList l)) W e w') := by
     intro W h
     have := radd_any _ E n bo bcap l W (Lib.hid (entV_below hv.out h)) (Lib.hid (bk_le HBK.out (by omega))) (Lib.hid (strs_below hS.out h)) (by rw [HK.out]; omega) (by rw [HK.out]; exact hlc) (Lib.hid fun x hx => by have := HLS.out x hx; omega) (by omega)
     rw [HK.out] at this
     exact this.mono fun e w' hr => resX_of hr
    have HS1 : Hid (∀ u1 u2 W, EntV W u1 (valE (addE E n.data.toList l)) → EntV W u2 (valE (addE E n.data.toList l)) → Calls Tryz.prog 27 #[u1, u2] W fun e w' => e = .returned (.bool true) ∧ Below W.heap.size W w') :=
     fun u1 u2 W h1 h2 => same17_eq u1 u2 _ W (Lib.hid h1) (Lib.hid h2) (Lib.hid (bkx_add HBK.out (fun x hx => by have := HLS.out x hx; omega) (by rw [HK.out]; omega)))
    generalize valE (addE E n.data.toList l) = X1 at HC1 HR1 HS1
    generalize codeE (addE E n.data.toList l) = F1 at HC1 HR1
    have HC2 : Hid (∀ W, Below w.heap.size w W → Calls Tryz.prog 25 #[.agg #[.slice ro Nr rc, .slice ao N ac], .string n, .slice bo K bcap] W fun e w' => ResX (valE (removeE E n.data.toList l)) (codeE (removeE E n.data.toList l)) W e w') := by
     intro W h
     have := remove_any _ E n bo bcap l W (Lib.hid (entV_below hv.out h)) (Lib.hid (bk_le HBK.out (by omega))) (Lib.hid (strs_below hS.out h)) (by rw [HK.out]; omega) (by rw [HK.out]; exact hlc) (Lib.hid fun x hx => by have := HLS.out x hx; omega) (by omega) (Lib.hid (envE_below hE.out h))
     rw [HK.out] at this
     exact this.mono fun e w' hr => resX_of hr
    have HR2 : Hid (∀ W, Below w.heap.size w W → Calls Tryz.prog 30 #[.agg #[.slice ro Nr rc, .slice ao N ac], .string n, .slice bo K bcap] W fun e w' => ResX (valE (removeE E n.data.toList l)) (codeE (removeE E n.data.toList l)) W e w') := by
     intro W h
     have := rremove_any _ E n bo bcap l W (Lib.hid (entV_below hv.out h)) (Lib.hid (bk_le HBK.out (by omega))) (Lib.hid (strs_below hS.out h)) (by rw [HK.out]; omega) (by rw [HK.out]; exact hlc) (Lib.hid fun x hx => by have := HLS.out x hx; omega) (by omega)
     rw [HK.out] at this
     exact this.mono fun e w' hr => resX_of hr
    have HS2 : Hid (∀ u1 u2 W, EntV W u1 (valE (removeE E n.data.toList l)) → EntV W u2 (valE (removeE E n.data.toList l)) → Calls Tryz.prog 27 #[u1, u2] W fun e w' => e = .returned (.bool true) ∧ Below W.heap.size W w') :=
     fun u1 u2 W h1 h2 => same17_eq u1 u2 _ W (Lib.hid h1) (Lib.hid h2) (Lib.hid (bkx_remove HBK.out (fun x hx => by have := HLS.out x hx; omega) (by rw [HK.out]; omega)))
    generalize valE (removeE E n.data.toList l) = X2 at HC2 HR2 HS2
    generalize codeE (removeE E n.data.toList l) = F2 at HC2 HR2
    have HC3 : Hid (∀ W, Below w.heap.size w W → Calls Tryz.prog 31 #[.agg #[.slice ro Nr rc, .slice ao N ac], .string n, .slice bo K bcap] W fun e w' => ResX (valE (replaceE E n.data.toList l)) (codeE (replaceE E n.data.toList l)) W e w') := by
     intro W h
     have := replace_any _ E n bo bcap l W (Lib.hid (entV_below hv.out h)) (Lib.hid (bk_le HBK.out (by omega))) (Lib.hid (strs_below hS.out h)) (by rw [HK.out]; omega) (by rw [HK.out]; exact hlc) (Lib.hid fun x hx => by have := HLS.out x hx; omega) (by omega) (Lib.hid (envE_below hE.out h))
     rw [HK.out] at this
     exact this.mono fun e w' hr => resX_of hr
    have HR3 : Hid (∀ W, Below w.heap.size w W → Calls Tryz.prog 32 #[.agg #[.slice ro Nr rc, .slice ao N ac], .string n, .slice bo K bcap] W fun e w' => ResX (valE (replaceE E n.data.toList l)) (codeE (replaceE E n.data.toList l)) W e w') := by
     intro W h
     have := rreplace_any _ E n bo bcap l W (Lib.hid (entV_below hv.out h)) (Lib.hid (bk_le HBK.out (by omega))) (Lib.hid (strs_below hS.out h)) (by rw [HK.out]; omega) (by rw [HK.out]; exact hlc) (Lib.hid fun x hx => by have := HLS.out x hx; omega) (by omega)
     rw [HK.out] at this
     exact this.mono fun e w' hr => resX_of hr
    have HS3 : Hid (∀ u1 u2 W, EntV W u1 (valE (replaceE E n.data.toList l)) → EntV W u2 (valE (replaceE E n.data.toList l)) → Calls Tryz.prog 27 #[u1, u2] W fun e w' => e = .returned (.bool true) ∧ Below W.heap.size W w') :=
     fun u1 u2 W h1 h2 => same17_eq u1 u2 _ W (Lib.hid h1) (Lib.hid h2) (Lib.hid (bkx_replace HBK.out (fun x hx => by have := HLS.out x hx; omega) (by rw [HK.out]; omega)))
    generalize valE (replaceE E n.data.toList l) = X3 at HC3 HR3 HS3
    generalize codeE (replaceE E n.data.toList l) = F3 at HC3 HR3
    have HP2 := Lib.hid (HPK.out w2 HB2.out)
    obtain ⟨k0, k1⟩ := entB_cells HT2.out
    clear HBK HPK1 HLS
    go_wp2_with fail
    refine HLL.out.mono ?_
    rintro e w3 ⟨rfl, rfl⟩
    clear HLL
    go_wp2_with fail
    refine HP2.out.mono ?_
    rintro e w4 ⟨rfl, hB4⟩
    have HBw4 := Lib.hid (HB2.out.trans (hB4.mono HB2.out.size))
    have HTw4 := Lib.hid (entB_below HT2.out hB4)
    clear hB4 k0 k1 HP2
    obtain ⟨k0, k1⟩ := entB_cells HTw4.out
    have HC := Lib.hid (HC1.out w4 HBw4.out)
    go_wp2_with fail
    refine HC.out.mono ?_
    rintro e wa1 ⟨r1, n1, c1, r2, n2, c2, rfl, hv1, hB1⟩
    have HBwa1 := Lib.hid (HBw4.out.trans (hB1.mono HBw4.out.size))
    have HTwa1 := Lib.hid (entB_below HTw4.out hB1)
    obtain ⟨wb1, hwwb1⟩ : ∃ W, wa1.alloc (.cells #[.slice r1 n1 c1, .slice r2 n2 c2] 25) = W := ⟨_, rfl⟩
    have hB2 : Below wa1.heap.size wa1 wb1 := by rw [← hwwb1]; exact (Below.refl _ _).alloc (Nat.le_refl _) _
    obtain ⟨p9, hp9⟩ : ∃ q, wa1.heap.size = q := ⟨_, rfl⟩
    have HXwb1 : Hid (EntB wb1 p9 (.slice r1 n1 c1) (.slice r2 n2 c2)) := by rw [← hwwb1, ← hp9]; exact entB_new _ _ _
    have hp9w : w.heap.size ≤ p9 := by rw [← hp9]; exact HBwa1.out.size
    have hp9n : p9 ≠ w.heap.size := by rw [← hp9]; exact Nat.ne_of_gt (kt.bld_lt HTwa1.out)
    have HBwb1 := Lib.hid (HBwa1.out.trans (hB2.mono HBwa1.out.size))
    have HTwb1 := Lib.hid (entB_below HTwa1.out hB2)
    have HVwb1 := Lib.hid (entV_below hv1 hB2)
    clear hB2
    have HD := Lib.hid (HR1.out wb1 HBwb1.out)
    clear hv1 hB1 k0 k1 HC
    obtain ⟨k0, k1⟩ := entB_cells HTwb1.out
    go_wp2_with fail
    refine HD.out.mono ?_
    rintro e wc1 ⟨s1, m1, d1, s2, m2, d2, rfl, hv2, hB1⟩
    have HBwc1 := Lib.hid (HBwb1.out.trans (hB1.mono HBwb1.out.size))
    have HTwc1 := Lib.hid (entB_below HTwb1.out hB1)
    have HXwc1 := Lib.hid (entB_below HXwb1.out hB1)
    have HVwc1 := Lib.hid (entV_below HVwb1.out hB1)
    try clear v0 v1 f0 f1 hwwb1
    try clear hp9
    obtain ⟨wd1, hwwd1⟩ : ∃ W, wc1.alloc (.cells #[.slice s1 m1 d1, .slice s2 m2 d2] 25) = W := ⟨_, rfl⟩
    have hB2 : Below wc1.heap.size wc1 wd1 := by rw [← hwwd1]; exact (Below.refl _ _).alloc (Nat.le_refl _) _
    obtain ⟨p11, hp11⟩ : ∃ q, wc1.heap.size = q := ⟨_, rfl⟩
    have HYwd1 : Hid (EntB wd1 p11 (.slice s1 m1 d1) (.slice s2 m2 d2)) := by rw [← hwwd1, ← hp11]; exact entB_new _ _ _
    have hp11w : w.heap.size ≤ p11 := by rw [← hp11]; exact HBwc1.out.size
    have hp11n : p11 ≠ w.heap.size := by rw [← hp11]; exact Nat.ne_of_gt (kt.bld_lt HTwc1.out)
    have hpn : p9 ≠ p11 := by rw [← hp11]; exact Nat.ne_of_lt (kt.bld_lt HXwc1.out)
    have HBwd1 := Lib.hid (HBwc1.out.trans (hB2.mono HBwc1.out.size))
    have HTwd1 := Lib.hid (entB_below HTwc1.out hB2)
    have HXwd1 := Lib.hid (entB_below HXwc1.out hB2)
    have HUwd1 := Lib.hid (entV_below HVwc1.out hB2)
    have HVwd1 := Lib.hid (entV_below hv2 hB2)
    clear hB2
    have HS := Lib.hid (HS1.out _ _ wd1 HUwd1.out HVwd1.out)
    clear hv2 hB1 k0 k1 HD
    obtain ⟨x0, x1⟩ := entB_cells HXwd1.out
    obtain ⟨y0, y1⟩ := entB_cells HYwd1.out
    go_wp2_with fail
    refine HS.out.mono ?_
    rintro e we1 ⟨rfl, hB1⟩
    have HBwe1 := Lib.hid (HBwd1.out.trans (hB1.mono HBwd1.out.size))
    have HTwe1 := Lib.hid (entB_below HTwd1.out hB1)
    have HXwe1 := Lib.hid (entB_below HXwd1.out hB1)
    have HYwe1 := Lib.hid (entB_below HYwd1.out hB1)
    clear hB1 x0 x1 y0 y1 HS
    try clear v0 v1 f0 f1
    try clear hp11
    try clear hwwd1
    obtain ⟨k0, k1⟩ := entB_cells HTwe1.out
    have HC := Lib.hid (HC2.out we1 HBwe1.out)
    go_wp2_with fail
    refine HC.out.mono ?_
    rintro e wa2 ⟨r1, n1, c1, r2, n2, c2, rfl, hv1, hB1⟩
    have HBwa2 := Lib.hid (HBwe1.out.trans (hB1.mono HBwe1.out.size))
    have HTwa2 := Lib.hid (entB_below HTwe1.out hB1)
    have HXwa2 := Lib.hid (entB_below HXwe1.out hB1)
    have HYwa2 := Lib.hid (entB_below HYwe1.out hB1)
    obtain ⟨v0, v1⟩ := entB_cells HXwa2.out
    have f0 := Lib.frozen_of_heap HXwa2.out 0
    have f1 := Lib.frozen_of_heap HXwa2.out 1
    have hq1 := entB_set0 HXwa2.out (.slice r1 n1 c1)
    have hq2 := entB_set1 hq1 (.slice r2 n2 c2)
    obtain ⟨wb2, hwwb2⟩ : ∃ W, (wa2.setCell ⟨p9, 0, none⟩ (.slice r1 n1 c1)).setCell ⟨p9, 1, none⟩ (.slice r2 n2 c2) = W := ⟨_, rfl⟩
    have HBwb2 : Hid (Below w.heap.size w wb2) := by rw [← hwwb2]; exact (HBwa2.out.setCell (p := ⟨p9, 0, none⟩) hp9w (.slice r1 n1 c1)).setCell (p := ⟨p9, 1, none⟩) hp9w (.slice r2 n2 c2)
    have HTwb2 : Hid (EntB wb2 w.heap.size (.slice ro Nr rc) (.slice ao N ac)) := by rw [← hwwb2]; exact entB_other (entB_other HTwa2.out hp9n.symm (.slice r1 n1 c1)) hp9n.symm (.slice r2 n2 c2)
    have HXwb2 : Hid (EntB wb2 p9 (.slice r1 n1 c1) (.slice r2 n2 c2)) := by rw [← hwwb2]; exact hq2
    have HYwb2 : Hid (EntB wb2 p11 (.slice s1 m1 d1) (.slice s2 m2 d2)) := by rw [← hwwb2]; exact entB_other (entB_other HYwa2.out hpn.symm (.slice r1 n1 c1)) hpn.symm (.slice r2 n2 c2)
    have HVwb2 : Hid (EntV wb2 (.agg #[.slice r1 n1 c1, .slice r2 n2 c2]) X2) := by rw [← hwwb2]; exact entV_set (entV_set hv1 HXwa2.out (noS_slice _ _ _) (noS_slice _ _ _) 0 (.slice r1 n1 c1)) hq1 (noS_slice _ _ _) (noS_slice _ _ _) 1 (.slice r2 n2 c2)
    clear hq1 hq2
    have HD := Lib.hid (HR2.out wb2 HBwb2.out)
    clear hv1 hB1 k0 k1 HC
    obtain ⟨k0, k1⟩ := entB_cells HTwb2.out
    go_wp2_with fail
    refine HD.out.mono ?_
    rintro e wc2 ⟨s1, m1, d1, s2, m2, d2, rfl, hv2, hB1⟩
    have HBwc2 := Lib.hid (HBwb2.out.trans (hB1.mono HBwb2.out.size))
    have HTwc2 := Lib.hid (entB_below HTwb2.out hB1)
    have HXwc2 := Lib.hid (entB_below HXwb2.out hB1)
    have HVwc2 := Lib.hid (entV_below HVwb2.out hB1)
    try clear v0 v1 f0 f1 hwwb2
    try clear hp9
    have HYwc2 := Lib.hid (entB_below HYwb2.out hB1)
    obtain ⟨v0, v1⟩ := entB_cells HYwc2.out
    have f0 := Lib.frozen_of_heap HYwc2.out 0
    have f1 := Lib.frozen_of_heap HYwc2.out 1
    have hq1 := entB_set0 HYwc2.out (.slice s1 m1 d1)
    have hq2 := entB_set1 hq1 (.slice s2 m2 d2)
    obtain ⟨wd2, hwwd2⟩ : ∃ W, (wc2.setCell ⟨p11, 0, none⟩ (.slice s1 m1 d1)).setCell ⟨p11, 1, none⟩ (.slice s2 m2 d2) = W := ⟨_, rfl⟩
    have HBwd2 : Hid (Below w.heap.size w wd2) := by rw [← hwwd2]; exact (HBwc2.out.setCell (p := ⟨p11, 0, none⟩) hp11w (.slice s1 m1 d1)).setCell (p := ⟨p11, 1, none⟩) hp11w (.slice s2 m2 d2)
    have HTwd2 : Hid (EntB wd2 w.heap.size (.slice ro Nr rc) (.slice ao N ac)) := by rw [← hwwd2]; exact entB_other (entB_other HTwc2.out hp11n.symm (.slice s1 m1 d1)) hp11n.symm (.slice s2 m2 d2)
    have HYwd2 : Hid (EntB wd2 p11 (.slice s1 m1 d1) (.slice s2 m2 d2)) := by rw [← hwwd2]; exact hq2
    have HXwd2 : Hid (EntB wd2 p9 (.slice r1 n1 c1) (.slice r2 n2 c2)) := by rw [← hwwd2]; exact entB_other (entB_other HXwc2.out hpn (.slice s1 m1 d1)) hpn (.slice s2 m2 d2)
    have HVwd2 : Hid (EntV wd2 (.agg #[.slice s1 m1 d1, .slice s2 m2 d2]) X2) := by rw [← hwwd2]; exact entV_set (entV_set hv2 HYwc2.out (noS_slice _ _ _) (noS_slice _ _ _) 0 (.slice s1 m1 d1)) hq1 (noS_slice _ _ _) (noS_slice _ _ _) 1 (.slice s2 m2 d2)
    have HUwd2 : Hid (EntV wd2 (.agg #[.slice r1 n1 c1, .slice r2 n2 c2]) X2) := by rw [← hwwd2]; exact entV_set (entV_set HVwc2.out HYwc2.out (noS_slice _ _ _) (noS_slice _ _ _) 0 (.slice s1 m1 d1)) hq1 (noS_slice _ _ _) (noS_slice _ _ _) 1 (.slice s2 m2 d2)
    clear hq1 hq2
    have HS := Lib.hid (HS2.out _ _ wd2 HUwd2.out HVwd2.out)
    clear hv2 hB1 k0 k1 HD
    obtain ⟨x0, x1⟩ := entB_cells HXwd2.out
    obtain ⟨y0, y1⟩ := entB_cells HYwd2.out
    go_wp2_with fail
    refine HS.out.mono ?_
    rintro e we2 ⟨rfl, hB1⟩
    have HBwe2 := Lib.hid (HBwd2.out.trans (hB1.mono HBwd2.out.size))
    have HTwe2 := Lib.hid (entB_below HTwd2.out hB1)
    have HXwe2 := Lib.hid (entB_below HXwd2.out hB1)
    have HYwe2 := Lib.hid (entB_below HYwd2.out hB1)
    clear hB1 x0 x1 y0 y1 HS
    try clear v0 v1 f0 f1
    try clear hp11
    try clear hwwd2
    obtain ⟨k0, k1⟩ := entB_cells HTwe2.out
    have HC := Lib.hid (HC3.out we2 HBwe2.out)
    go_wp2_with fail
    refine HC.out.mono ?_
    rintro e wa3 ⟨r1, n1, c1, r2, n2, c2, rfl, hv1, hB1⟩
    have HBwa3 := Lib.hid (HBwe2.out.trans (hB1.mono HBwe2.out.size))
    have HTwa3 := Lib.hid (entB_below HTwe2.out hB1)
    have HXwa3 := Lib.hid (entB_below HXwe2.out hB1)
    have HYwa3 := Lib.hid (entB_below HYwe2.out hB1)
    obtain ⟨v0, v1⟩ := entB_cells HXwa3.out
    have f0 := Lib.frozen_of_heap HXwa3.out 0
    have f1 := Lib.frozen_of_heap HXwa3.out 1
    have hq1 := entB_set0 HXwa3.out (.slice r1 n1 c1)
    have hq2 := entB_set1 hq1 (.slice r2 n2 c2)
    obtain ⟨wb3, hwwb3⟩ : ∃ W, (wa3.setCell ⟨p9, 0, none⟩ (.slice r1 n1 c1)).setCell ⟨p9, 1, none⟩ (.slice r2 n2 c2) = W := ⟨_, rfl⟩
    have HBwb3 : Hid (Below w.heap.size w wb3) := by rw [← hwwb3]; exact (HBwa3.out.setCell (p := ⟨p9, 0, none⟩) hp9w (.slice r1 n1 c1)).setCell (p := ⟨p9, 1, none⟩) hp9w (.slice r2 n2 c2)
    have HTwb3 : Hid (EntB wb3 w.heap.size (.slice ro Nr rc) (.slice ao N ac)) := by rw [← hwwb3]; exact entB_other (entB_other HTwa3.out hp9n.symm (.slice r1 n1 c1)) hp9n.symm (.slice r2 n2 c2)
    have HXwb3 : Hid (EntB wb3 p9 (.slice r1 n1 c1) (.slice r2 n2 c2)) := by rw [← hwwb3]; exact hq2
    have HYwb3 : Hid (EntB wb3 p11 (.slice s1 m1 d1) (.slice s2 m2 d2)) := by rw [← hwwb3]; exact entB_other (entB_other HYwa3.out hpn.symm (.slice r1 n1 c1)) hpn.symm (.slice r2 n2 c2)
    have HVwb3 : Hid (EntV wb3 (.agg #[.slice r1 n1 c1, .slice r2 n2 c2]) X3) := by rw [← hwwb3]; exact entV_set (entV_set hv1 HXwa3.out (noS_slice _ _ _) (noS_slice _ _ _) 0 (.slice r1 n1 c1)) hq1 (noS_slice _ _ _) (noS_slice _ _ _) 1 (.slice r2 n2 c2)
    clear hq1 hq2
    have HD := Lib.hid (HR3.out wb3 HBwb3.out)
    clear hv1 hB1 k0 k1 HC
    obtain ⟨k0, k1⟩ := entB_cells HTwb3.out
    go_wp2_with fail
    refine HD.out.mono ?_
    rintro e wc3 ⟨s1, m1, d1, s2, m2, d2, rfl, hv2, hB1⟩
    have HBwc3 := Lib.hid (HBwb3.out.trans (hB1.mono HBwb3.out.size))
    have HTwc3 := Lib.hid (entB_below HTwb3.out hB1)
    have HXwc3 := Lib.hid (entB_below HXwb3.out hB1)
    have HVwc3 := Lib.hid (entV_below HVwb3.out hB1)
    try clear v0 v1 f0 f1 hwwb3
    try clear hp9
    have HYwc3 := Lib.hid (entB_below HYwb3.out hB1)
    obtain ⟨v0, v1⟩ := entB_cells HYwc3.out
    have f0 := Lib.frozen_of_heap HYwc3.out 0
    have f1 := Lib.frozen_of_heap HYwc3.out 1
    have hq1 := entB_set0 HYwc3.out (.slice s1 m1 d1)
    have hq2 := entB_set1 hq1 (.slice s2 m2 d2)
    obtain ⟨wd3, hwwd3⟩ : ∃ W, (wc3.setCell ⟨p11, 0, none⟩ (.slice s1 m1 d1)).setCell ⟨p11, 1, none⟩ (.slice s2 m2 d2) = W := ⟨_, rfl⟩
    have HBwd3 : Hid (Below w.heap.size w wd3) := by rw [← hwwd3]; exact (HBwc3.out.setCell (p := ⟨p11, 0, none⟩) hp11w (.slice s1 m1 d1)).setCell (p := ⟨p11, 1, none⟩) hp11w (.slice s2 m2 d2)
    have HTwd3 : Hid (EntB wd3 w.heap.size (.slice ro Nr rc) (.slice ao N ac)) := by rw [← hwwd3]; exact entB_other (entB_other HTwc3.out hp11n.symm (.slice s1 m1 d1)) hp11n.symm (.slice s2 m2 d2)
    have HYwd3 : Hid (EntB wd3 p11 (.slice s1 m1 d1) (.slice s2 m2 d2)) := by rw [← hwwd3]; exact hq2
    have HXwd3 : Hid (EntB wd3 p9 (.slice r1 n1 c1) (.slice r2 n2 c2)) := by rw [← hwwd3]; exact entB_other (entB_other HXwc3.out hpn (.slice s1 m1 d1)) hpn (.slice s2 m2 d2)
    have HVwd3 : Hid (EntV wd3 (.agg #[.slice s1 m1 d1, .slice s2 m2 d2]) X3) := by rw [← hwwd3]; exact entV_set (entV_set hv2 HYwc3.out (noS_slice _ _ _) (noS_slice _ _ _) 0 (.slice s1 m1 d1)) hq1 (noS_slice _ _ _) (noS_slice _ _ _) 1 (.slice s2 m2 d2)
    have HUwd3 : Hid (EntV wd3 (.agg #[.slice r1 n1 c1, .slice r2 n2 c2]) X3) := by rw [← hwwd3]; exact entV_set (entV_set HVwc3.out HYwc3.out (noS_slice _ _ _) (noS_slice _ _ _) 0 (.slice s1 m1 d1)) hq1 (noS_slice _ _ _) (noS_slice _ _ _) 1 (.slice s2 m2 d2)
    clear hq1 hq2
    have HS := Lib.hid (HS3.out _ _ wd3 HUwd3.out HVwd3.out)
    clear hv2 hB1 k0 k1 HD
    obtain ⟨x0, x1⟩ := entB_cells HXwd3.out
    obtain ⟨y0, y1⟩ := entB_cells HYwd3.out
    go_wp2_with fail
    refine HS.out.mono ?_
    rintro e we3 ⟨rfl, hB1⟩
    have HBwe3 := Lib.hid (HBwd3.out.trans (hB1.mono HBwd3.out.size))
    have HTwe3 := Lib.hid (entB_below HTwd3.out hB1)
    have HXwe3 := Lib.hid (entB_below HXwd3.out hB1)
    have HYwe3 := Lib.hid (entB_below HYwd3.out hB1)
    clear hB1 x0 x1 y0 y1 HS
    try clear v0 v1 f0 f1
    try clear hp11
    try clear hwwd3
    obtain ⟨k0, k1⟩ := entB_cells HTwe3.out
    have HPE := Lib.hid (HPK.out we3 HBwe3.out)
    go_wp2_with fail
    refine HPE.out.mono ?_
    rintro e wz ⟨rfl, hBz⟩
    have HBz := Lib.hid (HBwe3.out.trans (hBz.mono HBwe3.out.size))
    clear hBz k0 k1
    go_wp2_with fail
    go_ret
    exact ⟨rfl, HBz.out⟩
end etw
end Go.Proofs.YtcolcogobdgejaaGreatDoor
