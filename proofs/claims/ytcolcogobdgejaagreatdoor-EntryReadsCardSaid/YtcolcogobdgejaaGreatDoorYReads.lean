/- The body of EntryReads. -/
import Derived.Test.YtcolcogobdgejaaGreatDoorC11
import Derived.Test.YtcolcogobdgejaaGreatDoorYRUnp
import Derived.Test.YtcolcogobdgejaaGreatDoorYSame
import Derived.Test.YtcolcogobdgejaaGreatDoorYResX
/-! ReadsW -/
namespace Go.Proofs.YtcolcogobdgejaaGreatDoor
open Go.RowKit
namespace etw
open atp atw etp
open dnw (Av Avas)
open tupw (Strs strs_below)
set_option linter.unusedVariables false
set_option linter.unusedSimpArgs false
theorem flat_le {α β : Type} {f : α → List β} {l : List α} {a : α} (h : a ∈ l) : (f a).length ≤ (l.flatMap f).length := by
 obtain ⟨p, q, rfl⟩ := List.append_of_mem h
 rw [List.flatMap_append, List.flatMap_cons, List.length_append, List.length_append]
 omega
theorem unp_bd {s : ByteArray} {r : Except Int En} (h : UnpE s.data.toList r) : Bd (valE r) := by
 cases r with
 | error f => exact bd_zero
 | ok E =>
  obtain ⟨h1, h2⟩ := h.1 E rfl
  obtain ⟨_, h3, h4⟩ := pack_ok h1
  have key : ∀ (x : List UInt8) (L : List UInt8), x.length ≤ L.length → L.length ≤ 4000 → x.length ≤ 100000 := fun x L a b => by omega
  have hl : (packB E).length ≤ 4000 := by rw [h3]; exact h4
  have hR : (etp.encR E.rdn).length ≤ 4000 := by
   have : (packB E).length = 1 + ((etp.encR E.rdn).length + (1 + (encL E.ats).length)) := by
    unfold packB
    simp only [List.length_cons, List.length_append]
    omega
   omega
  have hL : (encL E.ats).length ≤ 4000 := by
   have : (packB E).length = 1 + ((etp.encR E.rdn).length + (1 + (encL E.ats).length)) := by
    unfold packB
    simp only [List.length_cons, List.length_append]
    omega
   omega
  refine ⟨Nat.le_trans h2.1 (by omega), fun a ha => ?_, Nat.le_trans h2.2.1 (by omega), fun a ha => ⟨?_, Nat.le_trans (h2.2.2 a ha) (by omega), fun v hv => ?_⟩⟩
  ·have h5 : (txt a.t ++ txt a.v).length ≤ (etp.encR E.rdn).length := by
    unfold etp.encR
    exact flat_le (f := fun a : Av => txt a.t ++ txt a.v) ha
   rw [List.length_append, txt_len, txt_len] at h5
   omega
  ·have h5 : (encA a).length ≤ (encL E.ats).length := by
    unfold encL
    exact flat_le ha
   unfold encA at h5
   rw [List.length_append, txt_len] at h5
   omega
  ·have h5 : (encA a).length ≤ (encL E.ats).length := by
    unfold encL
    exact flat_le ha
   have h6 : (txt v).length ≤ (encV a.vs).length := by
    unfold encV
    exact flat_le hv
   unfold encA at h5
   rw [List.length_append, List.length_cons] at h5
   rw [txt_len] at h6
   omega
set_option maxRecDepth 20000 in
set_option maxHeartbeats 8000000 in
theorem reads_law (s : ByteArray) (w : World) (hs : s.size ≤ 140737488351232) (hE : Hid (EnvE w)) :
  Calls Tryz.prog 8 #[.string s] w fun e w' => e = .returned (.bool true) ∧ Below w.heap.size w w' := by
 have HAW := Lib.hid (eawake_any w hE)
 by_cases h5 : 5000 < s.size
 ·have h5' : (5000 : Int) < (s.size : Int) := by omega
  clear h5
  go_enter Tryz.func8, Tryz.ntmps8
  go_wp2_with fail
  refine HAW.out.mono ?_
  rintro e w1 ⟨rfl, hB1⟩
  have HB1 := Lib.hid hB1
  clear hB1
  go_wp2_with fail
  go_ret
  exact ⟨rfl, HB1.out⟩
 ·have h5' : ¬ (5000 : Int) < (s.size : Int) := by omega
  clear h5
  go_enter Tryz.func8, Tryz.ntmps8
  go_wp2_with fail
  refine HAW.out.mono ?_
  rintro e w1 ⟨rfl, hB1⟩
  have HB1 := Lib.hid hB1
  have HU1 := Lib.hid (unpack_any s w1 hs (Lib.hid (envE_below hE.out hB1)))
  clear hB1
  go_wp2_with fail
  refine HU1.out.mono ?_
  rintro e w2 ⟨r, hr, hres⟩
  obtain ⟨r1, n1, c1, r2, n2, c2, he, hv2, hB2⟩ := resX_of hres
  subst he
  obtain ⟨w3, hw3⟩ : ∃ W, w2.alloc (.cells #[.slice r1 n1 c1, .slice r2 n2 c2] 25) = W := ⟨_, rfl⟩
  have hB3 : Below w2.heap.size w2 w3 := by rw [← hw3]; exact (Below.refl _ _).alloc (Nat.le_refl _) _
  obtain ⟨q, hqq⟩ : ∃ q, w2.heap.size = q := ⟨_, rfl⟩
  have HX3 : Hid (EntB w3 q (.slice r1 n1 c1) (.slice r2 n2 c2)) := by rw [← hw3, ← hqq]; exact entB_new _ _ _
  have HB3 := Lib.hid (HB1.out.trans ((hB2.trans (hB3.mono hB2.size)).mono HB1.out.size))
  have HV3 := Lib.hid (entV_below hv2 hB3)
  have HU2 := Lib.hid (runpack_any s w3 hs)
  have HUR := Lib.hid hr
  have HBDD := Lib.hid (unp_bd hr)
  generalize hX : valE r = X at HV3 HBDD hv2
  generalize hF : codeE r = F
  have HX := Lib.hid hX
  have HF := Lib.hid hF
  clear hB2 hB3 hv2 hres hr HU1 hX hF
  go_wp2_with fail
  refine HU2.out.mono ?_
  rintro e w4 ⟨r', hr', hres'⟩
  have hrr := unp_same hr' HUR.out
  obtain ⟨s1, m1, d1, s2, m2, d2, he, hv4, hB4⟩ := resX_of hres'
  rw [hrr, HX.out] at hv4
  rw [hrr, HF.out] at he
  subst he
  obtain ⟨w5, hw5⟩ : ∃ W, w4.alloc (.cells #[.slice s1 m1 d1, .slice s2 m2 d2] 25) = W := ⟨_, rfl⟩
  have hB5 : Below w4.heap.size w4 w5 := by rw [← hw5]; exact (Below.refl _ _).alloc (Nat.le_refl _) _
  obtain ⟨q2, hq2⟩ : ∃ q, w4.heap.size = q := ⟨_, rfl⟩
  have HY5 : Hid (EntB w5 q2 (.slice s1 m1 d1) (.slice s2 m2 d2)) := by rw [← hw5, ← hq2]; exact entB_new _ _ _
  have hB45 := hB4.trans (hB5.mono hB4.size)
  have HB5 := Lib.hid (HB3.out.trans (hB45.mono HB3.out.size))
  have HS := Lib.hid (same17_eq _ _ X w5 (Lib.hid (entV_below HV3.out hB45)) (Lib.hid (entV_below hv4 hB5)) HBDD)
  obtain ⟨x0, x1⟩ := entB_cells (entB_below HX3.out hB45)
  obtain ⟨y0, y1⟩ := entB_cells HY5.out
  clear hB4 hB5 hB45 hv4 hres' hr' hrr HU2 hw3 hqq
  go_wp2_with fail
  refine HS.out.mono ?_
  rintro e w6 ⟨rfl, hB6⟩
  have HBE := Lib.hid (HB5.out.trans (hB6.mono HB5.out.size))
  clear hB6 x0 x1 y0 y1 hw5 hq2
  go_wp2_with fail
  go_ret
  exact ⟨rfl, HBE.out⟩
end etw
end Go.Proofs.YtcolcogobdgejaaGreatDoor
