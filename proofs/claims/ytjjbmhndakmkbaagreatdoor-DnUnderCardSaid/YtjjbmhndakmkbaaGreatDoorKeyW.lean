/- The walk of dn.key: a relative name's key. -/
import Derived.Test.YtjjbmhndakmkbaaGreatDoorKeyP
import Derived.Test.YtjjbmhndakmkbaaGreatDoorTupW
import Derived.Test.YtjjbmhndakmkbaaGreatDoorDPrintW
import Derived.Test.YtjjbmhndakmkbaaGreatDoorShelf
import Derived.Sort.OwnSorted
namespace Go.Proofs.YtjjbmhndakmkbaaGreatDoor
open Go.RowKit
namespace dnw
open dnp
set_option linter.unusedVariables false
set_option linter.unusedSimpArgs false
theorem trmEnv {w : World} (hE : prw.Env w) (hT : Tabs w) : trm.Env w := ⟨hE, hT⟩
theorem scells_enc (l : List ByteArray) : prw.scells l = (l.map (·.data.toList)).map encStr := by
  unfold prw.scells
  rw [List.map_map]
  rfl
theorem sortT {w : World} {B : Nat} {ao : Option Addr} {m cap : Nat} {l : List ByteArray} (h : prw.OwnT w B (.slice ao m cap) l) (hl : l.length ≤ 1000000) (hB : B ≤ w.heap.size) :
    Calls Tryz.prog 35 #[.slice ao m cap] w fun e w' => e = .returned (.tuple #[]) ∧ prw.OwnT w' B (.slice ao m cap) ((sortL (l.map (·.data.toList))).map bytes) ∧ Below B w w' := by
  obtain ⟨ss, hss⟩ : ∃ ss, ss = l.map (·.data.toList) := ⟨_, rfl⟩
  have hsl : ss.length = l.length := by rw [hss]; simp
  have hm : m = l.length := by
    obtain ⟨ao', cap', hv, _, _⟩ := prw.ownT_cells h
    simp only [Value.slice.injEq] at hv
    exact hv.2.1
  subst hm
  have hrow : w.ownsRow B 9 1 (.slice ao l.length cap) ss.length (ss.map encStr) := by
    have h1 : w.ownsRow B 9 1 (.slice ao l.length cap) (prw.scells l).length (prw.scells l) := h
    rw [scells_enc, ← hss, List.length_map] at h1
    exact h1
  have hsort : ((sortL ss).map bytes).map (·.data.toList) = sortL ss := by
    rw [List.map_map]
    conv => rhs; rw [← List.map_id (sortL ss)]
    apply List.map_congr_left
    intro x _
    rfl
  have hsn : (sortL ss).length = ss.length := by unfold sortL; simp
  rw [← hss]
  rcases hrow.2 with ⟨hv, h0⟩ | ⟨g, cap', cur, hv, hBg, hg, h1, h2, h3, h4⟩
  · simp only [Value.slice.injEq] at hv
    obtain ⟨rfl, hl0, rfl⟩ := hv
    have hs0 : ss = [] := List.eq_nil_of_length_eq_zero h0
    rw [hl0]
    refine (Tryz.slices_Sort_string_none none 0 w).mono ?_
    rintro e w' ⟨rfl, h2⟩
    have h2 : w' = w := by first | exact h2 | exact h2.symm
    subst h2
    refine ⟨rfl, ?_, Below.refl _ _⟩
    rw [hs0]
    have hn : sortL [] = [] := by unfold sortL; simp
    rw [hn]
    exact World.ownsRow_nil w' B _ _
  · simp only [Value.slice.injEq] at hv
    obtain ⟨rfl, _, rfl⟩ := hv
    rw [Nat.mul_one] at h4
    have hH := holds_of_block hg h4
    have CS := Tryz.slices_Sort_string g 0 cap ss w hH (bld.lt_of_heap hg) (by omega)
    rw [hsl] at CS
    refine CS.mono ?_
    rintro e w' ⟨rfl, n, os, rfl⟩
    have ho := ownsRow_sorted (n := n) (os := os) (ts := sortL ss) hsn hBg hg h1 h2 h3
    refine ⟨rfl, ?_, (Below.refl B w).grown (grownBy_sorted _) hB (fun k hk => by cases hk; exact hBg)⟩
    unfold prw.OwnT
    rw [scells_enc, hsort, List.length_map, hsn]
    rw [hsl] at ho ⊢
    exact ho
/-- what Tuple's part is, of a pair -/
theorem part_any (x : Av) (R : ByteArray) (hR : R = ⟨(rv x.v.data.toList).toArray⟩) (ao : Option Addr) (cap : Nat) (w : World) (hE : Hid (trm.Env w)) (hS : Hid (tupw.Strs w ao [x.t, R])) :
    Calls Tryz.prog 34 #[.slice ao 2 cap] w fun e w' => (∃ er : Int, e = .returned (.tuple #[.string (partB x), .int .i64 er])) ∧ Below w.heap.size w w' := by
  refine (tupw.tuple_any ao cap [x.t, R] w hE hS).mono ?_
  rintro e w' ⟨rfl, hb⟩
  exact ⟨⟨(tup.out [x.t, R]).2, by unfold tupw.tupV partB; rw [hR]⟩, hb⟩
set_option maxRecDepth 20000 in
set_option maxHeartbeats 4000000 in
theorem key_any (ao : Option Addr) (cap : Nat) (l : List Av) (w : World) (hA : Hid (Avas w ao l)) (hE : Hid (prw.Env w)) (hT : Hid (Tabs w)) (hok : rdnOK l = true) :
    Calls Tryz.prog 21 #[.slice ao l.length cap] w fun e w' => e = .returned (.string (bytes (keyL l))) ∧ Below w.heap.size w w' := by
  have h4 := (rdnOK_facts hok).2.1
  have HX := Lib.hid (rdnOK_av hok)
  obtain ⟨m, hm⟩ : ∃ m, m = l.length := ⟨_, rfl⟩
  have HM := Lib.hid hm
  rw [← hm] at h4 ⊢
  clear hm hok
  go_enter Tryz.func21, Tryz.ntmps21
  go_wp2_with fail
  go_loopw [3, 5, 6, 7, 8, 9, 12] (fun pv _ _ _ _ _ iv wr => ∃ (i : Nat), i ≤ m ∧ iv = .int .i64 (i : Int) ∧ Hid (prw.OwnT wr w.heap.size pv ((l.take i).map partB)) ∧ Below w.heap.size w wr) (fun _ _ _ _ _ _ iv _ => m - (intOf iv).toNat)
  case atStart => exact ⟨0, Nat.zero_le _, rfl, World.ownsRow_nil _ _ _ _, Below.refl _ _⟩
  case round =>
    obtain ⟨i, hi, rfl, hO, hB⟩ := hrel
    have hsz := hB.size
    obtain ⟨aoR, mR, capR, rfl, hmR⟩ := ownT_form hO.out
    by_cases hlt : i < m
    · have hlt' : (i : Int) < (m : Int) := by omega
      have hil : i < l.length := by rw [← HM.out]; exact hlt
      obtain ⟨b, o, hao, c0, c1⟩ := (avas_below hA.out hB) i hil
      subst hao
      have HST := takeMap_step partB l i hil
      have hxx := HX.out l[i] (List.getElem_mem hil)
      generalize l[i] = x at c0 c1 HST hxx
      obtain ⟨R, hR⟩ : ∃ R : ByteArray, R = ⟨(rv x.v.data.toList).toArray⟩ := ⟨_, rfl⟩
      have hvs : x.v.size ≤ 1000000 := by have := valOK_le hxx.2; rw [kt.size_len] at this; omega
      have HRD : Hid (∀ W, Below w.heap.size w W → Calls Tryz.prog 33 #[.string x.v, .bool true] W fun e w' => e = .returned (.tuple #[.string R, .int .i64 0]) ∧ Below W.heap.size W w') := by
        intro W hb
        have := prw.ready_any x.v true W hvs (Lib.hid (prw.env_below hE.out hb))
        rw [rv_ok hxx.2] at this
        rw [hR]
        exact this
      have HST := Lib.hid HST
      have HRe := Lib.hid hR
      obtain ⟨w5, hw5⟩ : ∃ w5, w5 = wr.alloc (.cells #[.string x.t, .string x.v] 40) := ⟨_, rfl⟩
      have e0 : w5.cell? ⟨wr.heap.size, 0, none⟩ = some (.string x.t) := by rw [hw5, World.cell?_alloc_new]; rfl
      have HB5 : Hid (Below w.heap.size w w5) := by
        show Below _ _ _
        rw [hw5]
        exact hB.alloc hsz _
      have HO5 : Hid (prw.OwnT w5 w.heap.size (.slice aoR mR capR) ((l.take i).map partB)) := by
        show prw.OwnT _ _ _ _
        rw [hw5]
        exact ownT_below hO.out ((Below.refl _ _).alloc (Nat.le_refl _) _)
      have HE0 := Lib.hid e0
      have hRD := HRD.out w5 HB5.out
      rw [hw5] at hRD
      have HW5 := Lib.hid hw5
      have HRD2 := Lib.hid hRD
      clear hR hvs hxx hw5 e0 hRD
      go_wp2_with fail
      refine HRD2.out.mono ?_
      rintro e w6 ⟨rfl, hB6⟩
      rw [← HW5.out] at hB6
      have hlt5 := World.block_lt_of_cell? w5 _ HE0.out
      have e6 := (hB6.cell hlt5).trans HE0.out
      have HB6 := Lib.hid (HB5.out.trans (hB6.mono HB5.out.size))
      have HO6 := Lib.hid (ownT_below HO5.out hB6)
      have HP := Lib.hid (part_any x R HRe.out (some ⟨w6.heap.size, 0, none⟩) 2 (w6.alloc (.cells #[.string x.t, .string R] 9)) (Lib.hid (trmEnv (prw.env_below hE.out (HB6.out.alloc HB6.out.size _)) (tabs_below hT.out (HB6.out.alloc HB6.out.size _)))) (Lib.hid (by
        intro j hj
        refine ⟨_, 0, rfl, ?_⟩
        rw [World.cell?_alloc_new]
        match j, hj with
        | 0, _ => rfl
        | 1, _ => rfl)))
      clear hB6 HRD2
      go_wp2_with fail
      refine HP.out.mono ?_
      rintro e w7 ⟨⟨er, rfl⟩, hB7⟩
      have hB67 : Below w6.heap.size w6 w7 := ((Below.refl w6.heap.size w6).alloc (Nat.le_refl _) _).trans (hB7.mono (by simp))
      have HB7 := Lib.hid (HB6.out.trans (hB67.mono HB6.out.size))
      obtain ⟨ao7, m7, cap7, w8, hap, hO8, _, hB8⟩ := ownT_appG (partB x) (ownT_below HO6.out hB67) (by rw [List.length_map, List.length_take]; omega) HB7.out.size
      have HO8 : Hid (prw.OwnT w8 w.heap.size (.slice ao7 m7 cap7) ((l.take (i + 1)).map partB)) := by
        show prw.OwnT _ _ _ _
        rw [HST.out]
        exact hO8
      have HB8 := Lib.hid (HB7.out.trans hB8)
      clear hB7 hB67 hO8 hB8 HP e6
      go_wp2_with (at_builtin; refine Lib.wpList_append_run _ rfl _ _ _ _ rfl _ _ rfl rfl _ _ hap ?_)
      go_roundw
      case rel => exact ⟨i + 1, by omega, by go_num, HO8, HB8.out⟩
      case measure => simp [intOf] <;> omega
    · obtain rfl : i = m := by omega
      have hO1 := hO.out
      rw [HM.out, List.take_length] at hO1
      have hll : (l.map partB).length ≤ 1000000 := by rw [List.length_map, ← HM.out]; omega
      have CS := Lib.hid (sortT hO1 hll hsz)
      have e1 : ((l.map partB).map (·.data.toList)) = partsL l := by rw [List.map_map]; rfl
      have hkl := keyL_len l
      clear hO1 hll
      go_wp2_with fail
      refine CS.out.mono ?_
      rintro e w2 ⟨rfl, hO2, hB2⟩
      rw [e1] at hO2
      have e2 : ((sortL (partsL l)).map bytes).map (·.data.toList) = sortL (partsL l) := by
        rw [List.map_map]
        conv => rhs; rw [← List.map_id (sortL (partsL l))]
        apply List.map_congr_left
        intro x _
        rfl
      have CJ := joinT hO2 ⟨#[]⟩ (by rw [List.length_map]; unfold sortL partsL; simp; rw [← HM.out]; omega) (by rw [e2]; show (Lib.join _ []).length ≤ _; rw [join_flat]; show (keyL l).length ≤ _; rw [← HM.out] at hkl; omega)
      rw [e2] at CJ
      have CJ' : Calls Tryz.prog 30 #[.slice aoR mR capR, .string ⟨#[]⟩] w2 fun e w' => e = .returned (.string (bytes (keyL l))) ∧ Below w2.heap.size w2 w' := by
        refine CJ.mono fun e w' h => ⟨?_, h.2⟩
        rw [h.1]
        show _ = Ending.returned (.string ⟨(keyL l).toArray⟩)
        have : Lib.join (sortL (partsL l)) (⟨#[]⟩ : ByteArray).data.toList = keyL l := join_flat _
        rw [this]
      have HJ := Lib.hid CJ'
      have HB2 := Lib.hid (hB.trans hB2)
      clear CJ CJ' e1 e2 hkl CS hB2 hO2
      go_wp2_with fail
      refine HJ.out.mono ?_
      rintro e w3 ⟨rfl, hB3⟩
      go_wp2_with fail
      go_ret
      exact ⟨rfl, HB2.out.trans (hB3.mono HB2.out.size)⟩
end dnw
end Go.Proofs.YtjjbmhndakmkbaaGreatDoor
