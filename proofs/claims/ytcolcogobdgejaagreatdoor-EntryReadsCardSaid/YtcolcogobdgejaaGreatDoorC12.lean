/- One text out of several: RRightE, Same, OpenS, ArgsW, StrsOf, EntO, TyF. -/
import Derived.Test.YtcolcogobdgejaaGreatDoorC1
import Derived.Test.YtcolcogobdgejaaGreatDoorC8
import Derived.Test.YtcolcogobdgejaaGreatDoorC6
import Derived.Test.YtcolcogobdgejaaGreatDoorC7
import Derived.Test.YtcolcogobdgejaaGreatDoorC11
import Derived.Test.YtcolcogobdgejaaGreatDoorC5
import Derived.Deep.QuietTactic
import Derived.BigQuiet
import Derived.Deep.Slices
import Derived.Deep.Fields
import Derived.ChangeSame
import Derived.SliceStrings
import Derived.Deep.MidRow
import Derived.Lib.SmallJoins
import Derived.Lib.LaidU8
import Derived.Deep.Strs
/-! RRightE -/
namespace Go.Proofs.YtcolcogobdgejaaGreatDoor
open Go.RowKit
namespace etw
open atp atw etp
open dnw (Av Avas)
open tupw (Strs strs_below)
set_option linter.unusedVariables false
set_option linter.unusedSimpArgs false
theorem rless_any (a b : ByteArray) (w : World) (ha : a.size ≤ 1100000) :
  Calls Tryz.prog 68 #[.string a, .string b] w fun e w' => e = .returned (.int .i64 (Lib.compareBytes a.data.toList b.data.toList)) ∧ Below w.heap.size w w' :=
 (ordw.less_any a b w ha).mono fun e w' ⟨h1, n, h2⟩ => ⟨h1, by rw [h2]; exact ⟨rfl, rfl, rfl, Nat.le_refl _, fun _ _ => rfl⟩⟩
theorem ltB_cmp (a b : ByteArray) : (ltB a b = true ∧ Lib.compareBytes a.data.toList b.data.toList = -1) ∨ (ltB a b = false ∧ 0 ≤ Lib.compareBytes a.data.toList b.data.toList) := by
 unfold ltB
 rcases ord.cmp_three a.data.toList b.data.toList with h | h | h
 ·exact Or.inl ⟨decide_eq_true h, h⟩
 ·exact Or.inr ⟨decide_eq_false (by omega), by omega⟩
 ·exact Or.inr ⟨decide_eq_false (by omega), by omega⟩
theorem rnormal_okV (nm : ByteArray) (syn : Int) (sg : Bool) (s : ByteArray) (hs : s.size ≤ 140737488351232) : ∃ (x : ByteArray) (er : Int), (okV syn s = decide (er = 0)) ∧
  ∀ w, Calls Tryz.prog 69 #[.agg #[.string nm, .int .i64 syn, .bool sg], .string s] w fun e w' => e = .returned (.tuple #[.string x, .int .i64 er]) ∧ Below w.heap.size w w' :=
 ⟨_, (normL syn s.data.toList).2, rfl, fun w => rnormal_any nm syn sg s w hs⟩
set_option maxRecDepth 20000 in
set_option maxHeartbeats 4000000 in
theorem rright_any (v : Value) (E : En) (w : World) (hv : Hid (EntV w v E)) (hb : Hid (Bd E)) :
  Calls Tryz.prog 17 #[v] w fun e w' => e = .returned (.bool (rightE E)) ∧ Below w.heap.size w w' := by
 obtain ⟨rdn, L⟩ := E
 obtain ⟨ro, rc, ao, ac, rfl, hrc, hac, hR, hA⟩ := hv.out
 simp only at hrc hac hR hA ⊢
 have HA := Lib.hid hA
 have hL := hb.out.al
 have HBD : Hid (∀ a ∈ L, a.t.size ≤ 100000 ∧ a.vs.length ≤ 100000 ∧ ∀ v ∈ a.vs, v.size ≤ 100000) := hb.out.as_
 simp only at hL
 obtain ⟨W1, hW1⟩ : ∃ W, w.alloc (.cells #[.slice ro rdn.length rc, .slice ao L.length ac] 25) = W := ⟨_, rfl⟩
 have hB1 : Below w.heap.size w W1 := by rw [← hW1]; exact (Below.refl _ _).alloc (Nat.le_refl _) _
 have HT1 : Hid (EntB W1 w.heap.size (.slice ro rdn.length rc) (.slice ao L.length ac)) := by rw [← hW1]; exact entB_new _ _ _
 obtain ⟨k0, k1⟩ := entB_cells HT1.out
 have HB1 := Lib.hid hB1
 have hs1 := hB1.size
 have HK := Lib.hid (dnw.rrdn_any ro rc rdn W1 (Lib.hid (dnw.avas_below hR hB1)) (Lib.hid (bd_smalls hb.out)))
 have HRE : Hid (rightE ⟨rdn, L⟩ = (dnw.rdnOK rdn && atsF none L)) := rfl
 rw [HRE.out]
 clear HRE hB1 hR hA
 obtain ⟨Nr, hNr⟩ : ∃ N, rdn.length = N := ⟨_, rfl⟩
 obtain ⟨N, hN⟩ : ∃ N, L.length = N := ⟨_, rfl⟩
 have HN := Lib.hid hN
 rw [hN] at hac hL HT1 k1 hW1
 rw [hNr] at HK HT1 k0 hW1
 rw [hN, hNr]
 clear hN hNr hrc
 cases hok : dnw.rdnOK rdn with
 | false =>
  rw [hok] at HK
  clear hok
  go_enter Tryz.func17, Tryz.ntmps17
  go_wp2_with fail
  refine HK.out.mono ?_
  rintro e w2 ⟨rfl, hB2⟩
  have HBF := Lib.hid (HB1.out.trans (hB2.mono hs1))
  clear hB2 k0 k1 hW1
  go_wp2_with fail
  go_ret
  exact ⟨rfl, HBF.out⟩
 | true =>
  rw [hok] at HK
  clear hok
  go_enter Tryz.func17, Tryz.ntmps17
  go_wp2_with fail
  refine HK.out.mono ?_
  rintro e w0 ⟨rfl, hB0⟩
  have HB0 := Lib.hid (HB1.out.trans (hB0.mono hs1))
  have HT0 := Lib.hid (entB_below HT1.out hB0)
  obtain ⟨m0, m1⟩ := entB_cells HT0.out
  have hs0 := HB0.out.size
  clear hB0 k0 k1 hW1 HK HT1 HB1 hs1
  have HB1 := HB0
  have hs1 := hs0
  go_wp2_with fail
  go_loopw [3] (fun iv wr => ∃ i : Nat, i ≤ N ∧ iv = .int .i64 (i : Int) ∧ Hid (Below w0.heap.size w0 wr) ∧ Hid (atsF none L = atsF (prevT L i) (L.drop i))) (fun iv _ => N - (intOf iv).toNat)
  case atStart => exact ⟨0, Nat.zero_le _, rfl, Below.refl _ _, rfl⟩
  case round =>
   obtain ⟨i, hi, rfl, hB, hJ⟩ := hrel
   have hsz := hB.out.size
   have HBw := Lib.hid (HB1.out.trans (hB.out.mono hs1))
   have ze := (entB_cells (entB_below HT0.out hB.out)).2
   have hlz0 := World.block_lt_of_cell? wr _ ze
   by_cases hlt : i < N
   ·have hltI : (i : Int) < (N : Int) := by omega
    have hil : i < L.length := by rw [HN.out]; exact hlt
    have HAr := Lib.hid (ats_below HA.out HBw.out)
    obtain ⟨b, o, ax, cx, hao, q0, q1, hcx, hST⟩ := HAr.out i hil
    subst hao
    have HST := Lib.hid (atsF_step hil)
    have hbd := HBD.out L[i] (List.getElem_mem _)
    have HPV : Hid (0 < i → ∃ p, prevT L i = some p ∧ p.size ≤ 1100000 ∧ wr.cell? ⟨b, o + (i - 1) * 2, none⟩ = some (.string p)) := by
     intro hpos
     obtain ⟨b', o', ax', cx', e', q', _⟩ := HAr.out (i - 1) (by omega)
     simp only [Option.some.injEq, Addr.mk.injEq, and_true] at e'
     obtain ⟨rfl, rfl⟩ := e'
     refine ⟨_, ?_, ?_, q'⟩
     ·unfold prevT
      rw [if_neg (by omega), List.getElem?_eq_getElem (by omega)]
      rfl
     ·have := (HBD.out (L[i - 1]'(by omega)) (List.getElem_mem _)).1
      omega
    obtain ⟨a, ha⟩ : ∃ a, L[i] = a := ⟨_, rfl⟩
    rw [ha] at HST hbd q0 q1 hcx hST
    clear ha HAr
    have HSV := Lib.hid hST
    have hts := hbd.1
    have hvl := hbd.2.1
    have HFT : Hid (Fit a.vs) := fun v hv => Nat.le_trans (hbd.2.2 v hv) (by omega)
    obtain ⟨M, hM⟩ : ∃ M, a.vs.length = M := ⟨_, rfl⟩
    have HM := Lib.hid hM
    have hlq := World.block_lt_of_cell? wr _ q0
    obtain ⟨Wa, hWa⟩ : ∃ W, wr.alloc (.cells #[.string a.t, .slice ax M cx] 57) = W := ⟨_, rfl⟩
    have hBA : Below wr.heap.size wr Wa := by rw [← hWa]; exact (Below.refl _ _).alloc (Nat.le_refl _) _
    have HTA : Hid (AttrB Wa wr.heap.size a.t (.slice ax M cx)) := by rw [← hWa]; exact attrB_new _ _ _
    have HBA := Lib.hid hBA
    have xa := (attrB_cells HTA.out).1
    have HFD0 : Hid (∀ W, Calls Tryz.prog 16 #[.string a.t] W fun e w' => e = .returned (resT (findS (sml.lowL a.t.data.toList))) ∧ Below W.heap.size W w') := fun W => atw.rfind_any a.t W (by omega)
    have HCA := Lib.hid (fun p : ByteArray => ltB_cmp p a.t)
    rw [hM] at q1 hvl hcx
    clear hM hbd hST hBA hts
    cases hfd : findS (sml.lowL a.t.data.toList) with
    | none =>
     rw [hfd] at HFD0
     obtain ⟨nm, syn, sg, HFD⟩ : ∃ nm syn sg, Hid (∀ W, Calls Tryz.prog 16 #[.string a.t] W fun e w' => e = .returned (.tuple #[.agg #[.string nm, .int .i64 syn, .bool sg], .bool false]) ∧ Below W.heap.size W w') := ⟨_, _, _, HFD0⟩
     have HJ : Hid (atsF none L = false) := by
      show _ = _
      rw [hJ.out, HST.out, atOK_none (find_none hfd)]; rfl
     clear hfd HFD0
     go_wp2_with fail
     refine (HFD.out _).mono ?_
     rintro e w2 ⟨rfl, hB2⟩
     obtain ⟨w3, hw3⟩ : ∃ W, w2.alloc (.cells #[.string nm, .int .i64 syn, .bool sg] 29) = W := ⟨_, rfl⟩
     have hB3 : Below w2.heap.size w2 w3 := by rw [← hw3]; exact (Below.refl _ _).alloc (Nat.le_refl _) _
     have y0 : w3.cell? ⟨w2.heap.size, 0, none⟩ = some (.string nm) := by rw [← hw3, World.cell?_alloc_new]; rfl
     have y1 : w3.cell? ⟨w2.heap.size, 1, none⟩ = some (.int .i64 syn) := by rw [← hw3, World.cell?_alloc_new]; rfl
     have y2 : w3.cell? ⟨w2.heap.size, 2, none⟩ = some (.bool sg) := by rw [← hw3, World.cell?_alloc_new]; rfl
     have hBa : Below wr.heap.size wr w3 := HBA.out.trans ((hB2.trans (hB3.mono hB2.size)).mono HBA.out.size)
     have hA23 := hB2.trans (hB3.mono hB2.size)
     have HTA3 := Lib.hid (attrB_below HTA.out hA23)
     obtain ⟨x0, x1⟩ := attrB_cells HTA3.out
     have z1 := (hBa.cell (p := ⟨w.heap.size, 1, none⟩) hlz0).trans ze
     have HBr3 := Lib.hid (hB.out.trans (hBa.mono hsz))
     have HBw3 := Lib.hid (HB1.out.trans (HBr3.out.mono hs1))
     have hla := World.block_lt_of_cell? w3 _ x0
     have hlt2 := World.block_lt_of_cell? w3 _ y0
     have hlz := World.block_lt_of_cell? w3 _ z1
     have HBA3 := Lib.hid hBa
     clear hB2 hB3 hBa hA23 ze
     go_wp2_with fail
     refine wp_region_held_drew (S := fun W => W.cell? ⟨wr.heap.size, 0, none⟩ = some (.string a.t) ∧ W.cell? ⟨wr.heap.size, 1, none⟩ = some (.slice ax M cx) ∧ W.cell? ⟨w2.heap.size, 0, none⟩ = some (.string nm) ∧ W.cell? ⟨w2.heap.size, 1, none⟩ = some (.int .i64 syn) ∧ W.cell? ⟨w2.heap.size, 2, none⟩ = some (.bool sg) ∧ W.cell? ⟨w.heap.size, 1, none⟩ = some (.slice (some ⟨b, o, none⟩) N ac)) (by kernel_rfl) (⟨x0, x1, y0, y1, y2, z1⟩) (fun hHeld => ?_)
     refine tk 0 ⟨some 32,_,_,_,_,_⟩ rfl ?_
     refine tk 1 ⟨some 33,_,_,_,_,_⟩ rfl ?_
     refine tk 2 ⟨some 34,_,_,_,_,_⟩ rfl ?_
     refine tu 3 ⟨some 35,_,_,_,_,_⟩ rfl ?_
     refine tu 4 ⟨some 36,_,_,_,_,_⟩ rfl ?_
     refine tu 5 ⟨some 37,_,_,_,_,_⟩ rfl ?_
     refine tu 6 ⟨some 38,_,_,_,_,_⟩ rfl ?_
     refine tu 7 ⟨some 39,_,_,_,_,_⟩ rfl ?_
     refine tk 8 ⟨some 40,_,_,_,_,_⟩ rfl ?_
     refine tk 9 ⟨some 41,_,_,_,_,_⟩ rfl ?_
     refine tu 10 ⟨some 42,_,_,_,_,_⟩ rfl ?_
     refine tu 11 ⟨some 43,_,_,_,_,_⟩ rfl ?_
     refine tu 12 ⟨some 44,_,_,_,_,_⟩ rfl ?_
     refine tu 13 ⟨some 45,_,_,_,_,_⟩ rfl ?_
     refine tk 14 ⟨some 46,_,_,_,_,_⟩ rfl ?_
     refine tk 15 ⟨some 47,_,_,_,_,_⟩ rfl ?_
     refine tu 16 ⟨some 48,_,_,_,_,_⟩ rfl ?_
     refine tu 17 ⟨some 49,_,_,_,_,_⟩ rfl ?_
     refine tu 18 ⟨some 50,_,_,_,_,_⟩ rfl ?_
     refine tu 19 ⟨some 51,_,_,_,_,_⟩ rfl ?_
     refine tu 20 ⟨some 52,_,_,_,_,_⟩ rfl ?_
     refine tu 21 ⟨some 53,_,_,_,_,_⟩ rfl ?_
     refine tk 22 ⟨some 54,_,_,_,_,_⟩ rfl ?_
     refine wpAnyH_done (by kernel_rfl) ?_ _
     clear hHeld
     go_wp2_with fail
     go_ret
     exact ⟨kt.ret_bool HJ.out.symm, HBw3.out.drew⟩
    | some ty =>
     rw [hfd] at HFD0
     have HFN := Lib.hid (find_name hfd)
     have HFD1 : Hid (∀ W, Calls Tryz.prog 16 #[.string a.t] W fun e w' => e = .returned (.tuple #[.agg #[.string (bs ty.name), .int .i64 ty.syn, .bool ty.single], .bool true]) ∧ Below W.heap.size W w') := HFD0
     clear hfd HFD0
     by_cases hne : bs ty.name = a.t
     ·have HTY : Hid (tyOf a.t = some ty) := by rw [HFN.out, if_pos hne]; exact rfl
      have HAO0 := Lib.hid (atOK_some HTY.out)
      have HAO : Hid (atOK a = (decide (1 ≤ M) && decide (M ≤ mostT ty.single) && fresh ty.syn [] a.vs)) := by rw [← HM.out]; exact HAO0.out
      have qn : ((bs ty.name).toList != a.t.toList) = false := by rw [hne]; simp
      have qe : ((bs ty.name).toList == a.t.toList) = true := by rw [hne]; simp
      clear HFN HTY HAO0 hne
      generalize bs ty.name = nm at HFD1 qn qe
      generalize ty.syn = syn at HFD1 HAO
      generalize ty.single = sg at HFD1 HAO
      have HFD := HFD1
      clear HFD1
      by_cases hM1 : 1 ≤ M
      ·have dm : decide ((M : Int) < 1) = false := decide_eq_false (by omega)
       have dm' : decide (M < 1) = false := decide_eq_false (by omega)
       have HMO := Lib.hid (fun w => most_any nm syn sg w)
       have hm20 : mostT sg ≤ 20 := by unfold mostT; split <;> omega
       generalize mostT sg = T at HMO HAO hm20
       by_cases hMT : M ≤ T
       ·have dt : decide (T < M) = false := decide_eq_false (by omega)
        have HAF : Hid (atOK a = fresh syn [] a.vs) := by
         show _ = _
         rw [HAO.out, decide_eq_true hM1, decide_eq_true hMT]; rfl
        clear HAO
        go_wp2_with fail
        refine (HFD.out _).mono ?_
        rintro e w2 ⟨rfl, hB2⟩
        obtain ⟨w3, hw3⟩ : ∃ W, w2.alloc (.cells #[.string nm, .int .i64 syn, .bool sg] 29) = W := ⟨_, rfl⟩
        have hB3 : Below w2.heap.size w2 w3 := by rw [← hw3]; exact (Below.refl _ _).alloc (Nat.le_refl _) _
        have y0 : w3.cell? ⟨w2.heap.size, 0, none⟩ = some (.string nm) := by rw [← hw3, World.cell?_alloc_new]; rfl
        have y1 : w3.cell? ⟨w2.heap.size, 1, none⟩ = some (.int .i64 syn) := by rw [← hw3, World.cell?_alloc_new]; rfl
        have y2 : w3.cell? ⟨w2.heap.size, 2, none⟩ = some (.bool sg) := by rw [← hw3, World.cell?_alloc_new]; rfl
        have hBa : Below wr.heap.size wr w3 := HBA.out.trans ((hB2.trans (hB3.mono hB2.size)).mono HBA.out.size)
        have hA23 := hB2.trans (hB3.mono hB2.size)
        have HTA3 := Lib.hid (attrB_below HTA.out hA23)
        obtain ⟨x0, x1⟩ := attrB_cells HTA3.out
        have z1 := (hBa.cell (p := ⟨w.heap.size, 1, none⟩) hlz0).trans ze
        have HBr3 := Lib.hid (hB.out.trans (hBa.mono hsz))
        have HBw3 := Lib.hid (HB1.out.trans (HBr3.out.mono hs1))
        have hla := World.block_lt_of_cell? w3 _ x0
        have hlt2 := World.block_lt_of_cell? w3 _ y0
        have hlz := World.block_lt_of_cell? w3 _ z1
        have HBA3 := Lib.hid hBa
        clear hB2 hB3 hBa hA23 ze
        go_wp2_with fail
        refine wp_region_held_drew (S := fun W => W.cell? ⟨wr.heap.size, 0, none⟩ = some (.string a.t) ∧ W.cell? ⟨wr.heap.size, 1, none⟩ = some (.slice ax M cx) ∧ W.cell? ⟨w2.heap.size, 0, none⟩ = some (.string nm) ∧ W.cell? ⟨w2.heap.size, 1, none⟩ = some (.int .i64 syn) ∧ W.cell? ⟨w2.heap.size, 2, none⟩ = some (.bool sg) ∧ W.cell? ⟨w.heap.size, 1, none⟩ = some (.slice (some ⟨b, o, none⟩) N ac)) (by kernel_rfl) (⟨x0, x1, y0, y1, y2, z1⟩) (fun hHeld => ?_)
        refine tk 0 ⟨some 32,_,_,_,_,_⟩ rfl ?_
        refine tk 1 ⟨some 33,_,_,_,_,_⟩ rfl ?_
        refine tk 2 ⟨some 34,_,_,_,_,_⟩ rfl ?_
        refine tk 3 ⟨some 35,_,_,_,_,_⟩ rfl ?_
        refine tk 4 ⟨some 36,_,_,_,_,_⟩ rfl ?_
        refine tk 5 ⟨some 37,_,_,_,_,_⟩ rfl ?_
        refine tk 6 ⟨some 38,_,_,_,_,_⟩ rfl ?_
        refine tk 7 ⟨some 39,_,_,_,_,_⟩ rfl ?_
        refine tk 8 ⟨some 40,_,_,_,_,_⟩ rfl ?_
        refine tk 9 ⟨some 41,_,_,_,_,_⟩ rfl ?_
        refine tk 10 ⟨some 42,_,_,_,_,_⟩ rfl ?_
        refine tk 11 ⟨some 43,_,_,_,_,_⟩ rfl ?_
        refine tk 12 ⟨some 44,_,_,_,_,_⟩ rfl ?_
        refine tk 13 ⟨some 45,_,_,_,_,_⟩ rfl ?_
        refine tk 14 ⟨some 46,_,_,_,_,_⟩ rfl ?_
        refine tk 15 ⟨some 47,_,_,_,_,_⟩ rfl ?_
        refine tk 16 ⟨some 48,_,_,_,_,_⟩ rfl ?_
        refine tk 17 ⟨some 49,_,_,_,_,_⟩ rfl ?_
        refine tk 18 ⟨some 50,_,_,_,_,_⟩ rfl ?_
        refine tk 19 ⟨some 51,_,_,_,_,_⟩ rfl ?_
        refine tc 20 ⟨some 52,_,_,_,_,_⟩ rfl (fun K hK => ?_)
        go_simp
        go_at_call 67; refine (HMO.out _).mono ?_; rintro e w4 ⟨rfl, hB4⟩
        refine hK.out _ _ (⟨(hB4.cell (p := ⟨wr.heap.size, 0, none⟩) hla).trans (x0), (hB4.cell (p := ⟨wr.heap.size, 1, none⟩) hla).trans (x1), (hB4.cell (p := ⟨w2.heap.size, 0, none⟩) hlt2).trans (y0), (hB4.cell (p := ⟨w2.heap.size, 1, none⟩) hlt2).trans (y1), (hB4.cell (p := ⟨w2.heap.size, 2, none⟩) hlt2).trans (y2), (hB4.cell (p := ⟨w.heap.size, 1, none⟩) hlz).trans (z1)⟩) (fun hHeld => ?_)
        clear hK
        try simp only [Act.put, List.setIfInBounds_toArray, List.set_cons_zero, List.set_cons_succ]
        refine tk 21 ⟨some 53,_,_,_,_,_⟩ rfl ?_
        refine tk 22 ⟨some 54,_,_,_,_,_⟩ rfl ?_
        refine wpAnyH_done (by kernel_rfl) ?_ _
        have hB34 : Below w3.heap.size w3 w4 := ((Below.refl w3.heap.size w3).drew.trans hB4)
        have x0' := (hB34.cell (p := ⟨wr.heap.size, 0, none⟩) hla).trans x0
        have x1' := (hB34.cell (p := ⟨wr.heap.size, 1, none⟩) hla).trans x1
        have y0' := (hB34.cell (p := ⟨w2.heap.size, 0, none⟩) hlt2).trans y0
        have y1' := (hB34.cell (p := ⟨w2.heap.size, 1, none⟩) hlt2).trans y1
        have y2' := (hB34.cell (p := ⟨w2.heap.size, 2, none⟩) hlt2).trans y2
        have z1' := (hB34.cell (p := ⟨w.heap.size, 1, none⟩) hlz).trans z1
        have HBr4 := Lib.hid (HBr3.out.trans (hB34.mono HBr3.out.size))
        have HBw4 := Lib.hid (HBw3.out.trans (hB34.mono HBw3.out.size))
        have HBA4 := Lib.hid (HBA3.out.trans (hB34.mono HBA3.out.size))
        have HTA4 := Lib.hid (attrB_below HTA3.out hB34)
        clear hHeld x0 x1 y0 y1 y2 z1 hla hlt2 hlz hw3 hWa HBr3 HBw3 HBA3 HTA3 hB34 hB4 HTA HBA xa
        have x0 := x0'
        have x1 := x1'
        have y0 := y0'
        have y1 := y1'
        have y2 := y2'
        have z1 := z1'
        clear x0' x1' y0' y1' y2' z1'
        have hla := World.block_lt_of_cell? w4 _ x0
        have hlt2 := World.block_lt_of_cell? w4 _ y0
        have hlz := World.block_lt_of_cell? w4 _ z1
        by_cases hi0 : i = 0
        ·have di : decide ((i : Int) > 0) = false := decide_eq_false (by omega)
         have di' : decide (0 < i) = false := decide_eq_false (by omega)
         have HPO : Hid (prevOK L i a.t = true) := by unfold prevOK prevT; rw [if_pos hi0]; exact rfl
         have hi00 : ¬ 0 < i := by omega
         clear hi0
         go_wp2_with fail
         refine wp_region_held_drew (S := fun W => W.cell? ⟨wr.heap.size, 0, none⟩ = some (.string a.t) ∧ W.cell? ⟨wr.heap.size, 1, none⟩ = some (.slice ax M cx) ∧ W.cell? ⟨w2.heap.size, 0, none⟩ = some (.string nm) ∧ W.cell? ⟨w2.heap.size, 1, none⟩ = some (.int .i64 syn) ∧ W.cell? ⟨w2.heap.size, 2, none⟩ = some (.bool sg) ∧ W.cell? ⟨w.heap.size, 1, none⟩ = some (.slice (some ⟨b, o, none⟩) N ac)) (by kernel_rfl) (⟨x0, x1, y0, y1, y2, z1⟩) (fun hHeld => ?_)
         refine tk 0 ⟨some 55,_,_,_,_,_⟩ rfl ?_
         refine tk 1 ⟨some 56,_,_,_,_,_⟩ rfl ?_
         refine tk 2 ⟨some 57,_,_,_,_,_⟩ rfl ?_
         refine tu 3 ⟨some 58,_,_,_,_,_⟩ rfl ?_
         refine tu 4 ⟨some 59,_,_,_,_,_⟩ rfl ?_
         refine tu 5 ⟨some 60,_,_,_,_,_⟩ rfl ?_
         refine tu 6 ⟨some 61,_,_,_,_,_⟩ rfl ?_
         refine tu 7 ⟨some 62,_,_,_,_,_⟩ rfl ?_
         refine tu 8 ⟨some 63,_,_,_,_,_⟩ rfl ?_
         refine tu 9 ⟨some 64,_,_,_,_,_⟩ rfl ?_
         refine tu 10 ⟨some 65,_,_,_,_,_⟩ rfl ?_
         refine tu 11 ⟨some 66,_,_,_,_,_⟩ rfl ?_
         refine tu 12 ⟨some 67,_,_,_,_,_⟩ rfl ?_
         refine tu 13 ⟨some 68,_,_,_,_,_⟩ rfl ?_
         refine tk 14 ⟨some 69,_,_,_,_,_⟩ rfl ?_
         refine wpAnyH_done (by kernel_rfl) ?_ _
         clear hHeld
         obtain ⟨w5, hw5⟩ : ∃ W, w4.drew = W := ⟨_, rfl⟩
         have hB45 : Below w4.heap.size w4 w5 := by rw [← hw5]; exact (Below.refl _ _).drew
         rw [hw5]
         clear hw5
         have x05 := (hB45.cell (p := ⟨wr.heap.size, 0, none⟩) hla).trans x0
         have x15 := (hB45.cell (p := ⟨wr.heap.size, 1, none⟩) hla).trans x1
         have y05 := (hB45.cell (p := ⟨w2.heap.size, 0, none⟩) hlt2).trans y0
         have y15 := (hB45.cell (p := ⟨w2.heap.size, 1, none⟩) hlt2).trans y1
         have y25 := (hB45.cell (p := ⟨w2.heap.size, 2, none⟩) hlt2).trans y2
         clear x0
         have x0 := x05
         clear x05
         clear x1
         have x1 := x15
         clear x15
         clear y0
         have y0 := y05
         clear y05
         clear y1
         have y1 := y15
         clear y15
         clear y2
         have y2 := y25
         clear y25
         have hla5 := World.block_lt_of_cell? w5 _ x0
         have hlt25 := World.block_lt_of_cell? w5 _ y0
         clear hla hlt2
         have hla := hla5
         have hlt2 := hlt25
         have HBrI := Lib.hid (HBr4.out.trans (hB45.mono HBr4.out.size))
         have HBwI := Lib.hid (HBw4.out.trans (hB45.mono HBw4.out.size))
         have HBAI := Lib.hid (HBA4.out.trans (hB45.mono HBA4.out.size))
         clear hB45
         go_wp2_with fail
         generalize wr.heap.size = AB at x0 x1 hla ⊢
         go_loopw [7] (fun kv wr => ∃ k : Nat, k ≤ M ∧ kv = .int .i64 (k : Int) ∧ Hid (Below w5.heap.size w5 wr) ∧ Hid (fresh syn [] a.vs = fresh syn (a.vs.take k) (a.vs.drop k))) (fun kv _ => M - (intOf kv).toNat)
         case atStart => exact ⟨0, Nat.zero_le _, rfl, Below.refl _ _, rfl⟩
         case round =>
          obtain ⟨k, hk, rfl, hBq, hF⟩ := hrel
          have hszq := hBq.out.size
          have HBwr := Lib.hid (HBwI.out.trans (hBq.out.mono HBwI.out.size))
          have HBrq := Lib.hid (HBrI.out.trans (hBq.out.mono HBrI.out.size))
          have HBAq := Lib.hid (HBAI.out.trans (hBq.out.mono HBAI.out.size))
          have u0 := (hBq.out.cell (p := ⟨AB, 0, none⟩) hla).trans x0
          have u1 := (hBq.out.cell (p := ⟨AB, 1, none⟩) hla).trans x1
          have v0 := (hBq.out.cell (p := ⟨w2.heap.size, 0, none⟩) hlt2).trans y0
          have v1 := (hBq.out.cell (p := ⟨w2.heap.size, 1, none⟩) hlt2).trans y1
          have v2 := (hBq.out.cell (p := ⟨w2.heap.size, 2, none⟩) hlt2).trans y2
          have hlu := World.block_lt_of_cell? wr _ u0
          have hlv := World.block_lt_of_cell? wr _ v0
          by_cases hkM : k < M
          ·have hkI : (k : Int) < (M : Int) := by omega
           have hkl : k < a.vs.length := by rw [HM.out]; exact hkM
           have hkc : k ≤ cx := by omega
           have HSq := Lib.hid (strs_below HSV.out HBAq.out)
           obtain ⟨bv, ov, hax, c0⟩ := HSq.out k hkl
           subst hax
           have hlc := World.block_lt_of_cell? wr _ c0
           have HFR : Hid (fresh syn (a.vs.take k) (a.vs.drop k) = (okV syn a.vs[k] && decide (likeI syn (a.vs.take k) a.vs[k] < 0) && fresh syn (a.vs.take (k + 1)) (a.vs.drop (k + 1)))) := by
            show _ = _
            rw [List.drop_eq_getElem_cons hkl, List.take_succ_eq_append_getElem hkl]
            rfl
           have HSK : Hid (Strs wr (some ⟨bv, ov, none⟩) (a.vs.take k)) := by
            intro j hj
            rw [List.length_take] at hj
            obtain ⟨b', o', e, hc⟩ := HSq.out j (by omega)
            rw [List.getElem_take]
            exact ⟨b', o', e, hc⟩
           have HFK : Hid (Fit (a.vs.take k)) := fun v hv => HFT.out v (List.mem_of_mem_take hv)
           have htk : (a.vs.take k).length = k := by rw [List.length_take]; omega
           have hxs : a.vs[k].size ≤ 140737488351232 := HFT.out _ (List.getElem_mem _)
           obtain ⟨x, hx⟩ : ∃ x, a.vs[k] = x := ⟨_, rfl⟩
           rw [hx] at HFR c0 hxs
           clear hx
           obtain ⟨xn, er, hok, hno⟩ := rnormal_okV nm syn sg x hxs
           have HNO := Lib.hid hno
           have HLK : Hid (∀ W, Below wr.heap.size wr W → Calls Tryz.prog 22 #[.agg #[.string nm, .int .i64 syn, .bool sg], .slice (some ⟨bv, ov, none⟩) k cx, .string x] W fun e w' => e = .returned (.int .i64 (likeI syn (a.vs.take k) x)) ∧ Below W.heap.size W w') := fun W hb => by
            have := rlike_any nm syn sg (some ⟨bv, ov, none⟩) cx (a.vs.take k) x W (Lib.hid (strs_below HSK.out hb)) (by omega) HFK hxs
            rw [htk] at this
            exact this
           have HOK := Lib.hid hok
           clear hno htk hxs hok
           generalize likeI syn (a.vs.take k) x = lk at HLK HFR
           by_cases her : er = 0
           ·have qe : (er != 0) = false := by rw [bne_eq_false_iff_eq]; exact her
            have HO1 : Hid (okV syn x = true) := by rw [HOK.out]; exact decide_eq_true her
            clear her
            by_cases hlk : lk < 0
            ·have q2 : decide ((0 : Int) ≤ lk) = false := decide_eq_false (by omega)
             have HF2 : Hid (fresh syn [] a.vs = fresh syn (a.vs.take (k + 1)) (a.vs.drop (k + 1))) := by
              show _ = _
              rw [hF.out, HFR.out, HO1.out, decide_eq_true hlk]; rfl
             go_wp2_with fail
             go_region_held3 (fun W => W.cell? ⟨AB, 0, none⟩ = some (.string a.t) ∧ W.cell? ⟨AB, 1, none⟩ = some (.slice (some ⟨bv, ov, none⟩) M cx) ∧ W.cell? ⟨w2.heap.size, 0, none⟩ = some (.string nm) ∧ W.cell? ⟨w2.heap.size, 1, none⟩ = some (.int .i64 syn) ∧ W.cell? ⟨w2.heap.size, 2, none⟩ = some (.bool sg) ∧ W.cell? ⟨bv, ov + k, none⟩ = some (.string x)) (first
               | exact ⟨u0, u1, v0, v1, v2, c0⟩
               | exact ⟨(hB6.cell (p := ⟨AB, 0, none⟩) hlu).trans u0, (hB6.cell (p := ⟨AB, 1, none⟩) hlu).trans u1, (hB6.cell (p := ⟨w2.heap.size, 0, none⟩) hlv).trans v0, (hB6.cell (p := ⟨w2.heap.size, 1, none⟩) hlv).trans v1, (hB6.cell (p := ⟨w2.heap.size, 2, none⟩) hlv).trans v2, (hB6.cell (p := ⟨bv, ov + k, none⟩) hlc).trans c0⟩)
              (first | (go_at_call 69; refine (HNO.out _).mono ?_; rintro e w6 ⟨rfl, hB6⟩) | fail)
             have hBq6 : Below wr.heap.size wr w6 := (Below.refl wr.heap.size wr).drew.trans hB6
             have u0' := (hBq6.cell (p := ⟨AB, 0, none⟩) hlu).trans u0
             have u1' := (hBq6.cell (p := ⟨AB, 1, none⟩) hlu).trans u1
             have v0' := (hBq6.cell (p := ⟨w2.heap.size, 0, none⟩) hlv).trans v0
             have v1' := (hBq6.cell (p := ⟨w2.heap.size, 1, none⟩) hlv).trans v1
             have v2' := (hBq6.cell (p := ⟨w2.heap.size, 2, none⟩) hlv).trans v2
             have c0' := (hBq6.cell (p := ⟨bv, ov + k, none⟩) hlc).trans c0
             have hlu' := World.block_lt_of_cell? w6 _ u0'
             have hlv' := World.block_lt_of_cell? w6 _ v0'
             have hlc' := World.block_lt_of_cell? w6 _ c0'
             have HBq6 := Lib.hid hBq6
             clear hB6 hBq6 u0 u1 v0 v1 v2 c0
             have HLK6 : Hid (∀ W, Below w6.heap.size w6 W → _) := fun W h => HLK.out W (HBq6.out.trans (h.mono HBq6.out.size))
             go_wp2_with fail
             refine wp_region_held_drew (S := fun W => W.cell? ⟨AB, 0, none⟩ = some (.string a.t) ∧ W.cell? ⟨AB, 1, none⟩ = some (.slice (some ⟨bv, ov, none⟩) M cx) ∧ W.cell? ⟨w2.heap.size, 0, none⟩ = some (.string nm) ∧ W.cell? ⟨w2.heap.size, 1, none⟩ = some (.int .i64 syn) ∧ W.cell? ⟨w2.heap.size, 2, none⟩ = some (.bool sg) ∧ W.cell? ⟨bv, ov + k, none⟩ = some (.string x)) (by kernel_rfl) (⟨u0', u1', v0', v1', v2', c0'⟩) (fun hHeld => ?_)
             refine tk 0 ⟨some 87,_,_,_,_,_⟩ rfl ?_
             refine tk 1 ⟨some 88,_,_,_,_,_⟩ rfl ?_
             refine tk 2 ⟨some 89,_,_,_,_,_⟩ rfl ?_
             refine tk 3 ⟨some 90,_,_,_,_,_⟩ rfl ?_
             refine tk 4 ⟨some 91,_,_,_,_,_⟩ rfl ?_
             refine tk 5 ⟨some 92,_,_,_,_,_⟩ rfl ?_
             refine tk 6 ⟨some 93,_,_,_,_,_⟩ rfl ?_
             refine tk 7 ⟨some 94,_,_,_,_,_⟩ rfl ?_
             refine tk 8 ⟨some 95,_,_,_,_,_⟩ rfl ?_
             refine tk 9 ⟨some 96,_,_,_,_,_⟩ rfl ?_
             refine tk 10 ⟨some 97,_,_,_,_,_⟩ rfl ?_
             refine tk 11 ⟨some 98,_,_,_,_,_⟩ rfl ?_
             refine tk 12 ⟨some 99,_,_,_,_,_⟩ rfl ?_
             refine tc 13 ⟨some 100,_,_,_,_,_⟩ rfl (fun K hK => ?_)
             go_simp
             go_at_call 22; refine (HLK6.out _ ((Below.refl w6.heap.size w6).drew)).mono ?_; rintro e w7 ⟨rfl, hB7⟩
             refine hK.out _ _ (⟨(hB7.cell (p := ⟨AB, 0, none⟩) hlu').trans (u0'), (hB7.cell (p := ⟨AB, 1, none⟩) hlu').trans (u1'), (hB7.cell (p := ⟨w2.heap.size, 0, none⟩) hlv').trans (v0'), (hB7.cell (p := ⟨w2.heap.size, 1, none⟩) hlv').trans (v1'), (hB7.cell (p := ⟨w2.heap.size, 2, none⟩) hlv').trans (v2'), (hB7.cell (p := ⟨bv, ov + k, none⟩) hlc').trans (c0')⟩) (fun hHeld => ?_)
             clear hK
             try simp only [Act.put, List.setIfInBounds_toArray, List.set_cons_zero, List.set_cons_succ]
             refine tk 14 ⟨some 101,_,_,_,_,_⟩ rfl ?_
             refine tk 15 ⟨some 102,_,_,_,_,_⟩ rfl ?_
             refine wpAnyH_done (by kernel_rfl) ?_ _
             have HB7 := Lib.hid (hBq.out.trans ((HBq6.out.trans (((Below.refl w6.heap.size w6).drew.trans hB7).mono HBq6.out.size)).mono hszq))
             clear hB7 hHeld u0' u1' v0' v1' v2' c0'
             go_wp2_with fail
             go_roundw
             case rel => exact ⟨k + 1, by omega, by go_num, HB7, HF2⟩
             case measure => simp [intOf]; omega
            ·have q2 : decide ((0 : Int) ≤ lk) = true := decide_eq_true (by omega)
             have HJ : Hid (atsF none L = false) := by
              show _ = _
              rw [hJ.out, HST.out, HAF.out, hF.out, HFR.out, decide_eq_false hlk, Bool.and_false]; rfl
             go_wp2_with fail
             go_region_held3 (fun W => W.cell? ⟨AB, 0, none⟩ = some (.string a.t) ∧ W.cell? ⟨AB, 1, none⟩ = some (.slice (some ⟨bv, ov, none⟩) M cx) ∧ W.cell? ⟨w2.heap.size, 0, none⟩ = some (.string nm) ∧ W.cell? ⟨w2.heap.size, 1, none⟩ = some (.int .i64 syn) ∧ W.cell? ⟨w2.heap.size, 2, none⟩ = some (.bool sg) ∧ W.cell? ⟨bv, ov + k, none⟩ = some (.string x)) (first
               | exact ⟨u0, u1, v0, v1, v2, c0⟩
               | exact ⟨(hB6.cell (p := ⟨AB, 0, none⟩) hlu).trans u0, (hB6.cell (p := ⟨AB, 1, none⟩) hlu).trans u1, (hB6.cell (p := ⟨w2.heap.size, 0, none⟩) hlv).trans v0, (hB6.cell (p := ⟨w2.heap.size, 1, none⟩) hlv).trans v1, (hB6.cell (p := ⟨w2.heap.size, 2, none⟩) hlv).trans v2, (hB6.cell (p := ⟨bv, ov + k, none⟩) hlc).trans c0⟩)
              (first | (go_at_call 69; refine (HNO.out _).mono ?_; rintro e w6 ⟨rfl, hB6⟩) | fail)
             have hBq6 : Below wr.heap.size wr w6 := (Below.refl wr.heap.size wr).drew.trans hB6
             have u0' := (hBq6.cell (p := ⟨AB, 0, none⟩) hlu).trans u0
             have u1' := (hBq6.cell (p := ⟨AB, 1, none⟩) hlu).trans u1
             have v0' := (hBq6.cell (p := ⟨w2.heap.size, 0, none⟩) hlv).trans v0
             have v1' := (hBq6.cell (p := ⟨w2.heap.size, 1, none⟩) hlv).trans v1
             have v2' := (hBq6.cell (p := ⟨w2.heap.size, 2, none⟩) hlv).trans v2
             have c0' := (hBq6.cell (p := ⟨bv, ov + k, none⟩) hlc).trans c0
             have hlu' := World.block_lt_of_cell? w6 _ u0'
             have hlv' := World.block_lt_of_cell? w6 _ v0'
             have hlc' := World.block_lt_of_cell? w6 _ c0'
             have HBq6 := Lib.hid hBq6
             clear hB6 hBq6 u0 u1 v0 v1 v2 c0
             have HLK6 : Hid (∀ W, Below w6.heap.size w6 W → _) := fun W h => HLK.out W (HBq6.out.trans (h.mono HBq6.out.size))
             go_wp2_with fail
             refine wp_region_held_drew (S := fun W => W.cell? ⟨AB, 0, none⟩ = some (.string a.t) ∧ W.cell? ⟨AB, 1, none⟩ = some (.slice (some ⟨bv, ov, none⟩) M cx) ∧ W.cell? ⟨w2.heap.size, 0, none⟩ = some (.string nm) ∧ W.cell? ⟨w2.heap.size, 1, none⟩ = some (.int .i64 syn) ∧ W.cell? ⟨w2.heap.size, 2, none⟩ = some (.bool sg) ∧ W.cell? ⟨bv, ov + k, none⟩ = some (.string x)) (by kernel_rfl) (⟨u0', u1', v0', v1', v2', c0'⟩) (fun hHeld => ?_)
             refine tk 0 ⟨some 87,_,_,_,_,_⟩ rfl ?_
             refine tk 1 ⟨some 88,_,_,_,_,_⟩ rfl ?_
             refine tk 2 ⟨some 89,_,_,_,_,_⟩ rfl ?_
             refine tk 3 ⟨some 90,_,_,_,_,_⟩ rfl ?_
             refine tk 4 ⟨some 91,_,_,_,_,_⟩ rfl ?_
             refine tk 5 ⟨some 92,_,_,_,_,_⟩ rfl ?_
             refine tk 6 ⟨some 93,_,_,_,_,_⟩ rfl ?_
             refine tk 7 ⟨some 94,_,_,_,_,_⟩ rfl ?_
             refine tk 8 ⟨some 95,_,_,_,_,_⟩ rfl ?_
             refine tk 9 ⟨some 96,_,_,_,_,_⟩ rfl ?_
             refine tk 10 ⟨some 97,_,_,_,_,_⟩ rfl ?_
             refine tk 11 ⟨some 98,_,_,_,_,_⟩ rfl ?_
             refine tk 12 ⟨some 99,_,_,_,_,_⟩ rfl ?_
             refine tc 13 ⟨some 100,_,_,_,_,_⟩ rfl (fun K hK => ?_)
             go_simp
             go_at_call 22; refine (HLK6.out _ ((Below.refl w6.heap.size w6).drew)).mono ?_; rintro e w7 ⟨rfl, hB7⟩
             refine hK.out _ _ (⟨(hB7.cell (p := ⟨AB, 0, none⟩) hlu').trans (u0'), (hB7.cell (p := ⟨AB, 1, none⟩) hlu').trans (u1'), (hB7.cell (p := ⟨w2.heap.size, 0, none⟩) hlv').trans (v0'), (hB7.cell (p := ⟨w2.heap.size, 1, none⟩) hlv').trans (v1'), (hB7.cell (p := ⟨w2.heap.size, 2, none⟩) hlv').trans (v2'), (hB7.cell (p := ⟨bv, ov + k, none⟩) hlc').trans (c0')⟩) (fun hHeld => ?_)
             clear hK
             try simp only [Act.put, List.setIfInBounds_toArray, List.set_cons_zero, List.set_cons_succ]
             refine tk 14 ⟨some 101,_,_,_,_,_⟩ rfl ?_
             refine tk 15 ⟨some 102,_,_,_,_,_⟩ rfl ?_
             refine wpAnyH_done (by kernel_rfl) ?_ _
             have HB7 := Lib.hid (HBwr.out.trans ((HBq6.out.trans (((Below.refl w6.heap.size w6).drew.trans hB7).mono HBq6.out.size)).mono HBwr.out.size))
             clear hB7 hHeld u0' u1' v0' v1' v2' c0'
             go_wp2_with fail
             go_ret
             exact ⟨kt.ret_bool HJ.out.symm, HB7.out⟩
           ·have qe : (er != 0) = true := by rw [bne_iff_ne]; exact her
            have HJ : Hid (atsF none L = false) := by
             show _ = _
             rw [hJ.out, HST.out, HAF.out, hF.out, HFR.out, HOK.out, decide_eq_false her]; rfl
            clear her
            go_wp2_with fail
            go_region_held3 (fun W => W.cell? ⟨AB, 0, none⟩ = some (.string a.t) ∧ W.cell? ⟨AB, 1, none⟩ = some (.slice (some ⟨bv, ov, none⟩) M cx) ∧ W.cell? ⟨w2.heap.size, 0, none⟩ = some (.string nm) ∧ W.cell? ⟨w2.heap.size, 1, none⟩ = some (.int .i64 syn) ∧ W.cell? ⟨w2.heap.size, 2, none⟩ = some (.bool sg) ∧ W.cell? ⟨bv, ov + k, none⟩ = some (.string x)) (first
              | exact ⟨u0, u1, v0, v1, v2, c0⟩
              | exact ⟨(hB6.cell (p := ⟨AB, 0, none⟩) hlu).trans u0, (hB6.cell (p := ⟨AB, 1, none⟩) hlu).trans u1, (hB6.cell (p := ⟨w2.heap.size, 0, none⟩) hlv).trans v0, (hB6.cell (p := ⟨w2.heap.size, 1, none⟩) hlv).trans v1, (hB6.cell (p := ⟨w2.heap.size, 2, none⟩) hlv).trans v2, (hB6.cell (p := ⟨bv, ov + k, none⟩) hlc).trans c0⟩)
             (first | (go_at_call 69; refine (HNO.out _).mono ?_; rintro e w6 ⟨rfl, hB6⟩) | fail)
            have hBq6 : Below wr.heap.size wr w6 := (Below.refl wr.heap.size wr).drew.trans hB6
            have u0' := (hBq6.cell (p := ⟨AB, 0, none⟩) hlu).trans u0
            have u1' := (hBq6.cell (p := ⟨AB, 1, none⟩) hlu).trans u1
            have v0' := (hBq6.cell (p := ⟨w2.heap.size, 0, none⟩) hlv).trans v0
            have v1' := (hBq6.cell (p := ⟨w2.heap.size, 1, none⟩) hlv).trans v1
            have v2' := (hBq6.cell (p := ⟨w2.heap.size, 2, none⟩) hlv).trans v2
            have c0' := (hBq6.cell (p := ⟨bv, ov + k, none⟩) hlc).trans c0
            have hlu' := World.block_lt_of_cell? w6 _ u0'
            have hlv' := World.block_lt_of_cell? w6 _ v0'
            have hlc' := World.block_lt_of_cell? w6 _ c0'
            have HBq6 := Lib.hid hBq6
            clear hB6 hBq6 u0 u1 v0 v1 v2 c0
            go_wp2_with fail
            refine wp_region_held_drew (S := fun W => W.cell? ⟨AB, 0, none⟩ = some (.string a.t) ∧ W.cell? ⟨AB, 1, none⟩ = some (.slice (some ⟨bv, ov, none⟩) M cx) ∧ W.cell? ⟨w2.heap.size, 0, none⟩ = some (.string nm) ∧ W.cell? ⟨w2.heap.size, 1, none⟩ = some (.int .i64 syn) ∧ W.cell? ⟨w2.heap.size, 2, none⟩ = some (.bool sg) ∧ W.cell? ⟨bv, ov + k, none⟩ = some (.string x)) (by kernel_rfl) (⟨u0', u1', v0', v1', v2', c0'⟩) (fun hHeld => ?_)
            refine tk 0 ⟨some 87,_,_,_,_,_⟩ rfl ?_
            refine tk 1 ⟨some 88,_,_,_,_,_⟩ rfl ?_
            refine tk 2 ⟨some 89,_,_,_,_,_⟩ rfl ?_
            refine tu 3 ⟨some 90,_,_,_,_,_⟩ rfl ?_
            refine tu 4 ⟨some 91,_,_,_,_,_⟩ rfl ?_
            refine tu 5 ⟨some 92,_,_,_,_,_⟩ rfl ?_
            refine tu 6 ⟨some 93,_,_,_,_,_⟩ rfl ?_
            refine tu 7 ⟨some 94,_,_,_,_,_⟩ rfl ?_
            refine tu 8 ⟨some 95,_,_,_,_,_⟩ rfl ?_
            refine tu 9 ⟨some 96,_,_,_,_,_⟩ rfl ?_
            refine tu 10 ⟨some 97,_,_,_,_,_⟩ rfl ?_
            refine tu 11 ⟨some 98,_,_,_,_,_⟩ rfl ?_
            refine tu 12 ⟨some 99,_,_,_,_,_⟩ rfl ?_
            refine tu 13 ⟨some 100,_,_,_,_,_⟩ rfl ?_
            refine tu 14 ⟨some 101,_,_,_,_,_⟩ rfl ?_
            refine tk 15 ⟨some 102,_,_,_,_,_⟩ rfl ?_
            refine wpAnyH_done (by kernel_rfl) ?_ _
            have HB7 := Lib.hid (HBwr.out.trans (HBq6.out.mono HBwr.out.size)).drew
            clear hHeld u0' u1' v0' v1' v2' c0'
            go_wp2_with fail
            go_ret
            exact ⟨kt.ret_bool HJ.out.symm, HB7.out⟩
          ·obtain rfl : M = k := by omega
           have HF2 : Hid (fresh syn [] a.vs = true) := by
            show _ = _
            rw [hF.out, ← HM.out, List.drop_length]; rfl
           have HJ : Hid (atsF none L = atsF (prevT L (i + 1)) (L.drop (i + 1))) := by
            show _ = _
            rw [hJ.out, HST.out, HAF.out, HF2.out, HPO.out]; rfl
           go_wp2_with fail
           go_roundw
           case rel => exact ⟨i + 1, by omega, by go_num, HBrq, HJ⟩
           case measure => simp [intOf]; omega
        ·have di : decide ((i : Int) > 0) = true := decide_eq_true (by omega)
         have di' : decide (0 < i) = true := decide_eq_true (by omega)
         obtain ⟨p, hp, hps, p00⟩ := HPV.out (by omega)
         obtain ⟨kp, hkp⟩ : ∃ k, i - 1 = k := ⟨_, rfl⟩
         rw [hkp] at p00
         have ekp : IntKind.i64.wrap ((i : Int) - 1) = (kp : Int) := by rw [IntWalk.i64_in _ (by omega)]; omega
         have hkN : kp < N := by omega
         clear hkp
         have HPO : Hid (prevOK L i a.t = ltB p a.t) := by unfold prevOK; rw [hp]; exact rfl
         have p0 := (HBA4.out.cell (p := ⟨b, o + kp * 2, none⟩) (World.block_lt_of_cell? wr _ p00)).trans p00
         have hlp := World.block_lt_of_cell? w4 _ p0
         have hi00 : 0 < i := by omega
         have HLS := Lib.hid (fun w => rless_any p a.t w hps)
         have hcmp := HCA.out p
         clear hp hi0 p00
         generalize Lib.compareBytes p.data.toList a.t.data.toList = cm at HLS hcmp
         rcases hcmp with ⟨hlb, hcm⟩ | ⟨hlb, hcm⟩
         ·rw [hlb] at HPO
          subst hcm
          clear hlb
          go_wp2_with fail
          refine wp_region_held_drew (S := fun W => W.cell? ⟨wr.heap.size, 0, none⟩ = some (.string a.t) ∧ W.cell? ⟨wr.heap.size, 1, none⟩ = some (.slice ax M cx) ∧ W.cell? ⟨w2.heap.size, 0, none⟩ = some (.string nm) ∧ W.cell? ⟨w2.heap.size, 1, none⟩ = some (.int .i64 syn) ∧ W.cell? ⟨w2.heap.size, 2, none⟩ = some (.bool sg) ∧ W.cell? ⟨w.heap.size, 1, none⟩ = some (.slice (some ⟨b, o, none⟩) N ac) ∧ W.cell? ⟨b, o + kp * 2, none⟩ = some (.string p)) (by kernel_rfl) (⟨x0, x1, y0, y1, y2, z1, p0⟩) (fun hHeld => ?_)
          refine tk 0 ⟨some 55,_,_,_,_,_⟩ rfl ?_
          refine tk 1 ⟨some 56,_,_,_,_,_⟩ rfl ?_
          refine tk 2 ⟨some 57,_,_,_,_,_⟩ rfl ?_
          refine tk 3 ⟨some 58,_,_,_,_,_⟩ rfl ?_
          refine tk 4 ⟨some 59,_,_,_,_,_⟩ rfl ?_
          refine tk 5 ⟨some 60,_,_,_,_,_⟩ rfl ?_
          refine tk 6 ⟨some 61,_,_,_,_,_⟩ rfl ?_
          refine tk 7 ⟨some 62,_,_,_,_,_⟩ rfl ?_
          refine tk 8 ⟨some 63,_,_,_,_,_⟩ rfl ?_
          refine tk 9 ⟨some 64,_,_,_,_,_⟩ rfl ?_
          refine tk 10 ⟨some 65,_,_,_,_,_⟩ rfl ?_
          refine tk 11 ⟨some 66,_,_,_,_,_⟩ rfl ?_
          refine tc 12 ⟨some 67,_,_,_,_,_⟩ rfl (fun K hK => ?_)
          go_simp
          go_at_call 68; refine (HLS.out _).mono ?_; rintro e w5 ⟨rfl, hB5⟩
          refine hK.out _ _ (⟨(hB5.cell (p := ⟨wr.heap.size, 0, none⟩) hla).trans (x0), (hB5.cell (p := ⟨wr.heap.size, 1, none⟩) hla).trans (x1), (hB5.cell (p := ⟨w2.heap.size, 0, none⟩) hlt2).trans (y0), (hB5.cell (p := ⟨w2.heap.size, 1, none⟩) hlt2).trans (y1), (hB5.cell (p := ⟨w2.heap.size, 2, none⟩) hlt2).trans (y2), (hB5.cell (p := ⟨w.heap.size, 1, none⟩) hlz).trans (z1), (hB5.cell (p := ⟨b, o + kp * 2, none⟩) hlp).trans (p0)⟩) (fun hHeld => ?_)
          clear hK
          try simp only [Act.put, List.setIfInBounds_toArray, List.set_cons_zero, List.set_cons_succ]
          refine tk 13 ⟨some 68,_,_,_,_,_⟩ rfl ?_
          refine tk 14 ⟨some 69,_,_,_,_,_⟩ rfl ?_
          refine wpAnyH_done (by kernel_rfl) ?_ _
          have hB45 : Below w4.heap.size w4 w5 := ((Below.refl w4.heap.size w4).drew.trans hB5)
          have x05 := (hB45.cell (p := ⟨wr.heap.size, 0, none⟩) hla).trans x0
          have x15 := (hB45.cell (p := ⟨wr.heap.size, 1, none⟩) hla).trans x1
          have y05 := (hB45.cell (p := ⟨w2.heap.size, 0, none⟩) hlt2).trans y0
          have y15 := (hB45.cell (p := ⟨w2.heap.size, 1, none⟩) hlt2).trans y1
          have y25 := (hB45.cell (p := ⟨w2.heap.size, 2, none⟩) hlt2).trans y2
          clear x0
          have x0 := x05
          clear x05
          clear x1
          have x1 := x15
          clear x15
          clear y0
          have y0 := y05
          clear y05
          clear y1
          have y1 := y15
          clear y15
          clear y2
          have y2 := y25
          clear y25
          have hla5 := World.block_lt_of_cell? w5 _ x0
          have hlt25 := World.block_lt_of_cell? w5 _ y0
          clear hla hlt2
          have hla := hla5
          have hlt2 := hlt25
          clear hHeld hB5
          have HBrI := Lib.hid (HBr4.out.trans (hB45.mono HBr4.out.size))
          have HBwI := Lib.hid (HBw4.out.trans (hB45.mono HBw4.out.size))
          have HBAI := Lib.hid (HBA4.out.trans (hB45.mono HBA4.out.size))
          clear hB45
          go_wp2_with fail
          generalize wr.heap.size = AB at x0 x1 hla ⊢
          go_loopw [7] (fun kv wr => ∃ k : Nat, k ≤ M ∧ kv = .int .i64 (k : Int) ∧ Hid (Below w5.heap.size w5 wr) ∧ Hid (fresh syn [] a.vs = fresh syn (a.vs.take k) (a.vs.drop k))) (fun kv _ => M - (intOf kv).toNat)
          case atStart => exact ⟨0, Nat.zero_le _, rfl, Below.refl _ _, rfl⟩
          case round =>
           obtain ⟨k, hk, rfl, hBq, hF⟩ := hrel
           have hszq := hBq.out.size
           have HBwr := Lib.hid (HBwI.out.trans (hBq.out.mono HBwI.out.size))
           have HBrq := Lib.hid (HBrI.out.trans (hBq.out.mono HBrI.out.size))
           have HBAq := Lib.hid (HBAI.out.trans (hBq.out.mono HBAI.out.size))
           have u0 := (hBq.out.cell (p := ⟨AB, 0, none⟩) hla).trans x0
           have u1 := (hBq.out.cell (p := ⟨AB, 1, none⟩) hla).trans x1
           have v0 := (hBq.out.cell (p := ⟨w2.heap.size, 0, none⟩) hlt2).trans y0
           have v1 := (hBq.out.cell (p := ⟨w2.heap.size, 1, none⟩) hlt2).trans y1
           have v2 := (hBq.out.cell (p := ⟨w2.heap.size, 2, none⟩) hlt2).trans y2
           have hlu := World.block_lt_of_cell? wr _ u0
           have hlv := World.block_lt_of_cell? wr _ v0
           by_cases hkM : k < M
           ·have hkI : (k : Int) < (M : Int) := by omega
            have hkl : k < a.vs.length := by rw [HM.out]; exact hkM
            have hkc : k ≤ cx := by omega
            have HSq := Lib.hid (strs_below HSV.out HBAq.out)
            obtain ⟨bv, ov, hax, c0⟩ := HSq.out k hkl
            subst hax
            have hlc := World.block_lt_of_cell? wr _ c0
            have HFR : Hid (fresh syn (a.vs.take k) (a.vs.drop k) = (okV syn a.vs[k] && decide (likeI syn (a.vs.take k) a.vs[k] < 0) && fresh syn (a.vs.take (k + 1)) (a.vs.drop (k + 1)))) := by
             show _ = _
             rw [List.drop_eq_getElem_cons hkl, List.take_succ_eq_append_getElem hkl]
             rfl
            have HSK : Hid (Strs wr (some ⟨bv, ov, none⟩) (a.vs.take k)) := by
             intro j hj
             rw [List.length_take] at hj
             obtain ⟨b', o', e, hc⟩ := HSq.out j (by omega)
             rw [List.getElem_take]
             exact ⟨b', o', e, hc⟩
            have HFK : Hid (Fit (a.vs.take k)) := fun v hv => HFT.out v (List.mem_of_mem_take hv)
            have htk : (a.vs.take k).length = k := by rw [List.length_take]; omega
            have hxs : a.vs[k].size ≤ 140737488351232 := HFT.out _ (List.getElem_mem _)
            obtain ⟨x, hx⟩ : ∃ x, a.vs[k] = x := ⟨_, rfl⟩
            rw [hx] at HFR c0 hxs
            clear hx
            obtain ⟨xn, er, hok, hno⟩ := rnormal_okV nm syn sg x hxs
            have HNO := Lib.hid hno
            have HLK : Hid (∀ W, Below wr.heap.size wr W → Calls Tryz.prog 22 #[.agg #[.string nm, .int .i64 syn, .bool sg], .slice (some ⟨bv, ov, none⟩) k cx, .string x] W fun e w' => e = .returned (.int .i64 (likeI syn (a.vs.take k) x)) ∧ Below W.heap.size W w') := fun W hb => by
             have := rlike_any nm syn sg (some ⟨bv, ov, none⟩) cx (a.vs.take k) x W (Lib.hid (strs_below HSK.out hb)) (by omega) HFK hxs
             rw [htk] at this
             exact this
            have HOK := Lib.hid hok
            clear hno htk hxs hok
            generalize likeI syn (a.vs.take k) x = lk at HLK HFR
            by_cases her : er = 0
            ·have qe : (er != 0) = false := by rw [bne_eq_false_iff_eq]; exact her
             have HO1 : Hid (okV syn x = true) := by rw [HOK.out]; exact decide_eq_true her
             clear her
             by_cases hlk : lk < 0
             ·have q2 : decide ((0 : Int) ≤ lk) = false := decide_eq_false (by omega)
              have HF2 : Hid (fresh syn [] a.vs = fresh syn (a.vs.take (k + 1)) (a.vs.drop (k + 1))) := by
               show _ = _
               rw [hF.out, HFR.out, HO1.out, decide_eq_true hlk]; rfl
              go_wp2_with fail
              go_region_held3 (fun W => W.cell? ⟨AB, 0, none⟩ = some (.string a.t) ∧ W.cell? ⟨AB, 1, none⟩ = some (.slice (some ⟨bv, ov, none⟩) M cx) ∧ W.cell? ⟨w2.heap.size, 0, none⟩ = some (.string nm) ∧ W.cell? ⟨w2.heap.size, 1, none⟩ = some (.int .i64 syn) ∧ W.cell? ⟨w2.heap.size, 2, none⟩ = some (.bool sg) ∧ W.cell? ⟨bv, ov + k, none⟩ = some (.string x)) (first
                | exact ⟨u0, u1, v0, v1, v2, c0⟩
                | exact ⟨(hB6.cell (p := ⟨AB, 0, none⟩) hlu).trans u0, (hB6.cell (p := ⟨AB, 1, none⟩) hlu).trans u1, (hB6.cell (p := ⟨w2.heap.size, 0, none⟩) hlv).trans v0, (hB6.cell (p := ⟨w2.heap.size, 1, none⟩) hlv).trans v1, (hB6.cell (p := ⟨w2.heap.size, 2, none⟩) hlv).trans v2, (hB6.cell (p := ⟨bv, ov + k, none⟩) hlc).trans c0⟩)
               (first | (go_at_call 69; refine (HNO.out _).mono ?_; rintro e w6 ⟨rfl, hB6⟩) | fail)
              have hBq6 : Below wr.heap.size wr w6 := (Below.refl wr.heap.size wr).drew.trans hB6
              have u0' := (hBq6.cell (p := ⟨AB, 0, none⟩) hlu).trans u0
              have u1' := (hBq6.cell (p := ⟨AB, 1, none⟩) hlu).trans u1
              have v0' := (hBq6.cell (p := ⟨w2.heap.size, 0, none⟩) hlv).trans v0
              have v1' := (hBq6.cell (p := ⟨w2.heap.size, 1, none⟩) hlv).trans v1
              have v2' := (hBq6.cell (p := ⟨w2.heap.size, 2, none⟩) hlv).trans v2
              have c0' := (hBq6.cell (p := ⟨bv, ov + k, none⟩) hlc).trans c0
              have hlu' := World.block_lt_of_cell? w6 _ u0'
              have hlv' := World.block_lt_of_cell? w6 _ v0'
              have hlc' := World.block_lt_of_cell? w6 _ c0'
              have HBq6 := Lib.hid hBq6
              clear hB6 hBq6 u0 u1 v0 v1 v2 c0
              have HLK6 : Hid (∀ W, Below w6.heap.size w6 W → _) := fun W h => HLK.out W (HBq6.out.trans (h.mono HBq6.out.size))
              go_wp2_with fail
              refine wp_region_held_drew (S := fun W => W.cell? ⟨AB, 0, none⟩ = some (.string a.t) ∧ W.cell? ⟨AB, 1, none⟩ = some (.slice (some ⟨bv, ov, none⟩) M cx) ∧ W.cell? ⟨w2.heap.size, 0, none⟩ = some (.string nm) ∧ W.cell? ⟨w2.heap.size, 1, none⟩ = some (.int .i64 syn) ∧ W.cell? ⟨w2.heap.size, 2, none⟩ = some (.bool sg) ∧ W.cell? ⟨bv, ov + k, none⟩ = some (.string x)) (by kernel_rfl) (⟨u0', u1', v0', v1', v2', c0'⟩) (fun hHeld => ?_)
              refine tk 0 ⟨some 87,_,_,_,_,_⟩ rfl ?_
              refine tk 1 ⟨some 88,_,_,_,_,_⟩ rfl ?_
              refine tk 2 ⟨some 89,_,_,_,_,_⟩ rfl ?_
              refine tk 3 ⟨some 90,_,_,_,_,_⟩ rfl ?_
              refine tk 4 ⟨some 91,_,_,_,_,_⟩ rfl ?_
              refine tk 5 ⟨some 92,_,_,_,_,_⟩ rfl ?_
              refine tk 6 ⟨some 93,_,_,_,_,_⟩ rfl ?_
              refine tk 7 ⟨some 94,_,_,_,_,_⟩ rfl ?_
              refine tk 8 ⟨some 95,_,_,_,_,_⟩ rfl ?_
              refine tk 9 ⟨some 96,_,_,_,_,_⟩ rfl ?_
              refine tk 10 ⟨some 97,_,_,_,_,_⟩ rfl ?_
              refine tk 11 ⟨some 98,_,_,_,_,_⟩ rfl ?_
              refine tk 12 ⟨some 99,_,_,_,_,_⟩ rfl ?_
              refine tc 13 ⟨some 100,_,_,_,_,_⟩ rfl (fun K hK => ?_)
              go_simp
              go_at_call 22; refine (HLK6.out _ ((Below.refl w6.heap.size w6).drew)).mono ?_; rintro e w7 ⟨rfl, hB7⟩
              refine hK.out _ _ (⟨(hB7.cell (p := ⟨AB, 0, none⟩) hlu').trans (u0'), (hB7.cell (p := ⟨AB, 1, none⟩) hlu').trans (u1'), (hB7.cell (p := ⟨w2.heap.size, 0, none⟩) hlv').trans (v0'), (hB7.cell (p := ⟨w2.heap.size, 1, none⟩) hlv').trans (v1'), (hB7.cell (p := ⟨w2.heap.size, 2, none⟩) hlv').trans (v2'), (hB7.cell (p := ⟨bv, ov + k, none⟩) hlc').trans (c0')⟩) (fun hHeld => ?_)
              clear hK
              try simp only [Act.put, List.setIfInBounds_toArray, List.set_cons_zero, List.set_cons_succ]
              refine tk 14 ⟨some 101,_,_,_,_,_⟩ rfl ?_
              refine tk 15 ⟨some 102,_,_,_,_,_⟩ rfl ?_
              refine wpAnyH_done (by kernel_rfl) ?_ _
              have HB7 := Lib.hid (hBq.out.trans ((HBq6.out.trans (((Below.refl w6.heap.size w6).drew.trans hB7).mono HBq6.out.size)).mono hszq))
              clear hB7 hHeld u0' u1' v0' v1' v2' c0'
              go_wp2_with fail
              go_roundw
              case rel => exact ⟨k + 1, by omega, by go_num, HB7, HF2⟩
              case measure => simp [intOf]; omega
             ·have q2 : decide ((0 : Int) ≤ lk) = true := decide_eq_true (by omega)
              have HJ : Hid (atsF none L = false) := by
               show _ = _
               rw [hJ.out, HST.out, HAF.out, hF.out, HFR.out, decide_eq_false hlk, Bool.and_false]; rfl
              go_wp2_with fail
              go_region_held3 (fun W => W.cell? ⟨AB, 0, none⟩ = some (.string a.t) ∧ W.cell? ⟨AB, 1, none⟩ = some (.slice (some ⟨bv, ov, none⟩) M cx) ∧ W.cell? ⟨w2.heap.size, 0, none⟩ = some (.string nm) ∧ W.cell? ⟨w2.heap.size, 1, none⟩ = some (.int .i64 syn) ∧ W.cell? ⟨w2.heap.size, 2, none⟩ = some (.bool sg) ∧ W.cell? ⟨bv, ov + k, none⟩ = some (.string x)) (first
                | exact ⟨u0, u1, v0, v1, v2, c0⟩
                | exact ⟨(hB6.cell (p := ⟨AB, 0, none⟩) hlu).trans u0, (hB6.cell (p := ⟨AB, 1, none⟩) hlu).trans u1, (hB6.cell (p := ⟨w2.heap.size, 0, none⟩) hlv).trans v0, (hB6.cell (p := ⟨w2.heap.size, 1, none⟩) hlv).trans v1, (hB6.cell (p := ⟨w2.heap.size, 2, none⟩) hlv).trans v2, (hB6.cell (p := ⟨bv, ov + k, none⟩) hlc).trans c0⟩)
               (first | (go_at_call 69; refine (HNO.out _).mono ?_; rintro e w6 ⟨rfl, hB6⟩) | fail)
              have hBq6 : Below wr.heap.size wr w6 := (Below.refl wr.heap.size wr).drew.trans hB6
              have u0' := (hBq6.cell (p := ⟨AB, 0, none⟩) hlu).trans u0
              have u1' := (hBq6.cell (p := ⟨AB, 1, none⟩) hlu).trans u1
              have v0' := (hBq6.cell (p := ⟨w2.heap.size, 0, none⟩) hlv).trans v0
              have v1' := (hBq6.cell (p := ⟨w2.heap.size, 1, none⟩) hlv).trans v1
              have v2' := (hBq6.cell (p := ⟨w2.heap.size, 2, none⟩) hlv).trans v2
              have c0' := (hBq6.cell (p := ⟨bv, ov + k, none⟩) hlc).trans c0
              have hlu' := World.block_lt_of_cell? w6 _ u0'
              have hlv' := World.block_lt_of_cell? w6 _ v0'
              have hlc' := World.block_lt_of_cell? w6 _ c0'
              have HBq6 := Lib.hid hBq6
              clear hB6 hBq6 u0 u1 v0 v1 v2 c0
              have HLK6 : Hid (∀ W, Below w6.heap.size w6 W → _) := fun W h => HLK.out W (HBq6.out.trans (h.mono HBq6.out.size))
              go_wp2_with fail
              refine wp_region_held_drew (S := fun W => W.cell? ⟨AB, 0, none⟩ = some (.string a.t) ∧ W.cell? ⟨AB, 1, none⟩ = some (.slice (some ⟨bv, ov, none⟩) M cx) ∧ W.cell? ⟨w2.heap.size, 0, none⟩ = some (.string nm) ∧ W.cell? ⟨w2.heap.size, 1, none⟩ = some (.int .i64 syn) ∧ W.cell? ⟨w2.heap.size, 2, none⟩ = some (.bool sg) ∧ W.cell? ⟨bv, ov + k, none⟩ = some (.string x)) (by kernel_rfl) (⟨u0', u1', v0', v1', v2', c0'⟩) (fun hHeld => ?_)
              refine tk 0 ⟨some 87,_,_,_,_,_⟩ rfl ?_
              refine tk 1 ⟨some 88,_,_,_,_,_⟩ rfl ?_
              refine tk 2 ⟨some 89,_,_,_,_,_⟩ rfl ?_
              refine tk 3 ⟨some 90,_,_,_,_,_⟩ rfl ?_
              refine tk 4 ⟨some 91,_,_,_,_,_⟩ rfl ?_
              refine tk 5 ⟨some 92,_,_,_,_,_⟩ rfl ?_
              refine tk 6 ⟨some 93,_,_,_,_,_⟩ rfl ?_
              refine tk 7 ⟨some 94,_,_,_,_,_⟩ rfl ?_
              refine tk 8 ⟨some 95,_,_,_,_,_⟩ rfl ?_
              refine tk 9 ⟨some 96,_,_,_,_,_⟩ rfl ?_
              refine tk 10 ⟨some 97,_,_,_,_,_⟩ rfl ?_
              refine tk 11 ⟨some 98,_,_,_,_,_⟩ rfl ?_
              refine tk 12 ⟨some 99,_,_,_,_,_⟩ rfl ?_
              refine tc 13 ⟨some 100,_,_,_,_,_⟩ rfl (fun K hK => ?_)
              go_simp
              go_at_call 22; refine (HLK6.out _ ((Below.refl w6.heap.size w6).drew)).mono ?_; rintro e w7 ⟨rfl, hB7⟩
              refine hK.out _ _ (⟨(hB7.cell (p := ⟨AB, 0, none⟩) hlu').trans (u0'), (hB7.cell (p := ⟨AB, 1, none⟩) hlu').trans (u1'), (hB7.cell (p := ⟨w2.heap.size, 0, none⟩) hlv').trans (v0'), (hB7.cell (p := ⟨w2.heap.size, 1, none⟩) hlv').trans (v1'), (hB7.cell (p := ⟨w2.heap.size, 2, none⟩) hlv').trans (v2'), (hB7.cell (p := ⟨bv, ov + k, none⟩) hlc').trans (c0')⟩) (fun hHeld => ?_)
              clear hK
              try simp only [Act.put, List.setIfInBounds_toArray, List.set_cons_zero, List.set_cons_succ]
              refine tk 14 ⟨some 101,_,_,_,_,_⟩ rfl ?_
              refine tk 15 ⟨some 102,_,_,_,_,_⟩ rfl ?_
              refine wpAnyH_done (by kernel_rfl) ?_ _
              have HB7 := Lib.hid (HBwr.out.trans ((HBq6.out.trans (((Below.refl w6.heap.size w6).drew.trans hB7).mono HBq6.out.size)).mono HBwr.out.size))
              clear hB7 hHeld u0' u1' v0' v1' v2' c0'
              go_wp2_with fail
              go_ret
              exact ⟨kt.ret_bool HJ.out.symm, HB7.out⟩
            ·have qe : (er != 0) = true := by rw [bne_iff_ne]; exact her
             have HJ : Hid (atsF none L = false) := by
              show _ = _
              rw [hJ.out, HST.out, HAF.out, hF.out, HFR.out, HOK.out, decide_eq_false her]; rfl
             clear her
             go_wp2_with fail
             go_region_held3 (fun W => W.cell? ⟨AB, 0, none⟩ = some (.string a.t) ∧ W.cell? ⟨AB, 1, none⟩ = some (.slice (some ⟨bv, ov, none⟩) M cx) ∧ W.cell? ⟨w2.heap.size, 0, none⟩ = some (.string nm) ∧ W.cell? ⟨w2.heap.size, 1, none⟩ = some (.int .i64 syn) ∧ W.cell? ⟨w2.heap.size, 2, none⟩ = some (.bool sg) ∧ W.cell? ⟨bv, ov + k, none⟩ = some (.string x)) (first
               | exact ⟨u0, u1, v0, v1, v2, c0⟩
               | exact ⟨(hB6.cell (p := ⟨AB, 0, none⟩) hlu).trans u0, (hB6.cell (p := ⟨AB, 1, none⟩) hlu).trans u1, (hB6.cell (p := ⟨w2.heap.size, 0, none⟩) hlv).trans v0, (hB6.cell (p := ⟨w2.heap.size, 1, none⟩) hlv).trans v1, (hB6.cell (p := ⟨w2.heap.size, 2, none⟩) hlv).trans v2, (hB6.cell (p := ⟨bv, ov + k, none⟩) hlc).trans c0⟩)
              (first | (go_at_call 69; refine (HNO.out _).mono ?_; rintro e w6 ⟨rfl, hB6⟩) | fail)
             have hBq6 : Below wr.heap.size wr w6 := (Below.refl wr.heap.size wr).drew.trans hB6
             have u0' := (hBq6.cell (p := ⟨AB, 0, none⟩) hlu).trans u0
             have u1' := (hBq6.cell (p := ⟨AB, 1, none⟩) hlu).trans u1
             have v0' := (hBq6.cell (p := ⟨w2.heap.size, 0, none⟩) hlv).trans v0
             have v1' := (hBq6.cell (p := ⟨w2.heap.size, 1, none⟩) hlv).trans v1
             have v2' := (hBq6.cell (p := ⟨w2.heap.size, 2, none⟩) hlv).trans v2
             have c0' := (hBq6.cell (p := ⟨bv, ov + k, none⟩) hlc).trans c0
             have hlu' := World.block_lt_of_cell? w6 _ u0'
             have hlv' := World.block_lt_of_cell? w6 _ v0'
             have hlc' := World.block_lt_of_cell? w6 _ c0'
             have HBq6 := Lib.hid hBq6
             clear hB6 hBq6 u0 u1 v0 v1 v2 c0
             go_wp2_with fail
             refine wp_region_held_drew (S := fun W => W.cell? ⟨AB, 0, none⟩ = some (.string a.t) ∧ W.cell? ⟨AB, 1, none⟩ = some (.slice (some ⟨bv, ov, none⟩) M cx) ∧ W.cell? ⟨w2.heap.size, 0, none⟩ = some (.string nm) ∧ W.cell? ⟨w2.heap.size, 1, none⟩ = some (.int .i64 syn) ∧ W.cell? ⟨w2.heap.size, 2, none⟩ = some (.bool sg) ∧ W.cell? ⟨bv, ov + k, none⟩ = some (.string x)) (by kernel_rfl) (⟨u0', u1', v0', v1', v2', c0'⟩) (fun hHeld => ?_)
             refine tk 0 ⟨some 87,_,_,_,_,_⟩ rfl ?_
             refine tk 1 ⟨some 88,_,_,_,_,_⟩ rfl ?_
             refine tk 2 ⟨some 89,_,_,_,_,_⟩ rfl ?_
             refine tu 3 ⟨some 90,_,_,_,_,_⟩ rfl ?_
             refine tu 4 ⟨some 91,_,_,_,_,_⟩ rfl ?_
             refine tu 5 ⟨some 92,_,_,_,_,_⟩ rfl ?_
             refine tu 6 ⟨some 93,_,_,_,_,_⟩ rfl ?_
             refine tu 7 ⟨some 94,_,_,_,_,_⟩ rfl ?_
             refine tu 8 ⟨some 95,_,_,_,_,_⟩ rfl ?_
             refine tu 9 ⟨some 96,_,_,_,_,_⟩ rfl ?_
             refine tu 10 ⟨some 97,_,_,_,_,_⟩ rfl ?_
             refine tu 11 ⟨some 98,_,_,_,_,_⟩ rfl ?_
             refine tu 12 ⟨some 99,_,_,_,_,_⟩ rfl ?_
             refine tu 13 ⟨some 100,_,_,_,_,_⟩ rfl ?_
             refine tu 14 ⟨some 101,_,_,_,_,_⟩ rfl ?_
             refine tk 15 ⟨some 102,_,_,_,_,_⟩ rfl ?_
             refine wpAnyH_done (by kernel_rfl) ?_ _
             have HB7 := Lib.hid (HBwr.out.trans (HBq6.out.mono HBwr.out.size)).drew
             clear hHeld u0' u1' v0' v1' v2' c0'
             go_wp2_with fail
             go_ret
             exact ⟨kt.ret_bool HJ.out.symm, HB7.out⟩
           ·obtain rfl : M = k := by omega
            have HF2 : Hid (fresh syn [] a.vs = true) := by
             show _ = _
             rw [hF.out, ← HM.out, List.drop_length]; rfl
            have HJ : Hid (atsF none L = atsF (prevT L (i + 1)) (L.drop (i + 1))) := by
             show _ = _
             rw [hJ.out, HST.out, HAF.out, HF2.out, HPO.out]; rfl
            go_wp2_with fail
            go_roundw
            case rel => exact ⟨i + 1, by omega, by go_num, HBrq, HJ⟩
            case measure => simp [intOf]; omega
         ·rw [hlb] at HPO
          have qc : decide ((0 : Int) ≤ cm) = true := decide_eq_true hcm
          have HJ : Hid (atsF none L = false) := by
           show _ = _
           rw [hJ.out, HST.out, HPO.out, Bool.and_false]; rfl
          clear hlb
          go_wp2_with fail
          refine wp_region_held_drew (S := fun W => W.cell? ⟨wr.heap.size, 0, none⟩ = some (.string a.t) ∧ W.cell? ⟨wr.heap.size, 1, none⟩ = some (.slice ax M cx) ∧ W.cell? ⟨w2.heap.size, 0, none⟩ = some (.string nm) ∧ W.cell? ⟨w2.heap.size, 1, none⟩ = some (.int .i64 syn) ∧ W.cell? ⟨w2.heap.size, 2, none⟩ = some (.bool sg) ∧ W.cell? ⟨w.heap.size, 1, none⟩ = some (.slice (some ⟨b, o, none⟩) N ac) ∧ W.cell? ⟨b, o + kp * 2, none⟩ = some (.string p)) (by kernel_rfl) (⟨x0, x1, y0, y1, y2, z1, p0⟩) (fun hHeld => ?_)
          refine tk 0 ⟨some 55,_,_,_,_,_⟩ rfl ?_
          refine tk 1 ⟨some 56,_,_,_,_,_⟩ rfl ?_
          refine tk 2 ⟨some 57,_,_,_,_,_⟩ rfl ?_
          refine tk 3 ⟨some 58,_,_,_,_,_⟩ rfl ?_
          refine tk 4 ⟨some 59,_,_,_,_,_⟩ rfl ?_
          refine tk 5 ⟨some 60,_,_,_,_,_⟩ rfl ?_
          refine tk 6 ⟨some 61,_,_,_,_,_⟩ rfl ?_
          refine tk 7 ⟨some 62,_,_,_,_,_⟩ rfl ?_
          refine tk 8 ⟨some 63,_,_,_,_,_⟩ rfl ?_
          refine tk 9 ⟨some 64,_,_,_,_,_⟩ rfl ?_
          refine tk 10 ⟨some 65,_,_,_,_,_⟩ rfl ?_
          refine tk 11 ⟨some 66,_,_,_,_,_⟩ rfl ?_
          refine tc 12 ⟨some 67,_,_,_,_,_⟩ rfl (fun K hK => ?_)
          go_simp
          go_at_call 68; refine (HLS.out _).mono ?_; rintro e w5 ⟨rfl, hB5⟩
          refine hK.out _ _ (⟨(hB5.cell (p := ⟨wr.heap.size, 0, none⟩) hla).trans (x0), (hB5.cell (p := ⟨wr.heap.size, 1, none⟩) hla).trans (x1), (hB5.cell (p := ⟨w2.heap.size, 0, none⟩) hlt2).trans (y0), (hB5.cell (p := ⟨w2.heap.size, 1, none⟩) hlt2).trans (y1), (hB5.cell (p := ⟨w2.heap.size, 2, none⟩) hlt2).trans (y2), (hB5.cell (p := ⟨w.heap.size, 1, none⟩) hlz).trans (z1), (hB5.cell (p := ⟨b, o + kp * 2, none⟩) hlp).trans (p0)⟩) (fun hHeld => ?_)
          clear hK
          try simp only [Act.put, List.setIfInBounds_toArray, List.set_cons_zero, List.set_cons_succ]
          refine tk 13 ⟨some 68,_,_,_,_,_⟩ rfl ?_
          refine tk 14 ⟨some 69,_,_,_,_,_⟩ rfl ?_
          refine wpAnyH_done (by kernel_rfl) ?_ _
          have HB5 := Lib.hid (HBw4.out.trans (((Below.refl w4.heap.size w4).drew.trans hB5).mono HBw4.out.size))
          clear hHeld hB5
          go_wp2_with fail
          go_ret
          exact ⟨kt.ret_bool HJ.out.symm, HB5.out⟩
       ·have dt : decide (T < M) = true := decide_eq_true (by omega)
        have HJ : Hid (atsF none L = false) := by
         show _ = _
         rw [hJ.out, HST.out, HAO.out, decide_eq_false hMT, Bool.and_false]; rfl
        clear HAO
        go_wp2_with fail
        refine (HFD.out _).mono ?_
        rintro e w2 ⟨rfl, hB2⟩
        obtain ⟨w3, hw3⟩ : ∃ W, w2.alloc (.cells #[.string nm, .int .i64 syn, .bool sg] 29) = W := ⟨_, rfl⟩
        have hB3 : Below w2.heap.size w2 w3 := by rw [← hw3]; exact (Below.refl _ _).alloc (Nat.le_refl _) _
        have y0 : w3.cell? ⟨w2.heap.size, 0, none⟩ = some (.string nm) := by rw [← hw3, World.cell?_alloc_new]; rfl
        have y1 : w3.cell? ⟨w2.heap.size, 1, none⟩ = some (.int .i64 syn) := by rw [← hw3, World.cell?_alloc_new]; rfl
        have y2 : w3.cell? ⟨w2.heap.size, 2, none⟩ = some (.bool sg) := by rw [← hw3, World.cell?_alloc_new]; rfl
        have hBa : Below wr.heap.size wr w3 := HBA.out.trans ((hB2.trans (hB3.mono hB2.size)).mono HBA.out.size)
        have hA23 := hB2.trans (hB3.mono hB2.size)
        have HTA3 := Lib.hid (attrB_below HTA.out hA23)
        obtain ⟨x0, x1⟩ := attrB_cells HTA3.out
        have z1 := (hBa.cell (p := ⟨w.heap.size, 1, none⟩) hlz0).trans ze
        have HBr3 := Lib.hid (hB.out.trans (hBa.mono hsz))
        have HBw3 := Lib.hid (HB1.out.trans (HBr3.out.mono hs1))
        have hla := World.block_lt_of_cell? w3 _ x0
        have hlt2 := World.block_lt_of_cell? w3 _ y0
        have hlz := World.block_lt_of_cell? w3 _ z1
        have HBA3 := Lib.hid hBa
        clear hB2 hB3 hBa hA23 ze
        go_wp2_with fail
        refine wp_region_held_drew (S := fun W => W.cell? ⟨wr.heap.size, 0, none⟩ = some (.string a.t) ∧ W.cell? ⟨wr.heap.size, 1, none⟩ = some (.slice ax M cx) ∧ W.cell? ⟨w2.heap.size, 0, none⟩ = some (.string nm) ∧ W.cell? ⟨w2.heap.size, 1, none⟩ = some (.int .i64 syn) ∧ W.cell? ⟨w2.heap.size, 2, none⟩ = some (.bool sg) ∧ W.cell? ⟨w.heap.size, 1, none⟩ = some (.slice (some ⟨b, o, none⟩) N ac)) (by kernel_rfl) (⟨x0, x1, y0, y1, y2, z1⟩) (fun hHeld => ?_)
        refine tk 0 ⟨some 32,_,_,_,_,_⟩ rfl ?_
        refine tk 1 ⟨some 33,_,_,_,_,_⟩ rfl ?_
        refine tk 2 ⟨some 34,_,_,_,_,_⟩ rfl ?_
        refine tk 3 ⟨some 35,_,_,_,_,_⟩ rfl ?_
        refine tk 4 ⟨some 36,_,_,_,_,_⟩ rfl ?_
        refine tk 5 ⟨some 37,_,_,_,_,_⟩ rfl ?_
        refine tk 6 ⟨some 38,_,_,_,_,_⟩ rfl ?_
        refine tk 7 ⟨some 39,_,_,_,_,_⟩ rfl ?_
        refine tk 8 ⟨some 40,_,_,_,_,_⟩ rfl ?_
        refine tk 9 ⟨some 41,_,_,_,_,_⟩ rfl ?_
        refine tk 10 ⟨some 42,_,_,_,_,_⟩ rfl ?_
        refine tk 11 ⟨some 43,_,_,_,_,_⟩ rfl ?_
        refine tk 12 ⟨some 44,_,_,_,_,_⟩ rfl ?_
        refine tk 13 ⟨some 45,_,_,_,_,_⟩ rfl ?_
        refine tk 14 ⟨some 46,_,_,_,_,_⟩ rfl ?_
        refine tk 15 ⟨some 47,_,_,_,_,_⟩ rfl ?_
        refine tk 16 ⟨some 48,_,_,_,_,_⟩ rfl ?_
        refine tk 17 ⟨some 49,_,_,_,_,_⟩ rfl ?_
        refine tk 18 ⟨some 50,_,_,_,_,_⟩ rfl ?_
        refine tk 19 ⟨some 51,_,_,_,_,_⟩ rfl ?_
        refine tc 20 ⟨some 52,_,_,_,_,_⟩ rfl (fun K hK => ?_)
        go_simp
        go_at_call 67; refine (HMO.out _).mono ?_; rintro e w4 ⟨rfl, hB4⟩
        refine hK.out _ _ (⟨(hB4.cell (p := ⟨wr.heap.size, 0, none⟩) hla).trans (x0), (hB4.cell (p := ⟨wr.heap.size, 1, none⟩) hla).trans (x1), (hB4.cell (p := ⟨w2.heap.size, 0, none⟩) hlt2).trans (y0), (hB4.cell (p := ⟨w2.heap.size, 1, none⟩) hlt2).trans (y1), (hB4.cell (p := ⟨w2.heap.size, 2, none⟩) hlt2).trans (y2), (hB4.cell (p := ⟨w.heap.size, 1, none⟩) hlz).trans (z1)⟩) (fun hHeld => ?_)
        clear hK
        try simp only [Act.put, List.setIfInBounds_toArray, List.set_cons_zero, List.set_cons_succ]
        refine tk 21 ⟨some 53,_,_,_,_,_⟩ rfl ?_
        refine tk 22 ⟨some 54,_,_,_,_,_⟩ rfl ?_
        refine wpAnyH_done (by kernel_rfl) ?_ _
        have HB4 := Lib.hid (HBw3.out.trans (((Below.refl w3.heap.size w3).drew.trans hB4).mono HBw3.out.size))
        clear hHeld hB4
        go_wp2_with fail
        go_ret
        exact ⟨kt.ret_bool HJ.out.symm, HB4.out⟩
      ·have dm : decide ((M : Int) < 1) = true := decide_eq_true (by omega)
       have dm' : decide (M < 1) = true := decide_eq_true (by omega)
       have HJ : Hid (atsF none L = false) := by
        show _ = _
        rw [hJ.out, HST.out, HAO.out, decide_eq_false hM1]; rfl
       clear HAO
       go_wp2_with fail
       refine (HFD.out _).mono ?_
       rintro e w2 ⟨rfl, hB2⟩
       obtain ⟨w3, hw3⟩ : ∃ W, w2.alloc (.cells #[.string nm, .int .i64 syn, .bool sg] 29) = W := ⟨_, rfl⟩
       have hB3 : Below w2.heap.size w2 w3 := by rw [← hw3]; exact (Below.refl _ _).alloc (Nat.le_refl _) _
       have y0 : w3.cell? ⟨w2.heap.size, 0, none⟩ = some (.string nm) := by rw [← hw3, World.cell?_alloc_new]; rfl
       have y1 : w3.cell? ⟨w2.heap.size, 1, none⟩ = some (.int .i64 syn) := by rw [← hw3, World.cell?_alloc_new]; rfl
       have y2 : w3.cell? ⟨w2.heap.size, 2, none⟩ = some (.bool sg) := by rw [← hw3, World.cell?_alloc_new]; rfl
       have hBa : Below wr.heap.size wr w3 := HBA.out.trans ((hB2.trans (hB3.mono hB2.size)).mono HBA.out.size)
       have hA23 := hB2.trans (hB3.mono hB2.size)
       have HTA3 := Lib.hid (attrB_below HTA.out hA23)
       obtain ⟨x0, x1⟩ := attrB_cells HTA3.out
       have z1 := (hBa.cell (p := ⟨w.heap.size, 1, none⟩) hlz0).trans ze
       have HBr3 := Lib.hid (hB.out.trans (hBa.mono hsz))
       have HBw3 := Lib.hid (HB1.out.trans (HBr3.out.mono hs1))
       have hla := World.block_lt_of_cell? w3 _ x0
       have hlt2 := World.block_lt_of_cell? w3 _ y0
       have hlz := World.block_lt_of_cell? w3 _ z1
       have HBA3 := Lib.hid hBa
       clear hB2 hB3 hBa hA23 ze
       go_wp2_with fail
       refine wp_region_held_drew (S := fun W => W.cell? ⟨wr.heap.size, 0, none⟩ = some (.string a.t) ∧ W.cell? ⟨wr.heap.size, 1, none⟩ = some (.slice ax M cx) ∧ W.cell? ⟨w2.heap.size, 0, none⟩ = some (.string nm) ∧ W.cell? ⟨w2.heap.size, 1, none⟩ = some (.int .i64 syn) ∧ W.cell? ⟨w2.heap.size, 2, none⟩ = some (.bool sg) ∧ W.cell? ⟨w.heap.size, 1, none⟩ = some (.slice (some ⟨b, o, none⟩) N ac)) (by kernel_rfl) (⟨x0, x1, y0, y1, y2, z1⟩) (fun hHeld => ?_)
       refine tk 0 ⟨some 32,_,_,_,_,_⟩ rfl ?_
       refine tk 1 ⟨some 33,_,_,_,_,_⟩ rfl ?_
       refine tk 2 ⟨some 34,_,_,_,_,_⟩ rfl ?_
       refine tk 3 ⟨some 35,_,_,_,_,_⟩ rfl ?_
       refine tk 4 ⟨some 36,_,_,_,_,_⟩ rfl ?_
       refine tk 5 ⟨some 37,_,_,_,_,_⟩ rfl ?_
       refine tk 6 ⟨some 38,_,_,_,_,_⟩ rfl ?_
       refine tk 7 ⟨some 39,_,_,_,_,_⟩ rfl ?_
       refine tk 8 ⟨some 40,_,_,_,_,_⟩ rfl ?_
       refine tk 9 ⟨some 41,_,_,_,_,_⟩ rfl ?_
       refine tk 10 ⟨some 42,_,_,_,_,_⟩ rfl ?_
       refine tk 11 ⟨some 43,_,_,_,_,_⟩ rfl ?_
       refine tk 12 ⟨some 44,_,_,_,_,_⟩ rfl ?_
       refine tk 13 ⟨some 45,_,_,_,_,_⟩ rfl ?_
       refine tk 14 ⟨some 46,_,_,_,_,_⟩ rfl ?_
       refine tk 15 ⟨some 47,_,_,_,_,_⟩ rfl ?_
       refine tu 16 ⟨some 48,_,_,_,_,_⟩ rfl ?_
       refine tu 17 ⟨some 49,_,_,_,_,_⟩ rfl ?_
       refine tu 18 ⟨some 50,_,_,_,_,_⟩ rfl ?_
       refine tu 19 ⟨some 51,_,_,_,_,_⟩ rfl ?_
       refine tu 20 ⟨some 52,_,_,_,_,_⟩ rfl ?_
       refine tu 21 ⟨some 53,_,_,_,_,_⟩ rfl ?_
       refine tk 22 ⟨some 54,_,_,_,_,_⟩ rfl ?_
       refine wpAnyH_done (by kernel_rfl) ?_ _
       clear hHeld
       go_wp2_with fail
       go_ret
       exact ⟨kt.ret_bool HJ.out.symm, HBw3.out.drew⟩
     ·have HTY : Hid (tyOf a.t = none) := by rw [HFN.out, if_neg hne]; exact rfl
      have HJ : Hid (atsF none L = false) := by
       show _ = _
       rw [hJ.out, HST.out, atOK_none HTY.out]; rfl
      have qe : ((bs ty.name).toList == a.t.toList) = false := ne_str hne
      have qn : ((bs ty.name).toList != a.t.toList) = true := by
       have := ne_str hne
       rw [bne, this]; rfl
      clear HFN hne HTY
      generalize bs ty.name = nm at HFD1 qn qe
      generalize ty.syn = syn at HFD1
      generalize ty.single = sg at HFD1
      have HFD := HFD1
      clear HFD1
      go_wp2_with fail
      refine (HFD.out _).mono ?_
      rintro e w2 ⟨rfl, hB2⟩
      obtain ⟨w3, hw3⟩ : ∃ W, w2.alloc (.cells #[.string nm, .int .i64 syn, .bool sg] 29) = W := ⟨_, rfl⟩
      have hB3 : Below w2.heap.size w2 w3 := by rw [← hw3]; exact (Below.refl _ _).alloc (Nat.le_refl _) _
      have y0 : w3.cell? ⟨w2.heap.size, 0, none⟩ = some (.string nm) := by rw [← hw3, World.cell?_alloc_new]; rfl
      have y1 : w3.cell? ⟨w2.heap.size, 1, none⟩ = some (.int .i64 syn) := by rw [← hw3, World.cell?_alloc_new]; rfl
      have y2 : w3.cell? ⟨w2.heap.size, 2, none⟩ = some (.bool sg) := by rw [← hw3, World.cell?_alloc_new]; rfl
      have hBa : Below wr.heap.size wr w3 := HBA.out.trans ((hB2.trans (hB3.mono hB2.size)).mono HBA.out.size)
      have hA23 := hB2.trans (hB3.mono hB2.size)
      have HTA3 := Lib.hid (attrB_below HTA.out hA23)
      obtain ⟨x0, x1⟩ := attrB_cells HTA3.out
      have z1 := (hBa.cell (p := ⟨w.heap.size, 1, none⟩) hlz0).trans ze
      have HBr3 := Lib.hid (hB.out.trans (hBa.mono hsz))
      have HBw3 := Lib.hid (HB1.out.trans (HBr3.out.mono hs1))
      have hla := World.block_lt_of_cell? w3 _ x0
      have hlt2 := World.block_lt_of_cell? w3 _ y0
      have hlz := World.block_lt_of_cell? w3 _ z1
      have HBA3 := Lib.hid hBa
      clear hB2 hB3 hBa hA23 ze
      go_wp2_with fail
      refine wp_region_held_drew (S := fun W => W.cell? ⟨wr.heap.size, 0, none⟩ = some (.string a.t) ∧ W.cell? ⟨wr.heap.size, 1, none⟩ = some (.slice ax M cx) ∧ W.cell? ⟨w2.heap.size, 0, none⟩ = some (.string nm) ∧ W.cell? ⟨w2.heap.size, 1, none⟩ = some (.int .i64 syn) ∧ W.cell? ⟨w2.heap.size, 2, none⟩ = some (.bool sg) ∧ W.cell? ⟨w.heap.size, 1, none⟩ = some (.slice (some ⟨b, o, none⟩) N ac)) (by kernel_rfl) (⟨x0, x1, y0, y1, y2, z1⟩) (fun hHeld => ?_)
      refine tk 0 ⟨some 32,_,_,_,_,_⟩ rfl ?_
      refine tk 1 ⟨some 33,_,_,_,_,_⟩ rfl ?_
      refine tk 2 ⟨some 34,_,_,_,_,_⟩ rfl ?_
      refine tk 3 ⟨some 35,_,_,_,_,_⟩ rfl ?_
      refine tk 4 ⟨some 36,_,_,_,_,_⟩ rfl ?_
      refine tk 5 ⟨some 37,_,_,_,_,_⟩ rfl ?_
      refine tk 6 ⟨some 38,_,_,_,_,_⟩ rfl ?_
      refine tk 7 ⟨some 39,_,_,_,_,_⟩ rfl ?_
      refine tk 8 ⟨some 40,_,_,_,_,_⟩ rfl ?_
      refine tk 9 ⟨some 41,_,_,_,_,_⟩ rfl ?_
      refine tu 10 ⟨some 42,_,_,_,_,_⟩ rfl ?_
      refine tu 11 ⟨some 43,_,_,_,_,_⟩ rfl ?_
      refine tu 12 ⟨some 44,_,_,_,_,_⟩ rfl ?_
      refine tu 13 ⟨some 45,_,_,_,_,_⟩ rfl ?_
      refine tk 14 ⟨some 46,_,_,_,_,_⟩ rfl ?_
      refine tk 15 ⟨some 47,_,_,_,_,_⟩ rfl ?_
      refine tu 16 ⟨some 48,_,_,_,_,_⟩ rfl ?_
      refine tu 17 ⟨some 49,_,_,_,_,_⟩ rfl ?_
      refine tu 18 ⟨some 50,_,_,_,_,_⟩ rfl ?_
      refine tu 19 ⟨some 51,_,_,_,_,_⟩ rfl ?_
      refine tu 20 ⟨some 52,_,_,_,_,_⟩ rfl ?_
      refine tu 21 ⟨some 53,_,_,_,_,_⟩ rfl ?_
      refine tk 22 ⟨some 54,_,_,_,_,_⟩ rfl ?_
      refine wpAnyH_done (by kernel_rfl) ?_ _
      clear hHeld
      go_wp2_with fail
      go_ret
      exact ⟨kt.ret_bool HJ.out.symm, HBw3.out.drew⟩
   ·obtain rfl : N = i := by omega
    have HJ : Hid (atsF none L = true) := by
     show _ = _
     rw [hJ.out, ← HN.out, List.drop_length]; rfl
    go_wp2_with fail
    go_ret
    exact ⟨kt.ret_bool HJ.out.symm, HBw.out⟩
end etw
end Go.Proofs.YtcolcogobdgejaaGreatDoor
/-! Same -/
namespace Go.Proofs.YtcolcogobdgejaaGreatDoor
open Go.RowKit
namespace same
open tupw
theorem str_ne {x y : ByteArray} (h : ¬ x = y) : (x.toList == y.toList) = false := by
 rw [beq_eq_false_iff_ne]
 intro e
 exact h (kt.str_eq (by rw [← Lib.toList_data, ← Lib.toList_data, e]))
theorem take_next {l m : List ByteArray} {i : Nat} (h1 : i < l.length) (h2 : i < m.length) (h : l.take i = m.take i) (he : l[i] = m[i]) : l.take (i + 1) = m.take (i + 1) := by
 rw [List.take_succ_eq_append_getElem h1, List.take_succ_eq_append_getElem h2, h, he]
theorem ne_at {l m : List ByteArray} {i : Nat} (h1 : i < l.length) (h2 : i < m.length) (he : ¬ l[i] = m[i]) : ¬ l = m := by
 rintro rfl
 exact he rfl
theorem below_drewN {B : Nat} {a b : World} (h : Below B a b) (n : Nat) : Below B a (b.drewN n) := ⟨h.os, h.tape, h.output, h.size, h.block⟩
set_option maxHeartbeats 1100000 in
theorem same_any (a1 a2 : Option Addr) (c1 c2 : Nat) (l m : List ByteArray) (w : World) (h1 : Hid (Strs w a1 l)) (h2 : Hid (Strs w a2 m)) (hm : m.length ≤ 1100000) :
  Calls Tryz.prog 20 #[.slice a1 l.length c1, .slice a2 m.length c2] w fun e w' => e = .returned (.bool (decide (l = m))) ∧ Below w.heap.size w w' := by
 by_cases hl : l.length = m.length
 ·rw [hl]
  go_enter Tryz.func20, Tryz.ntmps20
  go_wp2_with fail
  go_loopw [5] (fun iv wr => ∃ i : Nat, i ≤ m.length ∧ iv = .int .i64 i ∧ Hid (l.take i = m.take i) ∧ Below w.heap.size w wr) (fun iv _ => m.length - (intOf iv).toNat)
  case atStart => exact ⟨0, Nat.zero_le _, rfl, by show _ = _; simp, Below.refl _ _⟩
  case round =>
   obtain ⟨i, hi, rfl, hE, hB⟩ := hrel
   by_cases c : i < m.length
   ·have c' : (i : Int) < (m.length : Int) := by omega
    have cl : i < l.length := by omega
    have hcc := Lib.hid c
    obtain ⟨b1, o1, e1, f1⟩ := h1.out i cl
    obtain ⟨b2, o2, e2, f2⟩ := h2.out i c
    have g1 := (hB.cell (World.block_lt_of_cell? w _ f1)).trans f1
    have g2 := (hB.cell (World.block_lt_of_cell? w _ f2)).trans f2
    obtain ⟨x, hx⟩ : ∃ x : ByteArray, Hid (x = l[i]'cl) := ⟨l[i]'cl, rfl⟩
    obtain ⟨y, hy⟩ : ∃ y : ByteArray, Hid (y = m[i]'c) := ⟨m[i]'c, rfl⟩
    rw [← hx.out] at g1
    rw [← hy.out] at g2
    clear f1 f2
    subst e1 e2
    by_cases hxy : x = y
    ·have hn : Hid (l.take (i + 1) = m.take (i + 1)) := take_next cl c hE.out (by rw [← hx.out, ← hy.out, hxy])
     subst hxy
     go_wp2_with fail
     go_quiet (fail)
     go_wp2_with fail
     go_roundw
     case rel => exact ⟨i + 1, hcc.out, by go_num, hn, below_drewN hB nq⟩
     case measure =>
      have := hcc.out
      simp [intOf]; omega
    ·have hr : decide (l = m) = false := by
      rw [decide_eq_false_iff_not]
      exact ne_at cl c (by rw [← hx.out, ← hy.out]; exact hxy)
     have HR := Lib.hid hr
     have hne := str_ne hxy
     clear hr hxy
     go_wp2_with fail
     go_quiet (fail)
     go_wp2_with fail
     go_ret
     exact ⟨by rw [HR.out]; rfl, below_drewN hB nq⟩
   ·obtain rfl : i = m.length := by omega
    have c' : ¬ (m.length : Int) < (m.length : Int) := by omega
    have hr : decide (l = m) = true := by
     rw [decide_eq_true_iff]
     have := hE.out
     rw [List.take_of_length_le (Nat.le_refl _), List.take_of_length_le (by omega)] at this
     exact this
    have HR := Lib.hid hr
    clear hr
    go_wp2_with fail
    go_ret
    exact ⟨by rw [HR.out]; rfl, hB⟩
 ·have hr : decide (l = m) = false := by
   rw [decide_eq_false_iff_not]
   rintro rfl
   exact hl rfl
  have HR := Lib.hid hr
  have hl' : ((l.length : Int) == (m.length : Int)) = false := by rw [beq_eq_false_iff_ne]; omega
  clear hr hl
  go_enter Tryz.func20, Tryz.ntmps20
  go_wp2_with fail
  go_ret
  exact ⟨by rw [HR.out]; rfl, Below.refl _ _⟩
end same
end Go.Proofs.YtcolcogobdgejaaGreatDoor
/-! OpenS -/
namespace Go.Proofs.YtcolcogobdgejaaGreatDoor
open Go.RowKit Go.ChangeShapes Go.WideShapes Go.Deep
namespace opn
theorem cell_spot {w : World} {b o : Nat} {sp : Option Nat} {v : Value} (h : w.cell? ⟨b, o, sp⟩ = some v) : sp = none := by
 cases sp with
 | none => rfl
 | some x =>
  unfold World.cell? at h
  simp at h
  split at h <;> cases h
theorem list_of {α : Type} {Q : Nat → α → Prop} : ∀ (n : Nat), (∀ i, i < n → ∃ c, Q i c) → ∃ l : List α, l.length = n ∧ ∀ i (h : i < l.length), Q i l[i] := by
 intro n
 induction n with
 | zero => intro _; exact ⟨[], rfl, fun i h => by simp at h⟩
 | succ n ih =>
  intro h
  obtain ⟨l, hl, hq⟩ := ih (fun i hi => h i (by omega))
  obtain ⟨c, hc⟩ := h n (by omega)
  refine ⟨l ++ [c], by simp [hl], fun i hi => ?_⟩
  by_cases e : i < l.length
  ·rw [List.getElem_append_left e]; exact hq i e
  ·have : i = n := by simp at hi; omega
   subst this
   rw [List.getElem_append_right (by omega)]
   simpa using hc
section
variable {H : Type} {enc : TypeId × Value → H} {P : Program} {w : World} {base : Nat} {spare : Nat → Bool} {held : Bool}
theorem open_slice_fields {t e : TypeId} {fs : Array Field} {fuel : Nat} {cs : List Value} {x : DataW H × List MemPlace} (ht : P.underlying t = some (.slice e)) (he : P.underlying e = some (.struct fs))
  (hone : oneCellFields P fs = true) (hC : P.cellsOf e = fs.size) (h : DataW.trod enc P w base spare held fuel t cs = some x) :
  (cs = [.slice none 0 0] ∧ x = (.nil, [])) ∨
  ∃ (a : Addr) (len cap m : Nat) (D : Nat → DataW H) (Pl : Nat → List MemPlace), cs = [.slice (some a) len cap] ∧ base ≤ a.block ∧ len ≤ cap ∧ cap ≤ maxLen ∧ m = (if spare a.block then cap else len) ∧
   x = (.slice ((List.range len).map D) ((List.range (m - len)).map fun j => D (len + j)), MemPlace.row a (m * fs.size) ++ (List.range m).flatMap Pl) ∧
   ∀ i, i < m → ∃ (ys : List (DataW H × List MemPlace)) (n : Nat), D i = .agg (ys.map (·.1)) ∧ Pl i = ys.flatMap (·.2) ∧ ys.length = fs.size ∧
    ∀ (j : Nat) (f : Field), fs[j]? = some f → ∃ (v : Value) (y : DataW H × List MemPlace), w.cell? (a.add (i * fs.size + j)) = some v ∧ ys[j]? = some y ∧ DataW.trod enc P w base spare held n f.type [v] = some y := by
 rcases open_slice ht h with h0 | ⟨a, len, cap, m, n, D, Pl, hcs, hb, hl, hm, hmm, hx, hi⟩
 ·exact .inl h0
 ·refine .inr ⟨a, len, cap, m, D, Pl, hcs, hb, hl, hm, hmm, by rw [hC] at hx; exact hx, fun i him => ?_⟩
  obtain ⟨cs', hc, ht'⟩ := hi i him
  rw [hC] at hc
  obtain ⟨ys, n', hn', hy, hlen, hyl, hf⟩ := DataW.trod_struct he ht'
  obtain ⟨_, hcl, hat⟩ := World.cells?_some hc
  simp only [Prod.mk.injEq] at hy
  refine ⟨ys, n', hy.1, hy.2, hyl, fun j f hj => ?_⟩
  obtain ⟨ho, hk⟩ := hone_of hone j f hj
  have hjl : j < fs.size := (Array.getElem?_eq_some_iff.1 hj).1
  have hcell := hat j hjl
  have hv : cs'[j]? = some (cs'[j]'(by omega)) := List.getElem?_eq_getElem (by omega)
  have h1 := hf j f hj
  rw [ho, hk] at h1
  have hone' : (cs'.drop j).take 1 = [cs'[j]'(by omega)] := by
   rw [List.drop_eq_getElem_cons (by omega)]
   rfl
  rw [hone'] at h1
  have hys : ys[j]? = some (ys[j]'(by omega)) := List.getElem?_eq_getElem (by omega)
  refine ⟨_, _, ?_, hys, h1.trans hys⟩
  rw [← Go.Deep.add_add, hcell, hv]
end
end opn
end Go.Proofs.YtcolcogobdgejaaGreatDoor
/-! ArgsW -/
namespace Go.Proofs.YtcolcogobdgejaaGreatDoor
open Go.RowKit Go.ChangeShapes Go.WideShapes Go.Deep
namespace dnw
theorem avas_of {H : Type} {enc : TypeId × Value → H} {w : World} {base : Nat} {sp : Nat → Bool} {held : Bool} {cs : List Value} {x : DataW H × List MemPlace} {fuel : Nat}
  (h : DataW.trod enc Tryz.prog w base sp held fuel 22 cs = some x) : ∃ (ao : Option Addr) (l : List Av) (cap : Nat), cs = [.slice ao l.length cap] ∧ l.length ≤ cap ∧ l.length ≤ 9223372036854775807 ∧ Avas w ao l := by
 rcases opn.open_slice_fields Tryz.underlying22 Tryz.underlying62 (by kernel_rfl) (by kernel_rfl) h with ⟨hcs, _⟩ | ⟨a, len, cap, m, D, Pl, hcs, _, hlc, hcm, hm, _, hf⟩
 ·exact ⟨none, [], 0, hcs, Nat.le_refl _, by simp, fun i hi => by simp at hi⟩
 ·have hlm : len ≤ m := by rw [hm]; split <;> omega
  have hlmax : len ≤ 9223372036854775807 := by unfold maxLen at hcm; omega
  have key : ∀ i, i < len → ∃ c : Av, ∃ b o, some a = some ⟨b, o, none⟩ ∧ w.cell? ⟨b, o + i * 2, none⟩ = some (.string c.t) ∧ w.cell? ⟨b, o + i * 2 + 1, none⟩ = some (.string c.v) := by
   intro i hi
   obtain ⟨ys, n, _, _, _, hfs⟩ := hf i (by omega)
   obtain ⟨v0, y0, c0, _, t0⟩ := hfs 0 _ rfl
   obtain ⟨v1, y1, c1, _, t1⟩ := hfs 1 _ rfl
   obtain ⟨k, e0, _⟩ := DataW.trod_string Tryz.underlying9 t0
   obtain ⟨y, e1, _⟩ := DataW.trod_string Tryz.underlying9 t1
   simp only [List.cons.injEq, and_true] at e0 e1
   subst e0 e1
   have hcell : ∃ b o, a = ⟨b, o, none⟩ := by
    obtain ⟨ys0, n0, _, _, _, hfs0⟩ := hf 0 (by omega)
    obtain ⟨v, y, c, _, _⟩ := hfs0 0 _ rfl
    obtain ⟨b, o, s⟩ := a
    have e0 : (⟨b, o, s⟩ : Addr).add (0 * 2 + 0) = ⟨b, o, s⟩ := by unfold Addr.add; rfl
    have hc : w.cell? ((⟨b, o, s⟩ : Addr).add (0 * 2 + 0)) = some v := c
    rw [e0] at hc
    obtain rfl := opn.cell_spot hc
    exact ⟨b, o, rfl⟩
   obtain ⟨b, o', rfl⟩ := hcell
   have ad : ∀ j, (⟨b, o', none⟩ : Addr).add j = ⟨b, o' + j, none⟩ := fun j => by rw [Addr.add_mid]
   have d0 : w.cell? ((⟨b, o', none⟩ : Addr).add (i * 2 + 0)) = _ := c0
   have d1 : w.cell? ((⟨b, o', none⟩ : Addr).add (i * 2 + 1)) = _ := c1
   rw [ad] at d0 d1
   exact ⟨⟨k, y⟩, b, o', rfl, d0, by rw [Nat.add_assoc]; exact d1⟩
  obtain ⟨l, hl, hq⟩ := opn.list_of len key
  subst hl
  exact ⟨some a, l, cap, hcs, hlc, hlmax, hq⟩
end dnw
end Go.Proofs.YtcolcogobdgejaaGreatDoor
/-! StrsOf -/
namespace Go.Proofs.YtcolcogobdgejaaGreatDoor
open Go.RowKit
namespace tupo
open tupw
theorem cell_spot {w : World} {b o : Nat} {sp : Option Nat} {v : Value} (h : w.cell? ⟨b, o, sp⟩ = some v) : sp = none := by
 cases sp with
 | none => rfl
 | some x =>
  unfold World.cell? at h
  simp at h
  split at h <;> cases h
theorem texts_of {H : Type} {enc : TypeId × Value → H} {P : Program} {w : World} {base : Nat} {sp : Nat → Bool} {held : Bool} {t e : TypeId} {d : DataW H} {p : List MemPlace} {ao : Option Addr} {len cap : Nat}
  (ht : P.underlying t = some (.slice e)) (he : P.underlying e = some .string) (hc : P.cellsOf e = 1)
  (h : ∃ fuel, DataW.trod enc P w base sp held fuel t [.slice ao len cap] = some (d, p)) : ∃ l : List ByteArray, len = l.length ∧ Strs w ao l ∧ (∀ s ∈ l, s.size ≤ maxLen) ∧ len ≤ maxLen ∧ len ≤ cap ∧ (ao = none → len = 0 ∧ cap = 0) := by
 obtain ⟨fuel, h⟩ := h
 rcases ChangeShapes.open_strings ht he hc h with ⟨hcs, _⟩ | ⟨a, len', cap', ss, hcs, _, hlc, hcm, hlen, _, hcell, hsm⟩
 ·simp at hcs
  obtain ⟨rfl, rfl, rfl⟩ := hcs
  exact ⟨[], rfl, fun i hi => by simp at hi, fun s hs => by simp at hs, by omega, by omega, fun _ => ⟨rfl, rfl⟩⟩
 ·simp at hcs
  obtain ⟨rfl, rfl, rfl⟩ := hcs
  have hle : len ≤ ss.length := by rw [hlen]; split <;> omega
  refine ⟨ss.take len, by simp; omega, fun i hi => ?_, fun s hs => hsm s (List.mem_of_mem_take hs), by omega, hlc, fun e => by simp at e⟩
  have hi' : i < len := by simp at hi; omega
  have hc2 := hcell i (by omega)
  obtain ⟨b, o, spt⟩ := a
  have hsp : spt = none := by
   cases spt with
   | none => rfl
   | some x =>
    exfalso
    have hz := hcell 0 (by omega)
    have e0 : (⟨b, o, some x⟩ : Addr).add 0 = ⟨b, o, some x⟩ := by unfold Addr.add; rfl
    rw [e0] at hz
    exact absurd (cell_spot hz) (by simp)
  subst hsp
  refine ⟨b, o, rfl, ?_⟩
  rw [Addr.add_mid] at hc2
  rw [hc2, List.getElem_take]
  simp [List.getD, List.getElem?_eq_getElem (show i < ss.length by omega)]
end tupo
end Go.Proofs.YtcolcogobdgejaaGreatDoor
/-! EntO -/
namespace Go.Proofs.YtcolcogobdgejaaGreatDoor
open Go.RowKit Go.ChangeShapes Go.WideShapes Go.Deep
namespace etw
open etp
open dnw (Av Avas)
open tupw (Strs)
theorem strs_any {H : Type} {enc : TypeId × Value → H} {w : World} {base : Nat} {sp : Nat → Bool} {held : Bool} {cs : List Value} {x : DataW H × List MemPlace} {fuel : Nat}
  (h : DataW.trod enc Tryz.prog w base sp held fuel 32 cs = some x) : ∃ (ao : Option Addr) (l : List ByteArray) (cap : Nat), cs = [.slice ao l.length cap] ∧ l.length ≤ cap ∧ l.length ≤ 9223372036854775807 ∧ Strs w ao l := by
 obtain ⟨ao, len, cap, hcs⟩ : ∃ ao len cap, cs = [.slice ao len cap] := by
  rcases ChangeShapes.open_strings Tryz.underlying32 Tryz.underlying9 (by kernel_rfl) h with ⟨hcs, _⟩ | ⟨a, len', cap', ss, hcs, _⟩
  ·exact ⟨_, _, _, hcs⟩
  ·exact ⟨_, _, _, hcs⟩
 subst hcs
 obtain ⟨d, p⟩ := x
 obtain ⟨l, hlen, hS, _, hm, hc, _⟩ := tupo.texts_of Tryz.underlying32 Tryz.underlying9 (by kernel_rfl) ⟨fuel, h⟩
 subst hlen
 unfold maxLen at hm
 exact ⟨ao, l, cap, rfl, hc, by omega, hS⟩
theorem ats_of {H : Type} {enc : TypeId × Value → H} {w : World} {base : Nat} {sp : Nat → Bool} {held : Bool} {cs : List Value} {x : DataW H × List MemPlace} {fuel : Nat}
  (h : DataW.trod enc Tryz.prog w base sp held fuel 23 cs = some x) : ∃ (ao : Option Addr) (l : List At) (cap : Nat), cs = [.slice ao l.length cap] ∧ l.length ≤ cap ∧ l.length ≤ 9223372036854775807 ∧ Ats w ao l ∧ ∀ a ∈ l, a.vs.length ≤ 9223372036854775807 := by
 rcases opn.open_slice_fields Tryz.underlying23 Tryz.underlying57 (by kernel_rfl) (by kernel_rfl) h with ⟨hcs, _⟩ | ⟨a, len, cap, m, D, Pl, hcs, _, hlc, hcm, hm, _, hf⟩
 ·exact ⟨none, [], 0, hcs, Nat.le_refl _, by simp, fun i hi => by simp at hi, fun a ha => by simp at ha⟩
 ·have hlm : len ≤ m := by rw [hm]; split <;> omega
  have hlmax : len ≤ 9223372036854775807 := by unfold maxLen at hcm; omega
  have key : ∀ i, i < len → ∃ c : At, (∃ b o ax cx, some a = some ⟨b, o, none⟩ ∧ w.cell? ⟨b, o + i * 2, none⟩ = some (.string c.t) ∧ w.cell? ⟨b, o + i * 2 + 1, none⟩ = some (.slice ax c.vs.length cx) ∧ c.vs.length ≤ cx ∧ Strs w ax c.vs) ∧ c.vs.length ≤ 9223372036854775807 := by
   intro i hi
   obtain ⟨ys, n, _, _, _, hfs⟩ := hf i (by omega)
   obtain ⟨v0, y0, c0, _, t0⟩ := hfs 0 _ rfl
   obtain ⟨v1, y1, c1, _, t1⟩ := hfs 1 _ rfl
   obtain ⟨k, e0, _⟩ := DataW.trod_string Tryz.underlying9 t0
   obtain ⟨ax, vs, cx, e1, g1, g2, g3⟩ := strs_any t1
   simp only [List.cons.injEq, and_true] at e0 e1
   subst e0 e1
   have hcell : ∃ b o, a = ⟨b, o, none⟩ := by
    obtain ⟨ys0, n0, _, _, _, hfs0⟩ := hf 0 (by omega)
    obtain ⟨v, y, c, _, _⟩ := hfs0 0 _ rfl
    obtain ⟨b, o, s⟩ := a
    have e0 : (⟨b, o, s⟩ : Addr).add (0 * 2 + 0) = ⟨b, o, s⟩ := by unfold Addr.add; rfl
    have hc : w.cell? ((⟨b, o, s⟩ : Addr).add (0 * 2 + 0)) = some v := c
    rw [e0] at hc
    obtain rfl := opn.cell_spot hc
    exact ⟨b, o, rfl⟩
   obtain ⟨b, o', rfl⟩ := hcell
   have ad : ∀ j, (⟨b, o', none⟩ : Addr).add j = ⟨b, o' + j, none⟩ := fun j => by rw [Addr.add_mid]
   have d0 : w.cell? ((⟨b, o', none⟩ : Addr).add (i * 2 + 0)) = _ := c0
   have d1 : w.cell? ((⟨b, o', none⟩ : Addr).add (i * 2 + 1)) = _ := c1
   rw [ad] at d0 d1
   exact ⟨⟨k, vs⟩, ⟨b, o', ax, cx, rfl, d0, by rw [Nat.add_assoc]; exact d1, g1, g3⟩, g2⟩
  obtain ⟨l, hl, hq⟩ := opn.list_of len key
  subst hl
  refine ⟨some a, l, cap, hcs, hlc, hlmax, fun i hi => (hq i hi).1, fun c hc => ?_⟩
  obtain ⟨i, hi, rfl⟩ := List.mem_iff_getElem.1 hc
  exact (hq i hi).2
set_option maxRecDepth 20000 in
theorem ent_of {H : Type} {enc : TypeId × Value → H} {w : World} {base : Nat} {sp : Nat → Bool} {held : Bool} {r : Reach} {b0 : Nat} {v : Value} {d : DataW H} {p : List MemPlace}
  (hv : Value.okWide Tryz.prog w r b0 25 v) (h : DataW.Trod enc Tryz.prog w base sp held 25 v d p) : ∃ e : En, EntV w v e ∧ e.rdn.length ≤ 9223372036854775807 ∧ e.ats.length ≤ 9223372036854775807 ∧ ∀ a ∈ e.ats, a.vs.length ≤ 9223372036854775807 := by
 obtain ⟨v0, v1, y0, y1, n, rfl, _, _, h0, h1⟩ := Joins.open_agg2 Tryz.underlying25 (by kernel_rfl) (by kernel_rfl) hv h
 obtain ⟨ro, l, rc, e0, g0, g1, g2⟩ := dnw.avas_of h0
 obtain ⟨ao, m, ac, e1, k0, k1, k2, k3⟩ := ats_of h1
 simp only [List.cons.injEq, and_true] at e0 e1
 subst e0 e1
 exact ⟨⟨l, m⟩, ⟨ro, rc, ao, ac, rfl, g0, k0, g2, k2⟩, g1, k1, k3⟩
end etw
end Go.Proofs.YtcolcogobdgejaaGreatDoor
/-! TyF -/
namespace Go.Proofs.YtcolcogobdgejaaGreatDoor
open Go.RowKit
namespace atw
open atp
set_option linter.unusedVariables false
set_option linter.unusedSimpArgs false
def tyData : DataW Unit := .agg (tys.map fun t => .agg [.lit (.string t.name), .lit (.int .i64 t.syn), .lit (.bool t.single)])
theorem rows_take {α β : Type} (f : β → List α) (n : Nat) : ∀ (l : List β) (cs : List α), (∀ i (h : i < l.length), (cs.drop (i * n)).take n = f l[i]) → cs.take (l.length * n) = l.flatMap f := by
 intro l
 induction l with
 | nil => intro cs _; simp
 | cons b r ih =>
  intro cs h
  have h0 := h 0 (by simp)
  rw [Nat.zero_mul, List.drop_zero] at h0
  have h1 := ih (cs.drop n) (by
   intro i hi
   have := h (i + 1) (by simp; omega)
   rw [List.drop_drop, show n + i * n = (i + 1) * n by rw [Nat.add_mul, Nat.one_mul, Nat.add_comm]]
   exact this)
  rw [List.flatMap_cons, List.length_cons, show (r.length + 1) * n = n + r.length * n by rw [Nat.add_mul, Nat.one_mul, Nat.add_comm], List.take_add, h0, h1]
  rfl
set_option maxRecDepth 20000 in
theorem trod_ty {H : Type} {enc : TypeId × Value → H} {w : World} {base : Nat} {sp : Nat → Bool} {held : Bool} {fuel : Nat} {cs : List Value} {q : List MemPlace} {t : Ty}
  (h : DataW.trod enc Tryz.prog w base sp held fuel 29 cs = some (.agg [.lit (.string t.name), .lit (.int .i64 t.syn), .lit (.bool t.single)], q)) : cs = tval t := by
 obtain ⟨y0, y1, y2, n, hx, hl, h0, h1, h2⟩ := Deep.trod_struct3 Tryz.underlying29 h
 obtain ⟨s, e0, rfl, _⟩ := DataW.trod_string Tryz.underlying9 h0
 obtain ⟨z, e1, rfl, _⟩ := DataW.trod_int Tryz.underlying3 h1
 obtain ⟨b, e2, rfl⟩ := DataW.trod_bool Tryz.underlying4 h2
 have hx1 := congrArg Prod.fst hx
 simp only [DataW.agg.injEq, List.cons.injEq, DataW.lit.injEq, Lit.string.injEq, Lit.int.injEq, Lit.bool.injEq, true_and, and_true] at hx1
 obtain ⟨x0, x1, x2⟩ := hx1
 have k0 : Tryz.prog.cellsOf 9 = 1 := by kernel_rfl
 have k1 : Tryz.prog.cellsOf 3 = 1 := by kernel_rfl
 have k2 : Tryz.prog.cellsOf 4 = 1 := by kernel_rfl
 have k3 : Tryz.prog.cellsOf 29 = 3 := by kernel_rfl
 rw [k3] at hl
 obtain ⟨a, b', c, rfl⟩ : ∃ a b' c, cs = [a, b', c] := by
  match cs, hl with
  | [a, b', c], _ => exact ⟨a, b', c, rfl⟩
 ·skip
  have e0' : [a] = [Value.string s] := by simpa [k0] using e0
  have e1' : [b'] = [Value.int .i64 z] := by simpa [k1] using e1
  have e2' : [c] = [Value.bool b] := by simpa [k2] using e2
  cases e0'; cases e1'; cases e2'
  unfold tval bs
  rw [x0, x1, x2]
theorem tyEnv_of_reads {w : World} (h : Lib.VarReads Tryz.prog w "rollbook/attr.types" tyData) : Hid (TyEnv w) := by
 obtain ⟨g, t, cs, fuel, p, hg, hty, hvar, hd⟩ := h
 obtain rfl := Option.some.inj ((show Tryz.prog.globalNamed "rollbook/attr.types" = some 0 by kernel_rfl).symm.trans hg)
 obtain rfl := Option.some.inj ((show (Tryz.prog.globals[0]?).map (·.type) = some 152 by kernel_rfl).symm.trans hty)
 have k3 : Tryz.prog.cellsOf 29 = 3 := by kernel_rfl
 have hall := rows_take tval 3 tys cs.toList (by
  intro i hi
  obtain ⟨fuel', d, q, hdi, he⟩ := Lib.array_elem Tryz.underlying152 hd i hi
  rw [List.getElem?_map, List.getElem?_eq_getElem hi] at hdi
  simp only [Option.map_some, Option.some.injEq] at hdi
  subst hdi
  rw [k3] at he
  exact trod_ty he)
 intro j v hj
 have hlt : j < 60 := by
  have h1 := (List.getElem?_eq_some_iff.1 hj).1
  have h2 : tcells.length = 60 := by kernel_rfl
  omega
 have hj2 : (cs.toList.take (tys.length * 3))[j]? = some v := by rw [hall]; exact hj
 rw [List.getElem?_take, if_pos (by rw [tys_len]; omega)] at hj2
 rw [Nat.zero_add, World.var?_cell hg hvar j, ← Array.getElem?_toList]
 exact hj2
end atw
end Go.Proofs.YtcolcogobdgejaaGreatDoor
