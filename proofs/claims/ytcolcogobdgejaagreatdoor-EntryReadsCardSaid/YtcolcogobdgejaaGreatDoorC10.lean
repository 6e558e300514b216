/- One text out of several: WithW, BdW, ResW. -/
import Derived.Test.YtcolcogobdgejaaGreatDoorC1
import Derived.Test.YtcolcogobdgejaaGreatDoorC9
import Derived.Test.YtcolcogobdgejaaGreatDoorC8
/-! WithW -/
namespace Go.Proofs.YtcolcogobdgejaaGreatDoor
open Go.RowKit
namespace etw
open atp atw etp
open dnw (Av Avas)
open tupw (Strs strs_below)
set_option linter.unusedVariables false
set_option linter.unusedSimpArgs false
set_option maxRecDepth 20000 in
set_option maxHeartbeats 4000000 in
theorem with_any (v : Value) (E : En) (n : ByteArray) (bo : Option Addr) (bcap : Nat) (l : List ByteArray) (w : World) (hv : Hid (EntV w v E)) (hb : Hid (Bd E)) (hS : Hid (Strs w bo l)) (hl : l.length ≤ 100000) (hlc : l.length ≤ bcap) :
  Calls Tryz.prog 78 #[v, .string n, .slice bo l.length bcap] w fun e w' => EntE (withE E n l) w e w' := by
 obtain ⟨ro, rc, ao, ac, Nr, N, rfl, HN, HA, hac, HNr, HAv, hrc⟩ := ent_form hv.out
 have hNb : N ≤ 100000 := by rw [← HN.out]; exact hb.out.al
 have hNrb : Nr ≤ 100000 := by rw [← HNr.out]; exact hb.out.rl
 have HVB := Lib.hid hb.out.as_
 have HCN0 : Hid (∀ W, Below w.heap.size w W → Calls Tryz.prog 87 #[.slice ro E.rdn.length rc] W fun e w' => ClonA E.rdn W e w') := fun W h => cloneA_any ro rc E.rdn W (Lib.hid (dnw.avas_below HAv.out h)) (by rw [HNr.out]; omega)
 have HCL0 : Hid (∀ W, Below w.heap.size w W → Calls Tryz.prog 71 #[.slice bo l.length bcap] W fun e w' => CloneE l W e w') := fun W h => clone_any _ l W ⟨bo, bcap, rfl, hlc, strs_below hS.out h⟩ (by omega)
 have HD : Hid ((decide (l = [])) = ((l.length : Int) == 0)) := by
  show _ = _
  rw [Bool.eq_iff_iff, decide_eq_true_iff, beq_iff_eq]
  constructor
  ·intro h; rw [h]; rfl
  ·intro h; exact List.eq_nil_of_length_eq_zero (by omega)
 have HRES : Hid (∀ v' w' (D : List At), D = withF n l (decide (l = [])) E.ats → EntV w' v' ⟨E.rdn, D⟩ → Below w.heap.size w w' → EntE (withE E n l) w (.returned v') w') := fun v' w' D h1 h2 h3 => ⟨v', rfl, by rw [h1] at h2; exact h2, h3⟩
 have HAL := Lib.hid hb.out.al
 obtain ⟨rdn, L⟩ := E
 simp only at HN HA HNr HAv HCN0 HRES HVB
 rw [HNr.out] at HCN0
 obtain ⟨K, hK0⟩ : ∃ K, l.length = K := ⟨_, rfl⟩
 rw [hK0] at HCL0 HD hl hlc ⊢
 have HKK := Lib.hid hK0
 clear hK0 hv
 obtain ⟨W1, hW1⟩ : ∃ W, w.alloc (.cells #[.slice ro Nr rc, .slice ao N ac] 25) = W := ⟨_, rfl⟩
 have hB1 : Below w.heap.size w W1 := by rw [← hW1]; exact (Below.refl _ _).alloc (Nat.le_refl _) _
 have hT1 : EntB W1 w.heap.size (.slice ro Nr rc) (.slice ao N ac) := by rw [← hW1]; exact entB_new _ _ _
 obtain ⟨W2, hW2⟩ : ∃ W, W1.alloc (.cells #[.slice none 0 0, .slice none 0 0] 25) = W := ⟨_, rfl⟩
 have hB2 : Below W1.heap.size W1 W2 := by rw [← hW2]; exact (Below.refl _ _).alloc (Nat.le_refl _) _
 have hT2 := entB_below hT1 hB2
 obtain ⟨q, hqq⟩ : ∃ q, W1.heap.size = q := ⟨_, rfl⟩
 have hqw : w.heap.size < q := by rw [← hqq]; exact kt.bld_lt hT1
 have hQ2 : EntB W2 q (.slice none 0 0) (.slice none 0 0) := by rw [← hW2, ← hqq]; exact entB_new _ _ _
 have HB2 := Lib.hid (hB1.trans (hB2.mono hB1.size))
 have hz2 := HB2.out.size
 obtain ⟨k0, k1⟩ := entB_cells hT2
 have HT2 := Lib.hid hT2
 have HQ2 := Lib.hid hQ2
 have HCN := Lib.hid (HCN0.out W2 HB2.out)
 clear hB1 hB2 hT1 hT2 hQ2 HCN0
 go_enter Tryz.func78, Tryz.ntmps78
 go_wp2_with fail
 refine HCN.out.mono ?_
 rintro e w3 ⟨ro', rc', rfl, hrc', hav', hB3⟩
 rw [HNr.out] at hrc' ⊢
 obtain ⟨w4, hw4⟩ : ∃ W, w3.alloc (.cells #[.slice ro' Nr rc', .slice none 0 0] 25) = W := ⟨_, rfl⟩
 have hB4 : Below w3.heap.size w3 w4 := by rw [← hw4]; exact (Below.refl _ _).alloc (Nat.le_refl _) _
 obtain ⟨p, hp⟩ : ∃ p, w3.heap.size = p := ⟨_, rfl⟩
 have HP4 : Hid (EntB w4 p (.slice ro' Nr rc') (.slice none 0 0)) := by rw [← hw4, ← hp]; exact entB_new _ _ _
 have hs4 : w4.heap.size = p + 1 := by rw [← hw4, ← hp]; simp
 have HB4 := Lib.hid (HB2.out.trans ((hB3.trans (hB4.mono hB3.size)).mono hz2))
 have HT4 := Lib.hid (entB_below (entB_below HT2.out hB3) hB4)
 have HQ4 := Lib.hid (entB_below (entB_below HQ2.out hB3) hB4)
 have HV4 := Lib.hid (dnw.avas_below hav' hB4)
 have hpq : q < p := by rw [← hp]; have h1 := hB3.size; have h2 := kt.bld_lt HQ2.out; omega
 have hpw : w.heap.size + 2 ≤ p := by omega
 have HBw : Hid (∀ W, w4.grownBy W (some p) → Below w.heap.size w W) := fun W h => HB4.out.grown h (Nat.le_trans (by omega) (Nat.le_of_eq hs4.symm)) (fun k hk => by cases hk; omega)
 obtain ⟨n0', n1'⟩ := entB_cells (entB_below HT2.out hB3)
 have hltw : w.heap.size < w3.heap.size := World.block_lt_of_cell? w3 _ n0'
 have HW4 := Lib.hid hw4
 clear hw4
 have HCL := HCL0
 have HHP := Lib.hid hp
 have HS4 := Lib.hid hs4
 clear hB3 hB4 hav' k0 k1 hW1 hW2 HCN HT2 HQ2 HB2 hz2 hs4 HCL0 hqq hp
 obtain ⟨d0, hd0⟩ : ∃ d, ((K : Int) == 0) = d := ⟨_, rfl⟩
 have HD0 : Hid (decide (l = []) = d0) := by show _ = _; rw [HD.out, hd0]
 clear HD
 go_wp2_with fail
 rw [HW4.out, HHP.out]
 clear HW4 HHP n0' n1' hltw
 go_loopw [8, 21] (fun dv iv wr => ∃ (i : Nat) (d : Bool) (av : Value) (dl : List AV), i ≤ N ∧ dv = .bool d ∧ iv = .int .i64 (i : Int) ∧ Hid (w4.grownBy wr (some p)) ∧ Hid (EntB wr p (.slice ro' Nr rc') av) ∧ Hid (OwnA wr w4.heap.size av dl) ∧ Hid (dl.length ≤ 2 * i) ∧ Hid (withF n l d0 L = dl.map Prod.fst ++ withF n l d (L.drop i))) (fun _ iv _ => N - (intOf iv).toNat)
 case atStart => exact ⟨0, d0, _, [], Nat.zero_le _, rfl, rfl, grown_refl _ _, HP4.out, ownA_nil _ _, Nat.le_refl _, rfl⟩
 case round =>
  obtain ⟨i, d, avR, dlR, hi, rfl, rfl, HGR, HPR, HOR, HLNR, HF⟩ := hrel
  obtain ⟨aoR, nR, capR, rfl, hcR⟩ := ownA_formC HOR.out
  have HBwr := Lib.hid (HBw.out wr HGR.out)
  have hT4r : EntB wr w.heap.size (.slice ro Nr rc) (.slice ao N ac) := (HGR.out.block _ (kt.bld_lt HT4.out) (by intro e; cases e; omega)).trans HT4.out
  obtain ⟨z0, z1⟩ := entB_cells hT4r
  clear hT4r
  by_cases hlt : i < N
  ·have hltI : (i : Int) < (N : Int) := by omega
   have hil : i < L.length := by rw [HN.out]; exact hlt
   obtain ⟨b, o, ax, cx, hao, q0, q1, hcx, hST⟩ := HA.out i hil
   subst hao
   have HST := Lib.hid (withF_step (n := n) (l := l) (d := d) hil)
   have hvb := (HVB.out L[i] (List.getElem_mem _)).2.1
   obtain ⟨a, ha⟩ : ∃ a, L[i] = a := ⟨_, rfl⟩
   rw [ha] at HST q0 q1 hcx hST hvb
   clear ha
   obtain ⟨M, hM⟩ : ∃ M, a.vs.length = M := ⟨_, rfl⟩
   have HM := Lib.hid hM
   have HCA : Hid (∀ W, Below w.heap.size w W → Calls Tryz.prog 71 #[.slice ax a.vs.length cx] W fun e w' => CloneE a.vs W e w') := fun W h => clone_any _ a.vs W ⟨ax, cx, rfl, hcx, strs_below hST h⟩ (by omega)
   rw [hM] at q1 hcx HCA
   have Q0 := (HBwr.out.cell (p := ⟨b, o + i * 2, none⟩) (World.block_lt_of_cell? w _ q0)).trans q0
   have Q1 := (HBwr.out.cell (p := ⟨b, o + i * 2 + 1, none⟩) (World.block_lt_of_cell? w _ q1)).trans q1
   clear q0 q1 hM hST hvb
   obtain ⟨wcA, hwcA⟩ : ∃ W, wr.alloc (.cells #[.string a.t, .slice ax M cx] 57) = W := ⟨_, rfl⟩
   have hBA : Below wr.heap.size wr wcA := by rw [← hwcA]; exact (Below.refl _ _).alloc (Nat.le_refl _) _
   obtain ⟨A, hA⟩ : ∃ A, wr.heap.size = A := ⟨_, rfl⟩
   have HAA : Hid (AttrB wcA A a.t (.slice ax M cx)) := by rw [← hwcA, ← hA]; exact attrB_new _ _ _
   have HGA := Lib.hid (grown_below HGR.out hBA)
   have HPA := Lib.hid (entB_below HPR.out hBA)
   have HOA := Lib.hid (ownA_below HOR.out hBA)
   have HAneA : Hid ((Value.slice aoR nR capR).ownBlock ≠ some A) := fun e => by have := ownA_old HOR.out A e; omega
   have HAp : Hid (A ≠ p) := fun e => by have := kt.bld_lt HPR.out; omega
   have HLNA := HLNR
   obtain ⟨dlA, hdlA⟩ : ∃ D, dlR = D := ⟨_, rfl⟩
   rw [hdlA] at HF HOA HLNA
   obtain ⟨avA, havA⟩ : ∃ V, Value.slice aoR nR capR = V := ⟨_, rfl⟩
   have xa := (attrB_cells HAA.out).1
   have HWA := Lib.hid hA
   clear hBA HOR HPR HGR HLNR hdlA
   clear havA avA
   have hbl := less_ltB a.t n
   generalize hlb : ltB a.t n = lb at hbl HST
   clear hlb
   cases d with
   | true =>
    have HPU : Hid ((if (!true && !lb) = true then [(⟨n, l⟩ : At)] else []) = []) := rfl
    have HOR2 : Hid ((true || (!true && !lb)) = true) := rfl
    rw [HOR2.out] at HST
    clear HOR2
    have x0A := (attrB_cells HAA.out).1
    by_cases hq : a.t = n
    ·have q := str_eq_beq hq
     have q' : (a.t.toList != n.toList) = false := by rw [bne, q]; rfl
     have HQ : Hid ((if a.t = n then [] else [a]) = ([] : List At)) := by show _ = _; rw [if_pos hq]
     clear hq
     go_wp2_with fail
     go_roundw
     case rel => exact ⟨i + 1, true, _, dlA, by omega, rfl, by go_num, HGA, HPA, HOA, (by show _ ≤ _; have := HLNA.out; omega), (by show _ = _; rw [HF.out, HST.out, HPU.out, HQ.out]; simp)⟩
     case measure => simp [intOf]; omega
    ·have q := ne_str hq
     have q' : (a.t.toList != n.toList) = true := by rw [bne, q]; rfl
     have HQ : Hid ((if a.t = n then [] else [a]) = [a]) := by show _ = _; rw [if_neg hq]
     clear hq
     have HCLA : Hid (∀ W, Below wcA.heap.size wcA W → Calls Tryz.prog 71 #[.slice bo K bcap] W fun e w' => CloneE l W e w') := fun W h => HCL.out W ((HBw.out (wcA) HGA.out).trans (h.mono (HBw.out (wcA) HGA.out).size))
     have HCAA : Hid (∀ W, Below wcA.heap.size wcA W → Calls Tryz.prog 71 #[.slice ax M cx] W fun e w' => CloneE a.vs W e w') := fun W h => HCA.out W ((HBw.out (wcA) HGA.out).trans (h.mono (HBw.out (wcA) HGA.out).size))
     go_wp2_with fail
     clear hA hwcA
     refine wp_region_held_drew (S := fun W => W.cell? ⟨A, 0, none⟩ = some (.string a.t) ∧ W.cell? ⟨A, 1, none⟩ = some (.slice ax M cx)) (by kernel_rfl) (attrB_cells HAA.out) (fun hHeld => ?_)
     refine tk 0 ⟨some 46,_,_,_,_,_⟩ rfl ?_
     refine tk 2 ⟨some 48,_,_,_,_,_⟩ rfl ?_
     refine tk 3 ⟨some 49,_,_,_,_,_⟩ rfl ?_
     refine tk 4 ⟨some 50,_,_,_,_,_⟩ rfl ?_
     refine tk 5 ⟨some 51,_,_,_,_,_⟩ rfl ?_
     have m1c := (entB_cells HPA.out).2
     have m1d : (wcA.drew).cell? ⟨p, 1, none⟩ = some (.slice aoR nR capR) := m1c
     refine wpAnyH_ready (rs := [1, 6]) (by kernel_rfl) (by simp) ?_
     refine AllReadyH.cons (o := ⟨some 47, _, _, _, _, _⟩) rfl (fun K hK => ?_) (AllReadyH.cons (o := ⟨some 52, _, _, _, _, _⟩) rfl (fun K hK => ?_) AllReadyH.nil)
     ·go_simp
      refine hK.out _ _ (hHeld) (fun hHeld => ?_)
      clear hK
      try simp only [Act.put, List.setIfInBounds_toArray, List.set_cons_zero, List.set_cons_succ]
      refine tc 6 ⟨some 52,_,_,_,_,_⟩ rfl (fun K hK => ?_)
      go_simp
      go_at_call 71; refine (HCAA.out _ ((Below.refl wcA.heap.size wcA).drew)).mono ?_; rintro e w5 ⟨x5, rfl, ho5, hB5⟩; obtain ⟨a5, n5, c5, rfl, hn5⟩ := dnw.ownT_form ho5
      refine hK.out _ _ (attrB_cells (attrB_below HAA.out ((Below.refl wcA.heap.size wcA).drew.trans hB5))) (fun hHeld => ?_)
      clear hK
      try simp only [Act.put, List.setIfInBounds_toArray, List.set_cons_zero, List.set_cons_succ]
      have HB5 : Hid (Below wcA.heap.size wcA w5) := (Below.refl wcA.heap.size wcA).drew.trans hB5
      have HO5 := Lib.hid (ownA_below HOA.out HB5.out)
      have HP5 := Lib.hid (entB_below HPA.out HB5.out)
      have HA5 := Lib.hid (attrB_below HAA.out HB5.out)
      have hx5 := own_elem ho5
      have hnew := ownT_new ho5
      obtain ⟨ao7, m7, cap7, w7, hap, hfz, ⟨u7, hu7⟩, hP8, hO8, hB7, hkp, hsn⟩ := appA a.t (.slice a5 n5 c5) a.vs dlA HO5.out HP5.out (noS_slice _ _ _) hx5 (fun _ k hk e => by have h1 := hnew k hk; have h2 := ownA_old HOA.out k e; have h3 : wcA.heap.size ≤ wcA.drew.heap.size := Nat.le_refl _; omega) (by have := HLNA.out; omega) (Nat.le_trans HGA.out.size HB5.out.size)
      have hG8 := grown_step HGA.out HB5.out hB7 1 (.slice ao7 m7 cap7)
      have hA8 : AttrB (w7.setCell ⟨p, 1, none⟩ (.slice ao7 m7 cap7)) A a.t (.slice ax M cx) := attrB_app HA5.out HAneA.out (fun e => HAp.out e) hkp
      have hA7 : AttrB w7 A a.t (.slice ax M cx) := (hkp A (kt.bld_lt HA5.out) HAneA.out).trans HA5.out
      have HAneD : Hid ((Value.slice ao7 m7 cap7).ownBlock ≠ some A) := fun e => by rcases hsn A e with h | h; exact HAneA.out h; have := kt.bld_lt HA5.out; omega
      have HRUN := Lib.hid hap
      clear hap hsn hkp hx5 hnew ho5
      refine tk 7 ⟨some 53,_,_,_,_,_⟩ rfl ?_
      refine tc 8 ⟨some 54,_,_,_,_,_⟩ rfl (fun K hK => ?_)
      go_simp
      refine hK.out _ _ ((by have hh := attrB_below HA5.out ((Below.refl w5.heap.size w5).alloc (Nat.le_refl _) (.cells #[.string a.t, .slice a5 n5 c5] 57)); exact attrB_cells hh)) (fun hHeld => ?_)
      clear hK
      try simp only [Act.put, List.setIfInBounds_toArray, List.set_cons_zero, List.set_cons_succ]
      refine tc 9 ⟨some 55,_,_,_,_,_⟩ rfl (fun K hK => ?_)
      refine kt.step_append_run rfl _ _ 23 23 rfl _ _ (by simp [Act.eval, Act.put]) (by simp [Act.eval, Act.put]) _ _ HRUN.out ?_
      refine hK.out _ _ (attrB_cells hA7) (fun hHeld => ?_)
      clear hK
      try simp only [Act.put, List.setIfInBounds_toArray, List.set_cons_zero, List.set_cons_succ]
      refine tk 10 ⟨some 56,_,_,_,_,_⟩ rfl ?_
      refine tc 11 ⟨none,_,_,_,_,_⟩ rfl (fun K hK => ?_)
      go_simp
      refine hK.out _ _ (attrB_cells hA8) (fun hHeld => ?_)
      clear hK
      try simp only [Act.put, List.setIfInBounds_toArray, List.set_cons_zero, List.set_cons_succ]
      refine wpAnyH_done (by kernel_rfl) ?_ _
      obtain ⟨wcS, hwcS⟩ : ∃ W, w7.setCell ⟨p, 1, none⟩ (.slice ao7 m7 cap7) = W := ⟨_, rfl⟩
      rw [hwcS] at hP8 hO8 hG8 hA8 ⊢
      have HPS := Lib.hid hP8
      have HOS := Lib.hid hO8
      have HGS := Lib.hid hG8
      have HAS := Lib.hid hA8
      have HAneS := HAneD
      obtain ⟨dlS, hdlS⟩ : ∃ D, dlA ++ [((⟨a.t, a.vs⟩ : At), Value.slice a5 n5 c5)] = D := ⟨_, rfl⟩
      rw [hdlS] at HOS
      have HLNS : Hid (dlS.length ≤ 2 * i + 2) := by show _ ≤ _; rw [← hdlS, List.length_append]; have := HLNA.out; simp only [List.length_cons, List.length_nil]; omega
      have HMPS : Hid (dlS.map Prod.fst = dlA.map Prod.fst ++ [(⟨a.t, a.vs⟩ : At)]) := by show _ = _; rw [← hdlS, List.map_append]; rfl
      have HDLS := Lib.hid hdlS
      clear hP8 hO8 hG8 hdlS hwcS hfz hu7 HRUN hB7 HO5 HP5 HB5 HA5 hA7 hA8 HAneD hB5 m1c m1d hHeld
      go_wp2_with fail
      go_roundw
      case rel => exact ⟨i + 1, true, _, dlS, by omega, rfl, by go_num, HGS, HPS, HOS, (by show _ ≤ _; have := HLNS.out; omega), (by show _ = _; rw [HF.out, HST.out, HPU.out, HQ.out, HMPS.out]; simp [List.append_assoc])⟩
      case measure => simp [intOf]; omega
     ·go_simp
      go_at_call 71; refine (HCAA.out _ ((Below.refl wcA.heap.size wcA).drew)).mono ?_; rintro e w5 ⟨x5, rfl, ho5, hB5⟩; obtain ⟨a5, n5, c5, rfl, hn5⟩ := dnw.ownT_form ho5
      refine hK.out _ _ (attrB_cells (attrB_below HAA.out ((Below.refl wcA.heap.size wcA).drew.trans hB5))) (fun hHeld => ?_)
      clear hK
      try simp only [Act.put, List.setIfInBounds_toArray, List.set_cons_zero, List.set_cons_succ]
      have HB5 : Hid (Below wcA.heap.size wcA w5) := (Below.refl wcA.heap.size wcA).drew.trans hB5
      have HO5 := Lib.hid (ownA_below HOA.out HB5.out)
      have HP5 := Lib.hid (entB_below HPA.out HB5.out)
      have HA5 := Lib.hid (attrB_below HAA.out HB5.out)
      have hx5 := own_elem ho5
      have hnew := ownT_new ho5
      obtain ⟨ao7, m7, cap7, w7, hap, hfz, ⟨u7, hu7⟩, hP8, hO8, hB7, hkp, hsn⟩ := appA a.t (.slice a5 n5 c5) a.vs dlA HO5.out HP5.out (noS_slice _ _ _) hx5 (fun _ k hk e => by have h1 := hnew k hk; have h2 := ownA_old HOA.out k e; have h3 : wcA.heap.size ≤ wcA.drew.heap.size := Nat.le_refl _; omega) (by have := HLNA.out; omega) (Nat.le_trans HGA.out.size HB5.out.size)
      have hG8 := grown_step HGA.out HB5.out hB7 1 (.slice ao7 m7 cap7)
      have hA8 : AttrB (w7.setCell ⟨p, 1, none⟩ (.slice ao7 m7 cap7)) A a.t (.slice ax M cx) := attrB_app HA5.out HAneA.out (fun e => HAp.out e) hkp
      have hA7 : AttrB w7 A a.t (.slice ax M cx) := (hkp A (kt.bld_lt HA5.out) HAneA.out).trans HA5.out
      have HAneD : Hid ((Value.slice ao7 m7 cap7).ownBlock ≠ some A) := fun e => by rcases hsn A e with h | h; exact HAneA.out h; have := kt.bld_lt HA5.out; omega
      have HRUN := Lib.hid hap
      clear hap hsn hkp hx5 hnew ho5
      refine tk 7 ⟨some 53,_,_,_,_,_⟩ rfl ?_
      refine wpAnyH_ready (rs := [1, 8]) (by kernel_rfl) (by simp) ?_
      refine AllReadyH.cons (o := ⟨some 47, _, _, _, _, _⟩) rfl (fun K hK => ?_) (AllReadyH.cons (o := ⟨some 54, _, _, _, _, _⟩) rfl (fun K hK => ?_) AllReadyH.nil)
      ·have m1e := (entB_cells HP5.out).2
       go_simp
       refine hK.out _ _ (hHeld) (fun hHeld => ?_)
       clear hK
       try simp only [Act.put, List.setIfInBounds_toArray, List.set_cons_zero, List.set_cons_succ]
       clear m1e
       refine tc 8 ⟨some 54,_,_,_,_,_⟩ rfl (fun K hK => ?_)
       go_simp
       refine hK.out _ _ ((by have hh := attrB_below HA5.out ((Below.refl w5.heap.size w5).alloc (Nat.le_refl _) (.cells #[.string a.t, .slice a5 n5 c5] 57)); exact attrB_cells hh)) (fun hHeld => ?_)
       clear hK
       try simp only [Act.put, List.setIfInBounds_toArray, List.set_cons_zero, List.set_cons_succ]
       refine tc 9 ⟨some 55,_,_,_,_,_⟩ rfl (fun K hK => ?_)
       refine kt.step_append_run rfl _ _ 23 23 rfl _ _ (by simp [Act.eval, Act.put]) (by simp [Act.eval, Act.put]) _ _ HRUN.out ?_
       refine hK.out _ _ (attrB_cells hA7) (fun hHeld => ?_)
       clear hK
       try simp only [Act.put, List.setIfInBounds_toArray, List.set_cons_zero, List.set_cons_succ]
       refine tk 10 ⟨some 56,_,_,_,_,_⟩ rfl ?_
       refine tc 11 ⟨none,_,_,_,_,_⟩ rfl (fun K hK => ?_)
       go_simp
       refine hK.out _ _ (attrB_cells hA8) (fun hHeld => ?_)
       clear hK
       try simp only [Act.put, List.setIfInBounds_toArray, List.set_cons_zero, List.set_cons_succ]
       refine wpAnyH_done (by kernel_rfl) ?_ _
       obtain ⟨wcS, hwcS⟩ : ∃ W, w7.setCell ⟨p, 1, none⟩ (.slice ao7 m7 cap7) = W := ⟨_, rfl⟩
       rw [hwcS] at hP8 hO8 hG8 hA8 ⊢
       have HPS := Lib.hid hP8
       have HOS := Lib.hid hO8
       have HGS := Lib.hid hG8
       have HAS := Lib.hid hA8
       have HAneS := HAneD
       obtain ⟨dlS, hdlS⟩ : ∃ D, dlA ++ [((⟨a.t, a.vs⟩ : At), Value.slice a5 n5 c5)] = D := ⟨_, rfl⟩
       rw [hdlS] at HOS
       have HLNS : Hid (dlS.length ≤ 2 * i + 2) := by show _ ≤ _; rw [← hdlS, List.length_append]; have := HLNA.out; simp only [List.length_cons, List.length_nil]; omega
       have HMPS : Hid (dlS.map Prod.fst = dlA.map Prod.fst ++ [(⟨a.t, a.vs⟩ : At)]) := by show _ = _; rw [← hdlS, List.map_append]; rfl
       have HDLS := Lib.hid hdlS
       clear hP8 hO8 hG8 hdlS hwcS hfz hu7 HRUN hB7 HO5 HP5 HB5 HA5 hA7 hA8 HAneD hB5 m1c m1d hHeld
       go_wp2_with fail
       go_roundw
       case rel => exact ⟨i + 1, true, _, dlS, by omega, rfl, by go_num, HGS, HPS, HOS, (by show _ ≤ _; have := HLNS.out; omega), (by show _ = _; rw [HF.out, HST.out, HPU.out, HQ.out, HMPS.out]; simp [List.append_assoc])⟩
       case measure => simp [intOf]; omega
      ·go_simp
       refine hK.out _ _ ((by have hh := attrB_below HA5.out ((Below.refl w5.heap.size w5).alloc (Nat.le_refl _) (.cells #[.string a.t, .slice a5 n5 c5] 57)); exact attrB_cells hh)) (fun hHeld => ?_)
       clear hK
       try simp only [Act.put, List.setIfInBounds_toArray, List.set_cons_zero, List.set_cons_succ]
       have m1e := (entB_cells (entB_below HP5.out ((Below.refl w5.heap.size w5).alloc (Nat.le_refl _) (.cells #[.string a.t, .slice a5 n5 c5] 57)))).2
       refine tc 1 ⟨some 47,_,_,_,_,_⟩ rfl (fun K hK => ?_)
       go_simp
       refine hK.out _ _ (hHeld) (fun hHeld => ?_)
       clear hK
       try simp only [Act.put, List.setIfInBounds_toArray, List.set_cons_zero, List.set_cons_succ]
       clear m1e
       refine tc 9 ⟨some 55,_,_,_,_,_⟩ rfl (fun K hK => ?_)
       refine kt.step_append_run rfl _ _ 23 23 rfl _ _ (by simp [Act.eval, Act.put]) (by simp [Act.eval, Act.put]) _ _ HRUN.out ?_
       refine hK.out _ _ (attrB_cells hA7) (fun hHeld => ?_)
       clear hK
       try simp only [Act.put, List.setIfInBounds_toArray, List.set_cons_zero, List.set_cons_succ]
       refine tk 10 ⟨some 56,_,_,_,_,_⟩ rfl ?_
       refine tc 11 ⟨none,_,_,_,_,_⟩ rfl (fun K hK => ?_)
       go_simp
       refine hK.out _ _ (attrB_cells hA8) (fun hHeld => ?_)
       clear hK
       try simp only [Act.put, List.setIfInBounds_toArray, List.set_cons_zero, List.set_cons_succ]
       refine wpAnyH_done (by kernel_rfl) ?_ _
       obtain ⟨wcS, hwcS⟩ : ∃ W, w7.setCell ⟨p, 1, none⟩ (.slice ao7 m7 cap7) = W := ⟨_, rfl⟩
       rw [hwcS] at hP8 hO8 hG8 hA8 ⊢
       have HPS := Lib.hid hP8
       have HOS := Lib.hid hO8
       have HGS := Lib.hid hG8
       have HAS := Lib.hid hA8
       have HAneS := HAneD
       obtain ⟨dlS, hdlS⟩ : ∃ D, dlA ++ [((⟨a.t, a.vs⟩ : At), Value.slice a5 n5 c5)] = D := ⟨_, rfl⟩
       rw [hdlS] at HOS
       have HLNS : Hid (dlS.length ≤ 2 * i + 2) := by show _ ≤ _; rw [← hdlS, List.length_append]; have := HLNA.out; simp only [List.length_cons, List.length_nil]; omega
       have HMPS : Hid (dlS.map Prod.fst = dlA.map Prod.fst ++ [(⟨a.t, a.vs⟩ : At)]) := by show _ = _; rw [← hdlS, List.map_append]; rfl
       have HDLS := Lib.hid hdlS
       clear hP8 hO8 hG8 hdlS hwcS hfz hu7 HRUN hB7 HO5 HP5 HB5 HA5 hA7 hA8 HAneD hB5 m1c m1d hHeld
       go_wp2_with fail
       go_roundw
       case rel => exact ⟨i + 1, true, _, dlS, by omega, rfl, by go_num, HGS, HPS, HOS, (by show _ ≤ _; have := HLNS.out; omega), (by show _ = _; rw [HF.out, HST.out, HPU.out, HQ.out, HMPS.out]; simp [List.append_assoc])⟩
       case measure => simp [intOf]; omega
   | false =>
    cases lb with
    | true =>
     have HPU : Hid ((if (!false && !true) = true then [(⟨n, l⟩ : At)] else []) = []) := rfl
     have HOR2 : Hid ((false || (!false && !true)) = false) := rfl
     rw [HOR2.out] at HST
     clear HOR2
     have x0A := (attrB_cells HAA.out).1
     by_cases hq : a.t = n
     ·have q := str_eq_beq hq
      have q' : (a.t.toList != n.toList) = false := by rw [bne, q]; rfl
      have HQ : Hid ((if a.t = n then [] else [a]) = ([] : List At)) := by show _ = _; rw [if_pos hq]
      clear hq
      go_wp2_with fail
      go_roundw
      case rel => exact ⟨i + 1, false, _, dlA, by omega, rfl, by go_num, HGA, HPA, HOA, (by show _ ≤ _; have := HLNA.out; omega), (by show _ = _; rw [HF.out, HST.out, HPU.out, HQ.out]; simp)⟩
      case measure => simp [intOf]; omega
     ·have q := ne_str hq
      have q' : (a.t.toList != n.toList) = true := by rw [bne, q]; rfl
      have HQ : Hid ((if a.t = n then [] else [a]) = [a]) := by show _ = _; rw [if_neg hq]
      clear hq
      have HCLA : Hid (∀ W, Below wcA.heap.size wcA W → Calls Tryz.prog 71 #[.slice bo K bcap] W fun e w' => CloneE l W e w') := fun W h => HCL.out W ((HBw.out (wcA) HGA.out).trans (h.mono (HBw.out (wcA) HGA.out).size))
      have HCAA : Hid (∀ W, Below wcA.heap.size wcA W → Calls Tryz.prog 71 #[.slice ax M cx] W fun e w' => CloneE a.vs W e w') := fun W h => HCA.out W ((HBw.out (wcA) HGA.out).trans (h.mono (HBw.out (wcA) HGA.out).size))
      go_wp2_with fail
      clear hA hwcA
      refine wp_region_held_drew (S := fun W => W.cell? ⟨A, 0, none⟩ = some (.string a.t) ∧ W.cell? ⟨A, 1, none⟩ = some (.slice ax M cx)) (by kernel_rfl) (attrB_cells HAA.out) (fun hHeld => ?_)
      refine tk 0 ⟨some 46,_,_,_,_,_⟩ rfl ?_
      refine tk 2 ⟨some 48,_,_,_,_,_⟩ rfl ?_
      refine tk 3 ⟨some 49,_,_,_,_,_⟩ rfl ?_
      refine tk 4 ⟨some 50,_,_,_,_,_⟩ rfl ?_
      refine tk 5 ⟨some 51,_,_,_,_,_⟩ rfl ?_
      have m1c := (entB_cells HPA.out).2
      have m1d : (wcA.drew).cell? ⟨p, 1, none⟩ = some (.slice aoR nR capR) := m1c
      refine wpAnyH_ready (rs := [1, 6]) (by kernel_rfl) (by simp) ?_
      refine AllReadyH.cons (o := ⟨some 47, _, _, _, _, _⟩) rfl (fun K hK => ?_) (AllReadyH.cons (o := ⟨some 52, _, _, _, _, _⟩) rfl (fun K hK => ?_) AllReadyH.nil)
      ·go_simp
       refine hK.out _ _ (hHeld) (fun hHeld => ?_)
       clear hK
       try simp only [Act.put, List.setIfInBounds_toArray, List.set_cons_zero, List.set_cons_succ]
       refine tc 6 ⟨some 52,_,_,_,_,_⟩ rfl (fun K hK => ?_)
       go_simp
       go_at_call 71; refine (HCAA.out _ ((Below.refl wcA.heap.size wcA).drew)).mono ?_; rintro e w5 ⟨x5, rfl, ho5, hB5⟩; obtain ⟨a5, n5, c5, rfl, hn5⟩ := dnw.ownT_form ho5
       refine hK.out _ _ (attrB_cells (attrB_below HAA.out ((Below.refl wcA.heap.size wcA).drew.trans hB5))) (fun hHeld => ?_)
       clear hK
       try simp only [Act.put, List.setIfInBounds_toArray, List.set_cons_zero, List.set_cons_succ]
       have HB5 : Hid (Below wcA.heap.size wcA w5) := (Below.refl wcA.heap.size wcA).drew.trans hB5
       have HO5 := Lib.hid (ownA_below HOA.out HB5.out)
       have HP5 := Lib.hid (entB_below HPA.out HB5.out)
       have HA5 := Lib.hid (attrB_below HAA.out HB5.out)
       have hx5 := own_elem ho5
       have hnew := ownT_new ho5
       obtain ⟨ao7, m7, cap7, w7, hap, hfz, ⟨u7, hu7⟩, hP8, hO8, hB7, hkp, hsn⟩ := appA a.t (.slice a5 n5 c5) a.vs dlA HO5.out HP5.out (noS_slice _ _ _) hx5 (fun _ k hk e => by have h1 := hnew k hk; have h2 := ownA_old HOA.out k e; have h3 : wcA.heap.size ≤ wcA.drew.heap.size := Nat.le_refl _; omega) (by have := HLNA.out; omega) (Nat.le_trans HGA.out.size HB5.out.size)
       have hG8 := grown_step HGA.out HB5.out hB7 1 (.slice ao7 m7 cap7)
       have hA8 : AttrB (w7.setCell ⟨p, 1, none⟩ (.slice ao7 m7 cap7)) A a.t (.slice ax M cx) := attrB_app HA5.out HAneA.out (fun e => HAp.out e) hkp
       have hA7 : AttrB w7 A a.t (.slice ax M cx) := (hkp A (kt.bld_lt HA5.out) HAneA.out).trans HA5.out
       have HAneD : Hid ((Value.slice ao7 m7 cap7).ownBlock ≠ some A) := fun e => by rcases hsn A e with h | h; exact HAneA.out h; have := kt.bld_lt HA5.out; omega
       have HRUN := Lib.hid hap
       clear hap hsn hkp hx5 hnew ho5
       refine tk 7 ⟨some 53,_,_,_,_,_⟩ rfl ?_
       refine tc 8 ⟨some 54,_,_,_,_,_⟩ rfl (fun K hK => ?_)
       go_simp
       refine hK.out _ _ ((by have hh := attrB_below HA5.out ((Below.refl w5.heap.size w5).alloc (Nat.le_refl _) (.cells #[.string a.t, .slice a5 n5 c5] 57)); exact attrB_cells hh)) (fun hHeld => ?_)
       clear hK
       try simp only [Act.put, List.setIfInBounds_toArray, List.set_cons_zero, List.set_cons_succ]
       refine tc 9 ⟨some 55,_,_,_,_,_⟩ rfl (fun K hK => ?_)
       refine kt.step_append_run rfl _ _ 23 23 rfl _ _ (by simp [Act.eval, Act.put]) (by simp [Act.eval, Act.put]) _ _ HRUN.out ?_
       refine hK.out _ _ (attrB_cells hA7) (fun hHeld => ?_)
       clear hK
       try simp only [Act.put, List.setIfInBounds_toArray, List.set_cons_zero, List.set_cons_succ]
       refine tk 10 ⟨some 56,_,_,_,_,_⟩ rfl ?_
       refine tc 11 ⟨none,_,_,_,_,_⟩ rfl (fun K hK => ?_)
       go_simp
       refine hK.out _ _ (attrB_cells hA8) (fun hHeld => ?_)
       clear hK
       try simp only [Act.put, List.setIfInBounds_toArray, List.set_cons_zero, List.set_cons_succ]
       refine wpAnyH_done (by kernel_rfl) ?_ _
       obtain ⟨wcS, hwcS⟩ : ∃ W, w7.setCell ⟨p, 1, none⟩ (.slice ao7 m7 cap7) = W := ⟨_, rfl⟩
       rw [hwcS] at hP8 hO8 hG8 hA8 ⊢
       have HPS := Lib.hid hP8
       have HOS := Lib.hid hO8
       have HGS := Lib.hid hG8
       have HAS := Lib.hid hA8
       have HAneS := HAneD
       obtain ⟨dlS, hdlS⟩ : ∃ D, dlA ++ [((⟨a.t, a.vs⟩ : At), Value.slice a5 n5 c5)] = D := ⟨_, rfl⟩
       rw [hdlS] at HOS
       have HLNS : Hid (dlS.length ≤ 2 * i + 2) := by show _ ≤ _; rw [← hdlS, List.length_append]; have := HLNA.out; simp only [List.length_cons, List.length_nil]; omega
       have HMPS : Hid (dlS.map Prod.fst = dlA.map Prod.fst ++ [(⟨a.t, a.vs⟩ : At)]) := by show _ = _; rw [← hdlS, List.map_append]; rfl
       have HDLS := Lib.hid hdlS
       clear hP8 hO8 hG8 hdlS hwcS hfz hu7 HRUN hB7 HO5 HP5 HB5 HA5 hA7 hA8 HAneD hB5 m1c m1d hHeld
       go_wp2_with fail
       go_roundw
       case rel => exact ⟨i + 1, false, _, dlS, by omega, rfl, by go_num, HGS, HPS, HOS, (by show _ ≤ _; have := HLNS.out; omega), (by show _ = _; rw [HF.out, HST.out, HPU.out, HQ.out, HMPS.out]; simp [List.append_assoc])⟩
       case measure => simp [intOf]; omega
      ·go_simp
       go_at_call 71; refine (HCAA.out _ ((Below.refl wcA.heap.size wcA).drew)).mono ?_; rintro e w5 ⟨x5, rfl, ho5, hB5⟩; obtain ⟨a5, n5, c5, rfl, hn5⟩ := dnw.ownT_form ho5
       refine hK.out _ _ (attrB_cells (attrB_below HAA.out ((Below.refl wcA.heap.size wcA).drew.trans hB5))) (fun hHeld => ?_)
       clear hK
       try simp only [Act.put, List.setIfInBounds_toArray, List.set_cons_zero, List.set_cons_succ]
       have HB5 : Hid (Below wcA.heap.size wcA w5) := (Below.refl wcA.heap.size wcA).drew.trans hB5
       have HO5 := Lib.hid (ownA_below HOA.out HB5.out)
       have HP5 := Lib.hid (entB_below HPA.out HB5.out)
       have HA5 := Lib.hid (attrB_below HAA.out HB5.out)
       have hx5 := own_elem ho5
       have hnew := ownT_new ho5
       obtain ⟨ao7, m7, cap7, w7, hap, hfz, ⟨u7, hu7⟩, hP8, hO8, hB7, hkp, hsn⟩ := appA a.t (.slice a5 n5 c5) a.vs dlA HO5.out HP5.out (noS_slice _ _ _) hx5 (fun _ k hk e => by have h1 := hnew k hk; have h2 := ownA_old HOA.out k e; have h3 : wcA.heap.size ≤ wcA.drew.heap.size := Nat.le_refl _; omega) (by have := HLNA.out; omega) (Nat.le_trans HGA.out.size HB5.out.size)
       have hG8 := grown_step HGA.out HB5.out hB7 1 (.slice ao7 m7 cap7)
       have hA8 : AttrB (w7.setCell ⟨p, 1, none⟩ (.slice ao7 m7 cap7)) A a.t (.slice ax M cx) := attrB_app HA5.out HAneA.out (fun e => HAp.out e) hkp
       have hA7 : AttrB w7 A a.t (.slice ax M cx) := (hkp A (kt.bld_lt HA5.out) HAneA.out).trans HA5.out
       have HAneD : Hid ((Value.slice ao7 m7 cap7).ownBlock ≠ some A) := fun e => by rcases hsn A e with h | h; exact HAneA.out h; have := kt.bld_lt HA5.out; omega
       have HRUN := Lib.hid hap
       clear hap hsn hkp hx5 hnew ho5
       refine tk 7 ⟨some 53,_,_,_,_,_⟩ rfl ?_
       refine wpAnyH_ready (rs := [1, 8]) (by kernel_rfl) (by simp) ?_
       refine AllReadyH.cons (o := ⟨some 47, _, _, _, _, _⟩) rfl (fun K hK => ?_) (AllReadyH.cons (o := ⟨some 54, _, _, _, _, _⟩) rfl (fun K hK => ?_) AllReadyH.nil)
       ·have m1e := (entB_cells HP5.out).2
        go_simp
        refine hK.out _ _ (hHeld) (fun hHeld => ?_)
        clear hK
        try simp only [Act.put, List.setIfInBounds_toArray, List.set_cons_zero, List.set_cons_succ]
        clear m1e
        refine tc 8 ⟨some 54,_,_,_,_,_⟩ rfl (fun K hK => ?_)
        go_simp
        refine hK.out _ _ ((by have hh := attrB_below HA5.out ((Below.refl w5.heap.size w5).alloc (Nat.le_refl _) (.cells #[.string a.t, .slice a5 n5 c5] 57)); exact attrB_cells hh)) (fun hHeld => ?_)
        clear hK
        try simp only [Act.put, List.setIfInBounds_toArray, List.set_cons_zero, List.set_cons_succ]
        refine tc 9 ⟨some 55,_,_,_,_,_⟩ rfl (fun K hK => ?_)
        refine kt.step_append_run rfl _ _ 23 23 rfl _ _ (by simp [Act.eval, Act.put]) (by simp [Act.eval, Act.put]) _ _ HRUN.out ?_
        refine hK.out _ _ (attrB_cells hA7) (fun hHeld => ?_)
        clear hK
        try simp only [Act.put, List.setIfInBounds_toArray, List.set_cons_zero, List.set_cons_succ]
        refine tk 10 ⟨some 56,_,_,_,_,_⟩ rfl ?_
        refine tc 11 ⟨none,_,_,_,_,_⟩ rfl (fun K hK => ?_)
        go_simp
        refine hK.out _ _ (attrB_cells hA8) (fun hHeld => ?_)
        clear hK
        try simp only [Act.put, List.setIfInBounds_toArray, List.set_cons_zero, List.set_cons_succ]
        refine wpAnyH_done (by kernel_rfl) ?_ _
        obtain ⟨wcS, hwcS⟩ : ∃ W, w7.setCell ⟨p, 1, none⟩ (.slice ao7 m7 cap7) = W := ⟨_, rfl⟩
        rw [hwcS] at hP8 hO8 hG8 hA8 ⊢
        have HPS := Lib.hid hP8
        have HOS := Lib.hid hO8
        have HGS := Lib.hid hG8
        have HAS := Lib.hid hA8
        have HAneS := HAneD
        obtain ⟨dlS, hdlS⟩ : ∃ D, dlA ++ [((⟨a.t, a.vs⟩ : At), Value.slice a5 n5 c5)] = D := ⟨_, rfl⟩
        rw [hdlS] at HOS
        have HLNS : Hid (dlS.length ≤ 2 * i + 2) := by show _ ≤ _; rw [← hdlS, List.length_append]; have := HLNA.out; simp only [List.length_cons, List.length_nil]; omega
        have HMPS : Hid (dlS.map Prod.fst = dlA.map Prod.fst ++ [(⟨a.t, a.vs⟩ : At)]) := by show _ = _; rw [← hdlS, List.map_append]; rfl
        have HDLS := Lib.hid hdlS
        clear hP8 hO8 hG8 hdlS hwcS hfz hu7 HRUN hB7 HO5 HP5 HB5 HA5 hA7 hA8 HAneD hB5 m1c m1d hHeld
        go_wp2_with fail
        go_roundw
        case rel => exact ⟨i + 1, false, _, dlS, by omega, rfl, by go_num, HGS, HPS, HOS, (by show _ ≤ _; have := HLNS.out; omega), (by show _ = _; rw [HF.out, HST.out, HPU.out, HQ.out, HMPS.out]; simp [List.append_assoc])⟩
        case measure => simp [intOf]; omega
       ·go_simp
        refine hK.out _ _ ((by have hh := attrB_below HA5.out ((Below.refl w5.heap.size w5).alloc (Nat.le_refl _) (.cells #[.string a.t, .slice a5 n5 c5] 57)); exact attrB_cells hh)) (fun hHeld => ?_)
        clear hK
        try simp only [Act.put, List.setIfInBounds_toArray, List.set_cons_zero, List.set_cons_succ]
        have m1e := (entB_cells (entB_below HP5.out ((Below.refl w5.heap.size w5).alloc (Nat.le_refl _) (.cells #[.string a.t, .slice a5 n5 c5] 57)))).2
        refine tc 1 ⟨some 47,_,_,_,_,_⟩ rfl (fun K hK => ?_)
        go_simp
        refine hK.out _ _ (hHeld) (fun hHeld => ?_)
        clear hK
        try simp only [Act.put, List.setIfInBounds_toArray, List.set_cons_zero, List.set_cons_succ]
        clear m1e
        refine tc 9 ⟨some 55,_,_,_,_,_⟩ rfl (fun K hK => ?_)
        refine kt.step_append_run rfl _ _ 23 23 rfl _ _ (by simp [Act.eval, Act.put]) (by simp [Act.eval, Act.put]) _ _ HRUN.out ?_
        refine hK.out _ _ (attrB_cells hA7) (fun hHeld => ?_)
        clear hK
        try simp only [Act.put, List.setIfInBounds_toArray, List.set_cons_zero, List.set_cons_succ]
        refine tk 10 ⟨some 56,_,_,_,_,_⟩ rfl ?_
        refine tc 11 ⟨none,_,_,_,_,_⟩ rfl (fun K hK => ?_)
        go_simp
        refine hK.out _ _ (attrB_cells hA8) (fun hHeld => ?_)
        clear hK
        try simp only [Act.put, List.setIfInBounds_toArray, List.set_cons_zero, List.set_cons_succ]
        refine wpAnyH_done (by kernel_rfl) ?_ _
        obtain ⟨wcS, hwcS⟩ : ∃ W, w7.setCell ⟨p, 1, none⟩ (.slice ao7 m7 cap7) = W := ⟨_, rfl⟩
        rw [hwcS] at hP8 hO8 hG8 hA8 ⊢
        have HPS := Lib.hid hP8
        have HOS := Lib.hid hO8
        have HGS := Lib.hid hG8
        have HAS := Lib.hid hA8
        have HAneS := HAneD
        obtain ⟨dlS, hdlS⟩ : ∃ D, dlA ++ [((⟨a.t, a.vs⟩ : At), Value.slice a5 n5 c5)] = D := ⟨_, rfl⟩
        rw [hdlS] at HOS
        have HLNS : Hid (dlS.length ≤ 2 * i + 2) := by show _ ≤ _; rw [← hdlS, List.length_append]; have := HLNA.out; simp only [List.length_cons, List.length_nil]; omega
        have HMPS : Hid (dlS.map Prod.fst = dlA.map Prod.fst ++ [(⟨a.t, a.vs⟩ : At)]) := by show _ = _; rw [← hdlS, List.map_append]; rfl
        have HDLS := Lib.hid hdlS
        clear hP8 hO8 hG8 hdlS hwcS hfz hu7 HRUN hB7 HO5 HP5 HB5 HA5 hA7 hA8 HAneD hB5 m1c m1d hHeld
        go_wp2_with fail
        go_roundw
        case rel => exact ⟨i + 1, false, _, dlS, by omega, rfl, by go_num, HGS, HPS, HOS, (by show _ ≤ _; have := HLNS.out; omega), (by show _ = _; rw [HF.out, HST.out, HPU.out, HQ.out, HMPS.out]; simp [List.append_assoc])⟩
        case measure => simp [intOf]; omega
    | false =>
     have HPU : Hid ((if (!false && !false) = true then [(⟨n, l⟩ : At)] else []) = [⟨n, l⟩]) := rfl
     have HOR2 : Hid ((false || (!false && !false)) = true) := rfl
     rw [HOR2.out] at HST
     clear HOR2
     have HCLA : Hid (∀ W, Below wcA.heap.size wcA W → Calls Tryz.prog 71 #[.slice bo K bcap] W fun e w' => CloneE l W e w') := fun W h => HCL.out W ((HBw.out (wcA) HGA.out).trans (h.mono (HBw.out (wcA) HGA.out).size))
     have HCAA : Hid (∀ W, Below wcA.heap.size wcA W → Calls Tryz.prog 71 #[.slice ax M cx] W fun e w' => CloneE a.vs W e w') := fun W h => HCA.out W ((HBw.out (wcA) HGA.out).trans (h.mono (HBw.out (wcA) HGA.out).size))
     go_wp2_with fail
     clear hA hwcA
     refine wp_region_held_drew (S := fun _ => True) (by kernel_rfl) (trivial) (fun hHeld => ?_)
     refine tk 0 ⟨some 33,_,_,_,_,_⟩ rfl ?_
     refine tk 2 ⟨some 35,_,_,_,_,_⟩ rfl ?_
     refine tk 3 ⟨some 36,_,_,_,_,_⟩ rfl ?_
     have m1c := (entB_cells HPA.out).2
     have m1d : (wcA.drew).cell? ⟨p, 1, none⟩ = some (.slice aoR nR capR) := m1c
     refine wpAnyH_ready (rs := [1, 4]) (by kernel_rfl) (by simp) ?_
     refine AllReadyH.cons (o := ⟨some 34, _, _, _, _, _⟩) rfl (fun K hK => ?_) (AllReadyH.cons (o := ⟨some 37, _, _, _, _, _⟩) rfl (fun K hK => ?_) AllReadyH.nil)
     ·go_simp
      refine hK.out _ _ (trivial) (fun hHeld => ?_)
      clear hK
      try simp only [Act.put, List.setIfInBounds_toArray, List.set_cons_zero, List.set_cons_succ]
      refine tc 4 ⟨some 37,_,_,_,_,_⟩ rfl (fun K hK => ?_)
      go_simp
      go_at_call 71; refine (HCLA.out _ ((Below.refl wcA.heap.size wcA).drew)).mono ?_; rintro e w5 ⟨x5, rfl, ho5, hB5⟩; obtain ⟨a5, n5, c5, rfl, hn5⟩ := dnw.ownT_form ho5
      refine hK.out _ _ (trivial) (fun hHeld => ?_)
      clear hK
      try simp only [Act.put, List.setIfInBounds_toArray, List.set_cons_zero, List.set_cons_succ]
      have HB5 : Hid (Below wcA.heap.size wcA w5) := (Below.refl wcA.heap.size wcA).drew.trans hB5
      have HO5 := Lib.hid (ownA_below HOA.out HB5.out)
      have HP5 := Lib.hid (entB_below HPA.out HB5.out)
      have HA5 := Lib.hid (attrB_below HAA.out HB5.out)
      have hx5 := own_elem ho5
      have hnew := ownT_new ho5
      obtain ⟨ao7, m7, cap7, w7, hap, hfz, ⟨u7, hu7⟩, hP8, hO8, hB7, hkp, hsn⟩ := appA n (.slice a5 n5 c5) l dlA HO5.out HP5.out (noS_slice _ _ _) hx5 (fun _ k hk e => by have h1 := hnew k hk; have h2 := ownA_old HOA.out k e; have h3 : wcA.heap.size ≤ wcA.drew.heap.size := Nat.le_refl _; omega) (by have := HLNA.out; omega) (Nat.le_trans HGA.out.size HB5.out.size)
      have hG8 := grown_step HGA.out HB5.out hB7 1 (.slice ao7 m7 cap7)
      have hA8 : AttrB (w7.setCell ⟨p, 1, none⟩ (.slice ao7 m7 cap7)) A a.t (.slice ax M cx) := attrB_app HA5.out HAneA.out (fun e => HAp.out e) hkp
      have hA7 : AttrB w7 A a.t (.slice ax M cx) := (hkp A (kt.bld_lt HA5.out) HAneA.out).trans HA5.out
      have HAneD : Hid ((Value.slice ao7 m7 cap7).ownBlock ≠ some A) := fun e => by rcases hsn A e with h | h; exact HAneA.out h; have := kt.bld_lt HA5.out; omega
      have HRUN := Lib.hid hap
      clear hap hsn hkp hx5 hnew ho5
      refine tk 5 ⟨some 38,_,_,_,_,_⟩ rfl ?_
      refine tc 6 ⟨some 39,_,_,_,_,_⟩ rfl (fun K hK => ?_)
      go_simp
      refine hK.out _ _ (trivial) (fun hHeld => ?_)
      clear hK
      try simp only [Act.put, List.setIfInBounds_toArray, List.set_cons_zero, List.set_cons_succ]
      refine tc 7 ⟨some 40,_,_,_,_,_⟩ rfl (fun K hK => ?_)
      refine kt.step_append_run rfl _ _ 23 23 rfl _ _ (by simp [Act.eval, Act.put]) (by simp [Act.eval, Act.put]) _ _ HRUN.out ?_
      refine hK.out _ _ (trivial) (fun hHeld => ?_)
      clear hK
      try simp only [Act.put, List.setIfInBounds_toArray, List.set_cons_zero, List.set_cons_succ]
      refine tk 8 ⟨some 41,_,_,_,_,_⟩ rfl ?_
      refine tc 9 ⟨none,_,_,_,_,_⟩ rfl (fun K hK => ?_)
      go_simp
      refine hK.out _ _ (trivial) (fun hHeld => ?_)
      clear hK
      try simp only [Act.put, List.setIfInBounds_toArray, List.set_cons_zero, List.set_cons_succ]
      refine wpAnyH_done (by kernel_rfl) ?_ _
      obtain ⟨wcP, hwcP⟩ : ∃ W, w7.setCell ⟨p, 1, none⟩ (.slice ao7 m7 cap7) = W := ⟨_, rfl⟩
      rw [hwcP] at hP8 hO8 hG8 hA8 ⊢
      have HPP := Lib.hid hP8
      have HOP := Lib.hid hO8
      have HGP := Lib.hid hG8
      have HAP := Lib.hid hA8
      have HAneP := HAneD
      obtain ⟨dlP, hdlP⟩ : ∃ D, dlA ++ [((⟨n, l⟩ : At), Value.slice a5 n5 c5)] = D := ⟨_, rfl⟩
      rw [hdlP] at HOP
      have HLNP : Hid (dlP.length ≤ 2 * i + 1) := by show _ ≤ _; rw [← hdlP, List.length_append]; have := HLNA.out; simp only [List.length_cons, List.length_nil]; omega
      have HMPP : Hid (dlP.map Prod.fst = dlA.map Prod.fst ++ [(⟨n, l⟩ : At)]) := by show _ = _; rw [← hdlP, List.map_append]; rfl
      have HDLP := Lib.hid hdlP
      clear hP8 hO8 hG8 hdlP hwcP hfz hu7 HRUN hB7 HO5 HP5 HB5 HA5 hA7 hA8 HAneD hB5 m1c m1d hHeld
      obtain ⟨aoP, mP, capP, HPP2, HOP2, HAneP2⟩ : ∃ aoP mP capP, Hid (EntB wcP p (.slice ro' Nr rc') (.slice aoP mP capP)) ∧ Hid (OwnA wcP w4.heap.size (.slice aoP mP capP) dlP) ∧ Hid ((Value.slice aoP mP capP).ownBlock ≠ some A) := ⟨ao7, m7, cap7, HPP, HOP, HAneP⟩
      clear HPP HOP HAneP
      have HPP := HPP2
      have HOP := HOP2
      have HAneP := HAneP2
      clear HPP2 HOP2 HAneP2
      have x0P := (attrB_cells HAP.out).1
      by_cases hq : a.t = n
      ·have q := str_eq_beq hq
       have q' : (a.t.toList != n.toList) = false := by rw [bne, q]; rfl
       have HQ : Hid ((if a.t = n then [] else [a]) = ([] : List At)) := by show _ = _; rw [if_pos hq]
       clear hq
       go_wp2_with fail
       go_roundw
       case rel => exact ⟨i + 1, true, _, dlP, by omega, rfl, by go_num, HGP, HPP, HOP, (by show _ ≤ _; have := HLNP.out; omega), (by show _ = _; rw [HF.out, HST.out, HPU.out, HQ.out, HMPP.out]; simp [List.append_assoc])⟩
       case measure => simp [intOf]; omega
      ·have q := ne_str hq
       have q' : (a.t.toList != n.toList) = true := by rw [bne, q]; rfl
       have HQ : Hid ((if a.t = n then [] else [a]) = [a]) := by show _ = _; rw [if_neg hq]
       clear hq
       have HCAP : Hid (∀ W, Below wcP.heap.size wcP W → Calls Tryz.prog 71 #[.slice ax M cx] W fun e w' => CloneE a.vs W e w') := fun W h => HCA.out W ((HBw.out (wcP) HGP.out).trans (h.mono (HBw.out (wcP) HGP.out).size))
       go_wp2_with fail
       refine wp_region_held_drew (S := fun W => W.cell? ⟨A, 0, none⟩ = some (.string a.t) ∧ W.cell? ⟨A, 1, none⟩ = some (.slice ax M cx)) (by kernel_rfl) (attrB_cells HAP.out) (fun hHeld => ?_)
       refine tk 0 ⟨some 46,_,_,_,_,_⟩ rfl ?_
       refine tk 2 ⟨some 48,_,_,_,_,_⟩ rfl ?_
       refine tk 3 ⟨some 49,_,_,_,_,_⟩ rfl ?_
       refine tk 4 ⟨some 50,_,_,_,_,_⟩ rfl ?_
       refine tk 5 ⟨some 51,_,_,_,_,_⟩ rfl ?_
       have m1c := (entB_cells HPP.out).2
       have m1d : (wcP.drew).cell? ⟨p, 1, none⟩ = some (.slice aoP mP capP) := m1c
       refine wpAnyH_ready (rs := [1, 6]) (by kernel_rfl) (by simp) ?_
       refine AllReadyH.cons (o := ⟨some 47, _, _, _, _, _⟩) rfl (fun K hK => ?_) (AllReadyH.cons (o := ⟨some 52, _, _, _, _, _⟩) rfl (fun K hK => ?_) AllReadyH.nil)
       ·go_simp
        refine hK.out _ _ (hHeld) (fun hHeld => ?_)
        clear hK
        try simp only [Act.put, List.setIfInBounds_toArray, List.set_cons_zero, List.set_cons_succ]
        refine tc 6 ⟨some 52,_,_,_,_,_⟩ rfl (fun K hK => ?_)
        go_simp
        go_at_call 71; refine (HCAP.out _ ((Below.refl wcP.heap.size wcP).drew)).mono ?_; rintro e w5 ⟨x5, rfl, ho5, hB5⟩; obtain ⟨a5, n5, c5, rfl, hn5⟩ := dnw.ownT_form ho5
        refine hK.out _ _ (attrB_cells (attrB_below HAP.out ((Below.refl wcP.heap.size wcP).drew.trans hB5))) (fun hHeld => ?_)
        clear hK
        try simp only [Act.put, List.setIfInBounds_toArray, List.set_cons_zero, List.set_cons_succ]
        have HB5 : Hid (Below wcP.heap.size wcP w5) := (Below.refl wcP.heap.size wcP).drew.trans hB5
        have HO5 := Lib.hid (ownA_below HOP.out HB5.out)
        have HP5 := Lib.hid (entB_below HPP.out HB5.out)
        have HA5 := Lib.hid (attrB_below HAP.out HB5.out)
        have hx5 := own_elem ho5
        have hnew := ownT_new ho5
        obtain ⟨ao7, m7, cap7, w7, hap, hfz, ⟨u7, hu7⟩, hP8, hO8, hB7, hkp, hsn⟩ := appA a.t (.slice a5 n5 c5) a.vs dlP HO5.out HP5.out (noS_slice _ _ _) hx5 (fun _ k hk e => by have h1 := hnew k hk; have h2 := ownA_old HOP.out k e; have h3 : wcP.heap.size ≤ wcP.drew.heap.size := Nat.le_refl _; omega) (by have := HLNP.out; omega) (Nat.le_trans HGP.out.size HB5.out.size)
        have hG8 := grown_step HGP.out HB5.out hB7 1 (.slice ao7 m7 cap7)
        have hA8 : AttrB (w7.setCell ⟨p, 1, none⟩ (.slice ao7 m7 cap7)) A a.t (.slice ax M cx) := attrB_app HA5.out HAneP.out (fun e => HAp.out e) hkp
        have hA7 : AttrB w7 A a.t (.slice ax M cx) := (hkp A (kt.bld_lt HA5.out) HAneP.out).trans HA5.out
        have HAneD : Hid ((Value.slice ao7 m7 cap7).ownBlock ≠ some A) := fun e => by rcases hsn A e with h | h; exact HAneP.out h; have := kt.bld_lt HA5.out; omega
        have HRUN := Lib.hid hap
        clear hap hsn hkp hx5 hnew ho5
        refine tk 7 ⟨some 53,_,_,_,_,_⟩ rfl ?_
        refine tc 8 ⟨some 54,_,_,_,_,_⟩ rfl (fun K hK => ?_)
        go_simp
        refine hK.out _ _ ((by have hh := attrB_below HA5.out ((Below.refl w5.heap.size w5).alloc (Nat.le_refl _) (.cells #[.string a.t, .slice a5 n5 c5] 57)); exact attrB_cells hh)) (fun hHeld => ?_)
        clear hK
        try simp only [Act.put, List.setIfInBounds_toArray, List.set_cons_zero, List.set_cons_succ]
        refine tc 9 ⟨some 55,_,_,_,_,_⟩ rfl (fun K hK => ?_)
        refine kt.step_append_run rfl _ _ 23 23 rfl _ _ (by simp [Act.eval, Act.put]) (by simp [Act.eval, Act.put]) _ _ HRUN.out ?_
        refine hK.out _ _ (attrB_cells hA7) (fun hHeld => ?_)
        clear hK
        try simp only [Act.put, List.setIfInBounds_toArray, List.set_cons_zero, List.set_cons_succ]
        refine tk 10 ⟨some 56,_,_,_,_,_⟩ rfl ?_
        refine tc 11 ⟨none,_,_,_,_,_⟩ rfl (fun K hK => ?_)
        go_simp
        refine hK.out _ _ (attrB_cells hA8) (fun hHeld => ?_)
        clear hK
        try simp only [Act.put, List.setIfInBounds_toArray, List.set_cons_zero, List.set_cons_succ]
        refine wpAnyH_done (by kernel_rfl) ?_ _
        obtain ⟨wcS, hwcS⟩ : ∃ W, w7.setCell ⟨p, 1, none⟩ (.slice ao7 m7 cap7) = W := ⟨_, rfl⟩
        rw [hwcS] at hP8 hO8 hG8 hA8 ⊢
        have HPS := Lib.hid hP8
        have HOS := Lib.hid hO8
        have HGS := Lib.hid hG8
        have HAS := Lib.hid hA8
        have HAneS := HAneD
        obtain ⟨dlS, hdlS⟩ : ∃ D, dlP ++ [((⟨a.t, a.vs⟩ : At), Value.slice a5 n5 c5)] = D := ⟨_, rfl⟩
        rw [hdlS] at HOS
        have HLNS : Hid (dlS.length ≤ 2 * i + 2) := by show _ ≤ _; rw [← hdlS, List.length_append]; have := HLNP.out; simp only [List.length_cons, List.length_nil]; omega
        have HMPS : Hid (dlS.map Prod.fst = dlP.map Prod.fst ++ [(⟨a.t, a.vs⟩ : At)]) := by show _ = _; rw [← hdlS, List.map_append]; rfl
        have HDLS := Lib.hid hdlS
        clear hP8 hO8 hG8 hdlS hwcS hfz hu7 HRUN hB7 HO5 HP5 HB5 HA5 hA7 hA8 HAneD hB5 m1c m1d hHeld
        go_wp2_with fail
        go_roundw
        case rel => exact ⟨i + 1, true, _, dlS, by omega, rfl, by go_num, HGS, HPS, HOS, (by show _ ≤ _; have := HLNS.out; omega), (by show _ = _; rw [HF.out, HST.out, HPU.out, HQ.out, HMPS.out, HMPP.out]; simp [List.append_assoc])⟩
        case measure => simp [intOf]; omega
       ·go_simp
        go_at_call 71; refine (HCAP.out _ ((Below.refl wcP.heap.size wcP).drew)).mono ?_; rintro e w5 ⟨x5, rfl, ho5, hB5⟩; obtain ⟨a5, n5, c5, rfl, hn5⟩ := dnw.ownT_form ho5
        refine hK.out _ _ (attrB_cells (attrB_below HAP.out ((Below.refl wcP.heap.size wcP).drew.trans hB5))) (fun hHeld => ?_)
        clear hK
        try simp only [Act.put, List.setIfInBounds_toArray, List.set_cons_zero, List.set_cons_succ]
        have HB5 : Hid (Below wcP.heap.size wcP w5) := (Below.refl wcP.heap.size wcP).drew.trans hB5
        have HO5 := Lib.hid (ownA_below HOP.out HB5.out)
        have HP5 := Lib.hid (entB_below HPP.out HB5.out)
        have HA5 := Lib.hid (attrB_below HAP.out HB5.out)
        have hx5 := own_elem ho5
        have hnew := ownT_new ho5
        obtain ⟨ao7, m7, cap7, w7, hap, hfz, ⟨u7, hu7⟩, hP8, hO8, hB7, hkp, hsn⟩ := appA a.t (.slice a5 n5 c5) a.vs dlP HO5.out HP5.out (noS_slice _ _ _) hx5 (fun _ k hk e => by have h1 := hnew k hk; have h2 := ownA_old HOP.out k e; have h3 : wcP.heap.size ≤ wcP.drew.heap.size := Nat.le_refl _; omega) (by have := HLNP.out; omega) (Nat.le_trans HGP.out.size HB5.out.size)
        have hG8 := grown_step HGP.out HB5.out hB7 1 (.slice ao7 m7 cap7)
        have hA8 : AttrB (w7.setCell ⟨p, 1, none⟩ (.slice ao7 m7 cap7)) A a.t (.slice ax M cx) := attrB_app HA5.out HAneP.out (fun e => HAp.out e) hkp
        have hA7 : AttrB w7 A a.t (.slice ax M cx) := (hkp A (kt.bld_lt HA5.out) HAneP.out).trans HA5.out
        have HAneD : Hid ((Value.slice ao7 m7 cap7).ownBlock ≠ some A) := fun e => by rcases hsn A e with h | h; exact HAneP.out h; have := kt.bld_lt HA5.out; omega
        have HRUN := Lib.hid hap
        clear hap hsn hkp hx5 hnew ho5
        refine tk 7 ⟨some 53,_,_,_,_,_⟩ rfl ?_
        refine wpAnyH_ready (rs := [1, 8]) (by kernel_rfl) (by simp) ?_
        refine AllReadyH.cons (o := ⟨some 47, _, _, _, _, _⟩) rfl (fun K hK => ?_) (AllReadyH.cons (o := ⟨some 54, _, _, _, _, _⟩) rfl (fun K hK => ?_) AllReadyH.nil)
        ·have m1e := (entB_cells HP5.out).2
         go_simp
         refine hK.out _ _ (hHeld) (fun hHeld => ?_)
         clear hK
         try simp only [Act.put, List.setIfInBounds_toArray, List.set_cons_zero, List.set_cons_succ]
         clear m1e
         refine tc 8 ⟨some 54,_,_,_,_,_⟩ rfl (fun K hK => ?_)
         go_simp
         refine hK.out _ _ ((by have hh := attrB_below HA5.out ((Below.refl w5.heap.size w5).alloc (Nat.le_refl _) (.cells #[.string a.t, .slice a5 n5 c5] 57)); exact attrB_cells hh)) (fun hHeld => ?_)
         clear hK
         try simp only [Act.put, List.setIfInBounds_toArray, List.set_cons_zero, List.set_cons_succ]
         refine tc 9 ⟨some 55,_,_,_,_,_⟩ rfl (fun K hK => ?_)
         refine kt.step_append_run rfl _ _ 23 23 rfl _ _ (by simp [Act.eval, Act.put]) (by simp [Act.eval, Act.put]) _ _ HRUN.out ?_
         refine hK.out _ _ (attrB_cells hA7) (fun hHeld => ?_)
         clear hK
         try simp only [Act.put, List.setIfInBounds_toArray, List.set_cons_zero, List.set_cons_succ]
         refine tk 10 ⟨some 56,_,_,_,_,_⟩ rfl ?_
         refine tc 11 ⟨none,_,_,_,_,_⟩ rfl (fun K hK => ?_)
         go_simp
         refine hK.out _ _ (attrB_cells hA8) (fun hHeld => ?_)
         clear hK
         try simp only [Act.put, List.setIfInBounds_toArray, List.set_cons_zero, List.set_cons_succ]
         refine wpAnyH_done (by kernel_rfl) ?_ _
         obtain ⟨wcS, hwcS⟩ : ∃ W, w7.setCell ⟨p, 1, none⟩ (.slice ao7 m7 cap7) = W := ⟨_, rfl⟩
         rw [hwcS] at hP8 hO8 hG8 hA8 ⊢
         have HPS := Lib.hid hP8
         have HOS := Lib.hid hO8
         have HGS := Lib.hid hG8
         have HAS := Lib.hid hA8
         have HAneS := HAneD
         obtain ⟨dlS, hdlS⟩ : ∃ D, dlP ++ [((⟨a.t, a.vs⟩ : At), Value.slice a5 n5 c5)] = D := ⟨_, rfl⟩
         rw [hdlS] at HOS
         have HLNS : Hid (dlS.length ≤ 2 * i + 2) := by show _ ≤ _; rw [← hdlS, List.length_append]; have := HLNP.out; simp only [List.length_cons, List.length_nil]; omega
         have HMPS : Hid (dlS.map Prod.fst = dlP.map Prod.fst ++ [(⟨a.t, a.vs⟩ : At)]) := by show _ = _; rw [← hdlS, List.map_append]; rfl
         have HDLS := Lib.hid hdlS
         clear hP8 hO8 hG8 hdlS hwcS hfz hu7 HRUN hB7 HO5 HP5 HB5 HA5 hA7 hA8 HAneD hB5 m1c m1d hHeld
         go_wp2_with fail
         go_roundw
         case rel => exact ⟨i + 1, true, _, dlS, by omega, rfl, by go_num, HGS, HPS, HOS, (by show _ ≤ _; have := HLNS.out; omega), (by show _ = _; rw [HF.out, HST.out, HPU.out, HQ.out, HMPS.out, HMPP.out]; simp [List.append_assoc])⟩
         case measure => simp [intOf]; omega
        ·go_simp
         refine hK.out _ _ ((by have hh := attrB_below HA5.out ((Below.refl w5.heap.size w5).alloc (Nat.le_refl _) (.cells #[.string a.t, .slice a5 n5 c5] 57)); exact attrB_cells hh)) (fun hHeld => ?_)
         clear hK
         try simp only [Act.put, List.setIfInBounds_toArray, List.set_cons_zero, List.set_cons_succ]
         have m1e := (entB_cells (entB_below HP5.out ((Below.refl w5.heap.size w5).alloc (Nat.le_refl _) (.cells #[.string a.t, .slice a5 n5 c5] 57)))).2
         refine tc 1 ⟨some 47,_,_,_,_,_⟩ rfl (fun K hK => ?_)
         go_simp
         refine hK.out _ _ (hHeld) (fun hHeld => ?_)
         clear hK
         try simp only [Act.put, List.setIfInBounds_toArray, List.set_cons_zero, List.set_cons_succ]
         clear m1e
         refine tc 9 ⟨some 55,_,_,_,_,_⟩ rfl (fun K hK => ?_)
         refine kt.step_append_run rfl _ _ 23 23 rfl _ _ (by simp [Act.eval, Act.put]) (by simp [Act.eval, Act.put]) _ _ HRUN.out ?_
         refine hK.out _ _ (attrB_cells hA7) (fun hHeld => ?_)
         clear hK
         try simp only [Act.put, List.setIfInBounds_toArray, List.set_cons_zero, List.set_cons_succ]
         refine tk 10 ⟨some 56,_,_,_,_,_⟩ rfl ?_
         refine tc 11 ⟨none,_,_,_,_,_⟩ rfl (fun K hK => ?_)
         go_simp
         refine hK.out _ _ (attrB_cells hA8) (fun hHeld => ?_)
         clear hK
         try simp only [Act.put, List.setIfInBounds_toArray, List.set_cons_zero, List.set_cons_succ]
         refine wpAnyH_done (by kernel_rfl) ?_ _
         obtain ⟨wcS, hwcS⟩ : ∃ W, w7.setCell ⟨p, 1, none⟩ (.slice ao7 m7 cap7) = W := ⟨_, rfl⟩
         rw [hwcS] at hP8 hO8 hG8 hA8 ⊢
         have HPS := Lib.hid hP8
         have HOS := Lib.hid hO8
         have HGS := Lib.hid hG8
         have HAS := Lib.hid hA8
         have HAneS := HAneD
         obtain ⟨dlS, hdlS⟩ : ∃ D, dlP ++ [((⟨a.t, a.vs⟩ : At), Value.slice a5 n5 c5)] = D := ⟨_, rfl⟩
         rw [hdlS] at HOS
         have HLNS : Hid (dlS.length ≤ 2 * i + 2) := by show _ ≤ _; rw [← hdlS, List.length_append]; have := HLNP.out; simp only [List.length_cons, List.length_nil]; omega
         have HMPS : Hid (dlS.map Prod.fst = dlP.map Prod.fst ++ [(⟨a.t, a.vs⟩ : At)]) := by show _ = _; rw [← hdlS, List.map_append]; rfl
         have HDLS := Lib.hid hdlS
         clear hP8 hO8 hG8 hdlS hwcS hfz hu7 HRUN hB7 HO5 HP5 HB5 HA5 hA7 hA8 HAneD hB5 m1c m1d hHeld
         go_wp2_with fail
         go_roundw
         case rel => exact ⟨i + 1, true, _, dlS, by omega, rfl, by go_num, HGS, HPS, HOS, (by show _ ≤ _; have := HLNS.out; omega), (by show _ = _; rw [HF.out, HST.out, HPU.out, HQ.out, HMPS.out, HMPP.out]; simp [List.append_assoc])⟩
         case measure => simp [intOf]; omega
     ·go_simp
      go_at_call 71; refine (HCLA.out _ ((Below.refl wcA.heap.size wcA).drew)).mono ?_; rintro e w5 ⟨x5, rfl, ho5, hB5⟩; obtain ⟨a5, n5, c5, rfl, hn5⟩ := dnw.ownT_form ho5
      refine hK.out _ _ (trivial) (fun hHeld => ?_)
      clear hK
      try simp only [Act.put, List.setIfInBounds_toArray, List.set_cons_zero, List.set_cons_succ]
      have HB5 : Hid (Below wcA.heap.size wcA w5) := (Below.refl wcA.heap.size wcA).drew.trans hB5
      have HO5 := Lib.hid (ownA_below HOA.out HB5.out)
      have HP5 := Lib.hid (entB_below HPA.out HB5.out)
      have HA5 := Lib.hid (attrB_below HAA.out HB5.out)
      have hx5 := own_elem ho5
      have hnew := ownT_new ho5
      obtain ⟨ao7, m7, cap7, w7, hap, hfz, ⟨u7, hu7⟩, hP8, hO8, hB7, hkp, hsn⟩ := appA n (.slice a5 n5 c5) l dlA HO5.out HP5.out (noS_slice _ _ _) hx5 (fun _ k hk e => by have h1 := hnew k hk; have h2 := ownA_old HOA.out k e; have h3 : wcA.heap.size ≤ wcA.drew.heap.size := Nat.le_refl _; omega) (by have := HLNA.out; omega) (Nat.le_trans HGA.out.size HB5.out.size)
      have hG8 := grown_step HGA.out HB5.out hB7 1 (.slice ao7 m7 cap7)
      have hA8 : AttrB (w7.setCell ⟨p, 1, none⟩ (.slice ao7 m7 cap7)) A a.t (.slice ax M cx) := attrB_app HA5.out HAneA.out (fun e => HAp.out e) hkp
      have hA7 : AttrB w7 A a.t (.slice ax M cx) := (hkp A (kt.bld_lt HA5.out) HAneA.out).trans HA5.out
      have HAneD : Hid ((Value.slice ao7 m7 cap7).ownBlock ≠ some A) := fun e => by rcases hsn A e with h | h; exact HAneA.out h; have := kt.bld_lt HA5.out; omega
      have HRUN := Lib.hid hap
      clear hap hsn hkp hx5 hnew ho5
      refine tk 5 ⟨some 38,_,_,_,_,_⟩ rfl ?_
      refine wpAnyH_ready (rs := [1, 6]) (by kernel_rfl) (by simp) ?_
      refine AllReadyH.cons (o := ⟨some 34, _, _, _, _, _⟩) rfl (fun K hK => ?_) (AllReadyH.cons (o := ⟨some 39, _, _, _, _, _⟩) rfl (fun K hK => ?_) AllReadyH.nil)
      ·have m1e := (entB_cells HP5.out).2
       go_simp
       refine hK.out _ _ (trivial) (fun hHeld => ?_)
       clear hK
       try simp only [Act.put, List.setIfInBounds_toArray, List.set_cons_zero, List.set_cons_succ]
       clear m1e
       refine tc 6 ⟨some 39,_,_,_,_,_⟩ rfl (fun K hK => ?_)
       go_simp
       refine hK.out _ _ (trivial) (fun hHeld => ?_)
       clear hK
       try simp only [Act.put, List.setIfInBounds_toArray, List.set_cons_zero, List.set_cons_succ]
       refine tc 7 ⟨some 40,_,_,_,_,_⟩ rfl (fun K hK => ?_)
       refine kt.step_append_run rfl _ _ 23 23 rfl _ _ (by simp [Act.eval, Act.put]) (by simp [Act.eval, Act.put]) _ _ HRUN.out ?_
       refine hK.out _ _ (trivial) (fun hHeld => ?_)
       clear hK
       try simp only [Act.put, List.setIfInBounds_toArray, List.set_cons_zero, List.set_cons_succ]
       refine tk 8 ⟨some 41,_,_,_,_,_⟩ rfl ?_
       refine tc 9 ⟨none,_,_,_,_,_⟩ rfl (fun K hK => ?_)
       go_simp
       refine hK.out _ _ (trivial) (fun hHeld => ?_)
       clear hK
       try simp only [Act.put, List.setIfInBounds_toArray, List.set_cons_zero, List.set_cons_succ]
       refine wpAnyH_done (by kernel_rfl) ?_ _
       obtain ⟨wcP, hwcP⟩ : ∃ W, w7.setCell ⟨p, 1, none⟩ (.slice ao7 m7 cap7) = W := ⟨_, rfl⟩
       rw [hwcP] at hP8 hO8 hG8 hA8 ⊢
       have HPP := Lib.hid hP8
       have HOP := Lib.hid hO8
       have HGP := Lib.hid hG8
       have HAP := Lib.hid hA8
       have HAneP := HAneD
       obtain ⟨dlP, hdlP⟩ : ∃ D, dlA ++ [((⟨n, l⟩ : At), Value.slice a5 n5 c5)] = D := ⟨_, rfl⟩
       rw [hdlP] at HOP
       have HLNP : Hid (dlP.length ≤ 2 * i + 1) := by show _ ≤ _; rw [← hdlP, List.length_append]; have := HLNA.out; simp only [List.length_cons, List.length_nil]; omega
       have HMPP : Hid (dlP.map Prod.fst = dlA.map Prod.fst ++ [(⟨n, l⟩ : At)]) := by show _ = _; rw [← hdlP, List.map_append]; rfl
       have HDLP := Lib.hid hdlP
       clear hP8 hO8 hG8 hdlP hwcP hfz hu7 HRUN hB7 HO5 HP5 HB5 HA5 hA7 hA8 HAneD hB5 m1c m1d hHeld
       obtain ⟨aoP, mP, capP, HPP2, HOP2, HAneP2⟩ : ∃ aoP mP capP, Hid (EntB wcP p (.slice ro' Nr rc') (.slice aoP mP capP)) ∧ Hid (OwnA wcP w4.heap.size (.slice aoP mP capP) dlP) ∧ Hid ((Value.slice aoP mP capP).ownBlock ≠ some A) := ⟨ao7, m7, cap7, HPP, HOP, HAneP⟩
       clear HPP HOP HAneP
       have HPP := HPP2
       have HOP := HOP2
       have HAneP := HAneP2
       clear HPP2 HOP2 HAneP2
       have x0P := (attrB_cells HAP.out).1
       by_cases hq : a.t = n
       ·have q := str_eq_beq hq
        have q' : (a.t.toList != n.toList) = false := by rw [bne, q]; rfl
        have HQ : Hid ((if a.t = n then [] else [a]) = ([] : List At)) := by show _ = _; rw [if_pos hq]
        clear hq
        go_wp2_with fail
        go_roundw
        case rel => exact ⟨i + 1, true, _, dlP, by omega, rfl, by go_num, HGP, HPP, HOP, (by show _ ≤ _; have := HLNP.out; omega), (by show _ = _; rw [HF.out, HST.out, HPU.out, HQ.out, HMPP.out]; simp [List.append_assoc])⟩
        case measure => simp [intOf]; omega
       ·have q := ne_str hq
        have q' : (a.t.toList != n.toList) = true := by rw [bne, q]; rfl
        have HQ : Hid ((if a.t = n then [] else [a]) = [a]) := by show _ = _; rw [if_neg hq]
        clear hq
        have HCAP : Hid (∀ W, Below wcP.heap.size wcP W → Calls Tryz.prog 71 #[.slice ax M cx] W fun e w' => CloneE a.vs W e w') := fun W h => HCA.out W ((HBw.out (wcP) HGP.out).trans (h.mono (HBw.out (wcP) HGP.out).size))
        go_wp2_with fail
        refine wp_region_held_drew (S := fun W => W.cell? ⟨A, 0, none⟩ = some (.string a.t) ∧ W.cell? ⟨A, 1, none⟩ = some (.slice ax M cx)) (by kernel_rfl) (attrB_cells HAP.out) (fun hHeld => ?_)
        refine tk 0 ⟨some 46,_,_,_,_,_⟩ rfl ?_
        refine tk 2 ⟨some 48,_,_,_,_,_⟩ rfl ?_
        refine tk 3 ⟨some 49,_,_,_,_,_⟩ rfl ?_
        refine tk 4 ⟨some 50,_,_,_,_,_⟩ rfl ?_
        refine tk 5 ⟨some 51,_,_,_,_,_⟩ rfl ?_
        have m1c := (entB_cells HPP.out).2
        have m1d : (wcP.drew).cell? ⟨p, 1, none⟩ = some (.slice aoP mP capP) := m1c
        refine wpAnyH_ready (rs := [1, 6]) (by kernel_rfl) (by simp) ?_
        refine AllReadyH.cons (o := ⟨some 47, _, _, _, _, _⟩) rfl (fun K hK => ?_) (AllReadyH.cons (o := ⟨some 52, _, _, _, _, _⟩) rfl (fun K hK => ?_) AllReadyH.nil)
        ·go_simp
         refine hK.out _ _ (hHeld) (fun hHeld => ?_)
         clear hK
         try simp only [Act.put, List.setIfInBounds_toArray, List.set_cons_zero, List.set_cons_succ]
         refine tc 6 ⟨some 52,_,_,_,_,_⟩ rfl (fun K hK => ?_)
         go_simp
         go_at_call 71; refine (HCAP.out _ ((Below.refl wcP.heap.size wcP).drew)).mono ?_; rintro e w5 ⟨x5, rfl, ho5, hB5⟩; obtain ⟨a5, n5, c5, rfl, hn5⟩ := dnw.ownT_form ho5
         refine hK.out _ _ (attrB_cells (attrB_below HAP.out ((Below.refl wcP.heap.size wcP).drew.trans hB5))) (fun hHeld => ?_)
         clear hK
         try simp only [Act.put, List.setIfInBounds_toArray, List.set_cons_zero, List.set_cons_succ]
         have HB5 : Hid (Below wcP.heap.size wcP w5) := (Below.refl wcP.heap.size wcP).drew.trans hB5
         have HO5 := Lib.hid (ownA_below HOP.out HB5.out)
         have HP5 := Lib.hid (entB_below HPP.out HB5.out)
         have HA5 := Lib.hid (attrB_below HAP.out HB5.out)
         have hx5 := own_elem ho5
         have hnew := ownT_new ho5
         obtain ⟨ao7, m7, cap7, w7, hap, hfz, ⟨u7, hu7⟩, hP8, hO8, hB7, hkp, hsn⟩ := appA a.t (.slice a5 n5 c5) a.vs dlP HO5.out HP5.out (noS_slice _ _ _) hx5 (fun _ k hk e => by have h1 := hnew k hk; have h2 := ownA_old HOP.out k e; have h3 : wcP.heap.size ≤ wcP.drew.heap.size := Nat.le_refl _; omega) (by have := HLNP.out; omega) (Nat.le_trans HGP.out.size HB5.out.size)
         have hG8 := grown_step HGP.out HB5.out hB7 1 (.slice ao7 m7 cap7)
         have hA8 : AttrB (w7.setCell ⟨p, 1, none⟩ (.slice ao7 m7 cap7)) A a.t (.slice ax M cx) := attrB_app HA5.out HAneP.out (fun e => HAp.out e) hkp
         have hA7 : AttrB w7 A a.t (.slice ax M cx) := (hkp A (kt.bld_lt HA5.out) HAneP.out).trans HA5.out
         have HAneD : Hid ((Value.slice ao7 m7 cap7).ownBlock ≠ some A) := fun e => by rcases hsn A e with h | h; exact HAneP.out h; have := kt.bld_lt HA5.out; omega
         have HRUN := Lib.hid hap
         clear hap hsn hkp hx5 hnew ho5
         refine tk 7 ⟨some 53,_,_,_,_,_⟩ rfl ?_
         refine tc 8 ⟨some 54,_,_,_,_,_⟩ rfl (fun K hK => ?_)
         go_simp
         refine hK.out _ _ ((by have hh := attrB_below HA5.out ((Below.refl w5.heap.size w5).alloc (Nat.le_refl _) (.cells #[.string a.t, .slice a5 n5 c5] 57)); exact attrB_cells hh)) (fun hHeld => ?_)
         clear hK
         try simp only [Act.put, List.setIfInBounds_toArray, List.set_cons_zero, List.set_cons_succ]
         refine tc 9 ⟨some 55,_,_,_,_,_⟩ rfl (fun K hK => ?_)
         refine kt.step_append_run rfl _ _ 23 23 rfl _ _ (by simp [Act.eval, Act.put]) (by simp [Act.eval, Act.put]) _ _ HRUN.out ?_
         refine hK.out _ _ (attrB_cells hA7) (fun hHeld => ?_)
         clear hK
         try simp only [Act.put, List.setIfInBounds_toArray, List.set_cons_zero, List.set_cons_succ]
         refine tk 10 ⟨some 56,_,_,_,_,_⟩ rfl ?_
         refine tc 11 ⟨none,_,_,_,_,_⟩ rfl (fun K hK => ?_)
         go_simp
         refine hK.out _ _ (attrB_cells hA8) (fun hHeld => ?_)
         clear hK
         try simp only [Act.put, List.setIfInBounds_toArray, List.set_cons_zero, List.set_cons_succ]
         refine wpAnyH_done (by kernel_rfl) ?_ _
         obtain ⟨wcS, hwcS⟩ : ∃ W, w7.setCell ⟨p, 1, none⟩ (.slice ao7 m7 cap7) = W := ⟨_, rfl⟩
         rw [hwcS] at hP8 hO8 hG8 hA8 ⊢
         have HPS := Lib.hid hP8
         have HOS := Lib.hid hO8
         have HGS := Lib.hid hG8
         have HAS := Lib.hid hA8
         have HAneS := HAneD
         obtain ⟨dlS, hdlS⟩ : ∃ D, dlP ++ [((⟨a.t, a.vs⟩ : At), Value.slice a5 n5 c5)] = D := ⟨_, rfl⟩
         rw [hdlS] at HOS
         have HLNS : Hid (dlS.length ≤ 2 * i + 2) := by show _ ≤ _; rw [← hdlS, List.length_append]; have := HLNP.out; simp only [List.length_cons, List.length_nil]; omega
         have HMPS : Hid (dlS.map Prod.fst = dlP.map Prod.fst ++ [(⟨a.t, a.vs⟩ : At)]) := by show _ = _; rw [← hdlS, List.map_append]; rfl
         have HDLS := Lib.hid hdlS
         clear hP8 hO8 hG8 hdlS hwcS hfz hu7 HRUN hB7 HO5 HP5 HB5 HA5 hA7 hA8 HAneD hB5 m1c m1d hHeld
         go_wp2_with fail
         go_roundw
         case rel => exact ⟨i + 1, true, _, dlS, by omega, rfl, by go_num, HGS, HPS, HOS, (by show _ ≤ _; have := HLNS.out; omega), (by show _ = _; rw [HF.out, HST.out, HPU.out, HQ.out, HMPS.out, HMPP.out]; simp [List.append_assoc])⟩
         case measure => simp [intOf]; omega
        ·go_simp
         go_at_call 71; refine (HCAP.out _ ((Below.refl wcP.heap.size wcP).drew)).mono ?_; rintro e w5 ⟨x5, rfl, ho5, hB5⟩; obtain ⟨a5, n5, c5, rfl, hn5⟩ := dnw.ownT_form ho5
         refine hK.out _ _ (attrB_cells (attrB_below HAP.out ((Below.refl wcP.heap.size wcP).drew.trans hB5))) (fun hHeld => ?_)
         clear hK
         try simp only [Act.put, List.setIfInBounds_toArray, List.set_cons_zero, List.set_cons_succ]
         have HB5 : Hid (Below wcP.heap.size wcP w5) := (Below.refl wcP.heap.size wcP).drew.trans hB5
         have HO5 := Lib.hid (ownA_below HOP.out HB5.out)
         have HP5 := Lib.hid (entB_below HPP.out HB5.out)
         have HA5 := Lib.hid (attrB_below HAP.out HB5.out)
         have hx5 := own_elem ho5
         have hnew := ownT_new ho5
         obtain ⟨ao7, m7, cap7, w7, hap, hfz, ⟨u7, hu7⟩, hP8, hO8, hB7, hkp, hsn⟩ := appA a.t (.slice a5 n5 c5) a.vs dlP HO5.out HP5.out (noS_slice _ _ _) hx5 (fun _ k hk e => by have h1 := hnew k hk; have h2 := ownA_old HOP.out k e; have h3 : wcP.heap.size ≤ wcP.drew.heap.size := Nat.le_refl _; omega) (by have := HLNP.out; omega) (Nat.le_trans HGP.out.size HB5.out.size)
         have hG8 := grown_step HGP.out HB5.out hB7 1 (.slice ao7 m7 cap7)
         have hA8 : AttrB (w7.setCell ⟨p, 1, none⟩ (.slice ao7 m7 cap7)) A a.t (.slice ax M cx) := attrB_app HA5.out HAneP.out (fun e => HAp.out e) hkp
         have hA7 : AttrB w7 A a.t (.slice ax M cx) := (hkp A (kt.bld_lt HA5.out) HAneP.out).trans HA5.out
         have HAneD : Hid ((Value.slice ao7 m7 cap7).ownBlock ≠ some A) := fun e => by rcases hsn A e with h | h; exact HAneP.out h; have := kt.bld_lt HA5.out; omega
         have HRUN := Lib.hid hap
         clear hap hsn hkp hx5 hnew ho5
         refine tk 7 ⟨some 53,_,_,_,_,_⟩ rfl ?_
         refine wpAnyH_ready (rs := [1, 8]) (by kernel_rfl) (by simp) ?_
         refine AllReadyH.cons (o := ⟨some 47, _, _, _, _, _⟩) rfl (fun K hK => ?_) (AllReadyH.cons (o := ⟨some 54, _, _, _, _, _⟩) rfl (fun K hK => ?_) AllReadyH.nil)
         ·have m1e := (entB_cells HP5.out).2
          go_simp
          refine hK.out _ _ (hHeld) (fun hHeld => ?_)
          clear hK
          try simp only [Act.put, List.setIfInBounds_toArray, List.set_cons_zero, List.set_cons_succ]
          clear m1e
          refine tc 8 ⟨some 54,_,_,_,_,_⟩ rfl (fun K hK => ?_)
          go_simp
          refine hK.out _ _ ((by have hh := attrB_below HA5.out ((Below.refl w5.heap.size w5).alloc (Nat.le_refl _) (.cells #[.string a.t, .slice a5 n5 c5] 57)); exact attrB_cells hh)) (fun hHeld => ?_)
          clear hK
          try simp only [Act.put, List.setIfInBounds_toArray, List.set_cons_zero, List.set_cons_succ]
          refine tc 9 ⟨some 55,_,_,_,_,_⟩ rfl (fun K hK => ?_)
          refine kt.step_append_run rfl _ _ 23 23 rfl _ _ (by simp [Act.eval, Act.put]) (by simp [Act.eval, Act.put]) _ _ HRUN.out ?_
          refine hK.out _ _ (attrB_cells hA7) (fun hHeld => ?_)
          clear hK
          try simp only [Act.put, List.setIfInBounds_toArray, List.set_cons_zero, List.set_cons_succ]
          refine tk 10 ⟨some 56,_,_,_,_,_⟩ rfl ?_
          refine tc 11 ⟨none,_,_,_,_,_⟩ rfl (fun K hK => ?_)
          go_simp
          refine hK.out _ _ (attrB_cells hA8) (fun hHeld => ?_)
          clear hK
          try simp only [Act.put, List.setIfInBounds_toArray, List.set_cons_zero, List.set_cons_succ]
          refine wpAnyH_done (by kernel_rfl) ?_ _
          obtain ⟨wcS, hwcS⟩ : ∃ W, w7.setCell ⟨p, 1, none⟩ (.slice ao7 m7 cap7) = W := ⟨_, rfl⟩
          rw [hwcS] at hP8 hO8 hG8 hA8 ⊢
          have HPS := Lib.hid hP8
          have HOS := Lib.hid hO8
          have HGS := Lib.hid hG8
          have HAS := Lib.hid hA8
          have HAneS := HAneD
          obtain ⟨dlS, hdlS⟩ : ∃ D, dlP ++ [((⟨a.t, a.vs⟩ : At), Value.slice a5 n5 c5)] = D := ⟨_, rfl⟩
          rw [hdlS] at HOS
          have HLNS : Hid (dlS.length ≤ 2 * i + 2) := by show _ ≤ _; rw [← hdlS, List.length_append]; have := HLNP.out; simp only [List.length_cons, List.length_nil]; omega
          have HMPS : Hid (dlS.map Prod.fst = dlP.map Prod.fst ++ [(⟨a.t, a.vs⟩ : At)]) := by show _ = _; rw [← hdlS, List.map_append]; rfl
          have HDLS := Lib.hid hdlS
          clear hP8 hO8 hG8 hdlS hwcS hfz hu7 HRUN hB7 HO5 HP5 HB5 HA5 hA7 hA8 HAneD hB5 m1c m1d hHeld
          go_wp2_with fail
          go_roundw
          case rel => exact ⟨i + 1, true, _, dlS, by omega, rfl, by go_num, HGS, HPS, HOS, (by show _ ≤ _; have := HLNS.out; omega), (by show _ = _; rw [HF.out, HST.out, HPU.out, HQ.out, HMPS.out, HMPP.out]; simp [List.append_assoc])⟩
          case measure => simp [intOf]; omega
         ·go_simp
          refine hK.out _ _ ((by have hh := attrB_below HA5.out ((Below.refl w5.heap.size w5).alloc (Nat.le_refl _) (.cells #[.string a.t, .slice a5 n5 c5] 57)); exact attrB_cells hh)) (fun hHeld => ?_)
          clear hK
          try simp only [Act.put, List.setIfInBounds_toArray, List.set_cons_zero, List.set_cons_succ]
          have m1e := (entB_cells (entB_below HP5.out ((Below.refl w5.heap.size w5).alloc (Nat.le_refl _) (.cells #[.string a.t, .slice a5 n5 c5] 57)))).2
          refine tc 1 ⟨some 47,_,_,_,_,_⟩ rfl (fun K hK => ?_)
          go_simp
          refine hK.out _ _ (hHeld) (fun hHeld => ?_)
          clear hK
          try simp only [Act.put, List.setIfInBounds_toArray, List.set_cons_zero, List.set_cons_succ]
          clear m1e
          refine tc 9 ⟨some 55,_,_,_,_,_⟩ rfl (fun K hK => ?_)
          refine kt.step_append_run rfl _ _ 23 23 rfl _ _ (by simp [Act.eval, Act.put]) (by simp [Act.eval, Act.put]) _ _ HRUN.out ?_
          refine hK.out _ _ (attrB_cells hA7) (fun hHeld => ?_)
          clear hK
          try simp only [Act.put, List.setIfInBounds_toArray, List.set_cons_zero, List.set_cons_succ]
          refine tk 10 ⟨some 56,_,_,_,_,_⟩ rfl ?_
          refine tc 11 ⟨none,_,_,_,_,_⟩ rfl (fun K hK => ?_)
          go_simp
          refine hK.out _ _ (attrB_cells hA8) (fun hHeld => ?_)
          clear hK
          try simp only [Act.put, List.setIfInBounds_toArray, List.set_cons_zero, List.set_cons_succ]
          refine wpAnyH_done (by kernel_rfl) ?_ _
          obtain ⟨wcS, hwcS⟩ : ∃ W, w7.setCell ⟨p, 1, none⟩ (.slice ao7 m7 cap7) = W := ⟨_, rfl⟩
          rw [hwcS] at hP8 hO8 hG8 hA8 ⊢
          have HPS := Lib.hid hP8
          have HOS := Lib.hid hO8
          have HGS := Lib.hid hG8
          have HAS := Lib.hid hA8
          have HAneS := HAneD
          obtain ⟨dlS, hdlS⟩ : ∃ D, dlP ++ [((⟨a.t, a.vs⟩ : At), Value.slice a5 n5 c5)] = D := ⟨_, rfl⟩
          rw [hdlS] at HOS
          have HLNS : Hid (dlS.length ≤ 2 * i + 2) := by show _ ≤ _; rw [← hdlS, List.length_append]; have := HLNP.out; simp only [List.length_cons, List.length_nil]; omega
          have HMPS : Hid (dlS.map Prod.fst = dlP.map Prod.fst ++ [(⟨a.t, a.vs⟩ : At)]) := by show _ = _; rw [← hdlS, List.map_append]; rfl
          have HDLS := Lib.hid hdlS
          clear hP8 hO8 hG8 hdlS hwcS hfz hu7 HRUN hB7 HO5 HP5 HB5 HA5 hA7 hA8 HAneD hB5 m1c m1d hHeld
          go_wp2_with fail
          go_roundw
          case rel => exact ⟨i + 1, true, _, dlS, by omega, rfl, by go_num, HGS, HPS, HOS, (by show _ ≤ _; have := HLNS.out; omega), (by show _ = _; rw [HF.out, HST.out, HPU.out, HQ.out, HMPS.out, HMPP.out]; simp [List.append_assoc])⟩
          case measure => simp [intOf]; omega
      ·go_simp
       refine hK.out _ _ (trivial) (fun hHeld => ?_)
       clear hK
       try simp only [Act.put, List.setIfInBounds_toArray, List.set_cons_zero, List.set_cons_succ]
       have m1e := (entB_cells (entB_below HP5.out ((Below.refl w5.heap.size w5).alloc (Nat.le_refl _) (.cells #[.string n, .slice a5 n5 c5] 57)))).2
       refine tc 1 ⟨some 34,_,_,_,_,_⟩ rfl (fun K hK => ?_)
       go_simp
       refine hK.out _ _ (trivial) (fun hHeld => ?_)
       clear hK
       try simp only [Act.put, List.setIfInBounds_toArray, List.set_cons_zero, List.set_cons_succ]
       clear m1e
       refine tc 7 ⟨some 40,_,_,_,_,_⟩ rfl (fun K hK => ?_)
       refine kt.step_append_run rfl _ _ 23 23 rfl _ _ (by simp [Act.eval, Act.put]) (by simp [Act.eval, Act.put]) _ _ HRUN.out ?_
       refine hK.out _ _ (trivial) (fun hHeld => ?_)
       clear hK
       try simp only [Act.put, List.setIfInBounds_toArray, List.set_cons_zero, List.set_cons_succ]
       refine tk 8 ⟨some 41,_,_,_,_,_⟩ rfl ?_
       refine tc 9 ⟨none,_,_,_,_,_⟩ rfl (fun K hK => ?_)
       go_simp
       refine hK.out _ _ (trivial) (fun hHeld => ?_)
       clear hK
       try simp only [Act.put, List.setIfInBounds_toArray, List.set_cons_zero, List.set_cons_succ]
       refine wpAnyH_done (by kernel_rfl) ?_ _
       obtain ⟨wcP, hwcP⟩ : ∃ W, w7.setCell ⟨p, 1, none⟩ (.slice ao7 m7 cap7) = W := ⟨_, rfl⟩
       rw [hwcP] at hP8 hO8 hG8 hA8 ⊢
       have HPP := Lib.hid hP8
       have HOP := Lib.hid hO8
       have HGP := Lib.hid hG8
       have HAP := Lib.hid hA8
       have HAneP := HAneD
       obtain ⟨dlP, hdlP⟩ : ∃ D, dlA ++ [((⟨n, l⟩ : At), Value.slice a5 n5 c5)] = D := ⟨_, rfl⟩
       rw [hdlP] at HOP
       have HLNP : Hid (dlP.length ≤ 2 * i + 1) := by show _ ≤ _; rw [← hdlP, List.length_append]; have := HLNA.out; simp only [List.length_cons, List.length_nil]; omega
       have HMPP : Hid (dlP.map Prod.fst = dlA.map Prod.fst ++ [(⟨n, l⟩ : At)]) := by show _ = _; rw [← hdlP, List.map_append]; rfl
       have HDLP := Lib.hid hdlP
       clear hP8 hO8 hG8 hdlP hwcP hfz hu7 HRUN hB7 HO5 HP5 HB5 HA5 hA7 hA8 HAneD hB5 m1c m1d hHeld
       obtain ⟨aoP, mP, capP, HPP2, HOP2, HAneP2⟩ : ∃ aoP mP capP, Hid (EntB wcP p (.slice ro' Nr rc') (.slice aoP mP capP)) ∧ Hid (OwnA wcP w4.heap.size (.slice aoP mP capP) dlP) ∧ Hid ((Value.slice aoP mP capP).ownBlock ≠ some A) := ⟨ao7, m7, cap7, HPP, HOP, HAneP⟩
       clear HPP HOP HAneP
       have HPP := HPP2
       have HOP := HOP2
       have HAneP := HAneP2
       clear HPP2 HOP2 HAneP2
       have x0P := (attrB_cells HAP.out).1
       by_cases hq : a.t = n
       ·have q := str_eq_beq hq
        have q' : (a.t.toList != n.toList) = false := by rw [bne, q]; rfl
        have HQ : Hid ((if a.t = n then [] else [a]) = ([] : List At)) := by show _ = _; rw [if_pos hq]
        clear hq
        go_wp2_with fail
        go_roundw
        case rel => exact ⟨i + 1, true, _, dlP, by omega, rfl, by go_num, HGP, HPP, HOP, (by show _ ≤ _; have := HLNP.out; omega), (by show _ = _; rw [HF.out, HST.out, HPU.out, HQ.out, HMPP.out]; simp [List.append_assoc])⟩
        case measure => simp [intOf]; omega
       ·have q := ne_str hq
        have q' : (a.t.toList != n.toList) = true := by rw [bne, q]; rfl
        have HQ : Hid ((if a.t = n then [] else [a]) = [a]) := by show _ = _; rw [if_neg hq]
        clear hq
        have HCAP : Hid (∀ W, Below wcP.heap.size wcP W → Calls Tryz.prog 71 #[.slice ax M cx] W fun e w' => CloneE a.vs W e w') := fun W h => HCA.out W ((HBw.out (wcP) HGP.out).trans (h.mono (HBw.out (wcP) HGP.out).size))
        go_wp2_with fail
        refine wp_region_held_drew (S := fun W => W.cell? ⟨A, 0, none⟩ = some (.string a.t) ∧ W.cell? ⟨A, 1, none⟩ = some (.slice ax M cx)) (by kernel_rfl) (attrB_cells HAP.out) (fun hHeld => ?_)
        refine tk 0 ⟨some 46,_,_,_,_,_⟩ rfl ?_
        refine tk 2 ⟨some 48,_,_,_,_,_⟩ rfl ?_
        refine tk 3 ⟨some 49,_,_,_,_,_⟩ rfl ?_
        refine tk 4 ⟨some 50,_,_,_,_,_⟩ rfl ?_
        refine tk 5 ⟨some 51,_,_,_,_,_⟩ rfl ?_
        have m1c := (entB_cells HPP.out).2
        have m1d : (wcP.drew).cell? ⟨p, 1, none⟩ = some (.slice aoP mP capP) := m1c
        refine wpAnyH_ready (rs := [1, 6]) (by kernel_rfl) (by simp) ?_
        refine AllReadyH.cons (o := ⟨some 47, _, _, _, _, _⟩) rfl (fun K hK => ?_) (AllReadyH.cons (o := ⟨some 52, _, _, _, _, _⟩) rfl (fun K hK => ?_) AllReadyH.nil)
        ·go_simp
         refine hK.out _ _ (hHeld) (fun hHeld => ?_)
         clear hK
         try simp only [Act.put, List.setIfInBounds_toArray, List.set_cons_zero, List.set_cons_succ]
         refine tc 6 ⟨some 52,_,_,_,_,_⟩ rfl (fun K hK => ?_)
         go_simp
         go_at_call 71; refine (HCAP.out _ ((Below.refl wcP.heap.size wcP).drew)).mono ?_; rintro e w5 ⟨x5, rfl, ho5, hB5⟩; obtain ⟨a5, n5, c5, rfl, hn5⟩ := dnw.ownT_form ho5
         refine hK.out _ _ (attrB_cells (attrB_below HAP.out ((Below.refl wcP.heap.size wcP).drew.trans hB5))) (fun hHeld => ?_)
         clear hK
         try simp only [Act.put, List.setIfInBounds_toArray, List.set_cons_zero, List.set_cons_succ]
         have HB5 : Hid (Below wcP.heap.size wcP w5) := (Below.refl wcP.heap.size wcP).drew.trans hB5
         have HO5 := Lib.hid (ownA_below HOP.out HB5.out)
         have HP5 := Lib.hid (entB_below HPP.out HB5.out)
         have HA5 := Lib.hid (attrB_below HAP.out HB5.out)
         have hx5 := own_elem ho5
         have hnew := ownT_new ho5
         obtain ⟨ao7, m7, cap7, w7, hap, hfz, ⟨u7, hu7⟩, hP8, hO8, hB7, hkp, hsn⟩ := appA a.t (.slice a5 n5 c5) a.vs dlP HO5.out HP5.out (noS_slice _ _ _) hx5 (fun _ k hk e => by have h1 := hnew k hk; have h2 := ownA_old HOP.out k e; have h3 : wcP.heap.size ≤ wcP.drew.heap.size := Nat.le_refl _; omega) (by have := HLNP.out; omega) (Nat.le_trans HGP.out.size HB5.out.size)
         have hG8 := grown_step HGP.out HB5.out hB7 1 (.slice ao7 m7 cap7)
         have hA8 : AttrB (w7.setCell ⟨p, 1, none⟩ (.slice ao7 m7 cap7)) A a.t (.slice ax M cx) := attrB_app HA5.out HAneP.out (fun e => HAp.out e) hkp
         have hA7 : AttrB w7 A a.t (.slice ax M cx) := (hkp A (kt.bld_lt HA5.out) HAneP.out).trans HA5.out
         have HAneD : Hid ((Value.slice ao7 m7 cap7).ownBlock ≠ some A) := fun e => by rcases hsn A e with h | h; exact HAneP.out h; have := kt.bld_lt HA5.out; omega
         have HRUN := Lib.hid hap
         clear hap hsn hkp hx5 hnew ho5
         refine tk 7 ⟨some 53,_,_,_,_,_⟩ rfl ?_
         refine tc 8 ⟨some 54,_,_,_,_,_⟩ rfl (fun K hK => ?_)
         go_simp
         refine hK.out _ _ ((by have hh := attrB_below HA5.out ((Below.refl w5.heap.size w5).alloc (Nat.le_refl _) (.cells #[.string a.t, .slice a5 n5 c5] 57)); exact attrB_cells hh)) (fun hHeld => ?_)
         clear hK
         try simp only [Act.put, List.setIfInBounds_toArray, List.set_cons_zero, List.set_cons_succ]
         refine tc 9 ⟨some 55,_,_,_,_,_⟩ rfl (fun K hK => ?_)
         refine kt.step_append_run rfl _ _ 23 23 rfl _ _ (by simp [Act.eval, Act.put]) (by simp [Act.eval, Act.put]) _ _ HRUN.out ?_
         refine hK.out _ _ (attrB_cells hA7) (fun hHeld => ?_)
         clear hK
         try simp only [Act.put, List.setIfInBounds_toArray, List.set_cons_zero, List.set_cons_succ]
         refine tk 10 ⟨some 56,_,_,_,_,_⟩ rfl ?_
         refine tc 11 ⟨none,_,_,_,_,_⟩ rfl (fun K hK => ?_)
         go_simp
         refine hK.out _ _ (attrB_cells hA8) (fun hHeld => ?_)
         clear hK
         try simp only [Act.put, List.setIfInBounds_toArray, List.set_cons_zero, List.set_cons_succ]
         refine wpAnyH_done (by kernel_rfl) ?_ _
         obtain ⟨wcS, hwcS⟩ : ∃ W, w7.setCell ⟨p, 1, none⟩ (.slice ao7 m7 cap7) = W := ⟨_, rfl⟩
         rw [hwcS] at hP8 hO8 hG8 hA8 ⊢
         have HPS := Lib.hid hP8
         have HOS := Lib.hid hO8
         have HGS := Lib.hid hG8
         have HAS := Lib.hid hA8
         have HAneS := HAneD
         obtain ⟨dlS, hdlS⟩ : ∃ D, dlP ++ [((⟨a.t, a.vs⟩ : At), Value.slice a5 n5 c5)] = D := ⟨_, rfl⟩
         rw [hdlS] at HOS
         have HLNS : Hid (dlS.length ≤ 2 * i + 2) := by show _ ≤ _; rw [← hdlS, List.length_append]; have := HLNP.out; simp only [List.length_cons, List.length_nil]; omega
         have HMPS : Hid (dlS.map Prod.fst = dlP.map Prod.fst ++ [(⟨a.t, a.vs⟩ : At)]) := by show _ = _; rw [← hdlS, List.map_append]; rfl
         have HDLS := Lib.hid hdlS
         clear hP8 hO8 hG8 hdlS hwcS hfz hu7 HRUN hB7 HO5 HP5 HB5 HA5 hA7 hA8 HAneD hB5 m1c m1d hHeld
         go_wp2_with fail
         go_roundw
         case rel => exact ⟨i + 1, true, _, dlS, by omega, rfl, by go_num, HGS, HPS, HOS, (by show _ ≤ _; have := HLNS.out; omega), (by show _ = _; rw [HF.out, HST.out, HPU.out, HQ.out, HMPS.out, HMPP.out]; simp [List.append_assoc])⟩
         case measure => simp [intOf]; omega
        ·go_simp
         go_at_call 71; refine (HCAP.out _ ((Below.refl wcP.heap.size wcP).drew)).mono ?_; rintro e w5 ⟨x5, rfl, ho5, hB5⟩; obtain ⟨a5, n5, c5, rfl, hn5⟩ := dnw.ownT_form ho5
         refine hK.out _ _ (attrB_cells (attrB_below HAP.out ((Below.refl wcP.heap.size wcP).drew.trans hB5))) (fun hHeld => ?_)
         clear hK
         try simp only [Act.put, List.setIfInBounds_toArray, List.set_cons_zero, List.set_cons_succ]
         have HB5 : Hid (Below wcP.heap.size wcP w5) := (Below.refl wcP.heap.size wcP).drew.trans hB5
         have HO5 := Lib.hid (ownA_below HOP.out HB5.out)
         have HP5 := Lib.hid (entB_below HPP.out HB5.out)
         have HA5 := Lib.hid (attrB_below HAP.out HB5.out)
         have hx5 := own_elem ho5
         have hnew := ownT_new ho5
         obtain ⟨ao7, m7, cap7, w7, hap, hfz, ⟨u7, hu7⟩, hP8, hO8, hB7, hkp, hsn⟩ := appA a.t (.slice a5 n5 c5) a.vs dlP HO5.out HP5.out (noS_slice _ _ _) hx5 (fun _ k hk e => by have h1 := hnew k hk; have h2 := ownA_old HOP.out k e; have h3 : wcP.heap.size ≤ wcP.drew.heap.size := Nat.le_refl _; omega) (by have := HLNP.out; omega) (Nat.le_trans HGP.out.size HB5.out.size)
         have hG8 := grown_step HGP.out HB5.out hB7 1 (.slice ao7 m7 cap7)
         have hA8 : AttrB (w7.setCell ⟨p, 1, none⟩ (.slice ao7 m7 cap7)) A a.t (.slice ax M cx) := attrB_app HA5.out HAneP.out (fun e => HAp.out e) hkp
         have hA7 : AttrB w7 A a.t (.slice ax M cx) := (hkp A (kt.bld_lt HA5.out) HAneP.out).trans HA5.out
         have HAneD : Hid ((Value.slice ao7 m7 cap7).ownBlock ≠ some A) := fun e => by rcases hsn A e with h | h; exact HAneP.out h; have := kt.bld_lt HA5.out; omega
         have HRUN := Lib.hid hap
         clear hap hsn hkp hx5 hnew ho5
         refine tk 7 ⟨some 53,_,_,_,_,_⟩ rfl ?_
         refine wpAnyH_ready (rs := [1, 8]) (by kernel_rfl) (by simp) ?_
         refine AllReadyH.cons (o := ⟨some 47, _, _, _, _, _⟩) rfl (fun K hK => ?_) (AllReadyH.cons (o := ⟨some 54, _, _, _, _, _⟩) rfl (fun K hK => ?_) AllReadyH.nil)
         ·have m1e := (entB_cells HP5.out).2
          go_simp
          refine hK.out _ _ (hHeld) (fun hHeld => ?_)
          clear hK
          try simp only [Act.put, List.setIfInBounds_toArray, List.set_cons_zero, List.set_cons_succ]
          clear m1e
          refine tc 8 ⟨some 54,_,_,_,_,_⟩ rfl (fun K hK => ?_)
          go_simp
          refine hK.out _ _ ((by have hh := attrB_below HA5.out ((Below.refl w5.heap.size w5).alloc (Nat.le_refl _) (.cells #[.string a.t, .slice a5 n5 c5] 57)); exact attrB_cells hh)) (fun hHeld => ?_)
          clear hK
          try simp only [Act.put, List.setIfInBounds_toArray, List.set_cons_zero, List.set_cons_succ]
          refine tc 9 ⟨some 55,_,_,_,_,_⟩ rfl (fun K hK => ?_)
          refine kt.step_append_run rfl _ _ 23 23 rfl _ _ (by simp [Act.eval, Act.put]) (by simp [Act.eval, Act.put]) _ _ HRUN.out ?_
          refine hK.out _ _ (attrB_cells hA7) (fun hHeld => ?_)
          clear hK
          try simp only [Act.put, List.setIfInBounds_toArray, List.set_cons_zero, List.set_cons_succ]
          refine tk 10 ⟨some 56,_,_,_,_,_⟩ rfl ?_
          refine tc 11 ⟨none,_,_,_,_,_⟩ rfl (fun K hK => ?_)
          go_simp
          refine hK.out _ _ (attrB_cells hA8) (fun hHeld => ?_)
          clear hK
          try simp only [Act.put, List.setIfInBounds_toArray, List.set_cons_zero, List.set_cons_succ]
          refine wpAnyH_done (by kernel_rfl) ?_ _
          obtain ⟨wcS, hwcS⟩ : ∃ W, w7.setCell ⟨p, 1, none⟩ (.slice ao7 m7 cap7) = W := ⟨_, rfl⟩
          rw [hwcS] at hP8 hO8 hG8 hA8 ⊢
          have HPS := Lib.hid hP8
          have HOS := Lib.hid hO8
          have HGS := Lib.hid hG8
          have HAS := Lib.hid hA8
          have HAneS := HAneD
          obtain ⟨dlS, hdlS⟩ : ∃ D, dlP ++ [((⟨a.t, a.vs⟩ : At), Value.slice a5 n5 c5)] = D := ⟨_, rfl⟩
          rw [hdlS] at HOS
          have HLNS : Hid (dlS.length ≤ 2 * i + 2) := by show _ ≤ _; rw [← hdlS, List.length_append]; have := HLNP.out; simp only [List.length_cons, List.length_nil]; omega
          have HMPS : Hid (dlS.map Prod.fst = dlP.map Prod.fst ++ [(⟨a.t, a.vs⟩ : At)]) := by show _ = _; rw [← hdlS, List.map_append]; rfl
          have HDLS := Lib.hid hdlS
          clear hP8 hO8 hG8 hdlS hwcS hfz hu7 HRUN hB7 HO5 HP5 HB5 HA5 hA7 hA8 HAneD hB5 m1c m1d hHeld
          go_wp2_with fail
          go_roundw
          case rel => exact ⟨i + 1, true, _, dlS, by omega, rfl, by go_num, HGS, HPS, HOS, (by show _ ≤ _; have := HLNS.out; omega), (by show _ = _; rw [HF.out, HST.out, HPU.out, HQ.out, HMPS.out, HMPP.out]; simp [List.append_assoc])⟩
          case measure => simp [intOf]; omega
         ·go_simp
          refine hK.out _ _ ((by have hh := attrB_below HA5.out ((Below.refl w5.heap.size w5).alloc (Nat.le_refl _) (.cells #[.string a.t, .slice a5 n5 c5] 57)); exact attrB_cells hh)) (fun hHeld => ?_)
          clear hK
          try simp only [Act.put, List.setIfInBounds_toArray, List.set_cons_zero, List.set_cons_succ]
          have m1e := (entB_cells (entB_below HP5.out ((Below.refl w5.heap.size w5).alloc (Nat.le_refl _) (.cells #[.string a.t, .slice a5 n5 c5] 57)))).2
          refine tc 1 ⟨some 47,_,_,_,_,_⟩ rfl (fun K hK => ?_)
          go_simp
          refine hK.out _ _ (hHeld) (fun hHeld => ?_)
          clear hK
          try simp only [Act.put, List.setIfInBounds_toArray, List.set_cons_zero, List.set_cons_succ]
          clear m1e
          refine tc 9 ⟨some 55,_,_,_,_,_⟩ rfl (fun K hK => ?_)
          refine kt.step_append_run rfl _ _ 23 23 rfl _ _ (by simp [Act.eval, Act.put]) (by simp [Act.eval, Act.put]) _ _ HRUN.out ?_
          refine hK.out _ _ (attrB_cells hA7) (fun hHeld => ?_)
          clear hK
          try simp only [Act.put, List.setIfInBounds_toArray, List.set_cons_zero, List.set_cons_succ]
          refine tk 10 ⟨some 56,_,_,_,_,_⟩ rfl ?_
          refine tc 11 ⟨none,_,_,_,_,_⟩ rfl (fun K hK => ?_)
          go_simp
          refine hK.out _ _ (attrB_cells hA8) (fun hHeld => ?_)
          clear hK
          try simp only [Act.put, List.setIfInBounds_toArray, List.set_cons_zero, List.set_cons_succ]
          refine wpAnyH_done (by kernel_rfl) ?_ _
          obtain ⟨wcS, hwcS⟩ : ∃ W, w7.setCell ⟨p, 1, none⟩ (.slice ao7 m7 cap7) = W := ⟨_, rfl⟩
          rw [hwcS] at hP8 hO8 hG8 hA8 ⊢
          have HPS := Lib.hid hP8
          have HOS := Lib.hid hO8
          have HGS := Lib.hid hG8
          have HAS := Lib.hid hA8
          have HAneS := HAneD
          obtain ⟨dlS, hdlS⟩ : ∃ D, dlP ++ [((⟨a.t, a.vs⟩ : At), Value.slice a5 n5 c5)] = D := ⟨_, rfl⟩
          rw [hdlS] at HOS
          have HLNS : Hid (dlS.length ≤ 2 * i + 2) := by show _ ≤ _; rw [← hdlS, List.length_append]; have := HLNP.out; simp only [List.length_cons, List.length_nil]; omega
          have HMPS : Hid (dlS.map Prod.fst = dlP.map Prod.fst ++ [(⟨a.t, a.vs⟩ : At)]) := by show _ = _; rw [← hdlS, List.map_append]; rfl
          have HDLS := Lib.hid hdlS
          clear hP8 hO8 hG8 hdlS hwcS hfz hu7 HRUN hB7 HO5 HP5 HB5 HA5 hA7 hA8 HAneD hB5 m1c m1d hHeld
          go_wp2_with fail
          go_roundw
          case rel => exact ⟨i + 1, true, _, dlS, by omega, rfl, by go_num, HGS, HPS, HOS, (by show _ ≤ _; have := HLNS.out; omega), (by show _ = _; rw [HF.out, HST.out, HPU.out, HQ.out, HMPS.out, HMPP.out]; simp [List.append_assoc])⟩
          case measure => simp [intOf]; omega
  ·obtain rfl : N = i := by omega
   have HE : Hid (L.drop N = []) := by show _ = _; rw [← HN.out, List.drop_length]
   rw [HE.out] at HF
   clear HE
   have HGA := HGR
   have HPA := HPR
   have HOA := HOR
   have HLNA := HLNR
   obtain ⟨dlA, hdlA⟩ : ∃ D, dlR = D := ⟨_, rfl⟩
   rw [hdlA] at HF HOA HLNA
   cases d with
   | true =>
    have HF2 : Hid (dlA.map Prod.fst = withF n l (decide (l = [])) L) := by show _ = _; rw [HD0.out, HF.out]; simp [withF]
    clear HF
    have HFIN : Hid (nR = dlA.length ∧ nR ≤ capR) := by obtain ⟨ao1, cap1, h2, h3⟩ := kt.segX_slice HOA.out.outer; simp only [Value.slice.injEq] at h2; obtain ⟨_, e2, e3⟩ := h2; show _ ∧ _; omega
    obtain ⟨y0, y1⟩ := entB_cells HPA.out
    have hQF : EntB wr q (.slice none 0 0) (.slice none 0 0) := (HGA.out.block _ (kt.bld_lt HQ4.out) (by intro e; cases e; omega)).trans HQ4.out
    obtain ⟨v0, v1⟩ := entB_cells hQF
    have f0 := Lib.frozen_of_heap hQF 0
    have f1 := Lib.frozen_of_heap hQF 1
    have hVF : Avas wr ro' rdn := fun j hj => by
     obtain ⟨b, o, e, h1, h2⟩ := HV4.out j hj
     have hbp : b ≠ p := by rintro rfl; exact entB_str HP4.out (noS_slice _ _ _) (noS_slice _ _ _) _ _ h1
     have hbk := HGA.out.block b (World.block_lt_of_cell? w4 _ h1) (by intro e2; cases e2; exact hbp rfl)
     exact ⟨b, o, e, (World.cell?_of_block (a := ⟨b, _, none⟩) hbk).trans h1, (World.cell?_of_block (a := ⟨b, _, none⟩) hbk).trans h2⟩
    have hq1 := entB_set0 hQF (.slice ro' Nr rc')
    have hq2 := entB_set1 hq1 (.slice aoR nR capR)
    have hoF := ownA_set (ownA_set HOA.out hQF (noS_slice _ _ _) (noS_slice _ _ _) 0 (.slice ro' Nr rc')) hq1 (noS_slice _ _ _) (noS_slice _ _ _) 1 (.slice aoR nR capR)
    have hvF2 := avas_set (avas_set hVF hQF (noS_slice _ _ _) (noS_slice _ _ _) 0 (.slice ro' Nr rc')) hq1 (noS_slice _ _ _) (noS_slice _ _ _) 1 (.slice aoR nR capR)
    have hBF := ((HBw.out wr HGA.out).setCell (p := ⟨q, 0, none⟩) (Nat.le_of_lt hqw) (.slice ro' Nr rc')).setCell (p := ⟨q, 1, none⟩) (Nat.le_of_lt hqw) (.slice aoR nR capR)
    have HQC := Lib.hid hq2
    have HOF := Lib.hid hoF
    have HVF := Lib.hid hvF2
    have HBF := Lib.hid hBF
    clear hVF hq1 hq2 hoF hvF2 hBF hQF
    go_wp2_with fail
    refine bodyPost_ret (v := .agg #[.slice ro' Nr rc', (.slice aoR nR capR)]) (results_cell_row rfl _ _ q 25 _ (0, 0) _ rfl HQC.out Tryz.underlying25 rfl (by kernel_rfl)) rfl ?_
    refine HRES.out _ _ (dlA.map Prod.fst) HF2.out ⟨ro', rc', aoR, capR, ?_, ?_, ?_, HVF.out, ownA_ats HOF.out⟩ HBF.out
    ·rw [HNr.out, List.length_map, ← HFIN.out.1]
    ·rw [HNr.out]; exact hrc'
    ·rw [List.length_map, ← HFIN.out.1]; exact HFIN.out.2
   | false =>
    have HCLA : Hid (∀ W, Below wr.heap.size wr W → Calls Tryz.prog 71 #[.slice bo K bcap] W fun e w' => CloneE l W e w') := fun W h => HCL.out W ((HBw.out wr HGA.out).trans (h.mono (HBw.out wr HGA.out).size))
    go_wp2_with fail
    refine wp_region_held_drew (S := fun _ => True) (by kernel_rfl) (trivial) (fun hHeld => ?_)
    refine tk 0 ⟨some 60,_,_,_,_,_⟩ rfl ?_
    refine tk 2 ⟨some 62,_,_,_,_,_⟩ rfl ?_
    refine tk 3 ⟨some 63,_,_,_,_,_⟩ rfl ?_
    have m1c := (entB_cells HPA.out).2
    have m1d : (wr.drew).cell? ⟨p, 1, none⟩ = some (.slice aoR nR capR) := m1c
    refine wpAnyH_ready (rs := [1, 4]) (by kernel_rfl) (by simp) ?_
    refine AllReadyH.cons (o := ⟨some 61, _, _, _, _, _⟩) rfl (fun K hK => ?_) (AllReadyH.cons (o := ⟨some 64, _, _, _, _, _⟩) rfl (fun K hK => ?_) AllReadyH.nil)
    ·go_simp
     refine hK.out _ _ (trivial) (fun hHeld => ?_)
     clear hK
     try simp only [Act.put, List.setIfInBounds_toArray, List.set_cons_zero, List.set_cons_succ]
     refine tc 4 ⟨some 64,_,_,_,_,_⟩ rfl (fun K hK => ?_)
     go_simp
     go_at_call 71; refine (HCLA.out _ ((Below.refl wr.heap.size wr).drew)).mono ?_; rintro e w5 ⟨x5, rfl, ho5, hB5⟩; obtain ⟨a5, n5, c5, rfl, hn5⟩ := dnw.ownT_form ho5
     refine hK.out _ _ (trivial) (fun hHeld => ?_)
     clear hK
     try simp only [Act.put, List.setIfInBounds_toArray, List.set_cons_zero, List.set_cons_succ]
     have HB5 : Hid (Below wr.heap.size wr w5) := (Below.refl wr.heap.size wr).drew.trans hB5
     have HO5 := Lib.hid (ownA_below HOA.out HB5.out)
     have HP5 := Lib.hid (entB_below HPA.out HB5.out)
     have hx5 := own_elem ho5
     have hnew := ownT_new ho5
     obtain ⟨ao7, m7, cap7, w7, hap, hfz, ⟨u7, hu7⟩, hP8, hO8, hB7, hkp, hsn⟩ := appA n (.slice a5 n5 c5) l dlA HO5.out HP5.out (noS_slice _ _ _) hx5 (fun _ k hk e => by have h1 := hnew k hk; have h2 := ownA_old HOA.out k e; have h3 : wr.heap.size ≤ wr.drew.heap.size := Nat.le_refl _; omega) (by have := HLNA.out; omega) (Nat.le_trans HGA.out.size HB5.out.size)
     have hG8 := grown_step HGA.out HB5.out hB7 1 (.slice ao7 m7 cap7)
     have HRUN := Lib.hid hap
     clear hap hsn hkp hx5 hnew ho5
     refine tk 5 ⟨some 65,_,_,_,_,_⟩ rfl ?_
     refine tc 6 ⟨some 66,_,_,_,_,_⟩ rfl (fun K hK => ?_)
     go_simp
     refine hK.out _ _ (trivial) (fun hHeld => ?_)
     clear hK
     try simp only [Act.put, List.setIfInBounds_toArray, List.set_cons_zero, List.set_cons_succ]
     refine tc 7 ⟨some 67,_,_,_,_,_⟩ rfl (fun K hK => ?_)
     refine kt.step_append_run rfl _ _ 23 23 rfl _ _ (by simp [Act.eval, Act.put]) (by simp [Act.eval, Act.put]) _ _ HRUN.out ?_
     refine hK.out _ _ (trivial) (fun hHeld => ?_)
     clear hK
     try simp only [Act.put, List.setIfInBounds_toArray, List.set_cons_zero, List.set_cons_succ]
     refine tk 8 ⟨some 68,_,_,_,_,_⟩ rfl ?_
     refine tc 9 ⟨none,_,_,_,_,_⟩ rfl (fun K hK => ?_)
     go_simp
     refine hK.out _ _ (trivial) (fun hHeld => ?_)
     clear hK
     try simp only [Act.put, List.setIfInBounds_toArray, List.set_cons_zero, List.set_cons_succ]
     refine wpAnyH_done (by kernel_rfl) ?_ _
     obtain ⟨wcE, hwcE⟩ : ∃ W, w7.setCell ⟨p, 1, none⟩ (.slice ao7 m7 cap7) = W := ⟨_, rfl⟩
     rw [hwcE] at hP8 hO8 hG8 ⊢
     have HPE := Lib.hid hP8
     have HOE := Lib.hid hO8
     have HGE := Lib.hid hG8
     obtain ⟨dlE, hdlE⟩ : ∃ D, dlA ++ [((⟨n, l⟩ : At), Value.slice a5 n5 c5)] = D := ⟨_, rfl⟩
     rw [hdlE] at HOE
     have HLNE : Hid (dlE.length ≤ 2 * N + 1) := by show _ ≤ _; rw [← hdlE, List.length_append]; have := HLNA.out; simp only [List.length_cons, List.length_nil]; omega
     have HMPE : Hid (dlE.map Prod.fst = dlA.map Prod.fst ++ [(⟨n, l⟩ : At)]) := by show _ = _; rw [← hdlE, List.map_append]; rfl
     have HDLE := Lib.hid hdlE
     clear hP8 hO8 hG8 hdlE hwcE hfz hu7 HRUN hB7 HO5 HP5 HB5 hB5 m1c m1d hHeld
     have HF2 : Hid (dlE.map Prod.fst = withF n l (decide (l = [])) L) := by show _ = _; rw [HD0.out, HF.out, HMPE.out]; simp [withF]
     clear HF
     have HFIN : Hid (m7 = dlE.length ∧ m7 ≤ cap7) := by obtain ⟨ao1, cap1, h2, h3⟩ := kt.segX_slice HOE.out.outer; simp only [Value.slice.injEq] at h2; obtain ⟨_, e2, e3⟩ := h2; show _ ∧ _; omega
     obtain ⟨y0, y1⟩ := entB_cells HPE.out
     have hQF : EntB wcE q (.slice none 0 0) (.slice none 0 0) := (HGE.out.block _ (kt.bld_lt HQ4.out) (by intro e; cases e; omega)).trans HQ4.out
     obtain ⟨v0, v1⟩ := entB_cells hQF
     have f0 := Lib.frozen_of_heap hQF 0
     have f1 := Lib.frozen_of_heap hQF 1
     have hVF : Avas wcE ro' rdn := fun j hj => by
      obtain ⟨b, o, e, h1, h2⟩ := HV4.out j hj
      have hbp : b ≠ p := by rintro rfl; exact entB_str HP4.out (noS_slice _ _ _) (noS_slice _ _ _) _ _ h1
      have hbk := HGE.out.block b (World.block_lt_of_cell? w4 _ h1) (by intro e2; cases e2; exact hbp rfl)
      exact ⟨b, o, e, (World.cell?_of_block (a := ⟨b, _, none⟩) hbk).trans h1, (World.cell?_of_block (a := ⟨b, _, none⟩) hbk).trans h2⟩
     have hq1 := entB_set0 hQF (.slice ro' Nr rc')
     have hq2 := entB_set1 hq1 (.slice ao7 m7 cap7)
     have hoF := ownA_set (ownA_set HOE.out hQF (noS_slice _ _ _) (noS_slice _ _ _) 0 (.slice ro' Nr rc')) hq1 (noS_slice _ _ _) (noS_slice _ _ _) 1 (.slice ao7 m7 cap7)
     have hvF2 := avas_set (avas_set hVF hQF (noS_slice _ _ _) (noS_slice _ _ _) 0 (.slice ro' Nr rc')) hq1 (noS_slice _ _ _) (noS_slice _ _ _) 1 (.slice ao7 m7 cap7)
     have hBF := ((HBw.out wcE HGE.out).setCell (p := ⟨q, 0, none⟩) (Nat.le_of_lt hqw) (.slice ro' Nr rc')).setCell (p := ⟨q, 1, none⟩) (Nat.le_of_lt hqw) (.slice ao7 m7 cap7)
     have HQC := Lib.hid hq2
     have HOF := Lib.hid hoF
     have HVF := Lib.hid hvF2
     have HBF := Lib.hid hBF
     clear hVF hq1 hq2 hoF hvF2 hBF hQF
     go_wp2_with fail
     refine bodyPost_ret (v := .agg #[.slice ro' Nr rc', (.slice ao7 m7 cap7)]) (results_cell_row rfl _ _ q 25 _ (0, 0) _ rfl HQC.out Tryz.underlying25 rfl (by kernel_rfl)) rfl ?_
     refine HRES.out _ _ (dlE.map Prod.fst) HF2.out ⟨ro', rc', ao7, cap7, ?_, ?_, ?_, HVF.out, ownA_ats HOF.out⟩ HBF.out
     ·rw [HNr.out, List.length_map, ← HFIN.out.1]
     ·rw [HNr.out]; exact hrc'
     ·rw [List.length_map, ← HFIN.out.1]; exact HFIN.out.2
    ·go_simp
     go_at_call 71; refine (HCLA.out _ ((Below.refl wr.heap.size wr).drew)).mono ?_; rintro e w5 ⟨x5, rfl, ho5, hB5⟩; obtain ⟨a5, n5, c5, rfl, hn5⟩ := dnw.ownT_form ho5
     refine hK.out _ _ (trivial) (fun hHeld => ?_)
     clear hK
     try simp only [Act.put, List.setIfInBounds_toArray, List.set_cons_zero, List.set_cons_succ]
     have HB5 : Hid (Below wr.heap.size wr w5) := (Below.refl wr.heap.size wr).drew.trans hB5
     have HO5 := Lib.hid (ownA_below HOA.out HB5.out)
     have HP5 := Lib.hid (entB_below HPA.out HB5.out)
     have hx5 := own_elem ho5
     have hnew := ownT_new ho5
     obtain ⟨ao7, m7, cap7, w7, hap, hfz, ⟨u7, hu7⟩, hP8, hO8, hB7, hkp, hsn⟩ := appA n (.slice a5 n5 c5) l dlA HO5.out HP5.out (noS_slice _ _ _) hx5 (fun _ k hk e => by have h1 := hnew k hk; have h2 := ownA_old HOA.out k e; have h3 : wr.heap.size ≤ wr.drew.heap.size := Nat.le_refl _; omega) (by have := HLNA.out; omega) (Nat.le_trans HGA.out.size HB5.out.size)
     have hG8 := grown_step HGA.out HB5.out hB7 1 (.slice ao7 m7 cap7)
     have HRUN := Lib.hid hap
     clear hap hsn hkp hx5 hnew ho5
     refine tk 5 ⟨some 65,_,_,_,_,_⟩ rfl ?_
     refine wpAnyH_ready (rs := [1, 6]) (by kernel_rfl) (by simp) ?_
     refine AllReadyH.cons (o := ⟨some 61, _, _, _, _, _⟩) rfl (fun K hK => ?_) (AllReadyH.cons (o := ⟨some 66, _, _, _, _, _⟩) rfl (fun K hK => ?_) AllReadyH.nil)
     ·have m1e := (entB_cells HP5.out).2
      go_simp
      refine hK.out _ _ (trivial) (fun hHeld => ?_)
      clear hK
      try simp only [Act.put, List.setIfInBounds_toArray, List.set_cons_zero, List.set_cons_succ]
      clear m1e
      refine tc 6 ⟨some 66,_,_,_,_,_⟩ rfl (fun K hK => ?_)
      go_simp
      refine hK.out _ _ (trivial) (fun hHeld => ?_)
      clear hK
      try simp only [Act.put, List.setIfInBounds_toArray, List.set_cons_zero, List.set_cons_succ]
      refine tc 7 ⟨some 67,_,_,_,_,_⟩ rfl (fun K hK => ?_)
      refine kt.step_append_run rfl _ _ 23 23 rfl _ _ (by simp [Act.eval, Act.put]) (by simp [Act.eval, Act.put]) _ _ HRUN.out ?_
      refine hK.out _ _ (trivial) (fun hHeld => ?_)
      clear hK
      try simp only [Act.put, List.setIfInBounds_toArray, List.set_cons_zero, List.set_cons_succ]
      refine tk 8 ⟨some 68,_,_,_,_,_⟩ rfl ?_
      refine tc 9 ⟨none,_,_,_,_,_⟩ rfl (fun K hK => ?_)
      go_simp
      refine hK.out _ _ (trivial) (fun hHeld => ?_)
      clear hK
      try simp only [Act.put, List.setIfInBounds_toArray, List.set_cons_zero, List.set_cons_succ]
      refine wpAnyH_done (by kernel_rfl) ?_ _
      obtain ⟨wcE, hwcE⟩ : ∃ W, w7.setCell ⟨p, 1, none⟩ (.slice ao7 m7 cap7) = W := ⟨_, rfl⟩
      rw [hwcE] at hP8 hO8 hG8 ⊢
      have HPE := Lib.hid hP8
      have HOE := Lib.hid hO8
      have HGE := Lib.hid hG8
      obtain ⟨dlE, hdlE⟩ : ∃ D, dlA ++ [((⟨n, l⟩ : At), Value.slice a5 n5 c5)] = D := ⟨_, rfl⟩
      rw [hdlE] at HOE
      have HLNE : Hid (dlE.length ≤ 2 * N + 1) := by show _ ≤ _; rw [← hdlE, List.length_append]; have := HLNA.out; simp only [List.length_cons, List.length_nil]; omega
      have HMPE : Hid (dlE.map Prod.fst = dlA.map Prod.fst ++ [(⟨n, l⟩ : At)]) := by show _ = _; rw [← hdlE, List.map_append]; rfl
      have HDLE := Lib.hid hdlE
      clear hP8 hO8 hG8 hdlE hwcE hfz hu7 HRUN hB7 HO5 HP5 HB5 hB5 m1c m1d hHeld
      have HF2 : Hid (dlE.map Prod.fst = withF n l (decide (l = [])) L) := by show _ = _; rw [HD0.out, HF.out, HMPE.out]; simp [withF]
      clear HF
      have HFIN : Hid (m7 = dlE.length ∧ m7 ≤ cap7) := by obtain ⟨ao1, cap1, h2, h3⟩ := kt.segX_slice HOE.out.outer; simp only [Value.slice.injEq] at h2; obtain ⟨_, e2, e3⟩ := h2; show _ ∧ _; omega
      obtain ⟨y0, y1⟩ := entB_cells HPE.out
      have hQF : EntB wcE q (.slice none 0 0) (.slice none 0 0) := (HGE.out.block _ (kt.bld_lt HQ4.out) (by intro e; cases e; omega)).trans HQ4.out
      obtain ⟨v0, v1⟩ := entB_cells hQF
      have f0 := Lib.frozen_of_heap hQF 0
      have f1 := Lib.frozen_of_heap hQF 1
      have hVF : Avas wcE ro' rdn := fun j hj => by
       obtain ⟨b, o, e, h1, h2⟩ := HV4.out j hj
       have hbp : b ≠ p := by rintro rfl; exact entB_str HP4.out (noS_slice _ _ _) (noS_slice _ _ _) _ _ h1
       have hbk := HGE.out.block b (World.block_lt_of_cell? w4 _ h1) (by intro e2; cases e2; exact hbp rfl)
       exact ⟨b, o, e, (World.cell?_of_block (a := ⟨b, _, none⟩) hbk).trans h1, (World.cell?_of_block (a := ⟨b, _, none⟩) hbk).trans h2⟩
      have hq1 := entB_set0 hQF (.slice ro' Nr rc')
      have hq2 := entB_set1 hq1 (.slice ao7 m7 cap7)
      have hoF := ownA_set (ownA_set HOE.out hQF (noS_slice _ _ _) (noS_slice _ _ _) 0 (.slice ro' Nr rc')) hq1 (noS_slice _ _ _) (noS_slice _ _ _) 1 (.slice ao7 m7 cap7)
      have hvF2 := avas_set (avas_set hVF hQF (noS_slice _ _ _) (noS_slice _ _ _) 0 (.slice ro' Nr rc')) hq1 (noS_slice _ _ _) (noS_slice _ _ _) 1 (.slice ao7 m7 cap7)
      have hBF := ((HBw.out wcE HGE.out).setCell (p := ⟨q, 0, none⟩) (Nat.le_of_lt hqw) (.slice ro' Nr rc')).setCell (p := ⟨q, 1, none⟩) (Nat.le_of_lt hqw) (.slice ao7 m7 cap7)
      have HQC := Lib.hid hq2
      have HOF := Lib.hid hoF
      have HVF := Lib.hid hvF2
      have HBF := Lib.hid hBF
      clear hVF hq1 hq2 hoF hvF2 hBF hQF
      go_wp2_with fail
      refine bodyPost_ret (v := .agg #[.slice ro' Nr rc', (.slice ao7 m7 cap7)]) (results_cell_row rfl _ _ q 25 _ (0, 0) _ rfl HQC.out Tryz.underlying25 rfl (by kernel_rfl)) rfl ?_
      refine HRES.out _ _ (dlE.map Prod.fst) HF2.out ⟨ro', rc', ao7, cap7, ?_, ?_, ?_, HVF.out, ownA_ats HOF.out⟩ HBF.out
      ·rw [HNr.out, List.length_map, ← HFIN.out.1]
      ·rw [HNr.out]; exact hrc'
      ·rw [List.length_map, ← HFIN.out.1]; exact HFIN.out.2
     ·go_simp
      refine hK.out _ _ (trivial) (fun hHeld => ?_)
      clear hK
      try simp only [Act.put, List.setIfInBounds_toArray, List.set_cons_zero, List.set_cons_succ]
      have m1e := (entB_cells (entB_below HP5.out ((Below.refl w5.heap.size w5).alloc (Nat.le_refl _) (.cells #[.string n, .slice a5 n5 c5] 57)))).2
      refine tc 1 ⟨some 61,_,_,_,_,_⟩ rfl (fun K hK => ?_)
      go_simp
      refine hK.out _ _ (trivial) (fun hHeld => ?_)
      clear hK
      try simp only [Act.put, List.setIfInBounds_toArray, List.set_cons_zero, List.set_cons_succ]
      clear m1e
      refine tc 7 ⟨some 67,_,_,_,_,_⟩ rfl (fun K hK => ?_)
      refine kt.step_append_run rfl _ _ 23 23 rfl _ _ (by simp [Act.eval, Act.put]) (by simp [Act.eval, Act.put]) _ _ HRUN.out ?_
      refine hK.out _ _ (trivial) (fun hHeld => ?_)
      clear hK
      try simp only [Act.put, List.setIfInBounds_toArray, List.set_cons_zero, List.set_cons_succ]
      refine tk 8 ⟨some 68,_,_,_,_,_⟩ rfl ?_
      refine tc 9 ⟨none,_,_,_,_,_⟩ rfl (fun K hK => ?_)
      go_simp
      refine hK.out _ _ (trivial) (fun hHeld => ?_)
      clear hK
      try simp only [Act.put, List.setIfInBounds_toArray, List.set_cons_zero, List.set_cons_succ]
      refine wpAnyH_done (by kernel_rfl) ?_ _
      obtain ⟨wcE, hwcE⟩ : ∃ W, w7.setCell ⟨p, 1, none⟩ (.slice ao7 m7 cap7) = W := ⟨_, rfl⟩
      rw [hwcE] at hP8 hO8 hG8 ⊢
      have HPE := Lib.hid hP8
      have HOE := Lib.hid hO8
      have HGE := Lib.hid hG8
      obtain ⟨dlE, hdlE⟩ : ∃ D, dlA ++ [((⟨n, l⟩ : At), Value.slice a5 n5 c5)] = D := ⟨_, rfl⟩
      rw [hdlE] at HOE
      have HLNE : Hid (dlE.length ≤ 2 * N + 1) := by show _ ≤ _; rw [← hdlE, List.length_append]; have := HLNA.out; simp only [List.length_cons, List.length_nil]; omega
      have HMPE : Hid (dlE.map Prod.fst = dlA.map Prod.fst ++ [(⟨n, l⟩ : At)]) := by show _ = _; rw [← hdlE, List.map_append]; rfl
      have HDLE := Lib.hid hdlE
      clear hP8 hO8 hG8 hdlE hwcE hfz hu7 HRUN hB7 HO5 HP5 HB5 hB5 m1c m1d hHeld
      have HF2 : Hid (dlE.map Prod.fst = withF n l (decide (l = [])) L) := by show _ = _; rw [HD0.out, HF.out, HMPE.out]; simp [withF]
      clear HF
      have HFIN : Hid (m7 = dlE.length ∧ m7 ≤ cap7) := by obtain ⟨ao1, cap1, h2, h3⟩ := kt.segX_slice HOE.out.outer; simp only [Value.slice.injEq] at h2; obtain ⟨_, e2, e3⟩ := h2; show _ ∧ _; omega
      obtain ⟨y0, y1⟩ := entB_cells HPE.out
      have hQF : EntB wcE q (.slice none 0 0) (.slice none 0 0) := (HGE.out.block _ (kt.bld_lt HQ4.out) (by intro e; cases e; omega)).trans HQ4.out
      obtain ⟨v0, v1⟩ := entB_cells hQF
      have f0 := Lib.frozen_of_heap hQF 0
      have f1 := Lib.frozen_of_heap hQF 1
      have hVF : Avas wcE ro' rdn := fun j hj => by
       obtain ⟨b, o, e, h1, h2⟩ := HV4.out j hj
       have hbp : b ≠ p := by rintro rfl; exact entB_str HP4.out (noS_slice _ _ _) (noS_slice _ _ _) _ _ h1
       have hbk := HGE.out.block b (World.block_lt_of_cell? w4 _ h1) (by intro e2; cases e2; exact hbp rfl)
       exact ⟨b, o, e, (World.cell?_of_block (a := ⟨b, _, none⟩) hbk).trans h1, (World.cell?_of_block (a := ⟨b, _, none⟩) hbk).trans h2⟩
      have hq1 := entB_set0 hQF (.slice ro' Nr rc')
      have hq2 := entB_set1 hq1 (.slice ao7 m7 cap7)
      have hoF := ownA_set (ownA_set HOE.out hQF (noS_slice _ _ _) (noS_slice _ _ _) 0 (.slice ro' Nr rc')) hq1 (noS_slice _ _ _) (noS_slice _ _ _) 1 (.slice ao7 m7 cap7)
      have hvF2 := avas_set (avas_set hVF hQF (noS_slice _ _ _) (noS_slice _ _ _) 0 (.slice ro' Nr rc')) hq1 (noS_slice _ _ _) (noS_slice _ _ _) 1 (.slice ao7 m7 cap7)
      have hBF := ((HBw.out wcE HGE.out).setCell (p := ⟨q, 0, none⟩) (Nat.le_of_lt hqw) (.slice ro' Nr rc')).setCell (p := ⟨q, 1, none⟩) (Nat.le_of_lt hqw) (.slice ao7 m7 cap7)
      have HQC := Lib.hid hq2
      have HOF := Lib.hid hoF
      have HVF := Lib.hid hvF2
      have HBF := Lib.hid hBF
      clear hVF hq1 hq2 hoF hvF2 hBF hQF
      go_wp2_with fail
      refine bodyPost_ret (v := .agg #[.slice ro' Nr rc', (.slice ao7 m7 cap7)]) (results_cell_row rfl _ _ q 25 _ (0, 0) _ rfl HQC.out Tryz.underlying25 rfl (by kernel_rfl)) rfl ?_
      refine HRES.out _ _ (dlE.map Prod.fst) HF2.out ⟨ro', rc', ao7, cap7, ?_, ?_, ?_, HVF.out, ownA_ats HOF.out⟩ HBF.out
      ·rw [HNr.out, List.length_map, ← HFIN.out.1]
      ·rw [HNr.out]; exact hrc'
      ·rw [List.length_map, ← HFIN.out.1]; exact HFIN.out.2
end etw
end Go.Proofs.YtcolcogobdgejaaGreatDoor
/-! BdW -/
namespace Go.Proofs.YtcolcogobdgejaaGreatDoor
open Go.RowKit
namespace etw
open atp atw etp
open dnw (Av Avas)
set_option linter.unusedVariables false
set_option linter.unusedSimpArgs false
structure Bk (k : Nat) (e : En) : Prop where
 rl : e.rdn.length ≤ 1000
 rs : ∀ a ∈ e.rdn, a.t.size ≤ 1000 ∧ a.v.size ≤ 1200
 al : e.ats.length ≤ k
 as_ : ∀ a ∈ e.ats, a.t.size ≤ 1000 ∧ a.vs.length ≤ 50 ∧ ∀ v ∈ a.vs, v.size ≤ 1200
theorem bk_bd {k : Nat} {e : En} (h : Bk k e) (hk : k ≤ 100000) : Bd e :=
 ⟨by have := h.rl; omega, fun a ha => by have := h.rs a ha; omega, by have := h.al; omega, fun a ha => by
  have := h.as_ a ha
  exact ⟨by omega, by omega, fun v hv => by have := this.2.2 v hv; omega⟩⟩
theorem bk_le {k m : Nat} {e : En} (h : Bk k e) (hk : k ≤ m) : Bk m e := ⟨h.rl, h.rs, Nat.le_trans h.al hk, h.as_⟩
theorem withF_mem {n : ByteArray} {l : List ByteArray} : ∀ {L : List At} {d : Bool} {a : At}, a ∈ withF n l d L → a ∈ L ∨ a = ⟨n, l⟩
 | [], d, a, h => by
  unfold withF at h
  split at h
  ·cases h
  ·rw [List.mem_singleton] at h; exact Or.inr h
 | b :: r, d, a, h => by
  unfold withF at h
  simp only [List.mem_append] at h
  rcases h with (h | h) | h
  ·split at h
   ·rw [List.mem_singleton] at h; exact Or.inr h
   ·cases h
  ·split at h
   ·cases h
   ·rw [List.mem_singleton] at h; rw [h]; exact Or.inl (by simp)
  ·rcases withF_mem h with h | h
   ·exact Or.inl (by simp [h])
   ·exact Or.inr h
theorem withF_len {n : ByteArray} {l : List ByteArray} : ∀ (L : List At) (d : Bool), (withF n l d L).length ≤ L.length + (if d then 0 else 1)
 | [], d => by unfold withF; cases d <;> simp
 | b :: r, d => by
  unfold withF
  have h := withF_len (n := n) (l := l) r (d || (!d && !ltB b.t n))
  simp only [List.length_append, List.length_cons]
  generalize ltB b.t n = x at h ⊢
  have h2 : (if b.t = n then ([] : List At) else [b]).length ≤ 1 := by split <;> simp
  generalize (if b.t = n then ([] : List At) else [b]).length = y at h2 ⊢
  cases d <;> cases x <;> simp at h ⊢ <;> omega
theorem bk_with {k : Nat} {e : En} {n : ByteArray} {l : List ByteArray} (h : Bk k e) (hn : n.size ≤ 1000) (hl : l.length ≤ 50) (hv : ∀ v ∈ l, v.size ≤ 1200) : Bk (k + 1) (withE e n l) := by
 refine ⟨h.rl, h.rs, ?_, fun a ha => ?_⟩
 ·have h1 := withF_len (n := n) (l := l) e.ats (decide (l = []))
  have h2 := h.al
  show (withF n l (decide (l = [])) e.ats).length ≤ k + 1
  split at h1 <;> omega
 ·rcases withF_mem ha with ha | ha
  ·exact h.as_ a ha
  ·rw [ha]; exact ⟨hn, hl, hv⟩
theorem bk_vals {k : Nat} {e : En} (h : Bk k e) (n : ByteArray) : (valsA e.ats n).length ≤ 50 ∧ ∀ v ∈ valsA e.ats n, v.size ≤ 1200 := by
 unfold valsA
 cases hf : e.ats.find? fun a => decide (a.t = n) with
 | none => exact ⟨by simp, by simp⟩
 | some a => exact (h.as_ a (List.mem_of_find?_eq_some hf)).2
theorem ty_size : ∀ j : Fin 20, (tys[j.val]'(j.isLt)).name.length ≤ 1000 := by decide +kernel
theorem name_size {n : List UInt8} {ty : Ty} (h : findS n = some ty) : (bs ty.name).size ≤ 1000 := by
 obtain ⟨i, hi, e⟩ := List.mem_iff_getElem.1 (findS_some h).1
 rw [bs_size, ← e]
 exact ty_size ⟨i, hi⟩
theorem drop_sub {syn : Int} : ∀ {l p q : List ByteArray}, dropF syn p l = some q → q.length ≤ p.length ∧ ∀ v ∈ q, v ∈ p
 | [], p, q, h => by cases h; exact ⟨Nat.le_refl _, fun v h => h⟩
 | v :: r, p, q, h => by
  unfold dropF at h
  split at h
  ·cases h
  ·rename_i k hk
   obtain ⟨h1, h2⟩ := drop_sub h
   refine ⟨?_, fun u hu => ?_⟩
   ·rw [List.length_append, List.length_take, List.length_drop] at h1
    omega
   ·rcases List.mem_append.1 (h2 u hu) with h3 | h3
    ·exact List.mem_of_mem_take h3
    ·exact List.mem_of_mem_drop h3
theorem bk_add {k : Nat} {e a : En} {n : List UInt8} {l : List ByteArray} (h : Bk k e) (hl : ∀ v ∈ l, v.size ≤ 1200) (ha : addE e n l = .ok a) : Bk (k + 1) a := by
 obtain ⟨ty, h1, h2, h3, h4, h5, h6, rfl⟩ := add_ok ha
 have hm : mostT ty.single ≤ 20 := by unfold mostT; split <;> omega
 refine bk_with h (name_size h2) (by omega) fun v hv => ?_
 rcases List.mem_append.1 hv with hv | hv
 ·exact (bk_vals h _).2 v hv
 ·exact hl v hv
theorem bk_remove {k : Nat} {e a : En} {n : List UInt8} {l : List ByteArray} (h : Bk k e) (ha : removeE e n l = .ok a) : Bk (k + 1) a := by
 unfold removeE at ha
 cases hf : findE e n with
 | error f => rw [hf] at ha; cases ha
 | ok ty =>
  rw [hf] at ha
  obtain ⟨h1, h2⟩ := findE_ok hf
  simp only at ha
  split at ha
  ·cases ha
  ·split at ha
   ·cases ha
   ·cases hd : dropF ty.syn (valsA e.ats (bs ty.name)) l with
    | none => rw [hd] at ha; cases ha
    | some q =>
     rw [hd] at ha
     simp only at ha
     cases ha
     obtain ⟨d1, d2⟩ := drop_sub hd
     have hv := bk_vals h (bs ty.name)
     refine bk_with h (name_size h2) ?_ fun v hvm => ?_
     ·split
      ·simp
      ·omega
     ·split at hvm
      ·cases hvm
      ·exact hv.2 v (d2 v hvm)
end etw
end Go.Proofs.YtcolcogobdgejaaGreatDoor
/-! ResW -/
namespace Go.Proofs.YtcolcogobdgejaaGreatDoor
open Go.RowKit
namespace etw
open atp atw etp
open dnw (Av Avas)
open tupw (Strs strs_below)
set_option linter.unusedVariables false
set_option linter.unusedSimpArgs false
theorem entV_set {w : World} {v : Value} {E : En} {p : Nat} {r a : Value} (h : EntV w v E) (hp : EntB w p r a) (hr : NoS r) (ha : NoS a) (j : Nat) (u : Value) : EntV (w.setCell ⟨p, j, none⟩ u) v E := by
 obtain ⟨ro, rc, ao, ac, h1, h2, h3, h4, h5⟩ := h
 refine ⟨ro, rc, ao, ac, h1, h2, h3, avas_set h4 hp hr ha j u, fun i hi => ?_⟩
 obtain ⟨b, o, x, c, e, q0, q1, q2, q3⟩ := h5 i hi
 have hb : b ≠ p := by
  rintro rfl
  exact entB_str hp hr ha _ _ q0
 refine ⟨b, o, x, c, e, ?_, ?_, q2, strs_set q3 hp hr ha j u⟩
 ·rw [World.cell?_setCell_other _ _ _ _ (by intro e2; injection e2 with e3 _ _; exact hb e3.symm), q0]
 ·rw [World.cell?_setCell_other _ _ _ _ (by intro e2; injection e2 with e3 _ _; exact hb e3.symm), q1]
def ResE (r : Except Int En) (w : World) (e : Ending) (w' : World) : Prop := Below w.heap.size w w' ∧ match r with
 | .ok E => ∃ v, e = .returned (.tuple #[v, .int .i64 0]) ∧ EntV w' v E
 | .error f => e = .returned (.tuple #[.agg #[.slice none 0 0, .slice none 0 0], .int .i64 f])
theorem join_step {syn : Int} {all l : List ByteArray} {i : Nat} (h : i < l.length) : joinF syn all (l.drop i) = if likeI syn all l[i] < 0 then joinF syn (all ++ [l[i]]) (l.drop (i + 1)) else none := by
 rw [List.drop_eq_getElem_cons h]
 rfl
theorem ent_agg {w : World} {v : Value} {E : En} (h : EntV w v E) : ∃ r1 n1 c1 r2 n2 c2, v = .agg #[.slice r1 n1 c1, .slice r2 n2 c2] := by
 obtain ⟨ro, rc, ao, ac, rfl, _⟩ := h
 exact ⟨_, _, _, _, _, _, rfl⟩
theorem find_err {E : En} {n : List UInt8} {f : Int} (h : findE E n = .error f) : f ≠ 0 := by
 unfold findE at h
 split at h
 ·cases h; decide
 ·split at h
  ·cases h; decide
  ·cases h
end etw
end Go.Proofs.YtcolcogobdgejaaGreatDoor
