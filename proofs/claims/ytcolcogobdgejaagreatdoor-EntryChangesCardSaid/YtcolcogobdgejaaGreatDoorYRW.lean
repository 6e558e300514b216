/- The walk of the reference's With. -/
import Derived.Test.YtcolcogobdgejaaGreatDoorC9
import Derived.Test.YtcolcogobdgejaaGreatDoorC6
import Derived.Test.YtcolcogobdgejaaGreatDoorC1
import Derived.Test.YtcolcogobdgejaaGreatDoorC7
/-! AppW -/
namespace Go.Proofs.YtcolcogobdgejaaGreatDoor
open Go.RowKit
namespace etw
open atp atw etp
open tupw (Strs strs_below)
set_option linter.unusedVariables false
set_option linter.unusedSimpArgs false
theorem app_nothing {P : Program} (w : World) (B : Nat) (t ty e : TypeId) (i : TypeInfo) (ht : P.underlying t = some (.slice e)) (hi : P.info? e = some i) (v : Value) (n : Nat) (xs : List Value) (hown : w.ownsRow B e 1 v n xs) (c : Nat) :
  (Builtin.append_ #[t, t] ty #[v, .slice none 0 c]).run P w = .ok v w := by
 rcases hown.2 with ⟨rfl, rfl⟩ | ⟨g, cap, cur, rfl, _, _, hnc, _⟩
 ·simp [Builtin.append_, run_underlying ht, sizeOf, typeInfo, hi, Builtin.lenOf, Builtin.firstCells]
 ·simp [Builtin.append_, run_underlying ht, sizeOf, typeInfo, hi, Builtin.lenOf, Builtin.firstCells, hnc, storeCells]
theorem appAll {w : World} {B : Nat} {v x : Value} {l ys : List ByteArray} (hown : prw.OwnT w B v l) (hx : ElemAt w x ys) (hl : l.length ≤ 1000000) (hy : ys.length ≤ 1000000) (hB : B ≤ w.heap.size) :
  ∃ ao m cap w1, (Builtin.append_ #[32, 32] 32 #[v, x]).run Tryz.prog w = .ok (.slice ao m cap) w1 ∧ prw.OwnT w1 B (.slice ao m cap) (l ++ ys) ∧ Below B w w1 ∧ m = (l ++ ys).length := by
 obtain ⟨a, c, rfl, hc, hs⟩ := hx
 cases a with
 | none =>
  have h0 : ys = [] := by
   cases ys with
   | nil => rfl
   | cons y t => obtain ⟨b, o, e, _⟩ := hs 0 (by simp); cases e
  subst h0
  obtain ⟨ao, cap, rfl, hcap⟩ := prw.ownT_cells hown
  obtain ⟨i0, hi, _⟩ := info_parts prw.infoStr
  exact ⟨ao, _, cap, w, app_nothing w B _ _ _ i0 Tryz.underlying32 hi _ _ _ hown c, by rw [List.append_nil]; exact hown, Below.refl _ _, by simp⟩
 | some ad =>
  obtain ⟨v', w1, h1, h2, _, h3⟩ := kt.appN (P := Tryz.prog) (t := 32) (ty := 32) Tryz.underlying32 prw.infoStr rfl ad ys.length c (prw.scells ys) (prw.scells_length ys) (fun j u hj => by
   have hj' : j < ys.length := by rw [← prw.scells_length ys]; exact (List.getElem?_eq_some_iff.1 hj).1
   obtain ⟨b, o, e, hcell⟩ := hs j hj'
   have e' : ad = ⟨b, o, none⟩ := by simpa using e
   rw [e', Addr.add_mid, hcell]
   unfold prw.scells at hj
   rw [List.getElem?_map, List.getElem?_eq_getElem hj'] at hj
   simpa using hj) (by
   intro u hu
   unfold prw.scells at hu
   obtain ⟨s, _, rfl⟩ := List.mem_map.1 hu
   rfl) hown (by rw [prw.scells_length]; unfold maxLen; omega) (by rw [prw.scells_length]; omega) hB
  have h2' : prw.OwnT w1 B v' (l ++ ys) := by
   unfold prw.OwnT
   have e : prw.scells (l ++ ys) = prw.scells l ++ prw.scells ys := by unfold prw.scells; rw [List.map_append]
   rw [e]
   exact h2
  obtain ⟨ao, m, cap, rfl, hm⟩ := dnw.ownT_form h2'
  exact ⟨ao, m, cap, w1, h1, h2', h3, hm.out⟩
theorem own_empty (w : World) (B : Nat) (hB : B ≤ w.heap.size) : prw.OwnT (w.alloc (.cells #[] 9)) B (.slice (some ⟨w.heap.size, 0, none⟩) 0 0) [] :=
 ⟨by simp [prw.scells], Or.inr ⟨w.heap.size, 0, #[], rfl, hB, heap_alloc_new w _, Nat.le_refl _, by unfold maxLen; omega, by simp [prw.scells], by simp [prw.scells]⟩⟩
end etw
end Go.Proofs.YtcolcogobdgejaaGreatDoor
/-! RWithW -/
namespace Go.Proofs.YtcolcogobdgejaaGreatDoor
open Go.RowKit
namespace etw
open atp atw etp
open dnw (Av Avas)
open tupw (Strs strs_below)
set_option linter.unusedVariables false
set_option linter.unusedSimpArgs false
theorem rlessB_any (a b : ByteArray) (w : World) (ha : a.size ≤ 1100000) :
  Calls Tryz.prog 68 #[.string a, .string b] w fun e w' => e = .returned (.int .i64 (Lib.compareBytes a.data.toList b.data.toList)) ∧ Below w.heap.size w w' :=
 (ordw.less_any a b w ha).mono fun e w' ⟨h1, n, h2⟩ => ⟨h1, by rw [h2]; exact ⟨rfl, rfl, rfl, Nat.le_refl _, fun _ _ => rfl⟩⟩
theorem ltB_leq (a b : ByteArray) : (ltB a b = true ∧ 0 < Lib.compareBytes b.data.toList a.data.toList) ∨ (ltB a b = false ∧ Lib.compareBytes b.data.toList a.data.toList ≤ 0) := by
 rw [ord.cmp_neg a.data.toList b.data.toList]
 unfold ltB
 rcases ord.cmp_three a.data.toList b.data.toList with h | h | h
 ·exact Or.inl ⟨decide_eq_true h, by omega⟩
 ·exact Or.inr ⟨decide_eq_false (by omega), by omega⟩
 ·exact Or.inr ⟨decide_eq_false (by omega), by omega⟩
theorem grown_app {w4 w5 w7 : World} {p : Nat} (h : w4.grownBy w5 (some p)) (h7 : Below w4.heap.size w5 w7) : w4.grownBy w7 (some p) :=
 ⟨h7.os.trans h.os, h7.tape.trans h.tape, h7.output.trans h.output, Nat.le_trans h.size h7.size, fun k hk hne => (h7.block k hk).trans (h.block k hk hne)⟩
set_option maxRecDepth 20000 in
set_option maxHeartbeats 4000000 in
theorem rwith_any (v : Value) (E : En) (n : ByteArray) (bo : Option Addr) (bcap : Nat) (l : List ByteArray) (w : World) (hv : Hid (EntV w v E)) (hb : Hid (Bd E)) (hS : Hid (Strs w bo l)) (hl : l.length ≤ 100000) (hlc : l.length ≤ bcap) (hn : n.size ≤ 1100000) :
  Calls Tryz.prog 84 #[v, .string n, .slice bo l.length bcap] w fun e w' => EntE (withE E n l) w e w' := by
 obtain ⟨ro, rc, ao, ac, Nr, N, rfl, HN, HA, hac, HNr, HAv, hrc⟩ := ent_form hv.out
 have hNb : N ≤ 100000 := by rw [← HN.out]; exact hb.out.al
 have HVB := Lib.hid hb.out.as_
 have HD : Hid ((decide (l = [])) = ((l.length : Int) == 0)) := by
  show _ = _
  rw [Bool.eq_iff_iff, decide_eq_true_iff, beq_iff_eq]
  constructor
  ·intro h; rw [h]; rfl
  ·intro h; exact List.eq_nil_of_length_eq_zero (by omega)
 have HRES : Hid (∀ v' w' (D : List At), D = withF n l (decide (l = [])) E.ats → EntV w' v' ⟨E.rdn, D⟩ → Below w.heap.size w w' → EntE (withE E n l) w (.returned v') w') := fun v' w' D h1 h2 h3 => ⟨v', rfl, by rw [h1] at h2; exact h2, h3⟩
 have HXL0 : Hid (ElemAt w (.slice bo l.length bcap) l) := ⟨bo, bcap, rfl, hlc, hS.out⟩
 obtain ⟨rdn, L⟩ := E
 simp only at HN HA HNr HAv HRES HVB
 obtain ⟨K, hK0⟩ : ∃ K, l.length = K := ⟨_, rfl⟩
 rw [hK0] at HD hl hlc HXL0 ⊢
 have HKK := Lib.hid hK0
 have HXL := HXL0
 clear hK0 hv HXL0
 obtain ⟨W1, hW1⟩ : ∃ W, w.alloc (.cells #[.slice ro Nr rc, .slice ao N ac] 25) = W := ⟨_, rfl⟩
 have hB1 : Below w.heap.size w W1 := by rw [← hW1]; exact (Below.refl _ _).alloc (Nat.le_refl _) _
 have hT1 : EntB W1 w.heap.size (.slice ro Nr rc) (.slice ao N ac) := by rw [← hW1]; exact entB_new _ _ _
 obtain ⟨W2, hW2⟩ : ∃ W, W1.alloc (.cells #[.slice none 0 0, .slice none 0 0] 25) = W := ⟨_, rfl⟩
 have hB2 : Below W1.heap.size W1 W2 := by rw [← hW2]; exact (Below.refl _ _).alloc (Nat.le_refl _) _
 obtain ⟨q, hqq⟩ : ∃ q, W1.heap.size = q := ⟨_, rfl⟩
 have hqw : w.heap.size < q := by rw [← hqq]; exact kt.bld_lt hT1
 have hQ2 : EntB W2 q (.slice none 0 0) (.slice none 0 0) := by rw [← hW2, ← hqq]; exact entB_new _ _ _
 have HB2 := Lib.hid (hB1.trans (hB2.mono hB1.size))
 have HT2 := Lib.hid (entB_below hT1 hB2)
 obtain ⟨k0, k1⟩ := entB_cells HT2.out
 have hltw : w.heap.size < W2.heap.size := kt.bld_lt HT2.out
 obtain ⟨w4, hw4⟩ : ∃ W, W2.alloc (.cells #[.slice ro Nr rc, .slice none 0 0] 25) = W := ⟨_, rfl⟩
 have hB4 : Below W2.heap.size W2 w4 := by rw [← hw4]; exact (Below.refl _ _).alloc (Nat.le_refl _) _
 obtain ⟨p, hp⟩ : ∃ p, W2.heap.size = p := ⟨_, rfl⟩
 have HP4 : Hid (EntB w4 p (.slice ro Nr rc) (.slice none 0 0)) := by rw [← hw4, ← hp]; exact entB_new _ _ _
 have hs4 : w4.heap.size = p + 1 := by rw [← hw4, ← hp]; simp
 have HB4 := Lib.hid (HB2.out.trans (hB4.mono HB2.out.size))
 have HT4 := Lib.hid (entB_below HT2.out hB4)
 have HQ4 := Lib.hid (entB_below hQ2 hB4)
 have hpq : q < p := by rw [← hp]; exact kt.bld_lt hQ2
 have HBw : Hid (∀ W, w4.grownBy W (some p) → Below w.heap.size w W) := fun W h => HB4.out.grown h (Nat.le_trans (by omega) (Nat.le_of_eq hs4.symm)) (fun k hk => by cases hk; omega)
 have HBZ : Hid (w.heap.size ≤ w4.heap.size) := by show _ ≤ _; omega
 have HHP := Lib.hid hp
 have HW4 := Lib.hid hw4
 clear hB1 hB2 hT1 hQ2 hB4 hs4 hp hw4
 obtain ⟨d0, hd0⟩ : ∃ d, ((K : Int) == 0) = d := ⟨_, rfl⟩
 have HD0 : Hid (decide (l = []) = d0) := by show _ = _; rw [HD.out, hd0]
 clear HD
 go_enter Tryz.func84, Tryz.ntmps84
 go_wp2_with fail
 rw [HW4.out, HHP.out]
 clear HW4 HHP k0 k1 hltw hW1 hW2 hqq HT2 HB2
 go_loopw [8, 9] (fun dv iv wr => ∃ (i : Nat) (d : Bool) (av : Value) (dl : List AV), i ≤ N ∧ dv = .bool d ∧ iv = .int .i64 (i : Int) ∧ Hid (w4.grownBy wr (some p)) ∧ Hid (EntB wr p (.slice ro Nr rc) av) ∧ Hid (OwnA wr w4.heap.size av dl) ∧ Hid (dl.length ≤ 2 * i) ∧ Hid (withF n l d0 L = dl.map Prod.fst ++ withF n l d (L.drop i))) (fun _ iv _ => N - (intOf iv).toNat)
 case atStart => exact ⟨0, d0, _, [], Nat.zero_le _, rfl, rfl, grown_refl _ _, HP4.out, ownA_nil _ _, Nat.le_refl _, rfl⟩
 case round =>
  obtain ⟨i, d, avR, dlA, hi, rfl, rfl, HGA, HPA, HOA, HLNA, HF⟩ := hrel
  obtain ⟨aoR, nR, capR, rfl, hcR⟩ := ownA_formC HOA.out
  have HZE : Hid (∀ W, w4.grownBy W (some p) → W.cell? ⟨w.heap.size, 1, none⟩ = some (.slice ao N ac)) := fun W h => (entB_cells ((h.block _ (kt.bld_lt HT4.out) (by intro e; cases e; omega)).trans HT4.out)).2
  have zA := HZE.out wr HGA.out
  by_cases hlt : i < N
  ·have hltI : (i : Int) < (N : Int) := by omega
   have hil : i < L.length := by rw [HN.out]; exact hlt
   obtain ⟨b, o, ax, cx, hao, q0, q1, hcx, hST⟩ := HA.out i hil
   subst hao
   have HST := Lib.hid (withF_step (n := n) (l := l) (d := d) hil)
   have hvb := (HVB.out L[i] (List.getElem_mem _)).2.1
   obtain ⟨a, ha⟩ : ∃ a, L[i] = a := ⟨_, rfl⟩
   rw [ha] at HST q0 q1 hcx hST hvb
   clear ha
   obtain ⟨M, hM⟩ : ∃ M, a.vs.length = M := ⟨_, rfl⟩
   have HM := Lib.hid hM
   have HXA0 : Hid (ElemAt w (.slice ax a.vs.length cx) a.vs) := ⟨ax, cx, rfl, hcx, hST⟩
   rw [hM] at q1 hcx HXA0
   have HXA := HXA0
   have hq0b := World.block_lt_of_cell? w _ q0
   have HS : Hid (∀ W, w4.grownBy W (some p) → W.cell? ⟨w.heap.size, 1, none⟩ = some (.slice (some ⟨b, o, none⟩) N ac) ∧ W.cell? ⟨b, o + i * 2, none⟩ = some (.string a.t) ∧ W.cell? ⟨b, o + i * 2 + 1, none⟩ = some (.slice ax M cx)) := fun W h =>
    ⟨HZE.out W h, ((HBw.out W h).cell (p := ⟨b, o + i * 2, none⟩) hq0b).trans q0, ((HBw.out W h).cell (p := ⟨b, o + i * 2 + 1, none⟩) hq0b).trans q1⟩
   obtain ⟨_, QA0, QA1⟩ := HS.out wr HGA.out
   clear q0 q1 hM hST hvb HXA0 HZE
   have HLS := Lib.hid (fun w => rlessB_any n a.t w hn)
   have hcmp := ltB_leq a.t n
   generalize Lib.compareBytes n.data.toList a.t.data.toList = cm at HLS hcmp
   cases d with
   | true =>
    have HPU : Hid ((if (!true && !ltB a.t n) = true then [(⟨n, l⟩ : At)] else []) = []) := rfl
    have HOR2 : Hid ((true || (!true && !ltB a.t n)) = true) := rfl
    rw [HOR2.out] at HST
    clear HOR2 hcmp HLS
    by_cases hq : a.t = n
    ·have q := str_eq_beq hq
     have q' : (a.t.toList != n.toList) = false := by rw [bne, q]; rfl
     have HQ : Hid ((if a.t = n then [] else [a]) = ([] : List At)) := by show _ = _; rw [if_pos hq]
     clear hq
     go_wp2_with fail
     go_roundw
     case rel => exact ⟨i + 1, true, _, dlA, by omega, rfl, by go_num, HGA, HPA, HOA, (by show _ ≤ _; have := HLNA.out; omega), (by show _ = _; rw [HF.out, HST.out, HPU.out, HQ.out]; simp)⟩
     case measure => simp [intOf]; omega
    ·have q := ne_str hq
     have q' : (a.t.toList != n.toList) = true := by rw [bne, q]; rfl
     have HQ : Hid ((if a.t = n then [] else [a]) = [a]) := by show _ = _; rw [if_neg hq]
     clear hq
     go_wp2_with fail
     refine wp_region_held_drew (S := fun W => W.cell? ⟨w.heap.size, 1, none⟩ = some (.slice (some ⟨b, o, none⟩) N ac) ∧ W.cell? ⟨b, o + i * 2, none⟩ = some (.string a.t) ∧ W.cell? ⟨b, o + i * 2 + 1, none⟩ = some (.slice ax M cx)) (by kernel_rfl) (HS.out _ (grown_below HGA.out ((Below.refl _ wr).drew))) (fun hHeld => ?_)
     refine tk 0 ⟨some 52,_,_,_,_,_⟩ rfl ?_
     refine tk 2 ⟨some 54,_,_,_,_,_⟩ rfl ?_
     refine tk 3 ⟨some 55,_,_,_,_,_⟩ rfl ?_
     refine tk 4 ⟨some 56,_,_,_,_,_⟩ rfl ?_
     refine tk 5 ⟨some 57,_,_,_,_,_⟩ rfl ?_
     refine tk 6 ⟨some 58,_,_,_,_,_⟩ rfl ?_
     have HX := HXA
     have HBW : Hid (Below wr.heap.size wr wr.drew) := (Below.refl _ _).drew
     have HO5 := Lib.hid (ownA_below HOA.out HBW.out)
     have HP5 := Lib.hid (entB_below HPA.out HBW.out)
     have HG5 := Lib.hid (grown_below HGA.out HBW.out)
     have hx5 : ElemAt (wr.drew) (.slice ax M cx) a.vs := elem_below HX.out (HBw.out _ HG5.out)
     obtain ⟨ao7, m7, cap7, w7, hap, hfz, ⟨u7, hu7⟩, hP8, hO8, hB7, hkp, hsn⟩ := appA a.t (.slice ax M cx) a.vs dlA HO5.out HP5.out (noS_slice _ _ _) hx5 (fun hv k hk e => by have h1 := elem_lt HX.out hv k hk; have h2 := (kt.segX_lt HOA.out.outer k e).1; have h3 := HBZ.out; omega) (by have := HLNA.out; omega) HG5.out.size
     have HG7 := Lib.hid (grown_app HG5.out hB7)
     have hG8 := grown_step HGA.out HBW.out hB7 1 (.slice ao7 m7 cap7)
     have HRUN := Lib.hid hap
     clear hap hsn hkp hx5 HO5 HP5
     obtain ⟨wcS, hwcS⟩ : ∃ W, w7.setCell ⟨p, 1, none⟩ (.slice ao7 m7 cap7) = W := ⟨_, rfl⟩
     rw [hwcS] at hP8 hO8 hG8
     have HPS := Lib.hid hP8
     have HGS := Lib.hid hG8
     obtain ⟨dlS, hdlS⟩ : ∃ D, dlA ++ [((⟨a.t, a.vs⟩ : At), .slice ax M cx)] = D := ⟨_, rfl⟩
     rw [hdlS] at hO8
     have HOS := Lib.hid hO8
     have HLNS : Hid (dlS.length ≤ 2 * i + 2) := by show _ ≤ _; rw [← hdlS, List.length_append]; have := HLNA.out; simp only [List.length_cons, List.length_nil]; omega
     have HMPS : Hid (dlS.map Prod.fst = dlA.map Prod.fst ++ [(⟨a.t, a.vs⟩ : At)]) := by show _ = _; rw [← hdlS, List.map_append]; rfl
     clear hP8 hO8 hG8 hdlS hB7
     have m1c : (wr.drew).cell? ⟨p, 1, none⟩ = some (.slice aoR nR capR) := (entB_cells HPA.out).2
     have hAL : Below wr.drew.heap.size wr.drew (wr.drew.alloc (.cells #[.string a.t, .slice ax M cx] 57)) := (Below.refl _ _).alloc (Nat.le_refl _) _
     have HGL := Lib.hid (grown_below HG5.out hAL)
     have m1l : (wr.drew.alloc (.cells #[.string a.t, .slice ax M cx] 57)).cell? ⟨p, 1, none⟩ = some (.slice aoR nR capR) := (entB_cells (entB_below (entB_below HPA.out HBW.out) hAL)).2
     have HM1L := Lib.hid m1l
     clear m1l hAL
     refine wpAnyH_ready (rs := [1, 7]) (by kernel_rfl) (by simp) ?_
     refine AllReadyH.cons (o := ⟨some 53, _, _, _, _, _⟩) rfl (fun K hK => ?_) (AllReadyH.cons (o := ⟨some 59, _, _, _, _, _⟩) rfl (fun K hK => ?_) AllReadyH.nil)
     ·go_simp
      refine hK.out _ _ (hHeld) (fun hHeld => ?_)
      clear hK
      try simp only [Act.put, List.setIfInBounds_toArray, List.set_cons_zero, List.set_cons_succ]
      refine tc 7 ⟨some 59,_,_,_,_,_⟩ rfl (fun K hK => ?_)
      go_simp
      refine hK.out _ _ (HS.out _ HGL.out) (fun hHeld => ?_)
      clear hK
      try simp only [Act.put, List.setIfInBounds_toArray, List.set_cons_zero, List.set_cons_succ]
      refine tc 8 ⟨some 60,_,_,_,_,_⟩ rfl (fun K hK => ?_)
      refine kt.step_append_run rfl _ _ 23 23 rfl _ _ (by simp [Act.eval, Act.put]) (by simp [Act.eval, Act.put]) _ _ HRUN.out ?_
      refine hK.out _ _ (HS.out _ HG7.out) (fun hHeld => ?_)
      clear hK
      try simp only [Act.put, List.setIfInBounds_toArray, List.set_cons_zero, List.set_cons_succ]
      refine tk 9 ⟨some 61,_,_,_,_,_⟩ rfl ?_
      refine tc 10 ⟨none,_,_,_,_,_⟩ rfl (fun K hK => ?_)
      go_simp
      refine hK.out _ _ (HS.out _ HGS.out) (fun hHeld => ?_)
      clear hK
      try simp only [Act.put, List.setIfInBounds_toArray, List.set_cons_zero, List.set_cons_succ]
      refine wpAnyH_done (by kernel_rfl) ?_ _
      clear hwcS hfz hu7 HRUN m1c HG5 HG7 HBW HX HGL HM1L hHeld
      go_wp2_with fail
      go_roundw
      case rel => exact ⟨i + 1, true, _, dlS, by omega, rfl, by go_num, HGS, HPS, HOS, (by show _ ≤ _; have := HLNS.out; omega), (by show _ = _; rw [HF.out, HST.out, HPU.out, HQ.out, HMPS.out]; simp [List.append_assoc])⟩
      case measure => simp [intOf]; omega
     ·go_simp
      refine hK.out _ _ (HS.out _ HGL.out) (fun hHeld => ?_)
      clear hK
      try simp only [Act.put, List.setIfInBounds_toArray, List.set_cons_zero, List.set_cons_succ]
      have m1l : (wr.alloc (.cells #[.string a.t, .slice ax M cx] 57)).cell? ⟨p, 1, none⟩ = some (.slice aoR nR capR) := HM1L.out
      refine tc 1 ⟨some 53,_,_,_,_,_⟩ rfl (fun K hK => ?_)
      go_simp
      refine hK.out _ _ (hHeld) (fun hHeld => ?_)
      clear hK
      try simp only [Act.put, List.setIfInBounds_toArray, List.set_cons_zero, List.set_cons_succ]
      clear m1l
      refine tc 8 ⟨some 60,_,_,_,_,_⟩ rfl (fun K hK => ?_)
      refine kt.step_append_run rfl _ _ 23 23 rfl _ _ (by simp [Act.eval, Act.put]) (by simp [Act.eval, Act.put]) _ _ HRUN.out ?_
      refine hK.out _ _ (HS.out _ HG7.out) (fun hHeld => ?_)
      clear hK
      try simp only [Act.put, List.setIfInBounds_toArray, List.set_cons_zero, List.set_cons_succ]
      refine tk 9 ⟨some 61,_,_,_,_,_⟩ rfl ?_
      refine tc 10 ⟨none,_,_,_,_,_⟩ rfl (fun K hK => ?_)
      go_simp
      refine hK.out _ _ (HS.out _ HGS.out) (fun hHeld => ?_)
      clear hK
      try simp only [Act.put, List.setIfInBounds_toArray, List.set_cons_zero, List.set_cons_succ]
      refine wpAnyH_done (by kernel_rfl) ?_ _
      clear hwcS hfz hu7 HRUN m1c HG5 HG7 HBW HX HGL HM1L hHeld
      go_wp2_with fail
      go_roundw
      case rel => exact ⟨i + 1, true, _, dlS, by omega, rfl, by go_num, HGS, HPS, HOS, (by show _ ≤ _; have := HLNS.out; omega), (by show _ = _; rw [HF.out, HST.out, HPU.out, HQ.out, HMPS.out]; simp [List.append_assoc])⟩
      case measure => simp [intOf]; omega
   | false =>
    rcases hcmp with ⟨hlb, hcm⟩ | ⟨hlb, hcm⟩
    ·have qc : decide (cm ≤ 0) = false := decide_eq_false (by omega)
     have HPU : Hid ((if (!false && !ltB a.t n) = true then [(⟨n, l⟩ : At)] else []) = []) := by show _ = _; rw [hlb]; rfl
     have HOR2 : Hid ((false || (!false && !ltB a.t n)) = false) := by show _ = _; rw [hlb]; rfl
     rw [HOR2.out] at HST
     clear HOR2 hlb
     by_cases hq : a.t = n
     ·have q := str_eq_beq hq
      have q' : (a.t.toList != n.toList) = false := by rw [bne, q]; rfl
      have HQ : Hid ((if a.t = n then [] else [a]) = ([] : List At)) := by show _ = _; rw [if_pos hq]
      clear hq
      go_wp2_with fail
      refine (HLS.out _).mono ?_
      rintro e w6 ⟨rfl, hB6⟩
      have HGB := Lib.hid (grown_below HGA.out hB6)
      have HPB := Lib.hid (entB_below HPA.out hB6)
      have HOB := Lib.hid (ownA_below HOA.out hB6)
      have HLNB := HLNA
      obtain ⟨zB, QB0, QB1⟩ := HS.out w6 HGB.out
      clear hB6 zA QA0 QA1
      go_wp2_with fail
      go_roundw
      case rel => exact ⟨i + 1, false, _, dlA, by omega, rfl, by go_num, HGB, HPB, HOB, (by show _ ≤ _; have := HLNB.out; omega), (by show _ = _; rw [HF.out, HST.out, HPU.out, HQ.out]; simp)⟩
      case measure => simp [intOf]; omega
     ·have q := ne_str hq
      have q' : (a.t.toList != n.toList) = true := by rw [bne, q]; rfl
      have HQ : Hid ((if a.t = n then [] else [a]) = [a]) := by show _ = _; rw [if_neg hq]
      clear hq
      go_wp2_with fail
      refine (HLS.out _).mono ?_
      rintro e w6 ⟨rfl, hB6⟩
      have HGB := Lib.hid (grown_below HGA.out hB6)
      have HPB := Lib.hid (entB_below HPA.out hB6)
      have HOB := Lib.hid (ownA_below HOA.out hB6)
      have HLNB := HLNA
      obtain ⟨zB, QB0, QB1⟩ := HS.out w6 HGB.out
      clear hB6 zA QA0 QA1
      go_wp2_with fail
      refine wp_region_held_drew (S := fun W => W.cell? ⟨w.heap.size, 1, none⟩ = some (.slice (some ⟨b, o, none⟩) N ac) ∧ W.cell? ⟨b, o + i * 2, none⟩ = some (.string a.t) ∧ W.cell? ⟨b, o + i * 2 + 1, none⟩ = some (.slice ax M cx)) (by kernel_rfl) (HS.out _ (grown_below HGB.out ((Below.refl _ w6).drew))) (fun hHeld => ?_)
      refine tk 0 ⟨some 52,_,_,_,_,_⟩ rfl ?_
      refine tk 2 ⟨some 54,_,_,_,_,_⟩ rfl ?_
      refine tk 3 ⟨some 55,_,_,_,_,_⟩ rfl ?_
      refine tk 4 ⟨some 56,_,_,_,_,_⟩ rfl ?_
      refine tk 5 ⟨some 57,_,_,_,_,_⟩ rfl ?_
      refine tk 6 ⟨some 58,_,_,_,_,_⟩ rfl ?_
      have HX := HXA
      have HBW : Hid (Below w6.heap.size w6 w6.drew) := (Below.refl _ _).drew
      have HO5 := Lib.hid (ownA_below HOB.out HBW.out)
      have HP5 := Lib.hid (entB_below HPB.out HBW.out)
      have HG5 := Lib.hid (grown_below HGB.out HBW.out)
      have hx5 : ElemAt (w6.drew) (.slice ax M cx) a.vs := elem_below HX.out (HBw.out _ HG5.out)
      obtain ⟨ao7, m7, cap7, w7, hap, hfz, ⟨u7, hu7⟩, hP8, hO8, hB7, hkp, hsn⟩ := appA a.t (.slice ax M cx) a.vs dlA HO5.out HP5.out (noS_slice _ _ _) hx5 (fun hv k hk e => by have h1 := elem_lt HX.out hv k hk; have h2 := (kt.segX_lt HOB.out.outer k e).1; have h3 := HBZ.out; omega) (by have := HLNB.out; omega) HG5.out.size
      have HG7 := Lib.hid (grown_app HG5.out hB7)
      have hG8 := grown_step HGB.out HBW.out hB7 1 (.slice ao7 m7 cap7)
      have HRUN := Lib.hid hap
      clear hap hsn hkp hx5 HO5 HP5
      obtain ⟨wcS, hwcS⟩ : ∃ W, w7.setCell ⟨p, 1, none⟩ (.slice ao7 m7 cap7) = W := ⟨_, rfl⟩
      rw [hwcS] at hP8 hO8 hG8
      have HPS := Lib.hid hP8
      have HGS := Lib.hid hG8
      obtain ⟨dlS, hdlS⟩ : ∃ D, dlA ++ [((⟨a.t, a.vs⟩ : At), .slice ax M cx)] = D := ⟨_, rfl⟩
      rw [hdlS] at hO8
      have HOS := Lib.hid hO8
      have HLNS : Hid (dlS.length ≤ 2 * i + 2) := by show _ ≤ _; rw [← hdlS, List.length_append]; have := HLNB.out; simp only [List.length_cons, List.length_nil]; omega
      have HMPS : Hid (dlS.map Prod.fst = dlA.map Prod.fst ++ [(⟨a.t, a.vs⟩ : At)]) := by show _ = _; rw [← hdlS, List.map_append]; rfl
      clear hP8 hO8 hG8 hdlS hB7
      have m1c : (w6.drew).cell? ⟨p, 1, none⟩ = some (.slice aoR nR capR) := (entB_cells HPB.out).2
      have hAL : Below w6.drew.heap.size w6.drew (w6.drew.alloc (.cells #[.string a.t, .slice ax M cx] 57)) := (Below.refl _ _).alloc (Nat.le_refl _) _
      have HGL := Lib.hid (grown_below HG5.out hAL)
      have m1l : (w6.drew.alloc (.cells #[.string a.t, .slice ax M cx] 57)).cell? ⟨p, 1, none⟩ = some (.slice aoR nR capR) := (entB_cells (entB_below (entB_below HPB.out HBW.out) hAL)).2
      have HM1L := Lib.hid m1l
      clear m1l hAL
      refine wpAnyH_ready (rs := [1, 7]) (by kernel_rfl) (by simp) ?_
      refine AllReadyH.cons (o := ⟨some 53, _, _, _, _, _⟩) rfl (fun K hK => ?_) (AllReadyH.cons (o := ⟨some 59, _, _, _, _, _⟩) rfl (fun K hK => ?_) AllReadyH.nil)
      ·go_simp
       refine hK.out _ _ (hHeld) (fun hHeld => ?_)
       clear hK
       try simp only [Act.put, List.setIfInBounds_toArray, List.set_cons_zero, List.set_cons_succ]
       refine tc 7 ⟨some 59,_,_,_,_,_⟩ rfl (fun K hK => ?_)
       go_simp
       refine hK.out _ _ (HS.out _ HGL.out) (fun hHeld => ?_)
       clear hK
       try simp only [Act.put, List.setIfInBounds_toArray, List.set_cons_zero, List.set_cons_succ]
       refine tc 8 ⟨some 60,_,_,_,_,_⟩ rfl (fun K hK => ?_)
       refine kt.step_append_run rfl _ _ 23 23 rfl _ _ (by simp [Act.eval, Act.put]) (by simp [Act.eval, Act.put]) _ _ HRUN.out ?_
       refine hK.out _ _ (HS.out _ HG7.out) (fun hHeld => ?_)
       clear hK
       try simp only [Act.put, List.setIfInBounds_toArray, List.set_cons_zero, List.set_cons_succ]
       refine tk 9 ⟨some 61,_,_,_,_,_⟩ rfl ?_
       refine tc 10 ⟨none,_,_,_,_,_⟩ rfl (fun K hK => ?_)
       go_simp
       refine hK.out _ _ (HS.out _ HGS.out) (fun hHeld => ?_)
       clear hK
       try simp only [Act.put, List.setIfInBounds_toArray, List.set_cons_zero, List.set_cons_succ]
       refine wpAnyH_done (by kernel_rfl) ?_ _
       clear hwcS hfz hu7 HRUN m1c HG5 HG7 HBW HX HGL HM1L hHeld
       go_wp2_with fail
       go_roundw
       case rel => exact ⟨i + 1, false, _, dlS, by omega, rfl, by go_num, HGS, HPS, HOS, (by show _ ≤ _; have := HLNS.out; omega), (by show _ = _; rw [HF.out, HST.out, HPU.out, HQ.out, HMPS.out]; simp [List.append_assoc])⟩
       case measure => simp [intOf]; omega
      ·go_simp
       refine hK.out _ _ (HS.out _ HGL.out) (fun hHeld => ?_)
       clear hK
       try simp only [Act.put, List.setIfInBounds_toArray, List.set_cons_zero, List.set_cons_succ]
       have m1l : (w6.alloc (.cells #[.string a.t, .slice ax M cx] 57)).cell? ⟨p, 1, none⟩ = some (.slice aoR nR capR) := HM1L.out
       refine tc 1 ⟨some 53,_,_,_,_,_⟩ rfl (fun K hK => ?_)
       go_simp
       refine hK.out _ _ (hHeld) (fun hHeld => ?_)
       clear hK
       try simp only [Act.put, List.setIfInBounds_toArray, List.set_cons_zero, List.set_cons_succ]
       clear m1l
       refine tc 8 ⟨some 60,_,_,_,_,_⟩ rfl (fun K hK => ?_)
       refine kt.step_append_run rfl _ _ 23 23 rfl _ _ (by simp [Act.eval, Act.put]) (by simp [Act.eval, Act.put]) _ _ HRUN.out ?_
       refine hK.out _ _ (HS.out _ HG7.out) (fun hHeld => ?_)
       clear hK
       try simp only [Act.put, List.setIfInBounds_toArray, List.set_cons_zero, List.set_cons_succ]
       refine tk 9 ⟨some 61,_,_,_,_,_⟩ rfl ?_
       refine tc 10 ⟨none,_,_,_,_,_⟩ rfl (fun K hK => ?_)
       go_simp
       refine hK.out _ _ (HS.out _ HGS.out) (fun hHeld => ?_)
       clear hK
       try simp only [Act.put, List.setIfInBounds_toArray, List.set_cons_zero, List.set_cons_succ]
       refine wpAnyH_done (by kernel_rfl) ?_ _
       clear hwcS hfz hu7 HRUN m1c HG5 HG7 HBW HX HGL HM1L hHeld
       go_wp2_with fail
       go_roundw
       case rel => exact ⟨i + 1, false, _, dlS, by omega, rfl, by go_num, HGS, HPS, HOS, (by show _ ≤ _; have := HLNS.out; omega), (by show _ = _; rw [HF.out, HST.out, HPU.out, HQ.out, HMPS.out]; simp [List.append_assoc])⟩
       case measure => simp [intOf]; omega
    ·have qc : decide (cm ≤ 0) = true := decide_eq_true hcm
     have HPU : Hid ((if (!false && !ltB a.t n) = true then [(⟨n, l⟩ : At)] else []) = [⟨n, l⟩]) := by show _ = _; rw [hlb]; rfl
     have HOR2 : Hid ((false || (!false && !ltB a.t n)) = true) := by show _ = _; rw [hlb]; rfl
     rw [HOR2.out] at HST
     clear HOR2 hlb
     by_cases hq : a.t = n
     ·have q := str_eq_beq hq
      have q' : (a.t.toList != n.toList) = false := by rw [bne, q]; rfl
      have HQ : Hid ((if a.t = n then [] else [a]) = ([] : List At)) := by show _ = _; rw [if_pos hq]
      clear hq
      go_wp2_with fail
      refine (HLS.out _).mono ?_
      rintro e w6 ⟨rfl, hB6⟩
      have HGB := Lib.hid (grown_below HGA.out hB6)
      have HPB := Lib.hid (entB_below HPA.out hB6)
      have HOB := Lib.hid (ownA_below HOA.out hB6)
      have HLNB := HLNA
      obtain ⟨zB, QB0, QB1⟩ := HS.out w6 HGB.out
      clear hB6 zA QA0 QA1
      have HX := HXL
      have HBW : Hid (Below w6.heap.size w6 w6) := Below.refl _ _
      have HO5 := Lib.hid (ownA_below HOB.out HBW.out)
      have HP5 := Lib.hid (entB_below HPB.out HBW.out)
      have HG5 := Lib.hid (grown_below HGB.out HBW.out)
      have hx5 : ElemAt (w6) (.slice bo K bcap) l := elem_below HX.out (HBw.out _ HG5.out)
      obtain ⟨ao7, m7, cap7, w7, hap, hfz, ⟨u7, hu7⟩, hP8, hO8, hB7, hkp, hsn⟩ := appA n (.slice bo K bcap) l dlA HO5.out HP5.out (noS_slice _ _ _) hx5 (fun hv k hk e => by have h1 := elem_lt HX.out hv k hk; have h2 := (kt.segX_lt HOB.out.outer k e).1; have h3 := HBZ.out; omega) (by have := HLNB.out; omega) HG5.out.size
      have HG7 := Lib.hid (grown_app HG5.out hB7)
      have hG8 := grown_step HGB.out HBW.out hB7 1 (.slice ao7 m7 cap7)
      have HRUN := Lib.hid hap
      clear hap hsn hkp hx5 HO5 HP5
      obtain ⟨wcP, hwcP⟩ : ∃ W, w7.setCell ⟨p, 1, none⟩ (.slice ao7 m7 cap7) = W := ⟨_, rfl⟩
      rw [hwcP] at hP8 hO8 hG8
      have HPP := Lib.hid hP8
      have HGP := Lib.hid hG8
      obtain ⟨dlP, hdlP⟩ : ∃ D, dlA ++ [((⟨n, l⟩ : At), .slice bo K bcap)] = D := ⟨_, rfl⟩
      rw [hdlP] at hO8
      have HOP := Lib.hid hO8
      have HLNP : Hid (dlP.length ≤ 2 * i + 1) := by show _ ≤ _; rw [← hdlP, List.length_append]; have := HLNB.out; simp only [List.length_cons, List.length_nil]; omega
      have HMPP : Hid (dlP.map Prod.fst = dlA.map Prod.fst ++ [(⟨n, l⟩ : At)]) := by show _ = _; rw [← hdlP, List.map_append]; rfl
      clear hP8 hO8 hG8 hdlP hB7
      have m1c := (entB_cells HPB.out).2
      obtain ⟨zS, QS0, QS1⟩ := HS.out wcP HGP.out
      go_wp2_with (at_builtin; refine Lib.wpList_append_run _ rfl _ _ _ _ rfl _ _ rfl rfl _ _ HRUN.out ?_)
      clear hwcP hfz hu7 HRUN m1c HG5 HG7 HBW HX zS QS0 QS1
      obtain ⟨aoP, mP, capP, HPP2, HOP2⟩ : ∃ aoP mP capP, Hid (EntB wcP p (.slice ro Nr rc) (.slice aoP mP capP)) ∧ Hid (OwnA wcP w4.heap.size (.slice aoP mP capP) dlP) := ⟨ao7, m7, cap7, HPP, HOP⟩
      clear HPP HOP
      have HPP := HPP2
      have HOP := HOP2
      clear HPP2 HOP2
      go_roundw
      case rel => exact ⟨i + 1, true, _, dlP, by omega, rfl, by go_num, HGP, HPP, HOP, (by show _ ≤ _; have := HLNP.out; omega), (by show _ = _; rw [HF.out, HST.out, HPU.out, HQ.out, HMPP.out]; simp [List.append_assoc])⟩
      case measure => simp [intOf]; omega
     ·have q := ne_str hq
      have q' : (a.t.toList != n.toList) = true := by rw [bne, q]; rfl
      have HQ : Hid ((if a.t = n then [] else [a]) = [a]) := by show _ = _; rw [if_neg hq]
      clear hq
      go_wp2_with fail
      refine (HLS.out _).mono ?_
      rintro e w6 ⟨rfl, hB6⟩
      have HGB := Lib.hid (grown_below HGA.out hB6)
      have HPB := Lib.hid (entB_below HPA.out hB6)
      have HOB := Lib.hid (ownA_below HOA.out hB6)
      have HLNB := HLNA
      obtain ⟨zB, QB0, QB1⟩ := HS.out w6 HGB.out
      clear hB6 zA QA0 QA1
      have HX := HXL
      have HBW : Hid (Below w6.heap.size w6 w6) := Below.refl _ _
      have HO5 := Lib.hid (ownA_below HOB.out HBW.out)
      have HP5 := Lib.hid (entB_below HPB.out HBW.out)
      have HG5 := Lib.hid (grown_below HGB.out HBW.out)
      have hx5 : ElemAt (w6) (.slice bo K bcap) l := elem_below HX.out (HBw.out _ HG5.out)
      obtain ⟨ao7, m7, cap7, w7, hap, hfz, ⟨u7, hu7⟩, hP8, hO8, hB7, hkp, hsn⟩ := appA n (.slice bo K bcap) l dlA HO5.out HP5.out (noS_slice _ _ _) hx5 (fun hv k hk e => by have h1 := elem_lt HX.out hv k hk; have h2 := (kt.segX_lt HOB.out.outer k e).1; have h3 := HBZ.out; omega) (by have := HLNB.out; omega) HG5.out.size
      have HG7 := Lib.hid (grown_app HG5.out hB7)
      have hG8 := grown_step HGB.out HBW.out hB7 1 (.slice ao7 m7 cap7)
      have HRUN := Lib.hid hap
      clear hap hsn hkp hx5 HO5 HP5
      obtain ⟨wcP, hwcP⟩ : ∃ W, w7.setCell ⟨p, 1, none⟩ (.slice ao7 m7 cap7) = W := ⟨_, rfl⟩
      rw [hwcP] at hP8 hO8 hG8
      have HPP := Lib.hid hP8
      have HGP := Lib.hid hG8
      obtain ⟨dlP, hdlP⟩ : ∃ D, dlA ++ [((⟨n, l⟩ : At), .slice bo K bcap)] = D := ⟨_, rfl⟩
      rw [hdlP] at hO8
      have HOP := Lib.hid hO8
      have HLNP : Hid (dlP.length ≤ 2 * i + 1) := by show _ ≤ _; rw [← hdlP, List.length_append]; have := HLNB.out; simp only [List.length_cons, List.length_nil]; omega
      have HMPP : Hid (dlP.map Prod.fst = dlA.map Prod.fst ++ [(⟨n, l⟩ : At)]) := by show _ = _; rw [← hdlP, List.map_append]; rfl
      clear hP8 hO8 hG8 hdlP hB7
      have m1c := (entB_cells HPB.out).2
      obtain ⟨zS, QS0, QS1⟩ := HS.out wcP HGP.out
      go_wp2_with (at_builtin; refine Lib.wpList_append_run _ rfl _ _ _ _ rfl _ _ rfl rfl _ _ HRUN.out ?_)
      clear hwcP hfz hu7 HRUN m1c HG5 HG7 HBW HX zS QS0 QS1
      obtain ⟨aoP, mP, capP, HPP2, HOP2⟩ : ∃ aoP mP capP, Hid (EntB wcP p (.slice ro Nr rc) (.slice aoP mP capP)) ∧ Hid (OwnA wcP w4.heap.size (.slice aoP mP capP) dlP) := ⟨ao7, m7, cap7, HPP, HOP⟩
      clear HPP HOP
      have HPP := HPP2
      have HOP := HOP2
      clear HPP2 HOP2
      refine wp_region_held_drew (S := fun W => W.cell? ⟨w.heap.size, 1, none⟩ = some (.slice (some ⟨b, o, none⟩) N ac) ∧ W.cell? ⟨b, o + i * 2, none⟩ = some (.string a.t) ∧ W.cell? ⟨b, o + i * 2 + 1, none⟩ = some (.slice ax M cx)) (by kernel_rfl) (HS.out _ (grown_below HGP.out ((Below.refl _ wcP).drew))) (fun hHeld => ?_)
      refine tk 0 ⟨some 52,_,_,_,_,_⟩ rfl ?_
      refine tk 2 ⟨some 54,_,_,_,_,_⟩ rfl ?_
      refine tk 3 ⟨some 55,_,_,_,_,_⟩ rfl ?_
      refine tk 4 ⟨some 56,_,_,_,_,_⟩ rfl ?_
      refine tk 5 ⟨some 57,_,_,_,_,_⟩ rfl ?_
      refine tk 6 ⟨some 58,_,_,_,_,_⟩ rfl ?_
      have HX := HXA
      have HBW : Hid (Below wcP.heap.size wcP wcP.drew) := (Below.refl _ _).drew
      have HO5 := Lib.hid (ownA_below HOP.out HBW.out)
      have HP5 := Lib.hid (entB_below HPP.out HBW.out)
      have HG5 := Lib.hid (grown_below HGP.out HBW.out)
      have hx5 : ElemAt (wcP.drew) (.slice ax M cx) a.vs := elem_below HX.out (HBw.out _ HG5.out)
      obtain ⟨ao7, m7, cap7, w7, hap, hfz, ⟨u7, hu7⟩, hP8, hO8, hB7, hkp, hsn⟩ := appA a.t (.slice ax M cx) a.vs dlP HO5.out HP5.out (noS_slice _ _ _) hx5 (fun hv k hk e => by have h1 := elem_lt HX.out hv k hk; have h2 := (kt.segX_lt HOP.out.outer k e).1; have h3 := HBZ.out; omega) (by have := HLNP.out; omega) HG5.out.size
      have HG7 := Lib.hid (grown_app HG5.out hB7)
      have hG8 := grown_step HGP.out HBW.out hB7 1 (.slice ao7 m7 cap7)
      have HRUN := Lib.hid hap
      clear hap hsn hkp hx5 HO5 HP5
      obtain ⟨wcS, hwcS⟩ : ∃ W, w7.setCell ⟨p, 1, none⟩ (.slice ao7 m7 cap7) = W := ⟨_, rfl⟩
      rw [hwcS] at hP8 hO8 hG8
      have HPS := Lib.hid hP8
      have HGS := Lib.hid hG8
      obtain ⟨dlS, hdlS⟩ : ∃ D, dlP ++ [((⟨a.t, a.vs⟩ : At), .slice ax M cx)] = D := ⟨_, rfl⟩
      rw [hdlS] at hO8
      have HOS := Lib.hid hO8
      have HLNS : Hid (dlS.length ≤ 2 * i + 2) := by show _ ≤ _; rw [← hdlS, List.length_append]; have := HLNP.out; simp only [List.length_cons, List.length_nil]; omega
      have HMPS : Hid (dlS.map Prod.fst = dlP.map Prod.fst ++ [(⟨a.t, a.vs⟩ : At)]) := by show _ = _; rw [← hdlS, List.map_append]; rfl
      clear hP8 hO8 hG8 hdlS hB7
      have m1c : (wcP.drew).cell? ⟨p, 1, none⟩ = some (.slice aoP mP capP) := (entB_cells HPP.out).2
      have hAL : Below wcP.drew.heap.size wcP.drew (wcP.drew.alloc (.cells #[.string a.t, .slice ax M cx] 57)) := (Below.refl _ _).alloc (Nat.le_refl _) _
      have HGL := Lib.hid (grown_below HG5.out hAL)
      have m1l : (wcP.drew.alloc (.cells #[.string a.t, .slice ax M cx] 57)).cell? ⟨p, 1, none⟩ = some (.slice aoP mP capP) := (entB_cells (entB_below (entB_below HPP.out HBW.out) hAL)).2
      have HM1L := Lib.hid m1l
      clear m1l hAL
      refine wpAnyH_ready (rs := [1, 7]) (by kernel_rfl) (by simp) ?_
      refine AllReadyH.cons (o := ⟨some 53, _, _, _, _, _⟩) rfl (fun K hK => ?_) (AllReadyH.cons (o := ⟨some 59, _, _, _, _, _⟩) rfl (fun K hK => ?_) AllReadyH.nil)
      ·go_simp
       refine hK.out _ _ (hHeld) (fun hHeld => ?_)
       clear hK
       try simp only [Act.put, List.setIfInBounds_toArray, List.set_cons_zero, List.set_cons_succ]
       refine tc 7 ⟨some 59,_,_,_,_,_⟩ rfl (fun K hK => ?_)
       go_simp
       refine hK.out _ _ (HS.out _ HGL.out) (fun hHeld => ?_)
       clear hK
       try simp only [Act.put, List.setIfInBounds_toArray, List.set_cons_zero, List.set_cons_succ]
       refine tc 8 ⟨some 60,_,_,_,_,_⟩ rfl (fun K hK => ?_)
       refine kt.step_append_run rfl _ _ 23 23 rfl _ _ (by simp [Act.eval, Act.put]) (by simp [Act.eval, Act.put]) _ _ HRUN.out ?_
       refine hK.out _ _ (HS.out _ HG7.out) (fun hHeld => ?_)
       clear hK
       try simp only [Act.put, List.setIfInBounds_toArray, List.set_cons_zero, List.set_cons_succ]
       refine tk 9 ⟨some 61,_,_,_,_,_⟩ rfl ?_
       refine tc 10 ⟨none,_,_,_,_,_⟩ rfl (fun K hK => ?_)
       go_simp
       refine hK.out _ _ (HS.out _ HGS.out) (fun hHeld => ?_)
       clear hK
       try simp only [Act.put, List.setIfInBounds_toArray, List.set_cons_zero, List.set_cons_succ]
       refine wpAnyH_done (by kernel_rfl) ?_ _
       clear hwcS hfz hu7 HRUN m1c HG5 HG7 HBW HX HGL HM1L hHeld
       go_wp2_with fail
       go_roundw
       case rel => exact ⟨i + 1, true, _, dlS, by omega, rfl, by go_num, HGS, HPS, HOS, (by show _ ≤ _; have := HLNS.out; omega), (by show _ = _; rw [HF.out, HST.out, HPU.out, HQ.out, HMPS.out, HMPP.out]; simp [List.append_assoc])⟩
       case measure => simp [intOf]; omega
      ·go_simp
       refine hK.out _ _ (HS.out _ HGL.out) (fun hHeld => ?_)
       clear hK
       try simp only [Act.put, List.setIfInBounds_toArray, List.set_cons_zero, List.set_cons_succ]
       have m1l : (wcP.alloc (.cells #[.string a.t, .slice ax M cx] 57)).cell? ⟨p, 1, none⟩ = some (.slice aoP mP capP) := HM1L.out
       refine tc 1 ⟨some 53,_,_,_,_,_⟩ rfl (fun K hK => ?_)
       go_simp
       refine hK.out _ _ (hHeld) (fun hHeld => ?_)
       clear hK
       try simp only [Act.put, List.setIfInBounds_toArray, List.set_cons_zero, List.set_cons_succ]
       clear m1l
       refine tc 8 ⟨some 60,_,_,_,_,_⟩ rfl (fun K hK => ?_)
       refine kt.step_append_run rfl _ _ 23 23 rfl _ _ (by simp [Act.eval, Act.put]) (by simp [Act.eval, Act.put]) _ _ HRUN.out ?_
       refine hK.out _ _ (HS.out _ HG7.out) (fun hHeld => ?_)
       clear hK
       try simp only [Act.put, List.setIfInBounds_toArray, List.set_cons_zero, List.set_cons_succ]
       refine tk 9 ⟨some 61,_,_,_,_,_⟩ rfl ?_
       refine tc 10 ⟨none,_,_,_,_,_⟩ rfl (fun K hK => ?_)
       go_simp
       refine hK.out _ _ (HS.out _ HGS.out) (fun hHeld => ?_)
       clear hK
       try simp only [Act.put, List.setIfInBounds_toArray, List.set_cons_zero, List.set_cons_succ]
       refine wpAnyH_done (by kernel_rfl) ?_ _
       clear hwcS hfz hu7 HRUN m1c HG5 HG7 HBW HX HGL HM1L hHeld
       go_wp2_with fail
       go_roundw
       case rel => exact ⟨i + 1, true, _, dlS, by omega, rfl, by go_num, HGS, HPS, HOS, (by show _ ≤ _; have := HLNS.out; omega), (by show _ = _; rw [HF.out, HST.out, HPU.out, HQ.out, HMPS.out, HMPP.out]; simp [List.append_assoc])⟩
       case measure => simp [intOf]; omega
  ·obtain rfl : N = i := by omega
   have HE : Hid (L.drop N = []) := by show _ = _; rw [← HN.out, List.drop_length]
   rw [HE.out] at HF
   clear HE HZE
   cases d with
   | true =>
    have HF2 : Hid (dlA.map Prod.fst = withF n l (decide (l = [])) L) := by show _ = _; rw [HD0.out, HF.out]; simp [withF]
    clear HF
    have HFIN : Hid (nR = dlA.length ∧ nR ≤ capR) := by obtain ⟨ao1, cap1, h2, h3⟩ := kt.segX_slice HOA.out.outer; simp only [Value.slice.injEq] at h2; obtain ⟨_, e2, e3⟩ := h2; show _ ∧ _; omega
    have y01 := entB_cells HPA.out
    obtain ⟨y0, y1⟩ := y01
    have hQF : EntB wr q (.slice none 0 0) (.slice none 0 0) := (HGA.out.block _ (kt.bld_lt HQ4.out) (by intro e; cases e; omega)).trans HQ4.out
    obtain ⟨v0, v1⟩ := entB_cells hQF
    have f0 := Lib.frozen_of_heap hQF 0
    have f1 := Lib.frozen_of_heap hQF 1
    have hq1 := entB_set0 hQF (.slice ro Nr rc)
    have hq2 := entB_set1 hq1 (.slice aoR nR capR)
    have hoF := ownA_set (ownA_set HOA.out hQF (noS_slice _ _ _) (noS_slice _ _ _) 0 (.slice ro Nr rc)) hq1 (noS_slice _ _ _) (noS_slice _ _ _) 1 (.slice aoR nR capR)
    have hBF := ((HBw.out wr HGA.out).setCell (p := ⟨q, 0, none⟩) (Nat.le_of_lt hqw) (.slice ro Nr rc)).setCell (p := ⟨q, 1, none⟩) (Nat.le_of_lt hqw) (.slice aoR nR capR)
    have HQC := Lib.hid hq2
    have HOF := Lib.hid hoF
    have HVF := Lib.hid (dnw.avas_below HAv.out hBF)
    have HBF := Lib.hid hBF
    clear hq1 hq2 hoF hBF hQF
    go_wp2_with fail
    refine bodyPost_ret (v := .agg #[.slice ro Nr rc, .slice aoR nR capR]) (results_cell_row rfl _ _ q 25 _ (0, 0) _ rfl HQC.out Tryz.underlying25 rfl (by kernel_rfl)) rfl ?_
    refine HRES.out _ _ (dlA.map Prod.fst) HF2.out ⟨ro, rc, aoR, capR, ?_, ?_, ?_, HVF.out, ownA_ats HOF.out⟩ HBF.out
    ·rw [HNr.out, List.length_map, ← HFIN.out.1]
    ·rw [HNr.out]; exact hrc
    ·rw [List.length_map, ← HFIN.out.1]; exact HFIN.out.2
   | false =>
    have HX := HXL
    have HBW : Hid (Below wr.heap.size wr wr) := Below.refl _ _
    have HO5 := Lib.hid (ownA_below HOA.out HBW.out)
    have HP5 := Lib.hid (entB_below HPA.out HBW.out)
    have HG5 := Lib.hid (grown_below HGA.out HBW.out)
    have hx5 : ElemAt (wr) (.slice bo K bcap) l := elem_below HX.out (HBw.out _ HG5.out)
    obtain ⟨ao7, m7, cap7, w7, hap, hfz, ⟨u7, hu7⟩, hP8, hO8, hB7, hkp, hsn⟩ := appA n (.slice bo K bcap) l dlA HO5.out HP5.out (noS_slice _ _ _) hx5 (fun hv k hk e => by have h1 := elem_lt HX.out hv k hk; have h2 := (kt.segX_lt HOA.out.outer k e).1; have h3 := HBZ.out; omega) (by have := HLNA.out; omega) HG5.out.size
    have HG7 := Lib.hid (grown_app HG5.out hB7)
    have hG8 := grown_step HGA.out HBW.out hB7 1 (.slice ao7 m7 cap7)
    have HRUN := Lib.hid hap
    clear hap hsn hkp hx5 HO5 HP5
    obtain ⟨wcE, hwcE⟩ : ∃ W, w7.setCell ⟨p, 1, none⟩ (.slice ao7 m7 cap7) = W := ⟨_, rfl⟩
    rw [hwcE] at hP8 hO8 hG8
    have HPE := Lib.hid hP8
    have HGE := Lib.hid hG8
    obtain ⟨dlE, hdlE⟩ : ∃ D, dlA ++ [((⟨n, l⟩ : At), .slice bo K bcap)] = D := ⟨_, rfl⟩
    rw [hdlE] at hO8
    have HOE := Lib.hid hO8
    have HLNE : Hid (dlE.length ≤ 2 * N + 1) := by show _ ≤ _; rw [← hdlE, List.length_append]; have := HLNA.out; simp only [List.length_cons, List.length_nil]; omega
    have HMPE : Hid (dlE.map Prod.fst = dlA.map Prod.fst ++ [(⟨n, l⟩ : At)]) := by show _ = _; rw [← hdlE, List.map_append]; rfl
    clear hP8 hO8 hG8 hdlE hB7
    have m1c := (entB_cells HPA.out).2
    have HF2 : Hid (dlE.map Prod.fst = withF n l (decide (l = [])) L) := by show _ = _; rw [HD0.out, HF.out, HMPE.out]; simp [withF]
    clear HF
    have HFIN : Hid (m7 = dlE.length ∧ m7 ≤ cap7) := by obtain ⟨ao1, cap1, h2, h3⟩ := kt.segX_slice HOE.out.outer; simp only [Value.slice.injEq] at h2; obtain ⟨_, e2, e3⟩ := h2; show _ ∧ _; omega
    have y01 := entB_cells HPE.out
    obtain ⟨y0, y1⟩ := y01
    have hQF : EntB wcE q (.slice none 0 0) (.slice none 0 0) := (HGE.out.block _ (kt.bld_lt HQ4.out) (by intro e; cases e; omega)).trans HQ4.out
    obtain ⟨v0, v1⟩ := entB_cells hQF
    have f0 := Lib.frozen_of_heap hQF 0
    have f1 := Lib.frozen_of_heap hQF 1
    have hq1 := entB_set0 hQF (.slice ro Nr rc)
    have hq2 := entB_set1 hq1 (.slice ao7 m7 cap7)
    have hoF := ownA_set (ownA_set HOE.out hQF (noS_slice _ _ _) (noS_slice _ _ _) 0 (.slice ro Nr rc)) hq1 (noS_slice _ _ _) (noS_slice _ _ _) 1 (.slice ao7 m7 cap7)
    have hBF := ((HBw.out wcE HGE.out).setCell (p := ⟨q, 0, none⟩) (Nat.le_of_lt hqw) (.slice ro Nr rc)).setCell (p := ⟨q, 1, none⟩) (Nat.le_of_lt hqw) (.slice ao7 m7 cap7)
    have HQC := Lib.hid hq2
    have HOF := Lib.hid hoF
    have HVF := Lib.hid (dnw.avas_below HAv.out hBF)
    have HBF := Lib.hid hBF
    clear hq1 hq2 hoF hBF hQF
    go_wp2_with (at_builtin; refine Lib.wpList_append_run _ rfl _ _ _ _ rfl _ _ rfl rfl _ _ HRUN.out ?_)
    refine bodyPost_ret (v := .agg #[.slice ro Nr rc, .slice ao7 m7 cap7]) (results_cell_row rfl _ _ q 25 _ (0, 0) _ rfl HQC.out Tryz.underlying25 rfl (by kernel_rfl)) rfl ?_
    refine HRES.out _ _ (dlE.map Prod.fst) HF2.out ⟨ro, rc, ao7, cap7, ?_, ?_, ?_, HVF.out, ownA_ats HOF.out⟩ HBF.out
    ·rw [HNr.out, List.length_map, ← HFIN.out.1]
    ·rw [HNr.out]; exact hrc
    ·rw [List.length_map, ← HFIN.out.1]; exact HFIN.out.2
end etw
end Go.Proofs.YtcolcogobdgejaaGreatDoor
