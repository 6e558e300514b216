/- One text out of several: PairW, SignsW, RParseW, RNormW, HoldW, CmpT, CmpB, OrdQ, EntP. -/
import Derived.Test.YtcolcogobdgejaaGreatDoorC6
import Derived.Test.YtcolcogobdgejaaGreatDoorC5
import Derived.WalkKit
import Derived.Lib.Walk
/-! PairW -/
namespace Go.Proofs.YtcolcogobdgejaaGreatDoor
open Go.RowKit
namespace dnw
open dnp
set_option linter.unusedVariables false
set_option linter.unusedSimpArgs false
def PairE (L : List Sg) (w : World) (e : Ending) (w' : World) : Prop :=
 Below w.heap.size w w' ∧ match pairS L with
  | none => ∃ t v : ByteArray, e = .returned (.tuple #[.agg #[.string t, .string v], .bool false])
  | some p => e = .returned (.tuple #[.agg #[.string ⟨p.1.toArray⟩, .string ⟨p.2.toArray⟩], .bool true])
theorem pairE_none {L : List Sg} {w w' : World} {t v : ByteArray} (h : pairS L = none) (hb : Below w.heap.size w w') : PairE L w (.returned (.tuple #[.agg #[.string t, .string v], .bool false])) w' := by
 refine ⟨hb, ?_⟩
 rw [h]
 exact ⟨t, v, rfl⟩
theorem pairS_no {L : List Sg} (h : ∀ x ∈ L, eqS x = false) : pairS L = none := by
 cases hp : pairS L with
 | none => rfl
 | some p =>
  obtain ⟨A, V, h1, _⟩ := pairS_some hp
  exact absurd (h (61, true) (by rw [h1]; simp)) (by decide)
theorem split_at {L : List Sg} {i : Nat} (hi : i < L.length) (h : eqS L[i] = true) : L = L.take i ++ (61, true) :: L.drop (i + 1) := by
 have e : L[i] = (61, true) := by
  rcases hx : L[i] with ⟨c, b⟩
  rw [hx] at h
  unfold eqS at h
  simp only [Bool.and_eq_true, decide_eq_true_eq] at h
  obtain ⟨rfl, rfl⟩ := h
  rfl
 rw [← e]
 simp
def partV (A V : List Sg) : Option Pr := if (A.all (·.2)) = true ∧ typeOK (lowL (A.map (·.1))) = true ∧ rightOK V = true then some (lowL (A.map (·.1)), V.map (·.1)) else none
theorem partV_bare {A V : List Sg} {x : Sg} (h : x ∈ A) (hx : x.2 = false) : partV A V = none := by
 unfold partV
 rw [if_neg]
 rintro ⟨h1, _⟩
 have := List.all_eq_true.1 h1 x h
 rw [hx] at this; cases this
def badAt (i : Nat) (x : Sg) : Bool := x.2 && (bad x.1 || decide (x.1 = 35) && decide (i = 0))
theorem partV_bad {A V : List Sg} {i : Nat} (hi : i < V.length) (h : badAt i V[i] = true) : partV A V = none := by
 unfold partV
 rw [if_neg]
 rintro ⟨_, _, h1⟩
 unfold badAt at h
 simp only [Bool.and_eq_true, Bool.or_eq_true, decide_eq_true_eq] at h
 obtain ⟨hb, h2 | ⟨h2, rfl⟩⟩ := h
 ·rw [rightOK_bad (List.getElem_mem hi) (by unfold badS; rw [hb, h2]; rfl)] at h1; cases h1
 ·unfold rightOK at h1
  cases V with
  | nil => simp at hi
  | cons x t =>
   simp only [List.getElem_cons_zero] at hb h2
   simp [hb, h2] at h1
theorem rightOK_of {V : List Sg} (h : ∀ i (hi : i < V.length), badAt i V[i] = false) : rightOK V = true := by
 unfold rightOK
 have h1 : (V.any fun x => x.2 && bad x.1) = false := by
  rw [Bool.eq_false_iff]
  intro hh
  obtain ⟨x, hx, hx2⟩ := List.any_eq_true.1 hh
  obtain ⟨i, hi, rfl⟩ := List.mem_iff_getElem.1 hx
  have := h i hi
  unfold badAt at this
  simp only [Bool.and_eq_true] at hx2
  rw [hx2.1, hx2.2] at this; cases this
 rw [h1]
 cases V with
 | nil => rfl
 | cons x t =>
  have := h 0 (by simp)
  unfold badAt at this
  simp only [List.getElem_cons_zero, decide_true, Bool.and_true] at this
  simp only [Bool.not_false, Bool.true_and]
  cases hx : (x.2 && decide (x.1 = 35)) with
  | false => rfl
  | true =>
   simp only [Bool.and_eq_true] at hx
   rw [hx.1, hx.2] at this
   simp at this
theorem partV_end {A V : List Sg} (h1 : ∀ x ∈ A, x.2 = true) (h2 : ∀ i (hi : i < V.length), badAt i V[i] = false) : partV A V = if typeOK (lowL (A.map (·.1))) = true then some (lowL (A.map (·.1)), V.map (·.1)) else none := by
 unfold partV
 rw [rightOK_of h2, List.all_eq_true.2 (fun x hx => h1 x hx)]
 simp
theorem pc_cells {w : World} {p : Nat} (h : ∃ x y : ByteArray, w.heap[p]? = some (.cells #[.string x, .string y] 62 (0, 0))) : (∃ x, w.cell? ⟨p, 0, none⟩ = some (.string x)) ∧ (∃ y, w.cell? ⟨p, 1, none⟩ = some (.string y)) ∧ w.frozen? ⟨p, 0, none⟩ = false ∧ w.frozen? ⟨p, 1, none⟩ = false := by
 obtain ⟨x, y, h⟩ := h
 exact ⟨⟨x, by rw [Lib.cell_of_heap h]; rfl⟩, ⟨y, by rw [Lib.cell_of_heap h]; rfl⟩, Lib.frozen_of_heap h 0, Lib.frozen_of_heap h 1⟩
def PC (w : World) (p : Nat) : Prop := ∃ x y : ByteArray, w.heap[p]? = some (.cells #[.string x, .string y] 62 (0, 0))
theorem pc_below {w w' : World} {p : Nat} (h : PC w p) (hb : Below (p + 1) w w') : PC w' p := by
 obtain ⟨x, y, h⟩ := h
 exact ⟨x, y, (hb.block p (by omega)).trans h⟩
theorem pc_below2 {wr wq : World} {p : Nat} (h : PC wr p) (hb : Below wr.heap.size wr wq) : PC wq p := by
 obtain ⟨x, y, h⟩ := h
 exact ⟨x, y, (hb.block p (bld.lt_of_heap h)).trans h⟩
theorem pc_store {w : World} {p : Nat} (h : PC w p) (a b : ByteArray) : ((w.setCell ⟨p, 0, none⟩ (.string a)).setCell ⟨p, 1, none⟩ (.string b)).cell? ⟨p, 0, none⟩ = some (.string a) ∧ ((w.setCell ⟨p, 0, none⟩ (.string a)).setCell ⟨p, 1, none⟩ (.string b)).cell? ⟨p, 1, none⟩ = some (.string b) := by
 obtain ⟨⟨x, h0⟩, ⟨y, h1⟩, _, _⟩ := pc_cells h
 have k0 := World.cell?_setCell_same w ⟨p, 0, none⟩ (.string a) h0
 have k1 : (w.setCell ⟨p, 0, none⟩ (.string a)).cell? ⟨p, 1, none⟩ = some (.string y) := by rw [World.cell?_setCell_other _ _ _ _ (by intro hh; injection hh with _ h _; cases h), h1]
 refine ⟨?_, World.cell?_setCell_same _ _ _ k1⟩
 rw [World.cell?_setCell_other _ _ _ _ (by intro hh; injection hh with _ h _; cases h), k0]
theorem take_next (A : List Sg) (k : Nat) (h : k < A.length) : A.take (k + 1) = A.take k ++ [A[k]] := List.take_succ_eq_append_getElem h
theorem low_nat (c : UInt8) : ((low c).toNat : Int) = if 65 ≤ (c.toNat : Int) ∧ (c.toNat : Int) ≤ 90 then (c.toNat : Int) + 32 else (c.toNat : Int) := by
 have all : ∀ m : Fin 256, ((low (UInt8.ofNat m.val)).toNat : Int) = if 65 ≤ (m.val : Int) ∧ (m.val : Int) ≤ 90 then (m.val : Int) + 32 else (m.val : Int) := by decide +kernel
 have h := all ⟨c.toNat, c.toNat_lt⟩
 simp only [UInt8.ofNat_toNat] at h
 exact h
set_option maxRecDepth 20000 in
set_option maxHeartbeats 4000000 in
theorem pair_any (ao : Option Addr) (cap : Nat) (L : List Sg) (w : World) (hA : Hid (Sgs w ao L)) (hc : L.length ≤ cap) (hl : L.length ≤ 100000) :
  Calls Tryz.prog 157 #[.slice ao L.length cap] w fun e w' => PairE L w e w' := by
 obtain ⟨m, hm⟩ : ∃ m, m = L.length := ⟨_, rfl⟩
 have HM := Lib.hid hm
 rw [← hm] at hc hl ⊢
 clear hm
 go_enter Tryz.func157, Tryz.ntmps157
 go_wp2_with fail
 go_loopw [4] (fun iv wr => ∃ i : Nat, i ≤ m ∧ iv = .int .i64 (i : Int) ∧ Hid (∀ j (h : j < L.length), j < i → eqS L[j] = false) ∧ Below w.heap.size w wr ∧ Hid (PC wr w.heap.size)) (fun iv _ => m - (intOf iv).toNat)
 case atStart => exact ⟨0, Nat.zero_le _, rfl, fun j _ h => by omega, (Below.refl _ _).alloc (Nat.le_refl _) _, ⟨_, _, heap_alloc_new w _⟩⟩
 case round =>
  obtain ⟨i, hi, rfl, hP, hB, hC⟩ := hrel
  have hsz := hB.size
  obtain ⟨wo, rfl⟩ : ∃ x, x = wr := ⟨_, rfl⟩
  have HPLT : Hid (w.heap.size < wo.heap.size) := by obtain ⟨x, y, h⟩ := hC.out; exact bld.lt_of_heap h
  by_cases hlt : i < m
  ·have hlt' : (i : Int) < (m : Int) := by omega
   have hil : i < L.length := by rw [← HM.out]; exact hlt
   obtain ⟨b, o, hao, hc0, hc1⟩ := hA.out i hil
   subst hao
   have hcc0 := (hB.cell (World.block_lt_of_cell? w _ hc0)).trans hc0
   have hcc1 := (hB.cell (World.block_lt_of_cell? w _ hc1)).trans hc1
   have HNX : Hid (eqS L[i] = false → ∀ j (h : j < L.length), j < i + 1 → eqS L[j] = false) := by
    intro h j hj hji
    by_cases e : j = i
    ·subst e; exact h
    ·exact hP.out j hj (by omega)
   have HSP : Hid (eqS L[i] = true → L = L.take i ++ (61, true) :: L.drop (i + 1)) := fun h => split_at hil h
   generalize L[i] = x at hcc0 hcc1 HNX HSP
   obtain ⟨c, bare⟩ := x
   simp only at hcc0 hcc1
   clear hc0 hc1
   have hcn := c.toNat_lt
   cases bare with
   | false =>
    have HN := Lib.hid (HNX.out rfl)
    clear HNX HSP
    go_wp2_with fail
    go_roundw
    case rel => exact ⟨i + 1, by omega, by go_num, HN, hB, hC⟩
    case measure => simp [intOf]; omega
   | true =>
    by_cases h61 : (c.toNat : Int) = 61
    ·have q : ((c.toNat : Int) == 61) = true := by rw [beq_iff_eq]; exact h61
     have hc61 := u8_eq (n := 61) (by omega) h61
     subst hc61
     have HS := Lib.hid (HSP.out rfl)
     have q2 : ((i : Int) == (m : Int)) = false := by rw [beq_eq_false_iff_ne]; omega
     have HPV : Hid (pairS L = partV (trim (L.take i)) (trim (L.drop (i + 1)))) := by
      have h := HS.out
      show pairS L = _
      rw [h, pairS_at _ _ (fun x hx => by
       obtain ⟨j, hj, rfl⟩ := List.mem_iff_getElem.1 hx
       rw [List.length_take] at hj
       rw [List.getElem_take]
       exact hP.out j (by omega) (by omega))]
      rw [← h]
      rfl
     clear HNX HSP HS h61
     have hl1 : (L.take i).length = i := by rw [List.length_take]; omega
     have hl2 : (L.drop (i + 1)).length = m - (i + 1) := by rw [List.length_drop, HM.out]
     have CT1 := trim_any (some ⟨b, o, none⟩) cap (L.take i) wo (Lib.hid (sgs_take (sgs_below hA.out hB) i)) (by omega) (by omega)
     rw [hl1] at CT1
     have CT2 : Hid (∀ ao' cap', Sgs wo ao' (L.drop (i + 1)) → (L.drop (i + 1)).length ≤ cap' → Calls Tryz.prog 156 #[.slice ao' (m - (i + 1)) cap'] wo fun e w' => TrimE (L.drop (i + 1)) wo e w') := by
      intro ao' cap' h1 h2
      have := trim_any ao' cap' (L.drop (i + 1)) wo (Lib.hid h1) h2 (by omega)
      rw [hl2] at this
      exact this
     obtain ⟨A, hAe⟩ : ∃ A, A = trim (L.take i) := ⟨_, rfl⟩
     obtain ⟨V, hVe⟩ : ∃ V, V = trim (L.drop (i + 1)) := ⟨_, rfl⟩
     obtain ⟨n1, hn1⟩ : ∃ n, n = A.length := ⟨_, rfl⟩
     obtain ⟨n2, hn2⟩ : ∃ n, n = V.length := ⟨_, rfl⟩
     have hAl := trim_len (L.take i)
     have hVl := trim_len (L.drop (i + 1))
     rw [← hAe, hl1] at hAl
     rw [← hVe, hl2] at hVl
     have hn1l : n1 ≤ 100000 := by omega
     have hn2l : n2 ≤ 100000 := by omega
     have HT1 : Hid (Calls Tryz.prog 156 #[.slice (some ⟨b, o, none⟩) i cap] wo fun e w' => wo = w' ∧ ∃ ao cap, e = .returned (.slice ao n1 cap) ∧ Sgs wo ao A) := by
      refine CT1.mono ?_
      rintro e w' ⟨h1, ao, cap, h2, h3, h4⟩
      rw [← hAe] at h2 h4
      exact ⟨h1, ao, cap, by rw [h2, hn1], h4⟩
     have HT2 : Hid (∀ ao' cap', Sgs wo ao' (L.drop (i + 1)) → (L.drop (i + 1)).length ≤ cap' → Calls Tryz.prog 156 #[.slice ao' (m - (i + 1)) cap'] wo fun e w' => wo = w' ∧ ∃ ao cap, e = .returned (.slice ao n2 cap) ∧ Sgs wo ao V) := by
      intro ao' cap' h1 h2
      refine (CT2.out ao' cap' h1 h2).mono ?_
      rintro e w' ⟨h1, ao, cap, h2, h3, h4⟩
      rw [← hVe] at h2 h4
      exact ⟨h1, ao, cap, by rw [h2, hn2], h4⟩
     have HPV : Hid (pairS L = partV A V) := by
      show pairS L = _
      rw [HPV.out, hAe, hVe]
     have HN1 := Lib.hid hn1
     have HN2 := Lib.hid hn2
     have hi1 : i + 1 ≤ m := by omega
     have hi1' : (i : Int) + 1 ≤ (m : Int) := by omega
     have HSD := Lib.hid (sgs_cut (lo := i + 1) (sgs_below hA.out hB) (by rw [← HM.out]; exact hc))
     have HLM : Hid (L.length = m) := HM.out.symm
     clear CT1 hl1 CT2 hAe hVe hn1 hn2 hAl hVl hP
     go_wp2_with fail
     refine HT1.out.mono ?_
     rintro e w2 ⟨rfl, ao1, cap1, rfl, hS1⟩
     have HS1 := Lib.hid hS1
     clear hS1 hcc0 hcc1 HT1
     go_wp2_with fail
     case' inl => refine (HT2.out _ _ (by
      have h0 : L.drop (i + 1) = [] := List.drop_eq_nil_of_le (by rw [HLM.out]; omega)
      rw [h0]; intro j hj; simp at hj) (by rw [List.length_drop, HLM.out]; omega)).mono ?_
     case' inr => refine (HT2.out _ _ (by
      have h := HSD.out
      rw [cutA_some, if_neg (by assumption)] at h
      exact h) (by rw [List.length_drop, HLM.out]; omega)).mono ?_
     all_goals
      clear HT2 HSD hl2
      rintro e w2 ⟨rfl, ao2, cap2, rfl, hS2⟩
      have HS2 := Lib.hid hS2
      clear hS2
      go_wp2_with fail
      go_loopw [7, 8, 9] (fun tv kv _ wq => ∃ k : Nat, k ≤ n1 ∧ kv = .int .i64 (k : Int) ∧ Hid (BRow wq wo.heap.size tv (lowL ((A.take k).map (·.1)))) ∧ Hid (∀ x ∈ A.take k, x.2 = true) ∧ Below wo.heap.size wo wq) (fun _ kv _ _ => n1 - (intOf kv).toNat)
      case atStart => exact ⟨0, Nat.zero_le _, rfl, brow_made wo _ (Nat.le_refl _), fun x hx => by simp at hx, (Below.refl _ _).alloc (Nat.le_refl _) _⟩
      case round =>
       obtain ⟨k, hk, rfl, hR, hU, hBk⟩ := hrel
       have hszk := hBk.size
       have HBW := Lib.hid (hB.trans (hBk.mono hsz))
       have HPC := Lib.hid (pc_below2 hC.out hBk)
       by_cases hkn : k < n1
       ·have hkn' : (k : Int) < (n1 : Int) := by omega
        have hkl : k < A.length := by rw [← HN1.out]; exact hkn
        obtain ⟨b3, o3, hao, d0, d1⟩ := (sgs_below HS1.out hBk) k hkl
        subst hao
        have HTK := take_next A k hkl
        have HMEM : Hid (A[k].2 = false → partV A V = none) := fun h => partV_bare (List.getElem_mem hkl) h
        generalize A[k] = x at d0 d1 HTK HMEM
        obtain ⟨c, bare⟩ := x
        simp only at d0 d1
        have hcn := c.toNat_lt
        cases bare with
        | false =>
         have HNO := Lib.hid (HPV.out.trans (HMEM.out rfl))
         obtain ⟨⟨x0, c0⟩, ⟨y0, c1⟩, f0, f1⟩ := pc_cells HPC.out
         clear HTK HMEM
         obtain ⟨e0, e1⟩ := pc_store HPC.out ⟨#[]⟩ ⟨#[]⟩
         go_wp2_with fail
         (try simp only [Exit.inBlock, Exit.then])
         refine bodyPost_ret (v := .tuple #[.agg #[.string ⟨#[]⟩, .string ⟨#[]⟩], .bool false]) (by rw [results_cell_tmp rfl]; go_simp) rfl ?_
         exact pairE_none HNO.out ((HBW.out.setCell (p := ⟨w.heap.size, 0, none⟩) (Nat.le_refl _) _).setCell (p := ⟨w.heap.size, 1, none⟩) (Nat.le_refl _) _)
        | true =>
         obtain ⟨aoT, mT, capT, rfl, hmT⟩ := brow_form hR.out
         obtain ⟨aoT2, mT2, capT2, w3, hap, hR3, hB3⟩ := brow_app (low c) hR.out (by unfold lowL; rw [List.length_map, List.length_map, List.length_take]; omega) hszk
         have HR3 : Hid (BRow w3 wo.heap.size (.slice aoT2 mT2 capT2) (lowL ((A.take (k + 1)).map (·.1)))) := by
          show BRow _ _ _ _
          rw [HTK]
          unfold lowL at hR3 ⊢
          rw [List.map_append, List.map_append]
          exact hR3
         have HU3 : Hid (∀ x ∈ A.take (k + 1), x.2 = true) := by
          show ∀ x ∈ _, _
          rw [HTK]
          intro x hx
          rcases List.mem_append.1 hx with h | h
          ·exact hU.out x h
          ·simp only [List.mem_singleton] at h; rw [h]
         have HB3 := Lib.hid (hBk.trans (hB3))
         have hlow : ((low c).toNat : Int) = if 65 ≤ (c.toNat : Int) ∧ (c.toNat : Int) ≤ 90 then (c.toNat : Int) + 32 else (c.toNat : Int) := low_nat c
         clear HTK HMEM hR3 hB3
         by_cases h65 : 65 ≤ (c.toNat : Int)
         ·by_cases h90 : (c.toNat : Int) ≤ 90
          ·rw [if_pos ⟨h65, h90⟩] at hlow
           rw [hlow] at hap
           have r1 : IntKind.u8.wrap ((c.toNat : Int) + 32) = (c.toNat : Int) + 32 := IntWalk.u8_in _ (by omega)
           clear hlow
           go_wp2_with (at_builtin; refine Lib.wpList_append_run _ rfl _ _ _ _ rfl _ _ rfl rfl _ _ hap ?_)
           go_roundw
           case rel => exact ⟨k + 1, by omega, by go_num, HR3, HU3, HB3.out⟩
           case measure => simp [intOf]; omega
          ·rw [if_neg (by omega)] at hlow
           rw [hlow] at hap
           clear hlow
           go_wp2_with (at_builtin; refine Lib.wpList_append_run _ rfl _ _ _ _ rfl _ _ rfl rfl _ _ hap ?_)
           go_roundw
           case rel => exact ⟨k + 1, by omega, by go_num, HR3, HU3, HB3.out⟩
           case measure => simp [intOf]; omega
         ·rw [if_neg (by omega)] at hlow
          rw [hlow] at hap
          clear hlow
          go_wp2_with (at_builtin; refine Lib.wpList_append_run _ rfl _ _ _ _ rfl _ _ rfl rfl _ _ hap ?_)
          go_roundw
          case rel => exact ⟨k + 1, by omega, by go_num, HR3, HU3, HB3.out⟩
          case measure => simp [intOf]; omega
       ·obtain rfl : k = n1 := by omega
        obtain ⟨aoT, mT, capT, rfl, hmT⟩ := brow_form hR.out
        have HRT : Hid (BRow wr wo.heap.size (.slice aoT mT capT) (lowL (A.map (·.1)))) := by
         have h := hR.out
         rw [HN1.out, List.take_length] at h
         exact h
        have HUA : Hid (∀ x ∈ A, x.2 = true) := by
         have h := hU.out
         rw [HN1.out, List.take_length] at h
         exact h
        obtain ⟨wt, rfl⟩ : ∃ x, x = wr := ⟨_, rfl⟩
        clear hR hU
        go_wp2_with fail
        go_loopw [10, 11, 12] (fun vv jv _ wq => ∃ j : Nat, j ≤ n2 ∧ jv = .int .i64 (j : Int) ∧ Hid (BRow wq wt.heap.size vv ((V.take j).map (·.1))) ∧ Hid (∀ i (h : i < V.length), i < j → badAt i V[i] = false) ∧ Below wt.heap.size wt wq) (fun _ jv _ _ => n2 - (intOf jv).toNat)
        case atStart => exact ⟨0, Nat.zero_le _, rfl, brow_made wt _ (Nat.le_refl _), fun i _ h => by omega, (Below.refl _ _).alloc (Nat.le_refl _) _⟩
        case round =>
         obtain ⟨j, hj, rfl, hR, hU, hBj⟩ := hrel
         have hszj := hBj.size
         have HBW2 := Lib.hid (hBk.trans (hBj.mono hszk))
         have HBW3 := Lib.hid (hB.trans (HBW2.out.mono hsz))
         have HPC2 := Lib.hid (pc_below2 HPC.out hBj)
         by_cases hjn : j < n2
         ·have hjn' : (j : Int) < (n2 : Int) := by omega
          have hjl : j < V.length := by rw [← HN2.out]; exact hjn
          obtain ⟨b4, o4, hao, d0, d1⟩ := (sgs_below HS2.out HBW2.out) j hjl
          subst hao
          have HTK := take_next V j hjl
          have HBADN : Hid (badAt j V[j] = true → partV A V = none) := fun h => partV_bad hjl h
          have HBADY : Hid (badAt j V[j] = false → ∀ i (h : i < V.length), i < j + 1 → badAt i V[i] = false) := by
           intro h i hi hij
           by_cases e : i = j
           ·subst e; exact h
           ·exact hU.out i hi (by omega)
          generalize V[j] = x at d0 d1 HTK HBADN HBADY
          obtain ⟨c, bare⟩ := x
          simp only at d0 d1
          have hcn := c.toNat_lt
          obtain ⟨aoV, mV, capV, rfl, hmV⟩ := brow_form hR.out
          obtain ⟨aoV2, mV2, capV2, w3, hap, hR3, hB3⟩ := brow_app c hR.out (by rw [List.length_map, List.length_take]; omega) hszj
          have HR3 : Hid (BRow w3 wt.heap.size (.slice aoV2 mV2 capV2) ((V.take (j + 1)).map (·.1))) := by
           show BRow _ _ _ _
           rw [HTK, List.map_append]
           exact hR3
          have HB3 := Lib.hid (hBj.trans hB3)
          clear HTK hR3 hB3
          cases bare with
          | false =>
           have HB := Lib.hid (HBADY.out rfl)
           clear HBADY HBADN
           go_wp2_with (at_builtin; refine Lib.wpList_append_run _ rfl _ _ _ _ rfl _ _ rfl rfl _ _ hap ?_)
           go_roundw
           case rel => exact ⟨j + 1, by omega, by go_num, HR3, HB, HB3.out⟩
           case measure => simp [intOf]; omega
          | true =>
           by_cases hbad : bad c = true
           ·have HNO := Lib.hid (HPV.out.trans (HBADN.out (by show (true && (bad c || _)) = true; rw [hbad]; rfl)))
            have hb3 := (u8_bad c).1 hbad
            clear HBADY HBADN hbad hap
            rcases hb3 with h | h | h
            ·have q1 : ((c.toNat : Int) == 34) = true := by rw [beq_iff_eq]; exact h
             clear h
             obtain ⟨⟨x0, c0⟩, ⟨y0, c1⟩, f0, f1⟩ := pc_cells HPC2.out
             obtain ⟨e0, e1⟩ := pc_store HPC2.out ⟨#[]⟩ ⟨#[]⟩
             go_wp2_with fail
             (try simp only [Exit.inBlock, Exit.then])
             refine bodyPost_ret (v := .tuple #[.agg #[.string ⟨#[]⟩, .string ⟨#[]⟩], .bool false]) (by rw [results_cell_tmp rfl]; go_simp) rfl ?_
             exact pairE_none HNO.out ((HBW3.out.setCell (p := ⟨w.heap.size, 0, none⟩) (Nat.le_refl _) _).setCell (p := ⟨w.heap.size, 1, none⟩) (Nat.le_refl _) _)
            ·have q1 : ((c.toNat : Int) == 34) = false := by rw [beq_eq_false_iff_ne]; omega
             have q2 : ((c.toNat : Int) == 60) = true := by rw [beq_iff_eq]; exact h
             clear h
             obtain ⟨⟨x0, c0⟩, ⟨y0, c1⟩, f0, f1⟩ := pc_cells HPC2.out
             obtain ⟨e0, e1⟩ := pc_store HPC2.out ⟨#[]⟩ ⟨#[]⟩
             go_wp2_with fail
             (try simp only [Exit.inBlock, Exit.then])
             refine bodyPost_ret (v := .tuple #[.agg #[.string ⟨#[]⟩, .string ⟨#[]⟩], .bool false]) (by rw [results_cell_tmp rfl]; go_simp) rfl ?_
             exact pairE_none HNO.out ((HBW3.out.setCell (p := ⟨w.heap.size, 0, none⟩) (Nat.le_refl _) _).setCell (p := ⟨w.heap.size, 1, none⟩) (Nat.le_refl _) _)
            ·have q1 : ((c.toNat : Int) == 34) = false := by rw [beq_eq_false_iff_ne]; omega
             have q2 : ((c.toNat : Int) == 60) = false := by rw [beq_eq_false_iff_ne]; omega
             have q3 : ((c.toNat : Int) == 62) = true := by rw [beq_iff_eq]; exact h
             clear h
             obtain ⟨⟨x0, c0⟩, ⟨y0, c1⟩, f0, f1⟩ := pc_cells HPC2.out
             obtain ⟨e0, e1⟩ := pc_store HPC2.out ⟨#[]⟩ ⟨#[]⟩
             go_wp2_with fail
             (try simp only [Exit.inBlock, Exit.then])
             refine bodyPost_ret (v := .tuple #[.agg #[.string ⟨#[]⟩, .string ⟨#[]⟩], .bool false]) (by rw [results_cell_tmp rfl]; go_simp) rfl ?_
             exact pairE_none HNO.out ((HBW3.out.setCell (p := ⟨w.heap.size, 0, none⟩) (Nat.le_refl _) _).setCell (p := ⟨w.heap.size, 1, none⟩) (Nat.le_refl _) _)
           ·have hb3 : ¬ ((c.toNat : Int) = 34 ∨ (c.toNat : Int) = 60 ∨ (c.toNat : Int) = 62) := fun h => hbad ((u8_bad c).2 h)
            have hbad' : bad c = false := by simpa using hbad
            have q1 : ((c.toNat : Int) == 34) = false := by rw [beq_eq_false_iff_ne]; omega
            have q2 : ((c.toNat : Int) == 60) = false := by rw [beq_eq_false_iff_ne]; omega
            have q3 : ((c.toNat : Int) == 62) = false := by rw [beq_eq_false_iff_ne]; omega
            clear hb3 hbad
            by_cases h35 : (c.toNat : Int) = 35
            ·have q4 : ((c.toNat : Int) == 35) = true := by rw [beq_iff_eq]; exact h35
             have hc35 : c = 35 := u8_eq (n := 35) (by omega) h35
             clear h35
             by_cases hj0 : j = 0
             ·have HNO := Lib.hid (HPV.out.trans (HBADN.out (by show (true && (bad c || (decide (c = 35) && decide (j = 0)))) = true; rw [hbad', hc35, hj0]; rfl)))
              have q5 : ((j : Int) == 0) = true := by rw [beq_iff_eq]; omega
              clear HBADY HBADN hap hj0 hc35 hbad'
              obtain ⟨⟨x0, c0⟩, ⟨y0, c1⟩, f0, f1⟩ := pc_cells HPC2.out
              obtain ⟨e0, e1⟩ := pc_store HPC2.out ⟨#[]⟩ ⟨#[]⟩
              go_wp2_with fail
              (try simp only [Exit.inBlock, Exit.then])
              refine bodyPost_ret (v := .tuple #[.agg #[.string ⟨#[]⟩, .string ⟨#[]⟩], .bool false]) (by rw [results_cell_tmp rfl]; go_simp) rfl ?_
              exact pairE_none HNO.out ((HBW3.out.setCell (p := ⟨w.heap.size, 0, none⟩) (Nat.le_refl _) _).setCell (p := ⟨w.heap.size, 1, none⟩) (Nat.le_refl _) _)
             ·have HB := Lib.hid (HBADY.out (by show (true && (bad c || (decide (c = 35) && decide (j = 0)))) = false; rw [hbad', decide_eq_false hj0]; simp))
              have q5 : ((j : Int) == 0) = false := by rw [beq_eq_false_iff_ne]; omega
              clear HBADY HBADN hc35 hbad'
              go_wp2_with (at_builtin; refine Lib.wpList_append_run _ rfl _ _ _ _ rfl _ _ rfl rfl _ _ hap ?_)
              go_roundw
              case rel => exact ⟨j + 1, by omega, by go_num, HR3, HB, HB3.out⟩
              case measure => simp [intOf]; omega
            ·have q4 : ((c.toNat : Int) == 35) = false := by rw [beq_eq_false_iff_ne]; exact h35
             have hc35 : c ≠ 35 := u8_ne (n := 35) (by omega) h35
             have HB := Lib.hid (HBADY.out (by show (true && (bad c || (decide (c = 35) && decide (j = 0)))) = false; rw [hbad', decide_eq_false hc35]; rfl))
             clear HBADY HBADN hc35 hbad' h35
             go_wp2_with (at_builtin; refine Lib.wpList_append_run _ rfl _ _ _ _ rfl _ _ rfl rfl _ _ hap ?_)
             go_roundw
             case rel => exact ⟨j + 1, by omega, by go_num, HR3, HB, HB3.out⟩
             case measure => simp [intOf]; omega
         ·obtain rfl : j = n2 := by omega
          obtain ⟨aoV, mV, capV, rfl, hmV⟩ := brow_form hR.out
          have HRV : Hid (BRow wr wt.heap.size (.slice aoV mV capV) (V.map (·.1))) := by
           have h := hR.out
           rw [HN2.out, List.take_length] at h
           exact h
          have HEND : Hid (partV A V = if typeOK (lowL (A.map (·.1))) = true then some (lowL (A.map (·.1)), V.map (·.1)) else none) := partV_end HUA.out (fun i hi => hU.out i hi (by rw [HN2.out]; exact hi))
          have HTT := Lib.hid (brow_below HRT.out hBj)
          obtain ⟨T, hT⟩ : ∃ T : ByteArray, (⟨(lowL (A.map (·.1))).toArray⟩ : ByteArray) = T := ⟨_, rfl⟩
          obtain ⟨Q, hQ⟩ : ∃ Q : ByteArray, (⟨(V.map (·.1)).toArray⟩ : ByteArray) = Q := ⟨_, rfl⟩
          have hty : (convert 96 9 (.slice aoT mT capT)).run Tryz.prog wr.drew = .ok (.string T) wr.drew := by
           rw [← hT]; exact brow_str (w := wr.drew) (brow_same HTT.out (fun _ _ _ => rfl))
          have hst : (convert 96 9 (.slice aoV mV capV)).run Tryz.prog wr.drew = .ok (.string Q) wr.drew := by
           rw [← hQ]; exact brow_str (w := wr.drew) (brow_same HRV.out (fun _ _ _ => rfl))
          obtain ⟨⟨x0, c0⟩, ⟨y0, c1⟩, f0, f1⟩ := pc_cells HPC2.out
          have HAF : Hid (∀ a b : Value, (convert 96 9 (.slice aoT mT capT)).run Tryz.prog ((wr.drew.setCell ⟨w.heap.size, 0, none⟩ a).setCell ⟨w.heap.size, 1, none⟩ b) = .ok (.string T) ((wr.drew.setCell ⟨w.heap.size, 0, none⟩ a).setCell ⟨w.heap.size, 1, none⟩ b) ∧ (convert 96 9 (.slice aoV mV capV)).run Tryz.prog ((wr.drew.setCell ⟨w.heap.size, 0, none⟩ a).setCell ⟨w.heap.size, 1, none⟩ b) = .ok (.string Q) ((wr.drew.setCell ⟨w.heap.size, 0, none⟩ a).setCell ⟨w.heap.size, 1, none⟩ b)) := by
           intro a b'
           have hp : w.heap.size < wo.heap.size := HPLT.out
           have hq := HBW.out.size
           refine ⟨?_, ?_⟩
           ·rw [← hT]; exact brow_str (brow_same HTT.out (fun k hk _ => by rw [Below.heap_setCell _ _ _ _ (by show k ≠ w.heap.size; omega), Below.heap_setCell _ _ _ _ (by show k ≠ w.heap.size; omega)]; rfl))
           ·rw [← hQ]; exact brow_str (brow_same HRV.out (fun k hk _ => by rw [Below.heap_setCell _ _ _ _ (by show k ≠ w.heap.size; omega), Below.heap_setCell _ _ _ _ (by show k ≠ w.heap.size; omega)]; rfl))
          have HTY : Hid (∀ W, Calls Tryz.prog 122 #[.string T] W fun e w' => e = .returned (.bool (typeOK T.data.toList)) ∧ W = w') := fun W => type_any T W (by rw [← kt.size_len, ← hT]; show (lowL (A.map _)).length ≤ _; unfold lowL; rw [List.length_map, List.length_map, ← HN1.out]; omega)
          obtain ⟨e0, e1⟩ := pc_store (w := wr.drew) HPC2.out T Q
          have HTd := Lib.hid hT
          have HQd := Lib.hid hQ
          clear hT hQ
          go_wp2_with fail
          go_region_held3 (fun W => (convert 96 9 (.slice aoT mT capT)).run Tryz.prog W = .ok (.string T) W ∧ (convert 96 9 (.slice aoV mV capV)).run Tryz.prog W = .ok (.string Q) W) (first | exact ⟨hty, hst⟩ | exact HAF.out _ _)
           (first | (go_at_call 122; refine (HTY.out _).mono ?_; rintro e w' ⟨rfl, rfl⟩) | skip)
          all_goals
           go_wp2_with fail
           (try simp only [Exit.inBlock, Exit.then])
           refine bodyPost_ret (v := .tuple #[.agg #[.string T, .string Q], .bool (typeOK T.data.toList)]) (by rw [results_cell_tmp rfl]; go_simp) rfl ?_
           refine ⟨(HBW3.out.drew.setCell (p := ⟨w.heap.size, 0, none⟩) (Nat.le_refl _) _).setCell (p := ⟨w.heap.size, 1, none⟩) (Nat.le_refl _) _, ?_⟩
           rw [HPV.out, HEND.out]
           have eT : T.data.toList = lowL (A.map (·.1)) := by rw [← HTd.out]
           rw [eT]
           cases htyp : typeOK (lowL (A.map (·.1))) with
           | true =>
            rw [if_pos rfl]
            show _ = Ending.returned (.tuple #[.agg #[.string ⟨(lowL (A.map (·.1))).toArray⟩, .string ⟨(V.map (·.1)).toArray⟩], .bool true])
            rw [HTd.out, HQd.out]
           | false =>
            rw [if_neg (by simp)]
            exact ⟨T, Q, rfl⟩
    ·have q : ((c.toNat : Int) == 61) = false := by rw [beq_eq_false_iff_ne]; exact h61
     have HN := Lib.hid (HNX.out (by
      show (true && decide (c = 61)) = false
      have h : c ≠ 61 := u8_ne (n := 61) (by omega) h61
      rw [decide_eq_false h]; rfl))
     clear HNX HSP h61
     go_wp2_with fail
     go_roundw
     case rel => exact ⟨i + 1, by omega, by go_num, HN, hB, hC⟩
     case measure => simp [intOf]; omega
  ·obtain rfl : i = m := by omega
   have q2 : ((i : Int) == (i : Int)) = true := by rw [beq_iff_eq]
   have HN : Hid (pairS L = none) := pairS_no (fun x hx => by
    obtain ⟨j, hj, rfl⟩ := List.mem_iff_getElem.1 hx
    exact hP.out j hj (by rw [HM.out]; exact hj))
   obtain ⟨⟨x0, c0⟩, ⟨y0, c1⟩, f0, f1⟩ := pc_cells hC.out
   obtain ⟨e0, e1⟩ := pc_store hC.out ⟨#[]⟩ ⟨#[]⟩
   go_wp2_with fail
   (try simp only [Exit.inBlock, Exit.then])
   refine bodyPost_ret (v := .tuple #[.agg #[.string ⟨#[]⟩, .string ⟨#[]⟩], .bool false]) (by rw [results_cell_tmp rfl]; go_simp) rfl ?_
   exact pairE_none HN.out ((hB.setCell (p := ⟨w.heap.size, 0, none⟩) (Nat.le_refl _) _).setCell (p := ⟨w.heap.size, 1, none⟩) (Nat.le_refl _) _)
end dnw
end Go.Proofs.YtcolcogobdgejaaGreatDoor
/-! SignsW -/
namespace Go.Proofs.YtcolcogobdgejaaGreatDoor
open Go.RowKit
namespace dnw
open dnp
set_option linter.unusedVariables false
set_option linter.unusedSimpArgs false
def SignsE (s : ByteArray) (w : World) (e : Ending) (w' : World) : Prop :=
 Below w.heap.size w w' ∧ match signs s.data.toList with
  | none => e = .returned (.tuple #[.slice none 0 0, .bool false])
  | some L => ∃ ao cap, e = .returned (.tuple #[.slice ao L.length cap, .bool true]) ∧ L.length ≤ cap ∧ OwnS w' w.heap.size (.slice ao L.length cap) L
def SgAt (s : ByteArray) (i : Nat) (B : List Sg) : Prop := signs s.data.toList = (signs (s.data.toList.drop i)).map (B ++ ·)
theorem sgAt_bare {s : ByteArray} {i : Nat} {B : List Sg} (h : SgAt s i B) (hi : i < s.size) (hc : s[i] ≠ 92) : SgAt s (i + 1) (B ++ [(s[i], true)]) := by
 unfold SgAt at *
 rw [drop_cons s i hi, signs_bare _ _ hc, Option.map_map] at h
 rw [h]
 congr 1
 funext p
 simp
theorem sgAt_esc {s : ByteArray} {i n : Nat} {d : UInt8} {B : List Sg} (h : SgAt s i B) (hi : i < s.size) (hc : s[i] = 92) (he : esc (s.data.toList.drop (i + 1)) = some (d, n)) : SgAt s (i + 1 + n) (B ++ [(d, false)]) := by
 unfold SgAt at *
 rw [drop_cons s i hi, hc, signs_esc _ _ _ he, Option.map_map, List.drop_drop] at h
 rw [h]
 congr 1
 funext p
 simp
theorem sgAt_none {s : ByteArray} {i : Nat} {B : List Sg} (h : SgAt s i B) (hi : i < s.size) (hc : s[i] = 92) (he : esc (s.data.toList.drop (i + 1)) = none) : signs s.data.toList = none := by
 unfold SgAt at h
 rw [drop_cons s i hi, hc, signs_bad _ he] at h
 rw [h]; rfl
theorem sgAt_end {s : ByteArray} {B : List Sg} (h : SgAt s s.size B) : signs s.data.toList = some B := by
 unfold SgAt at h
 rw [drop_end, signs_nil] at h
 simpa using h
theorem ownS_letters {w : World} {B : Nat} {v : Value} {l : List Sg} (h : OwnS w B v l) : ∃ (ao : Option Addr) (m cap : Nat), v = .slice ao m cap ∧ Hid (m = l.length) ∧ m ≤ cap := by
 obtain ⟨ao, cap, h1, h2⟩ := kt.segX_slice h
 exact ⟨ao, _, cap, h1, rfl, h2⟩
set_option maxRecDepth 100000 in
set_option maxHeartbeats 4000000 in
theorem signs_any (s : ByteArray) (w : World) (hs : s.size ≤ 1000) : Calls Tryz.prog 155 #[.string s] w fun e w' => SignsE s w e w' := by
 go_enter Tryz.func155, Tryz.ntmps155
 go_wp2_with fail
 go_loopw [4, 5] (fun lv iv wr => ∃ (i : Nat) (B : List Sg), i ≤ s.size ∧ iv = .int .i64 (i : Int) ∧ Hid (OwnS wr w.heap.size lv B) ∧ B.length ≤ i ∧ Hid (SgAt s i B) ∧ Below w.heap.size w wr) (fun _ iv _ => s.size - (intOf iv).toNat)
 case atStart =>
  refine ⟨0, [], Nat.zero_le _, rfl, ?_, Nat.zero_le _, by show signs _ = _; simp, (Below.refl _ _).alloc (Nat.le_refl _) _⟩
  exact kt.segX_of_row (World.ownsRow_made _ #[] 0 (Nat.le_refl _) (by unfold maxLen; omega) rfl)
 case round =>
  obtain ⟨i, B, hi, rfl, hO, hBl, hA, hB⟩ := hrel
  obtain ⟨ao, m, cap, rfl, hm, hmc⟩ := ownS_letters hO.out
  have hsz := hB.size
  by_cases hlt : i < s.size
  ·have hlt' : (i : Int) < (s.size : Int) := by omega
   by_cases h92 : ((s[i]'hlt).toNat : Int) = 92
   ·have q1 : (((s[i]'hlt).toNat : Int) == 92) = true := by rw [beq_iff_eq]; exact h92
    have q2 : (((s[i]'hlt).toNat : Int) != 92) = false := by rw [bne_eq_false_iff_eq]; exact h92
    have h92' := Lib.hid (u8_eq (n := 92) (by omega) h92)
    clear h92
    by_cases h1 : i + 1 < s.size
    ·have h1' : (i : Int) + 1 < (s.size : Int) := by omega
     have hdc := drop_cons s (i + 1) h1
     have CS : Hid (∀ W, Calls Tryz.prog 187 #[.int .u8 ((s[i + 1]'h1).toNat : Int)] W fun e w' => e = .returned (.bool (special (s[i + 1]'h1))) ∧ W = w') := fun W => special_any _ W
     by_cases hp : plainEsc (s[i + 1]'h1)
     ·have HA : Hid (SgAt s (i + 1 + 1) (B ++ [(s[i + 1]'h1, false)])) := sgAt_esc hA.out hlt h92'.out (by rw [hdc]; exact esc_plain hp)
      obtain ⟨v', w1, hap, hO1, hB1⟩ := ownS_app (s[i + 1]'h1, false) hO.out (by omega) hsz
      dsimp only at hap
      have HO1 := Lib.hid hO1
      have HB1 := Lib.hid (hB.trans hB1)
      have hp3 : special (s[i + 1]'h1) = true ∨ (special (s[i + 1]'h1) = false ∧ ((s[i + 1]'h1).toNat : Int) = 35) ∨ (special (s[i + 1]'h1) = false ∧ ((s[i + 1]'h1).toNat : Int) = 32) := by
       unfold plainEsc at hp
       cases hsp : special (s[i + 1]'h1) with
       | true => exact Or.inl rfl
       | false =>
        rw [hsp] at hp
        rcases hp with hp | hp | hp
        ·cases hp
        ·exact Or.inr (Or.inl ⟨rfl, by rw [hp]; rfl⟩)
        ·exact Or.inr (Or.inr ⟨rfl, by rw [hp]; rfl⟩)
      clear hO1 hB1 hp hdc
      rcases hp3 with h | ⟨h, h35⟩ | ⟨h, h32⟩
      ·rw [h] at CS
       clear h
       go_wp2_with fail
       refine (CS.out _).mono ?_
       rintro e w2 ⟨rfl, rfl⟩
       go_wp2_with (at_builtin; refine Lib.wpList_append_run _ rfl _ _ _ _ rfl _ _ rfl rfl _ _ hap ?_)
       go_roundw
       case rel => exact ⟨i + 1 + 1, _, by omega, by go_num, HO1, by simp; omega, HA, HB1.out⟩
       case measure => simp [intOf]; omega
      ·rw [h] at CS
       have p1 : (((s[i + 1]'h1).toNat : Int) == 35) = true := by rw [beq_iff_eq]; exact h35
       clear h h35
       go_wp2_with fail
       refine (CS.out _).mono ?_
       rintro e w2 ⟨rfl, rfl⟩
       go_wp2_with (at_builtin; refine Lib.wpList_append_run _ rfl _ _ _ _ rfl _ _ rfl rfl _ _ hap ?_)
       go_roundw
       case rel => exact ⟨i + 1 + 1, _, by omega, by go_num, HO1, by simp; omega, HA, HB1.out⟩
       case measure => simp [intOf]; omega
      ·rw [h] at CS
       have p1 : (((s[i + 1]'h1).toNat : Int) == 35) = false := by rw [beq_eq_false_iff_ne]; omega
       have p2 : (((s[i + 1]'h1).toNat : Int) == 32) = true := by rw [beq_iff_eq]; exact h32
       clear h h32
       go_wp2_with fail
       refine (CS.out _).mono ?_
       rintro e w2 ⟨rfl, rfl⟩
       go_wp2_with (at_builtin; refine Lib.wpList_append_run _ rfl _ _ _ _ rfl _ _ rfl rfl _ _ hap ?_)
       go_roundw
       case rel => exact ⟨i + 1 + 1, _, by omega, by go_num, HO1, by simp; omega, HA, HB1.out⟩
       case measure => simp [intOf]; omega
     ·have hsp : special (s[i + 1]'h1) = false := by
       cases hsp : special (s[i + 1]'h1) with
       | false => rfl
       | true => exact absurd (Or.inl hsp) hp
      have p1 : (((s[i + 1]'h1).toNat : Int) == 35) = false := by
       rw [beq_eq_false_iff_ne]
       exact fun e => hp (Or.inr (Or.inl (u8_eq (n := 35) (by omega) e)))
      have p2 : (((s[i + 1]'h1).toNat : Int) == 32) = false := by
       rw [beq_eq_false_iff_ne]
       exact fun e => hp (Or.inr (Or.inr (u8_eq (n := 32) (by omega) e)))
      rw [hsp] at CS
      by_cases h2 : i + 2 < s.size
      ·have h2' : ¬ (s.size : Int) ≤ (i : Int) + 2 := by omega
       have h2i : (i : Int) + 2 < (s.size : Int) := by omega
       have hdc2 := drop_cons s (i + 2) h2
       have CV1 : Hid (∀ W, Calls Tryz.prog 188 #[.int .u8 ((s[i + 1]'h1).toNat : Int)] W fun e w' => e = .returned (.int .i64 (b64p.valI (s[i + 1]'h1))) ∧ W = w') := fun W => Go.Proofs.YtcolcogobdgejaaGreatDoor.value_any _ W
       have CV2 : Hid (∀ W, Calls Tryz.prog 188 #[.int .u8 ((s[i + 2]'h2).toNat : Int)] W fun e w' => e = .returned (.int .i64 (b64p.valI (s[i + 2]'h2))) ∧ W = w') := fun W => Go.Proofs.YtcolcogobdgejaaGreatDoor.value_any _ W
       by_cases ha : b64p.valI (s[i + 1]'h1) < 0
       ·have HE : Hid (signs s.data.toList = none) := sgAt_none hA.out hlt h92'.out (by rw [hdc, hdc2]; exact esc_nohex hp (Or.inl ha))
        generalize b64p.valI (s[i + 1]'h1) = va at CV1 ha
        clear hsp hp hdc hdc2
        go_wp2_with fail
        refine (CS.out _).mono ?_
        rintro e w2 ⟨rfl, rfl⟩
        go_wp2_with fail
        refine (CV1.out _).mono ?_
        rintro e w2 ⟨rfl, rfl⟩
        go_wp2_with fail
        go_ret2
        refine ⟨hB, ?_⟩
        rw [HE.out]
        rfl
       ·have hva := b64p.valI_le (s[i + 1]'h1)
        by_cases hb : b64p.valI (s[i + 2]'h2) < 0
        ·have HE : Hid (signs s.data.toList = none) := sgAt_none hA.out hlt h92'.out (by rw [hdc, hdc2]; exact esc_nohex hp (Or.inr hb))
         generalize b64p.valI (s[i + 1]'h1) = va at CV1 ha hva
         generalize b64p.valI (s[i + 2]'h2) = vb at CV2 hb
         clear hsp hp hdc hdc2 hva
         go_wp2_with fail
         refine (CS.out _).mono ?_
         rintro e w2 ⟨rfl, rfl⟩
         go_wp2_with fail
         refine (CV1.out _).mono ?_
         rintro e w2 ⟨rfl, rfl⟩
         go_wp2_with fail
         refine (CV2.out _).mono ?_
         rintro e w2 ⟨rfl, rfl⟩
         go_wp2_with fail
         go_ret2
         refine ⟨hB, ?_⟩
         rw [HE.out]
         rfl
        ·have hvb := b64p.valI_le (s[i + 2]'h2)
         have HA := sgAt_esc hA.out hlt h92'.out (by rw [hdc, hdc2]; exact esc_hex hp (by omega))
         generalize b64p.valI (s[i + 1]'h1) = va at CV1 ha hva HA
         generalize b64p.valI (s[i + 2]'h2) = vb at CV2 hb hvb HA
         obtain ⟨A, rfl⟩ := Int.eq_ofNat_of_zero_le (show 0 ≤ va by omega)
         obtain ⟨C, rfl⟩ := Int.eq_ofNat_of_zero_le (show 0 ≤ vb by omega)
         obtain ⟨m, hm⟩ : ∃ m : UInt8, m = UInt8.ofNat (16 * (A : Int) + (C : Int)).toNat := ⟨_, rfl⟩
         rw [← hm] at HA
         have em : (m.toNat : Int) = 16 * A + C := by
          rw [hm, UInt8.toNat_ofNat']
          omega
         have HA := Lib.hid HA
         obtain ⟨v', w1, hap, hO1, hB1⟩ := ownS_app (w := wr.drew) (m, false) (ownS_below hO.out (Below.refl _ _).drew) (by omega) hsz
         obtain ⟨ao9, m9, cap9, rfl, hm9, hc9⟩ := ownS_letters hO1
         dsimp only at hap
         rw [em] at hap
         have HO1 := Lib.hid hO1
         have HB1 := Lib.hid (hB.drew.trans hB1)
         clear hO1 hB1 hsp hp hdc hdc2 hm em
         have k1 : (0 : Int) ≤ (A : Int) := by omega
         have z1 : (0 : Int) ≤ (i : Int) + 1 := by omega
         have z2 : (0 : Int) ≤ (i : Int) + 2 := by omega
         have y1 : IntKind.i64.wrap ((i : Int) + 1) = (i : Int) + 1 := IntWalk.i64_in _ (by omega)
         have y2 : IntKind.i64.wrap ((i : Int) + 2) = (i : Int) + 2 := IntWalk.i64_in _ (by omega)
         have y3 : ((i : Int) + 1).toNat = i + 1 := by omega
         have y4 : ((i : Int) + 2).toNat = i + 2 := by omega
         have k2 : (0 : Int) ≤ (C : Int) := by omega
         have k3 : (A : Int) ≤ 15 := by omega
         have k4 : (C : Int) ≤ 15 := by omega
         clear hva hvb ha hb
         have r1 : IntKind.i64.wrap (16 * (A : Int)) = 16 * (A : Int) := IntWalk.i64_in _ (by omega)
         have r2 : IntKind.i64.wrap (16 * (A : Int) + (C : Int)) = 16 * (A : Int) + (C : Int) := IntWalk.i64_in _ (by omega)
         have r3 : (16 * (A : Int) + (C : Int)) % 256 = 16 * (A : Int) + (C : Int) := by omega
         have r4 : IntKind.u8.wrap (16 * (A : Int) + (C : Int)) = 16 * (A : Int) + (C : Int) := by rw [IntKind.wrap_u8]; omega
         have m1 : ¬ (A : Int) < 0 := by omega
         have m2 : ¬ (C : Int) < 0 := by omega
         obtain ⟨n1, en1⟩ : ∃ n : Nat, (s[i + 1]'h1).toNat = n := ⟨_, rfl⟩
         obtain ⟨n2, en2⟩ : ∃ n : Nat, (s[i + 2]'h2).toNat = n := ⟨_, rfl⟩
         rw [en1] at CS CV1 p1 p2
         rw [en2] at CV2
         go_wp2_with fail
         refine (CS.out _).mono ?_
         rintro e w2 ⟨rfl, rfl⟩
         go_wp2_with fail
         refine (CV1.out _).mono ?_
         rintro e w2 ⟨rfl, rfl⟩
         go_wp2_with fail
         refine (CV2.out _).mono ?_
         rintro e w2 ⟨rfl, rfl⟩
         go_wp2_with fail
         go_region_held3 (fun _ => True) (trivial)
          (first | (go_at_call_of 188 (Value.int IntKind.u8 (n1 : Int)); refine (CV1.out _).mono ?_; rintro e w' ⟨rfl, rfl⟩) | (go_at_call_of 188 (Value.int IntKind.u8 (n2 : Int)); refine (CV2.out _).mono ?_; rintro e w' ⟨rfl, rfl⟩) | (refine kt.step_append_run rfl _ _ _ _ rfl _ _ rfl rfl _ _ hap ?_))
         all_goals
          go_wp2_with fail
          go_roundw
          case rel => exact ⟨i + 1 + 2, _, by omega, by go_num, HO1, by simp; omega, HA, HB1.out⟩
          case measure => simp [intOf]; omega
      ·have h2' : (s.size : Int) ≤ (i : Int) + 2 := by omega
       have HE : Hid (signs s.data.toList = none) := sgAt_none hA.out hlt h92'.out (by rw [hdc, List.drop_of_length_le (by simp; omega)]; exact esc_one hp)
       clear hsp hp hdc
       go_wp2_with fail
       refine (CS.out _).mono ?_
       rintro e w2 ⟨rfl, rfl⟩
       go_wp2_with fail
       go_ret2
       refine ⟨hB, ?_⟩
       rw [HE.out]
       rfl
    ·have h1' : ¬ (i : Int) + 1 < (s.size : Int) := by omega
     have h2' : (s.size : Int) ≤ (i : Int) + 2 := by omega
     have HE : Hid (signs s.data.toList = none) := sgAt_none hA.out hlt h92'.out (by rw [List.drop_of_length_le (by simp; omega)]; rfl)
     go_wp2_with fail
     go_ret2
     refine ⟨hB, ?_⟩
     rw [HE.out]
     rfl
   ·have q1 : (((s[i]'hlt).toNat : Int) == 92) = false := by rw [beq_eq_false_iff_ne]; exact h92
    have q2 : (((s[i]'hlt).toNat : Int) != 92) = true := by rw [bne_iff_ne]; exact h92
    obtain ⟨v', w1, hap, hO1, hB1⟩ := ownS_app (s[i]'hlt, true) hO.out (by omega) hsz
    dsimp only at hap
    have HA := Lib.hid (sgAt_bare hA.out hlt (u8_ne (n := 92) (by omega) h92))
    have HO1 := Lib.hid hO1
    have HB1 := Lib.hid (hB.trans hB1)
    clear h92 hO1 hB1
    go_wp2_with (at_builtin; refine Lib.wpList_append_run _ rfl _ _ _ _ rfl _ _ rfl rfl _ _ hap ?_)
    go_roundw
    case rel => exact ⟨i + 1, _, by omega, by go_num, HO1, by simp; omega, HA, HB1.out⟩
    case measure => simp [intOf]; omega
  ·obtain rfl : i = s.size := by omega
   have HE := Lib.hid (sgAt_end hA.out)
   go_wp2_with fail
   go_ret2
   refine ⟨hB, ?_⟩
   rw [HE.out]
   have hmm := hm.out
   subst hmm
   exact ⟨ao, cap, rfl, hmc, hO.out⟩
end dnw
end Go.Proofs.YtcolcogobdgejaaGreatDoor
/-! RParseW -/
namespace Go.Proofs.YtcolcogobdgejaaGreatDoor
open Go.RowKit
namespace dnw
open dnp
set_option linter.unusedVariables false
set_option linter.unusedSimpArgs false
theorem nest_start {w : World} {B : Nat} (hB : B ≤ w.heap.size) (W : World) (hw : W.heap[w.heap.size]? = (w.alloc (.cells #[] 22)).heap[w.heap.size]?) (hs : w.heap.size < W.heap.size) :
  Nest (W.alloc (.cells #[] 62)) B (.slice (some ⟨w.heap.size, 0, none⟩) 0 0) (.slice (some ⟨W.heap.size, 0, none⟩) 0 0) [] [] [] := by
 have h1 : kt.SegX (w.alloc (.cells #[] 22)) B 22 1 (.slice (some ⟨w.heap.size, 0, none⟩) 0 0) 0 [] := kt.segX_of_row (World.ownsRow_made w #[] 0 hB (by unfold maxLen; omega) rfl)
 refine ⟨?_, rfl, fun j h => by simp at h, kt.segX_of_row (World.ownsRow_made W #[] 0 (by omega) (by unfold maxLen; omega) rfl), ?_⟩
 ·refine kt.segX_same h1 fun k hk => ?_
  simp only [Value.ownBlock, Option.some.injEq] at hk
  subst hk
  rw [← hw]
  exact Below.heap_alloc _ _ _ hs
 ·intro k hk e
  simp only [Value.ownBlock, Option.some.injEq] at hk e
  omega
theorem nest_fresh {w : World} {B : Nat} {vn vl : Value} {ns : List (List Av)} {vals : List Value} (h : Nest w B vn vl ns [] vals) (hB : B ≤ w.heap.size) : Nest (w.alloc (.cells #[] 62)) B vn (.slice (some ⟨w.heap.size, 0, none⟩) 0 0) ns [] vals := by
 have hn := nest_below h (w' := w.alloc (.cells #[] 62)) ((Below.refl _ _).alloc (Nat.le_refl _) _)
 refine ⟨hn.outer, hn.len, fun j a b => ?_, kt.segX_of_row (World.ownsRow_made w #[] 0 hB (by unfold maxLen; omega) rfl), fun k hk e => ?_⟩
 ·obtain ⟨i1, i2⟩ := h.inner j a b
  refine ⟨(hn.inner j a b).1, fun k hk => ⟨(i2 k hk).1, fun e => ?_⟩⟩
  simp only [Value.ownBlock, Option.some.injEq] at e
  have := (ownA_lt i1 k hk).2
  omega
 ·simp only [Value.ownBlock, Option.some.injEq] at hk
  have := (kt.segX_lt h.outer k e).2
  omega
structure RRel (w wr : World) (L : List Sg) (i j0 : Nat) (vn vl : Value) (ns : List (List Av)) (cur : List Av) (vals : List Value) : Prop where
 nest : Nest wr w.heap.size vn vl ns cur vals
 below : Below w.heap.size w wr
 len : 2 * (ns.length + cur.length) ≤ j0
 small : (∀ l ∈ ns, Smalls l) ∧ Smalls cur
 going : i ≤ L.length → Seg L j0 i ∧ GAt L ns cur j0
 done : i = L.length + 1 → GR [] [] L = some ns
set_option maxRecDepth 100000 in
set_option maxHeartbeats 4000000 in
theorem rparse_any (s : ByteArray) (w : World) (hs : s.size ≤ 140737488351232) :
  Calls Tryz.prog 110 #[.string s] w fun e w' => ParseE s w e w' := by
 by_cases h1000 : 1000 < s.size
 ·have h' : 1000 < (s.size : Int) := by omega
  have H1 := Lib.hid h1000
  go_enter Tryz.func110, Tryz.ntmps110
  go_wp2_with fail
  go_ret2
  refine ⟨Below.refl _ _, ?_⟩
  rw [if_pos H1.out]
  rfl
 ·have h' : ¬ 1000 < (s.size : Int) := by omega
  have H1 := Lib.hid h1000
  have hs1 : s.size ≤ 1000 := by omega
  have CS := signs_any s w hs1
  have hPR := parseR_signs s.data.toList
  cases hsg : signs s.data.toList with
  | none =>
   rw [hsg] at hPR
   have HP := Lib.hid hPR
   have HC : Hid (Calls Tryz.prog 155 #[.string s] w fun e w' => Below w.heap.size w w' ∧ e = .returned (.tuple #[.slice none 0 0, .bool false])) := by
    refine CS.mono fun e w' h => ?_
    unfold SignsE at h
    rw [hsg] at h
    exact h
   clear CS hsg hPR
   go_enter Tryz.func110, Tryz.ntmps110
   go_wp2_with fail
   refine HC.out.mono ?_
   rintro e w1 ⟨hB1, rfl⟩
   go_wp2_with fail
   go_ret2
   refine ⟨hB1, ?_⟩
   rw [if_neg H1.out, HP.out]
   rfl
  | some L =>
   rw [hsg] at hPR
   simp only at hPR
   have hLl := signs_len _ _ L (Nat.le_refl _) hsg
   rw [kt.size_len] at hLl
   have HP := Lib.hid hPR
   obtain ⟨m, hm⟩ : ∃ m, m = L.length := ⟨_, rfl⟩
   have HM := Lib.hid hm
   have hm1 : m ≤ 1000 := by omega
   have HC : Hid (Calls Tryz.prog 155 #[.string s] w fun e w' => Below w.heap.size w w' ∧ ∃ ao cap, e = .returned (.tuple #[.slice ao m cap, .bool true]) ∧ m ≤ cap ∧ Sgs w' ao L) := by
    refine CS.mono fun e w' h => ?_
    unfold SignsE at h
    rw [hsg] at h
    obtain ⟨h1, ao, cap, h2, h3, h4⟩ := h
    rw [← hm] at h2 h3
    exact ⟨h1, ao, cap, h2, h3, ownS_sgs h4⟩
   clear CS hsg hPR hm
   go_enter Tryz.func110, Tryz.ntmps110
   go_wp2_with fail
   refine HC.out.mono ?_
   rintro e w1 ⟨hB1, ao, cap, rfl, hmc, hSg⟩
   have HB1 := Lib.hid hB1
   have HSg := Lib.hid hSg
   have hsz1 := hB1.size
   clear HC hB1 hSg
   have HB2 : Hid (Below w1.heap.size w1 (w1.alloc (.cells #[] 22))) := (Below.refl _ _).alloc (Nat.le_refl _) _
   have CT := trim_any ao cap L (w1.alloc (.cells #[] 22)) (Lib.hid (sgs_below HSg.out HB2.out)) (by rw [← HM.out]; exact hmc) (by rw [← HM.out]; omega)
   rw [← HM.out] at CT
   obtain ⟨n0, hn0⟩ : ∃ n0, n0 = (trim L).length := ⟨_, rfl⟩
   have HT : Hid (Calls Tryz.prog 156 #[.slice ao m cap] (w1.alloc (.cells #[] 22)) fun e w' => w1.alloc (.cells #[] 22) = w' ∧ ∃ ao cap, e = .returned (.slice ao n0 cap)) := by
    refine CT.mono ?_
    rintro e w' ⟨h1, ao, cap, h2, _⟩
    rw [← hn0] at h2
    exact ⟨h1, ao, cap, h2⟩
   clear CT
   by_cases hz : n0 = 0
   ·have htr : trim L = [] := List.eq_nil_of_length_eq_zero (by omega)
    have HR : Hid (parseR s.data.toList = some []) := by
     show _ = _
     rw [HP.out, if_pos htr]
    subst hz
    clear hn0 htr
    go_wp2_with fail
    refine HT.out.mono ?_
    rintro e w2 ⟨rfl, ao2, cap2, rfl⟩
    go_wp2_with fail
    go_ret2
    refine ⟨HB1.out.trans (HB2.out.mono hsz1), ?_⟩
    rw [if_neg H1.out, HR.out]
    exact ⟨_, _, rfl, Nat.le_refl _, fun i hi => by simp at hi, fun l hl => by simp at hl⟩
   ·have hz' : ((n0 : Int) == 0) = false := by rw [beq_eq_false_iff_ne]; omega
    have htr : ¬ trim L = [] := fun h => hz (by rw [hn0, h]; rfl)
    have HNO : Hid (∀ w', Below w1.heap.size w1 w' → GR [] [] L = none → ParseE s w (.returned (.tuple #[.slice none 0 0, .int .i64 4])) w') := by
     intro w' hb hg
     refine ⟨HB1.out.trans (hb.mono hsz1), ?_⟩
     rw [if_neg H1.out, HP.out, if_neg htr, hg]
    have HYES : Hid (∀ n, GR [] [] L = some n → parseR s.data.toList = if nameOK n = true then some n else none) := by
     intro n hg
     rw [HP.out, if_neg htr, hg]
    have HRR : Hid (RRel w1 ((w1.alloc (.cells #[] 22)).alloc (.cells #[] 62)) L 0 0 (.slice (some ⟨w1.heap.size, 0, none⟩) 0 0) (.slice (some ⟨(w1.alloc (.cells #[] 22)).heap.size, 0, none⟩) 0 0) [] [] []) :=
     ⟨nest_start (Nat.le_refl _) _ rfl (by simp), ((Below.refl w1.heap.size w1).alloc (Nat.le_refl _) _).alloc (by simp) _, Nat.zero_le _, ⟨fun l hl => by simp at hl, fun x hx => by simp at hx⟩, fun _ => ⟨seg_new (Nat.zero_le _), rfl⟩, fun h => by omega⟩
    have esz : (w1.alloc (.cells #[] 22)).heap.size = w1.heap.size + 1 := by simp
    rw [esz] at HRR
    have hLpos : 0 < L.length := by
     rcases Nat.eq_zero_or_pos L.length with h | h
     ·exact absurd (by rw [List.eq_nil_of_length_eq_zero h]; rfl) htr
     ·exact h
    obtain ⟨b, o, hao⟩ : ∃ b o, ao = some ⟨b, o, none⟩ := by
     obtain ⟨b, o, h, _, _⟩ := HSg.out 0 hLpos
     exact ⟨b, o, h⟩
    subst hao
    clear hz htr hn0 HP esz hLpos
    go_wp2_with fail
    refine HT.out.mono ?_
    rintro e w2 ⟨rfl, ao2, cap2, rfl⟩
    go_wp2_with fail
    go_loopw [6, 7, 8, 9, 10, 11] (fun nv lv fv iv _ _ wr => ∃ (i j0 : Nat) (ns : List (List Av)) (cur : List Av) (vals : List Value), i ≤ m + 1 ∧ j0 ≤ m + 1 ∧ iv = .int .i64 (i : Int) ∧ fv = .int .i64 (j0 : Int) ∧ Hid (RRel w1 wr L i j0 nv lv ns cur vals)) (fun _ _ _ iv _ _ _ => m + 1 - (intOf iv).toNat)
    case atStart => exact ⟨0, 0, [], [], [], by omega, by omega, rfl, rfl, HRR⟩
    case round =>
     clear HRR HT
     obtain ⟨i, j0, ns, cur, vals, hi, hj0, rfl, rfl, hR⟩ := hrel
     obtain ⟨⟨aoN, mN, capN, rfl, hmN, hcN⟩, ⟨aoL, mL, capL, rfl, hmL, hcL⟩⟩ := nest_letters hR.out.nest
     by_cases hle : i ≤ m
     ·have hle' : (i : Int) ≤ (m : Int) := by omega
      have HBW := Lib.hid hR.out.below
      have hszr := HBW.out.size
      obtain ⟨hseg, hgat⟩ := hR.out.going (by rw [← HM.out]; exact hle)
      have HSEG := Lib.hid hseg
      have HGAT := Lib.hid hgat
      have HLEN := Lib.hid hR.out.len
      have hj0i : j0 ≤ i := hseg.1
      have hcl : cur.length ≤ 1100000 := by have := HLEN.out; omega
      have hnl : ns.length ≤ 1100000 := by have := HLEN.out; omega
      have HSW := Lib.hid (sgs_below HSg.out HBW.out)
      clear hseg hgat
      -- what Pair answers
      have CP : Hid (∀ ao' cap', Sgs wr ao' (segL L j0 i) → i - j0 ≤ cap' → Calls Tryz.prog 157 #[.slice ao' (i - j0) cap'] wr fun e w' => PairE (segL L j0 i) wr e w') := by
       intro ao' cap' h1 h2
       have := pair_any ao' cap' (segL L j0 i) wr (Lib.hid h1) (by rw [segL_len HSEG.out]; exact h2) (by rw [segL_len HSEG.out]; omega)
       rw [segL_len HSEG.out] at this
       exact this
      have hCUT : Hid (Sgs wr (cutA (some ⟨b, o, none⟩) cap j0) (segL L j0 i)) := sgs_take (sgs_cut HSW.out (by rw [← HM.out]; exact hmc)) _
      have hj0i' : (j0 : Int) ≤ (i : Int) := by omega
      have hic : (i : Int) ≤ (cap : Int) := by omega
      by_cases hlt : i < m
      ·have hlt' : (i : Int) < (m : Int) := by omega
       have hil : i < L.length := by rw [← HM.out]; exact hlt
       obtain ⟨b', o', e', c0, c1⟩ := HSW.out i hil
       cases e'
       have CW : Hid (w1.cell? ⟨b, o + i * 2, none⟩ = some (.int .u8 ((L[i].1).toNat : Int))) := by
        obtain ⟨b2, o2, e2, h2, _⟩ := HSg.out i hil
        cases e2
        exact h2
       by_cases hsep : sepS L[i] = true
       ·obtain ⟨ex, esep⟩ := sep_eq hsep
        have hx2 : L[i].2 = true := by rw [ex]
        rw [hx2] at c1
        have hne : (i : Int) ≠ (m : Int) := by omega
        have q0 : ((i : Int) == (m : Int)) = false := by rw [beq_eq_false_iff_ne]; exact hne
        have HBADP : Hid (pairS (segL L j0 i) = none → GR [] [] L = none) := fun h => gat_none HGAT.out HSEG.out (fun _ => hsep) h
        have HPLUS : Hid (∀ p, (L[i].1.toNat : Int) = 43 → pairS (segL L j0 i) = some p → GAt L ns (cur ++ [av p]) (i + 1)) := fun p h hp => gat_plus HGAT.out HSEG.out hil (by rw [ex]; exact congrArg (·, true) (u8_eq (n := 43) (by omega) h)) hp
        have HNEXT : Hid (∀ p, ¬ (L[i].1.toNat : Int) = 43 → pairS (segL L j0 i) = some p → GAt L (ns ++ [cur ++ [av p]]) [] (i + 1)) := fun p h hp => gat_next HGAT.out HSEG.out hil hsep (u8_ne (n := 43) (by omega) h) hp
        have hsp := (u8_sep L[i].1).1 esep
        have CW0 := CW.out
        generalize L[i].1 = c at c0 HPLUS HNEXT hsp CW0
        clear hx2 ex esep hsep hne
        obtain ⟨n0, en0⟩ : ∃ n : Nat, c.toNat = n := ⟨_, rfl⟩
        rw [en0] at c0 HPLUS HNEXT hsp CW0
        have CW0 := Lib.hid CW0
        clear CW
        have hsp3 : (((n0 : Int) == 44) = true ∧ ¬ (n0 : Int) = 43) ∨ (((n0 : Int) == 44) = false ∧ ((n0 : Int) == 59) = true ∧ ¬ (n0 : Int) = 43) ∨ (((n0 : Int) == 44) = false ∧ ((n0 : Int) == 59) = false ∧ ((n0 : Int) == 43) = true ∧ (n0 : Int) = 43) := by
         rw [beq_iff_eq, beq_iff_eq, beq_iff_eq, beq_eq_false_iff_ne, beq_eq_false_iff_ne]
         rcases hsp with h | h | h
         ·exact Or.inl ⟨h, by omega⟩
         ·exact Or.inr (Or.inl ⟨by omega, h, by omega⟩)
         ·exact Or.inr (Or.inr ⟨by omega, by omega, h, h⟩)
        clear hsp en0
        cases hp : pairS (segL L j0 i) with
        | none =>
         have HN := Lib.hid (HBADP.out hp)
         have CP2 : Hid (∀ ao' cap', Sgs wr ao' (segL L j0 i) → i - j0 ≤ cap' → Calls Tryz.prog 157 #[.slice ao' (i - j0) cap'] wr fun e w' => Below wr.heap.size wr w' ∧ ∃ t v : ByteArray, e = .returned (.tuple #[.agg #[.string t, .string v], .bool false])) := by
          intro ao' cap' h1 h2
          refine (CP.out ao' cap' h1 h2).mono fun e w' h => ?_
          unfold PairE at h
          rw [hp] at h
          exact h
         clear CP HBADP HPLUS HNEXT hp
         rcases hsp3 with ⟨q1, _⟩ | ⟨q1, q2, _⟩ | ⟨q1, q2, q3, _⟩
         all_goals
          go_wp2_with fail
          all_goals (try (exfalso; omega))
          all_goals
           refine (CP2.out _ _ (by have h := hCUT.out; rw [cutA_some, if_neg (by omega)] at h; exact h) (by omega)).mono ?_
           rintro e w2 ⟨hB2, t, v, rfl⟩
           go_wp2_with fail
           go_ret2
           exact HNO.out _ ((HBW.out.trans (hB2.mono hszr)).alloc (Nat.le_trans hszr hB2.size) _) HN.out
        | some p =>
         have CP2 : Hid (∀ ao' cap', Sgs wr ao' (segL L j0 i) → i - j0 ≤ cap' → Calls Tryz.prog 157 #[.slice ao' (i - j0) cap'] wr fun e w' => Below wr.heap.size wr w' ∧ e = .returned (.tuple #[.agg #[.string ⟨p.1.toArray⟩, .string ⟨p.2.toArray⟩], .bool true])) := by
          intro ao' cap' h1 h2
          refine (CP.out ao' cap' h1 h2).mono fun e w' h => ?_
          unfold PairE at h
          rw [hp] at h
          exact h
         have hps := pairS_small hp
         rw [segL_len HSEG.out] at hps
         have HSMP : Hid ((av p).t.size ≤ 100000 ∧ (av p).v.size ≤ 1100000) := av_small hps.1 (by omega)
         have h1j : j0 + 1 ≤ i := by omega
         have HSMC : Hid (Smalls (cur ++ [av p])) := by
          intro x hx
          rcases List.mem_append.1 hx with hx | hx
          ·exact hR.out.small.2 x hx
          ·simp only [List.mem_singleton] at hx
           rw [hx]; exact HSMP.out
         have HSMN : Hid (∀ l ∈ ns ++ [cur ++ [av p]], Smalls l) := by
          intro l hl
          rcases List.mem_append.1 hl with hl | hl
          ·exact hR.out.small.1 l hl
          ·simp only [List.mem_singleton] at hl
           rw [hl]; exact HSMC.out
         have HCW : Hid (w1.cell? ⟨b, o + i * 2, none⟩ = some (.int .u8 (n0 : Int))) := CW0.out
         rcases hsp3 with ⟨q1, h43⟩ | ⟨q1, q2, h43⟩ | ⟨q1, q2, q3, h43⟩
         ·have HG := Lib.hid (HNEXT.out p h43 hp)
          have q43 : ((n0 : Int) == 43) = false := by rw [beq_eq_false_iff_ne]; exact h43
          have q43b : ((n0 : Int) != 43) = true := by rw [bne_iff_ne]; exact h43
          clear CP HBADP HPLUS HNEXT hp hps h43
          go_wp2_with fail
          all_goals (try (exfalso; omega))
          all_goals
           refine (CP2.out _ _ (by have h := hCUT.out; rw [cutA_some, if_neg (by omega)] at h; exact h) (by omega)).mono ?_
           rintro e w2 ⟨hB2, rfl⟩
           have HB2' := Lib.hid (HBW.out.trans (hB2.mono hszr))
           have hsz2 := HB2'.out.size
           have hN3 := nest_below (nest_below hR.out.nest hB2) (w' := w2.alloc (.cells #[.string ⟨p.1.toArray⟩, .string ⟨p.2.toArray⟩] 62)) ((Below.refl _ _).alloc (Nat.le_refl _) _)
           have HB3 : Hid (Below w1.heap.size w1 (w2.alloc (.cells #[.string ⟨p.1.toArray⟩, .string ⟨p.2.toArray⟩] 62))) := HB2'.out.alloc hsz2 _
           obtain ⟨vl', w4, hap, hN4, hB4⟩ := nest_app (av p) hN3 hcl HB3.out.size
           obtain ⟨_, ⟨aoL4, mL4, capL4, rfl, hmL4, hcL4⟩⟩ := nest_letters hN4
           have hap' : (Builtin.append_ #[22, 22] 22 #[_, .slice (some ⟨(w2.alloc (.cells #[.string ⟨p.1.toArray⟩, .string ⟨p.2.toArray⟩] 62)).heap.size, 0, none⟩) 1 1]).run Tryz.prog ((w2.alloc (.cells #[.string ⟨p.1.toArray⟩, .string ⟨p.2.toArray⟩] 62)).alloc (.cells #[.string ⟨p.1.toArray⟩, .string ⟨p.2.toArray⟩] 62)) = .ok (.slice aoL4 mL4 capL4) w4 := hap
           have HN4 := Lib.hid hN4
           have HB4 := Lib.hid (HB3.out.trans hB4)
           clear hN3 hN4 hB4 hap hB2
           simp only [World.size_alloc] at hap'
           have d0 := (HB4.out.cell (World.block_lt_of_cell? w1 _ HCW.out)).trans HCW.out
           obtain ⟨vn', w5, hap2, hN5, hB5⟩ := nest_push HN4.out (by rw [HN4.out.len]; exact hnl) HB4.out.size
           obtain ⟨⟨aoN5, mN5, capN5, rfl, hmN5, hcN5⟩, _⟩ := nest_letters hN5
           have HN6 := Lib.hid (nest_fresh hN5 (HB4.out.trans hB5).size)
           have HB6 := Lib.hid ((HB4.out.trans hB5).alloc (HB4.out.trans hB5).size (.cells #[] 62))
           clear hN5 hB5
           go_wp2_with (first | (at_builtin; refine Lib.wpList_append_run _ rfl _ _ _ _ rfl _ _ rfl rfl _ _ hap2 ?_) | (at_builtin; refine Lib.wpList_append_run _ rfl _ _ _ _ rfl _ _ rfl rfl _ _ hap' ?_))
           go_roundw
           case rel => exact ⟨i + 1, i + 1, _, [], _, by omega, by omega, by go_num, by go_num, ⟨HN6.out, HB6.out, by have := HLEN.out; simp; omega, ⟨HSMN.out, fun x hx => by simp at hx⟩, fun _ => ⟨seg_new (by omega), HG.out⟩, fun h => by omega⟩⟩
           case measure => simp [intOf] <;> omega
         ·have HG := Lib.hid (HNEXT.out p h43 hp)
          have q43 : ((n0 : Int) == 43) = false := by rw [beq_eq_false_iff_ne]; exact h43
          have q43b : ((n0 : Int) != 43) = true := by rw [bne_iff_ne]; exact h43
          clear CP HBADP HPLUS HNEXT hp hps h43
          go_wp2_with fail
          all_goals (try (exfalso; omega))
          all_goals
           refine (CP2.out _ _ (by have h := hCUT.out; rw [cutA_some, if_neg (by omega)] at h; exact h) (by omega)).mono ?_
           rintro e w2 ⟨hB2, rfl⟩
           have HB2' := Lib.hid (HBW.out.trans (hB2.mono hszr))
           have hsz2 := HB2'.out.size
           have hN3 := nest_below (nest_below hR.out.nest hB2) (w' := w2.alloc (.cells #[.string ⟨p.1.toArray⟩, .string ⟨p.2.toArray⟩] 62)) ((Below.refl _ _).alloc (Nat.le_refl _) _)
           have HB3 : Hid (Below w1.heap.size w1 (w2.alloc (.cells #[.string ⟨p.1.toArray⟩, .string ⟨p.2.toArray⟩] 62))) := HB2'.out.alloc hsz2 _
           obtain ⟨vl', w4, hap, hN4, hB4⟩ := nest_app (av p) hN3 hcl HB3.out.size
           obtain ⟨_, ⟨aoL4, mL4, capL4, rfl, hmL4, hcL4⟩⟩ := nest_letters hN4
           have hap' : (Builtin.append_ #[22, 22] 22 #[_, .slice (some ⟨(w2.alloc (.cells #[.string ⟨p.1.toArray⟩, .string ⟨p.2.toArray⟩] 62)).heap.size, 0, none⟩) 1 1]).run Tryz.prog ((w2.alloc (.cells #[.string ⟨p.1.toArray⟩, .string ⟨p.2.toArray⟩] 62)).alloc (.cells #[.string ⟨p.1.toArray⟩, .string ⟨p.2.toArray⟩] 62)) = .ok (.slice aoL4 mL4 capL4) w4 := hap
           have HN4 := Lib.hid hN4
           have HB4 := Lib.hid (HB3.out.trans hB4)
           clear hN3 hN4 hB4 hap hB2
           simp only [World.size_alloc] at hap'
           have d0 := (HB4.out.cell (World.block_lt_of_cell? w1 _ HCW.out)).trans HCW.out
           obtain ⟨vn', w5, hap2, hN5, hB5⟩ := nest_push HN4.out (by rw [HN4.out.len]; exact hnl) HB4.out.size
           obtain ⟨⟨aoN5, mN5, capN5, rfl, hmN5, hcN5⟩, _⟩ := nest_letters hN5
           have HN6 := Lib.hid (nest_fresh hN5 (HB4.out.trans hB5).size)
           have HB6 := Lib.hid ((HB4.out.trans hB5).alloc (HB4.out.trans hB5).size (.cells #[] 62))
           clear hN5 hB5
           go_wp2_with (first | (at_builtin; refine Lib.wpList_append_run _ rfl _ _ _ _ rfl _ _ rfl rfl _ _ hap2 ?_) | (at_builtin; refine Lib.wpList_append_run _ rfl _ _ _ _ rfl _ _ rfl rfl _ _ hap' ?_))
           go_roundw
           case rel => exact ⟨i + 1, i + 1, _, [], _, by omega, by omega, by go_num, by go_num, ⟨HN6.out, HB6.out, by have := HLEN.out; simp; omega, ⟨HSMN.out, fun x hx => by simp at hx⟩, fun _ => ⟨seg_new (by omega), HG.out⟩, fun h => by omega⟩⟩
           case measure => simp [intOf] <;> omega
         ·have HG := Lib.hid (HPLUS.out p h43 hp)
          have q43b : ((n0 : Int) != 43) = false := by rw [bne_eq_false_iff_eq]; exact h43
          clear CP HBADP HPLUS HNEXT hp hps h43
          go_wp2_with fail
          all_goals (try (exfalso; omega))
          all_goals
           refine (CP2.out _ _ (by have h := hCUT.out; rw [cutA_some, if_neg (by omega)] at h; exact h) (by omega)).mono ?_
           rintro e w2 ⟨hB2, rfl⟩
           have HB2' := Lib.hid (HBW.out.trans (hB2.mono hszr))
           have hsz2 := HB2'.out.size
           have hN3 := nest_below (nest_below hR.out.nest hB2) (w' := w2.alloc (.cells #[.string ⟨p.1.toArray⟩, .string ⟨p.2.toArray⟩] 62)) ((Below.refl _ _).alloc (Nat.le_refl _) _)
           have HB3 : Hid (Below w1.heap.size w1 (w2.alloc (.cells #[.string ⟨p.1.toArray⟩, .string ⟨p.2.toArray⟩] 62))) := HB2'.out.alloc hsz2 _
           obtain ⟨vl', w4, hap, hN4, hB4⟩ := nest_app (av p) hN3 hcl HB3.out.size
           obtain ⟨_, ⟨aoL4, mL4, capL4, rfl, hmL4, hcL4⟩⟩ := nest_letters hN4
           have hap' : (Builtin.append_ #[22, 22] 22 #[_, .slice (some ⟨(w2.alloc (.cells #[.string ⟨p.1.toArray⟩, .string ⟨p.2.toArray⟩] 62)).heap.size, 0, none⟩) 1 1]).run Tryz.prog ((w2.alloc (.cells #[.string ⟨p.1.toArray⟩, .string ⟨p.2.toArray⟩] 62)).alloc (.cells #[.string ⟨p.1.toArray⟩, .string ⟨p.2.toArray⟩] 62)) = .ok (.slice aoL4 mL4 capL4) w4 := hap
           have HN4 := Lib.hid hN4
           have HB4 := Lib.hid (HB3.out.trans hB4)
           clear hN3 hN4 hB4 hap hB2
           simp only [World.size_alloc] at hap'
           have d0 := (HB4.out.cell (World.block_lt_of_cell? w1 _ HCW.out)).trans HCW.out
           go_wp2_with (at_builtin; refine Lib.wpList_append_run _ rfl _ _ _ _ rfl _ _ rfl rfl _ _ hap' ?_)
           go_roundw
           case rel => exact ⟨i + 1, i + 1, ns, _, vals, by omega, by omega, by go_num, by go_num, ⟨HN4.out, HB4.out, by have := HLEN.out; simp; omega, ⟨hR.out.small.1, HSMC.out⟩, fun _ => ⟨seg_new (by omega), HG.out⟩, fun h => by omega⟩⟩
           case measure => simp [intOf] <;> omega
       ·have hsep' : sepS L[i] = false := by simpa using hsep
        have HRN : Hid (RRel w1 wr L (i + 1) j0 (.slice aoN mN capN) (.slice aoL mL capL) ns cur vals) := ⟨hR.out.nest, HBW.out, HLEN.out, hR.out.small, fun _ => ⟨seg_next HSEG.out hil hsep', HGAT.out⟩, fun h => by omega⟩
        have hfact : (L[i].2 = false) ∨ (L[i].2 = true ∧ ((L[i].1.toNat : Int) == 44) = false ∧ ((L[i].1.toNat : Int) == 59) = false ∧ ((L[i].1.toNat : Int) == 43) = false) := by
         cases hb : L[i].2 with
         | false => exact Or.inl rfl
         | true =>
          refine Or.inr ⟨rfl, ?_⟩
          have hs : isSep L[i].1 = false := by
           unfold sepS at hsep'
           rw [hb] at hsep'
           simpa using hsep'
          have h3 : ¬ ((L[i].1.toNat : Int) = 44 ∨ (L[i].1.toNat : Int) = 59 ∨ (L[i].1.toNat : Int) = 43) := fun h => by rw [(u8_sep _).2 h] at hs; cases hs
          rw [beq_eq_false_iff_ne, beq_eq_false_iff_ne, beq_eq_false_iff_ne]
          exact ⟨fun h => h3 (Or.inl h), fun h => h3 (Or.inr (Or.inl h)), fun h => h3 (Or.inr (Or.inr h))⟩
        generalize L[i] = x at c0 c1 hfact hsep'
        obtain ⟨c, bare⟩ := x
        simp only at c0 c1 hfact
        clear CP hCUT hsep hsep' CW
        rcases hfact with rfl | ⟨rfl, q1, q2, q3⟩
        all_goals
         go_wp2_with fail
         go_roundw
         case rel => exact ⟨i + 1, j0, ns, cur, vals, by omega, by omega, by go_num, rfl, HRN⟩
         case measure => simp [intOf] <;> omega
      ·obtain rfl : i = m := by omega
       have hnlt : ¬ (i : Int) < (i : Int) := by omega
       have HSE : Hid (Seg L j0 L.length) := by
        show Seg _ _ _
        rw [← HM.out]; exact HSEG.out
       have q0 : ((i : Int) == (i : Int)) = true := by rw [beq_iff_eq]
       have HLI : Hid (L.length = i) := HM.out.symm
       cases hp : pairS (segL L j0 i) with
       | none =>
        have HN : Hid (GR [] [] L = none) := gat_none HGAT.out HSEG.out (fun h => absurd h (by rw [HLI.out]; omega)) hp
        have CP2 : Hid (∀ ao' cap', Sgs wr ao' (segL L j0 i) → i - j0 ≤ cap' → Calls Tryz.prog 157 #[.slice ao' (i - j0) cap'] wr fun e w' => Below wr.heap.size wr w' ∧ ∃ t v : ByteArray, e = .returned (.tuple #[.agg #[.string t, .string v], .bool false])) := by
         intro ao' cap' h1 h2
         refine (CP.out ao' cap' h1 h2).mono fun e w' h => ?_
         unfold PairE at h
         rw [hp] at h
         exact h
        clear CP hp
        go_wp2_with fail
        all_goals
         refine (CP2.out _ _ (by have h := hCUT.out; rw [cutA_some] at h; first | (rw [if_pos (by omega)] at h; exact h) | (rw [if_neg (by omega)] at h; exact h)) (by omega)).mono ?_
         rintro e w2 ⟨hB2, t, v, rfl⟩
         go_wp2_with fail
         go_ret2
         exact HNO.out _ ((HBW.out.trans (hB2.mono hszr)).alloc (Nat.le_trans hszr hB2.size) _) HN.out
       | some p =>
        have CP2 : Hid (∀ ao' cap', Sgs wr ao' (segL L j0 i) → i - j0 ≤ cap' → Calls Tryz.prog 157 #[.slice ao' (i - j0) cap'] wr fun e w' => Below wr.heap.size wr w' ∧ e = .returned (.tuple #[.agg #[.string ⟨p.1.toArray⟩, .string ⟨p.2.toArray⟩], .bool true])) := by
         intro ao' cap' h1 h2
         refine (CP.out ao' cap' h1 h2).mono fun e w' h => ?_
         unfold PairE at h
         rw [hp] at h
         exact h
        have hps := pairS_small hp
        rw [segL_len HSEG.out] at hps
        have HSMP : Hid ((av p).t.size ≤ 100000 ∧ (av p).v.size ≤ 1100000) := av_small hps.1 (by omega)
        have h1j : j0 + 1 ≤ i := by omega
        have HSMC : Hid (Smalls (cur ++ [av p])) := by
         intro x hx
         rcases List.mem_append.1 hx with hx | hx
         ·exact hR.out.small.2 x hx
         ·simp only [List.mem_singleton] at hx
          rw [hx]; exact HSMP.out
        have HSMN : Hid (∀ l ∈ ns ++ [cur ++ [av p]], Smalls l) := by
         intro l hl
         rcases List.mem_append.1 hl with hl | hl
         ·exact hR.out.small.1 l hl
         ·simp only [List.mem_singleton] at hl
          rw [hl]; exact HSMC.out
        have HG : Hid (GR [] [] L = some (ns ++ [cur ++ [av p]])) := gat_end HGAT.out HSE.out (by rw [HLI.out]; exact hp)
        clear CP hp hps
        go_wp2_with fail
        all_goals
         refine (CP2.out _ _ (by have h := hCUT.out; rw [cutA_some] at h; first | (rw [if_pos (by omega)] at h; exact h) | (rw [if_neg (by omega)] at h; exact h)) (by omega)).mono ?_
         rintro e w2 ⟨hB2, rfl⟩
         have HB2' := Lib.hid (HBW.out.trans (hB2.mono hszr))
         have hsz2 := HB2'.out.size
         have hN3 := nest_below (nest_below hR.out.nest hB2) (w' := w2.alloc (.cells #[.string ⟨p.1.toArray⟩, .string ⟨p.2.toArray⟩] 62)) ((Below.refl _ _).alloc (Nat.le_refl _) _)
         have HB3 : Hid (Below w1.heap.size w1 (w2.alloc (.cells #[.string ⟨p.1.toArray⟩, .string ⟨p.2.toArray⟩] 62))) := HB2'.out.alloc hsz2 _
         obtain ⟨vl', w4, hap, hN4, hB4⟩ := nest_app (av p) hN3 hcl HB3.out.size
         obtain ⟨_, ⟨aoL4, mL4, capL4, rfl, hmL4, hcL4⟩⟩ := nest_letters hN4
         have hap' : (Builtin.append_ #[22, 22] 22 #[_, .slice (some ⟨(w2.alloc (.cells #[.string ⟨p.1.toArray⟩, .string ⟨p.2.toArray⟩] 62)).heap.size, 0, none⟩) 1 1]).run Tryz.prog ((w2.alloc (.cells #[.string ⟨p.1.toArray⟩, .string ⟨p.2.toArray⟩] 62)).alloc (.cells #[.string ⟨p.1.toArray⟩, .string ⟨p.2.toArray⟩] 62)) = .ok (.slice aoL4 mL4 capL4) w4 := hap
         have HN4 := Lib.hid hN4
         have HB4 := Lib.hid (HB3.out.trans hB4)
         clear hN3 hN4 hB4 hap hB2
         simp only [World.size_alloc] at hap'
         obtain ⟨vn', w5, hap2, hN5, hB5⟩ := nest_push HN4.out (by rw [HN4.out.len]; exact hnl) HB4.out.size
         obtain ⟨⟨aoN5, mN5, capN5, rfl, hmN5, hcN5⟩, _⟩ := nest_letters hN5
         have HN6 := Lib.hid (nest_fresh hN5 (HB4.out.trans hB5).size)
         have HB6 := Lib.hid ((HB4.out.trans hB5).alloc (HB4.out.trans hB5).size (.cells #[] 62))
         clear hN5 hB5
         go_wp2_with (first | (at_builtin; refine Lib.wpList_append_run _ rfl _ _ _ _ rfl _ _ rfl rfl _ _ hap2 ?_) | (at_builtin; refine Lib.wpList_append_run _ rfl _ _ _ _ rfl _ _ rfl rfl _ _ hap' ?_))
         go_roundw
         case rel => exact ⟨i + 1, i + 1, _, [], _, by omega, by omega, by go_num, by go_num, ⟨HN6.out, HB6.out, by have := HLEN.out; simp; omega, ⟨HSMN.out, fun x hx => by simp at hx⟩, fun h => absurd h (by rw [HLI.out]; omega), fun _ => HG.out⟩⟩
         case measure => simp [intOf] <;> omega
     ·have hle' : ¬ (i : Int) ≤ (m : Int) := by omega
      have hG := hR.out.done (by rw [← HM.out]; omega)
      have hn5 := hR.out.nest
      rw [hmN.out] at hn5 hcN
      have HRD := Lib.hid (nest_rdns hn5)
      have hnl : ns.length ≤ 1000 := by have := hR.out.len; omega
      have CR := rright_any aoN capN ns wr HRD hnl (Lib.hid (fun l hl _ => hR.out.small.1 l hl))
      have hy := HYES.out _ hG
      rw [← hmN.out] at CR
      have HCN := Lib.hid hcN
      have HSM := Lib.hid hR.out.small.1
      have HBW := Lib.hid hR.out.below
      clear hG hn5 hcN
      cases hok : nameOK ns with
      | false =>
       rw [hok] at CR hy
       have HCR := Lib.hid CR
       have HY := Lib.hid hy
       clear CR hy hok
       go_wp2_with fail
       refine HCR.out.mono ?_
       rintro e w6 ⟨rfl, hB6⟩
       go_wp2_with fail
       go_ret2
       refine ⟨HB1.out.trans ((HBW.out.trans (hB6.mono HBW.out.size)).mono hsz1), ?_⟩
       rw [if_neg H1.out, HY.out]
       rfl
      | true =>
       rw [hok] at CR hy
       have HCR := Lib.hid CR
       have HY := Lib.hid hy
       clear CR hy hok
       go_wp2_with fail
       refine HCR.out.mono ?_
       rintro e w6 ⟨rfl, hB6⟩
       go_wp2_with fail
       go_ret2
       refine ⟨HB1.out.trans ((HBW.out.trans (hB6.mono HBW.out.size)).mono hsz1), ?_⟩
       rw [if_neg H1.out, HY.out]
       exact ⟨aoN, capN, by rw [← hmN.out]; rfl, HCN.out, rdns_below HRD.out hB6, HSM.out⟩
end dnw
end Go.Proofs.YtcolcogobdgejaaGreatDoor
/-! RNormW -/
namespace Go.Proofs.YtcolcogobdgejaaGreatDoor
open Go.RowKit
namespace atw
open atp
set_option linter.unusedVariables false
set_option linter.unusedSimpArgs false
theorem bs_app (a b : List UInt8) : bs a ++ bs b = bs (a ++ b) := by
 apply kt.str_eq
 show (bs a ++ bs b).data.toList = a ++ b
 simp [bs]
theorem joinK_snoc (l : List ByteArray) (i : Nat) (h : i < l.length) : joinK (l.take (i + 1)) = joinK (l.take i) ++ l[i].data.toList := by
 unfold joinK
 rw [List.take_succ_eq_append_getElem h, List.map_append, List.flatten_append]
 simp
theorem joinK_le (l : List ByteArray) (i : Nat) : (joinK (l.take i)).length ≤ (joinK l).length := by
 unfold joinK
 conv => rhs; rw [← List.take_append_drop i l]
 rw [List.map_append, List.flatten_append, List.length_append]
 omega
set_option maxRecDepth 20000 in
set_option maxHeartbeats 16000000 in
theorem rnormal_any (nm : ByteArray) (syn : Int) (sg : Bool) (s : ByteArray) (w : World) (hs : s.size ≤ 140737488351232) :
  Calls Tryz.prog 69 #[.agg #[.string nm, .int .i64 syn, .bool sg], .string s] w fun e w' => e = .returned (normV (normL syn s.data.toList)) ∧ Below w.heap.size w w' := by
 obtain ⟨W0, hW0⟩ : ∃ W, w.alloc (.cells #[.string nm, .int .i64 syn, .bool sg] 29) = W := ⟨_, rfl⟩
 have hB0 : Below w.heap.size w W0 := by rw [← hW0]; exact (Below.refl _ _).alloc (Nat.le_refl _) _
 have HB0 := Lib.hid hB0
 have hw0 : w.heap.size ≤ W0.heap.size := hB0.size
 have k1 : W0.cell? ⟨w.heap.size, 1, none⟩ = some (.int .i64 syn) := by rw [← hW0, World.cell?_alloc_new]; rfl
 clear hB0
 by_cases hsy : 1 ≤ syn ∧ syn ≤ 7
 ·by_cases hlong : 1000 < s.size
  ·rw [normL_long hsy (by rw [kt.size_len]; exact hlong)]
   have hlI : (1000 : Int) < (s.size : Int) := by omega
   obtain ⟨hs1, hs7⟩ := hsy
   have q1 : decide (syn < 1) = false := by rw [decide_eq_false_iff_not]; omega
   have q2 : decide (7 < syn) = false := by rw [decide_eq_false_iff_not]; omega
   clear hlong
   go_enter Tryz.func69, Tryz.ntmps69
   go_wp2_with fail
   go_ret2
   exact ⟨rfl, HB0.out⟩
  ·have hlI : ¬ (1000 : Int) < (s.size : Int) := by omega
   by_cases h0 : s.data.toList = []
   ·rw [normL_nil hsy h0]
    have hz : (s.size : Int) = 0 := by rw [← kt.size_len, h0]; rfl
    obtain ⟨hs1, hs7⟩ := hsy
    have q1 : decide (syn < 1) = false := by rw [decide_eq_false_iff_not]; omega
    have q2 : decide (7 < syn) = false := by rw [decide_eq_false_iff_not]; omega
    clear hlong h0
    go_enter Tryz.func69, Tryz.ntmps69
    go_wp2_with fail
    go_ret2
    exact ⟨rfl, HB0.out⟩
   ·have HNF := Lib.hid (normL_form hsy (by rw [kt.size_len]; omega) h0)
    have hsp : ((s.size : Int) == 0) = false := by
     rw [beq_eq_false_iff_ne]
     intro h
     exact h0 (by rw [zero_s (s := s) (by omega)]; rfl)
    have hsb : s.size ≤ 1000 := by omega
    have hcs : syn = 1 ∨ syn = 2 ∨ syn = 3 ∨ syn = 4 ∨ syn = 5 ∨ syn = 6 ∨ syn = 7 := by omega
    clear hsy hlong h0
    rcases hcs with rfl | rfl | rfl | rfl | rfl | rfl | rfl
    ·have HF : Hid (formO 1 s.data.toList = ne0 (prp.readyO s.data.toList true)) := rfl
     have HC : Hid (Calls Tryz.prog 51 #[.string s, .bool true] W0 fun e w' => e = .returned (prw.pairV (prp.readyO s.data.toList true)) ∧ Below W0.heap.size W0 w') := prw.rready_any s true W0 (by omega)
     cases ho : prp.readyO s.data.toList true with
     | none =>
      rw [ho] at HC HF
      rw [show prw.pairV none = .tuple #[.string ⟨#[]⟩, .int .i64 19] from rfl] at HC
      clear ho
      go_enter Tryz.func69, Tryz.ntmps69
      go_wp2_with fail
      refine HC.out.mono ?_
      rintro e w1 ⟨rfl, hB1⟩
      have HB1 := Lib.hid (HB0.out.trans (hB1.mono hw0))
      clear hB1
      go_wp2_with fail
      go_ret2
      exact ⟨by rw [HNF.out, HF.out]; rfl, HB1.out⟩
     | some u =>
      rw [ho] at HC HF
      have HC2 : Hid (Calls Tryz.prog 51 #[.string s, .bool true] W0 fun e w' => e = .returned (.tuple #[.string (bs u), .int .i64 0]) ∧ Below W0.heap.size W0 w') := HC
      clear HC ho
      by_cases hu : u = []
      ·have hue : ((bs u).size : Int) = 0 := by rw [hu]; rfl
       have HX : Hid (formO 1 s.data.toList = none) := by show _ = _; rw [HF.out, hu]; rfl
       clear hu
       go_enter Tryz.func69, Tryz.ntmps69
       go_wp2_with fail
       refine HC2.out.mono ?_
       rintro e w1 ⟨rfl, hB1⟩
       have HB1 := Lib.hid (HB0.out.trans (hB1.mono hw0))
       clear hB1
       go_wp2_with fail
       go_ret2
       exact ⟨by rw [HNF.out, HX.out]; rfl, HB1.out⟩
      ·have HX : Hid (formO 1 s.data.toList = some u) := by show _ = _; rw [HF.out, ne0_some hu]
       have hupN : 0 < (bs u).size := by
        rw [bs_size]
        exact List.length_pos_iff.2 hu
       have hup : (0 : Int) < ((bs u).size : Int) := by omega
       clear hu
       go_enter Tryz.func69, Tryz.ntmps69
       go_wp2_with fail
       refine HC2.out.mono ?_
       rintro e w1 ⟨rfl, hB1⟩
       have HB1 := Lib.hid (HB0.out.trans (hB1.mono hw0))
       clear hB1
       go_wp2_with fail
       go_ret2
       exact ⟨by rw [HNF.out, HX.out]; rfl, HB1.out⟩
    ·have HF : Hid (formO 2 s.data.toList = ne0 (prp.readyO s.data.toList false)) := rfl
     have HC : Hid (Calls Tryz.prog 51 #[.string s, .bool false] W0 fun e w' => e = .returned (prw.pairV (prp.readyO s.data.toList false)) ∧ Below W0.heap.size W0 w') := prw.rready_any s false W0 (by omega)
     cases ho : prp.readyO s.data.toList false with
     | none =>
      rw [ho] at HC HF
      rw [show prw.pairV none = .tuple #[.string ⟨#[]⟩, .int .i64 19] from rfl] at HC
      clear ho
      go_enter Tryz.func69, Tryz.ntmps69
      go_wp2_with fail
      refine HC.out.mono ?_
      rintro e w1 ⟨rfl, hB1⟩
      have HB1 := Lib.hid (HB0.out.trans (hB1.mono hw0))
      clear hB1
      go_wp2_with fail
      go_ret2
      exact ⟨by rw [HNF.out, HF.out]; rfl, HB1.out⟩
     | some u =>
      rw [ho] at HC HF
      have HC2 : Hid (Calls Tryz.prog 51 #[.string s, .bool false] W0 fun e w' => e = .returned (.tuple #[.string (bs u), .int .i64 0]) ∧ Below W0.heap.size W0 w') := HC
      clear HC ho
      by_cases hu : u = []
      ·have hue : ((bs u).size : Int) = 0 := by rw [hu]; rfl
       have HX : Hid (formO 2 s.data.toList = none) := by show _ = _; rw [HF.out, hu]; rfl
       clear hu
       go_enter Tryz.func69, Tryz.ntmps69
       go_wp2_with fail
       refine HC2.out.mono ?_
       rintro e w1 ⟨rfl, hB1⟩
       have HB1 := Lib.hid (HB0.out.trans (hB1.mono hw0))
       clear hB1
       go_wp2_with fail
       go_ret2
       exact ⟨by rw [HNF.out, HX.out]; rfl, HB1.out⟩
      ·have HX : Hid (formO 2 s.data.toList = some u) := by show _ = _; rw [HF.out, ne0_some hu]
       have hupN : 0 < (bs u).size := by
        rw [bs_size]
        exact List.length_pos_iff.2 hu
       have hup : (0 : Int) < ((bs u).size : Int) := by omega
       clear hu
       go_enter Tryz.func69, Tryz.ntmps69
       go_wp2_with fail
       refine HC2.out.mono ?_
       rintro e w1 ⟨rfl, hB1⟩
       have HB1 := Lib.hid (HB0.out.trans (hB1.mono hw0))
       clear hB1
       go_wp2_with fail
       go_ret2
       exact ⟨by rw [HNF.out, HX.out]; rfl, HB1.out⟩
    ·have HX : Hid (formO 3 s.data.toList = some s.data.toList) := rfl
     go_enter Tryz.func69, Tryz.ntmps69
     go_wp2_with fail
     go_ret2
     exact ⟨by rw [HNF.out, HX.out]; show _ = Ending.returned (.tuple #[.string (bs s.data.toList), .int .i64 0]); rw [bs_of]; rfl, HB0.out⟩
    ·have HC : Hid (∀ w, Calls Tryz.prog 124 #[.string s] w fun e w' => e = .returned (.bool (numOK s.data.toList)) ∧ w = w') := fun w => rnumber_any s w (by omega)
     have HF : Hid (formO 4 s.data.toList = if numOK s.data.toList = true then some s.data.toList else none) := rfl
     cases hn : numOK s.data.toList with
     | true =>
      rw [hn] at HC
      have HX : Hid (formO 4 s.data.toList = some s.data.toList) := by show _ = _; rw [HF.out, if_pos hn]
      clear hn
      go_enter Tryz.func69, Tryz.ntmps69
      go_wp2_with fail
      refine (HC.out _).mono ?_
      rintro e w1 ⟨rfl, rfl⟩
      go_wp2_with fail
      go_ret2
      exact ⟨by rw [HNF.out, HX.out]; show _ = Ending.returned (.tuple #[.string (bs s.data.toList), .int .i64 0]); rw [bs_of]; rfl, HB0.out⟩
     | false =>
      rw [hn] at HC
      have HX : Hid (formO 4 s.data.toList = none) := by show _ = _; rw [HF.out, if_neg (by rw [hn]; simp)]
      clear hn
      go_enter Tryz.func69, Tryz.ntmps69
      go_wp2_with fail
      refine (HC.out _).mono ?_
      rintro e w1 ⟨rfl, rfl⟩
      go_wp2_with fail
      go_ret2
      exact ⟨by rw [HNF.out, HX.out]; rfl, HB0.out⟩
    ·have HF : Hid (formO 5 s.data.toList = if s.data.toList = tT ∨ s.data.toList = tF then some s.data.toList else none) := rfl
     by_cases e1 : s.data.toList = tT
     ·have q1 : (s.toList == [84, 82, 85, 69]) = true := by rw [Lib.toList_data, e1]; rfl
      have HX : Hid (formO 5 s.data.toList = some s.data.toList) := by show _ = _; rw [HF.out, if_pos (Or.inl e1)]
      clear e1
      go_enter Tryz.func69, Tryz.ntmps69
      go_wp2_with fail
      go_ret2
      exact ⟨by rw [HNF.out, HX.out]; show _ = Ending.returned (.tuple #[.string (bs s.data.toList), .int .i64 0]); rw [bs_of]; rfl, HB0.out⟩
     ·have q1 : (s.toList == [84, 82, 85, 69]) = false := by rw [Lib.toList_data]; simpa [tT] using e1
      by_cases e2 : s.data.toList = tF
      ·have q2 : (s.toList == [70, 65, 76, 83, 69]) = true := by rw [Lib.toList_data, e2]; rfl
       have HX : Hid (formO 5 s.data.toList = some s.data.toList) := by show _ = _; rw [HF.out, if_pos (Or.inr e2)]
       clear e1 e2
       go_enter Tryz.func69, Tryz.ntmps69
       go_wp2_with fail
       go_ret2
       exact ⟨by rw [HNF.out, HX.out]; show _ = Ending.returned (.tuple #[.string (bs s.data.toList), .int .i64 0]); rw [bs_of]; rfl, HB0.out⟩
      ·have q2 : (s.toList == [70, 65, 76, 83, 69]) = false := by rw [Lib.toList_data]; simpa [tF] using e2
       have HX : Hid (formO 5 s.data.toList = none) := by
        show _ = _
        rw [HF.out, if_neg]
        rintro (h | h)
        ·exact e1 h
        ·exact e2 h
       clear e1 e2
       go_enter Tryz.func69, Tryz.ntmps69
       go_wp2_with fail
       go_ret2
       exact ⟨by rw [HNF.out, HX.out]; rfl, HB0.out⟩
    ·have HF : Hid (formO 6 s.data.toList = nameK s.data.toList) := rfl
     have HNK : Hid (∃ n er, dnw.parseV s = (n, er) ∧ dnw.nameOK n = true ∧ ((er = 0 ∧ nameK s.data.toList = some (joinK (dnw.keysB n))) ∨ (er = 4 ∧ nameK s.data.toList = none))) := by
      show ∃ n er, _
      unfold dnw.parseV nameK
      rw [if_neg (by omega)]
      cases hp : dnw.parseR s.data.toList with
      | none => exact ⟨[], 4, rfl, by decide, Or.inr ⟨rfl, rfl⟩⟩
      | some n => exact ⟨n, 0, rfl, parseR_ok hp, Or.inl ⟨rfl, rfl⟩⟩
     obtain ⟨n, er, hV, hok, hcase⟩ := HNK.out
     have HP : Hid (Calls Tryz.prog 110 #[.string s] W0 fun e w' => Below W0.heap.size W0 w' ∧ ∃ ao cap, e = .returned (.tuple #[.slice ao n.length cap, .int .i64 er]) ∧ dnw.Rdns w' ao n) := by
      refine (dnw.rparse_any s W0 hs).mono fun e w' h => ?_
      have := dnw.parseE_V h
      rw [hV] at this
      exact this
     have HNL : Hid (n.length ≤ 12) := by
      show _ ≤ _
      have h9 := hok
      unfold dnw.nameOK at h9
      rw [Bool.and_eq_true, decide_eq_true_eq] at h9
      exact h9.1
     have HSM : Hid (∀ l ∈ n, l.length ≤ 4 → dnw.Smalls l) := fun l hl _ => name_smalls hok l hl
     have HJL := Lib.hid (joinK_len n hok)
     have HOKN := Lib.hid hok
     obtain ⟨m, hm⟩ : ∃ m, m = n.length := ⟨_, rfl⟩
     rw [← hm] at HP
     have hmb : m ≤ 12 := by rw [hm]; exact HNL.out
     have HKA : Hid (∀ ao cap w, dnw.Rdns w ao n → Calls Tryz.prog 125 #[.slice ao m cap] w fun e w' => Below w.heap.size w w' ∧ ∃ ao2 cap2, e = .returned (.tuple #[.slice ao2 m cap2, .int .i64 0]) ∧ tupw.Strs w' ao2 (dnw.keysB n)) := by
      intro ao cap w h1
      rw [hm]
      refine (dnw.rkeys_any ao cap n w (Lib.hid h1) (by have := HNL.out; omega) HSM).mono fun e w' h => ?_
      obtain ⟨k1, k2⟩ := h
      rw [if_pos HOKN.out] at k2
      obtain ⟨a, c, e1, _, e2⟩ := k2
      exact ⟨k1, a, c, e1, e2⟩
     have HKL : Hid ((dnw.keysB n).length = m) := by show _ = _; rw [dnw.keysB_len, hm]
     generalize dnw.keysB n = ks at HKA HKL HJL hcase
     have HCS := Lib.hid hcase
     clear HNK hV hok hm hcase HOKN HSM HNL
     go_enter Tryz.func69, Tryz.ntmps69
     go_wp2_with fail
     refine HP.out.mono ?_
     rintro e w1 ⟨hB1, ao, cap, rfl, hR⟩
     have HR := Lib.hid hR
     have HB1 := Lib.hid (HB0.out.trans (hB1.mono hw0))
     clear hR hB1
     go_wp2_with fail
     refine (HKA.out _ _ _ HR.out).mono ?_
     rintro e w2 ⟨hB2, ao2, cap2, rfl, hS⟩
     have HS := Lib.hid hS
     have HB2 := Lib.hid (HB1.out.trans (hB2.mono HB1.out.size))
     clear hB2 hS
     have hq : (er == 0) = true ∧ nameK s.data.toList = some (joinK ks) ∨ (er == 0) = false ∧ nameK s.data.toList = none := by
      rcases HCS.out with ⟨h1, h2⟩ | ⟨h1, h2⟩
      ·exact Or.inl ⟨by rw [h1]; rfl, h2⟩
      ·exact Or.inr ⟨by rw [h1]; rfl, h2⟩
     rcases hq with ⟨q, hnk⟩ | ⟨q, hnk⟩
     all_goals
      have HNK := Lib.hid hnk
      clear hnk
      go_wp2_with fail
      go_loop [6, 14] (fun ov iv => ∃ i : Nat, i ≤ m ∧ iv = .int .i64 (i : Int) ∧ ov = .string (bs (joinK (ks.take i)))) (fun _ iv => m - (intOf iv).toNat)
      case atStart => exact ⟨0, Nat.zero_le _, rfl, rfl⟩
      case round =>
       obtain ⟨i, hi, rfl, rfl⟩ := hrel
       by_cases hlt : i < m
       ·have hltI : (i : Int) < (m : Int) := by omega
        have hik : i < ks.length := by rw [HKL.out]; exact hlt
        obtain ⟨b, o, rfl, hc⟩ := HS.out i hik
        have hsn := joinK_snoc ks i hik
        have hle1 := joinK_le ks (i + 1)
        rw [hsn, List.length_append, kt.size_len] at hle1
        have HSN := Lib.hid hsn
        generalize ks[i] = k at hc HSN hle1
        have hcat : bs (joinK (ks.take i)) ++ k = bs (joinK (ks.take (i + 1))) := by rw [HSN.out, ← bs_app, bs_of]
        have hcb : ¬ 9223372036854775807 < (bs (joinK (ks.take i))).size + k.size := by rw [bs_size]; have := HJL.out; omega
        clear hsn
        go_wp2_with fail
        go_round
        case rel => exact ⟨i + 1, by omega, by go_num, rfl⟩
        case measure => simp [intOf]; omega
       ·obtain rfl : i = m := by omega
        have hall : ks.take i = ks := List.take_of_length_le (by rw [HKL.out]; exact Nat.le_refl _)
        rw [hall]
        clear hall
        go_wp2_with fail
        go_ret2
        exact ⟨by rw [HNF.out, HF.out, HNK.out]; rfl, HB2.out⟩
    ·have HF : Hid (formO 7 s.data.toList = ne0 (prp.phoneO s.data.toList)) := rfl
     have HC : Hid (Calls Tryz.prog 126 #[.string s] W0 fun e w' => e = .returned (prw.pairV (prp.phoneO s.data.toList)) ∧ Below W0.heap.size W0 w') := prw.rphone_any s W0 (by omega)
     cases ho : prp.phoneO s.data.toList with
     | none =>
      rw [ho] at HC HF
      rw [show prw.pairV none = .tuple #[.string ⟨#[]⟩, .int .i64 19] from rfl] at HC
      clear ho
      go_enter Tryz.func69, Tryz.ntmps69
      go_wp2_with fail
      refine HC.out.mono ?_
      rintro e w1 ⟨rfl, hB1⟩
      have HB1 := Lib.hid (HB0.out.trans (hB1.mono hw0))
      clear hB1
      go_wp2_with fail
      go_ret2
      exact ⟨by rw [HNF.out, HF.out]; rfl, HB1.out⟩
     | some u =>
      rw [ho] at HC HF
      have HC2 : Hid (Calls Tryz.prog 126 #[.string s] W0 fun e w' => e = .returned (.tuple #[.string (bs u), .int .i64 0]) ∧ Below W0.heap.size W0 w') := HC
      clear HC ho
      by_cases hu : u = []
      ·have hue : ((bs u).size : Int) = 0 := by rw [hu]; rfl
       have HX : Hid (formO 7 s.data.toList = none) := by show _ = _; rw [HF.out, hu]; rfl
       clear hu
       go_enter Tryz.func69, Tryz.ntmps69
       go_wp2_with fail
       refine HC2.out.mono ?_
       rintro e w1 ⟨rfl, hB1⟩
       have HB1 := Lib.hid (HB0.out.trans (hB1.mono hw0))
       clear hB1
       go_wp2_with fail
       go_ret2
       exact ⟨by rw [HNF.out, HX.out]; rfl, HB1.out⟩
      ·have HX : Hid (formO 7 s.data.toList = some u) := by show _ = _; rw [HF.out, ne0_some hu]
       have hupN : 0 < (bs u).size := by
        rw [bs_size]
        exact List.length_pos_iff.2 hu
       have hup : (0 : Int) < ((bs u).size : Int) := by omega
       clear hu
       go_enter Tryz.func69, Tryz.ntmps69
       go_wp2_with fail
       refine HC2.out.mono ?_
       rintro e w1 ⟨rfl, hB1⟩
       have HB1 := Lib.hid (HB0.out.trans (hB1.mono hw0))
       clear hB1
       go_wp2_with fail
       go_ret2
       exact ⟨by rw [HNF.out, HX.out]; rfl, HB1.out⟩
 ·rw [normL_bad hsy]
  by_cases hs1 : syn < 1
  ·clear hsy
   go_enter Tryz.func69, Tryz.ntmps69
   go_wp2_with fail
   go_ret2
   exact ⟨rfl, HB0.out⟩
  ·have hs7 : 7 < syn := by omega
   have q1 : decide (syn < 1) = false := by rw [decide_eq_false_iff_not]; omega
   clear hsy hs1
   go_enter Tryz.func69, Tryz.ntmps69
   go_wp2_with fail
   go_ret2
   exact ⟨rfl, HB0.out⟩
end atw
end Go.Proofs.YtcolcogobdgejaaGreatDoor
/-! HoldW -/
namespace Go.Proofs.YtcolcogobdgejaaGreatDoor
open Go.RowKit
namespace atw
open atp
set_option linter.unusedVariables false
set_option linter.unusedSimpArgs false
def TB (w : World) (p : Nat) (nm : ByteArray) (syn : Int) (sg : Bool) : Prop := w.heap[p]? = some (.cells #[.string nm, .int .i64 syn, .bool sg] 29 (0, 0))
theorem tb_new (w : World) (nm : ByteArray) (syn : Int) (sg : Bool) : TB (w.alloc (.cells #[.string nm, .int .i64 syn, .bool sg] 29)) w.heap.size nm syn sg := heap_alloc_new w _
theorem tb_cells {w : World} {p : Nat} {nm : ByteArray} {syn : Int} {sg : Bool} (h : TB w p nm syn sg) : w.cell? ⟨p, 0, none⟩ = some (.string nm) ∧ w.cell? ⟨p, 1, none⟩ = some (.int .i64 syn) ∧ w.cell? ⟨p, 2, none⟩ = some (.bool sg) :=
 ⟨by rw [Lib.cell_of_heap h]; rfl, by rw [Lib.cell_of_heap h]; rfl, by rw [Lib.cell_of_heap h]; rfl⟩
theorem tb_below {w w' : World} {p : Nat} {nm : ByteArray} {syn : Int} {sg : Bool} (h : TB w p nm syn sg) (hb : Below w.heap.size w w') : TB w' p nm syn sg := (hb.block p (kt.bld_lt h)).trans h
def bothL (syn : Int) (a b : List UInt8) : List UInt8 × List UInt8 × Int :=
 if (normL syn a).2 ≠ 0 then ([], [], (normL syn a).2) else if (normL syn b).2 ≠ 0 then ([], [], (normL syn b).2) else ((normL syn a).1, (normL syn b).1, 0)
def eqL (syn : Int) (a b : List UInt8) : Bool × Int := (decide ((bothL syn a b).2.2 = 0) && decide ((bothL syn a b).1 = (bothL syn a b).2.1), (bothL syn a b).2.2)
set_option maxRecDepth 20000 in
set_option maxHeartbeats 4000000 in
theorem both_any (nm : ByteArray) (syn : Int) (sg : Bool) (a b : ByteArray) (w : World) (ha : a.size ≤ 140737488351232) (hb : b.size ≤ 140737488351232) (hE : Hid (prw.Env w)) (hT : Hid (dnw.Tabs w)) :
  Calls Tryz.prog 173 #[.agg #[.string nm, .int .i64 syn, .bool sg], .string a, .string b] w fun e w' => e = .returned (.tuple #[.string (bs (bothL syn a.data.toList b.data.toList).1), .string (bs (bothL syn a.data.toList b.data.toList).2.1), .int .i64 (bothL syn a.data.toList b.data.toList).2.2]) ∧ Below w.heap.size w w' := by
 obtain ⟨W0, hW0⟩ : ∃ W, w.alloc (.cells #[.string nm, .int .i64 syn, .bool sg] 29) = W := ⟨_, rfl⟩
 have hB0 : Below w.heap.size w W0 := by rw [← hW0]; exact (Below.refl _ _).alloc (Nat.le_refl _) _
 have HB0 := Lib.hid hB0
 have hw0 : w.heap.size ≤ W0.heap.size := hB0.size
 have HTB0 : Hid (TB W0 w.heap.size nm syn sg) := by rw [← hW0]; exact tb_new w nm syn sg
 obtain ⟨k0, k1, k2⟩ := tb_cells HTB0.out
 have HE0 := Lib.hid (prw.env_below hE.out hB0)
 have HT0 := Lib.hid (dnw.tabs_below hT.out hB0)
 have HNA : Hid (∀ w, prw.Env w → dnw.Tabs w → Calls Tryz.prog 174 #[.agg #[.string nm, .int .i64 syn, .bool sg], .string a] w fun e w' => e = .returned (normV (normL syn a.data.toList)) ∧ Below w.heap.size w w') := fun w h1 h2 => normal_any nm syn sg a w ha (Lib.hid h1) (Lib.hid h2)
 have HNB : Hid (∀ w, prw.Env w → dnw.Tabs w → Calls Tryz.prog 174 #[.agg #[.string nm, .int .i64 syn, .bool sg], .string b] w fun e w' => e = .returned (normV (normL syn b.data.toList)) ∧ Below w.heap.size w w') := fun w h1 h2 => normal_any nm syn sg b w hb (Lib.hid h1) (Lib.hid h2)
 unfold bothL
 obtain ⟨na, hna⟩ : ∃ u, normL syn a.data.toList = u := ⟨_, rfl⟩
 obtain ⟨nb, hnb⟩ : ∃ u, normL syn b.data.toList = u := ⟨_, rfl⟩
 rw [hna] at HNA ⊢
 rw [hnb] at HNB ⊢
 clear hna hnb hB0
 obtain ⟨u, ea⟩ := na
 obtain ⟨v, eb⟩ := nb
 have HNA2 : Hid (∀ w, prw.Env w → dnw.Tabs w → Calls Tryz.prog 174 #[.agg #[.string nm, .int .i64 syn, .bool sg], .string a] w fun e w' => e = .returned (.tuple #[.string (bs u), .int .i64 ea]) ∧ Below w.heap.size w w') := HNA
 have HNB2 : Hid (∀ w, prw.Env w → dnw.Tabs w → Calls Tryz.prog 174 #[.agg #[.string nm, .int .i64 syn, .bool sg], .string b] w fun e w' => e = .returned (.tuple #[.string (bs v), .int .i64 eb]) ∧ Below w.heap.size w w') := HNB
 clear HNA HNB
 by_cases hea : ea = 0
 ·have q : (ea != 0) = false := by rw [bne_eq_false_iff_eq]; exact hea
  rw [if_neg (not_not_intro hea)]
  clear hea
  by_cases heb : eb = 0
  ·have q2 : (eb != 0) = false := by rw [bne_eq_false_iff_eq]; exact heb
   rw [if_neg (not_not_intro heb)]
   clear heb
   go_enter Tryz.func173, Tryz.ntmps173
   go_wp2_with fail
   refine (HNA2.out _ HE0.out HT0.out).mono ?_
   rintro e w1 ⟨rfl, hB1⟩
   have HB1 := Lib.hid (HB0.out.trans (hB1.mono hw0))
   have HE1 := Lib.hid (prw.env_below HE0.out hB1)
   have HT1 := Lib.hid (dnw.tabs_below HT0.out hB1)
   obtain ⟨m0, m1, m2⟩ := tb_cells (tb_below HTB0.out hB1)
   clear hB1 hW0 k0 k1 k2
   go_wp2_with fail
   refine (HNB2.out _ HE1.out HT1.out).mono ?_
   rintro e w2 ⟨rfl, hB2⟩
   have HB2 := Lib.hid (HB1.out.trans (hB2.mono HB1.out.size))
   clear hB2
   go_wp2_with fail
   go_ret3
   exact ⟨rfl, HB2.out⟩
  ·have q2 : (eb != 0) = true := by rw [bne_iff_ne]; exact heb
   rw [if_pos heb]
   clear heb
   go_enter Tryz.func173, Tryz.ntmps173
   go_wp2_with fail
   refine (HNA2.out _ HE0.out HT0.out).mono ?_
   rintro e w1 ⟨rfl, hB1⟩
   have HB1 := Lib.hid (HB0.out.trans (hB1.mono hw0))
   have HE1 := Lib.hid (prw.env_below HE0.out hB1)
   have HT1 := Lib.hid (dnw.tabs_below HT0.out hB1)
   obtain ⟨m0, m1, m2⟩ := tb_cells (tb_below HTB0.out hB1)
   clear hB1 hW0 k0 k1 k2
   go_wp2_with fail
   refine (HNB2.out _ HE1.out HT1.out).mono ?_
   rintro e w2 ⟨rfl, hB2⟩
   have HB2 := Lib.hid (HB1.out.trans (hB2.mono HB1.out.size))
   clear hB2
   go_wp2_with fail
   go_ret3
   exact ⟨rfl, HB2.out⟩
 ·have q : (ea != 0) = true := by rw [bne_iff_ne]; exact hea
  rw [if_pos hea]
  clear hea
  go_enter Tryz.func173, Tryz.ntmps173
  go_wp2_with fail
  refine (HNA2.out _ HE0.out HT0.out).mono ?_
  rintro e w1 ⟨rfl, hB1⟩
  have HB1 := Lib.hid (HB0.out.trans (hB1.mono hw0))
  clear hB1 hW0
  go_wp2_with fail
  go_ret3
  exact ⟨rfl, HB1.out⟩
set_option maxRecDepth 20000 in
set_option maxHeartbeats 4000000 in
theorem equal_any (nm : ByteArray) (syn : Int) (sg : Bool) (a b : ByteArray) (w : World) (ha : a.size ≤ 140737488351232) (hb : b.size ≤ 140737488351232) (hE : Hid (prw.Env w)) (hT : Hid (dnw.Tabs w)) :
  Calls Tryz.prog 130 #[.agg #[.string nm, .int .i64 syn, .bool sg], .string a, .string b] w fun e w' => e = .returned (.tuple #[.bool (eqL syn a.data.toList b.data.toList).1, .int .i64 (eqL syn a.data.toList b.data.toList).2]) ∧ Below w.heap.size w w' := by
 obtain ⟨W0, hW0⟩ : ∃ W, w.alloc (.cells #[.string nm, .int .i64 syn, .bool sg] 29) = W := ⟨_, rfl⟩
 have hB0 : Below w.heap.size w W0 := by rw [← hW0]; exact (Below.refl _ _).alloc (Nat.le_refl _) _
 have HB0 := Lib.hid hB0
 have hw0 : w.heap.size ≤ W0.heap.size := hB0.size
 have HTB0 : Hid (TB W0 w.heap.size nm syn sg) := by rw [← hW0]; exact tb_new w nm syn sg
 obtain ⟨k0, k1, k2⟩ := tb_cells HTB0.out
 have HE0 := Lib.hid (prw.env_below hE.out hB0)
 have HT0 := Lib.hid (dnw.tabs_below hT.out hB0)
 have HBO : Hid (∀ w, prw.Env w → dnw.Tabs w → Calls Tryz.prog 173 #[.agg #[.string nm, .int .i64 syn, .bool sg], .string a, .string b] w fun e w' => e = .returned (.tuple #[.string (bs (bothL syn a.data.toList b.data.toList).1), .string (bs (bothL syn a.data.toList b.data.toList).2.1), .int .i64 (bothL syn a.data.toList b.data.toList).2.2]) ∧ Below w.heap.size w w') := fun w h1 h2 => both_any nm syn sg a b w ha hb (Lib.hid h1) (Lib.hid h2)
 unfold eqL
 generalize bothL syn a.data.toList b.data.toList = bo at HBO ⊢
 obtain ⟨u, v, er⟩ := bo
 simp only at HBO ⊢
 have heq := bs_beq u v
 clear hB0
 obtain ⟨c, hc⟩ : ∃ c, decide (u = v) = c := ⟨_, rfl⟩
 rw [hc] at heq ⊢
 clear hc
 by_cases her : er = 0
 ·have q : (er == 0) = true := by rw [beq_iff_eq]; exact her
  rw [decide_eq_true her]
  clear her
  go_enter Tryz.func130, Tryz.ntmps130
  go_wp2_with fail
  refine (HBO.out _ HE0.out HT0.out).mono ?_
  rintro e w1 ⟨rfl, hB1⟩
  have HB1 := Lib.hid (HB0.out.trans (hB1.mono hw0))
  clear hB1 hW0
  go_wp2_with fail
  go_ret2
  exact ⟨rfl, HB1.out⟩
 ·have q : (er == 0) = false := by rw [beq_eq_false_iff_ne]; exact her
  rw [decide_eq_false her]
  clear her
  go_enter Tryz.func130, Tryz.ntmps130
  go_wp2_with fail
  refine (HBO.out _ HE0.out HT0.out).mono ?_
  rintro e w1 ⟨rfl, hB1⟩
  have HB1 := Lib.hid (HB0.out.trans (hB1.mono hw0))
  clear hB1 hW0
  go_wp2_with fail
  go_ret2
  exact ⟨rfl, HB1.out⟩
set_option maxRecDepth 20000 in
set_option maxHeartbeats 4000000 in
theorem requal_any (nm : ByteArray) (syn : Int) (sg : Bool) (a b : ByteArray) (w : World) (ha : a.size ≤ 140737488351232) (hb : b.size ≤ 140737488351232) :
  Calls Tryz.prog 74 #[.agg #[.string nm, .int .i64 syn, .bool sg], .string a, .string b] w fun e w' => e = .returned (.tuple #[.bool (eqL syn a.data.toList b.data.toList).1, .int .i64 (eqL syn a.data.toList b.data.toList).2]) ∧ Below w.heap.size w w' := by
 obtain ⟨W0, hW0⟩ : ∃ W, w.alloc (.cells #[.string nm, .int .i64 syn, .bool sg] 29) = W := ⟨_, rfl⟩
 have hB0 : Below w.heap.size w W0 := by rw [← hW0]; exact (Below.refl _ _).alloc (Nat.le_refl _) _
 have HB0 := Lib.hid hB0
 have hw0 : w.heap.size ≤ W0.heap.size := hB0.size
 have HTB0 : Hid (TB W0 w.heap.size nm syn sg) := by rw [← hW0]; exact tb_new w nm syn sg
 obtain ⟨k0, k1, k2⟩ := tb_cells HTB0.out
 have HNA : Hid (∀ w, Calls Tryz.prog 69 #[.agg #[.string nm, .int .i64 syn, .bool sg], .string a] w fun e w' => e = .returned (normV (normL syn a.data.toList)) ∧ Below w.heap.size w w') := fun w => rnormal_any nm syn sg a w ha
 have HNB : Hid (∀ w, Calls Tryz.prog 69 #[.agg #[.string nm, .int .i64 syn, .bool sg], .string b] w fun e w' => e = .returned (normV (normL syn b.data.toList)) ∧ Below w.heap.size w w') := fun w => rnormal_any nm syn sg b w hb
 unfold eqL bothL
 obtain ⟨na, hna⟩ : ∃ u, normL syn a.data.toList = u := ⟨_, rfl⟩
 obtain ⟨nb, hnb⟩ : ∃ u, normL syn b.data.toList = u := ⟨_, rfl⟩
 rw [hna] at HNA ⊢
 rw [hnb] at HNB ⊢
 clear hna hnb hB0
 obtain ⟨u, ea⟩ := na
 obtain ⟨v, eb⟩ := nb
 have HNA2 : Hid (∀ w, Calls Tryz.prog 69 #[.agg #[.string nm, .int .i64 syn, .bool sg], .string a] w fun e w' => e = .returned (.tuple #[.string (bs u), .int .i64 ea]) ∧ Below w.heap.size w w') := HNA
 have HNB2 : Hid (∀ w, Calls Tryz.prog 69 #[.agg #[.string nm, .int .i64 syn, .bool sg], .string b] w fun e w' => e = .returned (.tuple #[.string (bs v), .int .i64 eb]) ∧ Below w.heap.size w w') := HNB
 have heq := bs_beq u v
 obtain ⟨c, hc⟩ : ∃ c, decide (u = v) = c := ⟨_, rfl⟩
 rw [hc] at heq
 have HC := Lib.hid hc
 clear HNA HNB hc
 by_cases hea : ea = 0
 ·have q : (ea != 0) = false := by rw [bne_eq_false_iff_eq]; exact hea
  rw [if_neg (not_not_intro hea)]
  clear hea
  by_cases heb : eb = 0
  ·have q2 : (eb != 0) = false := by rw [bne_eq_false_iff_eq]; exact heb
   rw [if_neg (not_not_intro heb)]
   clear heb
   simp only [HC.out, decide_true, Bool.true_and]
   go_enter Tryz.func74, Tryz.ntmps74
   go_wp2_with fail
   refine (HNA2.out _).mono ?_
   rintro e w1 ⟨rfl, hB1⟩
   have HB1 := Lib.hid (HB0.out.trans (hB1.mono hw0))
   obtain ⟨m0, m1, m2⟩ := tb_cells (tb_below HTB0.out hB1)
   have HTB1 := Lib.hid (tb_below HTB0.out hB1)
   clear hB1 hW0 k0 k1 k2
   go_wp2_with fail
   refine (HNB2.out _).mono ?_
   rintro e w2 ⟨rfl, hB2⟩
   have HB2 := Lib.hid (HB1.out.trans (hB2.mono HB1.out.size))
   obtain ⟨n0, n1, n2⟩ := tb_cells (tb_below HTB1.out hB2)
   clear hB2 m0 m1 m2
   go_wp2_with fail
   go_ret2
   exact ⟨rfl, HB2.out⟩
  ·have q2 : (eb != 0) = true := by rw [bne_iff_ne]; exact heb
   rw [if_pos heb]
   simp only [decide_eq_false heb, Bool.false_and]
   clear heb
   go_enter Tryz.func74, Tryz.ntmps74
   go_wp2_with fail
   refine (HNA2.out _).mono ?_
   rintro e w1 ⟨rfl, hB1⟩
   have HB1 := Lib.hid (HB0.out.trans (hB1.mono hw0))
   obtain ⟨m0, m1, m2⟩ := tb_cells (tb_below HTB0.out hB1)
   have HTB1 := Lib.hid (tb_below HTB0.out hB1)
   clear hB1 hW0 k0 k1 k2
   go_wp2_with fail
   refine (HNB2.out _).mono ?_
   rintro e w2 ⟨rfl, hB2⟩
   have HB2 := Lib.hid (HB1.out.trans (hB2.mono HB1.out.size))
   obtain ⟨n0, n1, n2⟩ := tb_cells (tb_below HTB1.out hB2)
   clear hB2 m0 m1 m2
   go_wp2_with fail
   go_ret2
   exact ⟨rfl, HB2.out⟩
 ·have q : (ea != 0) = true := by rw [bne_iff_ne]; exact hea
  rw [if_pos hea]
  simp only [decide_eq_false hea, Bool.false_and]
  clear hea
  go_enter Tryz.func74, Tryz.ntmps74
  go_wp2_with fail
  refine (HNA2.out _).mono ?_
  rintro e w1 ⟨rfl, hB1⟩
  have HB1 := Lib.hid (HB0.out.trans (hB1.mono hw0))
  clear hB1 hW0
  go_wp2_with fail
  go_ret2
  exact ⟨rfl, HB1.out⟩
end atw
end Go.Proofs.YtcolcogobdgejaaGreatDoor
/-! CmpT -/
namespace Go.Proofs.YtcolcogobdgejaaGreatDoor
namespace ord
open Go.Lib
theorem u8_trans {a b c : UInt8} (h : a < b) (k : b < c) : a < c := by
 have h1 := UInt8.lt_iff_toNat_lt.1 h
 have h2 := UInt8.lt_iff_toNat_lt.1 k
 exact UInt8.lt_iff_toNat_lt.2 (by omega)
theorem cmp_trans : ∀ {a b c : List UInt8}, compareBytes a b = -1 → compareBytes b c = -1 → compareBytes a c = -1
 | [], [], _, h, _ => by cases h
 | [], _ :: _, [], _, h => by cases h
 | [], _ :: _, _ :: _, _, _ => rfl
 | _ :: _, [], _, h, _ => by cases h
 | _ :: _, _ :: _, [], _, h => by cases h
 | a :: s, b :: t, c :: u, h, k => by
  rcases cmp_cases a b with h1 | h1 | rfl
  ·rcases cmp_cases b c with k1 | k1 | rfl
   ·exact cmp_lt (u8_trans h1 k1) _ _
   ·rw [cmp_gt k1] at k; cases k
   ·exact cmp_lt h1 _ _
  ·rw [cmp_gt h1] at h; cases h
  ·rcases cmp_cases a c with k1 | k1 | rfl
   ·exact cmp_lt k1 _ _
   ·rw [cmp_gt k1] at k; cases k
   ·rw [cmp_same] at h k ⊢
    exact cmp_trans h k
end ord
end Go.Proofs.YtcolcogobdgejaaGreatDoor
/-! CmpB -/
namespace Go.Proofs.YtcolcogobdgejaaGreatDoor
namespace ord
open Go.Lib
theorem less_cmp : ∀ a b : List UInt8, Op.bytesLess a b = decide (compareBytes a b = -1)
 | [], [] => rfl
 | [], _ :: _ => rfl
 | _ :: _, [] => rfl
 | a :: s, b :: t => by
  rcases cmp_cases a b with h | h | rfl
  ·rw [cmp_lt h]
   simp [Op.bytesLess, h]
  ·rw [cmp_gt h]
   have hn : ¬ a < b := by
    intro h'
    have h1 := UInt8.lt_iff_toNat_lt.1 h
    have h2 := UInt8.lt_iff_toNat_lt.1 h'
    omega
   have hne : ¬ a = b := by rintro rfl; exact absurd (UInt8.lt_iff_toNat_lt.1 h) (by omega)
   simp [Op.bytesLess, hn, hne]
  ·rw [cmp_same, ← less_cmp s t]
   simp [Op.bytesLess]
theorem cmp_zero : ∀ a b : List UInt8, compareBytes a b = 0 ↔ a = b
 | [], [] => by simp [compareBytes]
 | [], _ :: _ => by simp [compareBytes]
 | _ :: _, [] => by simp [compareBytes]
 | a :: s, b :: t => by
  rcases cmp_cases a b with h | h | rfl
  ·rw [cmp_lt h]
   have : a ≠ b := by rintro rfl; exact absurd (UInt8.lt_iff_toNat_lt.1 h) (by omega)
   simp [this]
  ·rw [cmp_gt h]
   have : a ≠ b := by rintro rfl; exact absurd (UInt8.lt_iff_toNat_lt.1 h) (by omega)
   simp [this]
  ·rw [cmp_same, cmp_zero s t]
   simp
theorem ways (a b : ByteArray) :
  (compareBytes a.data.toList b.data.toList = -1 ∧ Op.bytesLess a.toList b.toList = true ∧ (a.toList == b.toList) = false ∧ Op.bytesLess b.toList a.toList = false) ∨
  (compareBytes a.data.toList b.data.toList = 0 ∧ a = b) ∨
  (compareBytes a.data.toList b.data.toList = 1 ∧ Op.bytesLess a.toList b.toList = false ∧ (a.toList == b.toList) = false ∧ Op.bytesLess b.toList a.toList = true) := by
 rw [Lib.toList_data, Lib.toList_data, less_cmp, less_cmp, cmp_neg a.data.toList b.data.toList]
 rcases cmp_three a.data.toList b.data.toList with h | h | h
 ·left
  refine ⟨h, by rw [h]; rfl, ?_, by rw [h]; rfl⟩
  rw [beq_eq_false_iff_ne]
  intro e
  have := (cmp_zero _ _).2 e
  omega
 ·right; left
  refine ⟨h, ?_⟩
  have e := (cmp_zero _ _).1 h
  cases a; cases b
  simp at e
  simp [e]
 ·right; right
  refine ⟨h, by rw [h]; rfl, ?_, by rw [h]; rfl⟩
  rw [beq_eq_false_iff_ne]
  intro e
  have := (cmp_zero _ _).2 e
  omega
end ord
end Go.Proofs.YtcolcogobdgejaaGreatDoor
/-! OrdQ -/
namespace Go.Proofs.YtcolcogobdgejaaGreatDoor
namespace atp
open atw
set_option linter.unusedVariables false
set_option linter.unusedSimpArgs false
theorem both_ok {syn : Int} {a b : List UInt8} (ha : (normL syn a).2 = 0) (hb : (normL syn b).2 = 0) : bothL syn a b = ((normL syn a).1, (normL syn b).1, 0) := by
 unfold bothL
 rw [if_neg (not_not_intro ha), if_neg (not_not_intro hb)]
theorem both_err {syn : Int} {a b : List UInt8} : (bothL syn a b).2.2 = 0 ↔ (normL syn a).2 = 0 ∧ (normL syn b).2 = 0 := by
 unfold bothL
 by_cases ha : (normL syn a).2 = 0
 ·by_cases hb : (normL syn b).2 = 0
  ·rw [if_neg (not_not_intro ha), if_neg (not_not_intro hb)]; exact ⟨fun _ => ⟨ha, hb⟩, fun _ => rfl⟩
  ·rw [if_neg (not_not_intro ha), if_pos hb]; exact ⟨fun h => absurd h hb, fun h => absurd h.2 hb⟩
 ·rw [if_pos ha]; exact ⟨fun h => absurd h ha, fun h => absurd h.1 ha⟩
theorem eq_ok {syn : Int} {a b : List UInt8} (ha : (normL syn a).2 = 0) (hb : (normL syn b).2 = 0) : eqL syn a b = (decide ((normL syn a).1 = (normL syn b).1), 0) := by
 unfold eqL
 rw [both_ok ha hb]
 rfl
end atp
end Go.Proofs.YtcolcogobdgejaaGreatDoor
/-! EntP -/
namespace Go.Proofs.YtcolcogobdgejaaGreatDoor
namespace etp
open atp atw
set_option linter.unusedVariables false
set_option linter.unusedSimpArgs false
structure At where
 t : ByteArray
 vs : List ByteArray
structure En where
 rdn : List dnw.Av
 ats : List At
def okV (syn : Int) (v : ByteArray) : Bool := decide ((normL syn v.data.toList).2 = 0)
def nv (syn : Int) (v : ByteArray) : List UInt8 := (normL syn v.data.toList).1
def alike (syn : Int) (a b : ByteArray) : Bool := (eqL syn a.data.toList b.data.toList).1
theorem alike_iff {syn : Int} {a b : ByteArray} : alike syn a b = true ↔ okV syn a = true ∧ okV syn b = true ∧ nv syn a = nv syn b := by
 unfold alike okV nv
 rw [decide_eq_true_iff, decide_eq_true_iff]
 by_cases ha : (normL syn a.data.toList).2 = 0
 ·by_cases hb : (normL syn b.data.toList).2 = 0
  ·rw [eq_ok ha hb, decide_eq_true_iff]
   exact ⟨fun h => ⟨ha, hb, h⟩, fun h => h.2.2⟩
  ·refine ⟨fun h => ?_, fun h => absurd h.2.1 hb⟩
   unfold eqL at h
   rw [Bool.and_eq_true, decide_eq_true_iff] at h
   exact absurd (both_err.1 h.1).2 hb
 ·refine ⟨fun h => ?_, fun h => absurd h.1 ha⟩
  unfold eqL at h
  rw [Bool.and_eq_true, decide_eq_true_iff] at h
  exact absurd (both_err.1 h.1).1 ha
theorem alike_err {syn : Int} {a b : ByteArray} (h : alike syn a b = true) : (eqL syn a.data.toList b.data.toList).2 = 0 := by
 unfold alike eqL at h
 rw [Bool.and_eq_true, decide_eq_true_iff] at h
 exact h.1
theorem alike_self {syn : Int} {a : ByteArray} (h : okV syn a = true) : alike syn a a = true := alike_iff.2 ⟨h, h, rfl⟩
def likeN (syn : Int) (l : List ByteArray) (v : ByteArray) : Option Nat := l.findIdx? fun x => alike syn x v
def likeI (syn : Int) (l : List ByteArray) (v : ByteArray) : Int := match likeN syn l v with
 | some i => (i : Int)
 | none => -1
theorem likeI_neg {syn : Int} {l : List ByteArray} {v : ByteArray} : likeI syn l v < 0 ↔ likeN syn l v = none := by
 unfold likeI
 cases likeN syn l v with
 | none => simp
 | some i => simp
theorem likeN_none {syn : Int} {l : List ByteArray} {v : ByteArray} : likeN syn l v = none ↔ ∀ x ∈ l, alike syn x v = false := by
 unfold likeN
 rw [List.findIdx?_eq_none_iff]
theorem likeN_some {syn : Int} {l : List ByteArray} {v : ByteArray} {i : Nat} (h : likeN syn l v = some i) : ∃ hi : i < l.length, alike syn l[i] v = true ∧ ∀ j (hj : j < i), alike syn (l[j]'(Nat.lt_trans hj hi)) v = false := by
 unfold likeN at h
 rw [List.findIdx?_eq_some_iff_getElem] at h
 obtain ⟨hi, h1, h2⟩ := h
 exact ⟨hi, h1, fun j hj => by simpa using h2 j hj⟩
theorem likeI_hit {syn : Int} {l : List ByteArray} {v : ByteArray} {i : Nat} (hi : i < l.length) (h1 : alike syn l[i] v = true) (h2 : ∀ j (hj : j < l.length), j < i → alike syn l[j] v = false) : likeI syn l v = (i : Int) := by
 have : likeN syn l v = some i := by
  unfold likeN
  rw [List.findIdx?_eq_some_iff_getElem]
  exact ⟨hi, h1, fun j hj => by simpa using h2 j (by omega) hj⟩
 unfold likeI
 rw [this]
theorem likeI_none {syn : Int} {l : List ByteArray} {v : ByteArray} (h : ∀ j (hj : j < l.length), alike syn l[j] v = false) : likeI syn l v = -1 := by
 have : likeN syn l v = none := by
  rw [likeN_none]
  intro x hx
  obtain ⟨j, hj, rfl⟩ := List.mem_iff_getElem.1 hx
  exact h j hj
 unfold likeI
 rw [this]
def fresh (syn : Int) : List ByteArray → List ByteArray → Bool
 | _, [] => true
 | p, v :: r => okV syn v && decide (likeI syn p v < 0) && fresh syn (p ++ [v]) r
theorem fresh_iff {syn : Int} : ∀ (vs p : List ByteArray), (∀ x ∈ p, okV syn x = true) → (p.map (nv syn)).Nodup → (fresh syn p vs = true ↔ (∀ v ∈ vs, okV syn v = true) ∧ ((p ++ vs).map (nv syn)).Nodup)
 | [], p, h1, h2 => by
  simp only [fresh, List.append_nil, true_iff]
  exact ⟨fun v hv => (by cases hv), h2⟩
 | v :: r, p, h1, h2 => by
  rw [fresh, Bool.and_eq_true, Bool.and_eq_true, decide_eq_true_iff, likeI_neg, likeN_none]
  have key : okV syn v = true → ((∀ x ∈ p, alike syn x v = false) ↔ nv syn v ∉ p.map (nv syn)) := by
   intro hv
   constructor
   ·intro h hm
    obtain ⟨x, hx, e⟩ := List.mem_map.1 hm
    have := h x hx
    rw [alike_iff.2 ⟨h1 x hx, hv, e⟩] at this
    cases this
   ·intro h x hx
    rw [Bool.eq_false_iff]
    intro ha
    exact h (List.mem_map.2 ⟨x, hx, (alike_iff.1 ha).2.2⟩)
  have ass : p ++ v :: r = (p ++ [v]) ++ r := by simp
  constructor
  ·rintro ⟨⟨hv, hl⟩, hf⟩
   have hn : ((p ++ [v]).map (nv syn)).Nodup := by
    rw [List.map_append, List.nodup_append]
    refine ⟨h2, by simp, ?_⟩
    intro a ha b hb e
    simp only [List.map_cons, List.map_nil, List.mem_singleton] at hb
    subst hb
    subst e
    exact (key hv).1 hl ha
   have ih := (fresh_iff r (p ++ [v]) (by
    intro x hx
    rcases List.mem_append.1 hx with h | h
    ·exact h1 x h
    ·rw [List.mem_singleton] at h; rw [h]; exact hv) hn).1 hf
   refine ⟨fun u hu => ?_, by rw [ass]; exact ih.2⟩
   rcases List.mem_cons.1 hu with rfl | hu
   ·exact hv
   ·exact ih.1 u hu
  ·rintro ⟨ho, hn⟩
   have hv := ho v (by simp)
   rw [ass, List.map_append, List.nodup_append] at hn
   obtain ⟨hn1, hn2, hn3⟩ := hn
   have hn1' := hn1
   rw [List.map_append, List.nodup_append] at hn1'
   refine ⟨⟨hv, (key hv).2 fun hm => hn1'.2.2 _ hm _ (by simp) rfl⟩, ?_⟩
   refine (fresh_iff r (p ++ [v]) ?_ hn1).2 ⟨fun u hu => ho u (by simp [hu]), ?_⟩
   ·intro x hx
    rcases List.mem_append.1 hx with h | h
    ·exact h1 x h
    ·rw [List.mem_singleton] at h; rw [h]; exact hv
   ·rw [List.map_append, List.nodup_append]
    exact ⟨hn1, hn2, hn3⟩
def mostT (single : Bool) : Nat := if single then 1 else 20
def valsOK (t : Ty) (vs : List ByteArray) : Bool := decide (1 ≤ vs.length) && decide (vs.length ≤ mostT t.single) && fresh t.syn [] vs
def faultI (syn : Int) : List ByteArray → Int
 | [] => 0
 | v :: r => if (normL syn v.data.toList).2 ≠ 0 then (normL syn v.data.toList).2 else faultI syn r
theorem fault_zero {syn : Int} : ∀ l : List ByteArray, faultI syn l = 0 ↔ ∀ v ∈ l, okV syn v = true
 | [] => by simp [faultI]
 | v :: r => by
  unfold faultI
  by_cases h : (normL syn v.data.toList).2 = 0
  ·rw [if_neg (not_not_intro h), fault_zero r]
   constructor
   ·intro h1 u hu
    rcases List.mem_cons.1 hu with rfl | hu
    ·exact decide_eq_true h
    ·exact h1 u hu
   ·exact fun h1 u hu => h1 u (by simp [hu])
  ·rw [if_pos h]
   exact ⟨fun h1 => absurd h1 h, fun h1 => absurd (of_decide_eq_true (h1 v (by simp))) h⟩
def tyOf (t : ByteArray) : Option Ty := findS t.data.toList
theorem tys_low : ∀ j : Fin 20, sml.lowL (tys[j.val]'(j.isLt)).name = (tys[j.val]'(j.isLt)).name := by decide +kernel
theorem low_name {t : Ty} (h : t ∈ tys) : sml.lowL t.name = t.name := by
 obtain ⟨i, hi, rfl⟩ := List.mem_iff_getElem.1 h
 exact tys_low ⟨i, hi⟩
theorem find_low {n : List UInt8} {ty : Ty} : (findS (sml.lowL n) = some ty ∧ ty.name = n) ↔ findS n = some ty := by
 constructor
 ·rintro ⟨h, rfl⟩
  have := (findS_some h).1
  rw [low_name this] at h
  exact h
 ·intro h
  obtain ⟨h1, rfl⟩ := findS_some h
  rw [low_name h1]
  exact ⟨h, rfl⟩
def atOK (a : At) : Bool := match tyOf a.t with
 | none => false
 | some ty => valsOK ty a.vs
def ltB (a b : ByteArray) : Bool := decide (Lib.compareBytes a.data.toList b.data.toList = -1)
def atsF : Option ByteArray → List At → Bool
 | _, [] => true
 | p, a :: r => atOK a && (match p with
  | none => true
  | some q => ltB q a.t) && atsF (some a.t) r
def rightE (e : En) : Bool := dnw.rdnOK e.rdn && atsF none e.ats
def valsA (ats : List At) (n : ByteArray) : List ByteArray := match ats.find? fun a => decide (a.t = n) with
 | some a => a.vs
 | none => []
def withF (n : ByteArray) (l : List ByteArray) : Bool → List At → List At
 | done, [] => if done then [] else [⟨n, l⟩]
 | done, a :: r =>
  let put := !done && !ltB a.t n
  let here : List At := if put then [⟨n, l⟩] else []
  let stays : List At := if a.t = n then [] else [a]
  here ++ stays ++ withF n l (done || put) r
def withE (e : En) (n : ByteArray) (l : List ByteArray) : En := ⟨e.rdn, withF n l (decide (l = [])) e.ats⟩
def joinF (syn : Int) : List ByteArray → List ByteArray → Option (List ByteArray)
 | all, [] => some all
 | all, v :: r => if likeI syn all v < 0 then joinF syn (all ++ [v]) r else none
def dropF (syn : Int) : List ByteArray → List ByteArray → Option (List ByteArray)
 | left, [] => some left
 | left, v :: r => match likeN syn left v with
  | none => none
  | some k => dropF syn (left.take k ++ left.drop (k + 1)) r
end etp
end Go.Proofs.YtcolcogobdgejaaGreatDoor
