/- The walk of the reference's Pair. -/
import Derived.Test.YtjjbmhndakmkbaaDoorTrimW
import Derived.Test.YtjjbmhndakmkbaaDoorBRowW
import Derived.Test.YtjjbmhndakmkbaaDoorRParseP
namespace Go.Proofs.YtjjbmhndakmkbaaDoor
open Go.RowKit
namespace dnw
open dnp
set_option linter.unusedVariables false
set_option linter.unusedSimpArgs false
/-- what Pair leaves -/
def PairE (L : List Sg) (w : World) (e : Ending) (w' : World) : Prop :=
  Below w.heap.size w w' ∧ match pairS L with
    | none => ∃ t v : ByteArray, e = .returned (.tuple #[.agg #[.string t, .string v], .bool false])
    | some p => e = .returned (.tuple #[.agg #[.string ⟨p.1.toArray⟩, .string ⟨p.2.toArray⟩], .bool true])
theorem pairE_none {L : List Sg} {w w' : World} {t v : ByteArray} (h : pairS L = none) (hb : Below w.heap.size w w') : PairE L w (.returned (.tuple #[.agg #[.string t, .string v], .bool false])) w' := by
  refine ⟨hb, ?_⟩
  rw [h]
  exact ⟨t, v, rfl⟩
theorem pairS_no {L : List Sg} (h : ∀ x ∈ L, eqS x = false) : pairS L = none := by
  cases hp : pairS L with
  | none => rfl
  | some p =>
    obtain ⟨A, V, h1, _⟩ := pairS_some hp
    exact absurd (h (61, true) (by rw [h1]; simp)) (by decide)
theorem split_at {L : List Sg} {i : Nat} (hi : i < L.length) (h : eqS L[i] = true) : L = L.take i ++ (61, true) :: L.drop (i + 1) := by
  have e : L[i] = (61, true) := by
    rcases hx : L[i] with ⟨c, b⟩
    rw [hx] at h
    unfold eqS at h
    simp only [Bool.and_eq_true, decide_eq_true_eq] at h
    obtain ⟨rfl, rfl⟩ := h
    rfl
  rw [← e]
  simp
/-- the pair by its two parts -/
def partV (A V : List Sg) : Option Pr := if (A.all (·.2)) = true ∧ typeOK (lowL (A.map (·.1))) = true ∧ rightOK V = true then some (lowL (A.map (·.1)), V.map (·.1)) else none
theorem partV_bare {A V : List Sg} {x : Sg} (h : x ∈ A) (hx : x.2 = false) : partV A V = none := by
  unfold partV
  rw [if_neg]
  rintro ⟨h1, _⟩
  have := List.all_eq_true.1 h1 x h
  rw [hx] at this; cases this
def badAt (i : Nat) (x : Sg) : Bool := x.2 && (bad x.1 || decide (x.1 = 35) && decide (i = 0))
theorem partV_bad {A V : List Sg} {i : Nat} (hi : i < V.length) (h : badAt i V[i] = true) : partV A V = none := by
  unfold partV
  rw [if_neg]
  rintro ⟨_, _, h1⟩
  unfold badAt at h
  simp only [Bool.and_eq_true, Bool.or_eq_true, decide_eq_true_eq] at h
  obtain ⟨hb, h2 | ⟨h2, rfl⟩⟩ := h
  · rw [rightOK_bad (List.getElem_mem hi) (by unfold badS; rw [hb, h2]; rfl)] at h1; cases h1
  · unfold rightOK at h1
    cases V with
    | nil => simp at hi
    | cons x t =>
      simp only [List.getElem_cons_zero] at hb h2
      simp [hb, h2] at h1
theorem rightOK_of {V : List Sg} (h : ∀ i (hi : i < V.length), badAt i V[i] = false) : rightOK V = true := by
  unfold rightOK
  have h1 : (V.any fun x => x.2 && bad x.1) = false := by
    rw [Bool.eq_false_iff]
    intro hh
    obtain ⟨x, hx, hx2⟩ := List.any_eq_true.1 hh
    obtain ⟨i, hi, rfl⟩ := List.mem_iff_getElem.1 hx
    have := h i hi
    unfold badAt at this
    simp only [Bool.and_eq_true] at hx2
    rw [hx2.1, hx2.2] at this; cases this
  rw [h1]
  cases V with
  | nil => rfl
  | cons x t =>
    have := h 0 (by simp)
    unfold badAt at this
    simp only [List.getElem_cons_zero, decide_true, Bool.and_true] at this
    simp only [Bool.not_false, Bool.true_and]
    cases hx : (x.2 && decide (x.1 = 35)) with
    | false => rfl
    | true =>
      simp only [Bool.and_eq_true] at hx
      rw [hx.1, hx.2] at this
      simp at this
theorem partV_end {A V : List Sg} (h1 : ∀ x ∈ A, x.2 = true) (h2 : ∀ i (hi : i < V.length), badAt i V[i] = false) : partV A V = if typeOK (lowL (A.map (·.1))) = true then some (lowL (A.map (·.1)), V.map (·.1)) else none := by
  unfold partV
  rw [rightOK_of h2, List.all_eq_true.2 (fun x hx => h1 x hx)]
  simp
/-- block p holds a pair -/
theorem pc_cells {w : World} {p : Nat} (h : ∃ x y : ByteArray, w.heap[p]? = some (.cells #[.string x, .string y] 36 (0, 0))) : (∃ x, w.cell? ⟨p, 0, none⟩ = some (.string x)) ∧ (∃ y, w.cell? ⟨p, 1, none⟩ = some (.string y)) ∧ w.frozen? ⟨p, 0, none⟩ = false ∧ w.frozen? ⟨p, 1, none⟩ = false := by
  obtain ⟨x, y, h⟩ := h
  exact ⟨⟨x, by rw [Lib.cell_of_heap h]; rfl⟩, ⟨y, by rw [Lib.cell_of_heap h]; rfl⟩, Lib.frozen_of_heap h 0, Lib.frozen_of_heap h 1⟩
def PC (w : World) (p : Nat) : Prop := ∃ x y : ByteArray, w.heap[p]? = some (.cells #[.string x, .string y] 36 (0, 0))
theorem pc_below {w w' : World} {p : Nat} (h : PC w p) (hb : Below (p + 1) w w') : PC w' p := by
  obtain ⟨x, y, h⟩ := h
  exact ⟨x, y, (hb.block p (by omega)).trans h⟩
theorem pc_below2 {wr wq : World} {p : Nat} (h : PC wr p) (hb : Below wr.heap.size wr wq) : PC wq p := by
  obtain ⟨x, y, h⟩ := h
  exact ⟨x, y, (hb.block p (bld.lt_of_heap h)).trans h⟩
theorem pc_store {w : World} {p : Nat} (h : PC w p) (a b : ByteArray) : ((w.setCell ⟨p, 0, none⟩ (.string a)).setCell ⟨p, 1, none⟩ (.string b)).cell? ⟨p, 0, none⟩ = some (.string a) ∧ ((w.setCell ⟨p, 0, none⟩ (.string a)).setCell ⟨p, 1, none⟩ (.string b)).cell? ⟨p, 1, none⟩ = some (.string b) := by
  obtain ⟨⟨x, h0⟩, ⟨y, h1⟩, _, _⟩ := pc_cells h
  have k0 := World.cell?_setCell_same w ⟨p, 0, none⟩ (.string a) h0
  have k1 : (w.setCell ⟨p, 0, none⟩ (.string a)).cell? ⟨p, 1, none⟩ = some (.string y) := by rw [World.cell?_setCell_other _ _ _ _ (by intro hh; injection hh with _ h _; cases h), h1]
  refine ⟨?_, World.cell?_setCell_same _ _ _ k1⟩
  rw [World.cell?_setCell_other _ _ _ _ (by intro hh; injection hh with _ h _; cases h), k0]
theorem take_next (A : List Sg) (k : Nat) (h : k < A.length) : A.take (k + 1) = A.take k ++ [A[k]] := List.take_succ_eq_append_getElem h
theorem low_nat (c : UInt8) : ((low c).toNat : Int) = if 65 ≤ (c.toNat : Int) ∧ (c.toNat : Int) ≤ 90 then (c.toNat : Int) + 32 else (c.toNat : Int) := by
  have all : ∀ m : Fin 256, ((low (UInt8.ofNat m.val)).toNat : Int) = if 65 ≤ (m.val : Int) ∧ (m.val : Int) ≤ 90 then (m.val : Int) + 32 else (m.val : Int) := by decide +kernel
  have h := all ⟨c.toNat, c.toNat_lt⟩
  simp only [UInt8.ofNat_toNat] at h
  exact h
set_option maxRecDepth 20000 in
set_option maxHeartbeats 4000000 in
theorem pair_any (ao : Option Addr) (cap : Nat) (L : List Sg) (w : World) (hA : Hid (Sgs w ao L)) (hc : L.length ≤ cap) (hl : L.length ≤ 100000) :
    Calls Tryd.prog 25 #[.slice ao L.length cap] w fun e w' => PairE L w e w' := by
  obtain ⟨m, hm⟩ : ∃ m, m = L.length := ⟨_, rfl⟩
  have HM := Lib.hid hm
  rw [← hm] at hc hl ⊢
  clear hm
  go_enter Tryd.func25, Tryd.ntmps25
  go_wp2_with fail
  go_loopw [4] (fun iv wr => ∃ i : Nat, i ≤ m ∧ iv = .int .i64 (i : Int) ∧ Hid (∀ j (h : j < L.length), j < i → eqS L[j] = false) ∧ Below w.heap.size w wr ∧ Hid (PC wr w.heap.size)) (fun iv _ => m - (intOf iv).toNat)
  case atStart => exact ⟨0, Nat.zero_le _, rfl, fun j _ h => by omega, (Below.refl _ _).alloc (Nat.le_refl _) _, ⟨_, _, heap_alloc_new w _⟩⟩
  case round =>
    obtain ⟨i, hi, rfl, hP, hB, hC⟩ := hrel
    have hsz := hB.size
    obtain ⟨wo, rfl⟩ : ∃ x, x = wr := ⟨_, rfl⟩
    have HPLT : Hid (w.heap.size < wo.heap.size) := by obtain ⟨x, y, h⟩ := hC.out; exact bld.lt_of_heap h
    by_cases hlt : i < m
    · have hlt' : (i : Int) < (m : Int) := by omega
      have hil : i < L.length := by rw [← HM.out]; exact hlt
      obtain ⟨b, o, hao, hc0, hc1⟩ := hA.out i hil
      subst hao
      have hcc0 := (hB.cell (World.block_lt_of_cell? w _ hc0)).trans hc0
      have hcc1 := (hB.cell (World.block_lt_of_cell? w _ hc1)).trans hc1
      have HNX : Hid (eqS L[i] = false → ∀ j (h : j < L.length), j < i + 1 → eqS L[j] = false) := by
        intro h j hj hji
        by_cases e : j = i
        · subst e; exact h
        · exact hP.out j hj (by omega)
      have HSP : Hid (eqS L[i] = true → L = L.take i ++ (61, true) :: L.drop (i + 1)) := fun h => split_at hil h
      generalize L[i] = x at hcc0 hcc1 HNX HSP
      obtain ⟨c, bare⟩ := x
      simp only at hcc0 hcc1
      clear hc0 hc1
      have hcn := c.toNat_lt
      cases bare with
      | false =>
        have HN := Lib.hid (HNX.out rfl)
        clear HNX HSP
        go_wp2_with fail
        go_roundw
        case rel => exact ⟨i + 1, by omega, by go_num, HN, hB, hC⟩
        case measure => simp [intOf]; omega
      | true =>
        by_cases h61 : (c.toNat : Int) = 61
        · have q : ((c.toNat : Int) == 61) = true := by rw [beq_iff_eq]; exact h61
          have hc61 := u8_eq (n := 61) (by omega) h61
          subst hc61
          have HS := Lib.hid (HSP.out rfl)
          have q2 : ((i : Int) == (m : Int)) = false := by rw [beq_eq_false_iff_ne]; omega
          have HPV : Hid (pairS L = partV (trim (L.take i)) (trim (L.drop (i + 1)))) := by
            have h := HS.out
            show pairS L = _
            rw [h, pairS_at _ _ (fun x hx => by
              obtain ⟨j, hj, rfl⟩ := List.mem_iff_getElem.1 hx
              rw [List.length_take] at hj
              rw [List.getElem_take]
              exact hP.out j (by omega) (by omega))]
            rw [← h]
            rfl
          clear HNX HSP HS h61
          have hl1 : (L.take i).length = i := by rw [List.length_take]; omega
          have hl2 : (L.drop (i + 1)).length = m - (i + 1) := by rw [List.length_drop, HM.out]
          have CT1 := trim_any (some ⟨b, o, none⟩) cap (L.take i) wo (Lib.hid (sgs_take (sgs_below hA.out hB) i)) (by omega) (by omega)
          rw [hl1] at CT1
          have CT2 : Hid (∀ ao' cap', Sgs wo ao' (L.drop (i + 1)) → (L.drop (i + 1)).length ≤ cap' → Calls Tryd.prog 24 #[.slice ao' (m - (i + 1)) cap'] wo fun e w' => TrimE (L.drop (i + 1)) wo e w') := by
            intro ao' cap' h1 h2
            have := trim_any ao' cap' (L.drop (i + 1)) wo (Lib.hid h1) h2 (by omega)
            rw [hl2] at this
            exact this
          obtain ⟨A, hAe⟩ : ∃ A, A = trim (L.take i) := ⟨_, rfl⟩
          obtain ⟨V, hVe⟩ : ∃ V, V = trim (L.drop (i + 1)) := ⟨_, rfl⟩
          obtain ⟨n1, hn1⟩ : ∃ n, n = A.length := ⟨_, rfl⟩
          obtain ⟨n2, hn2⟩ : ∃ n, n = V.length := ⟨_, rfl⟩
          have hAl := trim_len (L.take i)
          have hVl := trim_len (L.drop (i + 1))
          rw [← hAe, hl1] at hAl
          rw [← hVe, hl2] at hVl
          have hn1l : n1 ≤ 100000 := by omega
          have hn2l : n2 ≤ 100000 := by omega
          have HT1 : Hid (Calls Tryd.prog 24 #[.slice (some ⟨b, o, none⟩) i cap] wo fun e w' => wo = w' ∧ ∃ ao cap, e = .returned (.slice ao n1 cap) ∧ Sgs wo ao A) := by
            refine CT1.mono ?_
            rintro e w' ⟨h1, ao, cap, h2, h3, h4⟩
            rw [← hAe] at h2 h4
            exact ⟨h1, ao, cap, by rw [h2, hn1], h4⟩
          have HT2 : Hid (∀ ao' cap', Sgs wo ao' (L.drop (i + 1)) → (L.drop (i + 1)).length ≤ cap' → Calls Tryd.prog 24 #[.slice ao' (m - (i + 1)) cap'] wo fun e w' => wo = w' ∧ ∃ ao cap, e = .returned (.slice ao n2 cap) ∧ Sgs wo ao V) := by
            intro ao' cap' h1 h2
            refine (CT2.out ao' cap' h1 h2).mono ?_
            rintro e w' ⟨h1, ao, cap, h2, h3, h4⟩
            rw [← hVe] at h2 h4
            exact ⟨h1, ao, cap, by rw [h2, hn2], h4⟩
          have HPV : Hid (pairS L = partV A V) := by
            show pairS L = _
            rw [HPV.out, hAe, hVe]
          have HN1 := Lib.hid hn1
          have HN2 := Lib.hid hn2
          have hi1 : i + 1 ≤ m := by omega
          have hi1' : (i : Int) + 1 ≤ (m : Int) := by omega
          have HSD := Lib.hid (sgs_cut (lo := i + 1) (sgs_below hA.out hB) (by rw [← HM.out]; exact hc))
          have HLM : Hid (L.length = m) := HM.out.symm
          clear CT1 hl1 CT2 hAe hVe hn1 hn2 hAl hVl hP
          go_wp2_with fail
          refine HT1.out.mono ?_
          rintro e w2 ⟨rfl, ao1, cap1, rfl, hS1⟩
          have HS1 := Lib.hid hS1
          clear hS1 hcc0 hcc1 HT1
          go_wp2_with fail
          case' inl => refine (HT2.out _ _ (by
            have h0 : L.drop (i + 1) = [] := List.drop_eq_nil_of_le (by rw [HLM.out]; omega)
            rw [h0]; intro j hj; simp at hj) (by rw [List.length_drop, HLM.out]; omega)).mono ?_
          case' inr => refine (HT2.out _ _ (by
            have h := HSD.out
            rw [cutA_some, if_neg (by assumption)] at h
            exact h) (by rw [List.length_drop, HLM.out]; omega)).mono ?_
          all_goals
            clear HT2 HSD hl2
            rintro e w2 ⟨rfl, ao2, cap2, rfl, hS2⟩
            have HS2 := Lib.hid hS2
            clear hS2
            go_wp2_with fail
            go_loopw [7, 8, 9] (fun tv kv _ wq => ∃ k : Nat, k ≤ n1 ∧ kv = .int .i64 (k : Int) ∧ Hid (BRow wq wo.heap.size tv (lowL ((A.take k).map (·.1)))) ∧ Hid (∀ x ∈ A.take k, x.2 = true) ∧ Below wo.heap.size wo wq) (fun _ kv _ _ => n1 - (intOf kv).toNat)
            case atStart => exact ⟨0, Nat.zero_le _, rfl, brow_made wo _ (Nat.le_refl _), fun x hx => by simp at hx, (Below.refl _ _).alloc (Nat.le_refl _) _⟩
            case round =>
              obtain ⟨k, hk, rfl, hR, hU, hBk⟩ := hrel
              have hszk := hBk.size
              have HBW := Lib.hid (hB.trans (hBk.mono hsz))
              have HPC := Lib.hid (pc_below2 hC.out hBk)
              by_cases hkn : k < n1
              · have hkn' : (k : Int) < (n1 : Int) := by omega
                have hkl : k < A.length := by rw [← HN1.out]; exact hkn
                obtain ⟨b3, o3, hao, d0, d1⟩ := (sgs_below HS1.out hBk) k hkl
                subst hao
                have HTK := take_next A k hkl
                have HMEM : Hid (A[k].2 = false → partV A V = none) := fun h => partV_bare (List.getElem_mem hkl) h
                generalize A[k] = x at d0 d1 HTK HMEM
                obtain ⟨c, bare⟩ := x
                simp only at d0 d1
                have hcn := c.toNat_lt
                cases bare with
                | false =>
                  have HNO := Lib.hid (HPV.out.trans (HMEM.out rfl))
                  obtain ⟨⟨x0, c0⟩, ⟨y0, c1⟩, f0, f1⟩ := pc_cells HPC.out
                  clear HTK HMEM
                  obtain ⟨e0, e1⟩ := pc_store HPC.out ⟨#[]⟩ ⟨#[]⟩
                  go_wp2_with fail
                  (try simp only [Exit.inBlock, Exit.then])
                  refine bodyPost_ret (v := .tuple #[.agg #[.string ⟨#[]⟩, .string ⟨#[]⟩], .bool false]) (by rw [results_cell_tmp rfl]; go_simp) rfl ?_
                  exact pairE_none HNO.out ((HBW.out.setCell (p := ⟨w.heap.size, 0, none⟩) (Nat.le_refl _) _).setCell (p := ⟨w.heap.size, 1, none⟩) (Nat.le_refl _) _)
                | true =>
                  obtain ⟨aoT, mT, capT, rfl, hmT⟩ := brow_form hR.out
                  obtain ⟨aoT2, mT2, capT2, w3, hap, hR3, hB3⟩ := brow_app (low c) hR.out (by unfold lowL; rw [List.length_map, List.length_map, List.length_take]; omega) hszk
                  have HR3 : Hid (BRow w3 wo.heap.size (.slice aoT2 mT2 capT2) (lowL ((A.take (k + 1)).map (·.1)))) := by
                    show BRow _ _ _ _
                    rw [HTK]
                    unfold lowL at hR3 ⊢
                    rw [List.map_append, List.map_append]
                    exact hR3
                  have HU3 : Hid (∀ x ∈ A.take (k + 1), x.2 = true) := by
                    show ∀ x ∈ _, _
                    rw [HTK]
                    intro x hx
                    rcases List.mem_append.1 hx with h | h
                    · exact hU.out x h
                    · simp only [List.mem_singleton] at h; rw [h]
                  have HB3 := Lib.hid (hBk.trans (hB3))
                  have hlow : ((low c).toNat : Int) = if 65 ≤ (c.toNat : Int) ∧ (c.toNat : Int) ≤ 90 then (c.toNat : Int) + 32 else (c.toNat : Int) := low_nat c
                  clear HTK HMEM hR3 hB3
                  by_cases h65 : 65 ≤ (c.toNat : Int)
                  · by_cases h90 : (c.toNat : Int) ≤ 90
                    · rw [if_pos ⟨h65, h90⟩] at hlow
                      rw [hlow] at hap
                      have r1 : IntKind.u8.wrap ((c.toNat : Int) + 32) = (c.toNat : Int) + 32 := IntWalk.u8_in _ (by omega)
                      clear hlow
                      go_wp2_with (at_builtin; refine Lib.wpList_append_run _ rfl _ _ _ _ rfl _ _ rfl rfl _ _ hap ?_)
                      go_roundw
                      case rel => exact ⟨k + 1, by omega, by go_num, HR3, HU3, HB3.out⟩
                      case measure => simp [intOf]; omega
                    · rw [if_neg (by omega)] at hlow
                      rw [hlow] at hap
                      clear hlow
                      go_wp2_with (at_builtin; refine Lib.wpList_append_run _ rfl _ _ _ _ rfl _ _ rfl rfl _ _ hap ?_)
                      go_roundw
                      case rel => exact ⟨k + 1, by omega, by go_num, HR3, HU3, HB3.out⟩
                      case measure => simp [intOf]; omega
                  · rw [if_neg (by omega)] at hlow
                    rw [hlow] at hap
                    clear hlow
                    go_wp2_with (at_builtin; refine Lib.wpList_append_run _ rfl _ _ _ _ rfl _ _ rfl rfl _ _ hap ?_)
                    go_roundw
                    case rel => exact ⟨k + 1, by omega, by go_num, HR3, HU3, HB3.out⟩
                    case measure => simp [intOf]; omega
              · obtain rfl : k = n1 := by omega
                obtain ⟨aoT, mT, capT, rfl, hmT⟩ := brow_form hR.out
                have HRT : Hid (BRow wr wo.heap.size (.slice aoT mT capT) (lowL (A.map (·.1)))) := by
                  have h := hR.out
                  rw [HN1.out, List.take_length] at h
                  exact h
                have HUA : Hid (∀ x ∈ A, x.2 = true) := by
                  have h := hU.out
                  rw [HN1.out, List.take_length] at h
                  exact h
                obtain ⟨wt, rfl⟩ : ∃ x, x = wr := ⟨_, rfl⟩
                clear hR hU
                go_wp2_with fail
                go_loopw [10, 11, 12] (fun vv jv _ wq => ∃ j : Nat, j ≤ n2 ∧ jv = .int .i64 (j : Int) ∧ Hid (BRow wq wt.heap.size vv ((V.take j).map (·.1))) ∧ Hid (∀ i (h : i < V.length), i < j → badAt i V[i] = false) ∧ Below wt.heap.size wt wq) (fun _ jv _ _ => n2 - (intOf jv).toNat)
                case atStart => exact ⟨0, Nat.zero_le _, rfl, brow_made wt _ (Nat.le_refl _), fun i _ h => by omega, (Below.refl _ _).alloc (Nat.le_refl _) _⟩
                case round =>
                  obtain ⟨j, hj, rfl, hR, hU, hBj⟩ := hrel
                  have hszj := hBj.size
                  have HBW2 := Lib.hid (hBk.trans (hBj.mono hszk))
                  have HBW3 := Lib.hid (hB.trans (HBW2.out.mono hsz))
                  have HPC2 := Lib.hid (pc_below2 HPC.out hBj)
                  by_cases hjn : j < n2
                  · have hjn' : (j : Int) < (n2 : Int) := by omega
                    have hjl : j < V.length := by rw [← HN2.out]; exact hjn
                    obtain ⟨b4, o4, hao, d0, d1⟩ := (sgs_below HS2.out HBW2.out) j hjl
                    subst hao
                    have HTK := take_next V j hjl
                    have HBADN : Hid (badAt j V[j] = true → partV A V = none) := fun h => partV_bad hjl h
                    have HBADY : Hid (badAt j V[j] = false → ∀ i (h : i < V.length), i < j + 1 → badAt i V[i] = false) := by
                      intro h i hi hij
                      by_cases e : i = j
                      · subst e; exact h
                      · exact hU.out i hi (by omega)
                    generalize V[j] = x at d0 d1 HTK HBADN HBADY
                    obtain ⟨c, bare⟩ := x
                    simp only at d0 d1
                    have hcn := c.toNat_lt
                    obtain ⟨aoV, mV, capV, rfl, hmV⟩ := brow_form hR.out
                    obtain ⟨aoV2, mV2, capV2, w3, hap, hR3, hB3⟩ := brow_app c hR.out (by rw [List.length_map, List.length_take]; omega) hszj
                    have HR3 : Hid (BRow w3 wt.heap.size (.slice aoV2 mV2 capV2) ((V.take (j + 1)).map (·.1))) := by
                      show BRow _ _ _ _
                      rw [HTK, List.map_append]
                      exact hR3
                    have HB3 := Lib.hid (hBj.trans hB3)
                    clear HTK hR3 hB3
                    cases bare with
                    | false =>
                      have HB := Lib.hid (HBADY.out rfl)
                      clear HBADY HBADN
                      go_wp2_with (at_builtin; refine Lib.wpList_append_run _ rfl _ _ _ _ rfl _ _ rfl rfl _ _ hap ?_)
                      go_roundw
                      case rel => exact ⟨j + 1, by omega, by go_num, HR3, HB, HB3.out⟩
                      case measure => simp [intOf]; omega
                    | true =>
                      by_cases hbad : bad c = true
                      · have HNO := Lib.hid (HPV.out.trans (HBADN.out (by show (true && (bad c || _)) = true; rw [hbad]; rfl)))
                        have hb3 := (u8_bad c).1 hbad
                        clear HBADY HBADN hbad hap
                        rcases hb3 with h | h | h
                        · have q1 : ((c.toNat : Int) == 34) = true := by rw [beq_iff_eq]; exact h
                          clear h
                          obtain ⟨⟨x0, c0⟩, ⟨y0, c1⟩, f0, f1⟩ := pc_cells HPC2.out
                          obtain ⟨e0, e1⟩ := pc_store HPC2.out ⟨#[]⟩ ⟨#[]⟩
                          go_wp2_with fail
                          (try simp only [Exit.inBlock, Exit.then])
                          refine bodyPost_ret (v := .tuple #[.agg #[.string ⟨#[]⟩, .string ⟨#[]⟩], .bool false]) (by rw [results_cell_tmp rfl]; go_simp) rfl ?_
                          exact pairE_none HNO.out ((HBW3.out.setCell (p := ⟨w.heap.size, 0, none⟩) (Nat.le_refl _) _).setCell (p := ⟨w.heap.size, 1, none⟩) (Nat.le_refl _) _)
                        · have q1 : ((c.toNat : Int) == 34) = false := by rw [beq_eq_false_iff_ne]; omega
                          have q2 : ((c.toNat : Int) == 60) = true := by rw [beq_iff_eq]; exact h
                          clear h
                          obtain ⟨⟨x0, c0⟩, ⟨y0, c1⟩, f0, f1⟩ := pc_cells HPC2.out
                          obtain ⟨e0, e1⟩ := pc_store HPC2.out ⟨#[]⟩ ⟨#[]⟩
                          go_wp2_with fail
                          (try simp only [Exit.inBlock, Exit.then])
                          refine bodyPost_ret (v := .tuple #[.agg #[.string ⟨#[]⟩, .string ⟨#[]⟩], .bool false]) (by rw [results_cell_tmp rfl]; go_simp) rfl ?_
                          exact pairE_none HNO.out ((HBW3.out.setCell (p := ⟨w.heap.size, 0, none⟩) (Nat.le_refl _) _).setCell (p := ⟨w.heap.size, 1, none⟩) (Nat.le_refl _) _)
                        · have q1 : ((c.toNat : Int) == 34) = false := by rw [beq_eq_false_iff_ne]; omega
                          have q2 : ((c.toNat : Int) == 60) = false := by rw [beq_eq_false_iff_ne]; omega
                          have q3 : ((c.toNat : Int) == 62) = true := by rw [beq_iff_eq]; exact h
                          clear h
                          obtain ⟨⟨x0, c0⟩, ⟨y0, c1⟩, f0, f1⟩ := pc_cells HPC2.out
                          obtain ⟨e0, e1⟩ := pc_store HPC2.out ⟨#[]⟩ ⟨#[]⟩
                          go_wp2_with fail
                          (try simp only [Exit.inBlock, Exit.then])
                          refine bodyPost_ret (v := .tuple #[.agg #[.string ⟨#[]⟩, .string ⟨#[]⟩], .bool false]) (by rw [results_cell_tmp rfl]; go_simp) rfl ?_
                          exact pairE_none HNO.out ((HBW3.out.setCell (p := ⟨w.heap.size, 0, none⟩) (Nat.le_refl _) _).setCell (p := ⟨w.heap.size, 1, none⟩) (Nat.le_refl _) _)
                      · have hb3 : ¬ ((c.toNat : Int) = 34 ∨ (c.toNat : Int) = 60 ∨ (c.toNat : Int) = 62) := fun h => hbad ((u8_bad c).2 h)
                        have hbad' : bad c = false := by simpa using hbad
                        have q1 : ((c.toNat : Int) == 34) = false := by rw [beq_eq_false_iff_ne]; omega
                        have q2 : ((c.toNat : Int) == 60) = false := by rw [beq_eq_false_iff_ne]; omega
                        have q3 : ((c.toNat : Int) == 62) = false := by rw [beq_eq_false_iff_ne]; omega
                        clear hb3 hbad
                        by_cases h35 : (c.toNat : Int) = 35
                        · have q4 : ((c.toNat : Int) == 35) = true := by rw [beq_iff_eq]; exact h35
                          have hc35 : c = 35 := u8_eq (n := 35) (by omega) h35
                          clear h35
                          by_cases hj0 : j = 0
                          · have HNO := Lib.hid (HPV.out.trans (HBADN.out (by show (true && (bad c || (decide (c = 35) && decide (j = 0)))) = true; rw [hbad', hc35, hj0]; rfl)))
                            have q5 : ((j : Int) == 0) = true := by rw [beq_iff_eq]; omega
                            clear HBADY HBADN hap hj0 hc35 hbad'
                            obtain ⟨⟨x0, c0⟩, ⟨y0, c1⟩, f0, f1⟩ := pc_cells HPC2.out
                            obtain ⟨e0, e1⟩ := pc_store HPC2.out ⟨#[]⟩ ⟨#[]⟩
                            go_wp2_with fail
                            (try simp only [Exit.inBlock, Exit.then])
                            refine bodyPost_ret (v := .tuple #[.agg #[.string ⟨#[]⟩, .string ⟨#[]⟩], .bool false]) (by rw [results_cell_tmp rfl]; go_simp) rfl ?_
                            exact pairE_none HNO.out ((HBW3.out.setCell (p := ⟨w.heap.size, 0, none⟩) (Nat.le_refl _) _).setCell (p := ⟨w.heap.size, 1, none⟩) (Nat.le_refl _) _)
                          · have HB := Lib.hid (HBADY.out (by show (true && (bad c || (decide (c = 35) && decide (j = 0)))) = false; rw [hbad', decide_eq_false hj0]; simp))
                            have q5 : ((j : Int) == 0) = false := by rw [beq_eq_false_iff_ne]; omega
                            clear HBADY HBADN hc35 hbad'
                            go_wp2_with (at_builtin; refine Lib.wpList_append_run _ rfl _ _ _ _ rfl _ _ rfl rfl _ _ hap ?_)
                            go_roundw
                            case rel => exact ⟨j + 1, by omega, by go_num, HR3, HB, HB3.out⟩
                            case measure => simp [intOf]; omega
                        · have q4 : ((c.toNat : Int) == 35) = false := by rw [beq_eq_false_iff_ne]; exact h35
                          have hc35 : c ≠ 35 := u8_ne (n := 35) (by omega) h35
                          have HB := Lib.hid (HBADY.out (by show (true && (bad c || (decide (c = 35) && decide (j = 0)))) = false; rw [hbad', decide_eq_false hc35]; rfl))
                          clear HBADY HBADN hc35 hbad' h35
                          go_wp2_with (at_builtin; refine Lib.wpList_append_run _ rfl _ _ _ _ rfl _ _ rfl rfl _ _ hap ?_)
                          go_roundw
                          case rel => exact ⟨j + 1, by omega, by go_num, HR3, HB, HB3.out⟩
                          case measure => simp [intOf]; omega
                  · obtain rfl : j = n2 := by omega
                    obtain ⟨aoV, mV, capV, rfl, hmV⟩ := brow_form hR.out
                    have HRV : Hid (BRow wr wt.heap.size (.slice aoV mV capV) (V.map (·.1))) := by
                      have h := hR.out
                      rw [HN2.out, List.take_length] at h
                      exact h
                    have HEND : Hid (partV A V = if typeOK (lowL (A.map (·.1))) = true then some (lowL (A.map (·.1)), V.map (·.1)) else none) := partV_end HUA.out (fun i hi => hU.out i hi (by rw [HN2.out]; exact hi))
                    have HTT := Lib.hid (brow_below HRT.out hBj)
                    obtain ⟨T, hT⟩ : ∃ T : ByteArray, (⟨(lowL (A.map (·.1))).toArray⟩ : ByteArray) = T := ⟨_, rfl⟩
                    obtain ⟨Q, hQ⟩ : ∃ Q : ByteArray, (⟨(V.map (·.1)).toArray⟩ : ByteArray) = Q := ⟨_, rfl⟩
                    have hty : (convert 54 9 (.slice aoT mT capT)).run Tryd.prog wr.drew = .ok (.string T) wr.drew := by
                      rw [← hT]; exact brow_str (w := wr.drew) (brow_same HTT.out (fun _ _ _ => rfl))
                    have hst : (convert 54 9 (.slice aoV mV capV)).run Tryd.prog wr.drew = .ok (.string Q) wr.drew := by
                      rw [← hQ]; exact brow_str (w := wr.drew) (brow_same HRV.out (fun _ _ _ => rfl))
                    obtain ⟨⟨x0, c0⟩, ⟨y0, c1⟩, f0, f1⟩ := pc_cells HPC2.out
                    have HAF : Hid (∀ a b : Value, (convert 54 9 (.slice aoT mT capT)).run Tryd.prog ((wr.drew.setCell ⟨w.heap.size, 0, none⟩ a).setCell ⟨w.heap.size, 1, none⟩ b) = .ok (.string T) ((wr.drew.setCell ⟨w.heap.size, 0, none⟩ a).setCell ⟨w.heap.size, 1, none⟩ b) ∧ (convert 54 9 (.slice aoV mV capV)).run Tryd.prog ((wr.drew.setCell ⟨w.heap.size, 0, none⟩ a).setCell ⟨w.heap.size, 1, none⟩ b) = .ok (.string Q) ((wr.drew.setCell ⟨w.heap.size, 0, none⟩ a).setCell ⟨w.heap.size, 1, none⟩ b)) := by
                      intro a b'
                      have hp : w.heap.size < wo.heap.size := HPLT.out
                      have hq := HBW.out.size
                      refine ⟨?_, ?_⟩
                      · rw [← hT]; exact brow_str (brow_same HTT.out (fun k hk _ => by rw [Below.heap_setCell _ _ _ _ (by show k ≠ w.heap.size; omega), Below.heap_setCell _ _ _ _ (by show k ≠ w.heap.size; omega)]; rfl))
                      · rw [← hQ]; exact brow_str (brow_same HRV.out (fun k hk _ => by rw [Below.heap_setCell _ _ _ _ (by show k ≠ w.heap.size; omega), Below.heap_setCell _ _ _ _ (by show k ≠ w.heap.size; omega)]; rfl))
                    have HTY : Hid (∀ W, Calls Tryd.prog 39 #[.string T] W fun e w' => e = .returned (.bool (typeOK T.data.toList)) ∧ W = w') := fun W => type_any T W (by rw [← kt.size_len, ← hT]; show (lowL (A.map _)).length ≤ _; unfold lowL; rw [List.length_map, List.length_map, ← HN1.out]; omega)
                    obtain ⟨e0, e1⟩ := pc_store (w := wr.drew) HPC2.out T Q
                    have HTd := Lib.hid hT
                    have HQd := Lib.hid hQ
                    clear hT hQ
                    go_wp2_with fail
                    go_region_held3 (fun W => (convert 54 9 (.slice aoT mT capT)).run Tryd.prog W = .ok (.string T) W ∧ (convert 54 9 (.slice aoV mV capV)).run Tryd.prog W = .ok (.string Q) W) (first | exact ⟨hty, hst⟩ | exact HAF.out _ _)
                      (first | (go_at_call 39; refine (HTY.out _).mono ?_; rintro e w' ⟨rfl, rfl⟩) | skip)
                    all_goals
                      go_wp2_with fail
                      (try simp only [Exit.inBlock, Exit.then])
                      refine bodyPost_ret (v := .tuple #[.agg #[.string T, .string Q], .bool (typeOK T.data.toList)]) (by rw [results_cell_tmp rfl]; go_simp) rfl ?_
                      refine ⟨(HBW3.out.drew.setCell (p := ⟨w.heap.size, 0, none⟩) (Nat.le_refl _) _).setCell (p := ⟨w.heap.size, 1, none⟩) (Nat.le_refl _) _, ?_⟩
                      rw [HPV.out, HEND.out]
                      have eT : T.data.toList = lowL (A.map (·.1)) := by rw [← HTd.out]
                      rw [eT]
                      cases htyp : typeOK (lowL (A.map (·.1))) with
                      | true =>
                        rw [if_pos rfl]
                        show _ = Ending.returned (.tuple #[.agg #[.string ⟨(lowL (A.map (·.1))).toArray⟩, .string ⟨(V.map (·.1)).toArray⟩], .bool true])
                        rw [HTd.out, HQd.out]
                      | false =>
                        rw [if_neg (by simp)]
                        exact ⟨T, Q, rfl⟩
        · have q : ((c.toNat : Int) == 61) = false := by rw [beq_eq_false_iff_ne]; exact h61
          have HN := Lib.hid (HNX.out (by
            show (true && decide (c = 61)) = false
            have h : c ≠ 61 := u8_ne (n := 61) (by omega) h61
            rw [decide_eq_false h]; rfl))
          clear HNX HSP h61
          go_wp2_with fail
          go_roundw
          case rel => exact ⟨i + 1, by omega, by go_num, HN, hB, hC⟩
          case measure => simp [intOf]; omega
    · obtain rfl : i = m := by omega
      have q2 : ((i : Int) == (i : Int)) = true := by rw [beq_iff_eq]
      have HN : Hid (pairS L = none) := pairS_no (fun x hx => by
        obtain ⟨j, hj, rfl⟩ := List.mem_iff_getElem.1 hx
        exact hP.out j hj (by rw [HM.out]; exact hj))
      obtain ⟨⟨x0, c0⟩, ⟨y0, c1⟩, f0, f1⟩ := pc_cells hC.out
      obtain ⟨e0, e1⟩ := pc_store hC.out ⟨#[]⟩ ⟨#[]⟩
      go_wp2_with fail
      (try simp only [Exit.inBlock, Exit.then])
      refine bodyPost_ret (v := .tuple #[.agg #[.string ⟨#[]⟩, .string ⟨#[]⟩], .bool false]) (by rw [results_cell_tmp rfl]; go_simp) rfl ?_
      exact pairE_none HN.out ((hB.setCell (p := ⟨w.heap.size, 0, none⟩) (Nat.le_refl _) _).setCell (p := ⟨w.heap.size, 1, none⟩) (Nat.le_refl _) _)
end dnw
end Go.Proofs.YtjjbmhndakmkbaaDoor
