/- One text out of several: PartW, StanW, AwP, AwakeW, TyF, StrsOf, NamesW, CmpT, CmpB, OrdQ. -/
import Derived.Test.YtckpiaigoeicfaaGreatDoorB11
import Derived.Lib.IndexLaws
import Derived.Test.YtckpiaigoeicfaaGreatDoorB9
import Derived.Lib.LaidU8
import Derived.Deep.Strs
import Derived.Test.YtckpiaigoeicfaaGreatDoorB8
import Derived.SliceStrings
import Derived.Deep.MidRow
import Derived.WalkKit
import Derived.Lib.Walk
/-! PartW -/
namespace Go.Proofs.YtckpiaigoeicfaaGreatDoor
open Go.RowKit
namespace atw
open atp tupw prw
set_option linter.unusedVariables false
set_option linter.unusedSimpArgs false
theorem fit_cases (syn : Int) : (syn = 1 ∨ syn = 2 ∨ syn = 7) ∨ (¬ (syn = 1 ∨ syn = 2 ∨ syn = 7) ∧ (syn == 1) = false ∧ (syn == 2) = false ∧ (syn == 7) = false) := by
  by_cases h : syn = 1 ∨ syn = 2 ∨ syn = 7
  · exact Or.inl h
  · exact Or.inr ⟨h, by rw [beq_eq_false_iff_ne]; omega, by rw [beq_eq_false_iff_ne]; omega, by rw [beq_eq_false_iff_ne]; omega⟩
set_option maxRecDepth 20000 in
set_option maxHeartbeats 8000000 in
theorem part_any (nm : ByteArray) (syn : Int) (sg : Bool) (value first last : ByteArray) (mids : List ByteArray) (ao : Option Addr) (cap : Nat) (w : World)
    (hS : Hid (Strs w ao mids)) (hn : Hid (ao = none → cap = 0)) (hN : mids.length ≤ 20) (hv : value.size ≤ 140737488351232) (hz : Hid (∀ x ∈ first :: (mids ++ [last]), x.size ≤ 1100000)) (hE : Hid (prw.Env w)) (hT : Hid (dnw.Tabs w)) :
    Calls Tryz.prog 14 #[.agg #[.string nm, .int .i64 syn, .bool sg], .string value, .string first, .slice ao mids.length cap, .string last] w fun e w' => e = .returned (.tuple #[.bool (partE syn value first last mids).1, .int .i64 (partE syn value first last mids).2]) ∧ Below w.heap.size w w' := by
  obtain ⟨W0, hW0⟩ : ∃ W, w.alloc (.cells #[.string nm, .int .i64 syn, .bool sg] 23) = W := ⟨_, rfl⟩
  have hB0 : Below w.heap.size w W0 := by rw [← hW0]; exact (Below.refl _ _).alloc (Nat.le_refl _) _
  have hw0 : w.heap.size ≤ W0.heap.size := hB0.size
  have HTB0 : Hid (TB W0 w.heap.size nm syn sg) := by rw [← hW0]; exact tb_new w nm syn sg
  obtain ⟨k0, k1, k2⟩ := tb_cells HTB0.out
  obtain ⟨WA, hWA⟩ : ∃ W, W0.alloc (.cells #[.string first] 9) = W := ⟨_, rfl⟩
  have bA : Below W0.heap.size W0 WA := by rw [← hWA]; exact (Below.refl _ _).alloc (Nat.le_refl _) _
  have cA : WA.cell? ⟨W0.heap.size, 0, none⟩ = some (.string first) := by rw [← hWA, World.cell?_alloc_new]; rfl
  obtain ⟨WB, hWB⟩ : ∃ W, WA.alloc (.cells #[.string last] 9) = W := ⟨_, rfl⟩
  have bB : Below WA.heap.size WA WB := by rw [← hWB]; exact (Below.refl _ _).alloc (Nat.le_refl _) _
  have cB : WB.cell? ⟨WA.heap.size, 0, none⟩ = some (.string last) := by rw [← hWB, World.cell?_alloc_new]; rfl
  obtain ⟨WC, hWC⟩ : ∃ W, WB.alloc (.cells #[.slice (some ⟨W0.heap.size, 0, none⟩) 1 1, .slice ao mids.length cap, .slice (some ⟨WA.heap.size, 0, none⟩) 1 1] 31) = W := ⟨_, rfl⟩
  have bC : Below WB.heap.size WB WC := by rw [← hWC]; exact (Below.refl _ _).alloc (Nat.le_refl _) _
  have c0 : WC.cell? ⟨WB.heap.size, 0, none⟩ = some (.slice (some ⟨W0.heap.size, 0, none⟩) 1 1) := by rw [← hWC, World.cell?_alloc_new]; rfl
  have c1 : WC.cell? ⟨WB.heap.size, 1, none⟩ = some (.slice ao mids.length cap) := by rw [← hWC, World.cell?_alloc_new]; rfl
  have c2 : WC.cell? ⟨WB.heap.size, 2, none⟩ = some (.slice (some ⟨WA.heap.size, 0, none⟩) 1 1) := by rw [← hWC, World.cell?_alloc_new]; rfl
  have sA := bA.size
  have sB := bB.size
  have sC := bC.size
  have bAC : Below WA.heap.size WA WC := bB.trans (bC.mono sB)
  have b0C : Below W0.heap.size W0 WC := bA.trans (bAC.mono sA)
  have bwC : Below w.heap.size w WC := hB0.trans (b0C.mono hw0)
  have cA' : WC.cell? ⟨W0.heap.size, 0, none⟩ = some (.string first) := (bAC.cell (p := ⟨W0.heap.size, 0, none⟩) (World.block_lt_of_cell? WA _ cA)).trans cA
  have cB' : WC.cell? ⟨WA.heap.size, 0, none⟩ = some (.string last) := (bC.cell (p := ⟨WA.heap.size, 0, none⟩) (World.block_lt_of_cell? WB _ cB)).trans cB
  obtain ⟨AL, hAL⟩ : ∃ L, first :: (mids ++ [last]) = L := ⟨_, rfl⟩
  have hfl : [[first], mids, [last]].flatten = AL := by rw [← hAL]; simp
  have hALn : AL.length = mids.length + 2 := by rw [← hAL]; simp
  have hR : Rws WC WB.heap.size [[first], mids, [last]] := by
    intro i hi
    match i, hi with
    | 0, _ => exact ⟨_, _, c0, (fun i hi => by obtain rfl : i = 0 := by { simp at hi; omega }; exact ⟨_, _, rfl, cA'⟩), fun e => by cases e⟩
    | 1, _ => exact ⟨_, _, c1, strs_below hS.out bwC, hn.out⟩
    | 2, _ => exact ⟨_, _, c2, (fun i hi => by obtain rfl : i = 0 := by { simp at hi; omega }; exact ⟨_, _, rfl, cB'⟩), fun e => by cases e⟩
  have HCC0 := concat_any WB.heap.size WC.heap.size 3 [[first], mids, [last]] WC (Lib.hid hR) (by simp) (by rw [hfl, hALn]; omega) (by rw [hfl, hALn]; omega) (Nat.le_refl _)
  rw [hfl] at HCC0
  have HCC : Hid (Calls Tryz.prog 31 #[.slice (some ⟨WB.heap.size, 0, none⟩) 3 3] WC fun e w' => ∃ v, e = .returned v ∧ Hid (OwnT w' WC.heap.size v AL) ∧ Below WC.heap.size WC w') := HCC0
  have HBWC := Lib.hid bwC
  have HB0C := Lib.hid b0C
  have hwc : w.heap.size ≤ WC.heap.size := bwC.size
  have hw0c : W0.heap.size ≤ WC.heap.size := b0C.size
  have HALn := Lib.hid hALn
  have HALe := Lib.hid hAL
  have HSZ : Hid (∀ x ∈ AL, x.size ≤ 1100000) := by rw [← hAL]; exact hz.out
  have HNRM : Hid (∀ w, prw.Env w → dnw.Tabs w → Calls Tryz.prog 19 #[.agg #[.string nm, .int .i64 syn, .bool sg], .string value] w fun e w' => e = .returned (normV (normL syn value.data.toList)) ∧ Below w.heap.size w w') := fun w h1 h2 => normal_any nm syn sg value w hv (Lib.hid h1) (Lib.hid h2)
  have HPC : Hid (∀ x ∈ AL, ∀ w, prw.Env w → Calls Tryz.prog 33 #[.agg #[.string nm, .int .i64 syn, .bool sg], .string x] w fun e w' => e = .returned (prw.pairV (pieceO syn x.data.toList)) ∧ Below w.heap.size w w') := fun x hx w h => piece_any nm syn sg x w (HSZ.out x hx) (Lib.hid h)
  obtain ⟨N, hNe⟩ : ∃ N, mids.length = N := ⟨_, rfl⟩
  obtain ⟨K, hKe⟩ : ∃ K, AL.length = K := ⟨_, rfl⟩
  have hKN : K = N + 2 := by rw [← hKe, ← hNe]; exact hALn
  have HANY : Hid (∀ (g cp : Nat) (w : World), Strs w (some ⟨g, 0, none⟩) AL → Calls Tryz.prog 32 #[.slice (some ⟨g, 0, none⟩) K cp, .func (.func 30) #[] #[]] w fun e w' => e = .returned (.bool (AL.any neB)) ∧ w = w') := by
    intro g cp w h
    rw [← hKe]
    exact contains_any (some ⟨g, 0, none⟩) cp AL w (Lib.hid h) (by omega)
  have HKe := Lib.hid hKe
  have HNe := Lib.hid hNe
  have HKN := Lib.hid hKN
  have hK1 : 1 ≤ K := by omega
  obtain ⟨M, hM⟩ : ∃ M, N + 1 = M := ⟨_, rfl⟩
  have HM := Lib.hid hM
  have hKM : (K : Int) - 1 = (M : Int) := by omega
  have hMK : M < K := by omega
  have hMN : (M : Int) - 1 = (N : Int) := by omega
  have hK0 : 0 < K := by omega
  have hKb : K ≤ 22 := by omega
  have HPE : Hid (partE syn value first last mids = if ¬ (syn = 1 ∨ syn = 2 ∨ syn = 7) then (false, 20) else if 8 < N then (false, 20) else if AL.any neB = false then (false, 20) else if (normL syn value.data.toList).2 ≠ 0 then (false, (normL syn value.data.toList).2) else if allP syn AL = false then (false, 19) else (partL (normL syn value.data.toList).1 (gotP syn first) (gotP syn last) (mids.map (gotP syn)), 0)) := by
    rw [← hNe, ← hAL]
    rfl
  rw [hNe] at hN hWC ⊢
  rw [HPE.out]
  have HTBC : Hid (TB WC w.heap.size nm syn sg) := tb_below HTB0.out HB0C.out
  have HEC := Lib.hid (prw.env_below hE.out HBWC.out)
  have HTC := Lib.hid (dnw.tabs_below hT.out HBWC.out)
  clear bA bB bC c0 c1 c2 cA cB cA' cB' bAC b0C bwC hR HCC0 hfl hALn hAL hKe hNe hB0 hE hT hKN hM sA sB sC hS hz HPE
  rcases fit_cases syn with hsy | ⟨hno, q1, q2, q7⟩
  · rw [if_neg (not_not_intro hsy)]
    by_cases h8 : 8 < N
    · rw [if_pos h8]
      have h8I : (8 : Int) < (N : Int) := by omega
      clear h8
      rcases hsy with rfl | rfl | rfl
      all_goals
        go_enter Tryz.func14, Tryz.ntmps14
        go_wp2_with fail
        refine (HCC.out).mono ?_
        rintro e w1 ⟨v1, rfl, hO1, hB1⟩
        have HB1 := Lib.hid (HBWC.out.trans (hB1.mono hwc))
        have HBC1 := Lib.hid hB1
        obtain ⟨g, cp, rfl, hgB, hcp, hO2⟩ := own_open hO1.out (by intro e; have := HALn.out; rw [e] at this; simp at this)
        have HG1 : Hid (OwnG w1 WC.heap.size g K cp AL) := by
          have := ownG_of hO2
          rw [HKe.out] at this
          exact this
        rw [HKe.out] at hcp
        rw [HKe.out]
        have HTB1 := Lib.hid (tb_below HTB0.out (HB0C.out.trans (hB1.mono hw0c)))
        obtain ⟨m0, m1, m2⟩ := tb_cells HTB1.out
        have hw1 : w.heap.size ≤ w1.heap.size := HB1.out.size
        clear hO1 hO2 hB1 hW0 hWA hWB hWC k0 k1 k2
        have HSTR : Hid (Strs w1 (some ⟨g, 0, none⟩) AL) := fun i hi => ⟨g, 0, rfl, by rw [Nat.zero_add]; exact ownG_cell HG1.out i hi⟩
        have HAN1 := Lib.hid (HANY.out g cp w1 HSTR.out)
        go_wp2_with fail
        go_ret2
        exact ⟨rfl, HB1.out⟩
    · rw [if_neg h8]
      have h8I : (N : Int) ≤ 8 := by omega
      have h8D : decide ((8 : Int) < (N : Int)) = false := by rw [decide_eq_false_iff_not]; omega
      by_cases hsome : AL.any neB = false
      · rw [if_pos hsome]
        have HSOME := Lib.hid hsome
        clear hsome h8
        rcases hsy with rfl | rfl | rfl
        all_goals
          go_enter Tryz.func14, Tryz.ntmps14
          go_wp2_with fail
          refine (HCC.out).mono ?_
          rintro e w1 ⟨v1, rfl, hO1, hB1⟩
          have HB1 := Lib.hid (HBWC.out.trans (hB1.mono hwc))
          have HBC1 := Lib.hid hB1
          obtain ⟨g, cp, rfl, hgB, hcp, hO2⟩ := own_open hO1.out (by intro e; have := HALn.out; rw [e] at this; simp at this)
          have HG1 : Hid (OwnG w1 WC.heap.size g K cp AL) := by
            have := ownG_of hO2
            rw [HKe.out] at this
            exact this
          rw [HKe.out] at hcp
          rw [HKe.out]
          have HTB1 := Lib.hid (tb_below HTB0.out (HB0C.out.trans (hB1.mono hw0c)))
          obtain ⟨m0, m1, m2⟩ := tb_cells HTB1.out
          have hw1 : w.heap.size ≤ w1.heap.size := HB1.out.size
          clear hO1 hO2 hB1 hW0 hWA hWB hWC k0 k1 k2
          have HSTR : Hid (Strs w1 (some ⟨g, 0, none⟩) AL) := fun i hi => ⟨g, 0, rfl, by rw [Nat.zero_add]; exact ownG_cell HG1.out i hi⟩
          have HAN1 := Lib.hid (HANY.out g cp w1 HSTR.out)
          rw [HSOME.out] at HAN1
          go_wp2_with fail
          refine (HAN1.out).mono ?_
          rintro e w2 ⟨rfl, rfl⟩
          go_wp2_with fail
          go_ret2
          exact ⟨rfl, HB1.out⟩
      · rw [if_neg hsome]
        have HSOME : Hid (AL.any neB = true) := by cases hq : AL.any neB with | true => rfl | false => exact absurd hq hsome
        clear hsome h8
        obtain ⟨nl, hnl⟩ : ∃ u, normL syn value.data.toList = u := ⟨_, rfl⟩
        have hnlen : nl.1.length ≤ 1000 := by rw [← hnl]; exact norm_len hsy
        rw [hnl] at HNRM ⊢
        clear hnl
        obtain ⟨u, er⟩ := nl
        have hul : u.length ≤ 1000 := hnlen
        have HNRM2 : Hid (∀ w, prw.Env w → dnw.Tabs w → Calls Tryz.prog 19 #[.agg #[.string nm, .int .i64 syn, .bool sg], .string value] w fun e w' => e = .returned (.tuple #[.string (bs u), .int .i64 er]) ∧ Below w.heap.size w w') := HNRM
        clear HNRM hnlen
        by_cases her : er ≠ 0
        · rw [if_pos her]
          have q : (er != 0) = true := by rw [bne_iff_ne]; exact her
          clear her
          rcases hsy with rfl | rfl | rfl
          all_goals
            go_enter Tryz.func14, Tryz.ntmps14
            go_wp2_with fail
            refine (HCC.out).mono ?_
            rintro e w1 ⟨v1, rfl, hO1, hB1⟩
            have HB1 := Lib.hid (HBWC.out.trans (hB1.mono hwc))
            have HBC1 := Lib.hid hB1
            obtain ⟨g, cp, rfl, hgB, hcp, hO2⟩ := own_open hO1.out (by intro e; have := HALn.out; rw [e] at this; simp at this)
            have HG1 : Hid (OwnG w1 WC.heap.size g K cp AL) := by
              have := ownG_of hO2
              rw [HKe.out] at this
              exact this
            rw [HKe.out] at hcp
            rw [HKe.out]
            have HTB1 := Lib.hid (tb_below HTB0.out (HB0C.out.trans (hB1.mono hw0c)))
            obtain ⟨m0, m1, m2⟩ := tb_cells HTB1.out
            have hw1 : w.heap.size ≤ w1.heap.size := HB1.out.size
            clear hO1 hO2 hB1 hW0 hWA hWB hWC k0 k1 k2
            have HSTR : Hid (Strs w1 (some ⟨g, 0, none⟩) AL) := fun i hi => ⟨g, 0, rfl, by rw [Nat.zero_add]; exact ownG_cell HG1.out i hi⟩
            have HAN1 := Lib.hid (HANY.out g cp w1 HSTR.out)
            rw [HSOME] at HAN1
            go_wp2_with fail
            refine (HAN1.out).mono ?_
            rintro e wz ⟨rfl, rfl⟩
            go_wp2_with fail
            refine (HNRM2.out _ (prw.env_below HEC.out HBC1.out) (dnw.tabs_below HTC.out HBC1.out)).mono ?_
            rintro e w2 ⟨rfl, hB2⟩
            have HBC2 := Lib.hid (HBC1.out.trans (hB2.mono HBC1.out.size))
            have HW12 := Lib.hid hB2
            clear hB2 m0 m1 m2
            go_wp2_with fail
            go_ret2
            exact ⟨rfl, HBWC.out.trans (HBC2.out.mono hwc)⟩
        · rw [if_neg her]
          obtain rfl : er = 0 := Classical.not_not.1 her
          clear her
          obtain ⟨R, hR⟩ : ∃ R, (if allP syn AL = false then (false, 19) else (partL u (gotP syn first) (gotP syn last) (mids.map (gotP syn)), 0) : Bool × Int) = R := ⟨_, rfl⟩
          have HNO : Hid (∀ i (h : i < AL.length), pieceO syn AL[i].data.toList = none → R = (false, 19)) := by
            intro i h hp
            rw [← hR, if_pos (allP_no h hp)]
          have HYES : Hid (allP syn AL = true → R = (partL u (gotP syn first) (gotP syn last) (mids.map (gotP syn)), 0)) := by
            intro h
            rw [← hR, if_neg (by rw [h]; simp)]
          have hRr : (if allP syn AL = false then (false, 19) else (partL u (gotP syn first) (gotP syn last) (mids.map (gotP syn)), 0) : Bool × Int) = R := hR
          simp only at hRr ⊢
          rw [hRr]
          clear hR hRr
          obtain ⟨sy, hsye⟩ : ∃ z : Int, syn = z := ⟨_, rfl⟩
          have HPS : Hid (∀ x ∈ AL, ∀ w, prw.Env w → Calls Tryz.prog 33 #[.agg #[.string nm, .int .i64 syn, .bool sg], .string x] w fun e w' => e = .returned (prw.pairV (pieceO sy x.data.toList)) ∧ Below w.heap.size w w') := by rw [← hsye]; exact HPC.out
          rw [hsye] at HNO HYES
          clear hsye HPC
          rcases hsy with rfl | rfl | rfl
          · skip
            go_enter Tryz.func14, Tryz.ntmps14
            go_wp2_with fail
            refine (HCC.out).mono ?_
            rintro e w1 ⟨v1, rfl, hO1, hB1⟩
            have HB1 := Lib.hid (HBWC.out.trans (hB1.mono hwc))
            have HBC1 := Lib.hid hB1
            obtain ⟨g, cp, rfl, hgB, hcp, hO2⟩ := own_open hO1.out (by intro e; have := HALn.out; rw [e] at this; simp at this)
            have HG1 : Hid (OwnG w1 WC.heap.size g K cp AL) := by
              have := ownG_of hO2
              rw [HKe.out] at this
              exact this
            rw [HKe.out] at hcp
            rw [HKe.out]
            have HTB1 := Lib.hid (tb_below HTB0.out (HB0C.out.trans (hB1.mono hw0c)))
            obtain ⟨m0, m1, m2⟩ := tb_cells HTB1.out
            have hw1 : w.heap.size ≤ w1.heap.size := HB1.out.size
            clear hO1 hO2 hB1 hW0 hWA hWB hWC k0 k1 k2
            have HSTR : Hid (Strs w1 (some ⟨g, 0, none⟩) AL) := fun i hi => ⟨g, 0, rfl, by rw [Nat.zero_add]; exact ownG_cell HG1.out i hi⟩
            have HAN1 := Lib.hid (HANY.out g cp w1 HSTR.out)
            rw [HSOME] at HAN1
            go_wp2_with fail
            refine (HAN1.out).mono ?_
            rintro e wz ⟨rfl, rfl⟩
            go_wp2_with fail
            refine (HNRM2.out _ (prw.env_below HEC.out HBC1.out) (dnw.tabs_below HTC.out HBC1.out)).mono ?_
            rintro e w2 ⟨rfl, hB2⟩
            have HBC2 := Lib.hid (HBC1.out.trans (hB2.mono HBC1.out.size))
            have HW12 := Lib.hid hB2
            clear hB2 m0 m1 m2
            go_wp2_with fail
            have HG2 := Lib.hid (ownG_below HG1.out HW12.out)
            go_loopw [17, 18, 19, 20, 68] (fun _ _ _ _ iv wr => ∃ i : Nat, i ≤ K ∧ iv = .int .i64 (i : Int) ∧ Hid (allP sy (AL.take i) = true) ∧ Hid (OwnG wr WC.heap.size g K cp (mix sy AL i)) ∧ Hid (Below WC.heap.size WC wr)) (fun _ _ _ _ iv _ => K - (intOf iv).toNat)
            case atStart => exact ⟨0, Nat.zero_le _, rfl, rfl, HG2, HBC2⟩
            case round =>
              obtain ⟨i, hi, rfl, hall, hO, hBr⟩ := hrel
              by_cases hlt : i < K
              · have hltI : (i : Int) < (K : Int) := by omega
                have hil : i < AL.length := by rw [HKe.out]; exact hlt
                have hsz := hBr.out.size
                have CE := ownG_cell hO.out i (by rw [mix_len]; exact hil)
                rw [mix_at hil] at CE
                have hEr := prw.env_below HEC.out hBr.out
                have HP0 := HPS.out AL[i] (List.getElem_mem _) wr hEr
                have HSET := Lib.hid (mix_step (syn := sy) hil)
                have HAL := Lib.hid (allP_step (syn := sy) hil)
                have HNOi := Lib.hid (HNO.out i hil)
                obtain ⟨n0, n1, n2⟩ := tb_cells (tb_below HTBC.out hBr.out)
                have HGP : Hid (∀ o, pieceO sy AL[i].data.toList = some o → gotP sy AL[i] = o) := by
                  intro o ho
                  unfold gotP
                  rw [ho]; rfl
                generalize AL[i] = x at CE HP0 HSET HAL HNOi HGP
                clear hEr
                cases hp : pieceO sy x.data.toList with
                | none =>
                  have HR := Lib.hid (HNOi.out hp)
                  rw [hp] at HP0
                  have HP1 : Hid (Calls Tryz.prog 33 #[.agg #[.string nm, .int .i64 1, .bool sg], .string x] wr fun e w' => e = .returned (.tuple #[.string ⟨#[]⟩, .int .i64 19]) ∧ Below wr.heap.size wr w') := HP0
                  clear HP0 HNOi HGP hp HSET HAL
                  go_wp2_with fail
                  refine (HP1.out).mono ?_
                  rintro e w3 ⟨rfl, hB3⟩
                  have HBC3 := Lib.hid (hBr.out.trans (hB3.mono hsz))
                  clear hB3 CE n0 n1 n2
                  go_wp2_with fail
                  go_ret2
                  exact ⟨by (rw [HR.out] <;> rfl), HBWC.out.trans (HBC3.out.mono hwc)⟩
                | some o =>
                  have hgo := HGP.out o hp
                  rw [hp] at HP0 HAL
                  rw [hgo] at HSET
                  have HP1 : Hid (Calls Tryz.prog 33 #[.agg #[.string nm, .int .i64 1, .bool sg], .string x] wr fun e w' => e = .returned (.tuple #[.string (bs o), .int .i64 0]) ∧ Below wr.heap.size wr w') := HP0
                  have HALL : Hid (allP sy (AL.take (i + 1)) = true) := by rw [HAL.out, hall.out]; rfl
                  clear HP0 HNOi HGP hp hgo HAL
                  go_wp2_with fail
                  refine (HP1.out).mono ?_
                  rintro e w3 ⟨rfl, hB3⟩
                  have HBC3 := Lib.hid (hBr.out.trans (hB3.mono hsz))
                  have hO3 := Lib.hid (ownG_below hO.out hB3)
                  have hfz := ownG_frozen hO3.out i
                  have CE3 := (hB3.cell (p := ⟨g, i, none⟩) (World.block_lt_of_cell? wr _ CE)).trans CE
                  have HO4 : Hid (OwnG (w3.setCell ⟨g, i, none⟩ (.string (bs o))) WC.heap.size g K cp (mix sy AL (i + 1))) := by rw [← HSET.out]; exact ownG_set hO3.out i (bs o)
                  have HBC4 : Hid (Below WC.heap.size WC (w3.setCell ⟨g, i, none⟩ (.string (bs o)))) := HBC3.out.setCell (p := ⟨g, i, none⟩) hgB _
                  clear hB3 CE n0 n1 n2 HSET
                  go_wp2_with fail
                  go_roundw
                  case rel => exact ⟨i + 1, by omega, by go_num, HALL, HO4, HBC4⟩
                  case measure => simp [intOf]; omega
              · obtain rfl : i = K := by omega
                have hyes := HYES.out (by have := hall.out; rw [← HKe.out, List.take_length] at this; exact this)
                have HOZ : Hid (OwnG wr WC.heap.size g i cp (AL.map fun x => bs (gotP sy x))) := by
                  have h := hO.out
                  have e : mix sy AL i = AL.map fun x => bs (gotP sy x) := by rw [← HKe.out]; exact mix_all sy AL
                  rw [e] at h
                  exact h
                have ca : wr.cell? ⟨g, 0, none⟩ = some (.string (bs (gotP sy first))) := ownG_at HOZ.out 0 (by rw [← HALe.out]; rfl)
                have cz : wr.cell? ⟨g, M, none⟩ = some (.string (bs (gotP sy last))) := ownG_at HOZ.out M (by
                  rw [← HALe.out, ← HM.out, List.getElem?_map, List.getElem?_cons_succ, List.getElem?_append_right (by rw [HNe.out]; exact Nat.le_refl _), HNe.out, Nat.sub_self]
                  rfl)
                have cm : Hid (∀ j (h : j < N), ∃ p, wr.cell? ⟨g, 1 + j, none⟩ = some (.string (bs p)) ∧ (mids.map (gotP sy)).drop j = p :: (mids.map (gotP sy)).drop (j + 1)) := by
                  intro j h
                  have hj : j < mids.length := by rw [HNe.out]; exact h
                  refine ⟨gotP sy mids[j], ownG_at HOZ.out (1 + j) ?_, ?_⟩
                  · rw [← HALe.out, Nat.add_comm 1 j, List.getElem?_map, List.getElem?_cons_succ, List.getElem?_append_left hj, List.getElem?_eq_getElem hj]
                    rfl
                  · rw [List.drop_eq_getElem_cons (by rw [List.length_map]; exact hj), List.getElem_map]
                have hmsl : Hid (∀ l, greedy ((mids.map (gotP sy)).drop N) l = true) := by
                  intro l
                  rw [List.drop_eq_nil_of_le (by rw [List.length_map, HNe.out]; exact Nat.le_refl _)]
                  rfl
                have HCP : Hid (∀ w, Calls Tryz.prog 34 #[.string (bs u), .string (bs (gotP sy first))] w fun e w' => e = .returned (.tuple #[.string (bs (Lib.trimPrefix u (gotP sy first))), .bool (Lib.hasPrefix u (gotP sy first))]) ∧ w = w') := by
                  intro w
                  refine (Tryz.strings_CutPrefix (bs u) (bs (gotP sy first)) w).mono ?_
                  rintro e w' ⟨rfl, rfl⟩
                  exact ⟨rfl, rfl⟩
                have HBWr := Lib.hid (HBWC.out.trans (hBr.out.mono hwc))
                have hEr := Lib.hid (prw.env_below HEC.out hBr.out)
                generalize mids.map (gotP sy) = ms at hyes cm hmsl
                have hpn := fun h => partL_no (s := u) (a := gotP sy first) (z := gotP sy last) (m := ms) h
                have hpc := fun h => partL_cut (s := u) (a := gotP sy first) (z := gotP sy last) (m := ms) h
                have htl := trim_len u (gotP sy first) (gotP sy last)
                have htp : (Lib.trimPrefix u (gotP sy first)).length ≤ u.length := by
                  unfold Lib.trimPrefix; split
                  · rw [List.length_drop]; omega
                  · omega
                generalize gotP sy first = a at *
                generalize gotP sy last = z at *
                clear HYES HNO HPS hO HOZ hall HSZ HTBC HNRM2 HCC HANY HAN1
                cases hpre : Lib.hasPrefix u a with
                | false =>
                  rw [hpre] at HCP
                  have HR : Hid (R = (false, 0)) := by rw [hyes, hpn hpre]; exact rfl
                  clear hyes hpn hpc hpre
                  go_wp2_with fail
                  refine (HCP.out _).mono ?_
                  rintro e w4 ⟨rfl, rfl⟩
                  go_wp2_with fail
                  go_ret2
                  exact ⟨by (rw [HR.out] <;> rfl), HBWr.out⟩
                | true =>
                  rw [hpre] at HCP
                  have HR := Lib.hid (hyes.trans (by rw [hpc hpre]))
                  clear hyes hpn hpc hpre
                  have htp2 : (Lib.trimPrefix u a).length ≤ 1000 := by omega
                  have HCS : Hid (∀ w, Calls Tryz.prog 35 #[.string (bs (Lib.trimPrefix u a)), .string (bs z)] w fun e w' => e = .returned (.tuple #[.string (bs (Lib.trimSuffix (Lib.trimPrefix u a) z)), .bool (Lib.hasSuffix (Lib.trimPrefix u a) z)]) ∧ w = w') := by
                    intro w
                    refine (Tryz.strings_CutSuffix (bs (Lib.trimPrefix u a)) (bs z) w (by rw [bs_size]; omega)).mono ?_
                    rintro e w' ⟨rfl, rfl⟩
                    exact ⟨rfl, rfl⟩
                  have htl2 : (Lib.trimSuffix (Lib.trimPrefix u a) z).length ≤ 1000 := by omega
                  have HTL := Lib.hid htl2
                  generalize Lib.trimSuffix (Lib.trimPrefix u a) z = t2 at HCS HR HTL
                  generalize Lib.hasSuffix (Lib.trimPrefix u a) z = bo at HCS HR
                  generalize Lib.trimPrefix u a = t1 at HCS HCP
                  clear htl htl2 htp htp2
                  go_wp2_with fail
                  refine (HCP.out _).mono ?_
                  rintro e w4 ⟨rfl, rfl⟩
                  go_wp2_with fail
                  refine (HCS.out _).mono ?_
                  rintro e w4 ⟨rfl, rfl⟩
                  clear ca cz
                  go_wp2_with fail
                  go_loopw [15, 21, 23, 114] (fun sv ov _ iv w5 => ∃ j : Nat, j ≤ N ∧ iv = .int .i64 (j : Int) ∧ ∃ (t : List UInt8) (b : Bool), sv = .string (bs t) ∧ ov = .bool b ∧ Hid (t.length ≤ 1000) ∧ Hid (R = (b && greedy (ms.drop j) t, 0)) ∧ Hid (Below wr.heap.size wr w5)) (fun _ _ _ iv _ => N - (intOf iv).toNat)
                  case atStart => exact ⟨0, Nat.zero_le _, rfl, t2, bo, rfl, rfl, HTL, HR, Below.refl _ _⟩
                  case round =>
                    obtain ⟨j, hj, rfl, t, b, rfl, rfl, htn, hRj, hB5⟩ := hrel
                    by_cases hlt2 : j < N
                    · have hltJ : (j : Int) < (N : Int) := by omega
                      obtain ⟨p, cp0, hdr⟩ := cm.out j hlt2
                      have cp1 := (hB5.out.cell (p := ⟨g, 1 + j, none⟩) (World.block_lt_of_cell? _ _ cp0)).trans cp0
                      have hRd := hRj.out
                      rw [hdr] at hRd
                      cases b with
                      | false =>
                        have HR3 : Hid (R = (false, 0)) := hRd
                        clear hRd hdr cp0
                        go_wp2_with fail
                        go_ret2
                        exact ⟨by (rw [HR3.out] <;> rfl), HBWr.out.trans (hB5.out.mono HBWr.out.size)⟩
                      | true =>
                        rw [cut_yes, Bool.true_and] at hRd
                        obtain ⟨mx, hmx⟩ := prw.env_below hEr.out hB5.out
                        have HCT : Hid (Calls Tryz.prog 36 #[.string (bs t), .string (bs p)] wr fun e w' => e = .returned (.tuple #[.string (bs (Lib.cut t p).1), .string (bs (Lib.cut t p).2.1), .bool (Lib.cut t p).2.2]) ∧ ∃ n, w' = wr.drewN n) := Tryz.strings_Cut (bs t) (bs p) mx wr (by have := htn.out; rw [bs_size]; omega) hmx
                        have htn2 : Hid ((Lib.cut t p).2.1.length ≤ 1000) := Nat.le_trans (cut_len t p) htn.out
                        have HR3 := Lib.hid hRd
                        clear hRd hdr cp0 hmx hRj
                        generalize (Lib.cut t p).2.2 = b2 at HCT HR3
                        generalize (Lib.cut t p).2.1 = t3 at HCT HR3 htn2
                        generalize (Lib.cut t p).1 = t4 at HCT
                        go_wp2_with fail
                        refine (HCT.out).mono ?_
                        rintro e w6 ⟨rfl, nd, rfl⟩
                        have HB6 := Lib.hid (below_dr hB5.out nd)
                        go_wp2_with fail
                        go_roundw
                        case rel => exact ⟨j + 1, by omega, by go_num, t3, b2, rfl, rfl, htn2, HR3, HB6⟩
                        case measure => simp [intOf]; omega
                    · obtain rfl : j = N := by omega
                      have HR3 : Hid (R = (b, 0)) := by rw [hRj.out, hmsl.out, Bool.and_true]; exact rfl
                      go_wp2_with fail
                      go_ret2
                      exact ⟨by (rw [HR3.out] <;> rfl), HBWr.out.trans (hB5.out.mono HBWr.out.size)⟩
          · skip
            go_enter Tryz.func14, Tryz.ntmps14
            go_wp2_with fail
            refine (HCC.out).mono ?_
            rintro e w1 ⟨v1, rfl, hO1, hB1⟩
            have HB1 := Lib.hid (HBWC.out.trans (hB1.mono hwc))
            have HBC1 := Lib.hid hB1
            obtain ⟨g, cp, rfl, hgB, hcp, hO2⟩ := own_open hO1.out (by intro e; have := HALn.out; rw [e] at this; simp at this)
            have HG1 : Hid (OwnG w1 WC.heap.size g K cp AL) := by
              have := ownG_of hO2
              rw [HKe.out] at this
              exact this
            rw [HKe.out] at hcp
            rw [HKe.out]
            have HTB1 := Lib.hid (tb_below HTB0.out (HB0C.out.trans (hB1.mono hw0c)))
            obtain ⟨m0, m1, m2⟩ := tb_cells HTB1.out
            have hw1 : w.heap.size ≤ w1.heap.size := HB1.out.size
            clear hO1 hO2 hB1 hW0 hWA hWB hWC k0 k1 k2
            have HSTR : Hid (Strs w1 (some ⟨g, 0, none⟩) AL) := fun i hi => ⟨g, 0, rfl, by rw [Nat.zero_add]; exact ownG_cell HG1.out i hi⟩
            have HAN1 := Lib.hid (HANY.out g cp w1 HSTR.out)
            rw [HSOME] at HAN1
            go_wp2_with fail
            refine (HAN1.out).mono ?_
            rintro e wz ⟨rfl, rfl⟩
            go_wp2_with fail
            refine (HNRM2.out _ (prw.env_below HEC.out HBC1.out) (dnw.tabs_below HTC.out HBC1.out)).mono ?_
            rintro e w2 ⟨rfl, hB2⟩
            have HBC2 := Lib.hid (HBC1.out.trans (hB2.mono HBC1.out.size))
            have HW12 := Lib.hid hB2
            clear hB2 m0 m1 m2
            go_wp2_with fail
            have HG2 := Lib.hid (ownG_below HG1.out HW12.out)
            go_loopw [17, 18, 19, 20, 68] (fun _ _ _ _ iv wr => ∃ i : Nat, i ≤ K ∧ iv = .int .i64 (i : Int) ∧ Hid (allP sy (AL.take i) = true) ∧ Hid (OwnG wr WC.heap.size g K cp (mix sy AL i)) ∧ Hid (Below WC.heap.size WC wr)) (fun _ _ _ _ iv _ => K - (intOf iv).toNat)
            case atStart => exact ⟨0, Nat.zero_le _, rfl, rfl, HG2, HBC2⟩
            case round =>
              obtain ⟨i, hi, rfl, hall, hO, hBr⟩ := hrel
              by_cases hlt : i < K
              · have hltI : (i : Int) < (K : Int) := by omega
                have hil : i < AL.length := by rw [HKe.out]; exact hlt
                have hsz := hBr.out.size
                have CE := ownG_cell hO.out i (by rw [mix_len]; exact hil)
                rw [mix_at hil] at CE
                have hEr := prw.env_below HEC.out hBr.out
                have HP0 := HPS.out AL[i] (List.getElem_mem _) wr hEr
                have HSET := Lib.hid (mix_step (syn := sy) hil)
                have HAL := Lib.hid (allP_step (syn := sy) hil)
                have HNOi := Lib.hid (HNO.out i hil)
                obtain ⟨n0, n1, n2⟩ := tb_cells (tb_below HTBC.out hBr.out)
                have HGP : Hid (∀ o, pieceO sy AL[i].data.toList = some o → gotP sy AL[i] = o) := by
                  intro o ho
                  unfold gotP
                  rw [ho]; rfl
                generalize AL[i] = x at CE HP0 HSET HAL HNOi HGP
                clear hEr
                cases hp : pieceO sy x.data.toList with
                | none =>
                  have HR := Lib.hid (HNOi.out hp)
                  rw [hp] at HP0
                  have HP1 : Hid (Calls Tryz.prog 33 #[.agg #[.string nm, .int .i64 2, .bool sg], .string x] wr fun e w' => e = .returned (.tuple #[.string ⟨#[]⟩, .int .i64 19]) ∧ Below wr.heap.size wr w') := HP0
                  clear HP0 HNOi HGP hp HSET HAL
                  go_wp2_with fail
                  refine (HP1.out).mono ?_
                  rintro e w3 ⟨rfl, hB3⟩
                  have HBC3 := Lib.hid (hBr.out.trans (hB3.mono hsz))
                  clear hB3 CE n0 n1 n2
                  go_wp2_with fail
                  go_ret2
                  exact ⟨by (rw [HR.out] <;> rfl), HBWC.out.trans (HBC3.out.mono hwc)⟩
                | some o =>
                  have hgo := HGP.out o hp
                  rw [hp] at HP0 HAL
                  rw [hgo] at HSET
                  have HP1 : Hid (Calls Tryz.prog 33 #[.agg #[.string nm, .int .i64 2, .bool sg], .string x] wr fun e w' => e = .returned (.tuple #[.string (bs o), .int .i64 0]) ∧ Below wr.heap.size wr w') := HP0
                  have HALL : Hid (allP sy (AL.take (i + 1)) = true) := by rw [HAL.out, hall.out]; rfl
                  clear HP0 HNOi HGP hp hgo HAL
                  go_wp2_with fail
                  refine (HP1.out).mono ?_
                  rintro e w3 ⟨rfl, hB3⟩
                  have HBC3 := Lib.hid (hBr.out.trans (hB3.mono hsz))
                  have hO3 := Lib.hid (ownG_below hO.out hB3)
                  have hfz := ownG_frozen hO3.out i
                  have CE3 := (hB3.cell (p := ⟨g, i, none⟩) (World.block_lt_of_cell? wr _ CE)).trans CE
                  have HO4 : Hid (OwnG (w3.setCell ⟨g, i, none⟩ (.string (bs o))) WC.heap.size g K cp (mix sy AL (i + 1))) := by rw [← HSET.out]; exact ownG_set hO3.out i (bs o)
                  have HBC4 : Hid (Below WC.heap.size WC (w3.setCell ⟨g, i, none⟩ (.string (bs o)))) := HBC3.out.setCell (p := ⟨g, i, none⟩) hgB _
                  clear hB3 CE n0 n1 n2 HSET
                  go_wp2_with fail
                  go_roundw
                  case rel => exact ⟨i + 1, by omega, by go_num, HALL, HO4, HBC4⟩
                  case measure => simp [intOf]; omega
              · obtain rfl : i = K := by omega
                have hyes := HYES.out (by have := hall.out; rw [← HKe.out, List.take_length] at this; exact this)
                have HOZ : Hid (OwnG wr WC.heap.size g i cp (AL.map fun x => bs (gotP sy x))) := by
                  have h := hO.out
                  have e : mix sy AL i = AL.map fun x => bs (gotP sy x) := by rw [← HKe.out]; exact mix_all sy AL
                  rw [e] at h
                  exact h
                have ca : wr.cell? ⟨g, 0, none⟩ = some (.string (bs (gotP sy first))) := ownG_at HOZ.out 0 (by rw [← HALe.out]; rfl)
                have cz : wr.cell? ⟨g, M, none⟩ = some (.string (bs (gotP sy last))) := ownG_at HOZ.out M (by
                  rw [← HALe.out, ← HM.out, List.getElem?_map, List.getElem?_cons_succ, List.getElem?_append_right (by rw [HNe.out]; exact Nat.le_refl _), HNe.out, Nat.sub_self]
                  rfl)
                have cm : Hid (∀ j (h : j < N), ∃ p, wr.cell? ⟨g, 1 + j, none⟩ = some (.string (bs p)) ∧ (mids.map (gotP sy)).drop j = p :: (mids.map (gotP sy)).drop (j + 1)) := by
                  intro j h
                  have hj : j < mids.length := by rw [HNe.out]; exact h
                  refine ⟨gotP sy mids[j], ownG_at HOZ.out (1 + j) ?_, ?_⟩
                  · rw [← HALe.out, Nat.add_comm 1 j, List.getElem?_map, List.getElem?_cons_succ, List.getElem?_append_left hj, List.getElem?_eq_getElem hj]
                    rfl
                  · rw [List.drop_eq_getElem_cons (by rw [List.length_map]; exact hj), List.getElem_map]
                have hmsl : Hid (∀ l, greedy ((mids.map (gotP sy)).drop N) l = true) := by
                  intro l
                  rw [List.drop_eq_nil_of_le (by rw [List.length_map, HNe.out]; exact Nat.le_refl _)]
                  rfl
                have HCP : Hid (∀ w, Calls Tryz.prog 34 #[.string (bs u), .string (bs (gotP sy first))] w fun e w' => e = .returned (.tuple #[.string (bs (Lib.trimPrefix u (gotP sy first))), .bool (Lib.hasPrefix u (gotP sy first))]) ∧ w = w') := by
                  intro w
                  refine (Tryz.strings_CutPrefix (bs u) (bs (gotP sy first)) w).mono ?_
                  rintro e w' ⟨rfl, rfl⟩
                  exact ⟨rfl, rfl⟩
                have HBWr := Lib.hid (HBWC.out.trans (hBr.out.mono hwc))
                have hEr := Lib.hid (prw.env_below HEC.out hBr.out)
                generalize mids.map (gotP sy) = ms at hyes cm hmsl
                have hpn := fun h => partL_no (s := u) (a := gotP sy first) (z := gotP sy last) (m := ms) h
                have hpc := fun h => partL_cut (s := u) (a := gotP sy first) (z := gotP sy last) (m := ms) h
                have htl := trim_len u (gotP sy first) (gotP sy last)
                have htp : (Lib.trimPrefix u (gotP sy first)).length ≤ u.length := by
                  unfold Lib.trimPrefix; split
                  · rw [List.length_drop]; omega
                  · omega
                generalize gotP sy first = a at *
                generalize gotP sy last = z at *
                clear HYES HNO HPS hO HOZ hall HSZ HTBC HNRM2 HCC HANY HAN1
                cases hpre : Lib.hasPrefix u a with
                | false =>
                  rw [hpre] at HCP
                  have HR : Hid (R = (false, 0)) := by rw [hyes, hpn hpre]; exact rfl
                  clear hyes hpn hpc hpre
                  go_wp2_with fail
                  refine (HCP.out _).mono ?_
                  rintro e w4 ⟨rfl, rfl⟩
                  go_wp2_with fail
                  go_ret2
                  exact ⟨by (rw [HR.out] <;> rfl), HBWr.out⟩
                | true =>
                  rw [hpre] at HCP
                  have HR := Lib.hid (hyes.trans (by rw [hpc hpre]))
                  clear hyes hpn hpc hpre
                  have htp2 : (Lib.trimPrefix u a).length ≤ 1000 := by omega
                  have HCS : Hid (∀ w, Calls Tryz.prog 35 #[.string (bs (Lib.trimPrefix u a)), .string (bs z)] w fun e w' => e = .returned (.tuple #[.string (bs (Lib.trimSuffix (Lib.trimPrefix u a) z)), .bool (Lib.hasSuffix (Lib.trimPrefix u a) z)]) ∧ w = w') := by
                    intro w
                    refine (Tryz.strings_CutSuffix (bs (Lib.trimPrefix u a)) (bs z) w (by rw [bs_size]; omega)).mono ?_
                    rintro e w' ⟨rfl, rfl⟩
                    exact ⟨rfl, rfl⟩
                  have htl2 : (Lib.trimSuffix (Lib.trimPrefix u a) z).length ≤ 1000 := by omega
                  have HTL := Lib.hid htl2
                  generalize Lib.trimSuffix (Lib.trimPrefix u a) z = t2 at HCS HR HTL
                  generalize Lib.hasSuffix (Lib.trimPrefix u a) z = bo at HCS HR
                  generalize Lib.trimPrefix u a = t1 at HCS HCP
                  clear htl htl2 htp htp2
                  go_wp2_with fail
                  refine (HCP.out _).mono ?_
                  rintro e w4 ⟨rfl, rfl⟩
                  go_wp2_with fail
                  refine (HCS.out _).mono ?_
                  rintro e w4 ⟨rfl, rfl⟩
                  clear ca cz
                  go_wp2_with fail
                  go_loopw [15, 21, 23, 114] (fun sv ov _ iv w5 => ∃ j : Nat, j ≤ N ∧ iv = .int .i64 (j : Int) ∧ ∃ (t : List UInt8) (b : Bool), sv = .string (bs t) ∧ ov = .bool b ∧ Hid (t.length ≤ 1000) ∧ Hid (R = (b && greedy (ms.drop j) t, 0)) ∧ Hid (Below wr.heap.size wr w5)) (fun _ _ _ iv _ => N - (intOf iv).toNat)
                  case atStart => exact ⟨0, Nat.zero_le _, rfl, t2, bo, rfl, rfl, HTL, HR, Below.refl _ _⟩
                  case round =>
                    obtain ⟨j, hj, rfl, t, b, rfl, rfl, htn, hRj, hB5⟩ := hrel
                    by_cases hlt2 : j < N
                    · have hltJ : (j : Int) < (N : Int) := by omega
                      obtain ⟨p, cp0, hdr⟩ := cm.out j hlt2
                      have cp1 := (hB5.out.cell (p := ⟨g, 1 + j, none⟩) (World.block_lt_of_cell? _ _ cp0)).trans cp0
                      have hRd := hRj.out
                      rw [hdr] at hRd
                      cases b with
                      | false =>
                        have HR3 : Hid (R = (false, 0)) := hRd
                        clear hRd hdr cp0
                        go_wp2_with fail
                        go_ret2
                        exact ⟨by (rw [HR3.out] <;> rfl), HBWr.out.trans (hB5.out.mono HBWr.out.size)⟩
                      | true =>
                        rw [cut_yes, Bool.true_and] at hRd
                        obtain ⟨mx, hmx⟩ := prw.env_below hEr.out hB5.out
                        have HCT : Hid (Calls Tryz.prog 36 #[.string (bs t), .string (bs p)] wr fun e w' => e = .returned (.tuple #[.string (bs (Lib.cut t p).1), .string (bs (Lib.cut t p).2.1), .bool (Lib.cut t p).2.2]) ∧ ∃ n, w' = wr.drewN n) := Tryz.strings_Cut (bs t) (bs p) mx wr (by have := htn.out; rw [bs_size]; omega) hmx
                        have htn2 : Hid ((Lib.cut t p).2.1.length ≤ 1000) := Nat.le_trans (cut_len t p) htn.out
                        have HR3 := Lib.hid hRd
                        clear hRd hdr cp0 hmx hRj
                        generalize (Lib.cut t p).2.2 = b2 at HCT HR3
                        generalize (Lib.cut t p).2.1 = t3 at HCT HR3 htn2
                        generalize (Lib.cut t p).1 = t4 at HCT
                        go_wp2_with fail
                        refine (HCT.out).mono ?_
                        rintro e w6 ⟨rfl, nd, rfl⟩
                        have HB6 := Lib.hid (below_dr hB5.out nd)
                        go_wp2_with fail
                        go_roundw
                        case rel => exact ⟨j + 1, by omega, by go_num, t3, b2, rfl, rfl, htn2, HR3, HB6⟩
                        case measure => simp [intOf]; omega
                    · obtain rfl : j = N := by omega
                      have HR3 : Hid (R = (b, 0)) := by rw [hRj.out, hmsl.out, Bool.and_true]; exact rfl
                      go_wp2_with fail
                      go_ret2
                      exact ⟨by (rw [HR3.out] <;> rfl), HBWr.out.trans (hB5.out.mono HBWr.out.size)⟩
          · skip
            go_enter Tryz.func14, Tryz.ntmps14
            go_wp2_with fail
            refine (HCC.out).mono ?_
            rintro e w1 ⟨v1, rfl, hO1, hB1⟩
            have HB1 := Lib.hid (HBWC.out.trans (hB1.mono hwc))
            have HBC1 := Lib.hid hB1
            obtain ⟨g, cp, rfl, hgB, hcp, hO2⟩ := own_open hO1.out (by intro e; have := HALn.out; rw [e] at this; simp at this)
            have HG1 : Hid (OwnG w1 WC.heap.size g K cp AL) := by
              have := ownG_of hO2
              rw [HKe.out] at this
              exact this
            rw [HKe.out] at hcp
            rw [HKe.out]
            have HTB1 := Lib.hid (tb_below HTB0.out (HB0C.out.trans (hB1.mono hw0c)))
            obtain ⟨m0, m1, m2⟩ := tb_cells HTB1.out
            have hw1 : w.heap.size ≤ w1.heap.size := HB1.out.size
            clear hO1 hO2 hB1 hW0 hWA hWB hWC k0 k1 k2
            have HSTR : Hid (Strs w1 (some ⟨g, 0, none⟩) AL) := fun i hi => ⟨g, 0, rfl, by rw [Nat.zero_add]; exact ownG_cell HG1.out i hi⟩
            have HAN1 := Lib.hid (HANY.out g cp w1 HSTR.out)
            rw [HSOME] at HAN1
            go_wp2_with fail
            refine (HAN1.out).mono ?_
            rintro e wz ⟨rfl, rfl⟩
            go_wp2_with fail
            refine (HNRM2.out _ (prw.env_below HEC.out HBC1.out) (dnw.tabs_below HTC.out HBC1.out)).mono ?_
            rintro e w2 ⟨rfl, hB2⟩
            have HBC2 := Lib.hid (HBC1.out.trans (hB2.mono HBC1.out.size))
            have HW12 := Lib.hid hB2
            clear hB2 m0 m1 m2
            go_wp2_with fail
            have HG2 := Lib.hid (ownG_below HG1.out HW12.out)
            go_loopw [17, 18, 19, 20, 68] (fun _ _ _ _ iv wr => ∃ i : Nat, i ≤ K ∧ iv = .int .i64 (i : Int) ∧ Hid (allP sy (AL.take i) = true) ∧ Hid (OwnG wr WC.heap.size g K cp (mix sy AL i)) ∧ Hid (Below WC.heap.size WC wr)) (fun _ _ _ _ iv _ => K - (intOf iv).toNat)
            case atStart => exact ⟨0, Nat.zero_le _, rfl, rfl, HG2, HBC2⟩
            case round =>
              obtain ⟨i, hi, rfl, hall, hO, hBr⟩ := hrel
              by_cases hlt : i < K
              · have hltI : (i : Int) < (K : Int) := by omega
                have hil : i < AL.length := by rw [HKe.out]; exact hlt
                have hsz := hBr.out.size
                have CE := ownG_cell hO.out i (by rw [mix_len]; exact hil)
                rw [mix_at hil] at CE
                have hEr := prw.env_below HEC.out hBr.out
                have HP0 := HPS.out AL[i] (List.getElem_mem _) wr hEr
                have HSET := Lib.hid (mix_step (syn := sy) hil)
                have HAL := Lib.hid (allP_step (syn := sy) hil)
                have HNOi := Lib.hid (HNO.out i hil)
                obtain ⟨n0, n1, n2⟩ := tb_cells (tb_below HTBC.out hBr.out)
                have HGP : Hid (∀ o, pieceO sy AL[i].data.toList = some o → gotP sy AL[i] = o) := by
                  intro o ho
                  unfold gotP
                  rw [ho]; rfl
                generalize AL[i] = x at CE HP0 HSET HAL HNOi HGP
                clear hEr
                cases hp : pieceO sy x.data.toList with
                | none =>
                  have HR := Lib.hid (HNOi.out hp)
                  rw [hp] at HP0
                  have HP1 : Hid (Calls Tryz.prog 33 #[.agg #[.string nm, .int .i64 7, .bool sg], .string x] wr fun e w' => e = .returned (.tuple #[.string ⟨#[]⟩, .int .i64 19]) ∧ Below wr.heap.size wr w') := HP0
                  clear HP0 HNOi HGP hp HSET HAL
                  go_wp2_with fail
                  refine (HP1.out).mono ?_
                  rintro e w3 ⟨rfl, hB3⟩
                  have HBC3 := Lib.hid (hBr.out.trans (hB3.mono hsz))
                  clear hB3 CE n0 n1 n2
                  go_wp2_with fail
                  go_ret2
                  exact ⟨by (rw [HR.out] <;> rfl), HBWC.out.trans (HBC3.out.mono hwc)⟩
                | some o =>
                  have hgo := HGP.out o hp
                  rw [hp] at HP0 HAL
                  rw [hgo] at HSET
                  have HP1 : Hid (Calls Tryz.prog 33 #[.agg #[.string nm, .int .i64 7, .bool sg], .string x] wr fun e w' => e = .returned (.tuple #[.string (bs o), .int .i64 0]) ∧ Below wr.heap.size wr w') := HP0
                  have HALL : Hid (allP sy (AL.take (i + 1)) = true) := by rw [HAL.out, hall.out]; rfl
                  clear HP0 HNOi HGP hp hgo HAL
                  go_wp2_with fail
                  refine (HP1.out).mono ?_
                  rintro e w3 ⟨rfl, hB3⟩
                  have HBC3 := Lib.hid (hBr.out.trans (hB3.mono hsz))
                  have hO3 := Lib.hid (ownG_below hO.out hB3)
                  have hfz := ownG_frozen hO3.out i
                  have CE3 := (hB3.cell (p := ⟨g, i, none⟩) (World.block_lt_of_cell? wr _ CE)).trans CE
                  have HO4 : Hid (OwnG (w3.setCell ⟨g, i, none⟩ (.string (bs o))) WC.heap.size g K cp (mix sy AL (i + 1))) := by rw [← HSET.out]; exact ownG_set hO3.out i (bs o)
                  have HBC4 : Hid (Below WC.heap.size WC (w3.setCell ⟨g, i, none⟩ (.string (bs o)))) := HBC3.out.setCell (p := ⟨g, i, none⟩) hgB _
                  clear hB3 CE n0 n1 n2 HSET
                  go_wp2_with fail
                  go_roundw
                  case rel => exact ⟨i + 1, by omega, by go_num, HALL, HO4, HBC4⟩
                  case measure => simp [intOf]; omega
              · obtain rfl : i = K := by omega
                have hyes := HYES.out (by have := hall.out; rw [← HKe.out, List.take_length] at this; exact this)
                have HOZ : Hid (OwnG wr WC.heap.size g i cp (AL.map fun x => bs (gotP sy x))) := by
                  have h := hO.out
                  have e : mix sy AL i = AL.map fun x => bs (gotP sy x) := by rw [← HKe.out]; exact mix_all sy AL
                  rw [e] at h
                  exact h
                have ca : wr.cell? ⟨g, 0, none⟩ = some (.string (bs (gotP sy first))) := ownG_at HOZ.out 0 (by rw [← HALe.out]; rfl)
                have cz : wr.cell? ⟨g, M, none⟩ = some (.string (bs (gotP sy last))) := ownG_at HOZ.out M (by
                  rw [← HALe.out, ← HM.out, List.getElem?_map, List.getElem?_cons_succ, List.getElem?_append_right (by rw [HNe.out]; exact Nat.le_refl _), HNe.out, Nat.sub_self]
                  rfl)
                have cm : Hid (∀ j (h : j < N), ∃ p, wr.cell? ⟨g, 1 + j, none⟩ = some (.string (bs p)) ∧ (mids.map (gotP sy)).drop j = p :: (mids.map (gotP sy)).drop (j + 1)) := by
                  intro j h
                  have hj : j < mids.length := by rw [HNe.out]; exact h
                  refine ⟨gotP sy mids[j], ownG_at HOZ.out (1 + j) ?_, ?_⟩
                  · rw [← HALe.out, Nat.add_comm 1 j, List.getElem?_map, List.getElem?_cons_succ, List.getElem?_append_left hj, List.getElem?_eq_getElem hj]
                    rfl
                  · rw [List.drop_eq_getElem_cons (by rw [List.length_map]; exact hj), List.getElem_map]
                have hmsl : Hid (∀ l, greedy ((mids.map (gotP sy)).drop N) l = true) := by
                  intro l
                  rw [List.drop_eq_nil_of_le (by rw [List.length_map, HNe.out]; exact Nat.le_refl _)]
                  rfl
                have HCP : Hid (∀ w, Calls Tryz.prog 34 #[.string (bs u), .string (bs (gotP sy first))] w fun e w' => e = .returned (.tuple #[.string (bs (Lib.trimPrefix u (gotP sy first))), .bool (Lib.hasPrefix u (gotP sy first))]) ∧ w = w') := by
                  intro w
                  refine (Tryz.strings_CutPrefix (bs u) (bs (gotP sy first)) w).mono ?_
                  rintro e w' ⟨rfl, rfl⟩
                  exact ⟨rfl, rfl⟩
                have HBWr := Lib.hid (HBWC.out.trans (hBr.out.mono hwc))
                have hEr := Lib.hid (prw.env_below HEC.out hBr.out)
                generalize mids.map (gotP sy) = ms at hyes cm hmsl
                have hpn := fun h => partL_no (s := u) (a := gotP sy first) (z := gotP sy last) (m := ms) h
                have hpc := fun h => partL_cut (s := u) (a := gotP sy first) (z := gotP sy last) (m := ms) h
                have htl := trim_len u (gotP sy first) (gotP sy last)
                have htp : (Lib.trimPrefix u (gotP sy first)).length ≤ u.length := by
                  unfold Lib.trimPrefix; split
                  · rw [List.length_drop]; omega
                  · omega
                generalize gotP sy first = a at *
                generalize gotP sy last = z at *
                clear HYES HNO HPS hO HOZ hall HSZ HTBC HNRM2 HCC HANY HAN1
                cases hpre : Lib.hasPrefix u a with
                | false =>
                  rw [hpre] at HCP
                  have HR : Hid (R = (false, 0)) := by rw [hyes, hpn hpre]; exact rfl
                  clear hyes hpn hpc hpre
                  go_wp2_with fail
                  refine (HCP.out _).mono ?_
                  rintro e w4 ⟨rfl, rfl⟩
                  go_wp2_with fail
                  go_ret2
                  exact ⟨by (rw [HR.out] <;> rfl), HBWr.out⟩
                | true =>
                  rw [hpre] at HCP
                  have HR := Lib.hid (hyes.trans (by rw [hpc hpre]))
                  clear hyes hpn hpc hpre
                  have htp2 : (Lib.trimPrefix u a).length ≤ 1000 := by omega
                  have HCS : Hid (∀ w, Calls Tryz.prog 35 #[.string (bs (Lib.trimPrefix u a)), .string (bs z)] w fun e w' => e = .returned (.tuple #[.string (bs (Lib.trimSuffix (Lib.trimPrefix u a) z)), .bool (Lib.hasSuffix (Lib.trimPrefix u a) z)]) ∧ w = w') := by
                    intro w
                    refine (Tryz.strings_CutSuffix (bs (Lib.trimPrefix u a)) (bs z) w (by rw [bs_size]; omega)).mono ?_
                    rintro e w' ⟨rfl, rfl⟩
                    exact ⟨rfl, rfl⟩
                  have htl2 : (Lib.trimSuffix (Lib.trimPrefix u a) z).length ≤ 1000 := by omega
                  have HTL := Lib.hid htl2
                  generalize Lib.trimSuffix (Lib.trimPrefix u a) z = t2 at HCS HR HTL
                  generalize Lib.hasSuffix (Lib.trimPrefix u a) z = bo at HCS HR
                  generalize Lib.trimPrefix u a = t1 at HCS HCP
                  clear htl htl2 htp htp2
                  go_wp2_with fail
                  refine (HCP.out _).mono ?_
                  rintro e w4 ⟨rfl, rfl⟩
                  go_wp2_with fail
                  refine (HCS.out _).mono ?_
                  rintro e w4 ⟨rfl, rfl⟩
                  clear ca cz
                  go_wp2_with fail
                  go_loopw [15, 21, 23, 114] (fun sv ov _ iv w5 => ∃ j : Nat, j ≤ N ∧ iv = .int .i64 (j : Int) ∧ ∃ (t : List UInt8) (b : Bool), sv = .string (bs t) ∧ ov = .bool b ∧ Hid (t.length ≤ 1000) ∧ Hid (R = (b && greedy (ms.drop j) t, 0)) ∧ Hid (Below wr.heap.size wr w5)) (fun _ _ _ iv _ => N - (intOf iv).toNat)
                  case atStart => exact ⟨0, Nat.zero_le _, rfl, t2, bo, rfl, rfl, HTL, HR, Below.refl _ _⟩
                  case round =>
                    obtain ⟨j, hj, rfl, t, b, rfl, rfl, htn, hRj, hB5⟩ := hrel
                    by_cases hlt2 : j < N
                    · have hltJ : (j : Int) < (N : Int) := by omega
                      obtain ⟨p, cp0, hdr⟩ := cm.out j hlt2
                      have cp1 := (hB5.out.cell (p := ⟨g, 1 + j, none⟩) (World.block_lt_of_cell? _ _ cp0)).trans cp0
                      have hRd := hRj.out
                      rw [hdr] at hRd
                      cases b with
                      | false =>
                        have HR3 : Hid (R = (false, 0)) := hRd
                        clear hRd hdr cp0
                        go_wp2_with fail
                        go_ret2
                        exact ⟨by (rw [HR3.out] <;> rfl), HBWr.out.trans (hB5.out.mono HBWr.out.size)⟩
                      | true =>
                        rw [cut_yes, Bool.true_and] at hRd
                        obtain ⟨mx, hmx⟩ := prw.env_below hEr.out hB5.out
                        have HCT : Hid (Calls Tryz.prog 36 #[.string (bs t), .string (bs p)] wr fun e w' => e = .returned (.tuple #[.string (bs (Lib.cut t p).1), .string (bs (Lib.cut t p).2.1), .bool (Lib.cut t p).2.2]) ∧ ∃ n, w' = wr.drewN n) := Tryz.strings_Cut (bs t) (bs p) mx wr (by have := htn.out; rw [bs_size]; omega) hmx
                        have htn2 : Hid ((Lib.cut t p).2.1.length ≤ 1000) := Nat.le_trans (cut_len t p) htn.out
                        have HR3 := Lib.hid hRd
                        clear hRd hdr cp0 hmx hRj
                        generalize (Lib.cut t p).2.2 = b2 at HCT HR3
                        generalize (Lib.cut t p).2.1 = t3 at HCT HR3 htn2
                        generalize (Lib.cut t p).1 = t4 at HCT
                        go_wp2_with fail
                        refine (HCT.out).mono ?_
                        rintro e w6 ⟨rfl, nd, rfl⟩
                        have HB6 := Lib.hid (below_dr hB5.out nd)
                        go_wp2_with fail
                        go_roundw
                        case rel => exact ⟨j + 1, by omega, by go_num, t3, b2, rfl, rfl, htn2, HR3, HB6⟩
                        case measure => simp [intOf]; omega
                    · obtain rfl : j = N := by omega
                      have HR3 : Hid (R = (b, 0)) := by rw [hRj.out, hmsl.out, Bool.and_true]; exact rfl
                      go_wp2_with fail
                      go_ret2
                      exact ⟨by (rw [HR3.out] <;> rfl), HBWr.out.trans (hB5.out.mono HBWr.out.size)⟩
  · rw [if_pos hno]
    clear hno
    go_enter Tryz.func14, Tryz.ntmps14
    go_wp2_with fail
    refine (HCC.out).mono ?_
    rintro e w1 ⟨v1, rfl, hO1, hB1⟩
    have HB1 := Lib.hid (HBWC.out.trans (hB1.mono hwc))
    have HBC1 := Lib.hid hB1
    obtain ⟨g, cp, rfl, hgB, hcp, hO2⟩ := own_open hO1.out (by intro e; have := HALn.out; rw [e] at this; simp at this)
    have HG1 : Hid (OwnG w1 WC.heap.size g K cp AL) := by
      have := ownG_of hO2
      rw [HKe.out] at this
      exact this
    rw [HKe.out] at hcp
    rw [HKe.out]
    have HTB1 := Lib.hid (tb_below HTB0.out (HB0C.out.trans (hB1.mono hw0c)))
    obtain ⟨m0, m1, m2⟩ := tb_cells HTB1.out
    have hw1 : w.heap.size ≤ w1.heap.size := HB1.out.size
    clear hO1 hO2 hB1 hW0 hWA hWB hWC k0 k1 k2
    have HSTR : Hid (Strs w1 (some ⟨g, 0, none⟩) AL) := fun i hi => ⟨g, 0, rfl, by rw [Nat.zero_add]; exact ownG_cell HG1.out i hi⟩
    have HAN1 := Lib.hid (HANY.out g cp w1 HSTR.out)
    go_wp2_with fail
    go_ret2
    exact ⟨rfl, HB1.out⟩
end atw
end Go.Proofs.YtckpiaigoeicfaaGreatDoor
/-! StanW -/
namespace Go.Proofs.YtckpiaigoeicfaaGreatDoor
open Go.RowKit
namespace atw
open atp tupw prw
set_option linter.unusedVariables false
set_option linter.unusedSimpArgs false
/-- the least place from at on -/
def standL (s p : List UInt8) (at_ : Nat) : Int := if s.length < at_ + p.length ∨ Lib.index (s.drop at_) p < 0 then -1 else (at_ : Int) + Lib.index (s.drop at_) p
theorem stand_eq {s p : List UInt8} {k : Nat} (hk : k ≤ s.length) : standL s p k = if Lib.index (s.drop k) p < 0 then -1 else (k : Int) + Lib.index (s.drop k) p := by
  unfold standL
  by_cases h0 : Lib.index (s.drop k) p < 0
  · rw [if_pos (Or.inr h0), if_pos h0]
  · have := Lib.index_room (s.drop k) p (by omega)
    rw [List.length_drop] at this
    rw [if_neg (by omega), if_neg h0]
theorem stand_hit {s p : List UInt8} {k : Nat} (h : k + p.length ≤ s.length) (e : (s.drop k).take p.length = p) : Lib.index (s.drop k) p = 0 := by
  have ho : Lib.occAt (s.drop k) p 0 = true := by
    unfold Lib.occAt
    rw [List.drop_zero, List.isPrefixOf_iff_prefix]
    refine ⟨(s.drop k).drop p.length, ?_⟩
    conv => lhs; lhs; rw [← e]
    exact List.take_append_drop _ _
  exact Lib.index_first (i := 0) (Nat.zero_le _) ho (fun j hj => absurd hj (Nat.not_lt_zero _))
theorem stand_miss {s p : List UInt8} {k : Nat} (h : k + p.length ≤ s.length) (e : (s.drop k).take p.length ≠ p) : standL s p k = standL s p (k + 1) := by
  have hne : s.drop k ≠ [] := by
    intro h0
    have h1 : s.length ≤ k := by simpa using h0
    have h2 : p.length = 0 := by omega
    have h3 := List.eq_nil_of_length_eq_zero h2
    subst h3
    exact e (by simp)
  obtain ⟨c, t, hct⟩ := List.exists_cons_of_ne_nil hne
  have htl : s.drop (k + 1) = t := by
    have : s.drop (k + 1) = (s.drop k).drop 1 := by rw [List.drop_drop]
    rw [this, hct]; rfl
  have hpre : p.isPrefixOf (c :: t) = false := by
    rw [Bool.eq_false_iff]
    intro hp
    rw [List.isPrefixOf_iff_prefix] at hp
    obtain ⟨r, hr⟩ := hp
    apply e
    rw [hct, ← hr]
    simp
  have hg := Lib.index_ge t p
  have hidx : Lib.index (c :: t) p = if Lib.index t p == -1 then -1 else Lib.index t p + 1 := by
    show (if p.isPrefixOf (c :: t) then 0 else _) = _
    rw [hpre]; rfl
  have hlt : k + 1 ≤ s.length := by
    have : (s.drop k).length = t.length + 1 := by rw [hct]; rfl
    rw [List.length_drop] at this
    omega
  rw [stand_eq (by omega), stand_eq hlt, htl, hct, hidx]
  by_cases h1 : Lib.index t p = -1
  · rw [h1]; rfl
  · have hb : (Lib.index t p == -1) = false := by rw [beq_eq_false_iff_ne]; exact h1
    rw [hb]
    simp only [Bool.false_eq_true, if_false]
    rw [if_neg (by omega), if_neg (by omega)]
    omega
theorem ext_take (s : ByteArray) (k n : Nat) (h : k + n ≤ s.size) : (s.extract k (k + n)).data.toList = (s.data.toList.drop k).take n := by
  rw [ByteArray.data_extract, Array.toList_extract, List.extract_eq_take_drop]
  congr 1
  omega
set_option maxRecDepth 20000 in
set_option maxHeartbeats 4000000 in
theorem stands_any (s p : ByteArray) (k0 : Nat) (w : World) (hs : s.size ≤ 1100000) (hp : p.size ≤ 1100000) (hk0 : k0 ≤ 1100000) : Calls Tryz.prog 38 #[.string s, .string p, .int .i64 (k0 : Int)] w fun e w' => e = .returned (.int .i64 (standL s.data.toList p.data.toList k0)) ∧ w = w' := by
  have hsl := kt.size_len s
  have hpl := kt.size_len p
  have HSL := Lib.hid hsl
  have HPL := Lib.hid hpl
  have HOUT : Hid (∀ k, s.size < k + p.size → standL s.data.toList p.data.toList k = -1) := by
    intro k h
    unfold standL
    rw [if_pos (Or.inl (by rw [hsl, hpl]; exact h))]
  have HHIT : Hid (∀ k, k + p.size ≤ s.size → s.extract k (k + p.size) = p → standL s.data.toList p.data.toList k = (k : Int)) := by
    intro k h e
    have := stand_hit (s := s.data.toList) (p := p.data.toList) (k := k) (by rw [hsl, hpl]; exact h) (by
      rw [hpl, ← ext_take s k p.size h, e])
    rw [stand_eq (by rw [hsl]; omega), this]; simp
  have HMISS : Hid (∀ k, k + p.size ≤ s.size → s.extract k (k + p.size) ≠ p → standL s.data.toList p.data.toList k = standL s.data.toList p.data.toList (k + 1)) := by
    intro k h e
    refine stand_miss (by rw [hsl, hpl]; exact h) (fun e2 => e ?_)
    apply kt.str_eq
    rw [ext_take s k p.size h, ← e2, hpl]
  obtain ⟨R, hR⟩ : ∃ R, standL s.data.toList p.data.toList k0 = R := ⟨_, rfl⟩
  have HR := Lib.hid hR
  rw [hR]
  clear hR hsl hpl
  generalize hF : standL s.data.toList p.data.toList = F at HOUT HHIT HMISS HR
  clear hF
  have hpI : (0 : Int) ≤ (p.size : Int) := by omega
  go_enter Tryz.func38, Tryz.ntmps38
  go_wp2_with fail
  go_loop [2] (fun iv => ∃ k : Nat, k ≤ 2000000 ∧ iv = .int .i64 (k : Int) ∧ Hid (F k = R)) (fun iv => s.size + 1 - (intOf iv).toNat)
  case atStart => exact ⟨k0, by omega, rfl, HR⟩
  case round =>
    obtain ⟨k, hk, rfl, hF⟩ := hrel
    by_cases hle : k + p.size ≤ s.size
    · have hleI : (k : Int) + (p.size : Int) ≤ (s.size : Int) := by omega
      by_cases he : s.extract k (k + p.size) = p
      · have HE := Lib.hid ((HHIT.out k hle he).symm.trans hF.out)
        have q : ((s.extract k (k + p.size)).toList == p.toList) = true := by rw [he]; simp
        clear he
        go_wp2_with fail
        go_ret
        exact ⟨by (rw [HE.out] <;> rfl), rfl⟩
      · have HE := Lib.hid ((HMISS.out k hle he).symm.trans hF.out)
        have q : ((s.extract k (k + p.size)).toList == p.toList) = false := by
          rw [beq_eq_false_iff_ne, Lib.toList_data, Lib.toList_data]
          exact fun h => he (kt.str_eq h)
        clear he
        go_wp2_with fail
        go_round
        case rel => exact ⟨k + 1, by omega, by go_num, HE⟩
        case measure => simp [intOf]; omega
    · have HE := Lib.hid ((HOUT.out k (by omega)).symm.trans hF.out)
      have hleI : ¬ ((k : Int) + (p.size : Int) ≤ (s.size : Int)) := by omega
      have hleD : decide ((k : Int) + (p.size : Int) ≤ (s.size : Int)) = false := decide_eq_false hleI
      clear hle
      go_wp2_with fail
      go_ret
      exact ⟨by (rw [HE.out] <;> rfl), rfl⟩
end atw
end Go.Proofs.YtckpiaigoeicfaaGreatDoor
/-! AwP -/
namespace Go.Proofs.YtckpiaigoeicfaaGreatDoor
open Go.RowKit
namespace atw
open atp tupw prw
set_option maxRecDepth 100000 in
theorem aw_eq : eqL 1 [65, 110, 110, 32, 32, 66] [97, 110, 110, 32, 98] = (true, 0) := by decide +kernel
set_option maxRecDepth 100000 in
theorem aw_ord : ordL 4 [57] [49, 48] = (-1, 0) := by decide +kernel
set_option maxRecDepth 100000 in
theorem aw_part : partE 1 ⟨#[65, 110, 110, 97, 98, 101, 108]⟩ ⟨#[97, 110]⟩ ⟨#[101, 108]⟩ [] = (true, 0) := by decide +kernel
end atw
end Go.Proofs.YtckpiaigoeicfaaGreatDoor
/-! AwakeW -/
namespace Go.Proofs.YtckpiaigoeicfaaGreatDoor
open Go.RowKit
namespace atw
open atp tupw prw
set_option linter.unusedVariables false
set_option linter.unusedSimpArgs false
theorem aw_cn : resT (findS (sml.lowL [67, 78])) = .tuple #[.agg #[.string (bs [99, 110]), .int .i64 1, .bool false], .bool true] := by rfl
theorem aw_un : resT (findS (sml.lowL [117, 105, 100, 110, 117, 109, 98, 101, 114])) = .tuple #[.agg #[.string (bs [117, 105, 100, 110, 117, 109, 98, 101, 114]), .int .i64 4, .bool true], .bool true] := by rfl
set_option maxRecDepth 20000 in
set_option maxHeartbeats 4000000 in
theorem awake_any (w : World) (hE : Hid (prw.Env w)) (hT : Hid (dnw.Tabs w)) (hY : Hid (TyEnv w)) : Calls Tryz.prog 9 #[] w fun e w' => e = .returned (.bool true) ∧ Below w.heap.size w w' := by
  have HF1 : Hid (∀ w, TyEnv w → Calls Tryz.prog 16 #[.string ⟨#[67, 78]⟩] w fun e w' => e = .returned (.tuple #[.agg #[.string (bs [99, 110]), .int .i64 1, .bool false], .bool true]) ∧ Below w.heap.size w w') := by
    intro w h
    rw [← aw_cn]
    exact find_any ⟨#[67, 78]⟩ w (by decide) (Lib.hid h)
  have HF2 : Hid (∀ w, TyEnv w → Calls Tryz.prog 16 #[.string ⟨#[117, 105, 100, 110, 117, 109, 98, 101, 114]⟩] w fun e w' => e = .returned (.tuple #[.agg #[.string (bs [117, 105, 100, 110, 117, 109, 98, 101, 114]), .int .i64 4, .bool true], .bool true]) ∧ Below w.heap.size w w') := by
    intro w h
    rw [← aw_un]
    exact find_any ⟨#[117, 105, 100, 110, 117, 109, 98, 101, 114]⟩ w (by decide) (Lib.hid h)
  have HEQ0 : Hid (∀ w nm, prw.Env w → dnw.Tabs w → Calls Tryz.prog 10 #[.agg #[.string nm, .int .i64 1, .bool false], .string ⟨#[65, 110, 110, 32, 32, 66]⟩, .string ⟨#[97, 110, 110, 32, 98]⟩] w fun e w' => e = .returned (.tuple #[.bool true, .int .i64 0]) ∧ Below w.heap.size w w') := by
    intro w nm h1 h2
    have := equal_any nm 1 false ⟨#[65, 110, 110, 32, 32, 66]⟩ ⟨#[97, 110, 110, 32, 98]⟩ w (by decide) (by decide) (Lib.hid h1) (Lib.hid h2)
    rw [show (⟨#[65, 110, 110, 32, 32, 66]⟩ : ByteArray).data.toList = [65, 110, 110, 32, 32, 66] from rfl, show (⟨#[97, 110, 110, 32, 98]⟩ : ByteArray).data.toList = [97, 110, 110, 32, 98] from rfl, aw_eq] at this
    exact this
  have HOR0 : Hid (∀ w nm, prw.Env w → dnw.Tabs w → Calls Tryz.prog 12 #[.agg #[.string nm, .int .i64 4, .bool true], .string ⟨#[57]⟩, .string ⟨#[49, 48]⟩] w fun e w' => e = .returned (.tuple #[.int .i64 (-1), .int .i64 0]) ∧ Below w.heap.size w w') := by
    intro w nm h1 h2
    have := order_any nm 4 true ⟨#[57]⟩ ⟨#[49, 48]⟩ w (by decide) (by decide) (Lib.hid h1) (Lib.hid h2)
    rw [show (⟨#[57]⟩ : ByteArray).data.toList = [57] from rfl, show (⟨#[49, 48]⟩ : ByteArray).data.toList = [49, 48] from rfl, aw_ord] at this
    exact this
  have HPA0 : Hid (∀ w nm, prw.Env w → dnw.Tabs w → Calls Tryz.prog 14 #[.agg #[.string nm, .int .i64 1, .bool false], .string ⟨#[65, 110, 110, 97, 98, 101, 108]⟩, .string ⟨#[97, 110]⟩, .slice none 0 0, .string ⟨#[101, 108]⟩] w fun e w' => e = .returned (.tuple #[.bool true, .int .i64 0]) ∧ Below w.heap.size w w') := by
    intro w nm h1 h2
    have := part_any nm 1 false ⟨#[65, 110, 110, 97, 98, 101, 108]⟩ ⟨#[97, 110]⟩ ⟨#[101, 108]⟩ [] none 0 w (fun i hi => absurd hi (Nat.not_lt_zero _)) (fun _ => rfl) (by decide) (by decide) (by intro x hx; simp at hx; rcases hx with rfl | rfl <;> decide) (Lib.hid h1) (Lib.hid h2)
    rw [aw_part] at this
    exact this
  generalize bs [99, 110] = c0 at HF1
  generalize bs [117, 105, 100, 110, 117, 109, 98, 101, 114] = n0 at HF2
  go_enter Tryz.func9, Tryz.ntmps9
  go_wp2_with fail
  refine (HF1.out _ hY.out).mono ?_
  rintro e w1 ⟨rfl, hB1⟩
  have HB1 := Lib.hid hB1
  clear hB1
  obtain ⟨W1, hW1⟩ : ∃ W, w1.alloc (.cells #[.string c0, .int .i64 1, .bool false] 23) = W := ⟨_, rfl⟩
  have HT1 : Hid (TB W1 w1.heap.size c0 1 false) := by rw [← hW1]; exact tb_new w1 c0 1 false
  have HBW1 : Hid (Below w.heap.size w W1) := by rw [← hW1]; exact HB1.out.alloc (HB1.out.size) _
  have hw1 : w.heap.size ≤ W1.heap.size := HBW1.out.size
  have HW1 := Lib.hid hW1
  clear hW1
  go_wp2_with fail
  rw [HW1.out]
  refine (HF2.out _ (tyEnv_below hY.out HBW1.out)).mono ?_
  rintro e w2 ⟨rfl, hB2⟩
  have HB2 := Lib.hid (HBW1.out.trans (hB2.mono hw1))
  have HT2 := Lib.hid (tb_below HT1.out hB2)
  clear hB2
  obtain ⟨W2, hW2⟩ : ∃ W, w2.alloc (.cells #[.string n0, .int .i64 4, .bool true] 23) = W := ⟨_, rfl⟩
  have HU2 : Hid (TB W2 w2.heap.size n0 4 true) := by rw [← hW2]; exact tb_new w2 n0 4 true
  have HTW2 : Hid (TB W2 w1.heap.size c0 1 false) := tb_below HT2.out (by rw [← hW2]; exact (Below.refl _ _).alloc (Nat.le_refl _) _)
  have HBW2 : Hid (Below w.heap.size w W2) := by rw [← hW2]; exact HB2.out.alloc (HB2.out.size) _
  have hw2 : w.heap.size ≤ W2.heap.size := HBW2.out.size
  have HW2 := Lib.hid hW2
  have HTX : TB (w2.alloc (.cells #[.string n0, .int .i64 4, .bool true] 23)) w1.heap.size c0 1 false := by rw [HW2.out]; exact HTW2.out
  obtain ⟨k0, k1, k2⟩ := tb_cells HTX
  clear hW2 HTX
  go_wp2_with fail
  rw [HW2.out]
  refine (HEQ0.out _ c0 (prw.env_below hE.out HBW2.out) (dnw.tabs_below hT.out HBW2.out)).mono ?_
  rintro e w3 ⟨rfl, hB3⟩
  have HB3 := Lib.hid (HBW2.out.trans (hB3.mono hw2))
  have HT3 := Lib.hid (tb_below HTW2.out hB3)
  have HU3 := Lib.hid (tb_below HU2.out hB3)
  obtain ⟨m0, m1, m2⟩ := tb_cells HT3.out
  obtain ⟨n0', n1, n2⟩ := tb_cells HU3.out
  clear hB3 k0 k1 k2
  go_wp2_with fail
  refine (HOR0.out _ n0 (prw.env_below hE.out HB3.out) (dnw.tabs_below hT.out HB3.out)).mono ?_
  rintro e w4 ⟨rfl, hB4⟩
  have HB4 := Lib.hid (HB3.out.trans (hB4.mono HB3.out.size))
  have HT4 := Lib.hid (tb_below HT3.out hB4)
  obtain ⟨p0, p1, p2⟩ := tb_cells HT4.out
  clear hB4 m0 m1 m2 n0' n1 n2
  go_wp2_with fail
  refine (HPA0.out _ c0 (prw.env_below hE.out HB4.out) (dnw.tabs_below hT.out HB4.out)).mono ?_
  rintro e w5 ⟨rfl, hB5⟩
  have HB5 := Lib.hid (HB4.out.trans (hB5.mono HB4.out.size))
  clear hB5 p0 p1 p2
  go_wp2_with fail
  go_ret
  exact ⟨rfl, HB5.out⟩
end atw
end Go.Proofs.YtckpiaigoeicfaaGreatDoor
/-! TyF -/
namespace Go.Proofs.YtckpiaigoeicfaaGreatDoor
open Go.RowKit
namespace atw
open atp
set_option linter.unusedVariables false
set_option linter.unusedSimpArgs false
def tyData : DataW Unit := .agg (tys.map fun t => .agg [.lit (.string t.name), .lit (.int .i64 t.syn), .lit (.bool t.single)])
theorem rows_take {α β : Type} (f : β → List α) (n : Nat) : ∀ (l : List β) (cs : List α), (∀ i (h : i < l.length), (cs.drop (i * n)).take n = f l[i]) → cs.take (l.length * n) = l.flatMap f := by
  intro l
  induction l with
  | nil => intro cs _; simp
  | cons b r ih =>
    intro cs h
    have h0 := h 0 (by simp)
    rw [Nat.zero_mul, List.drop_zero] at h0
    have h1 := ih (cs.drop n) (by
      intro i hi
      have := h (i + 1) (by simp; omega)
      rw [List.drop_drop, show n + i * n = (i + 1) * n by rw [Nat.add_mul, Nat.one_mul, Nat.add_comm]]
      exact this)
    rw [List.flatMap_cons, List.length_cons, show (r.length + 1) * n = n + r.length * n by rw [Nat.add_mul, Nat.one_mul, Nat.add_comm], List.take_add, h0, h1]
    rfl
set_option maxRecDepth 20000 in
theorem trod_ty {H : Type} {enc : TypeId × Value → H} {w : World} {base : Nat} {sp : Nat → Bool} {held : Bool} {fuel : Nat} {cs : List Value} {q : List MemPlace} {t : Ty}
    (h : DataW.trod enc Tryz.prog w base sp held fuel 23 cs = some (.agg [.lit (.string t.name), .lit (.int .i64 t.syn), .lit (.bool t.single)], q)) : cs = tval t := by
  obtain ⟨y0, y1, y2, n, hx, hl, h0, h1, h2⟩ := Deep.trod_struct3 Tryz.underlying23 h
  obtain ⟨s, e0, rfl, _⟩ := DataW.trod_string Tryz.underlying9 h0
  obtain ⟨z, e1, rfl, _⟩ := DataW.trod_int Tryz.underlying3 h1
  obtain ⟨b, e2, rfl⟩ := DataW.trod_bool Tryz.underlying4 h2
  have hx1 := congrArg Prod.fst hx
  simp only [DataW.agg.injEq, List.cons.injEq, DataW.lit.injEq, Lit.string.injEq, Lit.int.injEq, Lit.bool.injEq, true_and, and_true] at hx1
  obtain ⟨x0, x1, x2⟩ := hx1
  have k0 : Tryz.prog.cellsOf 9 = 1 := by kernel_rfl
  have k1 : Tryz.prog.cellsOf 3 = 1 := by kernel_rfl
  have k2 : Tryz.prog.cellsOf 4 = 1 := by kernel_rfl
  have k3 : Tryz.prog.cellsOf 23 = 3 := by kernel_rfl
  rw [k3] at hl
  obtain ⟨a, b', c, rfl⟩ : ∃ a b' c, cs = [a, b', c] := by
    match cs, hl with
    | [a, b', c], _ => exact ⟨a, b', c, rfl⟩
  · skip
    have e0' : [a] = [Value.string s] := by simpa [k0] using e0
    have e1' : [b'] = [Value.int .i64 z] := by simpa [k1] using e1
    have e2' : [c] = [Value.bool b] := by simpa [k2] using e2
    cases e0'; cases e1'; cases e2'
    unfold tval bs
    rw [x0, x1, x2]
/-- WHAT THE ROW's LIST GIVES: the table lies where it was laid. -/
theorem tyEnv_of_reads {w : World} (h : Lib.VarReads Tryz.prog w "rollbook/attr.types" tyData) : Hid (TyEnv w) := by
  obtain ⟨g, t, cs, fuel, p, hg, hty, hvar, hd⟩ := h
  obtain rfl := Option.some.inj ((show Tryz.prog.globalNamed "rollbook/attr.types" = some 0 by kernel_rfl).symm.trans hg)
  obtain rfl := Option.some.inj ((show (Tryz.prog.globals[0]?).map (·.type) = some 63 by kernel_rfl).symm.trans hty)
  have k3 : Tryz.prog.cellsOf 23 = 3 := by kernel_rfl
  have hall := rows_take tval 3 tys cs.toList (by
    intro i hi
    obtain ⟨fuel', d, q, hdi, he⟩ := Lib.array_elem Tryz.underlying63 hd i hi
    rw [List.getElem?_map, List.getElem?_eq_getElem hi] at hdi
    simp only [Option.map_some, Option.some.injEq] at hdi
    subst hdi
    rw [k3] at he
    exact trod_ty he)
  intro j v hj
  have hlt : j < 60 := by
    have h1 := (List.getElem?_eq_some_iff.1 hj).1
    have h2 : tcells.length = 60 := by kernel_rfl
    omega
  have hj2 : (cs.toList.take (tys.length * 3))[j]? = some v := by rw [hall]; exact hj
  rw [List.getElem?_take, if_pos (by rw [tys_len]; omega)] at hj2
  rw [Nat.zero_add, World.var?_cell hg hvar j, ← Array.getElem?_toList]
  exact hj2
end atw
end Go.Proofs.YtckpiaigoeicfaaGreatDoor
/-! StrsOf -/
namespace Go.Proofs.YtckpiaigoeicfaaGreatDoor
open Go.RowKit
namespace tupo
open tupw
theorem cell_spot {w : World} {b o : Nat} {sp : Option Nat} {v : Value} (h : w.cell? ⟨b, o, sp⟩ = some v) : sp = none := by
  cases sp with
  | none => rfl
  | some x =>
    unfold World.cell? at h
    simp at h
    split at h <;> cases h
/-- a list of texts that came in -/
theorem texts_of {H : Type} {enc : TypeId × Value → H} {P : Program} {w : World} {base : Nat} {sp : Nat → Bool} {held : Bool} {t e : TypeId} {d : DataW H} {p : List MemPlace} {ao : Option Addr} {len cap : Nat}
    (ht : P.underlying t = some (.slice e)) (he : P.underlying e = some .string) (hc : P.cellsOf e = 1)
    (h : ∃ fuel, DataW.trod enc P w base sp held fuel t [.slice ao len cap] = some (d, p)) : ∃ l : List ByteArray, len = l.length ∧ Strs w ao l ∧ (∀ s ∈ l, s.size ≤ maxLen) ∧ len ≤ maxLen ∧ len ≤ cap ∧ (ao = none → len = 0 ∧ cap = 0) := by
  obtain ⟨fuel, h⟩ := h
  rcases ChangeShapes.open_strings ht he hc h with ⟨hcs, _⟩ | ⟨a, len', cap', ss, hcs, _, hlc, hcm, hlen, _, hcell, hsm⟩
  · simp at hcs
    obtain ⟨rfl, rfl, rfl⟩ := hcs
    exact ⟨[], rfl, fun i hi => by simp at hi, fun s hs => by simp at hs, by omega, by omega, fun _ => ⟨rfl, rfl⟩⟩
  · simp at hcs
    obtain ⟨rfl, rfl, rfl⟩ := hcs
    have hle : len ≤ ss.length := by rw [hlen]; split <;> omega
    refine ⟨ss.take len, by simp; omega, fun i hi => ?_, fun s hs => hsm s (List.mem_of_mem_take hs), by omega, hlc, fun e => by simp at e⟩
    have hi' : i < len := by simp at hi; omega
    have hc2 := hcell i (by omega)
    obtain ⟨b, o, spt⟩ := a
    have hsp : spt = none := by
      cases spt with
      | none => rfl
      | some x =>
        exfalso
        have hz := hcell 0 (by omega)
        have e0 : (⟨b, o, some x⟩ : Addr).add 0 = ⟨b, o, some x⟩ := by unfold Addr.add; rfl
        rw [e0] at hz
        exact absurd (cell_spot hz) (by simp)
    subst hsp
    refine ⟨b, o, rfl, ?_⟩
    rw [Addr.add_mid] at hc2
    rw [hc2, List.getElem_take]
    simp [List.getD, List.getElem?_eq_getElem (show i < ss.length by omega)]

end tupo
end Go.Proofs.YtckpiaigoeicfaaGreatDoor
/-! NamesW -/
namespace Go.Proofs.YtckpiaigoeicfaaGreatDoor
open Go.RowKit
namespace atw
open atp tupw prw
set_option linter.unusedVariables false
set_option linter.unusedSimpArgs false
/-- all names -/
def namesL : List ByteArray := tys.map fun t => bs t.name
theorem namesL_len : namesL.length = 20 := rfl
theorem namesL_at (i : Nat) (h : i < 20) (h' : i < namesL.length) : namesL[i] = bs (tys[i]'h).name := List.getElem_map (fun t : Ty => bs t.name)
set_option maxRecDepth 20000 in
set_option maxHeartbeats 4000000 in
theorem names_any (w : World) (hE : Hid (TyEnv w)) : Calls Tryz.prog 23 #[] w fun e w' => ∃ v, e = .returned v ∧ Hid (OwnT w' w.heap.size v namesL) ∧ Below w.heap.size w w' := by
  obtain ⟨cs, hcs⟩ : ∃ cs : List Value, Hid (cs = tcells) := ⟨_, rfl⟩
  have HIX : Hid (∀ (i : Nat) (hi : i < 20) w, (Instr.index 63 (.agg cs.toArray) (.int .i64 (i : Int))).run Tryz.prog w = .ok (.agg #[.string (bs (tys[i]'hi).name), .int .i64 (tys[i]'hi).syn, .bool (tys[i]'hi).single]) w) := by
    rw [hcs.out]
    exact tix
  have HTI : Hid ((Tryz.prog.info? 63).map (·.size) = some cs.length) := by rw [hcs.out]; exact tinfo
  have hr : w.rangeAt 0 0 cs := by rw [hcs.out]; exact hE.out
  clear hcs
  go_enter Tryz.func23, Tryz.ntmps23
  go_wp2_with (refine wpList_load_mid rfl 63 _ rfl 0 0 rfl cs _ hr Tryz.underlying63 rfl HTI.out ?_)
  clear hr
  go_loopw [1, 5] (fun lv iv wr => ∃ i : Nat, i ≤ 20 ∧ iv = .int .i64 (i : Int) ∧ Hid (OwnT wr w.heap.size lv ((tys.take i).map fun t => bs t.name)) ∧ Hid (Below w.heap.size w wr)) (fun _ iv _ => 20 - (intOf iv).toNat)
  case atStart => exact ⟨0, by omega, rfl, World.ownsRow_nil _ _ _ _, Below.refl _ _⟩
  case round =>
    obtain ⟨i, hi, rfl, hO, hB⟩ := hrel
    obtain ⟨aoR, mR, capR, rfl, hmR⟩ := dnw.ownT_form hO.out
    by_cases hlt : i < 20
    · have hlt' : (i : Int) < 20 := by omega
      have hix := HIX.out i hlt
      have HST := Lib.hid (dnw.takeMap_step (fun t : Ty => bs t.name) tys i hlt)
      have hml : ((tys.take i).map fun t => bs t.name).length ≤ 20 := by rw [List.length_map, List.length_take]; omega
      have HML := Lib.hid hml
      generalize (tys[i]'hlt) = t at hix HST
      obtain ⟨W, hW⟩ : ∃ W, wr.alloc (.cells #[.string (bs t.name), .int .i64 t.syn, .bool t.single] 23) = W := ⟨_, rfl⟩
      have hBW : Below wr.heap.size wr W := by rw [← hW]; exact (Below.refl _ _).alloc (Nat.le_refl _) _
      have hBX : Below w.heap.size w W := hB.out.trans (hBW.mono hB.out.size)
      have k0 : W.cell? ⟨wr.heap.size, 0, none⟩ = some (.string (bs t.name)) := by rw [← hW, World.cell?_alloc_new]; rfl
      have k1 : W.cell? ⟨wr.heap.size, 1, none⟩ = some (.int .i64 t.syn) := by rw [← hW, World.cell?_alloc_new]; rfl
      have k2 : W.cell? ⟨wr.heap.size, 2, none⟩ = some (.bool t.single) := by rw [← hW, World.cell?_alloc_new]; rfl
      obtain ⟨ao7, m7, cap7, w7, hap, hO7, hg7, hB7⟩ := dnw.ownT_appG (bs t.name) (dnw.ownT_below hO.out hBW) (Nat.le_trans HML.out (by omega)) hBX.size
      have HO7 := Lib.hid hO7
      have HB7 := Lib.hid (hBX.trans hB7)
      clear hO7 hg7 hB7 hBW hBX hml
      go_wp2_with (at_builtin; refine Lib.wpList_append_run _ rfl _ _ _ _ rfl _ _ rfl rfl _ _ hap ?_)
      go_roundw
      case rel =>
        refine ⟨i + 1, by omega, by go_num, ?_, HB7⟩
        show prw.OwnT _ _ _ _
        rw [HST.out]
        exact HO7.out
      case measure => simp [intOf]; omega
    · obtain rfl : i = 20 := by omega
      go_wp2_with fail
      go_ret
      exact ⟨_, rfl, hO, hB.out⟩
end atw
end Go.Proofs.YtckpiaigoeicfaaGreatDoor
/-! CmpT -/
namespace Go.Proofs.YtckpiaigoeicfaaGreatDoor
namespace ord
open Go.Lib
theorem u8_trans {a b c : UInt8} (h : a < b) (k : b < c) : a < c := by
  have h1 := UInt8.lt_iff_toNat_lt.1 h
  have h2 := UInt8.lt_iff_toNat_lt.1 k
  exact UInt8.lt_iff_toNat_lt.2 (by omega)
theorem cmp_trans : ∀ {a b c : List UInt8}, compareBytes a b = -1 → compareBytes b c = -1 → compareBytes a c = -1
  | [], [], _, h, _ => by cases h
  | [], _ :: _, [], _, h => by cases h
  | [], _ :: _, _ :: _, _, _ => rfl
  | _ :: _, [], _, h, _ => by cases h
  | _ :: _, _ :: _, [], _, h => by cases h
  | a :: s, b :: t, c :: u, h, k => by
    rcases cmp_cases a b with h1 | h1 | rfl
    · rcases cmp_cases b c with k1 | k1 | rfl
      · exact cmp_lt (u8_trans h1 k1) _ _
      · rw [cmp_gt k1] at k; cases k
      · exact cmp_lt h1 _ _
    · rw [cmp_gt h1] at h; cases h
    · rcases cmp_cases a c with k1 | k1 | rfl
      · exact cmp_lt k1 _ _
      · rw [cmp_gt k1] at k; cases k
      · rw [cmp_same] at h k ⊢
        exact cmp_trans h k
end ord
end Go.Proofs.YtckpiaigoeicfaaGreatDoor
/-! CmpB -/
namespace Go.Proofs.YtckpiaigoeicfaaGreatDoor
namespace ord
open Go.Lib
theorem less_cmp : ∀ a b : List UInt8, Op.bytesLess a b = decide (compareBytes a b = -1)
  | [], [] => rfl
  | [], _ :: _ => rfl
  | _ :: _, [] => rfl
  | a :: s, b :: t => by
    rcases cmp_cases a b with h | h | rfl
    · rw [cmp_lt h]
      simp [Op.bytesLess, h]
    · rw [cmp_gt h]
      have hn : ¬ a < b := by
        intro h'
        have h1 := UInt8.lt_iff_toNat_lt.1 h
        have h2 := UInt8.lt_iff_toNat_lt.1 h'
        omega
      have hne : ¬ a = b := by rintro rfl; exact absurd (UInt8.lt_iff_toNat_lt.1 h) (by omega)
      simp [Op.bytesLess, hn, hne]
    · rw [cmp_same, ← less_cmp s t]
      simp [Op.bytesLess]
theorem cmp_zero : ∀ a b : List UInt8, compareBytes a b = 0 ↔ a = b
  | [], [] => by simp [compareBytes]
  | [], _ :: _ => by simp [compareBytes]
  | _ :: _, [] => by simp [compareBytes]
  | a :: s, b :: t => by
    rcases cmp_cases a b with h | h | rfl
    · rw [cmp_lt h]
      have : a ≠ b := by rintro rfl; exact absurd (UInt8.lt_iff_toNat_lt.1 h) (by omega)
      simp [this]
    · rw [cmp_gt h]
      have : a ≠ b := by rintro rfl; exact absurd (UInt8.lt_iff_toNat_lt.1 h) (by omega)
      simp [this]
    · rw [cmp_same, cmp_zero s t]
      simp
/-- the three ways, as the walk asks them -/
theorem ways (a b : ByteArray) :
    (compareBytes a.data.toList b.data.toList = -1 ∧ Op.bytesLess a.toList b.toList = true ∧ (a.toList == b.toList) = false ∧ Op.bytesLess b.toList a.toList = false) ∨
    (compareBytes a.data.toList b.data.toList = 0 ∧ a = b) ∨
    (compareBytes a.data.toList b.data.toList = 1 ∧ Op.bytesLess a.toList b.toList = false ∧ (a.toList == b.toList) = false ∧ Op.bytesLess b.toList a.toList = true) := by
  rw [Lib.toList_data, Lib.toList_data, less_cmp, less_cmp, cmp_neg a.data.toList b.data.toList]
  rcases cmp_three a.data.toList b.data.toList with h | h | h
  · left
    refine ⟨h, by rw [h]; rfl, ?_, by rw [h]; rfl⟩
    rw [beq_eq_false_iff_ne]
    intro e
    have := (cmp_zero _ _).2 e
    omega
  · right; left
    refine ⟨h, ?_⟩
    have e := (cmp_zero _ _).1 h
    cases a; cases b
    simp at e
    simp [e]
  · right; right
    refine ⟨h, by rw [h]; rfl, ?_, by rw [h]; rfl⟩
    rw [beq_eq_false_iff_ne]
    intro e
    have := (cmp_zero _ _).2 e
    omega
end ord
end Go.Proofs.YtckpiaigoeicfaaGreatDoor
/-! OrdQ -/
namespace Go.Proofs.YtckpiaigoeicfaaGreatDoor
namespace atp
open atw
set_option linter.unusedVariables false
set_option linter.unusedSimpArgs false
theorem worth_acc : ∀ (l : List UInt8) (n : Nat), l.foldl (fun n c => 10 * n + (c.toNat - 48)) n = n * 10 ^ l.length + worthN l
  | [], n => by simp [worthN]
  | c :: t, n => by
    have h1 := worth_acc t (10 * n + (c.toNat - 48))
    have h2 := worth_acc t (10 * 0 + (c.toNat - 48))
    show t.foldl _ (10 * n + (c.toNat - 48)) = _ + t.foldl _ (10 * 0 + (c.toNat - 48))
    rw [h1, h2, List.length_cons, Nat.pow_succ, Nat.add_mul, Nat.mul_zero, Nat.zero_add, Nat.mul_assoc, ← Nat.mul_assoc n, Nat.mul_comm (n * 10 ^ t.length) 10]
    omega
theorem worth_cons (c : UInt8) (t : List UInt8) : worthN (c :: t) = (c.toNat - 48) * 10 ^ t.length + worthN t := by
  have := worth_acc t (10 * 0 + (c.toNat - 48))
  have e : 10 * 0 + (c.toNat - 48) = c.toNat - 48 := by omega
  show t.foldl _ (10 * 0 + (c.toNat - 48)) = _
  rw [this, e]
theorem digit_le {c : UInt8} (h : digit c = true) : 48 ≤ c.toNat ∧ c.toNat ≤ 57 := by unfold digit at h; exact of_decide_eq_true h
theorem worth_lt : ∀ l : List UInt8, l.all digit = true → worthN l < 10 ^ l.length
  | [], _ => by simp [worthN]
  | c :: t, h => by
    rw [List.all_cons, Bool.and_eq_true] at h
    have h1 := worth_lt t h.2
    have h2 := digit_le h.1
    have h3 : (c.toNat - 48) * 10 ^ t.length ≤ 9 * 10 ^ t.length := Nat.mul_le_mul_right _ (by omega)
    rw [worth_cons, List.length_cons, Nat.pow_succ]
    omega
theorem worth_inj : ∀ l m : List UInt8, l.all digit = true → m.all digit = true → l.length = m.length → worthN l = worthN m → l = m
  | [], [], _, _, _, _ => rfl
  | [], _ :: _, _, _, h, _ => by cases h
  | _ :: _, [], _, _, h, _ => by cases h
  | c :: t, d :: u, hl, hm, hlen, hw => by
    rw [List.all_cons, Bool.and_eq_true] at hl hm
    have hlen' : t.length = u.length := by simpa using hlen
    have h1 := worth_lt t hl.2
    have h2 := worth_lt u hm.2
    have hc := digit_le hl.1
    have hd := digit_le hm.1
    rw [worth_cons, worth_cons, ← hlen'] at hw
    rw [← hlen'] at h2
    have e : c.toNat = d.toNat := by
      rcases Nat.lt_trichotomy c.toNat d.toNat with h | h | h
      · have : (c.toNat - 48 + 1) * 10 ^ t.length ≤ (d.toNat - 48) * 10 ^ t.length := Nat.mul_le_mul_right _ (by omega)
        rw [Nat.add_mul, Nat.one_mul] at this
        omega
      · exact h
      · have : (d.toNat - 48 + 1) * 10 ^ t.length ≤ (c.toNat - 48) * 10 ^ t.length := Nat.mul_le_mul_right _ (by omega)
        rw [Nat.add_mul, Nat.one_mul] at this
        omega
    rw [e] at hw
    have e2 : c = d := UInt8.toNat_inj.1 e
    rw [e2, worth_inj t u hl.2 hm.2 hlen' (by omega)]
def Good (l : List UInt8) : Prop := l.all digit = true ∧ l.head? ≠ some 48 ∧ l ≠ []
theorem good_ge {l : List UInt8} (h : Good l) : 10 ^ (l.length - 1) ≤ worthN l := by
  obtain ⟨h1, h2, h3⟩ := h
  cases l with
  | nil => exact absurd rfl h3
  | cons c t =>
    rw [List.all_cons, Bool.and_eq_true] at h1
    have hc := digit_le h1.1
    have hne : c.toNat ≠ 48 := by
      intro e
      apply h2
      have : c = 48 := UInt8.toNat_inj.1 e
      rw [this]; rfl
    have : 1 * 10 ^ t.length ≤ (c.toNat - 48) * 10 ^ t.length := Nat.mul_le_mul_right _ (by omega)
    rw [worth_cons, List.length_cons, Nat.add_sub_cancel]
    omega
theorem good_pos {l : List UInt8} (h : Good l) : 0 < worthN l := Nat.lt_of_lt_of_le (Nat.pow_pos (by omega)) (good_ge h)
theorem good_inj {l m : List UInt8} (hl : Good l) (hm : Good m) (h : worthN l = worthN m) : l = m := by
  refine worth_inj l m hl.1 hm.1 ?_ h
  have a1 := good_ge hl
  have a2 := good_ge hm
  have b1 := worth_lt l hl.1
  have b2 := worth_lt m hm.1
  have c1 : 0 < l.length := List.length_pos_iff.2 hl.2.2
  have c2 : 0 < m.length := List.length_pos_iff.2 hm.2.2
  rcases Nat.lt_trichotomy l.length m.length with e | e | e
  · have : 10 ^ l.length ≤ 10 ^ (m.length - 1) := Nat.pow_le_pow_right (by omega) (by omega)
    omega
  · exact e
  · have : 10 ^ m.length ≤ 10 ^ (l.length - 1) := Nat.pow_le_pow_right (by omega) (by omega)
    omega
theorem num_cases {l : List UInt8} (h : numOK l = true) : (l = [48] ∧ worth l = 0) ∨ (∃ t, l = 45 :: t ∧ Good t ∧ worth l = -(worthN t : Int)) ∨ (Good l ∧ worth l = (worthN l : Int)) := by
  unfold numOK at h
  rw [Bool.or_eq_true] at h
  rcases h with h | h
  · rw [decide_eq_true_iff] at h
    subst h
    exact Or.inl ⟨rfl, by decide⟩
  · simp only [Bool.and_eq_true, decide_eq_true_eq] at h
    obtain ⟨⟨⟨h1, h2⟩, h3⟩, h4⟩ := h
    have hg : Good (bare l) := ⟨h4, h3, List.length_pos_iff.1 h1⟩
    by_cases h45 : l.head? = some 45
    · refine Or.inr (Or.inl ?_)
      cases l with
      | nil => cases h45
      | cons c t =>
        simp only [List.head?_cons, Option.some.injEq] at h45
        subst h45
        exact ⟨t, rfl, hg, rfl⟩
    · refine Or.inr (Or.inr ?_)
      have e : bare l = l := by unfold bare; rw [if_neg h45]
      rw [e] at hg
      refine ⟨hg, ?_⟩
      unfold worth
      rw [if_neg h45, e]
theorem num_inj {l m : List UInt8} (hl : numOK l = true) (hm : numOK m = true) (h : worth l = worth m) : l = m := by
  rcases num_cases hl with ⟨e1, w1⟩ | ⟨t, e1, g1, w1⟩ | ⟨g1, w1⟩ <;> rcases num_cases hm with ⟨e2, w2⟩ | ⟨u, e2, g2, w2⟩ | ⟨g2, w2⟩
  · rw [e1, e2]
  · have := good_pos g2; omega
  · have := good_pos g2; omega
  · have := good_pos g1; omega
  · rw [e1, e2, good_inj g1 g2 (by omega)]
  · have := good_pos g1; have := good_pos g2; omega
  · have := good_pos g1; omega
  · have := good_pos g1; have := good_pos g2; omega
  · exact good_inj g1 g2 (by omega)
theorem both_ok {syn : Int} {a b : List UInt8} (ha : (normL syn a).2 = 0) (hb : (normL syn b).2 = 0) : bothL syn a b = ((normL syn a).1, (normL syn b).1, 0) := by
  unfold bothL
  rw [if_neg (not_not_intro ha), if_neg (not_not_intro hb)]
theorem both_err {syn : Int} {a b : List UInt8} : (bothL syn a b).2.2 = 0 ↔ (normL syn a).2 = 0 ∧ (normL syn b).2 = 0 := by
  unfold bothL
  by_cases ha : (normL syn a).2 = 0
  · by_cases hb : (normL syn b).2 = 0
    · rw [if_neg (not_not_intro ha), if_neg (not_not_intro hb)]; exact ⟨fun _ => ⟨ha, hb⟩, fun _ => rfl⟩
    · rw [if_neg (not_not_intro ha), if_pos hb]; exact ⟨fun h => absurd h hb, fun h => absurd h.2 hb⟩
  · rw [if_pos ha]; exact ⟨fun h => absurd h ha, fun h => absurd h.1 ha⟩
theorem eq_ok {syn : Int} {a b : List UInt8} (ha : (normL syn a).2 = 0) (hb : (normL syn b).2 = 0) : eqL syn a b = (decide ((normL syn a).1 = (normL syn b).1), 0) := by
  unfold eqL
  rw [both_ok ha hb]
  rfl
theorem eq_err {syn : Int} {a b : List UInt8} : (eqL syn a b).2 = 0 ↔ (normL syn a).2 = 0 ∧ (normL syn b).2 = 0 := both_err
/-- what an order is: three-way, both ways, in a row -/
structure IsOrd (f : List UInt8 → List UInt8 → Int) (p : List UInt8 → Prop) : Prop where
  three : ∀ a b, f a b = -1 ∨ f a b = 0 ∨ f a b = 1
  zero : ∀ a b, p a → p b → (f a b = 0 ↔ a = b)
  neg : ∀ a b, f b a = - f a b
  trans : ∀ a b c, p a → p b → p c → f a b ≤ 0 → f b c ≤ 0 → f a c ≤ 0
theorem ord_bytes : IsOrd Lib.compareBytes (fun _ => True) where
  three := ord.cmp_three
  zero a b _ _ := ord.cmp_zero a b
  neg := ord.cmp_neg
  trans a b c _ _ _ h1 h2 := by
    rcases ord.cmp_three a b with e | e | e
    · rcases ord.cmp_three b c with e2 | e2 | e2
      · rw [ord.cmp_trans e e2]; omega
      · rw [(ord.cmp_zero b c).1 e2] at e; omega
      · omega
    · rw [(ord.cmp_zero a b).1 e]; exact h2
    · omega
theorem ci_lt {x y : Int} (h : x < y) : Lib.compareInt x y = -1 := by unfold Lib.compareInt; rw [if_pos h]
theorem ci_gt {x y : Int} (h : y < x) : Lib.compareInt x y = 1 := by unfold Lib.compareInt; rw [if_neg (by omega), if_pos h]
theorem ci_eq {x y : Int} (h : x = y) : Lib.compareInt x y = 0 := by unfold Lib.compareInt; rw [if_neg (by omega), if_neg (by omega)]
theorem ord_nums : IsOrd (fun a b => Lib.compareInt (worth a) (worth b)) (fun a => numOK a = true) where
  three a b := by
    rcases Int.lt_trichotomy (worth a) (worth b) with h | h | h
    · exact Or.inl (ci_lt h)
    · exact Or.inr (Or.inl (ci_eq h))
    · exact Or.inr (Or.inr (ci_gt h))
  zero a b ha hb := by
    constructor
    · intro h
      apply num_inj ha hb
      rcases Int.lt_trichotomy (worth a) (worth b) with h' | h' | h'
      · rw [ci_lt h'] at h; omega
      · exact h'
      · rw [ci_gt h'] at h; omega
    · rintro rfl; exact ci_eq rfl
  neg a b := by
    rcases Int.lt_trichotomy (worth a) (worth b) with h | h | h
    · rw [ci_lt h, ci_gt h]; rfl
    · rw [ci_eq h, ci_eq h.symm]; rfl
    · rw [ci_gt h, ci_lt h]
  trans a b c ha hb hc h1 h2 := by
    rcases Int.lt_trichotomy (worth a) (worth b) with h | h | h <;> rcases Int.lt_trichotomy (worth b) (worth c) with h' | h' | h'
    all_goals first
      | (exfalso; rw [ci_gt h] at h1; omega)
      | (exfalso; rw [ci_gt h'] at h2; omega)
      | (rw [ci_lt (show worth a < worth c by omega)]; omega)
      | (rw [ci_eq (show worth a = worth c by omega)]; omega)
/-- the order of values that may be -/
theorem ord_laws {syn : Int} (hs : ordS syn = true) : ∃ f p, IsOrd f p ∧ (∀ a, (normL syn a).2 = 0 → p (normL syn a).1) ∧ ∀ a b, (normL syn a).2 = 0 → (normL syn b).2 = 0 → ordL syn a b = (f (normL syn a).1 (normL syn b).1, 0) := by
  by_cases h4 : syn = 4
  · subst h4
    refine ⟨_, _, ord_nums, fun a h => (norm_num h).1, fun a b ha hb => ?_⟩
    rw [ordL_num (both_err.2 ⟨ha, hb⟩), both_ok ha hb]
  · refine ⟨_, _, ord_bytes, fun _ _ => trivial, fun a b ha hb => ?_⟩
    rw [ordL_txt hs h4 (both_err.2 ⟨ha, hb⟩), both_ok ha hb]
end atp
end Go.Proofs.YtckpiaigoeicfaaGreatDoor
