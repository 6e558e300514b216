/- One text out of several: RParseW, RNormW, HoldW, OrdW, RWorW, ROrdW, RMapW, PieceW, PartI, ConcW. -/
import Derived.Test.YtckpiaigoeicfaaGreatDoorB7
import Derived.Lib.AtoiErrMem
import Derived.Lib.Small
import Derived.Laws.OwnMore
import Derived.Lib.AppendZeros
/-! RParseW -/
namespace Go.Proofs.YtckpiaigoeicfaaGreatDoor
open Go.RowKit
namespace dnw
open dnp
set_option linter.unusedVariables false
set_option linter.unusedSimpArgs false
theorem nest_start {w : World} {B : Nat} (hB : B ≤ w.heap.size) (W : World) (hw : W.heap[w.heap.size]? = (w.alloc (.cells #[] 92)).heap[w.heap.size]?) (hs : w.heap.size < W.heap.size) :
    Nest (W.alloc (.cells #[] 96)) B (.slice (some ⟨w.heap.size, 0, none⟩) 0 0) (.slice (some ⟨W.heap.size, 0, none⟩) 0 0) [] [] [] := by
  have h1 : kt.SegX (w.alloc (.cells #[] 92)) B 92 1 (.slice (some ⟨w.heap.size, 0, none⟩) 0 0) 0 [] := kt.segX_of_row (World.ownsRow_made w #[] 0 hB (by unfold maxLen; omega) rfl)
  refine ⟨?_, rfl, fun j h => by simp at h, kt.segX_of_row (World.ownsRow_made W #[] 0 (by omega) (by unfold maxLen; omega) rfl), ?_⟩
  · refine kt.segX_same h1 fun k hk => ?_
    simp only [Value.ownBlock, Option.some.injEq] at hk
    subst hk
    rw [← hw]
    exact Below.heap_alloc _ _ _ hs
  · intro k hk e
    simp only [Value.ownBlock, Option.some.injEq] at hk e
    omega
theorem nest_fresh {w : World} {B : Nat} {vn vl : Value} {ns : List (List Av)} {vals : List Value} (h : Nest w B vn vl ns [] vals) (hB : B ≤ w.heap.size) : Nest (w.alloc (.cells #[] 96)) B vn (.slice (some ⟨w.heap.size, 0, none⟩) 0 0) ns [] vals := by
  have hn := nest_below h (w' := w.alloc (.cells #[] 96)) ((Below.refl _ _).alloc (Nat.le_refl _) _)
  refine ⟨hn.outer, hn.len, fun j a b => ?_, kt.segX_of_row (World.ownsRow_made w #[] 0 hB (by unfold maxLen; omega) rfl), fun k hk e => ?_⟩
  · obtain ⟨i1, i2⟩ := h.inner j a b
    refine ⟨(hn.inner j a b).1, fun k hk => ⟨(i2 k hk).1, fun e => ?_⟩⟩
    simp only [Value.ownBlock, Option.some.injEq] at e
    have := (ownA_lt i1 k hk).2
    omega
  · simp only [Value.ownBlock, Option.some.injEq] at hk
    have := (kt.segX_lt h.outer k e).2
    omega
/-- what the loop carries -/
structure RRel (w wr : World) (L : List Sg) (i j0 : Nat) (vn vl : Value) (ns : List (List Av)) (cur : List Av) (vals : List Value) : Prop where
  nest : Nest wr w.heap.size vn vl ns cur vals
  below : Below w.heap.size w wr
  len : 2 * (ns.length + cur.length) ≤ j0
  small : (∀ l ∈ ns, Smalls l) ∧ Smalls cur
  going : i ≤ L.length → Seg L j0 i ∧ GAt L ns cur j0
  done : i = L.length + 1 → GR [] [] L = some ns
set_option maxRecDepth 100000 in
set_option maxHeartbeats 4000000 in
theorem rparse_any (s : ByteArray) (w : World) (hs : s.size ≤ 140737488351232) :
    Calls Tryz.prog 45 #[.string s] w fun e w' => ParseE s w e w' := by
  by_cases h1000 : 1000 < s.size
  · have h' : 1000 < (s.size : Int) := by omega
    have H1 := Lib.hid h1000
    go_enter Tryz.func45, Tryz.ntmps45
    go_wp2_with fail
    go_ret2
    refine ⟨Below.refl _ _, ?_⟩
    rw [if_pos H1.out]
    rfl
  · have h' : ¬ 1000 < (s.size : Int) := by omega
    have H1 := Lib.hid h1000
    have hs1 : s.size ≤ 1000 := by omega
    have CS := signs_any s w hs1
    have hPR := parseR_signs s.data.toList
    cases hsg : signs s.data.toList with
    | none =>
      rw [hsg] at hPR
      have HP := Lib.hid hPR
      have HC : Hid (Calls Tryz.prog 72 #[.string s] w fun e w' => Below w.heap.size w w' ∧ e = .returned (.tuple #[.slice none 0 0, .bool false])) := by
        refine CS.mono fun e w' h => ?_
        unfold SignsE at h
        rw [hsg] at h
        exact h
      clear CS hsg hPR
      go_enter Tryz.func45, Tryz.ntmps45
      go_wp2_with fail
      refine HC.out.mono ?_
      rintro e w1 ⟨hB1, rfl⟩
      go_wp2_with fail
      go_ret2
      refine ⟨hB1, ?_⟩
      rw [if_neg H1.out, HP.out]
      rfl
    | some L =>
      rw [hsg] at hPR
      simp only at hPR
      have hLl := signs_len _ _ L (Nat.le_refl _) hsg
      rw [kt.size_len] at hLl
      have HP := Lib.hid hPR
      obtain ⟨m, hm⟩ : ∃ m, m = L.length := ⟨_, rfl⟩
      have HM := Lib.hid hm
      have hm1 : m ≤ 1000 := by omega
      have HC : Hid (Calls Tryz.prog 72 #[.string s] w fun e w' => Below w.heap.size w w' ∧ ∃ ao cap, e = .returned (.tuple #[.slice ao m cap, .bool true]) ∧ m ≤ cap ∧ Sgs w' ao L) := by
        refine CS.mono fun e w' h => ?_
        unfold SignsE at h
        rw [hsg] at h
        obtain ⟨h1, ao, cap, h2, h3, h4⟩ := h
        rw [← hm] at h2 h3
        exact ⟨h1, ao, cap, h2, h3, ownS_sgs h4⟩
      clear CS hsg hPR hm
      go_enter Tryz.func45, Tryz.ntmps45
      go_wp2_with fail
      refine HC.out.mono ?_
      rintro e w1 ⟨hB1, ao, cap, rfl, hmc, hSg⟩
      have HB1 := Lib.hid hB1
      have HSg := Lib.hid hSg
      have hsz1 := hB1.size
      clear HC hB1 hSg
      have HB2 : Hid (Below w1.heap.size w1 (w1.alloc (.cells #[] 92))) := (Below.refl _ _).alloc (Nat.le_refl _) _
      have CT := trim_any ao cap L (w1.alloc (.cells #[] 92)) (Lib.hid (sgs_below HSg.out HB2.out)) (by rw [← HM.out]; exact hmc) (by rw [← HM.out]; omega)
      rw [← HM.out] at CT
      obtain ⟨n0, hn0⟩ : ∃ n0, n0 = (trim L).length := ⟨_, rfl⟩
      have HT : Hid (Calls Tryz.prog 73 #[.slice ao m cap] (w1.alloc (.cells #[] 92)) fun e w' => w1.alloc (.cells #[] 92) = w' ∧ ∃ ao cap, e = .returned (.slice ao n0 cap)) := by
        refine CT.mono ?_
        rintro e w' ⟨h1, ao, cap, h2, _⟩
        rw [← hn0] at h2
        exact ⟨h1, ao, cap, h2⟩
      clear CT
      by_cases hz : n0 = 0
      · have htr : trim L = [] := List.eq_nil_of_length_eq_zero (by omega)
        have HR : Hid (parseR s.data.toList = some []) := by
          show _ = _
          rw [HP.out, if_pos htr]
        subst hz
        clear hn0 htr
        go_wp2_with fail
        refine HT.out.mono ?_
        rintro e w2 ⟨rfl, ao2, cap2, rfl⟩
        go_wp2_with fail
        go_ret2
        refine ⟨HB1.out.trans (HB2.out.mono hsz1), ?_⟩
        rw [if_neg H1.out, HR.out]
        exact ⟨_, _, rfl, Nat.le_refl _, fun i hi => by simp at hi, fun l hl => by simp at hl⟩
      · have hz' : ((n0 : Int) == 0) = false := by rw [beq_eq_false_iff_ne]; omega
        have htr : ¬ trim L = [] := fun h => hz (by rw [hn0, h]; rfl)
        have HNO : Hid (∀ w', Below w1.heap.size w1 w' → GR [] [] L = none → ParseE s w (.returned (.tuple #[.slice none 0 0, .int .i64 4])) w') := by
          intro w' hb hg
          refine ⟨HB1.out.trans (hb.mono hsz1), ?_⟩
          rw [if_neg H1.out, HP.out, if_neg htr, hg]
        have HYES : Hid (∀ n, GR [] [] L = some n → parseR s.data.toList = if nameOK n = true then some n else none) := by
          intro n hg
          rw [HP.out, if_neg htr, hg]
        have HRR : Hid (RRel w1 ((w1.alloc (.cells #[] 92)).alloc (.cells #[] 96)) L 0 0 (.slice (some ⟨w1.heap.size, 0, none⟩) 0 0) (.slice (some ⟨(w1.alloc (.cells #[] 92)).heap.size, 0, none⟩) 0 0) [] [] []) :=
          ⟨nest_start (Nat.le_refl _) _ rfl (by simp), ((Below.refl w1.heap.size w1).alloc (Nat.le_refl _) _).alloc (by simp) _, Nat.zero_le _, ⟨fun l hl => by simp at hl, fun x hx => by simp at hx⟩, fun _ => ⟨seg_new (Nat.zero_le _), rfl⟩, fun h => by omega⟩
        have esz : (w1.alloc (.cells #[] 92)).heap.size = w1.heap.size + 1 := by simp
        rw [esz] at HRR
        have hLpos : 0 < L.length := by
          rcases Nat.eq_zero_or_pos L.length with h | h
          · exact absurd (by rw [List.eq_nil_of_length_eq_zero h]; rfl) htr
          · exact h
        obtain ⟨b, o, hao⟩ : ∃ b o, ao = some ⟨b, o, none⟩ := by
          obtain ⟨b, o, h, _, _⟩ := HSg.out 0 hLpos
          exact ⟨b, o, h⟩
        subst hao
        clear hz htr hn0 HP esz hLpos
        go_wp2_with fail
        refine HT.out.mono ?_
        rintro e w2 ⟨rfl, ao2, cap2, rfl⟩
        go_wp2_with fail
        go_loopw [6, 7, 8, 9, 10, 11] (fun nv lv fv iv _ _ wr => ∃ (i j0 : Nat) (ns : List (List Av)) (cur : List Av) (vals : List Value), i ≤ m + 1 ∧ j0 ≤ m + 1 ∧ iv = .int .i64 (i : Int) ∧ fv = .int .i64 (j0 : Int) ∧ Hid (RRel w1 wr L i j0 nv lv ns cur vals)) (fun _ _ _ iv _ _ _ => m + 1 - (intOf iv).toNat)
        case atStart => exact ⟨0, 0, [], [], [], by omega, by omega, rfl, rfl, HRR⟩
        case round =>
          clear HRR HT
          obtain ⟨i, j0, ns, cur, vals, hi, hj0, rfl, rfl, hR⟩ := hrel
          obtain ⟨⟨aoN, mN, capN, rfl, hmN, hcN⟩, ⟨aoL, mL, capL, rfl, hmL, hcL⟩⟩ := nest_letters hR.out.nest
          by_cases hle : i ≤ m
          · have hle' : (i : Int) ≤ (m : Int) := by omega
            have HBW := Lib.hid hR.out.below
            have hszr := HBW.out.size
            obtain ⟨hseg, hgat⟩ := hR.out.going (by rw [← HM.out]; exact hle)
            have HSEG := Lib.hid hseg
            have HGAT := Lib.hid hgat
            have HLEN := Lib.hid hR.out.len
            have hj0i : j0 ≤ i := hseg.1
            have hcl : cur.length ≤ 1100000 := by have := HLEN.out; omega
            have hnl : ns.length ≤ 1100000 := by have := HLEN.out; omega
            have HSW := Lib.hid (sgs_below HSg.out HBW.out)
            clear hseg hgat
            -- what Pair answers
            have CP : Hid (∀ ao' cap', Sgs wr ao' (segL L j0 i) → i - j0 ≤ cap' → Calls Tryz.prog 74 #[.slice ao' (i - j0) cap'] wr fun e w' => PairE (segL L j0 i) wr e w') := by
              intro ao' cap' h1 h2
              have := pair_any ao' cap' (segL L j0 i) wr (Lib.hid h1) (by rw [segL_len HSEG.out]; exact h2) (by rw [segL_len HSEG.out]; omega)
              rw [segL_len HSEG.out] at this
              exact this
            have hCUT : Hid (Sgs wr (cutA (some ⟨b, o, none⟩) cap j0) (segL L j0 i)) := sgs_take (sgs_cut HSW.out (by rw [← HM.out]; exact hmc)) _
            have hj0i' : (j0 : Int) ≤ (i : Int) := by omega
            have hic : (i : Int) ≤ (cap : Int) := by omega
            by_cases hlt : i < m
            · have hlt' : (i : Int) < (m : Int) := by omega
              have hil : i < L.length := by rw [← HM.out]; exact hlt
              obtain ⟨b', o', e', c0, c1⟩ := HSW.out i hil
              cases e'
              have CW : Hid (w1.cell? ⟨b, o + i * 2, none⟩ = some (.int .u8 ((L[i].1).toNat : Int))) := by
                obtain ⟨b2, o2, e2, h2, _⟩ := HSg.out i hil
                cases e2
                exact h2
              by_cases hsep : sepS L[i] = true
              · obtain ⟨ex, esep⟩ := sep_eq hsep
                have hx2 : L[i].2 = true := by rw [ex]
                rw [hx2] at c1
                have hne : (i : Int) ≠ (m : Int) := by omega
                have q0 : ((i : Int) == (m : Int)) = false := by rw [beq_eq_false_iff_ne]; exact hne
                have HBADP : Hid (pairS (segL L j0 i) = none → GR [] [] L = none) := fun h => gat_none HGAT.out HSEG.out (fun _ => hsep) h
                have HPLUS : Hid (∀ p, (L[i].1.toNat : Int) = 43 → pairS (segL L j0 i) = some p → GAt L ns (cur ++ [av p]) (i + 1)) := fun p h hp => gat_plus HGAT.out HSEG.out hil (by rw [ex]; exact congrArg (·, true) (u8_eq (n := 43) (by omega) h)) hp
                have HNEXT : Hid (∀ p, ¬ (L[i].1.toNat : Int) = 43 → pairS (segL L j0 i) = some p → GAt L (ns ++ [cur ++ [av p]]) [] (i + 1)) := fun p h hp => gat_next HGAT.out HSEG.out hil hsep (u8_ne (n := 43) (by omega) h) hp
                have hsp := (u8_sep L[i].1).1 esep
                have CW0 := CW.out
                generalize L[i].1 = c at c0 HPLUS HNEXT hsp CW0
                clear hx2 ex esep hsep hne
                obtain ⟨n0, en0⟩ : ∃ n : Nat, c.toNat = n := ⟨_, rfl⟩
                rw [en0] at c0 HPLUS HNEXT hsp CW0
                have CW0 := Lib.hid CW0
                clear CW
                have hsp3 : (((n0 : Int) == 44) = true ∧ ¬ (n0 : Int) = 43) ∨ (((n0 : Int) == 44) = false ∧ ((n0 : Int) == 59) = true ∧ ¬ (n0 : Int) = 43) ∨ (((n0 : Int) == 44) = false ∧ ((n0 : Int) == 59) = false ∧ ((n0 : Int) == 43) = true ∧ (n0 : Int) = 43) := by
                  rw [beq_iff_eq, beq_iff_eq, beq_iff_eq, beq_eq_false_iff_ne, beq_eq_false_iff_ne]
                  rcases hsp with h | h | h
                  · exact Or.inl ⟨h, by omega⟩
                  · exact Or.inr (Or.inl ⟨by omega, h, by omega⟩)
                  · exact Or.inr (Or.inr ⟨by omega, by omega, h, h⟩)
                clear hsp en0
                cases hp : pairS (segL L j0 i) with
                | none =>
                  have HN := Lib.hid (HBADP.out hp)
                  have CP2 : Hid (∀ ao' cap', Sgs wr ao' (segL L j0 i) → i - j0 ≤ cap' → Calls Tryz.prog 74 #[.slice ao' (i - j0) cap'] wr fun e w' => Below wr.heap.size wr w' ∧ ∃ t v : ByteArray, e = .returned (.tuple #[.agg #[.string t, .string v], .bool false])) := by
                    intro ao' cap' h1 h2
                    refine (CP.out ao' cap' h1 h2).mono fun e w' h => ?_
                    unfold PairE at h
                    rw [hp] at h
                    exact h
                  clear CP HBADP HPLUS HNEXT hp
                  rcases hsp3 with ⟨q1, _⟩ | ⟨q1, q2, _⟩ | ⟨q1, q2, q3, _⟩
                  all_goals
                    go_wp2_with fail
                    all_goals (try (exfalso; omega))
                    all_goals
                      refine (CP2.out _ _ (by have h := hCUT.out; rw [cutA_some, if_neg (by omega)] at h; exact h) (by omega)).mono ?_
                      rintro e w2 ⟨hB2, t, v, rfl⟩
                      go_wp2_with fail
                      go_ret2
                      exact HNO.out _ ((HBW.out.trans (hB2.mono hszr)).alloc (Nat.le_trans hszr hB2.size) _) HN.out
                | some p =>
                  have CP2 : Hid (∀ ao' cap', Sgs wr ao' (segL L j0 i) → i - j0 ≤ cap' → Calls Tryz.prog 74 #[.slice ao' (i - j0) cap'] wr fun e w' => Below wr.heap.size wr w' ∧ e = .returned (.tuple #[.agg #[.string ⟨p.1.toArray⟩, .string ⟨p.2.toArray⟩], .bool true])) := by
                    intro ao' cap' h1 h2
                    refine (CP.out ao' cap' h1 h2).mono fun e w' h => ?_
                    unfold PairE at h
                    rw [hp] at h
                    exact h
                  have hps := pairS_small hp
                  rw [segL_len HSEG.out] at hps
                  have HSMP : Hid ((av p).t.size ≤ 100000 ∧ (av p).v.size ≤ 1100000) := av_small hps.1 (by omega)
                  have h1j : j0 + 1 ≤ i := by omega
                  have HSMC : Hid (Smalls (cur ++ [av p])) := by
                    intro x hx
                    rcases List.mem_append.1 hx with hx | hx
                    · exact hR.out.small.2 x hx
                    · simp only [List.mem_singleton] at hx
                      rw [hx]; exact HSMP.out
                  have HSMN : Hid (∀ l ∈ ns ++ [cur ++ [av p]], Smalls l) := by
                    intro l hl
                    rcases List.mem_append.1 hl with hl | hl
                    · exact hR.out.small.1 l hl
                    · simp only [List.mem_singleton] at hl
                      rw [hl]; exact HSMC.out
                  have HCW : Hid (w1.cell? ⟨b, o + i * 2, none⟩ = some (.int .u8 (n0 : Int))) := CW0.out
                  rcases hsp3 with ⟨q1, h43⟩ | ⟨q1, q2, h43⟩ | ⟨q1, q2, q3, h43⟩
                  · have HG := Lib.hid (HNEXT.out p h43 hp)
                    have q43 : ((n0 : Int) == 43) = false := by rw [beq_eq_false_iff_ne]; exact h43
                    have q43b : ((n0 : Int) != 43) = true := by rw [bne_iff_ne]; exact h43
                    clear CP HBADP HPLUS HNEXT hp hps h43
                    go_wp2_with fail
                    all_goals (try (exfalso; omega))
                    all_goals
                      refine (CP2.out _ _ (by have h := hCUT.out; rw [cutA_some, if_neg (by omega)] at h; exact h) (by omega)).mono ?_
                      rintro e w2 ⟨hB2, rfl⟩
                      have HB2' := Lib.hid (HBW.out.trans (hB2.mono hszr))
                      have hsz2 := HB2'.out.size
                      have hN3 := nest_below (nest_below hR.out.nest hB2) (w' := w2.alloc (.cells #[.string ⟨p.1.toArray⟩, .string ⟨p.2.toArray⟩] 96)) ((Below.refl _ _).alloc (Nat.le_refl _) _)
                      have HB3 : Hid (Below w1.heap.size w1 (w2.alloc (.cells #[.string ⟨p.1.toArray⟩, .string ⟨p.2.toArray⟩] 96))) := HB2'.out.alloc hsz2 _
                      obtain ⟨vl', w4, hap, hN4, hB4⟩ := nest_app (av p) hN3 hcl HB3.out.size
                      obtain ⟨_, ⟨aoL4, mL4, capL4, rfl, hmL4, hcL4⟩⟩ := nest_letters hN4
                      have hap' : (Builtin.append_ #[92, 92] 92 #[_, .slice (some ⟨(w2.alloc (.cells #[.string ⟨p.1.toArray⟩, .string ⟨p.2.toArray⟩] 96)).heap.size, 0, none⟩) 1 1]).run Tryz.prog ((w2.alloc (.cells #[.string ⟨p.1.toArray⟩, .string ⟨p.2.toArray⟩] 96)).alloc (.cells #[.string ⟨p.1.toArray⟩, .string ⟨p.2.toArray⟩] 96)) = .ok (.slice aoL4 mL4 capL4) w4 := hap
                      have HN4 := Lib.hid hN4
                      have HB4 := Lib.hid (HB3.out.trans hB4)
                      clear hN3 hN4 hB4 hap hB2
                      simp only [World.size_alloc] at hap'
                      have d0 := (HB4.out.cell (World.block_lt_of_cell? w1 _ HCW.out)).trans HCW.out
                      obtain ⟨vn', w5, hap2, hN5, hB5⟩ := nest_push HN4.out (by rw [HN4.out.len]; exact hnl) HB4.out.size
                      obtain ⟨⟨aoN5, mN5, capN5, rfl, hmN5, hcN5⟩, _⟩ := nest_letters hN5
                      have HN6 := Lib.hid (nest_fresh hN5 (HB4.out.trans hB5).size)
                      have HB6 := Lib.hid ((HB4.out.trans hB5).alloc (HB4.out.trans hB5).size (.cells #[] 96))
                      clear hN5 hB5
                      go_wp2_with (first | (at_builtin; refine Lib.wpList_append_run _ rfl _ _ _ _ rfl _ _ rfl rfl _ _ hap2 ?_) | (at_builtin; refine Lib.wpList_append_run _ rfl _ _ _ _ rfl _ _ rfl rfl _ _ hap' ?_))
                      go_roundw
                      case rel => exact ⟨i + 1, i + 1, _, [], _, by omega, by omega, by go_num, by go_num, ⟨HN6.out, HB6.out, by have := HLEN.out; simp; omega, ⟨HSMN.out, fun x hx => by simp at hx⟩, fun _ => ⟨seg_new (by omega), HG.out⟩, fun h => by omega⟩⟩
                      case measure => simp [intOf] <;> omega
                  · have HG := Lib.hid (HNEXT.out p h43 hp)
                    have q43 : ((n0 : Int) == 43) = false := by rw [beq_eq_false_iff_ne]; exact h43
                    have q43b : ((n0 : Int) != 43) = true := by rw [bne_iff_ne]; exact h43
                    clear CP HBADP HPLUS HNEXT hp hps h43
                    go_wp2_with fail
                    all_goals (try (exfalso; omega))
                    all_goals
                      refine (CP2.out _ _ (by have h := hCUT.out; rw [cutA_some, if_neg (by omega)] at h; exact h) (by omega)).mono ?_
                      rintro e w2 ⟨hB2, rfl⟩
                      have HB2' := Lib.hid (HBW.out.trans (hB2.mono hszr))
                      have hsz2 := HB2'.out.size
                      have hN3 := nest_below (nest_below hR.out.nest hB2) (w' := w2.alloc (.cells #[.string ⟨p.1.toArray⟩, .string ⟨p.2.toArray⟩] 96)) ((Below.refl _ _).alloc (Nat.le_refl _) _)
                      have HB3 : Hid (Below w1.heap.size w1 (w2.alloc (.cells #[.string ⟨p.1.toArray⟩, .string ⟨p.2.toArray⟩] 96))) := HB2'.out.alloc hsz2 _
                      obtain ⟨vl', w4, hap, hN4, hB4⟩ := nest_app (av p) hN3 hcl HB3.out.size
                      obtain ⟨_, ⟨aoL4, mL4, capL4, rfl, hmL4, hcL4⟩⟩ := nest_letters hN4
                      have hap' : (Builtin.append_ #[92, 92] 92 #[_, .slice (some ⟨(w2.alloc (.cells #[.string ⟨p.1.toArray⟩, .string ⟨p.2.toArray⟩] 96)).heap.size, 0, none⟩) 1 1]).run Tryz.prog ((w2.alloc (.cells #[.string ⟨p.1.toArray⟩, .string ⟨p.2.toArray⟩] 96)).alloc (.cells #[.string ⟨p.1.toArray⟩, .string ⟨p.2.toArray⟩] 96)) = .ok (.slice aoL4 mL4 capL4) w4 := hap
                      have HN4 := Lib.hid hN4
                      have HB4 := Lib.hid (HB3.out.trans hB4)
                      clear hN3 hN4 hB4 hap hB2
                      simp only [World.size_alloc] at hap'
                      have d0 := (HB4.out.cell (World.block_lt_of_cell? w1 _ HCW.out)).trans HCW.out
                      obtain ⟨vn', w5, hap2, hN5, hB5⟩ := nest_push HN4.out (by rw [HN4.out.len]; exact hnl) HB4.out.size
                      obtain ⟨⟨aoN5, mN5, capN5, rfl, hmN5, hcN5⟩, _⟩ := nest_letters hN5
                      have HN6 := Lib.hid (nest_fresh hN5 (HB4.out.trans hB5).size)
                      have HB6 := Lib.hid ((HB4.out.trans hB5).alloc (HB4.out.trans hB5).size (.cells #[] 96))
                      clear hN5 hB5
                      go_wp2_with (first | (at_builtin; refine Lib.wpList_append_run _ rfl _ _ _ _ rfl _ _ rfl rfl _ _ hap2 ?_) | (at_builtin; refine Lib.wpList_append_run _ rfl _ _ _ _ rfl _ _ rfl rfl _ _ hap' ?_))
                      go_roundw
                      case rel => exact ⟨i + 1, i + 1, _, [], _, by omega, by omega, by go_num, by go_num, ⟨HN6.out, HB6.out, by have := HLEN.out; simp; omega, ⟨HSMN.out, fun x hx => by simp at hx⟩, fun _ => ⟨seg_new (by omega), HG.out⟩, fun h => by omega⟩⟩
                      case measure => simp [intOf] <;> omega
                  · have HG := Lib.hid (HPLUS.out p h43 hp)
                    have q43b : ((n0 : Int) != 43) = false := by rw [bne_eq_false_iff_eq]; exact h43
                    clear CP HBADP HPLUS HNEXT hp hps h43
                    go_wp2_with fail
                    all_goals (try (exfalso; omega))
                    all_goals
                      refine (CP2.out _ _ (by have h := hCUT.out; rw [cutA_some, if_neg (by omega)] at h; exact h) (by omega)).mono ?_
                      rintro e w2 ⟨hB2, rfl⟩
                      have HB2' := Lib.hid (HBW.out.trans (hB2.mono hszr))
                      have hsz2 := HB2'.out.size
                      have hN3 := nest_below (nest_below hR.out.nest hB2) (w' := w2.alloc (.cells #[.string ⟨p.1.toArray⟩, .string ⟨p.2.toArray⟩] 96)) ((Below.refl _ _).alloc (Nat.le_refl _) _)
                      have HB3 : Hid (Below w1.heap.size w1 (w2.alloc (.cells #[.string ⟨p.1.toArray⟩, .string ⟨p.2.toArray⟩] 96))) := HB2'.out.alloc hsz2 _
                      obtain ⟨vl', w4, hap, hN4, hB4⟩ := nest_app (av p) hN3 hcl HB3.out.size
                      obtain ⟨_, ⟨aoL4, mL4, capL4, rfl, hmL4, hcL4⟩⟩ := nest_letters hN4
                      have hap' : (Builtin.append_ #[92, 92] 92 #[_, .slice (some ⟨(w2.alloc (.cells #[.string ⟨p.1.toArray⟩, .string ⟨p.2.toArray⟩] 96)).heap.size, 0, none⟩) 1 1]).run Tryz.prog ((w2.alloc (.cells #[.string ⟨p.1.toArray⟩, .string ⟨p.2.toArray⟩] 96)).alloc (.cells #[.string ⟨p.1.toArray⟩, .string ⟨p.2.toArray⟩] 96)) = .ok (.slice aoL4 mL4 capL4) w4 := hap
                      have HN4 := Lib.hid hN4
                      have HB4 := Lib.hid (HB3.out.trans hB4)
                      clear hN3 hN4 hB4 hap hB2
                      simp only [World.size_alloc] at hap'
                      have d0 := (HB4.out.cell (World.block_lt_of_cell? w1 _ HCW.out)).trans HCW.out
                      go_wp2_with (at_builtin; refine Lib.wpList_append_run _ rfl _ _ _ _ rfl _ _ rfl rfl _ _ hap' ?_)
                      go_roundw
                      case rel => exact ⟨i + 1, i + 1, ns, _, vals, by omega, by omega, by go_num, by go_num, ⟨HN4.out, HB4.out, by have := HLEN.out; simp; omega, ⟨hR.out.small.1, HSMC.out⟩, fun _ => ⟨seg_new (by omega), HG.out⟩, fun h => by omega⟩⟩
                      case measure => simp [intOf] <;> omega

              · have hsep' : sepS L[i] = false := by simpa using hsep
                have HRN : Hid (RRel w1 wr L (i + 1) j0 (.slice aoN mN capN) (.slice aoL mL capL) ns cur vals) := ⟨hR.out.nest, HBW.out, HLEN.out, hR.out.small, fun _ => ⟨seg_next HSEG.out hil hsep', HGAT.out⟩, fun h => by omega⟩
                have hfact : (L[i].2 = false) ∨ (L[i].2 = true ∧ ((L[i].1.toNat : Int) == 44) = false ∧ ((L[i].1.toNat : Int) == 59) = false ∧ ((L[i].1.toNat : Int) == 43) = false) := by
                  cases hb : L[i].2 with
                  | false => exact Or.inl rfl
                  | true =>
                    refine Or.inr ⟨rfl, ?_⟩
                    have hs : isSep L[i].1 = false := by
                      unfold sepS at hsep'
                      rw [hb] at hsep'
                      simpa using hsep'
                    have h3 : ¬ ((L[i].1.toNat : Int) = 44 ∨ (L[i].1.toNat : Int) = 59 ∨ (L[i].1.toNat : Int) = 43) := fun h => by rw [(u8_sep _).2 h] at hs; cases hs
                    rw [beq_eq_false_iff_ne, beq_eq_false_iff_ne, beq_eq_false_iff_ne]
                    exact ⟨fun h => h3 (Or.inl h), fun h => h3 (Or.inr (Or.inl h)), fun h => h3 (Or.inr (Or.inr h))⟩
                generalize L[i] = x at c0 c1 hfact hsep'
                obtain ⟨c, bare⟩ := x
                simp only at c0 c1 hfact
                clear CP hCUT hsep hsep' CW
                rcases hfact with rfl | ⟨rfl, q1, q2, q3⟩
                all_goals
                  go_wp2_with fail
                  go_roundw
                  case rel => exact ⟨i + 1, j0, ns, cur, vals, by omega, by omega, by go_num, rfl, HRN⟩
                  case measure => simp [intOf] <;> omega
            · obtain rfl : i = m := by omega
              have hnlt : ¬ (i : Int) < (i : Int) := by omega
              have HSE : Hid (Seg L j0 L.length) := by
                show Seg _ _ _
                rw [← HM.out]; exact HSEG.out
              have q0 : ((i : Int) == (i : Int)) = true := by rw [beq_iff_eq]
              have HLI : Hid (L.length = i) := HM.out.symm
              cases hp : pairS (segL L j0 i) with
              | none =>
                have HN : Hid (GR [] [] L = none) := gat_none HGAT.out HSEG.out (fun h => absurd h (by rw [HLI.out]; omega)) hp
                have CP2 : Hid (∀ ao' cap', Sgs wr ao' (segL L j0 i) → i - j0 ≤ cap' → Calls Tryz.prog 74 #[.slice ao' (i - j0) cap'] wr fun e w' => Below wr.heap.size wr w' ∧ ∃ t v : ByteArray, e = .returned (.tuple #[.agg #[.string t, .string v], .bool false])) := by
                  intro ao' cap' h1 h2
                  refine (CP.out ao' cap' h1 h2).mono fun e w' h => ?_
                  unfold PairE at h
                  rw [hp] at h
                  exact h
                clear CP hp
                go_wp2_with fail
                all_goals
                  refine (CP2.out _ _ (by have h := hCUT.out; rw [cutA_some] at h; first | (rw [if_pos (by omega)] at h; exact h) | (rw [if_neg (by omega)] at h; exact h)) (by omega)).mono ?_
                  rintro e w2 ⟨hB2, t, v, rfl⟩
                  go_wp2_with fail
                  go_ret2
                  exact HNO.out _ ((HBW.out.trans (hB2.mono hszr)).alloc (Nat.le_trans hszr hB2.size) _) HN.out
              | some p =>
                have CP2 : Hid (∀ ao' cap', Sgs wr ao' (segL L j0 i) → i - j0 ≤ cap' → Calls Tryz.prog 74 #[.slice ao' (i - j0) cap'] wr fun e w' => Below wr.heap.size wr w' ∧ e = .returned (.tuple #[.agg #[.string ⟨p.1.toArray⟩, .string ⟨p.2.toArray⟩], .bool true])) := by
                  intro ao' cap' h1 h2
                  refine (CP.out ao' cap' h1 h2).mono fun e w' h => ?_
                  unfold PairE at h
                  rw [hp] at h
                  exact h
                have hps := pairS_small hp
                rw [segL_len HSEG.out] at hps
                have HSMP : Hid ((av p).t.size ≤ 100000 ∧ (av p).v.size ≤ 1100000) := av_small hps.1 (by omega)
                have h1j : j0 + 1 ≤ i := by omega
                have HSMC : Hid (Smalls (cur ++ [av p])) := by
                  intro x hx
                  rcases List.mem_append.1 hx with hx | hx
                  · exact hR.out.small.2 x hx
                  · simp only [List.mem_singleton] at hx
                    rw [hx]; exact HSMP.out
                have HSMN : Hid (∀ l ∈ ns ++ [cur ++ [av p]], Smalls l) := by
                  intro l hl
                  rcases List.mem_append.1 hl with hl | hl
                  · exact hR.out.small.1 l hl
                  · simp only [List.mem_singleton] at hl
                    rw [hl]; exact HSMC.out
                have HG : Hid (GR [] [] L = some (ns ++ [cur ++ [av p]])) := gat_end HGAT.out HSE.out (by rw [HLI.out]; exact hp)
                clear CP hp hps
                go_wp2_with fail
                all_goals
                  refine (CP2.out _ _ (by have h := hCUT.out; rw [cutA_some] at h; first | (rw [if_pos (by omega)] at h; exact h) | (rw [if_neg (by omega)] at h; exact h)) (by omega)).mono ?_
                  rintro e w2 ⟨hB2, rfl⟩
                  have HB2' := Lib.hid (HBW.out.trans (hB2.mono hszr))
                  have hsz2 := HB2'.out.size
                  have hN3 := nest_below (nest_below hR.out.nest hB2) (w' := w2.alloc (.cells #[.string ⟨p.1.toArray⟩, .string ⟨p.2.toArray⟩] 96)) ((Below.refl _ _).alloc (Nat.le_refl _) _)
                  have HB3 : Hid (Below w1.heap.size w1 (w2.alloc (.cells #[.string ⟨p.1.toArray⟩, .string ⟨p.2.toArray⟩] 96))) := HB2'.out.alloc hsz2 _
                  obtain ⟨vl', w4, hap, hN4, hB4⟩ := nest_app (av p) hN3 hcl HB3.out.size
                  obtain ⟨_, ⟨aoL4, mL4, capL4, rfl, hmL4, hcL4⟩⟩ := nest_letters hN4
                  have hap' : (Builtin.append_ #[92, 92] 92 #[_, .slice (some ⟨(w2.alloc (.cells #[.string ⟨p.1.toArray⟩, .string ⟨p.2.toArray⟩] 96)).heap.size, 0, none⟩) 1 1]).run Tryz.prog ((w2.alloc (.cells #[.string ⟨p.1.toArray⟩, .string ⟨p.2.toArray⟩] 96)).alloc (.cells #[.string ⟨p.1.toArray⟩, .string ⟨p.2.toArray⟩] 96)) = .ok (.slice aoL4 mL4 capL4) w4 := hap
                  have HN4 := Lib.hid hN4
                  have HB4 := Lib.hid (HB3.out.trans hB4)
                  clear hN3 hN4 hB4 hap hB2
                  simp only [World.size_alloc] at hap'
                  obtain ⟨vn', w5, hap2, hN5, hB5⟩ := nest_push HN4.out (by rw [HN4.out.len]; exact hnl) HB4.out.size
                  obtain ⟨⟨aoN5, mN5, capN5, rfl, hmN5, hcN5⟩, _⟩ := nest_letters hN5
                  have HN6 := Lib.hid (nest_fresh hN5 (HB4.out.trans hB5).size)
                  have HB6 := Lib.hid ((HB4.out.trans hB5).alloc (HB4.out.trans hB5).size (.cells #[] 96))
                  clear hN5 hB5
                  go_wp2_with (first | (at_builtin; refine Lib.wpList_append_run _ rfl _ _ _ _ rfl _ _ rfl rfl _ _ hap2 ?_) | (at_builtin; refine Lib.wpList_append_run _ rfl _ _ _ _ rfl _ _ rfl rfl _ _ hap' ?_))
                  go_roundw
                  case rel => exact ⟨i + 1, i + 1, _, [], _, by omega, by omega, by go_num, by go_num, ⟨HN6.out, HB6.out, by have := HLEN.out; simp; omega, ⟨HSMN.out, fun x hx => by simp at hx⟩, fun h => absurd h (by rw [HLI.out]; omega), fun _ => HG.out⟩⟩
                  case measure => simp [intOf] <;> omega
          · have hle' : ¬ (i : Int) ≤ (m : Int) := by omega
            have hG := hR.out.done (by rw [← HM.out]; omega)
            have hn5 := hR.out.nest
            rw [hmN.out] at hn5 hcN
            have HRD := Lib.hid (nest_rdns hn5)
            have hnl : ns.length ≤ 1000 := by have := hR.out.len; omega
            have CR := rright_any aoN capN ns wr HRD hnl (Lib.hid (fun l hl _ => hR.out.small.1 l hl))
            have hy := HYES.out _ hG
            rw [← hmN.out] at CR
            have HCN := Lib.hid hcN
            have HSM := Lib.hid hR.out.small.1
            have HBW := Lib.hid hR.out.below
            clear hG hn5 hcN
            cases hok : nameOK ns with
            | false =>
              rw [hok] at CR hy
              have HCR := Lib.hid CR
              have HY := Lib.hid hy
              clear CR hy hok
              go_wp2_with fail
              refine HCR.out.mono ?_
              rintro e w6 ⟨rfl, hB6⟩
              go_wp2_with fail
              go_ret2
              refine ⟨HB1.out.trans ((HBW.out.trans (hB6.mono HBW.out.size)).mono hsz1), ?_⟩
              rw [if_neg H1.out, HY.out]
              rfl
            | true =>
              rw [hok] at CR hy
              have HCR := Lib.hid CR
              have HY := Lib.hid hy
              clear CR hy hok
              go_wp2_with fail
              refine HCR.out.mono ?_
              rintro e w6 ⟨rfl, hB6⟩
              go_wp2_with fail
              go_ret2
              refine ⟨HB1.out.trans ((HBW.out.trans (hB6.mono HBW.out.size)).mono hsz1), ?_⟩
              rw [if_neg H1.out, HY.out]
              exact ⟨aoN, capN, by rw [← hmN.out]; rfl, HCN.out, rdns_below HRD.out hB6, HSM.out⟩
end dnw
end Go.Proofs.YtckpiaigoeicfaaGreatDoor
/-! RNormW -/
namespace Go.Proofs.YtckpiaigoeicfaaGreatDoor
open Go.RowKit
namespace atw
open atp
set_option linter.unusedVariables false
set_option linter.unusedSimpArgs false
theorem bs_app (a b : List UInt8) : bs a ++ bs b = bs (a ++ b) := by
  apply kt.str_eq
  show (bs a ++ bs b).data.toList = a ++ b
  simp [bs]
theorem joinK_snoc (l : List ByteArray) (i : Nat) (h : i < l.length) : joinK (l.take (i + 1)) = joinK (l.take i) ++ l[i].data.toList := by
  unfold joinK
  rw [List.take_succ_eq_append_getElem h, List.map_append, List.flatten_append]
  simp
theorem joinK_le (l : List ByteArray) (i : Nat) : (joinK (l.take i)).length ≤ (joinK l).length := by
  unfold joinK
  conv => rhs; rw [← List.take_append_drop i l]
  rw [List.map_append, List.flatten_append, List.length_append]
  omega
set_option maxRecDepth 20000 in
set_option maxHeartbeats 16000000 in
theorem rnormal_any (nm : ByteArray) (syn : Int) (sg : Bool) (s : ByteArray) (w : World) (hs : s.size ≤ 140737488351232) :
    Calls Tryz.prog 20 #[.agg #[.string nm, .int .i64 syn, .bool sg], .string s] w fun e w' => e = .returned (normV (normL syn s.data.toList)) ∧ Below w.heap.size w w' := by
  obtain ⟨W0, hW0⟩ : ∃ W, w.alloc (.cells #[.string nm, .int .i64 syn, .bool sg] 23) = W := ⟨_, rfl⟩
  have hB0 : Below w.heap.size w W0 := by rw [← hW0]; exact (Below.refl _ _).alloc (Nat.le_refl _) _
  have HB0 := Lib.hid hB0
  have hw0 : w.heap.size ≤ W0.heap.size := hB0.size
  have k1 : W0.cell? ⟨w.heap.size, 1, none⟩ = some (.int .i64 syn) := by rw [← hW0, World.cell?_alloc_new]; rfl
  clear hB0
  by_cases hsy : 1 ≤ syn ∧ syn ≤ 7
  · by_cases hlong : 1000 < s.size
    · rw [normL_long hsy (by rw [kt.size_len]; exact hlong)]
      have hlI : (1000 : Int) < (s.size : Int) := by omega
      obtain ⟨hs1, hs7⟩ := hsy
      have q1 : decide (syn < 1) = false := by rw [decide_eq_false_iff_not]; omega
      have q2 : decide (7 < syn) = false := by rw [decide_eq_false_iff_not]; omega
      clear hlong
      go_enter Tryz.func20, Tryz.ntmps20
      go_wp2_with fail
      go_ret2
      exact ⟨rfl, HB0.out⟩
    · have hlI : ¬ (1000 : Int) < (s.size : Int) := by omega
      by_cases h0 : s.data.toList = []
      · rw [normL_nil hsy h0]
        have hz : (s.size : Int) = 0 := by rw [← kt.size_len, h0]; rfl
        obtain ⟨hs1, hs7⟩ := hsy
        have q1 : decide (syn < 1) = false := by rw [decide_eq_false_iff_not]; omega
        have q2 : decide (7 < syn) = false := by rw [decide_eq_false_iff_not]; omega
        clear hlong h0
        go_enter Tryz.func20, Tryz.ntmps20
        go_wp2_with fail
        go_ret2
        exact ⟨rfl, HB0.out⟩
      · have HNF := Lib.hid (normL_form hsy (by rw [kt.size_len]; omega) h0)
        have hsp : ((s.size : Int) == 0) = false := by
          rw [beq_eq_false_iff_ne]
          intro h
          exact h0 (by rw [zero_s (s := s) (by omega)]; rfl)
        have hsb : s.size ≤ 1000 := by omega
        have hcs : syn = 1 ∨ syn = 2 ∨ syn = 3 ∨ syn = 4 ∨ syn = 5 ∨ syn = 6 ∨ syn = 7 := by omega
        clear hsy hlong h0
        rcases hcs with rfl | rfl | rfl | rfl | rfl | rfl | rfl
        · have HF : Hid (formO 1 s.data.toList = ne0 (prp.readyO s.data.toList true)) := rfl
          have HC : Hid (Calls Tryz.prog 17 #[.string s, .bool true] W0 fun e w' => e = .returned (prw.pairV (prp.readyO s.data.toList true)) ∧ Below W0.heap.size W0 w') := prw.rready_any s true W0 (by omega)
          cases ho : prp.readyO s.data.toList true with
          | none =>
            rw [ho] at HC HF
            rw [show prw.pairV none = .tuple #[.string ⟨#[]⟩, .int .i64 19] from rfl] at HC
            clear ho
            go_enter Tryz.func20, Tryz.ntmps20
            go_wp2_with fail
            refine HC.out.mono ?_
            rintro e w1 ⟨rfl, hB1⟩
            have HB1 := Lib.hid (HB0.out.trans (hB1.mono hw0))
            clear hB1
            go_wp2_with fail
            go_ret2
            exact ⟨by rw [HNF.out, HF.out]; rfl, HB1.out⟩
          | some u =>
            rw [ho] at HC HF
            have HC2 : Hid (Calls Tryz.prog 17 #[.string s, .bool true] W0 fun e w' => e = .returned (.tuple #[.string (bs u), .int .i64 0]) ∧ Below W0.heap.size W0 w') := HC
            clear HC ho
            by_cases hu : u = []
            · have hue : ((bs u).size : Int) = 0 := by rw [hu]; rfl
              have HX : Hid (formO 1 s.data.toList = none) := by show _ = _; rw [HF.out, hu]; rfl
              clear hu
              go_enter Tryz.func20, Tryz.ntmps20
              go_wp2_with fail
              refine HC2.out.mono ?_
              rintro e w1 ⟨rfl, hB1⟩
              have HB1 := Lib.hid (HB0.out.trans (hB1.mono hw0))
              clear hB1
              go_wp2_with fail
              go_ret2
              exact ⟨by rw [HNF.out, HX.out]; rfl, HB1.out⟩
            · have HX : Hid (formO 1 s.data.toList = some u) := by show _ = _; rw [HF.out, ne0_some hu]
              have hupN : 0 < (bs u).size := by
                rw [bs_size]
                exact List.length_pos_iff.2 hu
              have hup : (0 : Int) < ((bs u).size : Int) := by omega
              clear hu
              go_enter Tryz.func20, Tryz.ntmps20
              go_wp2_with fail
              refine HC2.out.mono ?_
              rintro e w1 ⟨rfl, hB1⟩
              have HB1 := Lib.hid (HB0.out.trans (hB1.mono hw0))
              clear hB1
              go_wp2_with fail
              go_ret2
              exact ⟨by rw [HNF.out, HX.out]; rfl, HB1.out⟩
        · have HF : Hid (formO 2 s.data.toList = ne0 (prp.readyO s.data.toList false)) := rfl
          have HC : Hid (Calls Tryz.prog 17 #[.string s, .bool false] W0 fun e w' => e = .returned (prw.pairV (prp.readyO s.data.toList false)) ∧ Below W0.heap.size W0 w') := prw.rready_any s false W0 (by omega)
          cases ho : prp.readyO s.data.toList false with
          | none =>
            rw [ho] at HC HF
            rw [show prw.pairV none = .tuple #[.string ⟨#[]⟩, .int .i64 19] from rfl] at HC
            clear ho
            go_enter Tryz.func20, Tryz.ntmps20
            go_wp2_with fail
            refine HC.out.mono ?_
            rintro e w1 ⟨rfl, hB1⟩
            have HB1 := Lib.hid (HB0.out.trans (hB1.mono hw0))
            clear hB1
            go_wp2_with fail
            go_ret2
            exact ⟨by rw [HNF.out, HF.out]; rfl, HB1.out⟩
          | some u =>
            rw [ho] at HC HF
            have HC2 : Hid (Calls Tryz.prog 17 #[.string s, .bool false] W0 fun e w' => e = .returned (.tuple #[.string (bs u), .int .i64 0]) ∧ Below W0.heap.size W0 w') := HC
            clear HC ho
            by_cases hu : u = []
            · have hue : ((bs u).size : Int) = 0 := by rw [hu]; rfl
              have HX : Hid (formO 2 s.data.toList = none) := by show _ = _; rw [HF.out, hu]; rfl
              clear hu
              go_enter Tryz.func20, Tryz.ntmps20
              go_wp2_with fail
              refine HC2.out.mono ?_
              rintro e w1 ⟨rfl, hB1⟩
              have HB1 := Lib.hid (HB0.out.trans (hB1.mono hw0))
              clear hB1
              go_wp2_with fail
              go_ret2
              exact ⟨by rw [HNF.out, HX.out]; rfl, HB1.out⟩
            · have HX : Hid (formO 2 s.data.toList = some u) := by show _ = _; rw [HF.out, ne0_some hu]
              have hupN : 0 < (bs u).size := by
                rw [bs_size]
                exact List.length_pos_iff.2 hu
              have hup : (0 : Int) < ((bs u).size : Int) := by omega
              clear hu
              go_enter Tryz.func20, Tryz.ntmps20
              go_wp2_with fail
              refine HC2.out.mono ?_
              rintro e w1 ⟨rfl, hB1⟩
              have HB1 := Lib.hid (HB0.out.trans (hB1.mono hw0))
              clear hB1
              go_wp2_with fail
              go_ret2
              exact ⟨by rw [HNF.out, HX.out]; rfl, HB1.out⟩
        · have HX : Hid (formO 3 s.data.toList = some s.data.toList) := rfl
          go_enter Tryz.func20, Tryz.ntmps20
          go_wp2_with fail
          go_ret2
          exact ⟨by rw [HNF.out, HX.out]; show _ = Ending.returned (.tuple #[.string (bs s.data.toList), .int .i64 0]); rw [bs_of]; rfl, HB0.out⟩
        · have HC : Hid (∀ w, Calls Tryz.prog 44 #[.string s] w fun e w' => e = .returned (.bool (numOK s.data.toList)) ∧ w = w') := fun w => rnumber_any s w (by omega)
          have HF : Hid (formO 4 s.data.toList = if numOK s.data.toList = true then some s.data.toList else none) := rfl
          cases hn : numOK s.data.toList with
          | true =>
            rw [hn] at HC
            have HX : Hid (formO 4 s.data.toList = some s.data.toList) := by show _ = _; rw [HF.out, if_pos hn]
            clear hn
            go_enter Tryz.func20, Tryz.ntmps20
            go_wp2_with fail
            refine (HC.out _).mono ?_
            rintro e w1 ⟨rfl, rfl⟩
            go_wp2_with fail
            go_ret2
            exact ⟨by rw [HNF.out, HX.out]; show _ = Ending.returned (.tuple #[.string (bs s.data.toList), .int .i64 0]); rw [bs_of]; rfl, HB0.out⟩
          | false =>
            rw [hn] at HC
            have HX : Hid (formO 4 s.data.toList = none) := by show _ = _; rw [HF.out, if_neg (by rw [hn]; simp)]
            clear hn
            go_enter Tryz.func20, Tryz.ntmps20
            go_wp2_with fail
            refine (HC.out _).mono ?_
            rintro e w1 ⟨rfl, rfl⟩
            go_wp2_with fail
            go_ret2
            exact ⟨by rw [HNF.out, HX.out]; rfl, HB0.out⟩
        · have HF : Hid (formO 5 s.data.toList = if s.data.toList = tT ∨ s.data.toList = tF then some s.data.toList else none) := rfl
          by_cases e1 : s.data.toList = tT
          · have q1 : (s.toList == [84, 82, 85, 69]) = true := by rw [Lib.toList_data, e1]; rfl
            have HX : Hid (formO 5 s.data.toList = some s.data.toList) := by show _ = _; rw [HF.out, if_pos (Or.inl e1)]
            clear e1
            go_enter Tryz.func20, Tryz.ntmps20
            go_wp2_with fail
            go_ret2
            exact ⟨by rw [HNF.out, HX.out]; show _ = Ending.returned (.tuple #[.string (bs s.data.toList), .int .i64 0]); rw [bs_of]; rfl, HB0.out⟩
          · have q1 : (s.toList == [84, 82, 85, 69]) = false := by rw [Lib.toList_data]; simpa [tT] using e1
            by_cases e2 : s.data.toList = tF
            · have q2 : (s.toList == [70, 65, 76, 83, 69]) = true := by rw [Lib.toList_data, e2]; rfl
              have HX : Hid (formO 5 s.data.toList = some s.data.toList) := by show _ = _; rw [HF.out, if_pos (Or.inr e2)]
              clear e1 e2
              go_enter Tryz.func20, Tryz.ntmps20
              go_wp2_with fail
              go_ret2
              exact ⟨by rw [HNF.out, HX.out]; show _ = Ending.returned (.tuple #[.string (bs s.data.toList), .int .i64 0]); rw [bs_of]; rfl, HB0.out⟩
            · have q2 : (s.toList == [70, 65, 76, 83, 69]) = false := by rw [Lib.toList_data]; simpa [tF] using e2
              have HX : Hid (formO 5 s.data.toList = none) := by
                show _ = _
                rw [HF.out, if_neg]
                rintro (h | h)
                · exact e1 h
                · exact e2 h
              clear e1 e2
              go_enter Tryz.func20, Tryz.ntmps20
              go_wp2_with fail
              go_ret2
              exact ⟨by rw [HNF.out, HX.out]; rfl, HB0.out⟩
        · have HF : Hid (formO 6 s.data.toList = nameK s.data.toList) := rfl
          have HNK : Hid (∃ n er, dnw.parseV s = (n, er) ∧ dnw.nameOK n = true ∧ ((er = 0 ∧ nameK s.data.toList = some (joinK (dnw.keysB n))) ∨ (er = 4 ∧ nameK s.data.toList = none))) := by
            show ∃ n er, _
            unfold dnw.parseV nameK
            rw [if_neg (by omega)]
            cases hp : dnw.parseR s.data.toList with
            | none => exact ⟨[], 4, rfl, by decide, Or.inr ⟨rfl, rfl⟩⟩
            | some n => exact ⟨n, 0, rfl, parseR_ok hp, Or.inl ⟨rfl, rfl⟩⟩
          obtain ⟨n, er, hV, hok, hcase⟩ := HNK.out
          have HP : Hid (Calls Tryz.prog 45 #[.string s] W0 fun e w' => Below W0.heap.size W0 w' ∧ ∃ ao cap, e = .returned (.tuple #[.slice ao n.length cap, .int .i64 er]) ∧ dnw.Rdns w' ao n) := by
            refine (dnw.rparse_any s W0 hs).mono fun e w' h => ?_
            have := dnw.parseE_V h
            rw [hV] at this
            exact this
          have HNL : Hid (n.length ≤ 12) := by
            show _ ≤ _
            have h9 := hok
            unfold dnw.nameOK at h9
            rw [Bool.and_eq_true, decide_eq_true_eq] at h9
            exact h9.1
          have HSM : Hid (∀ l ∈ n, l.length ≤ 4 → dnw.Smalls l) := fun l hl _ => name_smalls hok l hl
          have HJL := Lib.hid (joinK_len n hok)
          have HOKN := Lib.hid hok
          obtain ⟨m, hm⟩ : ∃ m, m = n.length := ⟨_, rfl⟩
          rw [← hm] at HP
          have hmb : m ≤ 12 := by rw [hm]; exact HNL.out
          have HKA : Hid (∀ ao cap w, dnw.Rdns w ao n → Calls Tryz.prog 46 #[.slice ao m cap] w fun e w' => Below w.heap.size w w' ∧ ∃ ao2 cap2, e = .returned (.tuple #[.slice ao2 m cap2, .int .i64 0]) ∧ tupw.Strs w' ao2 (dnw.keysB n)) := by
            intro ao cap w h1
            rw [hm]
            refine (dnw.rkeys_any ao cap n w (Lib.hid h1) (by have := HNL.out; omega) HSM).mono fun e w' h => ?_
            obtain ⟨k1, k2⟩ := h
            rw [if_pos HOKN.out] at k2
            obtain ⟨a, c, e1, _, e2⟩ := k2
            exact ⟨k1, a, c, e1, e2⟩
          have HKL : Hid ((dnw.keysB n).length = m) := by show _ = _; rw [dnw.keysB_len, hm]
          generalize dnw.keysB n = ks at HKA HKL HJL hcase
          have HCS := Lib.hid hcase
          clear HNK hV hok hm hcase HOKN HSM HNL
          go_enter Tryz.func20, Tryz.ntmps20
          go_wp2_with fail
          refine HP.out.mono ?_
          rintro e w1 ⟨hB1, ao, cap, rfl, hR⟩
          have HR := Lib.hid hR
          have HB1 := Lib.hid (HB0.out.trans (hB1.mono hw0))
          clear hR hB1
          go_wp2_with fail
          refine (HKA.out _ _ _ HR.out).mono ?_
          rintro e w2 ⟨hB2, ao2, cap2, rfl, hS⟩
          have HS := Lib.hid hS
          have HB2 := Lib.hid (HB1.out.trans (hB2.mono HB1.out.size))
          clear hB2 hS
          have hq : (er == 0) = true ∧ nameK s.data.toList = some (joinK ks) ∨ (er == 0) = false ∧ nameK s.data.toList = none := by
            rcases HCS.out with ⟨h1, h2⟩ | ⟨h1, h2⟩
            · exact Or.inl ⟨by rw [h1]; rfl, h2⟩
            · exact Or.inr ⟨by rw [h1]; rfl, h2⟩
          rcases hq with ⟨q, hnk⟩ | ⟨q, hnk⟩
          all_goals
            have HNK := Lib.hid hnk
            clear hnk
            go_wp2_with fail
            go_loop [6, 14] (fun ov iv => ∃ i : Nat, i ≤ m ∧ iv = .int .i64 (i : Int) ∧ ov = .string (bs (joinK (ks.take i)))) (fun _ iv => m - (intOf iv).toNat)
            case atStart => exact ⟨0, Nat.zero_le _, rfl, rfl⟩
            case round =>
              obtain ⟨i, hi, rfl, rfl⟩ := hrel
              by_cases hlt : i < m
              · have hltI : (i : Int) < (m : Int) := by omega
                have hik : i < ks.length := by rw [HKL.out]; exact hlt
                obtain ⟨b, o, rfl, hc⟩ := HS.out i hik
                have hsn := joinK_snoc ks i hik
                have hle1 := joinK_le ks (i + 1)
                rw [hsn, List.length_append, kt.size_len] at hle1
                have HSN := Lib.hid hsn
                generalize ks[i] = k at hc HSN hle1
                have hcat : bs (joinK (ks.take i)) ++ k = bs (joinK (ks.take (i + 1))) := by rw [HSN.out, ← bs_app, bs_of]
                have hcb : ¬ 9223372036854775807 < (bs (joinK (ks.take i))).size + k.size := by rw [bs_size]; have := HJL.out; omega
                clear hsn
                go_wp2_with fail
                go_round
                case rel => exact ⟨i + 1, by omega, by go_num, rfl⟩
                case measure => simp [intOf]; omega
              · obtain rfl : i = m := by omega
                have hall : ks.take i = ks := List.take_of_length_le (by rw [HKL.out]; exact Nat.le_refl _)
                rw [hall]
                clear hall
                go_wp2_with fail
                go_ret2
                exact ⟨by rw [HNF.out, HF.out, HNK.out]; rfl, HB2.out⟩
        · have HF : Hid (formO 7 s.data.toList = ne0 (prp.phoneO s.data.toList)) := rfl
          have HC : Hid (Calls Tryz.prog 47 #[.string s] W0 fun e w' => e = .returned (prw.pairV (prp.phoneO s.data.toList)) ∧ Below W0.heap.size W0 w') := prw.rphone_any s W0 (by omega)
          cases ho : prp.phoneO s.data.toList with
          | none =>
            rw [ho] at HC HF
            rw [show prw.pairV none = .tuple #[.string ⟨#[]⟩, .int .i64 19] from rfl] at HC
            clear ho
            go_enter Tryz.func20, Tryz.ntmps20
            go_wp2_with fail
            refine HC.out.mono ?_
            rintro e w1 ⟨rfl, hB1⟩
            have HB1 := Lib.hid (HB0.out.trans (hB1.mono hw0))
            clear hB1
            go_wp2_with fail
            go_ret2
            exact ⟨by rw [HNF.out, HF.out]; rfl, HB1.out⟩
          | some u =>
            rw [ho] at HC HF
            have HC2 : Hid (Calls Tryz.prog 47 #[.string s] W0 fun e w' => e = .returned (.tuple #[.string (bs u), .int .i64 0]) ∧ Below W0.heap.size W0 w') := HC
            clear HC ho
            by_cases hu : u = []
            · have hue : ((bs u).size : Int) = 0 := by rw [hu]; rfl
              have HX : Hid (formO 7 s.data.toList = none) := by show _ = _; rw [HF.out, hu]; rfl
              clear hu
              go_enter Tryz.func20, Tryz.ntmps20
              go_wp2_with fail
              refine HC2.out.mono ?_
              rintro e w1 ⟨rfl, hB1⟩
              have HB1 := Lib.hid (HB0.out.trans (hB1.mono hw0))
              clear hB1
              go_wp2_with fail
              go_ret2
              exact ⟨by rw [HNF.out, HX.out]; rfl, HB1.out⟩
            · have HX : Hid (formO 7 s.data.toList = some u) := by show _ = _; rw [HF.out, ne0_some hu]
              have hupN : 0 < (bs u).size := by
                rw [bs_size]
                exact List.length_pos_iff.2 hu
              have hup : (0 : Int) < ((bs u).size : Int) := by omega
              clear hu
              go_enter Tryz.func20, Tryz.ntmps20
              go_wp2_with fail
              refine HC2.out.mono ?_
              rintro e w1 ⟨rfl, hB1⟩
              have HB1 := Lib.hid (HB0.out.trans (hB1.mono hw0))
              clear hB1
              go_wp2_with fail
              go_ret2
              exact ⟨by rw [HNF.out, HX.out]; rfl, HB1.out⟩
  · rw [normL_bad hsy]
    by_cases hs1 : syn < 1
    · clear hsy
      go_enter Tryz.func20, Tryz.ntmps20
      go_wp2_with fail
      go_ret2
      exact ⟨rfl, HB0.out⟩
    · have hs7 : 7 < syn := by omega
      have q1 : decide (syn < 1) = false := by rw [decide_eq_false_iff_not]; omega
      clear hsy hs1
      go_enter Tryz.func20, Tryz.ntmps20
      go_wp2_with fail
      go_ret2
      exact ⟨rfl, HB0.out⟩
end atw
end Go.Proofs.YtckpiaigoeicfaaGreatDoor
/-! HoldW -/
namespace Go.Proofs.YtckpiaigoeicfaaGreatDoor
open Go.RowKit
namespace atw
open atp
set_option linter.unusedVariables false
set_option linter.unusedSimpArgs false
/-- a type lies in block p -/
def TB (w : World) (p : Nat) (nm : ByteArray) (syn : Int) (sg : Bool) : Prop := w.heap[p]? = some (.cells #[.string nm, .int .i64 syn, .bool sg] 23 (0, 0))
theorem tb_new (w : World) (nm : ByteArray) (syn : Int) (sg : Bool) : TB (w.alloc (.cells #[.string nm, .int .i64 syn, .bool sg] 23)) w.heap.size nm syn sg := heap_alloc_new w _
theorem tb_cells {w : World} {p : Nat} {nm : ByteArray} {syn : Int} {sg : Bool} (h : TB w p nm syn sg) : w.cell? ⟨p, 0, none⟩ = some (.string nm) ∧ w.cell? ⟨p, 1, none⟩ = some (.int .i64 syn) ∧ w.cell? ⟨p, 2, none⟩ = some (.bool sg) :=
  ⟨by rw [Lib.cell_of_heap h]; rfl, by rw [Lib.cell_of_heap h]; rfl, by rw [Lib.cell_of_heap h]; rfl⟩
theorem tb_below {w w' : World} {p : Nat} {nm : ByteArray} {syn : Int} {sg : Bool} (h : TB w p nm syn sg) (hb : Below w.heap.size w w') : TB w' p nm syn sg := (hb.block p (kt.bld_lt h)).trans h
/-- how two values compare -/
def bothL (syn : Int) (a b : List UInt8) : List UInt8 × List UInt8 × Int :=
  if (normL syn a).2 ≠ 0 then ([], [], (normL syn a).2) else if (normL syn b).2 ≠ 0 then ([], [], (normL syn b).2) else ((normL syn a).1, (normL syn b).1, 0)
def eqL (syn : Int) (a b : List UInt8) : Bool × Int := (decide ((bothL syn a b).2.2 = 0) && decide ((bothL syn a b).1 = (bothL syn a b).2.1), (bothL syn a b).2.2)
def ordS (syn : Int) : Bool := decide (syn = 1) || decide (syn = 2) || decide (syn = 4)
def ordL (syn : Int) (a b : List UInt8) : Int × Int :=
  if ordS syn = false then (0, 20) else if (bothL syn a b).2.2 ≠ 0 then (0, (bothL syn a b).2.2) else
    if syn = 4 then (Lib.compareInt (worth (bothL syn a b).1) (worth (bothL syn a b).2.1), 0) else (Lib.compareBytes (bothL syn a b).1 (bothL syn a b).2.1, 0)
theorem norm_num {a : List UInt8} (h : (normL 4 a).2 = 0) : numOK (normL 4 a).1 = true ∧ (normL 4 a).1.length ≤ 19 := by
  have hle : ∀ l, numOK l = true → l.length ≤ 19 := by
    intro l hl
    unfold numOK at hl
    rw [Bool.or_eq_true] at hl
    rcases hl with hl | hl
    · rw [decide_eq_true_iff] at hl; subst hl; decide
    · simp only [Bool.and_eq_true, decide_eq_true_eq] at hl
      have h2 := hl.1.1.2
      unfold bare at h2
      split at h2
      · rw [List.length_tail] at h2; omega
      · omega
  unfold normL at h ⊢
  rw [if_neg (by decide)] at h ⊢
  split at h
  · cases h
  · split at h
    · cases h
    · rename_i h1 h2
      rw [if_neg h1, if_neg h2]
      have hf : formO 4 a = if numOK a = true then some a else none := rfl
      rw [hf] at h ⊢
      by_cases hn : numOK a = true
      · rw [if_pos hn]
        exact ⟨hn, hle a hn⟩
      · rw [if_neg hn] at h
        cases h
set_option maxRecDepth 20000 in
set_option maxHeartbeats 4000000 in
theorem both_any (nm : ByteArray) (syn : Int) (sg : Bool) (a b : ByteArray) (w : World) (ha : a.size ≤ 140737488351232) (hb : b.size ≤ 140737488351232) (hE : Hid (prw.Env w)) (hT : Hid (dnw.Tabs w)) :
    Calls Tryz.prog 25 #[.agg #[.string nm, .int .i64 syn, .bool sg], .string a, .string b] w fun e w' => e = .returned (.tuple #[.string (bs (bothL syn a.data.toList b.data.toList).1), .string (bs (bothL syn a.data.toList b.data.toList).2.1), .int .i64 (bothL syn a.data.toList b.data.toList).2.2]) ∧ Below w.heap.size w w' := by
  obtain ⟨W0, hW0⟩ : ∃ W, w.alloc (.cells #[.string nm, .int .i64 syn, .bool sg] 23) = W := ⟨_, rfl⟩
  have hB0 : Below w.heap.size w W0 := by rw [← hW0]; exact (Below.refl _ _).alloc (Nat.le_refl _) _
  have HB0 := Lib.hid hB0
  have hw0 : w.heap.size ≤ W0.heap.size := hB0.size
  have HTB0 : Hid (TB W0 w.heap.size nm syn sg) := by rw [← hW0]; exact tb_new w nm syn sg
  obtain ⟨k0, k1, k2⟩ := tb_cells HTB0.out
  have HE0 := Lib.hid (prw.env_below hE.out hB0)
  have HT0 := Lib.hid (dnw.tabs_below hT.out hB0)
  have HNA : Hid (∀ w, prw.Env w → dnw.Tabs w → Calls Tryz.prog 19 #[.agg #[.string nm, .int .i64 syn, .bool sg], .string a] w fun e w' => e = .returned (normV (normL syn a.data.toList)) ∧ Below w.heap.size w w') := fun w h1 h2 => normal_any nm syn sg a w ha (Lib.hid h1) (Lib.hid h2)
  have HNB : Hid (∀ w, prw.Env w → dnw.Tabs w → Calls Tryz.prog 19 #[.agg #[.string nm, .int .i64 syn, .bool sg], .string b] w fun e w' => e = .returned (normV (normL syn b.data.toList)) ∧ Below w.heap.size w w') := fun w h1 h2 => normal_any nm syn sg b w hb (Lib.hid h1) (Lib.hid h2)
  unfold bothL
  obtain ⟨na, hna⟩ : ∃ u, normL syn a.data.toList = u := ⟨_, rfl⟩
  obtain ⟨nb, hnb⟩ : ∃ u, normL syn b.data.toList = u := ⟨_, rfl⟩
  rw [hna] at HNA ⊢
  rw [hnb] at HNB ⊢
  clear hna hnb hB0
  obtain ⟨u, ea⟩ := na
  obtain ⟨v, eb⟩ := nb
  have HNA2 : Hid (∀ w, prw.Env w → dnw.Tabs w → Calls Tryz.prog 19 #[.agg #[.string nm, .int .i64 syn, .bool sg], .string a] w fun e w' => e = .returned (.tuple #[.string (bs u), .int .i64 ea]) ∧ Below w.heap.size w w') := HNA
  have HNB2 : Hid (∀ w, prw.Env w → dnw.Tabs w → Calls Tryz.prog 19 #[.agg #[.string nm, .int .i64 syn, .bool sg], .string b] w fun e w' => e = .returned (.tuple #[.string (bs v), .int .i64 eb]) ∧ Below w.heap.size w w') := HNB
  clear HNA HNB
  by_cases hea : ea = 0
  · have q : (ea != 0) = false := by rw [bne_eq_false_iff_eq]; exact hea
    rw [if_neg (not_not_intro hea)]
    clear hea
    by_cases heb : eb = 0
    · have q2 : (eb != 0) = false := by rw [bne_eq_false_iff_eq]; exact heb
      rw [if_neg (not_not_intro heb)]
      clear heb
      go_enter Tryz.func25, Tryz.ntmps25
      go_wp2_with fail
      refine (HNA2.out _ HE0.out HT0.out).mono ?_
      rintro e w1 ⟨rfl, hB1⟩
      have HB1 := Lib.hid (HB0.out.trans (hB1.mono hw0))
      have HE1 := Lib.hid (prw.env_below HE0.out hB1)
      have HT1 := Lib.hid (dnw.tabs_below HT0.out hB1)
      obtain ⟨m0, m1, m2⟩ := tb_cells (tb_below HTB0.out hB1)
      clear hB1 hW0 k0 k1 k2
      go_wp2_with fail
      refine (HNB2.out _ HE1.out HT1.out).mono ?_
      rintro e w2 ⟨rfl, hB2⟩
      have HB2 := Lib.hid (HB1.out.trans (hB2.mono HB1.out.size))
      clear hB2
      go_wp2_with fail
      go_ret3
      exact ⟨rfl, HB2.out⟩
    · have q2 : (eb != 0) = true := by rw [bne_iff_ne]; exact heb
      rw [if_pos heb]
      clear heb
      go_enter Tryz.func25, Tryz.ntmps25
      go_wp2_with fail
      refine (HNA2.out _ HE0.out HT0.out).mono ?_
      rintro e w1 ⟨rfl, hB1⟩
      have HB1 := Lib.hid (HB0.out.trans (hB1.mono hw0))
      have HE1 := Lib.hid (prw.env_below HE0.out hB1)
      have HT1 := Lib.hid (dnw.tabs_below HT0.out hB1)
      obtain ⟨m0, m1, m2⟩ := tb_cells (tb_below HTB0.out hB1)
      clear hB1 hW0 k0 k1 k2
      go_wp2_with fail
      refine (HNB2.out _ HE1.out HT1.out).mono ?_
      rintro e w2 ⟨rfl, hB2⟩
      have HB2 := Lib.hid (HB1.out.trans (hB2.mono HB1.out.size))
      clear hB2
      go_wp2_with fail
      go_ret3
      exact ⟨rfl, HB2.out⟩
  · have q : (ea != 0) = true := by rw [bne_iff_ne]; exact hea
    rw [if_pos hea]
    clear hea
    go_enter Tryz.func25, Tryz.ntmps25
    go_wp2_with fail
    refine (HNA2.out _ HE0.out HT0.out).mono ?_
    rintro e w1 ⟨rfl, hB1⟩
    have HB1 := Lib.hid (HB0.out.trans (hB1.mono hw0))
    clear hB1 hW0
    go_wp2_with fail
    go_ret3
    exact ⟨rfl, HB1.out⟩
theorem ite3 {α β γ : Type} {c : Prop} [Decidable c] (x y : α × β × γ) : (if c then x else y).1 = if c then x.1 else y.1 := by split <;> rfl
set_option maxRecDepth 20000 in
set_option maxHeartbeats 4000000 in
theorem equal_any (nm : ByteArray) (syn : Int) (sg : Bool) (a b : ByteArray) (w : World) (ha : a.size ≤ 140737488351232) (hb : b.size ≤ 140737488351232) (hE : Hid (prw.Env w)) (hT : Hid (dnw.Tabs w)) :
    Calls Tryz.prog 10 #[.agg #[.string nm, .int .i64 syn, .bool sg], .string a, .string b] w fun e w' => e = .returned (.tuple #[.bool (eqL syn a.data.toList b.data.toList).1, .int .i64 (eqL syn a.data.toList b.data.toList).2]) ∧ Below w.heap.size w w' := by
  obtain ⟨W0, hW0⟩ : ∃ W, w.alloc (.cells #[.string nm, .int .i64 syn, .bool sg] 23) = W := ⟨_, rfl⟩
  have hB0 : Below w.heap.size w W0 := by rw [← hW0]; exact (Below.refl _ _).alloc (Nat.le_refl _) _
  have HB0 := Lib.hid hB0
  have hw0 : w.heap.size ≤ W0.heap.size := hB0.size
  have HTB0 : Hid (TB W0 w.heap.size nm syn sg) := by rw [← hW0]; exact tb_new w nm syn sg
  obtain ⟨k0, k1, k2⟩ := tb_cells HTB0.out
  have HE0 := Lib.hid (prw.env_below hE.out hB0)
  have HT0 := Lib.hid (dnw.tabs_below hT.out hB0)
  have HBO : Hid (∀ w, prw.Env w → dnw.Tabs w → Calls Tryz.prog 25 #[.agg #[.string nm, .int .i64 syn, .bool sg], .string a, .string b] w fun e w' => e = .returned (.tuple #[.string (bs (bothL syn a.data.toList b.data.toList).1), .string (bs (bothL syn a.data.toList b.data.toList).2.1), .int .i64 (bothL syn a.data.toList b.data.toList).2.2]) ∧ Below w.heap.size w w') := fun w h1 h2 => both_any nm syn sg a b w ha hb (Lib.hid h1) (Lib.hid h2)
  unfold eqL
  generalize bothL syn a.data.toList b.data.toList = bo at HBO ⊢
  obtain ⟨u, v, er⟩ := bo
  simp only at HBO ⊢
  have heq := bs_beq u v
  clear hB0
  obtain ⟨c, hc⟩ : ∃ c, decide (u = v) = c := ⟨_, rfl⟩
  rw [hc] at heq ⊢
  clear hc
  by_cases her : er = 0
  · have q : (er == 0) = true := by rw [beq_iff_eq]; exact her
    rw [decide_eq_true her]
    clear her
    go_enter Tryz.func10, Tryz.ntmps10
    go_wp2_with fail
    refine (HBO.out _ HE0.out HT0.out).mono ?_
    rintro e w1 ⟨rfl, hB1⟩
    have HB1 := Lib.hid (HB0.out.trans (hB1.mono hw0))
    clear hB1 hW0
    go_wp2_with fail
    go_ret2
    exact ⟨rfl, HB1.out⟩
  · have q : (er == 0) = false := by rw [beq_eq_false_iff_ne]; exact her
    rw [decide_eq_false her]
    clear her
    go_enter Tryz.func10, Tryz.ntmps10
    go_wp2_with fail
    refine (HBO.out _ HE0.out HT0.out).mono ?_
    rintro e w1 ⟨rfl, hB1⟩
    have HB1 := Lib.hid (HB0.out.trans (hB1.mono hw0))
    clear hB1 hW0
    go_wp2_with fail
    go_ret2
    exact ⟨rfl, HB1.out⟩
set_option maxRecDepth 20000 in
set_option maxHeartbeats 4000000 in
theorem requal_any (nm : ByteArray) (syn : Int) (sg : Bool) (a b : ByteArray) (w : World) (ha : a.size ≤ 140737488351232) (hb : b.size ≤ 140737488351232) :
    Calls Tryz.prog 11 #[.agg #[.string nm, .int .i64 syn, .bool sg], .string a, .string b] w fun e w' => e = .returned (.tuple #[.bool (eqL syn a.data.toList b.data.toList).1, .int .i64 (eqL syn a.data.toList b.data.toList).2]) ∧ Below w.heap.size w w' := by
  obtain ⟨W0, hW0⟩ : ∃ W, w.alloc (.cells #[.string nm, .int .i64 syn, .bool sg] 23) = W := ⟨_, rfl⟩
  have hB0 : Below w.heap.size w W0 := by rw [← hW0]; exact (Below.refl _ _).alloc (Nat.le_refl _) _
  have HB0 := Lib.hid hB0
  have hw0 : w.heap.size ≤ W0.heap.size := hB0.size
  have HTB0 : Hid (TB W0 w.heap.size nm syn sg) := by rw [← hW0]; exact tb_new w nm syn sg
  obtain ⟨k0, k1, k2⟩ := tb_cells HTB0.out
  have HNA : Hid (∀ w, Calls Tryz.prog 20 #[.agg #[.string nm, .int .i64 syn, .bool sg], .string a] w fun e w' => e = .returned (normV (normL syn a.data.toList)) ∧ Below w.heap.size w w') := fun w => rnormal_any nm syn sg a w ha
  have HNB : Hid (∀ w, Calls Tryz.prog 20 #[.agg #[.string nm, .int .i64 syn, .bool sg], .string b] w fun e w' => e = .returned (normV (normL syn b.data.toList)) ∧ Below w.heap.size w w') := fun w => rnormal_any nm syn sg b w hb
  unfold eqL bothL
  obtain ⟨na, hna⟩ : ∃ u, normL syn a.data.toList = u := ⟨_, rfl⟩
  obtain ⟨nb, hnb⟩ : ∃ u, normL syn b.data.toList = u := ⟨_, rfl⟩
  rw [hna] at HNA ⊢
  rw [hnb] at HNB ⊢
  clear hna hnb hB0
  obtain ⟨u, ea⟩ := na
  obtain ⟨v, eb⟩ := nb
  have HNA2 : Hid (∀ w, Calls Tryz.prog 20 #[.agg #[.string nm, .int .i64 syn, .bool sg], .string a] w fun e w' => e = .returned (.tuple #[.string (bs u), .int .i64 ea]) ∧ Below w.heap.size w w') := HNA
  have HNB2 : Hid (∀ w, Calls Tryz.prog 20 #[.agg #[.string nm, .int .i64 syn, .bool sg], .string b] w fun e w' => e = .returned (.tuple #[.string (bs v), .int .i64 eb]) ∧ Below w.heap.size w w') := HNB
  have heq := bs_beq u v
  obtain ⟨c, hc⟩ : ∃ c, decide (u = v) = c := ⟨_, rfl⟩
  rw [hc] at heq
  have HC := Lib.hid hc
  clear HNA HNB hc
  by_cases hea : ea = 0
  · have q : (ea != 0) = false := by rw [bne_eq_false_iff_eq]; exact hea
    rw [if_neg (not_not_intro hea)]
    clear hea
    by_cases heb : eb = 0
    · have q2 : (eb != 0) = false := by rw [bne_eq_false_iff_eq]; exact heb
      rw [if_neg (not_not_intro heb)]
      clear heb
      simp only [HC.out, decide_true, Bool.true_and]
      go_enter Tryz.func11, Tryz.ntmps11
      go_wp2_with fail
      refine (HNA2.out _).mono ?_
      rintro e w1 ⟨rfl, hB1⟩
      have HB1 := Lib.hid (HB0.out.trans (hB1.mono hw0))
      obtain ⟨m0, m1, m2⟩ := tb_cells (tb_below HTB0.out hB1)
      have HTB1 := Lib.hid (tb_below HTB0.out hB1)
      clear hB1 hW0 k0 k1 k2
      go_wp2_with fail
      refine (HNB2.out _).mono ?_
      rintro e w2 ⟨rfl, hB2⟩
      have HB2 := Lib.hid (HB1.out.trans (hB2.mono HB1.out.size))
      obtain ⟨n0, n1, n2⟩ := tb_cells (tb_below HTB1.out hB2)
      clear hB2 m0 m1 m2
      go_wp2_with fail
      go_ret2
      exact ⟨rfl, HB2.out⟩
    · have q2 : (eb != 0) = true := by rw [bne_iff_ne]; exact heb
      rw [if_pos heb]
      simp only [decide_eq_false heb, Bool.false_and]
      clear heb
      go_enter Tryz.func11, Tryz.ntmps11
      go_wp2_with fail
      refine (HNA2.out _).mono ?_
      rintro e w1 ⟨rfl, hB1⟩
      have HB1 := Lib.hid (HB0.out.trans (hB1.mono hw0))
      obtain ⟨m0, m1, m2⟩ := tb_cells (tb_below HTB0.out hB1)
      have HTB1 := Lib.hid (tb_below HTB0.out hB1)
      clear hB1 hW0 k0 k1 k2
      go_wp2_with fail
      refine (HNB2.out _).mono ?_
      rintro e w2 ⟨rfl, hB2⟩
      have HB2 := Lib.hid (HB1.out.trans (hB2.mono HB1.out.size))
      obtain ⟨n0, n1, n2⟩ := tb_cells (tb_below HTB1.out hB2)
      clear hB2 m0 m1 m2
      go_wp2_with fail
      go_ret2
      exact ⟨rfl, HB2.out⟩
  · have q : (ea != 0) = true := by rw [bne_iff_ne]; exact hea
    rw [if_pos hea]
    simp only [decide_eq_false hea, Bool.false_and]
    clear hea
    go_enter Tryz.func11, Tryz.ntmps11
    go_wp2_with fail
    refine (HNA2.out _).mono ?_
    rintro e w1 ⟨rfl, hB1⟩
    have HB1 := Lib.hid (HB0.out.trans (hB1.mono hw0))
    clear hB1 hW0
    go_wp2_with fail
    go_ret2
    exact ⟨rfl, HB1.out⟩
end atw
end Go.Proofs.YtckpiaigoeicfaaGreatDoor
/-! OrdW -/
namespace Go.Proofs.YtckpiaigoeicfaaGreatDoor
open Go.RowKit
namespace atw
open atp
set_option linter.unusedVariables false
set_option linter.unusedSimpArgs false
theorem ordS_cases (syn : Int) : (syn = 1 ∨ syn = 2 ∨ syn = 4) ∨ (ordS syn = false ∧ (syn == 1) = false ∧ (syn == 2) = false ∧ (syn == 4) = false ∧ (syn != 1) = true ∧ (syn != 2) = true ∧ (syn != 4) = true) := by
  by_cases h : syn = 1 ∨ syn = 2 ∨ syn = 4
  · exact Or.inl h
  · refine Or.inr ⟨?_, ?_, ?_, ?_, ?_, ?_, ?_⟩
    · unfold ordS
      rw [decide_eq_false (by omega), decide_eq_false (by omega), decide_eq_false (by omega)]; rfl
    · rw [beq_eq_false_iff_ne]; omega
    · rw [beq_eq_false_iff_ne]; omega
    · rw [beq_eq_false_iff_ne]; omega
    · rw [bne_iff_ne]; omega
    · rw [bne_iff_ne]; omega
    · rw [bne_iff_ne]; omega
theorem ordL_no {syn : Int} {a b : List UInt8} (h : ordS syn = false) : ordL syn a b = (0, 20) := by unfold ordL; rw [if_pos h]
theorem ordL_err {syn : Int} {a b : List UInt8} (h : ordS syn = true) (h2 : (bothL syn a b).2.2 ≠ 0) : ordL syn a b = (0, (bothL syn a b).2.2) := by unfold ordL; rw [if_neg (by rw [h]; simp), if_pos h2]
theorem ordL_num {a b : List UInt8} (h2 : (bothL 4 a b).2.2 = 0) : ordL 4 a b = (Lib.compareInt (worth (bothL 4 a b).1) (worth (bothL 4 a b).2.1), 0) := by
  unfold ordL; rw [if_neg (by decide), if_neg (not_not_intro h2), if_pos rfl]
theorem ordL_txt {syn : Int} {a b : List UInt8} (h : ordS syn = true) (h4 : syn ≠ 4) (h2 : (bothL syn a b).2.2 = 0) : ordL syn a b = (Lib.compareBytes (bothL syn a b).1 (bothL syn a b).2.1, 0) := by
  unfold ordL; rw [if_neg (by rw [h]; simp), if_neg (not_not_intro h2), if_neg h4]
theorem both_num {a b : List UInt8} (h : (bothL 4 a b).2.2 = 0) : numOK (bothL 4 a b).1 = true ∧ (bothL 4 a b).1.length ≤ 19 ∧ numOK (bothL 4 a b).2.1 = true ∧ (bothL 4 a b).2.1.length ≤ 19 := by
  unfold bothL at h ⊢
  by_cases h1 : (normL 4 a).2 ≠ 0
  · rw [if_pos h1] at h; exact absurd h h1
  · by_cases h2 : (normL 4 b).2 ≠ 0
    · rw [if_neg h1, if_pos h2] at h; exact absurd h h2
    · rw [if_neg h1, if_neg h2]
      obtain ⟨i1, i2⟩ := norm_num (a := a) (Classical.not_not.1 h1)
      obtain ⟨j1, j2⟩ := norm_num (a := b) (Classical.not_not.1 h2)
      exact ⟨i1, i2, j1, j2⟩
/-- strconv.Atoi at a number -/
theorem atoi_any (l : List UInt8) (h : numOK l = true) (hl : l.length ≤ 19) (w : World) : Calls Tryz.prog 26 #[.string (bs l)] w fun e w' => e = .returned (.tuple #[.int .i64 (worth l), .nilIface]) ∧ Below w.heap.size w w' := by
  refine (Tryz.strconv_Atoi_ok (bs l) (by rw [bs_size]; omega) (worth l) (atoi_num h).1 w).mono ?_
  rintro e w' ⟨rfl, hw⟩
  refine ⟨rfl, ?_⟩
  rcases hw with rfl | ⟨t, rfl⟩
  · exact Below.refl _ _
  · exact Lib.bytesWorld_below _ _ _
set_option maxRecDepth 20000 in
set_option maxHeartbeats 8000000 in
theorem order_any (nm : ByteArray) (syn : Int) (sg : Bool) (a b : ByteArray) (w : World) (ha : a.size ≤ 140737488351232) (hb : b.size ≤ 140737488351232) (hE : Hid (prw.Env w)) (hT : Hid (dnw.Tabs w)) :
    Calls Tryz.prog 12 #[.agg #[.string nm, .int .i64 syn, .bool sg], .string a, .string b] w fun e w' => e = .returned (.tuple #[.int .i64 (ordL syn a.data.toList b.data.toList).1, .int .i64 (ordL syn a.data.toList b.data.toList).2]) ∧ Below w.heap.size w w' := by
  obtain ⟨W0, hW0⟩ : ∃ W, w.alloc (.cells #[.string nm, .int .i64 syn, .bool sg] 23) = W := ⟨_, rfl⟩
  have hB0 : Below w.heap.size w W0 := by rw [← hW0]; exact (Below.refl _ _).alloc (Nat.le_refl _) _
  have HB0 := Lib.hid hB0
  have hw0 : w.heap.size ≤ W0.heap.size := hB0.size
  have HTB0 : Hid (TB W0 w.heap.size nm syn sg) := by rw [← hW0]; exact tb_new w nm syn sg
  obtain ⟨k0, k1, k2⟩ := tb_cells HTB0.out
  have HE0 := Lib.hid (prw.env_below hE.out hB0)
  have HT0 := Lib.hid (dnw.tabs_below hT.out hB0)
  have HBO : Hid (∀ w, prw.Env w → dnw.Tabs w → Calls Tryz.prog 25 #[.agg #[.string nm, .int .i64 syn, .bool sg], .string a, .string b] w fun e w' => e = .returned (.tuple #[.string (bs (bothL syn a.data.toList b.data.toList).1), .string (bs (bothL syn a.data.toList b.data.toList).2.1), .int .i64 (bothL syn a.data.toList b.data.toList).2.2]) ∧ Below w.heap.size w w') := fun w h1 h2 => both_any nm syn sg a b w ha hb (Lib.hid h1) (Lib.hid h2)
  clear hB0
  rcases ordS_cases syn with hsy | ⟨hno, q1, q2, q4, _, _, _⟩
  · have hos : ordS syn = true := by rcases hsy with rfl | rfl | rfl <;> rfl
    by_cases her : (bothL syn a.data.toList b.data.toList).2.2 = 0
    · by_cases h4 : syn = 4
      · subst h4
        rw [ordL_num her]
        obtain ⟨n1, l1, n2, l2⟩ := both_num her
        generalize bothL 4 a.data.toList b.data.toList = bo at HBO her n1 l1 n2 l2 ⊢
        obtain ⟨u, v, er⟩ := bo
        simp only at HBO her n1 l1 n2 l2 ⊢
        subst her
        have HA1 : Hid (∀ w, Calls Tryz.prog 26 #[.string (bs u)] w fun e w' => e = .returned (.tuple #[.int .i64 (worth u), .nilIface]) ∧ Below w.heap.size w w') := fun w => atoi_any u n1 l1 w
        have HA2 : Hid (∀ w, Calls Tryz.prog 26 #[.string (bs v)] w fun e w' => e = .returned (.tuple #[.int .i64 (worth v), .nilIface]) ∧ Below w.heap.size w w') := fun w => atoi_any v n2 l2 w
        have HCM : Hid (∀ w, Calls Tryz.prog 27 #[.int .i64 (worth u), .int .i64 (worth v)] w fun e w' => e = .returned (.int .i64 (Lib.compareInt (worth u) (worth v))) ∧ w = w') := by
          intro w
          refine (Tryz.cmp_Compare_int (worth u) (worth v) w).mono ?_
          rintro e w' ⟨rfl, rfl⟩
          exact ⟨rfl, rfl⟩
        generalize Lib.compareInt (worth u) (worth v) = cv at HCM ⊢
        generalize worth u = x at HA1 HCM
        generalize worth v = y at HA2 HCM
        clear n1 n2 l1 l2 hos
        go_enter Tryz.func12, Tryz.ntmps12
        go_wp2_with fail
        refine (HBO.out _ HE0.out HT0.out).mono ?_
        rintro e w1 ⟨rfl, hB1⟩
        have HB1 := Lib.hid (HB0.out.trans (hB1.mono hw0))
        obtain ⟨m0, m1, m2⟩ := tb_cells (tb_below HTB0.out hB1)
        clear hB1 hW0 k0 k1 k2
        go_wp2_with fail
        refine (HA1.out _).mono ?_
        rintro e w2 ⟨rfl, hB2⟩
        have HB2 := Lib.hid (HB1.out.trans (hB2.mono HB1.out.size))
        clear hB2 m0 m1 m2
        go_wp2_with fail
        refine (HA2.out _).mono ?_
        rintro e w3 ⟨rfl, hB3⟩
        have HB3 := Lib.hid (HB2.out.trans (hB3.mono HB2.out.size))
        clear hB3
        go_wp2_with fail
        refine (HCM.out _).mono ?_
        rintro e w4 ⟨rfl, rfl⟩
        go_wp2_with fail
        go_ret2
        exact ⟨rfl, HB3.out⟩
      · rw [ordL_txt hos h4 her]
        have q4 : (syn == 4) = false := by rw [beq_eq_false_iff_ne]; exact h4
        have hsy2 : syn = 1 ∨ syn = 2 := by omega
        generalize bothL syn a.data.toList b.data.toList = bo at HBO her ⊢
        obtain ⟨u, v, er⟩ := bo
        simp only at HBO her ⊢
        subst her
        have HCM : Hid (∀ w, Calls Tryz.prog 28 #[.string (bs u), .string (bs v)] w fun e w' => e = .returned (.int .i64 (Lib.compareBytes u v)) ∧ w = w') := by
          intro w
          refine (Tryz.strings_Compare (bs u) (bs v) w).mono ?_
          rintro e w' ⟨rfl, rfl⟩
          exact ⟨rfl, rfl⟩
        generalize Lib.compareBytes u v = cv at HCM ⊢
        clear hos h4 hsy
        rcases hsy2 with rfl | rfl
        all_goals
          go_enter Tryz.func12, Tryz.ntmps12
          go_wp2_with fail
          refine (HBO.out _ HE0.out HT0.out).mono ?_
          rintro e w1 ⟨rfl, hB1⟩
          have HB1 := Lib.hid (HB0.out.trans (hB1.mono hw0))
          obtain ⟨m0, m1, m2⟩ := tb_cells (tb_below HTB0.out hB1)
          clear hB1 hW0 k0 k1 k2
          go_wp2_with fail
          refine (HCM.out _).mono ?_
          rintro e w4 ⟨rfl, rfl⟩
          go_wp2_with fail
          go_ret2
          exact ⟨rfl, HB1.out⟩
    · rw [ordL_err hos her]
      generalize bothL syn a.data.toList b.data.toList = bo at HBO her ⊢
      obtain ⟨u, v, er⟩ := bo
      simp only at HBO her ⊢
      have qe : (er != 0) = true := by rw [bne_iff_ne]; exact her
      clear her hos
      rcases hsy with rfl | rfl | rfl
      all_goals
        go_enter Tryz.func12, Tryz.ntmps12
        go_wp2_with fail
        refine (HBO.out _ HE0.out HT0.out).mono ?_
        rintro e w1 ⟨rfl, hB1⟩
        have HB1 := Lib.hid (HB0.out.trans (hB1.mono hw0))
        clear hB1 hW0 k0 k1 k2
        go_wp2_with fail
        go_ret2
        exact ⟨rfl, HB1.out⟩
  · rw [ordL_no hno]
    clear hno
    go_enter Tryz.func12, Tryz.ntmps12
    go_wp2_with fail
    go_ret2
    exact ⟨rfl, HB0.out⟩
end atw
end Go.Proofs.YtckpiaigoeicfaaGreatDoor
/-! RWorW -/
namespace Go.Proofs.YtckpiaigoeicfaaGreatDoor
open Go.RowKit
namespace atw
open atp
set_option linter.unusedVariables false
set_option linter.unusedSimpArgs false
theorem num_bare {l : List UInt8} (h : numOK l = true) : (bare l).all digit = true := by
  unfold numOK at h
  rw [Bool.or_eq_true] at h
  rcases h with h | h
  · rw [decide_eq_true_iff] at h; subst h; decide
  · simp only [Bool.and_eq_true] at h
    exact h.2
theorem worthN_lt {l : List UInt8} (h : numOK l = true) : worthN (bare l) < 1000000000000000000 := by
  obtain ⟨_, h1, h2⟩ := atoi_num h
  unfold worth at h1 h2
  split at h1
  · rename_i hc
    omega
  · rename_i hc
    rw [if_neg hc] at h2
    omega
/-- the sum that the reference's loop makes: signs are left out -/
def valF (l : List UInt8) : Nat := l.foldl (fun n c => if c = 45 then n else 10 * n + (c.toNat - 48)) 0
theorem valF_snoc (l : List UInt8) (c : UInt8) : valF (l ++ [c]) = if c = 45 then valF l else 10 * valF l + (c.toNat - 48) := by
  unfold valF
  rw [List.foldl_append]
  rfl
theorem val_digits : ∀ (l : List UInt8) (n : Nat), l.all digit = true → l.foldl (fun n c => if c = 45 then n else 10 * n + (c.toNat - 48)) n = l.foldl (fun n c => 10 * n + (c.toNat - 48)) n
  | [], _, _ => rfl
  | c :: r, n, h => by
    obtain ⟨h1, h2, h3⟩ := all_digit h
    rw [List.foldl_cons, List.foldl_cons, if_neg (by rintro rfl; revert h1; decide)]
    exact val_digits r _ h3
theorem valF_bare {l : List UInt8} (h : (bare l).all digit = true) : valF l = worthN (bare l) := by
  unfold valF worthN
  unfold bare at h ⊢
  by_cases hc : l.head? = some 45
  · rw [if_pos hc] at h ⊢
    cases l with
    | nil => cases hc
    | cons c r =>
      simp only [List.head?_cons, Option.some.injEq] at hc
      subst hc
      rw [List.foldl_cons, if_pos rfl, List.tail_cons]
      exact val_digits r 0 h
  · rw [if_neg hc] at h ⊢
    exact val_digits l 0 h
theorem valF_mono (l : List UInt8) (k : Nat) : valF (l.take k) ≤ valF l := by
  have : ∀ (t : List UInt8) (n : Nat), n ≤ t.foldl (fun n c => if c = 45 then n else 10 * n + (c.toNat - 48)) n := by
    intro t
    induction t with
    | nil => intro n; exact Nat.le_refl _
    | cons c r ih =>
      intro n
      rw [List.foldl_cons]
      refine Nat.le_trans ?_ (ih _)
      split <;> omega
  have e : l = l.take k ++ l.drop k := (List.take_append_drop k l).symm
  conv => rhs; rw [e]
  unfold valF
  rw [List.foldl_append]
  exact this _ _
theorem worth_steps {s : ByteArray} (h : numOK s.data.toList = true) : ∃ v : Nat → Nat, v 0 = 0 ∧ (∀ k, v k < 1000000000000000000) ∧ (∀ k (hk : k < s.size), ((s[k].toNat : Int) = 45 → v (k + 1) = v k) ∧ ((s[k].toNat : Int) ≠ 45 → (v (k + 1) : Int) = v k * 10 + (s[k].toNat : Int) - 48)) ∧ (worth s.data.toList = if s.data.toList.head? = some 45 then -(v s.size : Int) else (v s.size : Int)) := by
  have hb := num_bare h
  have hlt := worthN_lt h
  refine ⟨fun k => valF (s.data.toList.take k), rfl, fun k => ?_, fun k hk => ?_, ?_⟩
  · have := valF_mono s.data.toList k
    rw [valF_bare hb] at this
    show valF _ < _
    omega
  · have e : valF (s.data.toList.take (k + 1)) = if s[k] = 45 then valF (s.data.toList.take k) else 10 * valF (s.data.toList.take k) + (s[k].toNat - 48) := by
      rw [take_snocB s k hk, valF_snoc]
    constructor
    · intro hc
      have : s[k] = 45 := u8_of (n := 45) (by omega) hc
      show valF _ = valF _
      rw [e, if_pos this]
    · intro hc
      have hne : s[k] ≠ 45 := by intro e; rw [e] at hc; exact hc rfl
      have hd : 48 ≤ s[k].toNat := by
        have hm := mem_s hk
        have : s[k] ∈ bare s.data.toList := by
          unfold bare
          split
          · rename_i hh
            obtain ⟨t, ht⟩ := ne_s (s := s) (by omega)
            rw [ht] at hh hm ⊢
            simp only [List.head?_cons, Option.some.injEq] at hh
            rcases List.mem_cons.1 hm with h1 | h1
            · exact absurd (h1.trans hh) hne
            · exact h1
          · exact hm
        have := List.all_eq_true.1 hb _ this
        unfold digit at this
        rw [decide_eq_true_iff] at this
        exact this.1
      show ((valF _ : Nat) : Int) = (valF _ : Nat) * 10 + _ - 48
      rw [e, if_neg hne]
      omega
  · unfold worth
    have ht : s.data.toList.take s.size = s.data.toList := List.take_of_length_le (by rw [kt.size_len]; exact Nat.le_refl _)
    show _ = if s.data.toList.head? = some 45 then -((valF (s.data.toList.take s.size) : Nat) : Int) else ((valF (s.data.toList.take s.size) : Nat) : Int)
    rw [ht, valF_bare hb]
set_option maxRecDepth 20000 in
set_option maxHeartbeats 4000000 in
theorem rworth_any (s : ByteArray) (w : World) (h : numOK s.data.toList = true) (hl : s.size ≤ 19) : Calls Tryz.prog 29 #[.string s] w fun e w' => e = .returned (.int .i64 (worth s.data.toList)) ∧ w = w' := by
  obtain ⟨v, hv0, hv1, hv2, hv3⟩ := worth_steps h
  have hs1 : 1 ≤ s.size := by
    rcases Nat.eq_zero_or_pos s.size with h0 | h0
    · rw [zero_s h0] at h; exact absurd h (by decide)
    · exact h0
  have hsp : 0 < s.size := hs1
  have hspI : (0 : Int) < (s.size : Int) := by omega
  have hhd := head_s hsp
  have HV1 := Lib.hid hv1
  have HV2 : Hid (∀ k (hk : k < s.size), ((s[k].toNat : Int) = 45 → v (k + 1) = v k) ∧ ((s[k].toNat : Int) ≠ 45 → (v (k + 1) : Int) = v k * 10 + (s[k].toNat : Int) - 48)) := hv2
  have HV0 := Lib.hid hv0
  obtain ⟨d0, hd0⟩ : ∃ c, s[0]'hsp = c := ⟨_, rfl⟩
  rw [hd0] at hhd
  have HW : Hid (((d0.toNat : Int) = 45 → (worth s.data.toList : Int) = -(v s.size : Int)) ∧ ((d0.toNat : Int) ≠ 45 → (worth s.data.toList : Int) = (v s.size : Int))) := by
    refine ⟨fun e => ?_, fun e => ?_⟩
    · rw [hv3, if_pos (by rw [hhd, u8_of (n := 45) (by omega) e]; rfl)]
    · rw [hv3, if_neg]
      rw [hhd]
      intro q
      rw [Option.some.injEq] at q
      rw [q] at e
      exact e rfl
  have HD0 := Lib.hid hd0
  clear hv0 hv1 hv2 hv3 hhd hd0 h
  generalize worth s.data.toList = wo at HW ⊢
  go_enter Tryz.func29, Tryz.ntmps29
  go_wp2_with fail
  go_loop [3, 4] (fun nv iv => ∃ k : Nat, k ≤ s.size ∧ iv = .int .i64 (k : Int) ∧ ∃ n : Nat, nv = .int .i64 (n : Int) ∧ Hid (n = v k)) (fun _ iv => s.size - (intOf iv).toNat)
  case atStart => exact ⟨0, Nat.zero_le _, rfl, 0, rfl, HV0.out.symm⟩
  case round =>
    obtain ⟨k, hk, rfl, n, rfl, hn⟩ := hrel
    have hnb : (n : Int) < 1000000000000000000 := by have := HV1.out k; rw [← hn.out] at this; omega
    have hn0 : (0 : Int) ≤ (n : Int) := by omega
    by_cases hlt : k < s.size
    · have hlt' : (k : Int) < (s.size : Int) := by omega
      have HS := HV2.out k hlt
      obtain ⟨c, hc⟩ : ∃ c, s[k]'hlt = c := ⟨_, rfl⟩
      rw [hc] at HS
      have hcn := c.toNat_lt
      have hn' := HV1.out (k + 1)
      rw [← hn.out] at HS
      by_cases h45 : (c.toNat : Int) = 45
      · have HK := Lib.hid (HS.1 h45)
        have q : ((c.toNat : Int) != 45) = false := by rw [bne_eq_false_iff_eq]; exact h45
        clear HS h45 hn'
        go_wp2_with fail
        go_round
        case rel => exact ⟨k + 1, by omega, by go_num, n, rfl, HK.out.symm⟩
        case measure => simp [intOf]; omega
      · have HK := Lib.hid (HS.2 h45)
        have q : ((c.toNat : Int) != 45) = true := by rw [bne_iff_ne]; exact h45
        have hb1 : (n : Int) * 10 + (c.toNat : Int) - 48 = ((v (k + 1) : Nat) : Int) := HK.out.symm
        have hb2 : (0 : Int) ≤ (n : Int) * 10 + (c.toNat : Int) - 48 := by omega
        have hb3 : (n : Int) * 10 + (c.toNat : Int) - 48 < 1000000000000000000 := by omega
        have HB1 := Lib.hid hb1
        clear HS h45 hn' hb1
        go_wp2_with fail
        go_round
        case rel => exact ⟨k + 1, by omega, by go_num, v (k + 1), by first | (rw [HB1.out]) | (go_num; rw [HB1.out]), Lib.hid rfl⟩
        case measure => simp [intOf]; omega
    · obtain rfl : k = s.size := by omega
      have HW1 : Hid (((d0.toNat : Int) = 45 → wo = -(n : Int)) ∧ ((d0.toNat : Int) ≠ 45 → wo = (n : Int))) := by rw [hn.out]; exact HW
      have hd0 := HD0.out
      have HNN := Lib.hid hn
      clear hn
      by_cases h45 : (d0.toNat : Int) = 45
      · have HK := Lib.hid (HW1.out.1 h45)
        have q : ((d0.toNat : Int) == 45) = true := by rw [beq_iff_eq]; exact h45
        clear h45
        go_wp2_with fail
        go_ret
        refine ⟨?_, rfl⟩
        rw [HK.out]
        rfl
      · have HK := Lib.hid (HW1.out.2 h45)
        have q : ((d0.toNat : Int) == 45) = false := by rw [beq_eq_false_iff_ne]; exact h45
        clear h45
        go_wp2_with fail
        go_ret
        refine ⟨?_, rfl⟩
        rw [HK.out]
        rfl
end atw
end Go.Proofs.YtckpiaigoeicfaaGreatDoor
/-! ROrdW -/
namespace Go.Proofs.YtckpiaigoeicfaaGreatDoor
open Go.RowKit
namespace atw
open atp
set_option linter.unusedVariables false
set_option linter.unusedSimpArgs false
theorem ready_norm_len {a : List UInt8} {f : Bool} (h : a.length ≤ 1000) : ∀ u, ne0 (prp.readyO a f) = some u → u.length ≤ 1000 := by
  intro u hu
  cases hr : prp.readyO a f with
  | none => rw [hr] at hu; cases hu
  | some o =>
    have := prp.readyO_len hr
    rw [hr] at hu
    unfold ne0 at hu
    simp only at hu
    split at hu
    · cases hu
    · cases hu; omega
theorem norm_text_len {syn : Int} {a : List UInt8} (h : syn = 1 ∨ syn = 2) : (normL syn a).1.length ≤ 1000 := by
  by_cases h1 : 1000 < a.length
  · rw [normL_long (by omega) h1]; simp
  by_cases h2 : a = []
  · rw [normL_nil (by omega) h2]; simp
  rw [normL_form (by omega) (by omega) h2]
  split
  · simp
  · rename_i u hu
    have he : formO syn a = ne0 (prp.readyO a true) ∨ formO syn a = ne0 (prp.readyO a false) := by
      rcases h with rfl | rfl
      · exact Or.inl rfl
      · exact Or.inr rfl
    rcases he with he | he
    · rw [he] at hu; exact ready_norm_len (by omega) u hu
    · rw [he] at hu; exact ready_norm_len (by omega) u hu
set_option maxRecDepth 20000 in
set_option maxHeartbeats 8000000 in
theorem rorder_any (nm : ByteArray) (syn : Int) (sg : Bool) (a b : ByteArray) (w : World) (ha : a.size ≤ 140737488351232) (hb : b.size ≤ 140737488351232) :
    Calls Tryz.prog 13 #[.agg #[.string nm, .int .i64 syn, .bool sg], .string a, .string b] w fun e w' => e = .returned (.tuple #[.int .i64 (ordL syn a.data.toList b.data.toList).1, .int .i64 (ordL syn a.data.toList b.data.toList).2]) ∧ Below w.heap.size w w' := by
  obtain ⟨W0, hW0⟩ : ∃ W, w.alloc (.cells #[.string nm, .int .i64 syn, .bool sg] 23) = W := ⟨_, rfl⟩
  have hB0 : Below w.heap.size w W0 := by rw [← hW0]; exact (Below.refl _ _).alloc (Nat.le_refl _) _
  have HB0 := Lib.hid hB0
  have hw0 : w.heap.size ≤ W0.heap.size := hB0.size
  have HTB0 : Hid (TB W0 w.heap.size nm syn sg) := by rw [← hW0]; exact tb_new w nm syn sg
  obtain ⟨k0, k1, k2⟩ := tb_cells HTB0.out
  have HNA : Hid (∀ w, Calls Tryz.prog 20 #[.agg #[.string nm, .int .i64 syn, .bool sg], .string a] w fun e w' => e = .returned (normV (normL syn a.data.toList)) ∧ Below w.heap.size w w') := fun w => rnormal_any nm syn sg a w ha
  have HNB : Hid (∀ w, Calls Tryz.prog 20 #[.agg #[.string nm, .int .i64 syn, .bool sg], .string b] w fun e w' => e = .returned (normV (normL syn b.data.toList)) ∧ Below w.heap.size w w') := fun w => rnormal_any nm syn sg b w hb
  rcases ordS_cases syn with hsy | ⟨hno, _, _, _, q1, q2, q4⟩
  · have hos : ordS syn = true := by rcases hsy with rfl | rfl | rfl <;> rfl
    have HN4 : Hid (∀ l : List UInt8, syn = 4 → (normL syn l).2 = 0 → numOK (normL syn l).1 = true ∧ (normL syn l).1.length ≤ 19) := by
      rintro l rfl h
      exact norm_num h
    have HN12 : Hid (syn ≠ 4 → (normL syn a.data.toList).1.length ≤ 1000) := fun h => norm_text_len (by omega)
    have HA4 := HN4.out a.data.toList
    have HB4 := HN4.out b.data.toList
    have hor : ordL syn a.data.toList b.data.toList = if (bothL syn a.data.toList b.data.toList).2.2 ≠ 0 then (0, (bothL syn a.data.toList b.data.toList).2.2) else if syn = 4 then (Lib.compareInt (worth (bothL syn a.data.toList b.data.toList).1) (worth (bothL syn a.data.toList b.data.toList).2.1), 0) else (Lib.compareBytes (bothL syn a.data.toList b.data.toList).1 (bothL syn a.data.toList b.data.toList).2.1, 0) := by
      unfold ordL
      rw [if_neg (by rw [hos]; simp)]
    rw [hor]
    clear hor hos HN4
    unfold bothL
    obtain ⟨na, hna⟩ : ∃ u, normL syn a.data.toList = u := ⟨_, rfl⟩
    obtain ⟨nb, hnb⟩ : ∃ u, normL syn b.data.toList = u := ⟨_, rfl⟩
    rw [hna] at HNA HA4 HN12 ⊢
    rw [hnb] at HNB HB4 ⊢
    clear hna hnb hB0
    obtain ⟨u, ea⟩ := na
    obtain ⟨v, eb⟩ := nb
    have HNA2 : Hid (∀ w, Calls Tryz.prog 20 #[.agg #[.string nm, .int .i64 syn, .bool sg], .string a] w fun e w' => e = .returned (.tuple #[.string (bs u), .int .i64 ea]) ∧ Below w.heap.size w w') := HNA
    have HNB2 : Hid (∀ w, Calls Tryz.prog 20 #[.agg #[.string nm, .int .i64 syn, .bool sg], .string b] w fun e w' => e = .returned (.tuple #[.string (bs v), .int .i64 eb]) ∧ Below w.heap.size w w') := HNB
    have HA4' := Lib.hid HA4
    have HB4' := Lib.hid HB4
    clear HNA HNB HA4 HB4
    by_cases hea : ea = 0
    · have q : (ea != 0) = false := by rw [bne_eq_false_iff_eq]; exact hea
      rw [if_neg (not_not_intro hea)]
      by_cases heb : eb = 0
      · have q2 : (eb != 0) = false := by rw [bne_eq_false_iff_eq]; exact heb
        rw [if_neg (not_not_intro heb)]
        by_cases h4 : syn = 4
        · subst h4
          obtain ⟨n1, l1⟩ := HA4'.out rfl hea
          obtain ⟨n2, l2⟩ := HB4'.out rfl heb
          rw [if_pos rfl, if_neg (by simp)]
          have HWA : Hid (∀ w, Calls Tryz.prog 29 #[.string (bs u)] w fun e w' => e = .returned (.int .i64 (worth u)) ∧ w = w') := fun w => rworth_any (bs u) w n1 (by rw [bs_size]; exact l1)
          have HWB : Hid (∀ w, Calls Tryz.prog 29 #[.string (bs v)] w fun e w' => e = .returned (.int .i64 (worth v)) ∧ w = w') := fun w => rworth_any (bs v) w n2 (by rw [bs_size]; exact l2)
          simp only
          have hcmp : Lib.compareInt (worth u) (worth v) = if worth u < worth v then -1 else if worth u > worth v then 1 else 0 := rfl
          rw [hcmp]
          generalize worth u = x at HWA ⊢
          generalize worth v = y at HWB ⊢
          clear hcmp n1 n2 l1 l2 HA4' HB4' hea heb hsy HN12
          by_cases c1 : x < y
          · have d1 : decide (x < y) = true := decide_eq_true c1
            rw [if_pos c1]
            clear c1
            go_enter Tryz.func13, Tryz.ntmps13
            go_wp2_with fail
            refine (HNA2.out _).mono ?_
            rintro e w1 ⟨rfl, hB1⟩
            have HB1 := Lib.hid (HB0.out.trans (hB1.mono hw0))
            obtain ⟨m0, m1, m2⟩ := tb_cells (tb_below HTB0.out hB1)
            have HTB1 := Lib.hid (tb_below HTB0.out hB1)
            clear hB1 hW0 k0 k1 k2
            go_wp2_with fail
            refine (HNB2.out _).mono ?_
            rintro e w2 ⟨rfl, hB2⟩
            have HB2 := Lib.hid (HB1.out.trans (hB2.mono HB1.out.size))
            obtain ⟨p0, p1, p2⟩ := tb_cells (tb_below HTB1.out hB2)
            clear hB2 m0 m1 m2
            go_wp2_with fail
            refine (HWA.out _).mono ?_
            rintro e w3 ⟨rfl, rfl⟩
            go_wp2_with fail
            refine (HWB.out _).mono ?_
            rintro e w3 ⟨rfl, rfl⟩
            go_wp2_with fail
            go_ret2
            exact ⟨rfl, HB2.out⟩
          · have d1 : decide (x < y) = false := decide_eq_false c1
            rw [if_neg c1]
            by_cases c2 : x > y
            · have d2 : decide (y < x) = true := decide_eq_true c2
              rw [if_pos c2]
              clear c1 c2
              go_enter Tryz.func13, Tryz.ntmps13
              go_wp2_with fail
              refine (HNA2.out _).mono ?_
              rintro e w1 ⟨rfl, hB1⟩
              have HB1 := Lib.hid (HB0.out.trans (hB1.mono hw0))
              obtain ⟨m0, m1, m2⟩ := tb_cells (tb_below HTB0.out hB1)
              have HTB1 := Lib.hid (tb_below HTB0.out hB1)
              clear hB1 hW0 k0 k1 k2
              go_wp2_with fail
              refine (HNB2.out _).mono ?_
              rintro e w2 ⟨rfl, hB2⟩
              have HB2 := Lib.hid (HB1.out.trans (hB2.mono HB1.out.size))
              obtain ⟨p0, p1, p2⟩ := tb_cells (tb_below HTB1.out hB2)
              clear hB2 m0 m1 m2
              go_wp2_with fail
              refine (HWA.out _).mono ?_
              rintro e w3 ⟨rfl, rfl⟩
              go_wp2_with fail
              refine (HWB.out _).mono ?_
              rintro e w3 ⟨rfl, rfl⟩
              go_wp2_with fail
              refine (HWA.out _).mono ?_
              rintro e w3 ⟨rfl, rfl⟩
              go_wp2_with fail
              refine (HWB.out _).mono ?_
              rintro e w3 ⟨rfl, rfl⟩
              go_wp2_with fail
              go_ret2
              exact ⟨rfl, HB2.out⟩
            · have d2 : decide (y < x) = false := decide_eq_false c2
              rw [if_neg c2]
              clear c1 c2
              go_enter Tryz.func13, Tryz.ntmps13
              go_wp2_with fail
              refine (HNA2.out _).mono ?_
              rintro e w1 ⟨rfl, hB1⟩
              have HB1 := Lib.hid (HB0.out.trans (hB1.mono hw0))
              obtain ⟨m0, m1, m2⟩ := tb_cells (tb_below HTB0.out hB1)
              have HTB1 := Lib.hid (tb_below HTB0.out hB1)
              clear hB1 hW0 k0 k1 k2
              go_wp2_with fail
              refine (HNB2.out _).mono ?_
              rintro e w2 ⟨rfl, hB2⟩
              have HB2 := Lib.hid (HB1.out.trans (hB2.mono HB1.out.size))
              obtain ⟨p0, p1, p2⟩ := tb_cells (tb_below HTB1.out hB2)
              clear hB2 m0 m1 m2
              go_wp2_with fail
              refine (HWA.out _).mono ?_
              rintro e w3 ⟨rfl, rfl⟩
              go_wp2_with fail
              refine (HWB.out _).mono ?_
              rintro e w3 ⟨rfl, rfl⟩
              go_wp2_with fail
              refine (HWA.out _).mono ?_
              rintro e w3 ⟨rfl, rfl⟩
              go_wp2_with fail
              refine (HWB.out _).mono ?_
              rintro e w3 ⟨rfl, rfl⟩
              go_wp2_with fail
              go_ret2
              exact ⟨rfl, HB2.out⟩
        · have hl := HN12.out h4
          have q4 : (syn != 4) = true := by rw [bne_iff_ne]; exact h4
          have hsy2 : syn = 1 ∨ syn = 2 := by omega
          rw [if_neg (by simp), if_neg h4]
          have HLE : Hid (∀ w, Calls Tryz.prog 24 #[.string (bs u), .string (bs v)] w fun e w' => e = .returned (.int .i64 (Lib.compareBytes u v)) ∧ ∃ n, w' = w.drewN n) := fun w => ordw.less_any (bs u) (bs v) w (by rw [bs_size]; exact Nat.le_trans hl (by omega))
          simp only
          generalize Lib.compareBytes u v = cv at HLE ⊢
          clear hl h4 HA4' HB4' hea heb hsy HN12
          rcases hsy2 with rfl | rfl
          all_goals
            go_enter Tryz.func13, Tryz.ntmps13
            go_wp2_with fail
            refine (HNA2.out _).mono ?_
            rintro e w1 ⟨rfl, hB1⟩
            have HB1 := Lib.hid (HB0.out.trans (hB1.mono hw0))
            obtain ⟨m0, m1, m2⟩ := tb_cells (tb_below HTB0.out hB1)
            have HTB1 := Lib.hid (tb_below HTB0.out hB1)
            clear hB1 hW0 k0 k1 k2
            go_wp2_with fail
            refine (HNB2.out _).mono ?_
            rintro e w2 ⟨rfl, hB2⟩
            have HB2 := Lib.hid (HB1.out.trans (hB2.mono HB1.out.size))
            obtain ⟨p0, p1, p2⟩ := tb_cells (tb_below HTB1.out hB2)
            clear hB2 m0 m1 m2
            go_wp2_with fail
            refine (HLE.out _).mono ?_
            rintro e w3 ⟨rfl, nd, rfl⟩
            go_wp2_with fail
            go_ret2
            exact ⟨rfl, ⟨HB2.out.os, HB2.out.tape, HB2.out.output, HB2.out.size, HB2.out.block⟩⟩
      · have q2 : (eb != 0) = true := by rw [bne_iff_ne]; exact heb
        rw [if_pos heb, if_pos heb]
        simp only
        clear heb hea HA4' HB4' HN12
        rcases hsy with rfl | rfl | rfl
        all_goals
          go_enter Tryz.func13, Tryz.ntmps13
          go_wp2_with fail
          refine (HNA2.out _).mono ?_
          rintro e w1 ⟨rfl, hB1⟩
          have HB1 := Lib.hid (HB0.out.trans (hB1.mono hw0))
          obtain ⟨m0, m1, m2⟩ := tb_cells (tb_below HTB0.out hB1)
          have HTB1 := Lib.hid (tb_below HTB0.out hB1)
          clear hB1 hW0 k0 k1 k2
          go_wp2_with fail
          refine (HNB2.out _).mono ?_
          rintro e w2 ⟨rfl, hB2⟩
          have HB2 := Lib.hid (HB1.out.trans (hB2.mono HB1.out.size))
          obtain ⟨p0, p1, p2⟩ := tb_cells (tb_below HTB1.out hB2)
          clear hB2 m0 m1 m2
          go_wp2_with fail
          go_ret2
          exact ⟨rfl, HB2.out⟩
    · have q : (ea != 0) = true := by rw [bne_iff_ne]; exact hea
      rw [if_pos hea, if_pos hea]
      simp only
      clear hea HA4' HB4' HN12
      rcases hsy with rfl | rfl | rfl
      all_goals
        go_enter Tryz.func13, Tryz.ntmps13
        go_wp2_with fail
        refine (HNA2.out _).mono ?_
        rintro e w1 ⟨rfl, hB1⟩
        have HB1 := Lib.hid (HB0.out.trans (hB1.mono hw0))
        obtain ⟨m0, m1, m2⟩ := tb_cells (tb_below HTB0.out hB1)
        have HTB1 := Lib.hid (tb_below HTB0.out hB1)
        clear hB1 hW0 k0 k1 k2
        go_wp2_with fail
        go_ret2
        exact ⟨rfl, HB1.out⟩
  · rw [ordL_no hno]
    clear hno hB0
    go_enter Tryz.func13, Tryz.ntmps13
    go_wp2_with fail
    go_ret2
    exact ⟨rfl, HB0.out⟩
end atw
end Go.Proofs.YtckpiaigoeicfaaGreatDoor
/-! RMapW -/
namespace Go.Proofs.YtckpiaigoeicfaaGreatDoor
open Go.RowKit
namespace prw
open run prp
set_option linter.unusedVariables false
set_option linter.unusedSimpArgs false
set_option maxRecDepth 20000 in
set_option maxHeartbeats 1100000 in
theorem rmap_any (s : ByteArray) (fold : Bool) (w : World) (hs : s.size ≤ 1100000) : Calls Tryz.prog 61 #[.string s, .bool fold] w fun e w' => e = .returned (pairV (mapO s.data.toList fold)) ∧ Below w.heap.size w w' := by
  rw [mapO_eq]
  have CR := mapped_any s fold w hs
  cases hrs : mapO' s.data.toList fold with
  | none =>
    rw [hrs] at CR
    have CH := Lib.hid CR
    clear hrs CR
    go_enter Tryz.func61, Tryz.ntmps61
    go_wp2_with fail
    refine CH.out.mono ?_
    rintro e w1 ⟨hB1, v, rfl⟩
    go_wp2_with fail
    go_ret2
    exact ⟨rfl, hB1⟩
  | some m =>
    rw [hrs] at CR
    obtain ⟨hml, hok⟩ := mapO'_facts hrs
    have CH := Lib.hid CR
    have HK := Lib.hid hok
    have hml2 : m.length ≤ 1100000 := by omega
    clear hrs CR hok hml
    go_enter Tryz.func61, Tryz.ntmps61
    go_wp2_with fail
    refine CH.out.mono ?_
    rintro e w1 ⟨hB1, v, rfl, hO⟩
    obtain ⟨ao, cap, rfl, hS⟩ := runs_of hO
    have HS := Lib.hid hS
    have CT := Lib.hid (text_any ao cap m w1 hml2 HS HK)
    clear hO hS
    have hsz1 := hB1.size
    go_wp2_with fail
    refine CT.out.mono ?_
    rintro e w2 ⟨rfl, hB2⟩
    go_wp2_with fail
    go_ret2
    exact ⟨rfl, hB1.trans (hB2.mono hsz1)⟩
end prw
end Go.Proofs.YtckpiaigoeicfaaGreatDoor
/-! PieceW -/
namespace Go.Proofs.YtckpiaigoeicfaaGreatDoor
open Go.RowKit
namespace atw
open atp
set_option linter.unusedVariables false
set_option linter.unusedSimpArgs false
/-- a piece as it is sought -/
def pieceO (syn : Int) (l : List UInt8) : Option (List UInt8) := if syn = 7 then prp.phoneO l else prp.mapO l (syn == 1)
theorem piece_len {syn : Int} {l o : List UInt8} (h : pieceO syn l = some o) : o.length ≤ l.length := by
  unfold pieceO at h
  split at h
  · unfold prp.phoneO at h
    obtain ⟨m, hm, rfl⟩ := Option.map_eq_some_iff.1 h
    have e : prp.mapO l true = some (run.text (prp.mapped true m)) := by unfold prp.mapO; rw [hm]; rfl
    refine Nat.le_trans ?_ (prp.mapO_len e)
    unfold prp.phoneR
    generalize prp.mapped true m = q
    induction q with
    | nil => exact Nat.le_refl _
    | cons c r ih =>
      have e1 : run.text (c :: r) = run.enc c ++ run.text r := rfl
      rw [List.filter_cons]
      split
      · have e2 : run.text (c :: List.filter (fun v => decide (v ≠ 32) && decide (v ≠ 45)) r) = run.enc c ++ run.text (List.filter (fun v => decide (v ≠ 32) && decide (v ≠ 45)) r) := rfl
        rw [e1, e2, List.length_append, List.length_append]
        omega
      · rw [e1, List.length_append]
        omega
  · exact prp.mapO_len h
set_option maxRecDepth 20000 in
set_option maxHeartbeats 4000000 in
theorem piece_any (nm : ByteArray) (syn : Int) (sg : Bool) (s : ByteArray) (w : World) (hs : s.size ≤ 1100000) (hE : Hid (prw.Env w)) :
    Calls Tryz.prog 33 #[.agg #[.string nm, .int .i64 syn, .bool sg], .string s] w fun e w' => e = .returned (prw.pairV (pieceO syn s.data.toList)) ∧ Below w.heap.size w w' := by
  obtain ⟨W0, hW0⟩ : ∃ W, w.alloc (.cells #[.string nm, .int .i64 syn, .bool sg] 23) = W := ⟨_, rfl⟩
  have hB0 : Below w.heap.size w W0 := by rw [← hW0]; exact (Below.refl _ _).alloc (Nat.le_refl _) _
  have HB0 := Lib.hid hB0
  have hw0 : w.heap.size ≤ W0.heap.size := hB0.size
  have HTB0 : Hid (TB W0 w.heap.size nm syn sg) := by rw [← hW0]; exact tb_new w nm syn sg
  obtain ⟨k0, k1, k2⟩ := tb_cells HTB0.out
  have HE0 := Lib.hid (prw.env_below hE.out hB0)
  by_cases h7 : syn = 7
  · subst h7
    have hp : pieceO 7 s.data.toList = prp.phoneO s.data.toList := rfl
    have HC : Hid (Calls Tryz.prog 56 #[.string s] W0 fun e w' => e = .returned (prw.pairV (prp.phoneO s.data.toList)) ∧ Below W0.heap.size W0 w') := prw.phone_any s W0 hs HE0
    rw [hp]
    clear hp
    obtain ⟨po, hpo⟩ : ∃ u, prp.phoneO s.data.toList = u := ⟨_, rfl⟩
    rw [hpo] at HC ⊢
    clear hpo hB0
    cases po
    all_goals
      simp only [prw.pairV] at HC ⊢
      go_enter Tryz.func33, Tryz.ntmps33
      go_wp2_with fail
      refine (HC.out).mono ?_
      rintro e w1 ⟨rfl, hB1⟩
      have HB1 := Lib.hid (HB0.out.trans (hB1.mono hw0))
      clear hB1 hW0 k0 k1 k2
      go_wp2_with fail
      go_ret2
      exact ⟨rfl, HB1.out⟩
  · have hp : pieceO syn s.data.toList = prp.mapO s.data.toList (syn == 1) := by unfold pieceO; rw [if_neg h7]
    have q7 : (syn == 7) = false := by rw [beq_eq_false_iff_ne]; exact h7
    have HC : Hid (Calls Tryz.prog 57 #[.string s, .bool (syn == 1)] W0 fun e w' => e = .returned (prw.pairV (prp.mapO s.data.toList (syn == 1))) ∧ Below W0.heap.size W0 w') := prw.map_any s (syn == 1) W0 hs
    rw [hp]
    clear hp h7
    obtain ⟨po, hpo⟩ : ∃ u, prp.mapO s.data.toList (syn == 1) = u := ⟨_, rfl⟩
    rw [hpo] at HC ⊢
    clear hpo hB0
    cases po
    all_goals
      simp only [prw.pairV] at HC ⊢
      go_enter Tryz.func33, Tryz.ntmps33
      go_wp2_with fail
      refine (HC.out).mono ?_
      rintro e w1 ⟨rfl, hB1⟩
      have HB1 := Lib.hid (HB0.out.trans (hB1.mono hw0))
      clear hB1 hW0 k0 k1 k2
      go_wp2_with fail
      go_ret2
      exact ⟨rfl, HB1.out⟩
set_option maxRecDepth 20000 in
set_option maxHeartbeats 4000000 in
theorem rpiece_any (nm : ByteArray) (syn : Int) (sg : Bool) (s : ByteArray) (w : World) (hs : s.size ≤ 1100000) :
    Calls Tryz.prog 37 #[.agg #[.string nm, .int .i64 syn, .bool sg], .string s] w fun e w' => e = .returned (prw.pairV (pieceO syn s.data.toList)) ∧ Below w.heap.size w w' := by
  obtain ⟨W0, hW0⟩ : ∃ W, w.alloc (.cells #[.string nm, .int .i64 syn, .bool sg] 23) = W := ⟨_, rfl⟩
  have hB0 : Below w.heap.size w W0 := by rw [← hW0]; exact (Below.refl _ _).alloc (Nat.le_refl _) _
  have HB0 := Lib.hid hB0
  have hw0 : w.heap.size ≤ W0.heap.size := hB0.size
  have HTB0 : Hid (TB W0 w.heap.size nm syn sg) := by rw [← hW0]; exact tb_new w nm syn sg
  obtain ⟨k0, k1, k2⟩ := tb_cells HTB0.out
  by_cases h7 : syn = 7
  · subst h7
    have hp : pieceO 7 s.data.toList = prp.phoneO s.data.toList := rfl
    have HC : Hid (Calls Tryz.prog 47 #[.string s] W0 fun e w' => e = .returned (prw.pairV (prp.phoneO s.data.toList)) ∧ Below W0.heap.size W0 w') := prw.rphone_any s W0 hs
    rw [hp]
    clear hp
    obtain ⟨po, hpo⟩ : ∃ u, prp.phoneO s.data.toList = u := ⟨_, rfl⟩
    rw [hpo] at HC ⊢
    clear hpo hB0
    cases po
    all_goals
      simp only [prw.pairV] at HC ⊢
      go_enter Tryz.func37, Tryz.ntmps37
      go_wp2_with fail
      refine (HC.out).mono ?_
      rintro e w1 ⟨rfl, hB1⟩
      have HB1 := Lib.hid (HB0.out.trans (hB1.mono hw0))
      clear hB1 hW0 k0 k1 k2
      go_wp2_with fail
      go_ret2
      exact ⟨rfl, HB1.out⟩
  · have hp : pieceO syn s.data.toList = prp.mapO s.data.toList (syn == 1) := by unfold pieceO; rw [if_neg h7]
    have q7 : (syn == 7) = false := by rw [beq_eq_false_iff_ne]; exact h7
    have HC : Hid (Calls Tryz.prog 61 #[.string s, .bool (syn == 1)] W0 fun e w' => e = .returned (prw.pairV (prp.mapO s.data.toList (syn == 1))) ∧ Below W0.heap.size W0 w') := prw.rmap_any s (syn == 1) W0 hs
    rw [hp]
    clear hp h7
    obtain ⟨po, hpo⟩ : ∃ u, prp.mapO s.data.toList (syn == 1) = u := ⟨_, rfl⟩
    rw [hpo] at HC ⊢
    clear hpo hB0
    cases po
    all_goals
      simp only [prw.pairV] at HC ⊢
      go_enter Tryz.func37, Tryz.ntmps37
      go_wp2_with fail
      refine (HC.out).mono ?_
      rintro e w1 ⟨rfl, hB1⟩
      have HB1 := Lib.hid (HB0.out.trans (hB1.mono hw0))
      clear hB1 hW0 k0 k1 k2
      go_wp2_with fail
      go_ret2
      exact ⟨rfl, HB1.out⟩
end atw
end Go.Proofs.YtckpiaigoeicfaaGreatDoor
/-! PartI -/
namespace Go.Proofs.YtckpiaigoeicfaaGreatDoor
open Go.RowKit
namespace atw
open atp tupw
set_option linter.unusedVariables false
set_option linter.unusedSimpArgs false
def neB (x : ByteArray) : Bool := decide (x.data.toList ≠ [])
theorem ne_beq (x : ByteArray) : (x.toList == []) = !(neB x) := by
  unfold neB
  rw [Lib.toList_data]
  cases h : x.data.toList with
  | nil => rfl
  | cons a t => rfl
theorem ne_bne (x : ByteArray) : (x.toList != []) = neB x := by
  rw [bne, ne_beq, Bool.not_not]
/-- the closure: is a text given? -/
theorem clo_any (x : ByteArray) (W : World) : Calls Tryz.prog 30 #[.string x] W fun e w' => e = .returned (.bool (neB x)) ∧ W = w' := by
  have hb := ne_bne x
  cases hn : neB x
  all_goals
    rw [hn] at hb
    clear hn
    have HB := Lib.hid hb
    go_enter Tryz.func30, Tryz.ntmps30
    go_wp2_with fail
    all_goals first
      | (go_ret; exact ⟨kt.ret_bool (by first | rfl | exact HB.out | simp_all), rfl⟩)
def Has (l : List ByteArray) (k : Nat) : Prop := ∃ i, ∃ hi : i < l.length, i < k ∧ neB l[i] = true
def IxE (l : List ByteArray) (w : World) (e : Ending) (w' : World) : Prop := ∃ r : Int, e = .returned (.int .i64 r) ∧ (0 ≤ r ↔ Has l l.length) ∧ w' = w
set_option maxRecDepth 20000 in
set_option maxHeartbeats 1100000 in
theorem index_any (ao : Option Addr) (cap : Nat) (l : List ByteArray) (w : World) (hA : Hid (Strs w ao l)) (hkb : l.length ≤ 1000) :
    Calls Tryz.prog 55 #[.slice ao l.length cap, .func (.func 30) #[] #[]] w fun e w' => IxE l w e w' := by
  obtain ⟨k, hk⟩ : ∃ k, l.length = k := ⟨_, rfl⟩
  have HK := Lib.hid hk
  unfold IxE
  rw [hk] at hkb ⊢
  clear hk
  go_enter Tryz.func55, Tryz.ntmps55
  go_wp2_with fail
  go_loop [5, 8] (fun _ iv => ∃ i : Nat, i ≤ k ∧ iv = .int .i64 (i : Int) ∧ Hid (¬ Has l i)) (fun _ iv => k - (intOf iv).toNat)
  case atStart => exact ⟨0, Nat.zero_le _, rfl, fun ⟨_, _, h, _⟩ => by omega⟩
  case round =>
    obtain ⟨i, hi, rfl, hN⟩ := hrel
    by_cases hlt2 : i < k
    · have hlt' : (i : Int) < (k : Int) := by omega
      have hil : i < l.length := by rw [HK.out]; exact hlt2
      obtain ⟨b, o, hao, hc0⟩ := hA.out i hil
      subst hao
      have CC := fun w => clo_any l[i] w
      by_cases he : neB l[i] = true
      · have HH : Hid (0 ≤ (i : Int) ↔ Has l k) := ⟨fun _ => ⟨i, hil, hlt2, he⟩, fun _ => by omega⟩
        rw [he] at CC
        have HC := Lib.hid CC
        generalize l[i] = x at hc0 HC
        clear CC he
        go_wp2_with fail
        refine (HC.out _).mono ?_
        rintro e w2 ⟨rfl, rfl⟩
        go_wp2_with fail
        go_ret
        exact ⟨(i : Int), rfl, HH.out, rfl⟩
      · have HN2 : Hid (¬ Has l (i + 1)) := by
          rintro ⟨j, hj, h1, h2⟩
          by_cases e : j = i
          · subst e; exact he h2
          · exact hN.out ⟨j, hj, by omega, h2⟩
        rw [Bool.eq_false_iff.2 he] at CC
        have HC := Lib.hid CC
        generalize l[i] = x at hc0 HC
        clear CC he
        go_wp2_with fail
        refine (HC.out _).mono ?_
        rintro e w2 ⟨rfl, rfl⟩
        go_wp2_with fail
        go_round
        case rel => exact ⟨i + 1, by omega, by go_num, HN2⟩
        case measure => simp [intOf]; omega
    · obtain rfl : i = k := by omega
      go_wp2_with fail
      go_ret
      exact ⟨-1, rfl, ⟨fun h => by omega, fun h => absurd h hN.out⟩, rfl⟩
theorem hasB_iff (l : List ByteArray) : l.any neB = true ↔ Has l l.length := by
  unfold Has
  rw [List.any_eq_true]
  constructor
  · rintro ⟨x, hx, h⟩
    obtain ⟨i, hi, rfl⟩ := List.mem_iff_getElem.1 hx
    exact ⟨i, hi, hi, h⟩
  · rintro ⟨i, hi, h1, h2⟩
    exact ⟨l[i], List.getElem_mem _, h2⟩
set_option maxRecDepth 20000 in
theorem contains_any (ao : Option Addr) (cap : Nat) (l : List ByteArray) (w : World) (hA : Hid (Strs w ao l)) (hkb : l.length ≤ 1000) :
    Calls Tryz.prog 32 #[.slice ao l.length cap, .func (.func 30) #[] #[]] w fun e w' => e = .returned (.bool (l.any neB)) ∧ w = w' := by
  have CI := Lib.hid (index_any ao cap l w hA hkb)
  have hI := hasB_iff l
  generalize l.length = n at CI ⊢
  cases hH : l.any neB with
  | true =>
    have HH := Lib.hid (hI.1 hH)
    clear hI hH
    go_enter Tryz.func32, Tryz.ntmps32
    go_wp2_with fail
    refine CI.out.mono ?_
    rintro e w1 ⟨r, rfl, h1, rfl⟩
    have h2 : 0 ≤ r := h1.2 HH.out
    clear h1
    go_wp2_with fail
    go_ret
    exact ⟨kt.ret_bool (by first | rfl | exact decide_eq_true h2), rfl⟩
  | false =>
    have HH : Hid (¬ Has l l.length) := fun h => by rw [hI.2 h] at hH; cases hH
    clear hI hH
    go_enter Tryz.func32, Tryz.ntmps32
    go_wp2_with fail
    refine CI.out.mono ?_
    rintro e w1 ⟨r, rfl, h1, rfl⟩
    have h2 : ¬ 0 ≤ r := fun h => HH.out (h1.1 h)
    clear h1
    go_wp2_with fail
    go_ret
    exact ⟨kt.ret_bool (by simpa using h2), rfl⟩
end atw
end Go.Proofs.YtckpiaigoeicfaaGreatDoor
/-! ConcW -/
namespace Go.Proofs.YtckpiaigoeicfaaGreatDoor
open Go.RowKit
namespace atw
open atp tupw prw
set_option linter.unusedVariables false
set_option linter.unusedSimpArgs false
set_option maxRecDepth 20000 in
set_option maxHeartbeats 4000000 in
/-- slices.Grow at nil -/
theorem grow_any (B n : Nat) (w : World) (h0 : 0 < n) (hn : n ≤ 1100000) (hB : B ≤ w.heap.size) :
    Calls Tryz.prog 54 #[.slice none 0 0, .int .i64 (n : Int)] w fun e w' => ∃ v, e = .returned v ∧ Hid (OwnT w' B v []) ∧ Below w.heap.size w w' := by
  obtain ⟨i0, hi, hz0, hz1, hz2⟩ := info_parts (P := Tryz.prog) infoStr
  have hap := Lib.hid (Lib.run_append_nil_zeros (P := Tryz.prog) w 31 3 31 9 i0 _ .i64 .i64 Tryz.underlying31 Tryz.underlying3 hi hz0 n h0 (by omega) (by omega) (by rw [hz2]; omega))
  generalize hc : Builtin.zeroCells (Value.string ByteArray.empty).cells n ++ Builtin.zeroCells (Value.string ByteArray.empty).cells (grownCap w n 0 9 - n) = cs at hap
  have hcs : cs.size = grownCap w n 0 9 * 1 := by
    rw [← hc, Array.size_append, size_zeroCells, size_zeroCells]
    have := grownCap_ge w n 0 9
    show n * 1 + (_ - n) * 1 = _
    omega
  have hOW : Hid (OwnT (w.drew.alloc (.cells cs 9)) B (.slice (some ⟨w.heap.size, 0, none⟩) 0 (grownCap w n 0 9)) []) :=
    World.ownsRow_made w.drew cs _ hB (grownCap_le_maxLen w n 0 _ (by unfold maxLen; omega)) hcs
  have hBW : Hid (Below w.heap.size w (w.drew.alloc (.cells cs 9))) := ((Below.refl _ w).drew).alloc (Nat.le_refl _) _
  have hcap : Hid (n ≤ grownCap w n 0 9) := grownCap_ge w n 0 _
  generalize grownCap w n 0 9 = cap at hap hOW hcs hcap
  obtain ⟨w1, hw1⟩ : ∃ w1, w.drew.alloc (.cells cs 9) = w1 := ⟨_, rfl⟩
  rw [hw1] at hap hOW hBW
  have hnI : (0 : Int) < (n : Int) := by omega
  have hnI2 : (n : Int) ≤ 1100000 := by omega
  clear hc hcs hw1 hi hz0 hz1 hz2 hB
  go_enter Tryz.func54, Tryz.ntmps54
  go_wp2_with (at_builtin; refine Lib.wpList_append_run _ rfl _ _ _ _ rfl _ _ rfl rfl _ _ hap.out ?_)
  go_ret
  exact ⟨_, rfl, hOW, hBW.out⟩
/-- an append of a whole row of texts -/
theorem app_row {w : World} {B : Nat} {v : Value} {l m : List ByteArray} {ao : Option Addr} {cap : Nat} (hown : OwnT w B v l) (hS : Strs w ao m) (hn : ao = none → cap = 0) (hl : l.length + m.length ≤ 100000) (hbase : B ≤ w.heap.size) :
    ∃ v' w1, (Builtin.append_ #[31, 31] 31 #[v, .slice ao m.length cap]).run Tryz.prog w = .ok v' w1 ∧ OwnT w1 B v' (l ++ m) ∧ Below B w w1 := by
  obtain ⟨i0, hi, hz0, hz1, hz2⟩ := info_parts (P := Tryz.prog) infoStr
  have hlen := scells_length l
  unfold OwnT at hown
  cases ao with
  | none =>
    have hm : m = [] := by
      cases m with
      | nil => rfl
      | cons x t => obtain ⟨b, o, e, _⟩ := hS 0 (by simp); cases e
    subst hm
    have hc := hn rfl
    subst hc
    refine ⟨v, w, run_append_owned_none (P := Tryz.prog) (w := w) B 31 31 9 i0 1 Tryz.underlying31 hi v _ _ hown, ?_, Below.refl _ _⟩
    rw [List.append_nil]
    exact hown
  | some a =>
    obtain ⟨v', w1, hrun, hown', hgr, _⟩ := run_append_own (P := Tryz.prog) (w := w) (ty := 31) B 31 9 i0 _ 1 16 Tryz.underlying31 hi hz0 hz1 hz2 rfl (by omega) v (scells l).length (scells l) hown a m.length cap (scells m) (by rw [scells_length]; omega)
      (fun j u hj => by
        unfold scells at hj
        rw [List.getElem?_map] at hj
        obtain ⟨x, hx, rfl⟩ := Option.map_eq_some_iff.1 hj
        obtain ⟨hjl, rfl⟩ := List.getElem?_eq_some_iff.1 hx
        obtain ⟨b, o, e, hc⟩ := hS j hjl
        simp only [Option.some.injEq] at e
        subst e
        unfold Addr.add
        by_cases hj0 : j = 0
        · subst hj0; rw [if_pos rfl]; exact hc
        · rw [if_neg hj0]; exact hc)
      (fun u hu => by
        unfold scells at hu
        obtain ⟨x, _, rfl⟩ := List.mem_map.1 hu
        rfl) (by unfold maxLen; omega) (by omega) hbase
    have hlt : ∀ k, v.ownBlock = some k → B ≤ k ∧ k < w.heap.size := World.ownsRow.lt hown
    refine ⟨v', w1, hrun, ?_, (Below.refl B w).grown hgr hbase (fun k hk => (hlt k hk).1)⟩
    unfold OwnT
    have e : scells (l ++ m) = scells l ++ scells m := by simp [scells]
    have e2 : (scells l ++ scells m).length = (scells l).length + m.length := by rw [List.length_append, scells_length m]
    rw [e, e2]
    exact hown'
/-- a row of rows of texts -/
def Rws (w : World) (q : Nat) (L : List (List ByteArray)) : Prop := ∀ (i : Nat) (h : i < L.length), ∃ ao cap, w.cell? ⟨q, i, none⟩ = some (.slice ao L[i].length cap) ∧ Strs w ao L[i] ∧ (ao = none → cap = 0)
theorem rws_below {w w' : World} {q : Nat} {L : List (List ByteArray)} (h : Rws w q L) (hb : Below w.heap.size w w') : Rws w' q L := by
  intro i hi
  obtain ⟨ao, cap, hc, hS, hn⟩ := h i hi
  exact ⟨ao, cap, (hb.cell (World.block_lt_of_cell? w _ hc)).trans hc, strs_below hS hb, hn⟩
theorem flat_take {L : List (List ByteArray)} {i : Nat} (h : i < L.length) : (L.take (i + 1)).flatten = (L.take i).flatten ++ L[i] := by
  rw [List.take_succ_eq_append_getElem h, List.flatten_append]; simp
theorem flat_le (L : List (List ByteArray)) (i : Nat) : (L.take i).flatten.length ≤ L.flatten.length := by
  conv => rhs; rw [← List.take_append_drop i L, List.flatten_append, List.length_append]
  omega
set_option maxRecDepth 20000 in
set_option maxHeartbeats 4000000 in
theorem concat_any (q B cap : Nat) (L : List (List ByteArray)) (w : World) (hR : Hid (Rws w q L)) (hL : L.length ≤ 10) (h0 : 0 < L.flatten.length) (h1 : L.flatten.length ≤ 10000) (hB : B ≤ w.heap.size) :
    Calls Tryz.prog 31 #[.slice (some ⟨q, 0, none⟩) L.length cap] w fun e w' => ∃ v, e = .returned v ∧ Hid (OwnT w' w.heap.size v L.flatten) ∧ Below w.heap.size w w' := by
  obtain ⟨k, hk⟩ : ∃ k, L.length = k := ⟨_, rfl⟩
  have HK := Lib.hid hk
  have HF := Lib.hid h1
  have HT : Hid (∀ i, (L.take i).flatten.length ≤ 10000) := fun i => Nat.le_trans (flat_le L i) h1
  have HS : Hid (∀ i (h : i < L.length), (L.take (i + 1)).flatten = (L.take i).flatten ++ L[i]) := fun i h => flat_take h
  have HE : Hid ((L.take k).flatten = L.flatten) := by rw [← hk, List.take_length]; rfl
  have HFP := Lib.hid h0
  rw [hk] at hL ⊢
  clear hk h0 h1
  go_enter Tryz.func31, Tryz.ntmps31
  go_wp2_with fail
  go_loop [3, 5, 11] (fun sv _ iv => ∃ i : Nat, i ≤ k ∧ iv = .int .i64 (i : Int) ∧ ∃ n : Nat, sv = .int .i64 (n : Int) ∧ Hid (n = (L.take i).flatten.length)) (fun _ _ iv => k - (intOf iv).toNat)
  case atStart => exact ⟨0, Nat.zero_le _, rfl, 0, rfl, rfl⟩
  case round =>
    obtain ⟨i, hi, rfl, n, rfl, hn⟩ := hrel
    have hn1 : n ≤ 10000 := by rw [hn.out]; exact HT.out i
    by_cases hlt2 : i < k
    · have hlt' : (i : Int) < (k : Int) := by omega
      have hil : i < L.length := by rw [HK.out]; exact hlt2
      obtain ⟨ao, c, hc0, _, _⟩ := hR.out i hil
      have HN : Hid (n + L[i].length = (L.take (i + 1)).flatten.length) := by rw [HS.out i hil, List.length_append, hn.out]; exact rfl
      have hn2 : n + L[i].length ≤ 10000 := by rw [HN.out]; exact HT.out _
      generalize L[i].length = m at hc0 HN hn2
      have hn3 : ¬ ((n : Int) + (m : Int) < 0) := by omega
      clear hn
      go_wp2_with fail
      go_round
      case rel => exact ⟨i + 1, by omega, by go_num, n + m, by go_num, HN⟩
      case measure => simp [intOf]; omega
    · obtain rfl : i = k := by omega
      have hnp : 0 < n := by rw [hn.out, HE.out]; exact HFP.out
      have HG : Hid (∀ w : World, ∀ B ≤ w.heap.size, Calls Tryz.prog 54 #[.slice none 0 0, .int .i64 (n : Int)] w fun e w' => ∃ v, e = .returned v ∧ Hid (OwnT w' B v []) ∧ Below w.heap.size w w') := fun w B hB => grow_any B n w hnp (by omega) hB
      clear hn hnp
      go_wp2_with fail
      refine (HG.out _ w.heap.size (Nat.le_refl _)).mono ?_
      rintro e w1 ⟨v1, rfl, hO1, hB1⟩
      have HB1 := Lib.hid hB1
      clear hB1
      go_wp2_with fail
      go_loopw [6, 8, 27] (fun vv _ iv wr => ∃ j : Nat, j ≤ i ∧ iv = .int .i64 (j : Int) ∧ Hid (OwnT wr w.heap.size vv (L.take j).flatten) ∧ Below w.heap.size w wr) (fun _ _ iv _ => i - (intOf iv).toNat)
      case atStart => exact ⟨0, Nat.zero_le _, rfl, hO1, HB1.out⟩
      case round =>
        obtain ⟨j, hj, rfl, hO, hB2⟩ := hrel
        have hsz := hB2.size
        by_cases hlt3 : j < i
        · have hlt' : (j : Int) < (i : Int) := by omega
          have hil : j < L.length := by rw [HK.out]; exact hlt3
          obtain ⟨ao, c, hc0, hS, hcn⟩ := (rws_below hR.out hB2) j hil
          obtain ⟨v', w2, hap, hO2, hB3⟩ := app_row hO.out hS hcn (by rw [← List.length_append, ← HS.out j hil]; have := HT.out (j + 1); omega) hsz
          rw [← HS.out j hil] at hO2
          have hap := Lib.hid hap
          have HO2 := Lib.hid hO2
          have HB3 := Lib.hid (hB2.trans hB3)
          clear hO2 hB3 hS hcn hO
          generalize L[j].length = m at hc0 hap
          go_wp2_with (at_builtin; refine Lib.wpList_append_run _ rfl _ _ _ _ rfl _ _ rfl rfl _ _ hap.out ?_)
          go_roundw
          case rel => exact ⟨j + 1, by omega, by go_num, HO2, HB3.out⟩
          case measure => simp [intOf]; omega
        · obtain rfl : j = i := by omega
          have HO2 := hO
          rw [HE.out] at HO2
          clear hO
          go_wp2_with fail
          go_ret
          exact ⟨_, rfl, HO2, hB2⟩
end atw
end Go.Proofs.YtckpiaigoeicfaaGreatDoor
