/- The walk of the reference's Parse: the name of a text. -/
import Derived.Test.YtjjbmhndakmkbaaDoorRParseP
import Derived.Test.YtjjbmhndakmkbaaDoorPairW
import Derived.Test.YtjjbmhndakmkbaaDoorSignsW
import Derived.Test.YtjjbmhndakmkbaaDoorRRdnW
import Derived.Test.YtjjbmhndakmkbaaDoorParseW
namespace Go.Proofs.YtjjbmhndakmkbaaDoor
open Go.RowKit
namespace dnw
open dnp
set_option linter.unusedVariables false
set_option linter.unusedSimpArgs false
theorem nest_start {w : World} {B : Nat} (hB : B ≤ w.heap.size) (W : World) (hw : W.heap[w.heap.size]? = (w.alloc (.cells #[] 33)).heap[w.heap.size]?) (hs : w.heap.size < W.heap.size) :
    Nest (W.alloc (.cells #[] 36)) B (.slice (some ⟨w.heap.size, 0, none⟩) 0 0) (.slice (some ⟨W.heap.size, 0, none⟩) 0 0) [] [] [] := by
  have h1 : kt.SegX (w.alloc (.cells #[] 33)) B 33 1 (.slice (some ⟨w.heap.size, 0, none⟩) 0 0) 0 [] := kt.segX_of_row (World.ownsRow_made w #[] 0 hB (by unfold maxLen; omega) rfl)
  refine ⟨?_, rfl, fun j h => by simp at h, kt.segX_of_row (World.ownsRow_made W #[] 0 (by omega) (by unfold maxLen; omega) rfl), ?_⟩
  · refine kt.segX_same h1 fun k hk => ?_
    simp only [Value.ownBlock, Option.some.injEq] at hk
    subst hk
    rw [← hw]
    exact Below.heap_alloc _ _ _ hs
  · intro k hk e
    simp only [Value.ownBlock, Option.some.injEq] at hk e
    omega
theorem nest_fresh {w : World} {B : Nat} {vn vl : Value} {ns : List (List Av)} {vals : List Value} (h : Nest w B vn vl ns [] vals) (hB : B ≤ w.heap.size) : Nest (w.alloc (.cells #[] 36)) B vn (.slice (some ⟨w.heap.size, 0, none⟩) 0 0) ns [] vals := by
  have hn := nest_below h (w' := w.alloc (.cells #[] 36)) ((Below.refl _ _).alloc (Nat.le_refl _) _)
  refine ⟨hn.outer, hn.len, fun j a b => ?_, kt.segX_of_row (World.ownsRow_made w #[] 0 hB (by unfold maxLen; omega) rfl), fun k hk e => ?_⟩
  · obtain ⟨i1, i2⟩ := h.inner j a b
    refine ⟨(hn.inner j a b).1, fun k hk => ⟨(i2 k hk).1, fun e => ?_⟩⟩
    simp only [Value.ownBlock, Option.some.injEq] at e
    have := (ownA_lt i1 k hk).2
    omega
  · simp only [Value.ownBlock, Option.some.injEq] at hk
    have := (kt.segX_lt h.outer k e).2
    omega
/-- what the loop carries -/
structure RRel (w wr : World) (L : List Sg) (i j0 : Nat) (vn vl : Value) (ns : List (List Av)) (cur : List Av) (vals : List Value) : Prop where
  nest : Nest wr w.heap.size vn vl ns cur vals
  below : Below w.heap.size w wr
  len : 2 * (ns.length + cur.length) ≤ j0
  small : (∀ l ∈ ns, Smalls l) ∧ Smalls cur
  going : i ≤ L.length → Seg L j0 i ∧ GAt L ns cur j0
  done : i = L.length + 1 → GR [] [] L = some ns
set_option maxRecDepth 100000 in
set_option maxHeartbeats 4000000 in
theorem rparse_any (s : ByteArray) (w : World) (hs : s.size ≤ 140737488351232) :
    Calls Tryd.prog 8 #[.string s] w fun e w' => ParseE s w e w' := by
  by_cases h1000 : 1000 < s.size
  · have h' : 1000 < (s.size : Int) := by omega
    have H1 := Lib.hid h1000
    go_enter Tryd.func8, Tryd.ntmps8
    go_wp2_with fail
    go_ret2
    refine ⟨Below.refl _ _, ?_⟩
    rw [if_pos H1.out]
    rfl
  · have h' : ¬ 1000 < (s.size : Int) := by omega
    have H1 := Lib.hid h1000
    have hs1 : s.size ≤ 1000 := by omega
    have CS := signs_any s w hs1
    have hPR := parseR_signs s.data.toList
    cases hsg : signs s.data.toList with
    | none =>
      rw [hsg] at hPR
      have HP := Lib.hid hPR
      have HC : Hid (Calls Tryd.prog 23 #[.string s] w fun e w' => Below w.heap.size w w' ∧ e = .returned (.tuple #[.slice none 0 0, .bool false])) := by
        refine CS.mono fun e w' h => ?_
        unfold SignsE at h
        rw [hsg] at h
        exact h
      clear CS hsg hPR
      go_enter Tryd.func8, Tryd.ntmps8
      go_wp2_with fail
      refine HC.out.mono ?_
      rintro e w1 ⟨hB1, rfl⟩
      go_wp2_with fail
      go_ret2
      refine ⟨hB1, ?_⟩
      rw [if_neg H1.out, HP.out]
      rfl
    | some L =>
      rw [hsg] at hPR
      simp only at hPR
      have hLl := signs_len _ _ L (Nat.le_refl _) hsg
      rw [kt.size_len] at hLl
      have HP := Lib.hid hPR
      obtain ⟨m, hm⟩ : ∃ m, m = L.length := ⟨_, rfl⟩
      have HM := Lib.hid hm
      have hm1 : m ≤ 1000 := by omega
      have HC : Hid (Calls Tryd.prog 23 #[.string s] w fun e w' => Below w.heap.size w w' ∧ ∃ ao cap, e = .returned (.tuple #[.slice ao m cap, .bool true]) ∧ m ≤ cap ∧ Sgs w' ao L) := by
        refine CS.mono fun e w' h => ?_
        unfold SignsE at h
        rw [hsg] at h
        obtain ⟨h1, ao, cap, h2, h3, h4⟩ := h
        rw [← hm] at h2 h3
        exact ⟨h1, ao, cap, h2, h3, ownS_sgs h4⟩
      clear CS hsg hPR hm
      go_enter Tryd.func8, Tryd.ntmps8
      go_wp2_with fail
      refine HC.out.mono ?_
      rintro e w1 ⟨hB1, ao, cap, rfl, hmc, hSg⟩
      have HB1 := Lib.hid hB1
      have HSg := Lib.hid hSg
      have hsz1 := hB1.size
      clear HC hB1 hSg
      have HB2 : Hid (Below w1.heap.size w1 (w1.alloc (.cells #[] 33))) := (Below.refl _ _).alloc (Nat.le_refl _) _
      have CT := trim_any ao cap L (w1.alloc (.cells #[] 33)) (Lib.hid (sgs_below HSg.out HB2.out)) (by rw [← HM.out]; exact hmc) (by rw [← HM.out]; omega)
      rw [← HM.out] at CT
      obtain ⟨n0, hn0⟩ : ∃ n0, n0 = (trim L).length := ⟨_, rfl⟩
      have HT : Hid (Calls Tryd.prog 24 #[.slice ao m cap] (w1.alloc (.cells #[] 33)) fun e w' => w1.alloc (.cells #[] 33) = w' ∧ ∃ ao cap, e = .returned (.slice ao n0 cap)) := by
        refine CT.mono ?_
        rintro e w' ⟨h1, ao, cap, h2, _⟩
        rw [← hn0] at h2
        exact ⟨h1, ao, cap, h2⟩
      clear CT
      by_cases hz : n0 = 0
      · have htr : trim L = [] := List.eq_nil_of_length_eq_zero (by omega)
        have HR : Hid (parseR s.data.toList = some []) := by
          show _ = _
          rw [HP.out, if_pos htr]
        subst hz
        clear hn0 htr
        go_wp2_with fail
        refine HT.out.mono ?_
        rintro e w2 ⟨rfl, ao2, cap2, rfl⟩
        go_wp2_with fail
        go_ret2
        refine ⟨HB1.out.trans (HB2.out.mono hsz1), ?_⟩
        rw [if_neg H1.out, HR.out]
        exact ⟨_, _, rfl, Nat.le_refl _, fun i hi => by simp at hi, fun l hl => by simp at hl⟩
      · have hz' : ((n0 : Int) == 0) = false := by rw [beq_eq_false_iff_ne]; omega
        have htr : ¬ trim L = [] := fun h => hz (by rw [hn0, h]; rfl)
        have HNO : Hid (∀ w', Below w1.heap.size w1 w' → GR [] [] L = none → ParseE s w (.returned (.tuple #[.slice none 0 0, .int .i64 4])) w') := by
          intro w' hb hg
          refine ⟨HB1.out.trans (hb.mono hsz1), ?_⟩
          rw [if_neg H1.out, HP.out, if_neg htr, hg]
        have HYES : Hid (∀ n, GR [] [] L = some n → parseR s.data.toList = if nameOK n = true then some n else none) := by
          intro n hg
          rw [HP.out, if_neg htr, hg]
        have HRR : Hid (RRel w1 ((w1.alloc (.cells #[] 33)).alloc (.cells #[] 36)) L 0 0 (.slice (some ⟨w1.heap.size, 0, none⟩) 0 0) (.slice (some ⟨(w1.alloc (.cells #[] 33)).heap.size, 0, none⟩) 0 0) [] [] []) :=
          ⟨nest_start (Nat.le_refl _) _ rfl (by simp), ((Below.refl w1.heap.size w1).alloc (Nat.le_refl _) _).alloc (by simp) _, Nat.zero_le _, ⟨fun l hl => by simp at hl, fun x hx => by simp at hx⟩, fun _ => ⟨seg_new (Nat.zero_le _), rfl⟩, fun h => by omega⟩
        have esz : (w1.alloc (.cells #[] 33)).heap.size = w1.heap.size + 1 := by simp
        rw [esz] at HRR
        have hLpos : 0 < L.length := by
          rcases Nat.eq_zero_or_pos L.length with h | h
          · exact absurd (by rw [List.eq_nil_of_length_eq_zero h]; rfl) htr
          · exact h
        obtain ⟨b, o, hao⟩ : ∃ b o, ao = some ⟨b, o, none⟩ := by
          obtain ⟨b, o, h, _, _⟩ := HSg.out 0 hLpos
          exact ⟨b, o, h⟩
        subst hao
        clear hz htr hn0 HP esz hLpos
        go_wp2_with fail
        refine HT.out.mono ?_
        rintro e w2 ⟨rfl, ao2, cap2, rfl⟩
        go_wp2_with fail
        go_loopw [6, 7, 8, 9, 10, 11] (fun nv lv fv iv _ _ wr => ∃ (i j0 : Nat) (ns : List (List Av)) (cur : List Av) (vals : List Value), i ≤ m + 1 ∧ j0 ≤ m + 1 ∧ iv = .int .i64 (i : Int) ∧ fv = .int .i64 (j0 : Int) ∧ Hid (RRel w1 wr L i j0 nv lv ns cur vals)) (fun _ _ _ iv _ _ _ => m + 1 - (intOf iv).toNat)
        case atStart => exact ⟨0, 0, [], [], [], by omega, by omega, rfl, rfl, HRR⟩
        case round =>
          clear HRR HT
          obtain ⟨i, j0, ns, cur, vals, hi, hj0, rfl, rfl, hR⟩ := hrel
          obtain ⟨⟨aoN, mN, capN, rfl, hmN, hcN⟩, ⟨aoL, mL, capL, rfl, hmL, hcL⟩⟩ := nest_letters hR.out.nest
          by_cases hle : i ≤ m
          · have hle' : (i : Int) ≤ (m : Int) := by omega
            have HBW := Lib.hid hR.out.below
            have hszr := HBW.out.size
            obtain ⟨hseg, hgat⟩ := hR.out.going (by rw [← HM.out]; exact hle)
            have HSEG := Lib.hid hseg
            have HGAT := Lib.hid hgat
            have HLEN := Lib.hid hR.out.len
            have hj0i : j0 ≤ i := hseg.1
            have hcl : cur.length ≤ 1000000 := by have := HLEN.out; omega
            have hnl : ns.length ≤ 1000000 := by have := HLEN.out; omega
            have HSW := Lib.hid (sgs_below HSg.out HBW.out)
            clear hseg hgat
            -- what Pair answers
            have CP : Hid (∀ ao' cap', Sgs wr ao' (segL L j0 i) → i - j0 ≤ cap' → Calls Tryd.prog 25 #[.slice ao' (i - j0) cap'] wr fun e w' => PairE (segL L j0 i) wr e w') := by
              intro ao' cap' h1 h2
              have := pair_any ao' cap' (segL L j0 i) wr (Lib.hid h1) (by rw [segL_len HSEG.out]; exact h2) (by rw [segL_len HSEG.out]; omega)
              rw [segL_len HSEG.out] at this
              exact this
            have hCUT : Hid (Sgs wr (cutA (some ⟨b, o, none⟩) cap j0) (segL L j0 i)) := sgs_take (sgs_cut HSW.out (by rw [← HM.out]; exact hmc)) _
            have hj0i' : (j0 : Int) ≤ (i : Int) := by omega
            have hic : (i : Int) ≤ (cap : Int) := by omega
            by_cases hlt : i < m
            · have hlt' : (i : Int) < (m : Int) := by omega
              have hil : i < L.length := by rw [← HM.out]; exact hlt
              obtain ⟨b', o', e', c0, c1⟩ := HSW.out i hil
              cases e'
              have CW : Hid (w1.cell? ⟨b, o + i * 2, none⟩ = some (.int .u8 ((L[i].1).toNat : Int))) := by
                obtain ⟨b2, o2, e2, h2, _⟩ := HSg.out i hil
                cases e2
                exact h2
              by_cases hsep : sepS L[i] = true
              · obtain ⟨ex, esep⟩ := sep_eq hsep
                have hx2 : L[i].2 = true := by rw [ex]
                rw [hx2] at c1
                have hne : (i : Int) ≠ (m : Int) := by omega
                have q0 : ((i : Int) == (m : Int)) = false := by rw [beq_eq_false_iff_ne]; exact hne
                have HBADP : Hid (pairS (segL L j0 i) = none → GR [] [] L = none) := fun h => gat_none HGAT.out HSEG.out (fun _ => hsep) h
                have HPLUS : Hid (∀ p, (L[i].1.toNat : Int) = 43 → pairS (segL L j0 i) = some p → GAt L ns (cur ++ [av p]) (i + 1)) := fun p h hp => gat_plus HGAT.out HSEG.out hil (by rw [ex]; exact congrArg (·, true) (u8_eq (n := 43) (by omega) h)) hp
                have HNEXT : Hid (∀ p, ¬ (L[i].1.toNat : Int) = 43 → pairS (segL L j0 i) = some p → GAt L (ns ++ [cur ++ [av p]]) [] (i + 1)) := fun p h hp => gat_next HGAT.out HSEG.out hil hsep (u8_ne (n := 43) (by omega) h) hp
                have hsp := (u8_sep L[i].1).1 esep
                have CW0 := CW.out
                generalize L[i].1 = c at c0 HPLUS HNEXT hsp CW0
                clear hx2 ex esep hsep hne
                obtain ⟨n0, en0⟩ : ∃ n : Nat, c.toNat = n := ⟨_, rfl⟩
                rw [en0] at c0 HPLUS HNEXT hsp CW0
                have CW0 := Lib.hid CW0
                clear CW
                have hsp3 : (((n0 : Int) == 44) = true ∧ ¬ (n0 : Int) = 43) ∨ (((n0 : Int) == 44) = false ∧ ((n0 : Int) == 59) = true ∧ ¬ (n0 : Int) = 43) ∨ (((n0 : Int) == 44) = false ∧ ((n0 : Int) == 59) = false ∧ ((n0 : Int) == 43) = true ∧ (n0 : Int) = 43) := by
                  rw [beq_iff_eq, beq_iff_eq, beq_iff_eq, beq_eq_false_iff_ne, beq_eq_false_iff_ne]
                  rcases hsp with h | h | h
                  · exact Or.inl ⟨h, by omega⟩
                  · exact Or.inr (Or.inl ⟨by omega, h, by omega⟩)
                  · exact Or.inr (Or.inr ⟨by omega, by omega, h, h⟩)
                clear hsp en0
                cases hp : pairS (segL L j0 i) with
                | none =>
                  have HN := Lib.hid (HBADP.out hp)
                  have CP2 : Hid (∀ ao' cap', Sgs wr ao' (segL L j0 i) → i - j0 ≤ cap' → Calls Tryd.prog 25 #[.slice ao' (i - j0) cap'] wr fun e w' => Below wr.heap.size wr w' ∧ ∃ t v : ByteArray, e = .returned (.tuple #[.agg #[.string t, .string v], .bool false])) := by
                    intro ao' cap' h1 h2
                    refine (CP.out ao' cap' h1 h2).mono fun e w' h => ?_
                    unfold PairE at h
                    rw [hp] at h
                    exact h
                  clear CP HBADP HPLUS HNEXT hp
                  rcases hsp3 with ⟨q1, _⟩ | ⟨q1, q2, _⟩ | ⟨q1, q2, q3, _⟩
                  all_goals
                    go_wp2_with fail
                    all_goals (try (exfalso; omega))
                    all_goals
                      refine (CP2.out _ _ (by have h := hCUT.out; rw [cutA_some, if_neg (by omega)] at h; exact h) (by omega)).mono ?_
                      rintro e w2 ⟨hB2, t, v, rfl⟩
                      go_wp2_with fail
                      go_ret2
                      exact HNO.out _ ((HBW.out.trans (hB2.mono hszr)).alloc (Nat.le_trans hszr hB2.size) _) HN.out
                | some p =>
                  have CP2 : Hid (∀ ao' cap', Sgs wr ao' (segL L j0 i) → i - j0 ≤ cap' → Calls Tryd.prog 25 #[.slice ao' (i - j0) cap'] wr fun e w' => Below wr.heap.size wr w' ∧ e = .returned (.tuple #[.agg #[.string ⟨p.1.toArray⟩, .string ⟨p.2.toArray⟩], .bool true])) := by
                    intro ao' cap' h1 h2
                    refine (CP.out ao' cap' h1 h2).mono fun e w' h => ?_
                    unfold PairE at h
                    rw [hp] at h
                    exact h
                  have hps := pairS_small hp
                  rw [segL_len HSEG.out] at hps
                  have HSMP : Hid ((av p).t.size ≤ 100000 ∧ (av p).v.size ≤ 1000000) := av_small hps.1 (by omega)
                  have h1j : j0 + 1 ≤ i := by omega
                  have HSMC : Hid (Smalls (cur ++ [av p])) := by
                    intro x hx
                    rcases List.mem_append.1 hx with hx | hx
                    · exact hR.out.small.2 x hx
                    · simp only [List.mem_singleton] at hx
                      rw [hx]; exact HSMP.out
                  have HSMN : Hid (∀ l ∈ ns ++ [cur ++ [av p]], Smalls l) := by
                    intro l hl
                    rcases List.mem_append.1 hl with hl | hl
                    · exact hR.out.small.1 l hl
                    · simp only [List.mem_singleton] at hl
                      rw [hl]; exact HSMC.out
                  have HCW : Hid (w1.cell? ⟨b, o + i * 2, none⟩ = some (.int .u8 (n0 : Int))) := CW0.out
                  rcases hsp3 with ⟨q1, h43⟩ | ⟨q1, q2, h43⟩ | ⟨q1, q2, q3, h43⟩
                  · have HG := Lib.hid (HNEXT.out p h43 hp)
                    have q43 : ((n0 : Int) == 43) = false := by rw [beq_eq_false_iff_ne]; exact h43
                    have q43b : ((n0 : Int) != 43) = true := by rw [bne_iff_ne]; exact h43
                    clear CP HBADP HPLUS HNEXT hp hps h43
                    go_wp2_with fail
                    all_goals (try (exfalso; omega))
                    all_goals
                      refine (CP2.out _ _ (by have h := hCUT.out; rw [cutA_some, if_neg (by omega)] at h; exact h) (by omega)).mono ?_
                      rintro e w2 ⟨hB2, rfl⟩
                      have HB2' := Lib.hid (HBW.out.trans (hB2.mono hszr))
                      have hsz2 := HB2'.out.size
                      have hN3 := nest_below (nest_below hR.out.nest hB2) (w' := w2.alloc (.cells #[.string ⟨p.1.toArray⟩, .string ⟨p.2.toArray⟩] 36)) ((Below.refl _ _).alloc (Nat.le_refl _) _)
                      have HB3 : Hid (Below w1.heap.size w1 (w2.alloc (.cells #[.string ⟨p.1.toArray⟩, .string ⟨p.2.toArray⟩] 36))) := HB2'.out.alloc hsz2 _
                      obtain ⟨vl', w4, hap, hN4, hB4⟩ := nest_app (av p) hN3 hcl HB3.out.size
                      obtain ⟨_, ⟨aoL4, mL4, capL4, rfl, hmL4, hcL4⟩⟩ := nest_letters hN4
                      have hap' : (Builtin.append_ #[33, 33] 33 #[_, .slice (some ⟨(w2.alloc (.cells #[.string ⟨p.1.toArray⟩, .string ⟨p.2.toArray⟩] 36)).heap.size, 0, none⟩) 1 1]).run Tryd.prog ((w2.alloc (.cells #[.string ⟨p.1.toArray⟩, .string ⟨p.2.toArray⟩] 36)).alloc (.cells #[.string ⟨p.1.toArray⟩, .string ⟨p.2.toArray⟩] 36)) = .ok (.slice aoL4 mL4 capL4) w4 := hap
                      have HN4 := Lib.hid hN4
                      have HB4 := Lib.hid (HB3.out.trans hB4)
                      clear hN3 hN4 hB4 hap hB2
                      simp only [World.size_alloc] at hap'
                      have d0 := (HB4.out.cell (World.block_lt_of_cell? w1 _ HCW.out)).trans HCW.out
                      obtain ⟨vn', w5, hap2, hN5, hB5⟩ := nest_push HN4.out (by rw [HN4.out.len]; exact hnl) HB4.out.size
                      obtain ⟨⟨aoN5, mN5, capN5, rfl, hmN5, hcN5⟩, _⟩ := nest_letters hN5
                      have HN6 := Lib.hid (nest_fresh hN5 (HB4.out.trans hB5).size)
                      have HB6 := Lib.hid ((HB4.out.trans hB5).alloc (HB4.out.trans hB5).size (.cells #[] 36))
                      clear hN5 hB5
                      go_wp2_with (first | (at_builtin; refine Lib.wpList_append_run _ rfl _ _ _ _ rfl _ _ rfl rfl _ _ hap2 ?_) | (at_builtin; refine Lib.wpList_append_run _ rfl _ _ _ _ rfl _ _ rfl rfl _ _ hap' ?_))
                      go_roundw
                      case rel => exact ⟨i + 1, i + 1, _, [], _, by omega, by omega, by go_num, by go_num, ⟨HN6.out, HB6.out, by have := HLEN.out; simp; omega, ⟨HSMN.out, fun x hx => by simp at hx⟩, fun _ => ⟨seg_new (by omega), HG.out⟩, fun h => by omega⟩⟩
                      case measure => simp [intOf] <;> omega
                  · have HG := Lib.hid (HNEXT.out p h43 hp)
                    have q43 : ((n0 : Int) == 43) = false := by rw [beq_eq_false_iff_ne]; exact h43
                    have q43b : ((n0 : Int) != 43) = true := by rw [bne_iff_ne]; exact h43
                    clear CP HBADP HPLUS HNEXT hp hps h43
                    go_wp2_with fail
                    all_goals (try (exfalso; omega))
                    all_goals
                      refine (CP2.out _ _ (by have h := hCUT.out; rw [cutA_some, if_neg (by omega)] at h; exact h) (by omega)).mono ?_
                      rintro e w2 ⟨hB2, rfl⟩
                      have HB2' := Lib.hid (HBW.out.trans (hB2.mono hszr))
                      have hsz2 := HB2'.out.size
                      have hN3 := nest_below (nest_below hR.out.nest hB2) (w' := w2.alloc (.cells #[.string ⟨p.1.toArray⟩, .string ⟨p.2.toArray⟩] 36)) ((Below.refl _ _).alloc (Nat.le_refl _) _)
                      have HB3 : Hid (Below w1.heap.size w1 (w2.alloc (.cells #[.string ⟨p.1.toArray⟩, .string ⟨p.2.toArray⟩] 36))) := HB2'.out.alloc hsz2 _
                      obtain ⟨vl', w4, hap, hN4, hB4⟩ := nest_app (av p) hN3 hcl HB3.out.size
                      obtain ⟨_, ⟨aoL4, mL4, capL4, rfl, hmL4, hcL4⟩⟩ := nest_letters hN4
                      have hap' : (Builtin.append_ #[33, 33] 33 #[_, .slice (some ⟨(w2.alloc (.cells #[.string ⟨p.1.toArray⟩, .string ⟨p.2.toArray⟩] 36)).heap.size, 0, none⟩) 1 1]).run Tryd.prog ((w2.alloc (.cells #[.string ⟨p.1.toArray⟩, .string ⟨p.2.toArray⟩] 36)).alloc (.cells #[.string ⟨p.1.toArray⟩, .string ⟨p.2.toArray⟩] 36)) = .ok (.slice aoL4 mL4 capL4) w4 := hap
                      have HN4 := Lib.hid hN4
                      have HB4 := Lib.hid (HB3.out.trans hB4)
                      clear hN3 hN4 hB4 hap hB2
                      simp only [World.size_alloc] at hap'
                      have d0 := (HB4.out.cell (World.block_lt_of_cell? w1 _ HCW.out)).trans HCW.out
                      obtain ⟨vn', w5, hap2, hN5, hB5⟩ := nest_push HN4.out (by rw [HN4.out.len]; exact hnl) HB4.out.size
                      obtain ⟨⟨aoN5, mN5, capN5, rfl, hmN5, hcN5⟩, _⟩ := nest_letters hN5
                      have HN6 := Lib.hid (nest_fresh hN5 (HB4.out.trans hB5).size)
                      have HB6 := Lib.hid ((HB4.out.trans hB5).alloc (HB4.out.trans hB5).size (.cells #[] 36))
                      clear hN5 hB5
                      go_wp2_with (first | (at_builtin; refine Lib.wpList_append_run _ rfl _ _ _ _ rfl _ _ rfl rfl _ _ hap2 ?_) | (at_builtin; refine Lib.wpList_append_run _ rfl _ _ _ _ rfl _ _ rfl rfl _ _ hap' ?_))
                      go_roundw
                      case rel => exact ⟨i + 1, i + 1, _, [], _, by omega, by omega, by go_num, by go_num, ⟨HN6.out, HB6.out, by have := HLEN.out; simp; omega, ⟨HSMN.out, fun x hx => by simp at hx⟩, fun _ => ⟨seg_new (by omega), HG.out⟩, fun h => by omega⟩⟩
                      case measure => simp [intOf] <;> omega
                  · have HG := Lib.hid (HPLUS.out p h43 hp)
                    have q43b : ((n0 : Int) != 43) = false := by rw [bne_eq_false_iff_eq]; exact h43
                    clear CP HBADP HPLUS HNEXT hp hps h43
                    go_wp2_with fail
                    all_goals (try (exfalso; omega))
                    all_goals
                      refine (CP2.out _ _ (by have h := hCUT.out; rw [cutA_some, if_neg (by omega)] at h; exact h) (by omega)).mono ?_
                      rintro e w2 ⟨hB2, rfl⟩
                      have HB2' := Lib.hid (HBW.out.trans (hB2.mono hszr))
                      have hsz2 := HB2'.out.size
                      have hN3 := nest_below (nest_below hR.out.nest hB2) (w' := w2.alloc (.cells #[.string ⟨p.1.toArray⟩, .string ⟨p.2.toArray⟩] 36)) ((Below.refl _ _).alloc (Nat.le_refl _) _)
                      have HB3 : Hid (Below w1.heap.size w1 (w2.alloc (.cells #[.string ⟨p.1.toArray⟩, .string ⟨p.2.toArray⟩] 36))) := HB2'.out.alloc hsz2 _
                      obtain ⟨vl', w4, hap, hN4, hB4⟩ := nest_app (av p) hN3 hcl HB3.out.size
                      obtain ⟨_, ⟨aoL4, mL4, capL4, rfl, hmL4, hcL4⟩⟩ := nest_letters hN4
                      have hap' : (Builtin.append_ #[33, 33] 33 #[_, .slice (some ⟨(w2.alloc (.cells #[.string ⟨p.1.toArray⟩, .string ⟨p.2.toArray⟩] 36)).heap.size, 0, none⟩) 1 1]).run Tryd.prog ((w2.alloc (.cells #[.string ⟨p.1.toArray⟩, .string ⟨p.2.toArray⟩] 36)).alloc (.cells #[.string ⟨p.1.toArray⟩, .string ⟨p.2.toArray⟩] 36)) = .ok (.slice aoL4 mL4 capL4) w4 := hap
                      have HN4 := Lib.hid hN4
                      have HB4 := Lib.hid (HB3.out.trans hB4)
                      clear hN3 hN4 hB4 hap hB2
                      simp only [World.size_alloc] at hap'
                      have d0 := (HB4.out.cell (World.block_lt_of_cell? w1 _ HCW.out)).trans HCW.out
                      go_wp2_with (at_builtin; refine Lib.wpList_append_run _ rfl _ _ _ _ rfl _ _ rfl rfl _ _ hap' ?_)
                      go_roundw
                      case rel => exact ⟨i + 1, i + 1, ns, _, vals, by omega, by omega, by go_num, by go_num, ⟨HN4.out, HB4.out, by have := HLEN.out; simp; omega, ⟨hR.out.small.1, HSMC.out⟩, fun _ => ⟨seg_new (by omega), HG.out⟩, fun h => by omega⟩⟩
                      case measure => simp [intOf] <;> omega

              · have hsep' : sepS L[i] = false := by simpa using hsep
                have HRN : Hid (RRel w1 wr L (i + 1) j0 (.slice aoN mN capN) (.slice aoL mL capL) ns cur vals) := ⟨hR.out.nest, HBW.out, HLEN.out, hR.out.small, fun _ => ⟨seg_next HSEG.out hil hsep', HGAT.out⟩, fun h => by omega⟩
                have hfact : (L[i].2 = false) ∨ (L[i].2 = true ∧ ((L[i].1.toNat : Int) == 44) = false ∧ ((L[i].1.toNat : Int) == 59) = false ∧ ((L[i].1.toNat : Int) == 43) = false) := by
                  cases hb : L[i].2 with
                  | false => exact Or.inl rfl
                  | true =>
                    refine Or.inr ⟨rfl, ?_⟩
                    have hs : isSep L[i].1 = false := by
                      unfold sepS at hsep'
                      rw [hb] at hsep'
                      simpa using hsep'
                    have h3 : ¬ ((L[i].1.toNat : Int) = 44 ∨ (L[i].1.toNat : Int) = 59 ∨ (L[i].1.toNat : Int) = 43) := fun h => by rw [(u8_sep _).2 h] at hs; cases hs
                    rw [beq_eq_false_iff_ne, beq_eq_false_iff_ne, beq_eq_false_iff_ne]
                    exact ⟨fun h => h3 (Or.inl h), fun h => h3 (Or.inr (Or.inl h)), fun h => h3 (Or.inr (Or.inr h))⟩
                generalize L[i] = x at c0 c1 hfact hsep'
                obtain ⟨c, bare⟩ := x
                simp only at c0 c1 hfact
                clear CP hCUT hsep hsep' CW
                rcases hfact with rfl | ⟨rfl, q1, q2, q3⟩
                all_goals
                  go_wp2_with fail
                  go_roundw
                  case rel => exact ⟨i + 1, j0, ns, cur, vals, by omega, by omega, by go_num, rfl, HRN⟩
                  case measure => simp [intOf] <;> omega
            · obtain rfl : i = m := by omega
              have hnlt : ¬ (i : Int) < (i : Int) := by omega
              have HSE : Hid (Seg L j0 L.length) := by
                show Seg _ _ _
                rw [← HM.out]; exact HSEG.out
              have q0 : ((i : Int) == (i : Int)) = true := by rw [beq_iff_eq]
              have HLI : Hid (L.length = i) := HM.out.symm
              cases hp : pairS (segL L j0 i) with
              | none =>
                have HN : Hid (GR [] [] L = none) := gat_none HGAT.out HSEG.out (fun h => absurd h (by rw [HLI.out]; omega)) hp
                have CP2 : Hid (∀ ao' cap', Sgs wr ao' (segL L j0 i) → i - j0 ≤ cap' → Calls Tryd.prog 25 #[.slice ao' (i - j0) cap'] wr fun e w' => Below wr.heap.size wr w' ∧ ∃ t v : ByteArray, e = .returned (.tuple #[.agg #[.string t, .string v], .bool false])) := by
                  intro ao' cap' h1 h2
                  refine (CP.out ao' cap' h1 h2).mono fun e w' h => ?_
                  unfold PairE at h
                  rw [hp] at h
                  exact h
                clear CP hp
                go_wp2_with fail
                all_goals
                  refine (CP2.out _ _ (by have h := hCUT.out; rw [cutA_some] at h; first | (rw [if_pos (by omega)] at h; exact h) | (rw [if_neg (by omega)] at h; exact h)) (by omega)).mono ?_
                  rintro e w2 ⟨hB2, t, v, rfl⟩
                  go_wp2_with fail
                  go_ret2
                  exact HNO.out _ ((HBW.out.trans (hB2.mono hszr)).alloc (Nat.le_trans hszr hB2.size) _) HN.out
              | some p =>
                have CP2 : Hid (∀ ao' cap', Sgs wr ao' (segL L j0 i) → i - j0 ≤ cap' → Calls Tryd.prog 25 #[.slice ao' (i - j0) cap'] wr fun e w' => Below wr.heap.size wr w' ∧ e = .returned (.tuple #[.agg #[.string ⟨p.1.toArray⟩, .string ⟨p.2.toArray⟩], .bool true])) := by
                  intro ao' cap' h1 h2
                  refine (CP.out ao' cap' h1 h2).mono fun e w' h => ?_
                  unfold PairE at h
                  rw [hp] at h
                  exact h
                have hps := pairS_small hp
                rw [segL_len HSEG.out] at hps
                have HSMP : Hid ((av p).t.size ≤ 100000 ∧ (av p).v.size ≤ 1000000) := av_small hps.1 (by omega)
                have h1j : j0 + 1 ≤ i := by omega
                have HSMC : Hid (Smalls (cur ++ [av p])) := by
                  intro x hx
                  rcases List.mem_append.1 hx with hx | hx
                  · exact hR.out.small.2 x hx
                  · simp only [List.mem_singleton] at hx
                    rw [hx]; exact HSMP.out
                have HSMN : Hid (∀ l ∈ ns ++ [cur ++ [av p]], Smalls l) := by
                  intro l hl
                  rcases List.mem_append.1 hl with hl | hl
                  · exact hR.out.small.1 l hl
                  · simp only [List.mem_singleton] at hl
                    rw [hl]; exact HSMC.out
                have HG : Hid (GR [] [] L = some (ns ++ [cur ++ [av p]])) := gat_end HGAT.out HSE.out (by rw [HLI.out]; exact hp)
                clear CP hp hps
                go_wp2_with fail
                all_goals
                  refine (CP2.out _ _ (by have h := hCUT.out; rw [cutA_some] at h; first | (rw [if_pos (by omega)] at h; exact h) | (rw [if_neg (by omega)] at h; exact h)) (by omega)).mono ?_
                  rintro e w2 ⟨hB2, rfl⟩
                  have HB2' := Lib.hid (HBW.out.trans (hB2.mono hszr))
                  have hsz2 := HB2'.out.size
                  have hN3 := nest_below (nest_below hR.out.nest hB2) (w' := w2.alloc (.cells #[.string ⟨p.1.toArray⟩, .string ⟨p.2.toArray⟩] 36)) ((Below.refl _ _).alloc (Nat.le_refl _) _)
                  have HB3 : Hid (Below w1.heap.size w1 (w2.alloc (.cells #[.string ⟨p.1.toArray⟩, .string ⟨p.2.toArray⟩] 36))) := HB2'.out.alloc hsz2 _
                  obtain ⟨vl', w4, hap, hN4, hB4⟩ := nest_app (av p) hN3 hcl HB3.out.size
                  obtain ⟨_, ⟨aoL4, mL4, capL4, rfl, hmL4, hcL4⟩⟩ := nest_letters hN4
                  have hap' : (Builtin.append_ #[33, 33] 33 #[_, .slice (some ⟨(w2.alloc (.cells #[.string ⟨p.1.toArray⟩, .string ⟨p.2.toArray⟩] 36)).heap.size, 0, none⟩) 1 1]).run Tryd.prog ((w2.alloc (.cells #[.string ⟨p.1.toArray⟩, .string ⟨p.2.toArray⟩] 36)).alloc (.cells #[.string ⟨p.1.toArray⟩, .string ⟨p.2.toArray⟩] 36)) = .ok (.slice aoL4 mL4 capL4) w4 := hap
                  have HN4 := Lib.hid hN4
                  have HB4 := Lib.hid (HB3.out.trans hB4)
                  clear hN3 hN4 hB4 hap hB2
                  simp only [World.size_alloc] at hap'
                  obtain ⟨vn', w5, hap2, hN5, hB5⟩ := nest_push HN4.out (by rw [HN4.out.len]; exact hnl) HB4.out.size
                  obtain ⟨⟨aoN5, mN5, capN5, rfl, hmN5, hcN5⟩, _⟩ := nest_letters hN5
                  have HN6 := Lib.hid (nest_fresh hN5 (HB4.out.trans hB5).size)
                  have HB6 := Lib.hid ((HB4.out.trans hB5).alloc (HB4.out.trans hB5).size (.cells #[] 36))
                  clear hN5 hB5
                  go_wp2_with (first | (at_builtin; refine Lib.wpList_append_run _ rfl _ _ _ _ rfl _ _ rfl rfl _ _ hap2 ?_) | (at_builtin; refine Lib.wpList_append_run _ rfl _ _ _ _ rfl _ _ rfl rfl _ _ hap' ?_))
                  go_roundw
                  case rel => exact ⟨i + 1, i + 1, _, [], _, by omega, by omega, by go_num, by go_num, ⟨HN6.out, HB6.out, by have := HLEN.out; simp; omega, ⟨HSMN.out, fun x hx => by simp at hx⟩, fun h => absurd h (by rw [HLI.out]; omega), fun _ => HG.out⟩⟩
                  case measure => simp [intOf] <;> omega
          · have hle' : ¬ (i : Int) ≤ (m : Int) := by omega
            have hG := hR.out.done (by rw [← HM.out]; omega)
            have hn5 := hR.out.nest
            rw [hmN.out] at hn5 hcN
            have HRD := Lib.hid (nest_rdns hn5)
            have hnl : ns.length ≤ 1000 := by have := hR.out.len; omega
            have CR := rright_any aoN capN ns wr HRD hnl (Lib.hid (fun l hl _ => hR.out.small.1 l hl))
            have hy := HYES.out _ hG
            rw [← hmN.out] at CR
            have HCN := Lib.hid hcN
            have HSM := Lib.hid hR.out.small.1
            have HBW := Lib.hid hR.out.below
            clear hG hn5 hcN
            cases hok : nameOK ns with
            | false =>
              rw [hok] at CR hy
              have HCR := Lib.hid CR
              have HY := Lib.hid hy
              clear CR hy hok
              go_wp2_with fail
              refine HCR.out.mono ?_
              rintro e w6 ⟨rfl, hB6⟩
              go_wp2_with fail
              go_ret2
              refine ⟨HB1.out.trans ((HBW.out.trans (hB6.mono HBW.out.size)).mono hsz1), ?_⟩
              rw [if_neg H1.out, HY.out]
              rfl
            | true =>
              rw [hok] at CR hy
              have HCR := Lib.hid CR
              have HY := Lib.hid hy
              clear CR hy hok
              go_wp2_with fail
              refine HCR.out.mono ?_
              rintro e w6 ⟨rfl, hB6⟩
              go_wp2_with fail
              go_ret2
              refine ⟨HB1.out.trans ((HBW.out.trans (hB6.mono HBW.out.size)).mono hsz1), ?_⟩
              rw [if_neg H1.out, HY.out]
              exact ⟨aoN, capN, by rw [← hmN.out]; rfl, HCN.out, rdns_below HRD.out hB6, HSM.out⟩
end dnw
end Go.Proofs.YtjjbmhndakmkbaaDoor
