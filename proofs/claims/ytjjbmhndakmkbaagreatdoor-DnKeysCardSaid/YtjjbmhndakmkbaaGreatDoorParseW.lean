/- The walk of the program's Parse: the name of a text. -/
import Derived.Test.YtjjbmhndakmkbaaGreatDoorParseP
namespace Go.Proofs.YtjjbmhndakmkbaaGreatDoor
open Go.RowKit
namespace dnw
open dnp
set_option linter.unusedVariables false
set_option linter.unusedSimpArgs false
/-- what Parse leaves -/
def ParseE (s : ByteArray) (w : World) (e : Ending) (w' : World) : Prop :=
  Below w.heap.size w w' ∧ if 1000 < s.size then e = .returned (.tuple #[.slice none 0 0, .int .i64 5]) else match parseR s.data.toList with
    | none => e = .returned (.tuple #[.slice none 0 0, .int .i64 4])
    | some n => ∃ ao cap, e = .returned (.tuple #[.slice ao n.length cap, .int .i64 0]) ∧ n.length ≤ cap ∧ Rdns w' ao n ∧ ∀ l ∈ n, Smalls l
/-- what the loop carries -/
structure PRel (w wr : World) (s : ByteArray) (j0 j : Nat) (vn vl : Value) (ns : List (List Av)) (cur : List Av) (vals : List Value) : Prop where
  nest : Nest wr (w.heap.size + 1) vn vl ns cur vals
  sc : Sc wr w.heap.size s j
  below : Below w.heap.size w wr
  gp : GP [] [] (s.data.toList.drop j0) = GP ns cur (s.data.toList.drop j)
  len : ns.length + cur.length ≤ j
  small : (∀ l ∈ ns, Smalls l) ∧ Smalls cur
theorem below_gr {w wr w2 : World} (h : Below w.heap.size w wr) (hg : wr.grownBy w2 (some w.heap.size)) : Below w.heap.size w w2 :=
  ⟨hg.os.trans h.os, hg.tape.trans h.tape, hg.output.trans h.output, Nat.le_trans h.size hg.size, fun k hk => (hg.block k (Nat.lt_of_lt_of_le hk h.size) (by intro e; cases e; omega)).trans (h.block k hk)⟩
theorem prel_gr {w wr w2 : World} {s : ByteArray} {j0 j : Nat} {vn vl : Value} {ns : List (List Av)} {cur : List Av} {vals : List Value} (h : PRel w wr s j0 j vn vl ns cur vals) (hg : wr.grownBy w2 (some w.heap.size)) : Nest w2 (w.heap.size + 1) vn vl ns cur vals ∧ Below w.heap.size w w2 :=
  ⟨nest_gr h.nest (by omega) hg, below_gr h.below hg⟩
theorem tabs_gr {w wr w2 : World} (hT : Tabs w) (hb : Below w.heap.size w wr) (hg : wr.grownBy w2 (some w.heap.size)) : Tabs w2 := tabs_below hT (below_gr hb hg)
/-- the rows' values, their lengths behind letters -/
theorem nest_letters {w : World} {B : Nat} {vn vl : Value} {ns : List (List Av)} {cur : List Av} {vals : List Value} (h : Nest w B vn vl ns cur vals) : (∃ (ao : Option Addr) (m cap : Nat), vn = .slice ao m cap ∧ Hid (m = ns.length) ∧ m ≤ cap) ∧ (∃ (ao : Option Addr) (m cap : Nat), vl = .slice ao m cap ∧ Hid (m = cur.length) ∧ m ≤ cap) := by
  obtain ⟨⟨a, c, h1, h2⟩, ⟨a', c', h3, h4⟩⟩ := nest_form h
  exact ⟨⟨a, _, c, h1, rfl, h2⟩, ⟨a', _, c', h3, rfl, h4⟩⟩
/-- the scanner steps past a sign -/
theorem prel_move {w w4 : World} {s : ByteArray} {j0 j2 : Nat} {vn vl : Value} {ns : List (List Av)} {cur : List Av} {vals : List Value} (hN : Nest w4 (w.heap.size + 1) vn vl ns cur vals) (hS : Sc w4 w.heap.size s j2) (hB : Below w.heap.size w w4)
    (hg : GP [] [] (s.data.toList.drop j0) = GP ns cur (s.data.toList.drop (j2 + 1))) (hl : ns.length + cur.length ≤ j2 + 1) (hs : (∀ l ∈ ns, Smalls l) ∧ Smalls cur) :
    PRel w (w4.setCell ⟨w.heap.size, 1, none⟩ (.int .i64 ((j2 : Int) + 1))) s j0 (j2 + 1) vn vl ns cur vals := by
  have hgr : w4.grownBy (w4.setCell ⟨w.heap.size, 1, none⟩ (.int .i64 ((j2 : Int) + 1))) (some w.heap.size) := gr_set0 (gr_refl _ _) _
  exact ⟨nest_gr hN (by omega) hgr, sc_inc0 hS, below_gr hB hgr, hg, hl, hs⟩
set_option maxRecDepth 100000 in
set_option maxHeartbeats 4000000 in
theorem parse_any (s : ByteArray) (w : World) (hs : s.size ≤ 140737488351232) (hE : Hid (prw.Env w)) (hT : Hid (Tabs w)) :
    Calls Tryz.prog 16 #[.string s] w fun e w' => ParseE s w e w' := by
  by_cases h1000 : 1000 < s.size
  · have h' : 1000 < (s.size : Int) := by omega
    have H1 := Lib.hid h1000
    go_enter Tryz.func16, Tryz.ntmps16
    go_wp2_with fail
    go_ret2
    refine ⟨Below.refl _ _, ?_⟩
    rw [if_pos H1.out]
    rfl
  · have h' : ¬ 1000 < (s.size : Int) := by omega
    have H1 := Lib.hid h1000
    have hs1 : s.size ≤ 1000 := by omega
    have HW1 : Hid (Sc (w.alloc (.cells #[.string s, .int .i64 0] 48)) w.heap.size s 0) := heap_alloc_new w _
    have CB := Lib.hid (blanks_any w.heap.size s 0 _ HW1 (Nat.zero_le _) (by omega))
    have HB1 : Hid (Below w.heap.size w (w.alloc (.cells #[.string s, .int .i64 0] 48))) := (Below.refl _ _).alloc (Nat.le_refl _) _
    go_enter Tryz.func16, Tryz.ntmps16
    go_wp2_with fail
    refine CB.out.mono ?_
    rintro e w1 ⟨rfl, j0, _, hj0, hD0, hS1, hG1⟩
    have HD0 := Lib.hid hD0
    have HS1 := Lib.hid hS1
    have HBw := Lib.hid (below_gr HB1.out hG1)
    obtain ⟨c0, c1, f1, hb1⟩ := sc_cells hS1
    clear hD0 hS1 hG1 CB HB1 HW1
    by_cases hend : j0 = s.size
    · subst hend
      go_wp2_with fail
      go_ret2
      refine ⟨HBw.out, ?_⟩
      rw [if_neg H1.out]
      have e0 : parseR s.data.toList = some [] := by
        unfold parseR
        rw [if_pos]
        have := HD0.out
        rw [drop_end] at this
        exact this.symm
      rw [e0]
      exact ⟨none, 0, rfl, Nat.le_refl _, fun i hi => by simp at hi, fun l hl => by simp at hl⟩
    · have hne : ((j0 : Int) == (s.size : Int)) = false := by rw [beq_eq_false_iff_ne]; omega
      have hj0l : j0 < s.size := by omega
      have HNO : Hid (∀ w', Below w.heap.size w w' → GP [] [] (s.data.toList.drop j0) = none → ParseE s w (.returned (.tuple #[.slice none 0 0, .int .i64 4])) w') := by
        intro w' hb hg
        refine ⟨hb, ?_⟩
        rw [if_neg H1.out]
        have e0 : parseR s.data.toList = none := by
          unfold parseR
          have := HD0.out
          rw [List.drop_zero] at this
          rw [← this, if_neg (prw.drop_ne hj0l), hg]
        rw [e0]
      have HYES : Hid (∀ n, GP [] [] (s.data.toList.drop j0) = some n → parseR s.data.toList = if nameOK n = true then some n else none) := by
        intro n hg
        unfold parseR
        have := HD0.out
        rw [List.drop_zero] at this
        rw [← this, if_neg (prw.drop_ne hj0l), hg]
      clear hend
      have HR0 : Hid (PRel w w1 s j0 j0 (.slice none 0 0) (.slice none 0 0) [] [] []) := ⟨nest_nil _ _, HS1.out, HBw.out, rfl, Nat.zero_le _, fun l hl => by simp at hl, fun x hx => by simp at hx⟩
      go_wp2_with fail
      clear c0 c1 f1 hb1
      go_loopw [5, 6, 7, 8, 9, 10] (fun nv lv _ _ _ _ wr => ∃ (j : Nat) (ns : List (List Av)) (cur : List Av) (vals : List Value), j0 ≤ j ∧ j ≤ s.size ∧ Hid (PRel w wr s j0 j nv lv ns cur vals)) (fun _ _ _ _ _ _ wr => s.size + 1 - posOf wr w.heap.size)
      case atStart => exact ⟨j0, [], [], [], Nat.le_refl _, hj0, HR0⟩
      case round =>
        obtain ⟨j, ns, cur, vals, hj0j, hj, hR⟩ := hrel
        obtain ⟨⟨aoN, mN, capN, rfl, hmN, hcN⟩, ⟨aoL, mL, capL, rfl, hmL, hcL⟩⟩ := nest_letters hR.out.nest
        have HPOS := Lib.hid (posOf_sc hR.out.sc)
        have CK := kind_any w.heap.size s j wr (Lib.hid hR.out.sc) hj (by omega) (Lib.hid (tabs_below hT.out hR.out.below)) (Lib.hid (fun w' hg => tabs_gr hT.out hR.out.below hg))
        cases hk : kindP (s.data.toList.drop j) with
        | none =>
          have HC : Hid (Calls Tryz.prog 27 #[.pointer (some ⟨w.heap.size, 0, none⟩)] wr fun e w' => wr.grownBy w' (some w.heap.size) ∧ ∃ j', e = .returned (.tuple #[.string ⟨#[]⟩, .bool false]) ∧ Sc w' w.heap.size s j') := by
            refine CK.mono fun e w' h => ?_
            unfold KindE at h
            rw [hk] at h
            exact h
          have HG : Hid (GP [] [] (s.data.toList.drop j0) = none) := hR.out.gp.trans (GP_kind hk)
          clear CK hk
          go_wp2_with fail
          refine HC.out.mono ?_
          rintro e w2 ⟨hg2, j', rfl, _⟩
          go_wp2_with fail
          go_ret2
          exact HNO.out _ (below_gr hR.out.below hg2) HG.out
        | some kr =>
          obtain ⟨t, r⟩ := kr
          have HC : Hid (Calls Tryz.prog 27 #[.pointer (some ⟨w.heap.size, 0, none⟩)] wr fun e w' => wr.grownBy w' (some w.heap.size) ∧ ∃ j', e = .returned (.tuple #[.string ⟨t.toArray⟩, .bool true]) ∧ j < j' ∧ j' ≤ s.size ∧ s.data.toList.drop j' = r ∧ Sc w' w.heap.size s j') := by
            refine CK.mono fun e w' h => ?_
            unfold KindE at h
            rw [hk] at h
            exact h
          have HK := Lib.hid hk
          clear CK hk
          go_wp2_with fail
          refine HC.out.mono ?_
          rintro e w2 ⟨hg2, j1, rfl, hjj1, hj1, hdr, hS2⟩
          have HDR := Lib.hid hdr
          have HG2 := Lib.hid hg2
          have CV := value_any w.heap.size s j1 w2 (Lib.hid hS2) hj1 (by omega)
          clear hdr hg2 hS2 HC
          cases hv : valueP (s.data.toList.drop j1) with
          | none =>
            have HC : Hid (Calls Tryz.prog 28 #[.pointer (some ⟨w.heap.size, 0, none⟩)] w2 fun e w' => w2.grownBy w' (some w.heap.size) ∧ ∃ j', e = .returned (.tuple #[.string ⟨#[]⟩, .bool false]) ∧ Sc w' w.heap.size s j') := by
              refine CV.mono fun e w' h => ?_
              unfold ValE at h
              rw [hv] at h
              exact h
            rw [HDR.out] at hv
            have HG : Hid (GP [] [] (s.data.toList.drop j0) = none) := hR.out.gp.trans (GP_value HK.out hv)
            clear CV hv
            go_wp2_with fail
            refine HC.out.mono ?_
            rintro e w3 ⟨hg3, j', rfl, _⟩
            go_wp2_with fail
            go_ret2
            exact HNO.out _ (below_gr hR.out.below (gr_trans HG2.out hg3)) HG.out
          | some vr =>
            obtain ⟨v, u⟩ := vr
            have HC : Hid (Calls Tryz.prog 28 #[.pointer (some ⟨w.heap.size, 0, none⟩)] w2 fun e w' => w2.grownBy w' (some w.heap.size) ∧ ∃ j', e = .returned (.tuple #[.string ⟨v.toArray⟩, .bool true]) ∧ j1 ≤ j' ∧ j' ≤ s.size ∧ s.data.toList.drop j' = u ∧ Sc w' w.heap.size s j') := by
              refine CV.mono fun e w' h => ?_
              unfold ValE at h
              rw [hv] at h
              exact h
            rw [HDR.out] at hv
            have HV := Lib.hid hv
            clear CV hv
            go_wp2_with fail
            refine HC.out.mono ?_
            rintro e w3 ⟨hg3, j2, rfl, hj12, hj2, hdu, hS3⟩
            have HG3 := Lib.hid (gr_trans HG2.out hg3)
            obtain ⟨hn3, hB3⟩ := prel_gr hR.out HG3.out
            have hcl : cur.length ≤ 1000 := by have := hR.out.len; omega
            have hnl : ns.length ≤ 1000 := by have := hR.out.len; omega
            obtain ⟨vl', w4, hap, hN4, hB4⟩ := nest_app (av (t, v)) hn3 (by omega) (by have := kt.bld_lt hS3; omega)
            have hS4 : Sc w4 w.heap.size s j2 := (hB4.block _ (by omega)).trans hS3
            have hB4' : Below w.heap.size w w4 := hB3.trans (hB4.mono (by omega))
            have hsm : Smalls (cur ++ [av (t, v)]) := by
              intro x hx
              rcases List.mem_append.1 hx with hx | hx
              · exact hR.out.small.2 x hx
              · simp only [List.mem_singleton] at hx
                subst hx
                refine av_small (kind_len HK.out) ?_
                have := value_len HV.out
                have h2 := congrArg List.length HDR.out
                rw [List.length_drop, kt.size_len] at h2
                omega
            obtain ⟨_, ⟨aoL4, mL4, capL4, rfl, hmL4, hcL4⟩⟩ := nest_letters hN4
            have HN4 := Lib.hid hN4
            have HS4 := Lib.hid hS4
            have HB4 := Lib.hid hB4'
            have HSM := Lib.hid hsm
            have HDU := Lib.hid hdu
            obtain ⟨d0, d1, g1, hb4⟩ := sc_cells hS4
            have hap' : (Builtin.append_ #[35, 35] 35 #[_, .slice (some ⟨w3.heap.size, 0, none⟩) 1 1]).run Tryz.prog (w3.alloc (.cells #[.string ⟨t.toArray⟩, .string ⟨v.toArray⟩] 40)) = .ok (.slice aoL4 mL4 capL4) w4 := hap
            clear hn3 hB3 hN4 hS4 hB4 hB4' hsm hdu hg3 hS3 HC hap
            obtain ⟨vn', w5, hap2, hN5, hB5⟩ := nest_push HN4.out (by rw [HN4.out.len]; omega) (by have := kt.bld_lt HS4.out; omega)
            have HN5 := Lib.hid hN5
            have HB5 := Lib.hid (HB4.out.trans (hB5.mono (by omega)))
            have HS5 : Hid (Sc w5 w.heap.size s j2) := (hB5.block _ (by omega)).trans HS4.out
            have HSM5 : Hid (∀ l ∈ ns ++ [cur ++ [av (t, v)]], Smalls l) := by
              intro l hl
              rcases List.mem_append.1 hl with hl | hl
              · exact hR.out.small.1 l hl
              · simp only [List.mem_singleton] at hl
                subst hl
                exact HSM.out
            have HLEN : Hid (ns.length + cur.length ≤ j) := hR.out.len
            clear hN5 hB5
            by_cases hend : j2 = s.size
            · have hq : ((j2 : Int) == (s.size : Int)) = true := by rw [beq_iff_eq]; omega
              have HG : Hid (GP [] [] (s.data.toList.drop j0) = some (ns ++ [cur ++ [av (t, v)]])) := by
                have hu : u = [] := by rw [← HDU.out, hend, drop_end]
                have hv := HV.out
                rw [hu] at hv
                exact hR.out.gp.trans (GP_end HK.out hv)
              obtain ⟨⟨ao5, m5, cap5, hvn, hm5, hcap5⟩, _⟩ := nest_letters HN5.out
              subst hvn
              have hn5 := HN5.out
              rw [hm5.out] at hn5 hcap5
              have HRD := Lib.hid (nest_rdns hn5)
              have CR := right_any ao5 cap5 (ns ++ [cur ++ [av (t, v)]]) w5 HRD (Lib.hid (prw.env_below hE.out HB5.out)) (Lib.hid (fun l hl _ => HSM5.out l hl))
              have hy := HYES.out _ HG.out
              have HCAP := Lib.hid hcap5
              rw [← hm5.out] at CR
              generalize hnn : ns ++ [cur ++ [av (t, v)]] = nn at HRD CR hy HCAP HSM5 hm5
              clear hend hcap5 HG HV HN5 hnn hn5
              cases hok : nameOK nn with
              | false =>
                rw [hok] at CR hy
                have HCR := Lib.hid CR
                have HY := Lib.hid hy
                clear CR hy hok
                go_wp2_with (first | (at_builtin; refine Lib.wpList_append_run _ rfl _ _ _ _ rfl _ _ rfl rfl _ _ hap' ?_) | (at_builtin; refine Lib.wpList_append_run _ rfl _ _ _ _ rfl _ _ rfl rfl _ _ hap2 ?_))
                refine HCR.out.mono ?_
                rintro e w6 ⟨rfl, hB6⟩
                go_wp2_with fail
                go_ret2
                refine ⟨HB5.out.trans (hB6.mono HB5.out.size), ?_⟩
                rw [if_neg H1.out, HY.out]
                rfl
              | true =>
                rw [hok] at CR hy
                have HCR := Lib.hid CR
                have HY := Lib.hid hy
                clear CR hy hok
                go_wp2_with (first | (at_builtin; refine Lib.wpList_append_run _ rfl _ _ _ _ rfl _ _ rfl rfl _ _ hap' ?_) | (at_builtin; refine Lib.wpList_append_run _ rfl _ _ _ _ rfl _ _ rfl rfl _ _ hap2 ?_))
                refine HCR.out.mono ?_
                rintro e w6 ⟨rfl, hB6⟩
                go_wp2_with fail
                go_ret2
                refine ⟨HB5.out.trans (hB6.mono HB5.out.size), ?_⟩
                rw [if_neg H1.out, HY.out]
                exact ⟨ao5, cap5, by rw [← hm5.out]; rfl, HCAP.out, rdns_below HRD.out hB6, HSM5.out⟩
            · have hlt : j2 < s.size := by omega
              have hlt' : (j2 : Int) < (s.size : Int) := by omega
              have hq : ((j2 : Int) == (s.size : Int)) = false := by rw [beq_eq_false_iff_ne]; omega
              have hu : u = s[j2] :: s.data.toList.drop (j2 + 1) := by rw [← HDU.out, drop_cons s j2 hlt]
              have hv := HV.out
              rw [hu] at hv
              by_cases h43 : ((s[j2]'hlt).toNat : Int) = 43
              · have q43a : (((s[j2]'hlt).toNat : Int) == 43) = true := by rw [beq_iff_eq]; exact h43
                have q43b : (((s[j2]'hlt).toNat : Int) != 43) = false := by rw [bne_eq_false_iff_eq]; exact h43
                have h43' : s[j2] = 43 := u8_eq (n := 43) (by omega) h43
                rw [h43'] at hv
                have hg := hR.out.gp.trans (GP_plus HK.out hv)
                have HPR := Lib.hid (prel_move HN4.out HS4.out HB4.out hg (by have := HLEN.out; simp; omega) ⟨hR.out.small.1, HSM.out⟩)
                have HPOS2 := Lib.hid (posOf_sc HPR.out.sc)
                clear hend hu hv h43 h43' hg hap2 HV HN5 HB5 HS5 HSM5
                go_wp2_with (first | (at_builtin; refine Lib.wpList_append_run _ rfl _ _ _ _ rfl _ _ rfl rfl _ _ hap' ?_))
                go_roundw
                case rel => exact ⟨j2 + 1, ns, _, vals, by omega, by omega, HPR⟩
                case measure => rw [HPOS.out, HPOS2.out]; omega
              · have q43a : (((s[j2]'hlt).toNat : Int) == 43) = false := by rw [beq_eq_false_iff_ne]; exact h43
                have q43b : (((s[j2]'hlt).toNat : Int) != 43) = true := by rw [bne_iff_ne]; exact h43
                have hg := hR.out.gp.trans (GP_next HK.out hv (u8_ne (n := 43) (by omega) h43))
                have HPR := Lib.hid (prel_move HN5.out HS5.out HB5.out hg (by have := HLEN.out; simp; omega) ⟨HSM5.out, fun x hx => by simp at hx⟩)
                have HPOS2 := Lib.hid (posOf_sc HPR.out.sc)
                obtain ⟨e0, e1, k1, hb5⟩ := sc_cells HS5.out
                obtain ⟨⟨ao5, m5, cap5, hvn, hm5, hcap5⟩, _⟩ := nest_letters HN5.out
                subst hvn
                clear hend hu hv h43 hg HV
                go_wp2_with (first | (at_builtin; refine Lib.wpList_append_run _ rfl _ _ _ _ rfl _ _ rfl rfl _ _ hap' ?_) | (at_builtin; refine Lib.wpList_append_run _ rfl _ _ _ _ rfl _ _ rfl rfl _ _ hap2 ?_))
                go_roundw
                case rel => exact ⟨j2 + 1, _, [], _, by omega, by omega, HPR⟩
                case measure => rw [HPOS.out, HPOS2.out]; omega
end dnw
end Go.Proofs.YtjjbmhndakmkbaaGreatDoor
