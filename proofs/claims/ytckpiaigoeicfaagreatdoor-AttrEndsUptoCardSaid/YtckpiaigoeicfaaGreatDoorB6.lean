/- One text out of several: ParseW, RefP, PrintP, PrintQ, RRdnW, RParseP, SpecW, CutW, TrimW, BRowW. -/
import Derived.Test.YtckpiaigoeicfaaGreatDoorB5
import Derived.ChangeKeysEq
/-! ParseW -/
namespace Go.Proofs.YtckpiaigoeicfaaGreatDoor
open Go.RowKit
namespace dnw
open dnp
set_option linter.unusedVariables false
set_option linter.unusedSimpArgs false
/-- what Parse leaves -/
def ParseE (s : ByteArray) (w : World) (e : Ending) (w' : World) : Prop :=
  Below w.heap.size w w' ∧ if 1000 < s.size then e = .returned (.tuple #[.slice none 0 0, .int .i64 5]) else match parseR s.data.toList with
    | none => e = .returned (.tuple #[.slice none 0 0, .int .i64 4])
    | some n => ∃ ao cap, e = .returned (.tuple #[.slice ao n.length cap, .int .i64 0]) ∧ n.length ≤ cap ∧ Rdns w' ao n ∧ ∀ l ∈ n, Smalls l
/-- what the loop carries -/
structure PRel (w wr : World) (s : ByteArray) (j0 j : Nat) (vn vl : Value) (ns : List (List Av)) (cur : List Av) (vals : List Value) : Prop where
  nest : Nest wr (w.heap.size + 1) vn vl ns cur vals
  sc : Sc wr w.heap.size s j
  below : Below w.heap.size w wr
  gp : GP [] [] (s.data.toList.drop j0) = GP ns cur (s.data.toList.drop j)
  len : ns.length + cur.length ≤ j
  small : (∀ l ∈ ns, Smalls l) ∧ Smalls cur
theorem below_gr {w wr w2 : World} (h : Below w.heap.size w wr) (hg : wr.grownBy w2 (some w.heap.size)) : Below w.heap.size w w2 :=
  ⟨hg.os.trans h.os, hg.tape.trans h.tape, hg.output.trans h.output, Nat.le_trans h.size hg.size, fun k hk => (hg.block k (Nat.lt_of_lt_of_le hk h.size) (by intro e; cases e; omega)).trans (h.block k hk)⟩
theorem prel_gr {w wr w2 : World} {s : ByteArray} {j0 j : Nat} {vn vl : Value} {ns : List (List Av)} {cur : List Av} {vals : List Value} (h : PRel w wr s j0 j vn vl ns cur vals) (hg : wr.grownBy w2 (some w.heap.size)) : Nest w2 (w.heap.size + 1) vn vl ns cur vals ∧ Below w.heap.size w w2 :=
  ⟨nest_gr h.nest (by omega) hg, below_gr h.below hg⟩
theorem tabs_gr {w wr w2 : World} (hT : Tabs w) (hb : Below w.heap.size w wr) (hg : wr.grownBy w2 (some w.heap.size)) : Tabs w2 := tabs_below hT (below_gr hb hg)
/-- the rows' values, their lengths behind letters -/
theorem nest_letters {w : World} {B : Nat} {vn vl : Value} {ns : List (List Av)} {cur : List Av} {vals : List Value} (h : Nest w B vn vl ns cur vals) : (∃ (ao : Option Addr) (m cap : Nat), vn = .slice ao m cap ∧ Hid (m = ns.length) ∧ m ≤ cap) ∧ (∃ (ao : Option Addr) (m cap : Nat), vl = .slice ao m cap ∧ Hid (m = cur.length) ∧ m ≤ cap) := by
  obtain ⟨⟨a, c, h1, h2⟩, ⟨a', c', h3, h4⟩⟩ := nest_form h
  exact ⟨⟨a, _, c, h1, rfl, h2⟩, ⟨a', _, c', h3, rfl, h4⟩⟩
/-- the scanner steps past a sign -/
theorem prel_move {w w4 : World} {s : ByteArray} {j0 j2 : Nat} {vn vl : Value} {ns : List (List Av)} {cur : List Av} {vals : List Value} (hN : Nest w4 (w.heap.size + 1) vn vl ns cur vals) (hS : Sc w4 w.heap.size s j2) (hB : Below w.heap.size w w4)
    (hg : GP [] [] (s.data.toList.drop j0) = GP ns cur (s.data.toList.drop (j2 + 1))) (hl : ns.length + cur.length ≤ j2 + 1) (hs : (∀ l ∈ ns, Smalls l) ∧ Smalls cur) :
    PRel w (w4.setCell ⟨w.heap.size, 1, none⟩ (.int .i64 ((j2 : Int) + 1))) s j0 (j2 + 1) vn vl ns cur vals := by
  have hgr : w4.grownBy (w4.setCell ⟨w.heap.size, 1, none⟩ (.int .i64 ((j2 : Int) + 1))) (some w.heap.size) := gr_set0 (gr_refl _ _) _
  exact ⟨nest_gr hN (by omega) hgr, sc_inc0 hS, below_gr hB hgr, hg, hl, hs⟩
set_option maxRecDepth 100000 in
set_option maxHeartbeats 4000000 in
theorem parse_any (s : ByteArray) (w : World) (hs : s.size ≤ 140737488351232) (hE : Hid (prw.Env w)) (hT : Hid (Tabs w)) :
    Calls Tryz.prog 69 #[.string s] w fun e w' => ParseE s w e w' := by
  by_cases h1000 : 1000 < s.size
  · have h' : 1000 < (s.size : Int) := by omega
    have H1 := Lib.hid h1000
    go_enter Tryz.func69, Tryz.ntmps69
    go_wp2_with fail
    go_ret2
    refine ⟨Below.refl _ _, ?_⟩
    rw [if_pos H1.out]
    rfl
  · have h' : ¬ 1000 < (s.size : Int) := by omega
    have H1 := Lib.hid h1000
    have hs1 : s.size ≤ 1000 := by omega
    have HW1 : Hid (Sc (w.alloc (.cells #[.string s, .int .i64 0] 120)) w.heap.size s 0) := heap_alloc_new w _
    have CB := Lib.hid (blanks_any w.heap.size s 0 _ HW1 (Nat.zero_le _) (by omega))
    have HB1 : Hid (Below w.heap.size w (w.alloc (.cells #[.string s, .int .i64 0] 120))) := (Below.refl _ _).alloc (Nat.le_refl _) _
    go_enter Tryz.func69, Tryz.ntmps69
    go_wp2_with fail
    refine CB.out.mono ?_
    rintro e w1 ⟨rfl, j0, _, hj0, hD0, hS1, hG1⟩
    have HD0 := Lib.hid hD0
    have HS1 := Lib.hid hS1
    have HBw := Lib.hid (below_gr HB1.out hG1)
    obtain ⟨c0, c1, f1, hb1⟩ := sc_cells hS1
    clear hD0 hS1 hG1 CB HB1 HW1
    by_cases hend : j0 = s.size
    · subst hend
      go_wp2_with fail
      go_ret2
      refine ⟨HBw.out, ?_⟩
      rw [if_neg H1.out]
      have e0 : parseR s.data.toList = some [] := by
        unfold parseR
        rw [if_pos]
        have := HD0.out
        rw [drop_end] at this
        exact this.symm
      rw [e0]
      exact ⟨none, 0, rfl, Nat.le_refl _, fun i hi => by simp at hi, fun l hl => by simp at hl⟩
    · have hne : ((j0 : Int) == (s.size : Int)) = false := by rw [beq_eq_false_iff_ne]; omega
      have hj0l : j0 < s.size := by omega
      have HNO : Hid (∀ w', Below w.heap.size w w' → GP [] [] (s.data.toList.drop j0) = none → ParseE s w (.returned (.tuple #[.slice none 0 0, .int .i64 4])) w') := by
        intro w' hb hg
        refine ⟨hb, ?_⟩
        rw [if_neg H1.out]
        have e0 : parseR s.data.toList = none := by
          unfold parseR
          have := HD0.out
          rw [List.drop_zero] at this
          rw [← this, if_neg (prw.drop_ne hj0l), hg]
        rw [e0]
      have HYES : Hid (∀ n, GP [] [] (s.data.toList.drop j0) = some n → parseR s.data.toList = if nameOK n = true then some n else none) := by
        intro n hg
        unfold parseR
        have := HD0.out
        rw [List.drop_zero] at this
        rw [← this, if_neg (prw.drop_ne hj0l), hg]
      clear hend
      have HR0 : Hid (PRel w w1 s j0 j0 (.slice none 0 0) (.slice none 0 0) [] [] []) := ⟨nest_nil _ _, HS1.out, HBw.out, rfl, Nat.zero_le _, fun l hl => by simp at hl, fun x hx => by simp at hx⟩
      go_wp2_with fail
      clear c0 c1 f1 hb1
      go_loopw [5, 6, 7, 8, 9, 10] (fun nv lv _ _ _ _ wr => ∃ (j : Nat) (ns : List (List Av)) (cur : List Av) (vals : List Value), j0 ≤ j ∧ j ≤ s.size ∧ Hid (PRel w wr s j0 j nv lv ns cur vals)) (fun _ _ _ _ _ _ wr => s.size + 1 - posOf wr w.heap.size)
      case atStart => exact ⟨j0, [], [], [], Nat.le_refl _, hj0, HR0⟩
      case round =>
        obtain ⟨j, ns, cur, vals, hj0j, hj, hR⟩ := hrel
        obtain ⟨⟨aoN, mN, capN, rfl, hmN, hcN⟩, ⟨aoL, mL, capL, rfl, hmL, hcL⟩⟩ := nest_letters hR.out.nest
        have HPOS := Lib.hid (posOf_sc hR.out.sc)
        have CK := kind_any w.heap.size s j wr (Lib.hid hR.out.sc) hj (by omega) (Lib.hid (tabs_below hT.out hR.out.below)) (Lib.hid (fun w' hg => tabs_gr hT.out hR.out.below hg))
        cases hk : kindP (s.data.toList.drop j) with
        | none =>
          have HC : Hid (Calls Tryz.prog 97 #[.pointer (some ⟨w.heap.size, 0, none⟩)] wr fun e w' => wr.grownBy w' (some w.heap.size) ∧ ∃ j', e = .returned (.tuple #[.string ⟨#[]⟩, .bool false]) ∧ Sc w' w.heap.size s j') := by
            refine CK.mono fun e w' h => ?_
            unfold KindE at h
            rw [hk] at h
            exact h
          have HG : Hid (GP [] [] (s.data.toList.drop j0) = none) := hR.out.gp.trans (GP_kind hk)
          clear CK hk
          go_wp2_with fail
          refine HC.out.mono ?_
          rintro e w2 ⟨hg2, j', rfl, _⟩
          go_wp2_with fail
          go_ret2
          exact HNO.out _ (below_gr hR.out.below hg2) HG.out
        | some kr =>
          obtain ⟨t, r⟩ := kr
          have HC : Hid (Calls Tryz.prog 97 #[.pointer (some ⟨w.heap.size, 0, none⟩)] wr fun e w' => wr.grownBy w' (some w.heap.size) ∧ ∃ j', e = .returned (.tuple #[.string ⟨t.toArray⟩, .bool true]) ∧ j < j' ∧ j' ≤ s.size ∧ s.data.toList.drop j' = r ∧ Sc w' w.heap.size s j') := by
            refine CK.mono fun e w' h => ?_
            unfold KindE at h
            rw [hk] at h
            exact h
          have HK := Lib.hid hk
          clear CK hk
          go_wp2_with fail
          refine HC.out.mono ?_
          rintro e w2 ⟨hg2, j1, rfl, hjj1, hj1, hdr, hS2⟩
          have HDR := Lib.hid hdr
          have HG2 := Lib.hid hg2
          have CV := value_any w.heap.size s j1 w2 (Lib.hid hS2) hj1 (by omega)
          clear hdr hg2 hS2 HC
          cases hv : valueP (s.data.toList.drop j1) with
          | none =>
            have HC : Hid (Calls Tryz.prog 98 #[.pointer (some ⟨w.heap.size, 0, none⟩)] w2 fun e w' => w2.grownBy w' (some w.heap.size) ∧ ∃ j', e = .returned (.tuple #[.string ⟨#[]⟩, .bool false]) ∧ Sc w' w.heap.size s j') := by
              refine CV.mono fun e w' h => ?_
              unfold ValE at h
              rw [hv] at h
              exact h
            rw [HDR.out] at hv
            have HG : Hid (GP [] [] (s.data.toList.drop j0) = none) := hR.out.gp.trans (GP_value HK.out hv)
            clear CV hv
            go_wp2_with fail
            refine HC.out.mono ?_
            rintro e w3 ⟨hg3, j', rfl, _⟩
            go_wp2_with fail
            go_ret2
            exact HNO.out _ (below_gr hR.out.below (gr_trans HG2.out hg3)) HG.out
          | some vr =>
            obtain ⟨v, u⟩ := vr
            have HC : Hid (Calls Tryz.prog 98 #[.pointer (some ⟨w.heap.size, 0, none⟩)] w2 fun e w' => w2.grownBy w' (some w.heap.size) ∧ ∃ j', e = .returned (.tuple #[.string ⟨v.toArray⟩, .bool true]) ∧ j1 ≤ j' ∧ j' ≤ s.size ∧ s.data.toList.drop j' = u ∧ Sc w' w.heap.size s j') := by
              refine CV.mono fun e w' h => ?_
              unfold ValE at h
              rw [hv] at h
              exact h
            rw [HDR.out] at hv
            have HV := Lib.hid hv
            clear CV hv
            go_wp2_with fail
            refine HC.out.mono ?_
            rintro e w3 ⟨hg3, j2, rfl, hj12, hj2, hdu, hS3⟩
            have HG3 := Lib.hid (gr_trans HG2.out hg3)
            obtain ⟨hn3, hB3⟩ := prel_gr hR.out HG3.out
            have hcl : cur.length ≤ 1000 := by have := hR.out.len; omega
            have hnl : ns.length ≤ 1000 := by have := hR.out.len; omega
            obtain ⟨vl', w4, hap, hN4, hB4⟩ := nest_app (av (t, v)) hn3 (by omega) (by have := kt.bld_lt hS3; omega)
            have hS4 : Sc w4 w.heap.size s j2 := (hB4.block _ (by omega)).trans hS3
            have hB4' : Below w.heap.size w w4 := hB3.trans (hB4.mono (by omega))
            have hsm : Smalls (cur ++ [av (t, v)]) := by
              intro x hx
              rcases List.mem_append.1 hx with hx | hx
              · exact hR.out.small.2 x hx
              · simp only [List.mem_singleton] at hx
                subst hx
                refine av_small (kind_len HK.out) ?_
                have := value_len HV.out
                have h2 := congrArg List.length HDR.out
                rw [List.length_drop, kt.size_len] at h2
                omega
            obtain ⟨_, ⟨aoL4, mL4, capL4, rfl, hmL4, hcL4⟩⟩ := nest_letters hN4
            have HN4 := Lib.hid hN4
            have HS4 := Lib.hid hS4
            have HB4 := Lib.hid hB4'
            have HSM := Lib.hid hsm
            have HDU := Lib.hid hdu
            obtain ⟨d0, d1, g1, hb4⟩ := sc_cells hS4
            have hap' : (Builtin.append_ #[92, 92] 92 #[_, .slice (some ⟨w3.heap.size, 0, none⟩) 1 1]).run Tryz.prog (w3.alloc (.cells #[.string ⟨t.toArray⟩, .string ⟨v.toArray⟩] 96)) = .ok (.slice aoL4 mL4 capL4) w4 := hap
            clear hn3 hB3 hN4 hS4 hB4 hB4' hsm hdu hg3 hS3 HC hap
            obtain ⟨vn', w5, hap2, hN5, hB5⟩ := nest_push HN4.out (by rw [HN4.out.len]; omega) (by have := kt.bld_lt HS4.out; omega)
            have HN5 := Lib.hid hN5
            have HB5 := Lib.hid (HB4.out.trans (hB5.mono (by omega)))
            have HS5 : Hid (Sc w5 w.heap.size s j2) := (hB5.block _ (by omega)).trans HS4.out
            have HSM5 : Hid (∀ l ∈ ns ++ [cur ++ [av (t, v)]], Smalls l) := by
              intro l hl
              rcases List.mem_append.1 hl with hl | hl
              · exact hR.out.small.1 l hl
              · simp only [List.mem_singleton] at hl
                subst hl
                exact HSM.out
            have HLEN : Hid (ns.length + cur.length ≤ j) := hR.out.len
            clear hN5 hB5
            by_cases hend : j2 = s.size
            · have hq : ((j2 : Int) == (s.size : Int)) = true := by rw [beq_iff_eq]; omega
              have HG : Hid (GP [] [] (s.data.toList.drop j0) = some (ns ++ [cur ++ [av (t, v)]])) := by
                have hu : u = [] := by rw [← HDU.out, hend, drop_end]
                have hv := HV.out
                rw [hu] at hv
                exact hR.out.gp.trans (GP_end HK.out hv)
              obtain ⟨⟨ao5, m5, cap5, hvn, hm5, hcap5⟩, _⟩ := nest_letters HN5.out
              subst hvn
              have hn5 := HN5.out
              rw [hm5.out] at hn5 hcap5
              have HRD := Lib.hid (nest_rdns hn5)
              have CR := right_any ao5 cap5 (ns ++ [cur ++ [av (t, v)]]) w5 HRD (Lib.hid (prw.env_below hE.out HB5.out)) (Lib.hid (fun l hl _ => HSM5.out l hl))
              have hy := HYES.out _ HG.out
              have HCAP := Lib.hid hcap5
              rw [← hm5.out] at CR
              generalize hnn : ns ++ [cur ++ [av (t, v)]] = nn at HRD CR hy HCAP HSM5 hm5
              clear hend hcap5 HG HV HN5 hnn hn5
              cases hok : nameOK nn with
              | false =>
                rw [hok] at CR hy
                have HCR := Lib.hid CR
                have HY := Lib.hid hy
                clear CR hy hok
                go_wp2_with (first | (at_builtin; refine Lib.wpList_append_run _ rfl _ _ _ _ rfl _ _ rfl rfl _ _ hap' ?_) | (at_builtin; refine Lib.wpList_append_run _ rfl _ _ _ _ rfl _ _ rfl rfl _ _ hap2 ?_))
                refine HCR.out.mono ?_
                rintro e w6 ⟨rfl, hB6⟩
                go_wp2_with fail
                go_ret2
                refine ⟨HB5.out.trans (hB6.mono HB5.out.size), ?_⟩
                rw [if_neg H1.out, HY.out]
                rfl
              | true =>
                rw [hok] at CR hy
                have HCR := Lib.hid CR
                have HY := Lib.hid hy
                clear CR hy hok
                go_wp2_with (first | (at_builtin; refine Lib.wpList_append_run _ rfl _ _ _ _ rfl _ _ rfl rfl _ _ hap' ?_) | (at_builtin; refine Lib.wpList_append_run _ rfl _ _ _ _ rfl _ _ rfl rfl _ _ hap2 ?_))
                refine HCR.out.mono ?_
                rintro e w6 ⟨rfl, hB6⟩
                go_wp2_with fail
                go_ret2
                refine ⟨HB5.out.trans (hB6.mono HB5.out.size), ?_⟩
                rw [if_neg H1.out, HY.out]
                exact ⟨ao5, cap5, by rw [← hm5.out]; rfl, HCAP.out, rdns_below HRD.out hB6, HSM5.out⟩
            · have hlt : j2 < s.size := by omega
              have hlt' : (j2 : Int) < (s.size : Int) := by omega
              have hq : ((j2 : Int) == (s.size : Int)) = false := by rw [beq_eq_false_iff_ne]; omega
              have hu : u = s[j2] :: s.data.toList.drop (j2 + 1) := by rw [← HDU.out, drop_cons s j2 hlt]
              have hv := HV.out
              rw [hu] at hv
              by_cases h43 : ((s[j2]'hlt).toNat : Int) = 43
              · have q43a : (((s[j2]'hlt).toNat : Int) == 43) = true := by rw [beq_iff_eq]; exact h43
                have q43b : (((s[j2]'hlt).toNat : Int) != 43) = false := by rw [bne_eq_false_iff_eq]; exact h43
                have h43' : s[j2] = 43 := u8_eq (n := 43) (by omega) h43
                rw [h43'] at hv
                have hg := hR.out.gp.trans (GP_plus HK.out hv)
                have HPR := Lib.hid (prel_move HN4.out HS4.out HB4.out hg (by have := HLEN.out; simp; omega) ⟨hR.out.small.1, HSM.out⟩)
                have HPOS2 := Lib.hid (posOf_sc HPR.out.sc)
                clear hend hu hv h43 h43' hg hap2 HV HN5 HB5 HS5 HSM5
                go_wp2_with (first | (at_builtin; refine Lib.wpList_append_run _ rfl _ _ _ _ rfl _ _ rfl rfl _ _ hap' ?_))
                go_roundw
                case rel => exact ⟨j2 + 1, ns, _, vals, by omega, by omega, HPR⟩
                case measure => rw [HPOS.out, HPOS2.out]; omega
              · have q43a : (((s[j2]'hlt).toNat : Int) == 43) = false := by rw [beq_eq_false_iff_ne]; exact h43
                have q43b : (((s[j2]'hlt).toNat : Int) != 43) = true := by rw [bne_iff_ne]; exact h43
                have hg := hR.out.gp.trans (GP_next HK.out hv (u8_ne (n := 43) (by omega) h43))
                have HPR := Lib.hid (prel_move HN5.out HS5.out HB5.out hg (by have := HLEN.out; simp; omega) ⟨HSM5.out, fun x hx => by simp at hx⟩)
                have HPOS2 := Lib.hid (posOf_sc HPR.out.sc)
                obtain ⟨e0, e1, k1, hb5⟩ := sc_cells HS5.out
                obtain ⟨⟨ao5, m5, cap5, hvn, hm5, hcap5⟩, _⟩ := nest_letters HN5.out
                subst hvn
                clear hend hu hv h43 hg HV
                go_wp2_with (first | (at_builtin; refine Lib.wpList_append_run _ rfl _ _ _ _ rfl _ _ rfl rfl _ _ hap' ?_) | (at_builtin; refine Lib.wpList_append_run _ rfl _ _ _ _ rfl _ _ rfl rfl _ _ hap2 ?_))
                go_roundw
                case rel => exact ⟨j2 + 1, _, [], _, by omega, by omega, HPR⟩
                case measure => rw [HPOS.out, HPOS2.out]; omega
end dnw
end Go.Proofs.YtckpiaigoeicfaaGreatDoor
/-! RefP -/
namespace Go.Proofs.YtckpiaigoeicfaaGreatDoor
namespace dnw
open dnp
set_option linter.unusedVariables false
set_option linter.unusedSimpArgs false
/-- the name of signs, behind what is there already -/
def GR (ns : List (List Av)) (cur : List Av) (L : List Sg) : Option (List (List Av)) := (refL (segs L)).map fun q => ns ++ grpA (cur ++ [av q.1]) q.2
theorem GR_bad_end {ns : List (List Av)} {cur : List Av} {B : List Sg} (h : ∀ x ∈ B, sepS x = false) (hp : pairS B = none) : GR ns cur B = none := by
  unfold GR; rw [segs_none B h]; unfold refL; simp only []; rw [hp]; rfl
theorem GR_bad {ns : List (List Av)} {cur : List Av} {B L : List Sg} {c : UInt8} (h : ∀ x ∈ B, sepS x = false) (hc : isSep c = true) (hp : pairS B = none) : GR ns cur (B ++ (c, true) :: L) = none := by
  unfold GR; rw [segs_at B c L h hc]; unfold refL; simp only []; rw [hp]; rfl
theorem GR_end {ns : List (List Av)} {cur : List Av} {B : List Sg} {p : Pr} (h : ∀ x ∈ B, sepS x = false) (hp : pairS B = some p) : GR ns cur B = some (ns ++ [cur ++ [av p]]) := by
  unfold GR; rw [segs_none B h]; unfold refL; simp only []; rw [hp]; rfl
theorem GR_plus {ns : List (List Av)} {cur : List Av} {B L : List Sg} {p : Pr} (h : ∀ x ∈ B, sepS x = false) (hp : pairS B = some p) : GR ns cur (B ++ (43, true) :: L) = GR ns (cur ++ [av p]) L := by
  unfold GR
  rw [segs_at B 43 L h (by decide), refL_cons, hp]
  simp only [Option.bind_some, Option.map_map]
  congr 1
theorem GR_next {ns : List (List Av)} {cur : List Av} {B L : List Sg} {p : Pr} {c : UInt8} (h : ∀ x ∈ B, sepS x = false) (hs : isSep c = true) (hc : c ≠ 43) (hp : pairS B = some p) : GR ns cur (B ++ (c, true) :: L) = GR (ns ++ [cur ++ [av p]]) [] L := by
  unfold GR
  rw [segs_at B c L h hs, refL_cons, hp]
  simp only [Option.bind_some, Option.map_map]
  congr 1
  funext q
  simp only [Function.comp]
  rw [grpA, if_neg hc]
  first | done | simp
theorem dropW_idem (l : List UInt8) : (l.dropWhile (· = 32)).dropWhile (· = 32) = l.dropWhile (· = 32) := by
  rw [dropW_id]
  intro x t h
  exact dropW_head (fun c : UInt8 => decide (c = 32)) _ _ _ h
theorem kindP_drop (l : List UInt8) : kindP (l.dropWhile (· = 32)) = kindP l := by
  unfold kindP
  simp only [dropW_idem]
theorem P_drop (l : List UInt8) : P (l.dropWhile (· = 32)) = P l := by rw [P_step, P_step, kindP_drop]
theorem trim_blank {L : List Sg} (h : trim L = []) : ∀ x ∈ L, blankS x = true := by
  intro x hx
  cases hb : blankS x with
  | true => rfl
  | false => have := trim_keep L x hx hb; rw [h] at this; simp at this
theorem trim_of_blank {L : List Sg} (h : ∀ x ∈ L, blankS x = true) : trim L = [] := by
  cases hL : trim L with
  | nil => rfl
  | cons x t =>
    exfalso
    have h0 : L.dropWhile blankS = [] := by
      have := dropW_app blankS L [] h
      rw [List.append_nil] at this
      rw [this]; rfl
    unfold trim at hL
    rw [h0] at hL
    cases hL
/-- the reference's way to the same answer -/
theorem parseR_signs (l : List UInt8) : parseR l = match signs l with
    | none => none
    | some L => if trim L = [] then some [] else match GR [] [] L with
      | none => none
      | some n => if nameOK n = true then some n else none := by
  unfold parseR
  obtain ⟨a, ha, hab⟩ := dropW_split (fun c : UInt8 => decide (c = 32)) l
  have hab' : ∀ c ∈ a, c = 32 := fun c hc => by simpa using hab c hc
  by_cases h0 : l.dropWhile (· = 32) = []
  · rw [if_pos h0]
    rw [h0, List.append_nil] at ha
    have hs : signs l = some (l.map (·, true)) := by
      have := signs_app l [] (fun h => by rw [ha] at h; have := hab' 92 h; revert this; decide)
      rw [List.append_nil, signs_nil] at this
      simpa using this
    rw [hs]
    have : trim (l.map fun c => ((c, true) : Sg)) = [] := trim_of_blank (by
      intro x hx
      obtain ⟨c, hc, rfl⟩ := List.mem_map.1 hx
      rw [ha] at hc
      rw [hab' c hc]; decide)
    simp only [this, if_true]
  · rw [if_neg h0]
    have hg : GP [] [] (l.dropWhile (· = 32)) = (signs l).bind fun L => GR [] [] L := by
      unfold GP GR
      rw [P_drop, P_R]
      unfold R
      cases signs l with
      | none => rfl
      | some L => rfl
    rw [hg]
    cases hs : signs l with
    | none => rfl
    | some L =>
      have ht : ¬ trim L = [] := by
        intro ht
        apply h0
        have hb := trim_blank ht
        have hL : L = (L.map (·.1)).map (·, true) := by
          rw [List.map_map]
          conv => lhs; rw [← List.map_id L]
          apply List.map_congr_left
          intro x hx
          have := hb x hx
          obtain ⟨c, b⟩ := x
          unfold blankS at this
          simp only [Bool.and_eq_true] at this
          obtain ⟨rfl, _⟩ := this
          rfl
        rw [hL] at hs
        rw [← List.append_nil (List.map _ _)] at hs
        obtain ⟨r, h1, _, h3⟩ := signs_of_bares _ _ _ hs
        have hr : r = [] := by
          cases r with
          | nil => rfl
          | cons c r =>
            exfalso
            by_cases e : c = 92
            · subst e
              cases he : esc r with
              | none => rw [signs_bad r he] at h3; cases h3
              | some p => rw [signs_esc r p.1 p.2 he] at h3; obtain ⟨M, _, hM⟩ := Option.map_eq_some_iff.1 h3; cases hM
            · rw [signs_bare c r e] at h3; obtain ⟨M, _, hM⟩ := Option.map_eq_some_iff.1 h3; cases hM
        rw [h1, hr, List.append_nil]
        have := dropW_app (fun c : UInt8 => decide (c = 32)) (L.map (·.1)) [] (by
          intro c hc
          obtain ⟨x, hx, rfl⟩ := List.mem_map.1 hc
          have := hb x hx
          unfold blankS at this
          simp only [Bool.and_eq_true] at this
          exact this.2)
        rw [List.append_nil] at this
        rw [this]; rfl
      simp only [Option.bind_some]
      rw [if_neg ht]
      all_goals (cases GR [] [] L <;> rfl)
end dnw
end Go.Proofs.YtckpiaigoeicfaaGreatDoor
/-! PrintP -/
namespace Go.Proofs.YtckpiaigoeicfaaGreatDoor
namespace dnw
open dnp
set_option linter.unusedVariables false
set_option linter.unusedSimpArgs false
def hexed (c : UInt8) : Bool := decide (c < 32 ∨ c = 127)
def fenced (first last : Bool) (c : UInt8) : Bool := special c || (decide (c = 32) && (first || last)) || (decide (c = 35) && first)
/-- a byte of a value, as its text has it -/
def textB (first last : Bool) (c : UInt8) : List UInt8 := if hexed c = true then 92 :: b64p.hex [c] else if fenced first last c = true then [92, c] else [c]
def textF : Bool → List UInt8 → List UInt8
  | _, [] => []
  | f, c :: t => textB f t.isEmpty c ++ textF false t
def textL (v : List UInt8) : List UInt8 := textF true v
def sgB (first last : Bool) (c : UInt8) : Sg := (c, !(hexed c || fenced first last c))
def sgF : Bool → List UInt8 → List Sg
  | _, [] => []
  | f, c :: t => sgB f t.isEmpty c :: sgF false t
theorem textB_len (f l : Bool) (c : UInt8) : (textB f l c).length ≤ 3 := by
  unfold textB
  split
  · simp [b64p.hex]
  · split <;> simp
theorem textF_len : ∀ (f : Bool) (v : List UInt8), (textF f v).length ≤ 3 * v.length
  | _, [] => by simp [textF]
  | f, c :: t => by
    have := textB_len f t.isEmpty c
    have := textF_len false t
    simp only [textF, List.length_append, List.length_cons]
    omega
theorem esc_hexed (c : UInt8) (r : List UInt8) : esc (b64p.hex [c] ++ r) = some (c, 2) := by
  have all : ∀ m : Fin 256, (special (b64p.dg (m.val / 16)) || decide (b64p.dg (m.val / 16) = 35) || decide (b64p.dg (m.val / 16) = 32)) = false ∧ (0 ≤ b64p.valI (b64p.dg (m.val / 16)) ∧ 0 ≤ b64p.valI (b64p.dg (m.val % 16))) ∧ UInt8.ofNat (16 * b64p.valI (b64p.dg (m.val / 16)) + b64p.valI (b64p.dg (m.val % 16))).toNat = UInt8.ofNat m.val := by decide +kernel
  obtain ⟨h1, ⟨h2, h3⟩, h4⟩ := all ⟨c.toNat, c.toNat_lt⟩
  simp only [UInt8.ofNat_toNat] at h1 h2 h3 h4
  have hp : ¬ plainEsc (b64p.dg (c.toNat / 16)) := by
    rintro (h | h | h)
    · rw [h] at h1; cases h1
    · rw [h] at h1; revert h1; decide
    · rw [h] at h1; revert h1; decide
  have := esc_hex (t := r) hp (e := b64p.dg (c.toNat % 16)) (by omega)
  rw [h4] at this
  exact this
theorem fenced_plain {f l : Bool} {c : UInt8} (h : fenced f l c = true) : plainEsc c := by
  unfold fenced at h
  simp only [Bool.or_eq_true, Bool.and_eq_true, decide_eq_true_eq] at h
  rcases h with (h | h) | h
  · exact Or.inl h
  · exact Or.inr (Or.inr h.1)
  · exact Or.inr (Or.inl h.1)
theorem scan_textB (f l : Bool) (c : UInt8) (r : List UInt8) : scan (textB f l c ++ r) = (scan r).map fun p => (sgB f l c :: p.1, p.2) := by
  unfold textB sgB
  by_cases h1 : hexed c = true
  · rw [if_pos h1, h1, List.cons_append, scan_esc _ c 2 (esc_hexed c r)]
    rfl
  · rw [if_neg h1]
    have h1' : hexed c = false := by simpa using h1
    rw [h1']
    by_cases h2 : fenced f l c = true
    · rw [if_pos h2, h2]
      show scan (92 :: (c :: r)) = _
      rw [scan_esc _ c 1 (esc_plain (fenced_plain h2))]
      rfl
    · rw [if_neg h2]
      have h2' : fenced f l c = false := by simpa using h2
      rw [h2']
      have hs : special c = false := by
        unfold fenced at h2'
        simp only [Bool.or_eq_false_iff] at h2'
        exact h2'.1.1
      have h3 : isSep c = false ∧ bad c = false ∧ c ≠ 92 := by
        unfold special at hs
        simp only [decide_eq_false_iff_not, not_or] at hs
        refine ⟨?_, ?_, hs.2.2.2.2.2.2.2⟩
        · simp only [isSep, decide_eq_false_iff_not, not_or]; exact ⟨hs.2.2.1, hs.2.2.2.1, hs.2.1⟩
        · simp only [bad, decide_eq_false_iff_not, not_or]; exact ⟨hs.1, hs.2.2.2.2.1, hs.2.2.2.2.2.2.1⟩
      show scan (c :: r) = _
      rw [scan_bare c r h3.1 h3.2.1 h3.2.2]
      rfl
theorem scan_textF : ∀ (f : Bool) (v r : List UInt8), scan (textF f v ++ r) = (scan r).map fun p => (sgF f v ++ p.1, p.2)
  | _, [], r => by simp [textF, sgF]
  | f, c :: t, r => by
    rw [textF, List.append_assoc, scan_textB, scan_textF false t r, Option.map_map]
    rfl
theorem sgF_fst : ∀ (f : Bool) (v : List UInt8), (sgF f v).map (·.1) = v
  | _, [] => rfl
  | f, c :: t => by rw [sgF, List.map_cons, sgF_fst false t]; rfl
theorem sgF_last : ∀ (f : Bool) (c : UInt8) (t : List UInt8), ∃ A x, sgF f (c :: t) = A ++ [x] ∧ blankS x = false
  | f, c, [] => by
    refine ⟨[], sgB f true c, rfl, ?_⟩
    unfold blankS sgB fenced
    by_cases h : c = 32
    · subst h; simp
    · simp [h]
  | f, c, d :: t => by
    obtain ⟨A, x, h1, h2⟩ := sgF_last false d t
    refine ⟨sgB f false c :: A, x, ?_, h2⟩
    rw [sgF, h1]; rfl
theorem trimR_keepall (A u : List Sg) (x : Sg) (hx : blankS x = false) (hu : ∀ y ∈ u, blankS y = true) : trimR (A ++ [x] ++ u) = A ++ [x] := by
  unfold trimR
  rw [List.reverse_append, dropW_app _ u.reverse _ (fun y hy => hu y (List.mem_reverse.1 hy)), dropW_id, List.reverse_reverse]
  intro y t h
  rw [List.reverse_append] at h
  cases h
  exact hx
theorem trimR_all (u : List Sg) (hu : ∀ y ∈ u, blankS y = true) : trimR u = [] := by
  unfold trimR
  have := dropW_app blankS u.reverse [] (fun y hy => hu y (List.mem_reverse.1 hy))
  rw [List.append_nil] at this
  rw [this]; rfl
theorem scan_blanks : ∀ (u r : List UInt8), (∀ c ∈ u, c = 32) → scan (u ++ r) = (scan r).map fun p => (u.map (·, true) ++ p.1, p.2)
  | [], r, _ => by simp
  | c :: u, r, h => by
    have hc := h c (by simp)
    subst hc
    rw [List.cons_append, scan_bare 32 _ (by decide) (by decide) (by decide), scan_blanks u r (fun d hd => h d (by simp [hd])), Option.map_map]
    rfl
theorem textF_head (c : UInt8) (t : List UInt8) : ∃ d s, textF true (c :: t) = d :: s ∧ d ≠ 32 ∧ d ≠ 35 := by
  rw [textF]
  unfold textB
  by_cases h1 : hexed c = true
  · rw [if_pos h1]; exact ⟨92, _, rfl, by decide, by decide⟩
  · rw [if_neg h1]
    by_cases h2 : fenced true t.isEmpty c = true
    · rw [if_pos h2]; exact ⟨92, _, rfl, by decide, by decide⟩
    · rw [if_neg h2]
      refine ⟨c, _, rfl, ?_, ?_⟩
      · rintro rfl; apply h2; simp [fenced]
      · rintro rfl; apply h2; simp [fenced]
/-- what may stand behind a value -/
def EndSep (r : List UInt8) : Prop := r = [] ∨ ∃ c t, r = c :: t ∧ isSep c = true
theorem endSep_scan {r : List UInt8} (h : EndSep r) : scan r = some ([], r) := by
  rcases h with rfl | ⟨c, t, rfl, h⟩
  · exact scan_nil
  · exact scan_sep c t h
theorem sep_ne {c : UInt8} (h : isSep c = true) : c ≠ 32 ∧ c ≠ 35 := by
  constructor <;> (rintro rfl; revert h; decide)
theorem value_text (z v u r : List UInt8) (hz : ∀ c ∈ z, c = 32) (hu : ∀ c ∈ u, c = 32) (hr : EndSep r) : valueP (z ++ (textL v ++ (u ++ r))) = some (v, r) := by
  have hub : ∀ y ∈ u.map (fun c => ((c, true) : Sg)), blankS y = true := by
    intro y hy
    obtain ⟨c, hc, rfl⟩ := List.mem_map.1 hy
    rw [hu c hc]; decide
  unfold valueP
  rw [dropW_app _ z _ (fun c hc => by simp [hz c hc])]
  cases v with
  | nil =>
    have e : (textL [] ++ (u ++ r)).dropWhile (fun c => decide (c = 32)) = r := by
      show (u ++ r).dropWhile _ = r
      rw [dropW_app _ u _ (fun c hc => by simp [hu c hc]), dropW_id]
      intro x t hx
      rcases hr with rfl | ⟨c, t', rfl, h⟩
      · cases hx
      · cases hx; simpa using (sep_ne h).1
    rw [e, if_neg, endSep_scan hr]
    · rfl
    · rcases hr with rfl | ⟨c, t', rfl, h⟩
      · simp
      · simpa using (sep_ne h).2
  | cons c t =>
    obtain ⟨d, s, hd, h32, h35⟩ := textF_head c t
    have e : (textL (c :: t) ++ (u ++ r)).dropWhile (fun c => decide (c = 32)) = textL (c :: t) ++ (u ++ r) := by
      rw [dropW_id]
      intro x t' hx
      unfold textL at hx
      rw [hd] at hx
      cases hx
      simpa using h32
    rw [e, if_neg]
    · unfold textL
      rw [scan_textF, scan_blanks u r hu, endSep_scan hr]
      simp only [Option.map_some, List.append_nil]
      obtain ⟨A, x, h1, h2⟩ := sgF_last true c t
      have h3 := sgF_fst true (c :: t)
      rw [h1] at h3 ⊢
      rw [trimR_keepall A _ x h2 hub, h3]
    · unfold textL
      rw [hd]
      simpa using h35
/-! ### a whole name -/
theorem av_back (a : Av) : av (a.t.data.toList, a.v.data.toList) = a := by
  unfold av
  cases a with | mk t v => simp
section
variable (U : List UInt8 → List UInt8) (b : List UInt8) (s2 : UInt8)
def pt (a : Av) : List UInt8 := U a.t.data.toList ++ (b ++ 61 :: (b ++ textL a.v.data.toList))
def tailR (r : List Av) : List UInt8 := r.flatMap fun a => b ++ 43 :: (b ++ pt U b a)
def rdnT : List Av → List UInt8
  | [] => []
  | a :: r => pt U b a ++ tailR U b r
def tailN (m : List (List Av)) : List UInt8 := m.flatMap fun l => b ++ s2 :: (b ++ rdnT U b l)
def nameT : List (List Av) → List UInt8
  | [] => []
  | l :: m => rdnT U b l ++ tailN U b s2 m
end
/-- a type as it may be written -/
def TyAs (U : List UInt8 → List UInt8) (a : Av) : Prop := lowL (U a.t.data.toList) = a.t.data.toList ∧ typeOK a.t.data.toList = true
theorem kind_text {U : List UInt8 → List UInt8} {a : Av} (h : TyAs U a) {b pre : List UInt8} (hb : ∀ c ∈ b, c = 32) (hp : ∀ c ∈ pre, c = 32) (r : List UInt8) : kindP (pre ++ (U a.t.data.toList ++ (b ++ 61 :: r))) = some (a.t.data.toList, r) := by
  have := kindP_of pre (U a.t.data.toList) b r hp hb (by rw [h.1]; exact h.2)
  rw [h.1] at this
  rw [← this]
  simp
theorem GP_text {U : List UInt8 → List UInt8} {b : List UInt8} {s2 : UInt8} (hb : ∀ c ∈ b, c = 32) (hs : isSep s2 = true) (h43 : s2 ≠ 43) :
    ∀ (m : List (List Av)) (r : List Av) (ns : List (List Av)) (cur : List Av) (a : Av) (pre : List UInt8), (∀ c ∈ pre, c = 32) → (∀ x ∈ a :: r, TyAs U x) → (∀ l ∈ m, l ≠ [] ∧ ∀ x ∈ l, TyAs U x) →
      GP ns cur (pre ++ (pt U b a ++ (tailR U b r ++ tailN U b s2 m))) = some (ns ++ (cur ++ a :: r) :: m) := by
  intro m
  induction m with
  | nil =>
    intro r
    induction r with
    | nil =>
      intro ns cur a pre hp ha _
      have hk := kind_text (ha a (by simp)) hb hp (b ++ (textL a.v.data.toList ++ ([] ++ [])))
      have hv := value_text b a.v.data.toList [] [] hb (by simp) (Or.inl rfl)
      have e : pre ++ (pt U b a ++ (tailR U b [] ++ tailN U b s2 [])) = pre ++ (U a.t.data.toList ++ (b ++ 61 :: (b ++ (textL a.v.data.toList ++ ([] ++ []))))) := by
        simp [pt, tailR, tailN]
      rw [e, GP_end hk hv, av_back]
    | cons a' r ih =>
      intro ns cur a pre hp ha hm
      have hk := kind_text (ha a (by simp)) hb hp (b ++ (textL a.v.data.toList ++ (b ++ 43 :: (b ++ (pt U b a' ++ (tailR U b r ++ tailN U b s2 []))))))
      have hv := value_text b a.v.data.toList b (43 :: (b ++ (pt U b a' ++ (tailR U b r ++ tailN U b s2 [])))) hb hb (Or.inr ⟨43, _, rfl, by decide⟩)
      have e : pre ++ (pt U b a ++ (tailR U b (a' :: r) ++ tailN U b s2 [])) = pre ++ (U a.t.data.toList ++ (b ++ 61 :: (b ++ (textL a.v.data.toList ++ (b ++ 43 :: (b ++ (pt U b a' ++ (tailR U b r ++ tailN U b s2 [])))))))) := by
        simp [pt, tailR, tailN]
      rw [e, GP_plus hk hv, av_back, ih _ _ a' b hb (fun x hx => ha x (by simp only [List.mem_cons] at hx ⊢; exact Or.inr hx)) hm]
      simp
  | cons l m ihm =>
    intro r
    induction r with
    | nil =>
      intro ns cur a pre hp ha hm
      obtain ⟨hl, hlx⟩ := hm l (by simp)
      obtain ⟨a', r', rfl⟩ := List.exists_cons_of_ne_nil hl
      have hk := kind_text (ha a (by simp)) hb hp (b ++ (textL a.v.data.toList ++ (b ++ s2 :: (b ++ (pt U b a' ++ (tailR U b r' ++ tailN U b s2 m))))))
      have hv := value_text b a.v.data.toList b (s2 :: (b ++ (pt U b a' ++ (tailR U b r' ++ tailN U b s2 m)))) hb hb (Or.inr ⟨s2, _, rfl, hs⟩)
      have e : pre ++ (pt U b a ++ (tailR U b [] ++ tailN U b s2 ((a' :: r') :: m))) = pre ++ (U a.t.data.toList ++ (b ++ 61 :: (b ++ (textL a.v.data.toList ++ (b ++ s2 :: (b ++ (pt U b a' ++ (tailR U b r' ++ tailN U b s2 m)))))))) := by
        simp [pt, tailR, tailN, rdnT]
      rw [e, GP_next hk hv h43, av_back, ihm r' _ [] a' b hb hlx (fun l hl => hm l (by simp [hl]))]
      simp
    | cons a' r ih =>
      intro ns cur a pre hp ha hm
      have hk := kind_text (ha a (by simp)) hb hp (b ++ (textL a.v.data.toList ++ (b ++ 43 :: (b ++ (pt U b a' ++ (tailR U b r ++ tailN U b s2 (l :: m)))))))
      have hv := value_text b a.v.data.toList b (43 :: (b ++ (pt U b a' ++ (tailR U b r ++ tailN U b s2 (l :: m))))) hb hb (Or.inr ⟨43, _, rfl, by decide⟩)
      have e : pre ++ (pt U b a ++ (tailR U b (a' :: r) ++ tailN U b s2 (l :: m))) = pre ++ (U a.t.data.toList ++ (b ++ 61 :: (b ++ (textL a.v.data.toList ++ (b ++ 43 :: (b ++ (pt U b a' ++ (tailR U b r ++ tailN U b s2 (l :: m))))))))) := by
        simp [pt, tailR, tailN]
      rw [e, GP_plus hk hv, av_back, ih _ _ a' b hb (fun x hx => ha x (by simp only [List.mem_cons] at hx ⊢; exact Or.inr hx)) hm]
      simp
/-- WHAT IS WRITTEN IS READ AS IT WAS -/
theorem parse_text {U : List UInt8 → List UInt8} {b : List UInt8} {s2 : UInt8} (hb : ∀ c ∈ b, c = 32) (hs : isSep s2 = true) (h43 : s2 ≠ 43) (n : List (List Av)) (hn : nameOK n = true) (hne : ∀ l ∈ n, l ≠ [] ∧ ∀ x ∈ l, TyAs U x) : parseR (nameT U b s2 n) = some n := by
  cases n with
  | nil => rfl
  | cons l m =>
    obtain ⟨hl, hlx⟩ := hne l (by simp)
    obtain ⟨a, r, rfl⟩ := List.exists_cons_of_ne_nil hl
    have hg := GP_text hb hs h43 m r [] [] a [] (by simp) hlx (fun l hl => hne l (by simp [hl]))
    simp only [List.nil_append] at hg
    have e : nameT U b s2 ((a :: r) :: m) = pt U b a ++ (tailR U b r ++ tailN U b s2 m) := by simp [nameT, rdnT]
    rw [← e] at hg
    unfold parseR
    have hd : GP [] [] ((nameT U b s2 ((a :: r) :: m)).dropWhile fun c => decide (c = 32)) = some ((a :: r) :: m) := by
      rw [← hg]; unfold GP; rw [P_drop]
    rw [if_neg]
    · rw [hd]; simp only [hn, if_true]
    · intro h0
      rw [h0] at hd
      rw [GP_kind (l := []) rfl] at hd
      cases hd
end dnw
end Go.Proofs.YtckpiaigoeicfaaGreatDoor
/-! PrintQ -/
namespace Go.Proofs.YtckpiaigoeicfaaGreatDoor
namespace dnw
open dnp
set_option linter.unusedVariables false
set_option linter.unusedSimpArgs false
theorem rdnOK_facts {l : List Av} (h : rdnOK l = true) : 1 ≤ l.length ∧ l.length ≤ 4 ∧ ∀ i (hi : i < l.length), pairB l i l[i] = true := by
  unfold rdnOK at h
  simp only [Bool.and_eq_true, decide_eq_true_eq] at h
  refine ⟨h.1.1, h.1.2, fun i hi => ?_⟩
  have := List.all_eq_true.1 h.2 i (List.mem_range.2 hi)
  rw [List.getElem?_eq_getElem hi] at this
  exact this
theorem rdnOK_av {l : List Av} (h : rdnOK l = true) : ∀ x ∈ l, typeOK x.t.data.toList = true ∧ valOK x.v.data.toList = true := by
  intro x hx
  obtain ⟨i, hi, rfl⟩ := List.mem_iff_getElem.1 hx
  have := (rdnOK_facts h).2.2 i hi
  unfold pairB at this
  simp only [Bool.and_eq_true] at this
  exact ⟨this.1.2, this.2⟩
theorem nameOK_facts {n : List (List Av)} (h : nameOK n = true) : n.length ≤ 12 ∧ ∀ l ∈ n, rdnOK l = true := by
  unfold nameOK at h
  simp only [Bool.and_eq_true, decide_eq_true_eq] at h
  exact ⟨h.1, fun l hl => List.all_eq_true.1 h.2 l hl⟩
theorem valOK_le {v : List UInt8} (h : valOK v = true) : v.length ≤ 255 := by
  unfold valOK at h
  simp only [Bool.and_eq_true, decide_eq_true_eq] at h
  exact h.1
theorem typeOK_le {t : List UInt8} (h : typeOK t = true) : t.length ≤ 32 := by
  unfold typeOK at h
  simp only [Bool.and_eq_true, decide_eq_true_eq] at h
  exact h.1.2
theorem low_type : ∀ c : UInt8, typeCh c = true → low c = c := by
  have all : ∀ m : Fin 256, (!typeCh (UInt8.ofNat m.val) || decide (low (UInt8.ofNat m.val) = UInt8.ofNat m.val)) = true := by decide +kernel
  intro c h
  have := all ⟨c.toNat, c.toNat_lt⟩
  simp only [UInt8.ofNat_toNat, h, Bool.not_true, Bool.false_or, decide_eq_true_eq] at this
  exact this
theorem lowL_type {t : List UInt8} (h : typeOK t = true) : lowL t = t := by
  unfold typeOK at h
  simp only [Bool.and_eq_true] at h
  unfold lowL
  conv => rhs; rw [← List.map_id t]
  apply List.map_congr_left
  intro c hc
  exact low_type c (List.all_eq_true.1 h.2 c hc)
theorem tyAs_id {a : Av} (h : typeOK a.t.data.toList = true) : TyAs id a := ⟨lowL_type h, h⟩
/-- a pair's text, as it is printed -/
def ptx (a : Av) : List UInt8 := a.t.data.toList ++ 61 :: textL a.v.data.toList
theorem pt_id (a : Av) : pt id [] a = ptx a := rfl
def rdnX (l : List Av) : List UInt8 := Lib.join (l.map ptx) [43]
def nameX (n : List (List Av)) : List UInt8 := Lib.join (n.map rdnX) [44]
theorem rdnX_cons (a : Av) (r : List Av) : rdnX (a :: r) = ptx a ++ r.flatMap fun a => 43 :: ptx a := by
  unfold rdnX
  rw [List.map_cons, Lib.join_cons, Lib.joinTail, List.map_map, List.flatMap_def]
  rfl
theorem nameX_cons (l : List Av) (m : List (List Av)) : nameX (l :: m) = rdnX l ++ m.flatMap fun l => 44 :: rdnX l := by
  unfold nameX
  rw [List.map_cons, Lib.join_cons, Lib.joinTail, List.map_map, List.flatMap_def]
  rfl
theorem rdnT_id (l : List Av) : rdnT id [] l = rdnX l := by
  cases l with
  | nil => rfl
  | cons a r => rw [rdnX_cons]; rfl
theorem nameT_id (n : List (List Av)) : nameT id [] 44 n = nameX n := by
  cases n with
  | nil => rfl
  | cons l m =>
    rw [nameX_cons]
    show rdnT id [] l ++ m.flatMap (fun l => 44 :: rdnT id [] l) = _
    rw [rdnT_id]
    congr 2
    funext l
    rw [rdnT_id]
/-- what Print answers -/
def printR (n : List (List Av)) : List UInt8 × Nat := if nameOK n = true then (if 1000 < (nameX n).length then ([], 5) else (nameX n, 0)) else ([], 4)
theorem parse_print (n : List (List Av)) (h : nameOK n = true) : parseR (nameX n) = some n := by
  rw [← nameT_id]
  refine parse_text (by simp) (by decide) (by decide) n h fun l hl => ?_
  have hr := (nameOK_facts h).2 l hl
  refine ⟨?_, fun x hx => tyAs_id (rdnOK_av hr x hx).1⟩
  rintro rfl
  have := (rdnOK_facts hr).1
  simp at this
theorem ptx_len {a : Av} (h1 : typeOK a.t.data.toList = true) (h2 : valOK a.v.data.toList = true) : (ptx a).length ≤ 798 := by
  have := typeOK_le h1
  have := valOK_le h2
  have := textF_len true a.v.data.toList
  unfold ptx textL
  rw [List.length_append, List.length_cons]
  omega
theorem flat_len_le {α : Type} (f : α → List UInt8) (k : Nat) : ∀ l : List α, (∀ x ∈ l, (f x).length ≤ k) → (l.flatMap f).length ≤ l.length * k
  | [], _ => by simp
  | x :: l, h => by
    have h1 := h x (by simp)
    have h2 := flat_len_le f k l (fun y hy => h y (by simp [hy]))
    rw [List.flatMap_cons, List.length_append, List.length_cons, Nat.add_mul]
    omega
theorem rdnX_len {l : List Av} (h : rdnOK l = true) : (rdnX l).length ≤ 4000 := by
  have hx := rdnOK_av h
  have h4 := (rdnOK_facts h).2.1
  cases l with
  | nil => simp [rdnX, Lib.join, List.intercalate]
  | cons a r =>
    rw [rdnX_cons, List.length_append]
    have h1 := ptx_len (hx a (by simp)).1 (hx a (by simp)).2
    have h2 := flat_len_le (fun a => 43 :: ptx a) 799 r (fun x hx' => by
      have := ptx_len (hx x (by simp [hx'])).1 (hx x (by simp [hx'])).2
      simp only [List.length_cons]; omega)
    simp only [List.length_cons] at h4
    have : r.length * 799 ≤ 3 * 799 := Nat.mul_le_mul_right _ (by omega)
    omega
theorem nameX_len {n : List (List Av)} (h : nameOK n = true) : (nameX n).length ≤ 60000 := by
  obtain ⟨h12, hx⟩ := nameOK_facts h
  cases n with
  | nil => simp [nameX, Lib.join, List.intercalate]
  | cons l m =>
    rw [nameX_cons, List.length_append]
    have h1 := rdnX_len (hx l (by simp))
    have h2 := flat_len_le (fun l => 44 :: rdnX l) 4001 m (fun x hx' => by
      have := rdnX_len (hx x (by simp [hx']))
      simp only [List.length_cons]; omega)
    simp only [List.length_cons] at h12
    have : m.length * 4001 ≤ 12 * 4001 := Nat.mul_le_mul_right _ (by omega)
    omega
end dnw
end Go.Proofs.YtckpiaigoeicfaaGreatDoor
/-! RRdnW -/
namespace Go.Proofs.YtckpiaigoeicfaaGreatDoor
open Go.RowKit
namespace dnw
open dnp
set_option linter.unusedVariables false
set_option linter.unusedSimpArgs false
theorem dr_drewN {B : Nat} {a b : World} (h : Below B a b) (n : Nat) : Below B a (b.drewN n) := ⟨h.os, h.tape, h.output, h.size, h.block⟩
set_option maxRecDepth 20000 in
set_option maxHeartbeats 4000000 in
theorem rrdn_any (ao : Option Addr) (cap : Nat) (l : List Av) (w : World) (hA : Hid (Avas w ao l)) (hS : Hid (l.length ≤ 4 → Smalls l)) :
    Calls Tryz.prog 106 #[.slice ao l.length cap] w fun e w' => e = .returned (.bool (rdnOK l)) ∧ Below w.heap.size w w' := by
  by_cases h1 : l.length < 1
  · have HN := Lib.hid (rdnOK_len (l := l) (Or.inl h1))
    have h0 : l.length = 0 := by omega
    obtain rfl : l = [] := List.eq_nil_of_length_eq_zero h0
    clear h0 h1
    go_enter Tryz.func106, Tryz.ntmps106
    go_wp2_with fail
    go_ret
    exact ⟨kt.ret_bool HN.out, Below.refl _ _⟩
  · have h1' : ((l.length : Int) == 0) = false := by rw [beq_eq_false_iff_ne]; omega
    by_cases h4 : 4 < l.length
    · have h4' : 4 < (l.length : Int) := by omega
      have HN := Lib.hid (rdnOK_len (l := l) (Or.inr h4))
      go_enter Tryz.func106, Tryz.ntmps106
      go_wp2_with fail
      go_ret
      exact ⟨kt.ret_bool HN.out, Below.refl _ _⟩
    · have h4' : ¬ 4 < (l.length : Int) := by omega
      have HSm := Lib.hid (hS.out (by omega))
      have h1n : 1 ≤ l.length := by omega
      have h4n : l.length ≤ 4 := by omega
      go_enter Tryz.func106, Tryz.ntmps106
      go_wp2_with fail
      go_loopw [3, 4] (fun iv _ wr => ∃ i : Nat, i ≤ l.length ∧ iv = .int .i64 (i : Int) ∧ Hid (∀ j (hj : j < l.length), j < i → pairB l j l[j] = true) ∧ Below w.heap.size w wr) (fun iv _ _ => l.length - (intOf iv).toNat)
      case atStart => exact ⟨0, Nat.zero_le _, rfl, fun j _ h => by omega, Below.refl _ _⟩
      case round =>
        obtain ⟨i, hi, rfl, hP, hB⟩ := hrel
        have hsz := hB.size
        by_cases hlt : i < l.length
        · have hlt' : (i : Int) < (l.length : Int) := by omega
          obtain ⟨b, o, hao, hc0, hc1⟩ := (avas_below hA.out hB) i hlt
          obtain ⟨_, _, hao2, hw0, _⟩ := hA.out i hlt
          obtain ⟨hts, hvs⟩ := HSm.out l[i] (by simp)
          have hpn := fun h => rdnOK_no (l := l) hlt h
          have hpy : pairB l i l[i] = true → ∀ j (hj : j < l.length), j < i + 1 → pairB l j l[j] = true := by
            intro h j hj hji
            by_cases e : j = i
            · subst e; exact h
            · exact hP.out j hj (by omega)
          have hx : pairB l i l[i] = (!hasB l i l[i].t && typeOK l[i].t.data.toList && valOK l[i].v.data.toList) := rfl
          rw [hao] at hao2
          cases hao2
          subst hao
          generalize l[i] = x at hc0 hc1 hts hvs hpn hpy hx hw0
          have HW0 := Lib.hid hw0
          have HTy : Hid (∀ W, Calls Tryz.prog 105 #[.string x.t] W fun e w' => e = .returned (.bool (typeOK x.t.data.toList)) ∧ W = w') := fun W => type_any x.t W hts
          have HVa : Hid (∀ W, Calls Tryz.prog 129 #[.string x.v] W fun e w' => e = .returned (.bool (valOK x.v.data.toList)) ∧ Below W.heap.size W w') := fun W => rvalue_any x.v W hvs
          generalize typeOK x.t.data.toList = b2 at HTy hx
          generalize valOK x.v.data.toList = b3 at HVa hx
          clear hw0
          cases b2 with
          | false =>
            have HN := Lib.hid (hpn (by rw [hx]; simp))
            clear hpn hpy hx
            go_wp2_with fail
            refine (HTy.out _).mono ?_
            rintro e w3 ⟨rfl, rfl⟩
            go_wp2_with fail
            go_ret
            exact ⟨kt.ret_bool HN.out, hB⟩
          | true =>
            cases b3 with
            | false =>
              have HN := Lib.hid (hpn (by rw [hx]; simp))
              clear hpn hpy hx
              go_wp2_with fail
              refine (HTy.out _).mono ?_
              rintro e w3 ⟨rfl, rfl⟩
              go_wp2_with fail
              refine (HVa.out _).mono ?_
              rintro e w4 ⟨rfl, hB4⟩
              go_wp2_with fail
              go_ret
              exact ⟨kt.ret_bool HN.out, hB.trans (hB4.mono hsz)⟩
            | true =>
              have HPN : Hid (hasB l i x.t = true → false = rdnOK l) := fun h => hpn (by rw [hx, h]; rfl)
              have HPY : Hid (hasB l i x.t = false → ∀ j (hj : j < l.length), j < i + 1 → pairB l j l[j] = true) := fun h => hpy (by rw [hx, h]; rfl)
              clear hpn hpy hx
              go_wp2_with fail
              refine (HTy.out _).mono ?_
              rintro e w3 ⟨rfl, rfl⟩
              go_wp2_with fail
              refine (HVa.out _).mono ?_
              rintro e w4 ⟨rfl, hB4⟩
              have hB5 := hB.trans (hB4.mono hsz)
              clear hc0 hc1
              go_wp2_with fail
              go_loopw [4] (fun kv wr => ∃ k : Nat, k ≤ i ∧ kv = .int .i64 (k : Int) ∧ Hid (¬ Has l k x.t) ∧ Below w.heap.size w wr) (fun kv _ => i - (intOf kv).toNat)
              case atStart => exact ⟨0, Nat.zero_le _, rfl, fun ⟨_, _, h, _⟩ => by omega, hB5⟩
              case round =>
                obtain ⟨k, hk, rfl, hN, hBk⟩ := hrel
                by_cases hki : k < i
                · have hki' : (k : Int) < (i : Int) := by omega
                  have hkl : k < l.length := by omega
                  have hkl' : (k : Int) < (l.length : Int) := by omega
                  obtain ⟨b', o', hao', hk0, hk1⟩ := (avas_below hA.out hBk) k hkl
                  cases hao'
                  have hx0 := (hBk.cell (World.block_lt_of_cell? w _ HW0.out)).trans HW0.out
                  by_cases he : l[k].t.data.toList = x.t.data.toList
                  · have HN2 := Lib.hid (HPN.out ((hasB_iff l i x.t).2 ⟨k, hkl, hki, he⟩))
                    have hee : l[k].t = x.t := kt.str_eq he
                    rw [hee] at hk0
                    clear he hee hk1
                    go_wp2_with fail
                    go_quiet (fail)
                    go_wp2_with fail
                    go_ret
                    exact ⟨kt.ret_bool HN2.out, dr_drewN hBk nq⟩
                  · have HN2 : Hid (¬ Has l (k + 1) x.t) := by
                      rintro ⟨j, hj, h1, h2⟩
                      by_cases e : j = k
                      · subst e; exact he h2
                      · exact hN.out ⟨j, hj, by omega, h2⟩
                    generalize l[k].t = y at hk0 he
                    have g1 : (y.toList == x.t.toList) = false := by rw [str_beq, decide_eq_false he]
                    clear he hk1
                    go_wp2_with fail
                    go_quiet (fail)
                    go_wp2_with fail
                    go_roundw
                    case rel => exact ⟨k + 1, by omega, by go_num, HN2, dr_drewN hBk nq⟩
                    case measure => simp [intOf]; omega
                · obtain rfl : k = i := by omega
                  have hh : hasB l k x.t = false := by
                    rw [Bool.eq_false_iff]
                    exact fun h => hN.out ((hasB_iff l k x.t).1 h)
                  have HY := Lib.hid (HPY.out hh)
                  clear hh
                  go_wp2_with fail
                  go_roundw
                  case rel => exact ⟨k + 1, by omega, by go_num, HY, hBk⟩
                  case measure => simp [intOf]; omega
        · obtain rfl : i = l.length := by omega
          have HN := Lib.hid (rdnOK_yes (l := l) (by omega) (by omega) (fun j hj => hP.out j hj hj))
          go_wp2_with fail
          go_ret
          exact ⟨kt.ret_bool HN.out, hB⟩
set_option maxRecDepth 20000 in
set_option maxHeartbeats 2000000 in
theorem rright_any (ao : Option Addr) (cap : Nat) (n : List (List Av)) (w : World) (hA : Hid (Rdns w ao n)) (hn : n.length ≤ 1000) (hS : Hid (∀ l ∈ n, l.length ≤ 4 → Smalls l)) :
    Calls Tryz.prog 75 #[.slice ao n.length cap] w fun e w' => e = .returned (.bool (nameOK n)) ∧ Below w.heap.size w w' := by
  go_enter Tryz.func75, Tryz.ntmps75
  go_wp2_with fail
  go_loopw [3] (fun iv wr => ∃ i : Nat, i ≤ n.length ∧ iv = .int .i64 (i : Int) ∧ Hid (∀ j (hj : j < n.length), j < i → rdnOK n[j] = true) ∧ Below w.heap.size w wr) (fun iv _ => n.length - (intOf iv).toNat)
  case atStart => exact ⟨0, Nat.zero_le _, rfl, fun j _ h => by omega, Below.refl _ _⟩
  case round =>
    obtain ⟨i, hi, rfl, hP, hB⟩ := hrel
    have hsz := hB.size
    by_cases hlt : i < n.length
    · have hlt' : (i : Int) < (n.length : Int) := by omega
      obtain ⟨b, o, ao', cap', hao, hc0, hcc, hAv⟩ := (rdns_below hA.out hB) i hlt
      subst hao
      have hSm := hS.out n[i] (List.getElem_mem hlt)
      have hpn := fun h => nameOK_no (n := n) hlt h
      have hpy : rdnOK n[i] = true → ∀ j (hj : j < n.length), j < i + 1 → rdnOK n[j] = true := by
        intro h j hj hji
        by_cases e : j = i
        · subst e; exact h
        · exact hP.out j hj (by omega)
      have CR := rrdn_any ao' cap' n[i] wr (Lib.hid hAv) (Lib.hid hSm)
      generalize n[i] = l at hc0 hpn hpy CR
      generalize hm : l.length = m at hc0 CR
      cases hr : rdnOK l with
      | false =>
        rw [hr] at CR
        have HN := Lib.hid (hpn hr)
        have HC := Lib.hid CR
        clear CR hpn hpy hr hm hAv hSm hcc
        go_wp2_with fail
        refine HC.out.mono ?_
        rintro e w2 ⟨rfl, hB2⟩
        go_wp2_with fail
        go_ret
        exact ⟨kt.ret_bool HN.out, hB.trans (hB2.mono hsz)⟩
      | true =>
        rw [hr] at CR
        have HY := Lib.hid (hpy hr)
        have HC := Lib.hid CR
        clear CR hpn hpy hr hm hAv hSm hcc
        go_wp2_with fail
        refine HC.out.mono ?_
        rintro e w2 ⟨rfl, hB2⟩
        go_wp2_with fail
        go_roundw
        case rel => exact ⟨i + 1, by omega, by go_num, HY, hB.trans (hB2.mono hsz)⟩
        case measure => simp [intOf]; omega
    · obtain rfl : i = n.length := by omega
      have HN := Lib.hid (nameOK_all (n := n) (fun j hj => hP.out j hj hj))
      by_cases h12 : n.length ≤ 12
      · have h12' : (n.length : Int) ≤ 12 := by omega
        have HN2 := Lib.hid ((decide_eq_true h12).symm.trans HN.out)
        go_wp2_with fail
        go_ret
        exact ⟨kt.ret_bool HN2.out, hB⟩
      · have h12' : decide ((n.length : Int) ≤ 12) = false := by rw [decide_eq_false_iff_not]; omega
        have HN2 := Lib.hid ((decide_eq_false h12).symm.trans HN.out)
        go_wp2_with fail
        go_ret
        exact ⟨kt.ret_bool HN2.out, hB⟩
end dnw
end Go.Proofs.YtckpiaigoeicfaaGreatDoor
/-! RParseP -/
namespace Go.Proofs.YtckpiaigoeicfaaGreatDoor
namespace dnw
open dnp
set_option linter.unusedVariables false
set_option linter.unusedSimpArgs false
theorem signs_len : ∀ (n : Nat) (l : List UInt8) (L : List Sg), l.length ≤ n → signs l = some L → L.length ≤ l.length
  | n, [], L, _, h => by rw [signs_nil] at h; cases h; exact Nat.le_refl _
  | 0, _ :: _, _, h, _ => by simp at h
  | n + 1, c :: t, L, hn, h => by
    simp only [List.length_cons] at hn
    by_cases h92 : c = 92
    · subst h92
      cases he : esc t with
      | none => rw [signs_bad t he] at h; cases h
      | some p =>
        obtain ⟨d, k⟩ := p
        rw [signs_esc t d k he] at h
        obtain ⟨q, hq, rfl⟩ := Option.map_eq_some_iff.1 h
        have := signs_len n (t.drop k) q (by rw [List.length_drop]; omega) hq
        rw [List.length_drop] at this
        simp only [List.length_cons]
        omega
    · rw [signs_bare c t h92] at h
      obtain ⟨q, hq, rfl⟩ := Option.map_eq_some_iff.1 h
      have := signs_len n t q (by omega) hq
      simp only [List.length_cons]
      omega
theorem dropW_len {α : Type} (p : α → Bool) (l : List α) : (l.dropWhile p).length ≤ l.length := by
  obtain ⟨a, h, _⟩ := dropW_split p l
  have := congrArg List.length h
  rw [List.length_append] at this
  omega
theorem trim_len (L : List Sg) : (trim L).length ≤ L.length := by
  unfold trim
  have h1 := trimR_len (L.dropWhile blankS)
  have h2 := dropW_len blankS L
  omega
theorem pairS_small {B : List Sg} {p : Pr} (h : pairS B = some p) : p.1.length ≤ 32 ∧ p.2.length ≤ B.length ∧ 1 ≤ B.length := by
  obtain ⟨A, V, rfl, _, _, h1, _, rfl⟩ := pairS_some h
  have h2 := trim_len V
  refine ⟨?_, ?_, ?_⟩
  · unfold typeOK at h1
    simp only [Bool.and_eq_true, decide_eq_true_eq] at h1
    exact h1.1.2
  · simp only [List.length_map, List.length_append, List.length_cons]; omega
  · simp only [List.length_append, List.length_cons]; omega
/-- the segment at hand: from j0 to i, none of its signs cuts -/
def Seg (L : List Sg) (j0 i : Nat) : Prop := j0 ≤ i ∧ i ≤ L.length ∧ ∀ j (h : j < L.length), j0 ≤ j → j < i → sepS L[j] = false
def segL (L : List Sg) (j0 i : Nat) : List Sg := (L.drop j0).take (i - j0)
theorem segL_len {L : List Sg} {j0 i : Nat} (h : Seg L j0 i) : (segL L j0 i).length = i - j0 := by
  unfold segL
  rw [List.length_take, List.length_drop]
  have := h.1; have := h.2.1
  omega
theorem segL_sep {L : List Sg} {j0 i : Nat} (h : Seg L j0 i) : ∀ x ∈ segL L j0 i, sepS x = false := by
  intro x hx
  obtain ⟨k, hk, rfl⟩ := List.mem_iff_getElem.1 hx
  have hk' := hk
  rw [segL_len h] at hk'
  have e : (segL L j0 i)[k] = L[j0 + k]'(by have := h.2.1; omega) := by
    simp only [segL, List.getElem_take, List.getElem_drop]
  rw [e]
  exact h.2.2 (j0 + k) _ (by omega) (by have := h.1; omega)
theorem segL_at {L : List Sg} {j0 i : Nat} (h : Seg L j0 i) (hi : i < L.length) : L.drop j0 = segL L j0 i ++ L[i] :: L.drop (i + 1) := by
  unfold segL
  have h1 := (List.take_append_drop (i - j0) (L.drop j0)).symm
  rw [List.drop_drop, show j0 + (i - j0) = i from by have := h.1; omega] at h1
  rw [List.drop_eq_getElem_cons hi] at h1
  exact h1
theorem segL_end {L : List Sg} {j0 : Nat} (h : Seg L j0 L.length) : L.drop j0 = segL L j0 L.length := by
  unfold segL
  rw [List.take_of_length_le (by rw [List.length_drop]; exact Nat.le_refl _)]
theorem seg_next {L : List Sg} {j0 i : Nat} (h : Seg L j0 i) (hi : i < L.length) (hs : sepS L[i] = false) : Seg L j0 (i + 1) := by
  refine ⟨by have := h.1; omega, by omega, fun j hj h1 h2 => ?_⟩
  by_cases e : j = i
  · subst e; exact hs
  · exact h.2.2 j hj h1 (by omega)
theorem seg_new {L : List Sg} {i : Nat} (hi : i ≤ L.length) : Seg L i i := ⟨Nat.le_refl _, hi, fun j _ h1 h2 => by omega⟩
/-- how the reference's loop goes -/
def GAt (L : List Sg) (ns : List (List Av)) (cur : List Av) (j0 : Nat) : Prop := GR [] [] L = GR ns cur (L.drop j0)
theorem sep_eq {x : Sg} (h : sepS x = true) : x = (x.1, true) ∧ isSep x.1 = true := by
  obtain ⟨c, b⟩ := x
  unfold sepS at h
  simp only [Bool.and_eq_true] at h
  obtain ⟨rfl, h2⟩ := h
  exact ⟨rfl, h2⟩
theorem gat_none {L : List Sg} {ns : List (List Av)} {cur : List Av} {j0 i : Nat} (h : GAt L ns cur j0) (hs : Seg L j0 i) (he : ∀ h : i < L.length, sepS L[i] = true) (hp : pairS (segL L j0 i) = none) : GR [] [] L = none := by
  rw [h]
  by_cases hi : i < L.length
  · have h1 := he hi
    obtain ⟨e1, e2⟩ := sep_eq h1
    rw [segL_at hs hi, e1]
    exact GR_bad (segL_sep hs) e2 hp
  · obtain rfl : i = L.length := by have := hs.2.1; omega
    rw [segL_end hs]
    exact GR_bad_end (segL_sep hs) hp
theorem gat_end {L : List Sg} {ns : List (List Av)} {cur : List Av} {j0 : Nat} {p : Pr} (h : GAt L ns cur j0) (hs : Seg L j0 L.length) (hp : pairS (segL L j0 L.length) = some p) : GR [] [] L = some (ns ++ [cur ++ [av p]]) := by
  rw [h, segL_end hs]
  exact GR_end (segL_sep hs) hp
theorem gat_plus {L : List Sg} {ns : List (List Av)} {cur : List Av} {j0 i : Nat} {p : Pr} (h : GAt L ns cur j0) (hs : Seg L j0 i) (hi : i < L.length) (he : L[i] = (43, true)) (hp : pairS (segL L j0 i) = some p) : GAt L ns (cur ++ [av p]) (i + 1) := by
  unfold GAt at *
  rw [h, segL_at hs hi, he]
  exact GR_plus (segL_sep hs) hp
theorem gat_next {L : List Sg} {ns : List (List Av)} {cur : List Av} {j0 i : Nat} {p : Pr} (h : GAt L ns cur j0) (hs : Seg L j0 i) (hi : i < L.length) (he : sepS L[i] = true) (h43 : L[i].1 ≠ 43) (hp : pairS (segL L j0 i) = some p) : GAt L (ns ++ [cur ++ [av p]]) [] (i + 1) := by
  unfold GAt at *
  obtain ⟨e1, e2⟩ := sep_eq he
  rw [h, segL_at hs hi, e1]
  exact GR_next (segL_sep hs) e2 h43 hp
end dnw
end Go.Proofs.YtckpiaigoeicfaaGreatDoor
/-! SpecW -/
namespace Go.Proofs.YtckpiaigoeicfaaGreatDoor
open Go.RowKit
namespace dnw
open dnp
set_option linter.unusedVariables false
set_option linter.unusedSimpArgs false
theorem u8_special (c : UInt8) : special c = decide ((c.toNat : Int) = 34 ∨ (c.toNat : Int) = 43 ∨ (c.toNat : Int) = 44 ∨ (c.toNat : Int) = 59 ∨ (c.toNat : Int) = 60 ∨ (c.toNat : Int) = 61 ∨ (c.toNat : Int) = 62 ∨ (c.toNat : Int) = 92) := by
  have all : ∀ m : Fin 256, special (UInt8.ofNat m.val) = decide ((m.val : Int) = 34 ∨ (m.val : Int) = 43 ∨ (m.val : Int) = 44 ∨ (m.val : Int) = 59 ∨ (m.val : Int) = 60 ∨ (m.val : Int) = 61 ∨ (m.val : Int) = 62 ∨ (m.val : Int) = 92) := by decide +kernel
  have h := all ⟨c.toNat, c.toNat_lt⟩
  simp only [UInt8.ofNat_toNat] at h
  exact h
set_option maxHeartbeats 2000000 in
theorem special_any (c : UInt8) (w : World) : Calls Tryz.prog 103 #[.int .u8 (c.toNat : Int)] w fun e w' => e = .returned (.bool (special c)) ∧ w = w' := by
  rw [u8_special]
  generalize (c.toNat : Int) = r
  go_enter Tryz.func103, Tryz.ntmps103
  go_wp2
  all_goals
    go_ret
    refine ⟨kt.ret_bool ?_, rfl⟩
    (try simp only [beq_iff_eq, beq_eq_false_iff_ne, ne_eq, bne_iff_ne] at *)
    first
      | exact (decide_eq_true (by omega)).symm
      | exact (decide_eq_false (by omega)).symm
      | (rw [Bool.eq_iff_iff]; simp only [Bool.or_eq_true, decide_eq_true_eq, beq_iff_eq]; omega)
def scell (x : Sg) : List Value := [.int .u8 (x.1.toNat : Int), .bool x.2]
def scells (l : List Sg) : List Value := l.flatMap scell
/-- a row of signs that the call owns -/
def OwnS (w : World) (B : Nat) (v : Value) (l : List Sg) : Prop := kt.SegX w B 94 2 v l.length (scells l)
/-- where signs lie -/
def Sgs (w : World) (ao : Option Addr) (l : List Sg) : Prop := ∀ i (hi : i < l.length), ∃ b o, ao = some ⟨b, o, none⟩ ∧ w.cell? ⟨b, o + i * 2, none⟩ = some (.int .u8 (l[i].1.toNat : Int)) ∧ w.cell? ⟨b, o + i * 2 + 1, none⟩ = some (.bool l[i].2)
theorem sgs_below {w w' : World} {ao : Option Addr} {l : List Sg} (h : Sgs w ao l) (hb : Below w.heap.size w w') : Sgs w' ao l := by
  intro i hi
  obtain ⟨b, o, h1, h2, h3⟩ := h i hi
  exact ⟨b, o, h1, (hb.cell (World.block_lt_of_cell? w _ h2)).trans h2, (hb.cell (World.block_lt_of_cell? w _ h3)).trans h3⟩
theorem ownS_sgs {w : World} {B cap : Nat} {ao : Option Addr} {l : List Sg} (h : OwnS w B (.slice ao l.length cap) l) : Sgs w ao l := by
  intro i hi
  obtain ⟨g, o, cap', hv, _, _, hc⟩ := kt.segX_cell h (by omega)
  simp only [Value.slice.injEq] at hv
  obtain ⟨rfl, _, _⟩ := hv
  have h0 := kt.flat_get scell 2 (fun _ => rfl) l i 0 hi (by omega)
  have h1 := kt.flat_get scell 2 (fun _ => rfl) l i 1 hi (by omega)
  refine ⟨g, o, rfl, ?_, ?_⟩
  · exact hc _ _ h0
  · rw [Nat.add_assoc]; exact hc _ _ h1
theorem scells_append (a b : List Sg) : scells (a ++ b) = scells a ++ scells b := List.flatMap_append ..
theorem infoSign : (Tryz.prog.info? 94).map (fun i => (i.zero, i.size, i.bytes)) = some (some (.agg #[.int .u8 0, .bool false]), 2, 2) := by kernel_rfl
theorem ownS_below {w w' : World} {B : Nat} {v : Value} {l : List Sg} (h : OwnS w B v l) (hb : Below w.heap.size w w') : OwnS w' B v l := kt.segX_below h hb
/-- a sign laid behind -/
theorem ownS_app {w : World} {B : Nat} {v : Value} {l : List Sg} (x : Sg) (h : OwnS w B v l) (hl : l.length ≤ 1100000) (hB : B ≤ w.heap.size) :
    ∃ v' w1, (Builtin.append_ #[88, 88] 88 #[v, .slice (some ⟨w.heap.size, 0, none⟩) 1 1]).run Tryz.prog (w.alloc (.cells #[.int .u8 (x.1.toNat : Int), .bool x.2] 94)) = .ok v' w1 ∧ OwnS w1 B v' (l ++ [x]) ∧ Below B w w1 := by
  have hn := ownS_below h (w' := w.alloc (.cells #[.int .u8 (x.1.toNat : Int), .bool x.2] 94)) ((Below.refl _ _).alloc (Nat.le_refl _) _)
  obtain ⟨v', w1, h1, h2, h3, _⟩ := kt.segX_append (P := Tryz.prog) (t := 88) (ty := 88) Tryz.underlying88 infoSign rfl (by omega) ⟨w.heap.size, 0, none⟩ 1 1 (scell x) rfl (fun j u hj => by
      rw [kt.addr_add, World.cell?_alloc_new]
      simpa [scell] using hj) (by intro u hu; simp [scell] at hu; rcases hu with rfl | rfl <;> rfl) hn (by unfold maxLen; omega) (by omega) (by simp; omega)
  refine ⟨v', w1, h1, ?_, ((Below.refl B w).alloc hB _).trans (below_of_gr h3 (by simp; omega) (fun k hk => (kt.segX_lt hn k hk).1))⟩
  unfold OwnS
  rw [List.length_append, scells_append]
  have e : scells [x] = scell x := by simp [scells]
  rw [e]
  exact h2
end dnw
end Go.Proofs.YtckpiaigoeicfaaGreatDoor
/-! CutW -/
namespace Go.Proofs.YtckpiaigoeicfaaGreatDoor
open Go.RowKit
namespace dnw
open dnp
set_option linter.unusedVariables false
set_option linter.unusedSimpArgs false
/-- where a row cut at lo begins -/
def cutA (ao : Option Addr) (cap lo : Nat) : Option Addr := if cap = lo then ao else ao.map (·.add (lo * 2))
theorem elemSign : Tryz.prog.elem 88 = 94 := by kernel_rfl
theorem sizeSign (w : World) : (Go.sizeOf (Tryz.prog.elem 88)).run Tryz.prog w = .ok 2 w := by
  obtain ⟨i0, hi, _, _, _⟩ := info_parts infoSign
  rw [elemSign, run_sizeOf w hi]
  exact congrArg (fun n => Result.ok n w) (by kernel_rfl)
theorem undSign : Tryz.prog.underlying 88 = some (.slice (Tryz.prog.elem 88)) := by rw [elemSign]; exact Tryz.underlying88
theorem cut_lh (ao : Option Addr) (m cap lo hi : Nat) (h1 : lo ≤ hi) (h2 : hi ≤ cap) (wx : World) :
    (Instr.slice 88 (.slice ao m cap) (some (.int .i64 (lo : Int))) (some (.int .i64 (hi : Int))) none).run Tryz.prog wx = .ok (.slice (cutA ao cap lo) (hi - lo) (cap - lo)) wx := by
  rw [run_slice_lh (P := Tryz.prog) wx _ _ _ _ undSign _ _ _ _ (by omega) (by omega) (by omega), sizeSign]
  rfl
theorem cut_l (ao : Option Addr) (m cap lo : Nat) (h1 : lo ≤ m) (wx : World) :
    (Instr.slice 88 (.slice ao m cap) (some (.int .i64 (lo : Int))) none none).run Tryz.prog wx = .ok (.slice (cutA ao cap lo) (m - lo) (cap - lo)) wx := by
  rw [run_slice_l (P := Tryz.prog) wx _ _ _ _ undSign _ _ (by omega) (by omega), sizeSign]
  rfl
theorem cut_h (ao : Option Addr) (m cap hi : Nat) (h2 : hi ≤ cap) (wx : World) :
    (Instr.slice 88 (.slice ao m cap) none (some (.int .i64 (hi : Int))) none).run Tryz.prog wx = .ok (.slice (cutA ao cap 0) hi cap) wx := by
  rw [run_slice_h (P := Tryz.prog) wx _ _ _ _ undSign _ _ (by omega) (by omega), sizeSign]
  rfl
theorem cutA_zero (ao : Option Addr) (cap : Nat) : cutA ao cap 0 = ao := by
  unfold cutA
  split
  · rfl
  · cases ao with
    | none => rfl
    | some a =>
      simp only [Nat.zero_mul, Option.map_some]
      unfold Addr.add
      rfl
theorem cutA_some (b o cap lo : Nat) : cutA (some ⟨b, o, none⟩) cap lo = if cap = lo then some ⟨b, o, none⟩ else some ⟨b, o + lo * 2, none⟩ := by
  unfold cutA
  split
  · rfl
  · simp only [Option.map_some, Addr.add_mid]
theorem sgs_cut {w : World} {ao : Option Addr} {L : List Sg} {cap lo : Nat} (h : Sgs w ao L) (hc : L.length ≤ cap) : Sgs w (cutA ao cap lo) (L.drop lo) := by
  intro i hi
  rw [List.length_drop] at hi
  obtain ⟨b, o, e, h1, h2⟩ := h (lo + i) (by omega)
  subst e
  rw [List.getElem_drop]
  unfold cutA
  rw [if_neg (by omega)]
  refine ⟨b, o + lo * 2, by simp only [Option.map_some, Addr.add_mid], ?_, ?_⟩
  · rw [show o + lo * 2 + i * 2 = o + (lo + i) * 2 from by rw [Nat.add_mul]; omega]; exact h1
  · rw [show o + lo * 2 + i * 2 + 1 = o + (lo + i) * 2 + 1 from by rw [Nat.add_mul]; omega]; exact h2
theorem sgs_take {w : World} {ao : Option Addr} {M : List Sg} (h : Sgs w ao M) (k : Nat) : Sgs w ao (M.take k) := by
  intro i hi
  rw [List.length_take] at hi
  rw [List.getElem_take]
  exact h i (by omega)
def slen : Value → Nat
  | .slice _ n _ => n
  | _ => 0
end dnw
end Go.Proofs.YtckpiaigoeicfaaGreatDoor
/-! TrimW -/
namespace Go.Proofs.YtckpiaigoeicfaaGreatDoor
open Go.RowKit
namespace dnw
open dnp
set_option linter.unusedVariables false
set_option linter.unusedSimpArgs false
theorem trimR_endblank {M : List Sg} {x : Sg} (h : blankS x = true) : trimR (M ++ [x]) = trimR M := by
  unfold trimR
  rw [List.reverse_append]
  show (List.dropWhile blankS (x :: M.reverse)).reverse = _
  rw [List.dropWhile_cons, if_pos h]
theorem trimR_endkeep {M : List Sg} {x : Sg} (h : blankS x = false) : trimR (M ++ [x]) = M ++ [x] := by
  unfold trimR
  rw [List.reverse_append]
  show (List.dropWhile blankS (x :: M.reverse)).reverse = _
  rw [List.dropWhile_cons, if_neg (by rw [h]; simp)]
  simp
/-- what Trim leaves -/
def TrimE (L : List Sg) (w : World) (e : Ending) (w' : World) : Prop := w = w' ∧ ∃ ao cap, e = .returned (.slice ao (trim L).length cap) ∧ (trim L).length ≤ cap ∧ Sgs w ao (trim L)
theorem trimE_of {L : List Sg} {w : World} {ao : Option Addr} {cap : Nat} {M : List Sg} (h : trim L = M) (hc : M.length ≤ cap) (hs : Sgs w ao M) : TrimE L w (.returned (.slice ao M.length cap)) w := by
  subst h
  exact ⟨rfl, ao, cap, rfl, hc, hs⟩
theorem trim_drop {M : List Sg} {L : List Sg} {x : Sg} (h : L.dropWhile blankS = (x :: M).dropWhile blankS) (hx : blankS x = true) : L.dropWhile blankS = M.dropWhile blankS := by
  rw [h, List.dropWhile_cons, if_pos hx]
theorem trim_head {M : List Sg} {L : List Sg} (h : L.dropWhile blankS = M.dropWhile blankS) (hx : ∀ x t, M = x :: t → blankS x = false) : trim L = trimR M := by
  unfold trim
  rw [h, dropW_id _ M hx]
set_option maxRecDepth 20000 in
set_option maxHeartbeats 4000000 in
theorem trim_any (ao : Option Addr) (cap : Nat) (L : List Sg) (w : World) (hA : Hid (Sgs w ao L)) (hc : L.length ≤ cap) (hl : L.length ≤ 1100000) :
    Calls Tryz.prog 73 #[.slice ao L.length cap] w fun e w' => TrimE L w e w' := by
  go_enter Tryz.func73, Tryz.ntmps73
  go_wp2_with fail
  go_loopw [0] (fun lv wr => ∃ (ao : Option Addr) (m cap : Nat) (M : List Sg), lv = .slice ao m cap ∧ Hid (m = M.length) ∧ m ≤ cap ∧ m ≤ 1100000 ∧ Hid (Sgs w ao M) ∧ Hid (L.dropWhile blankS = M.dropWhile blankS) ∧ w = wr) (fun lv _ => slen lv)
  case atStart => exact ⟨ao, _, cap, L, rfl, rfl, hc, hl, hA, rfl, rfl⟩
  case round =>
    clear hA hc hl
    obtain ⟨ao, m, cap, M, rfl, hm, hc, hl, hA, hD, rfl⟩ := hrel
    by_cases hb : ∃ x t, M = x :: t ∧ blankS x = true
    · obtain ⟨x, t, rfl, hx⟩ := hb
      obtain ⟨k, rfl⟩ : ∃ k, m = k + 1 := ⟨t.length, by rw [hm.out]; rfl⟩
      have HX := Lib.hid (trim_drop hD.out hx)
      obtain ⟨b, o, hao, c0, c1⟩ := hA.out 0 (by simp)
      have hS := sgs_cut (lo := 1) hA.out (by rw [← hm.out]; exact hc)
      obtain ⟨c, bare⟩ := x
      unfold blankS at hx
      simp only [Bool.and_eq_true, decide_eq_true_eq] at hx
      obtain ⟨rfl, rfl⟩ := hx
      simp only [Nat.zero_mul, Nat.add_zero, List.getElem_cons_zero] at c0 c1
      subst hao
      have HS : Hid (Sgs w (if cap = 1 then some ⟨b, o, none⟩ else some ⟨b, o + 2, none⟩) t) := by
        have h : cutA (some ⟨b, o, none⟩) cap 1 = if cap = 1 then some ⟨b, o, none⟩ else some ⟨b, o + 2, none⟩ := cutA_some b o cap 1
        rw [h] at hS
        exact hS
      have HM : Hid (k = t.length) := by have := hm.out; simp only [List.length_cons] at this; show k = _; omega
      clear hS hm hD hA
      go_wp2_with fail
      go_roundw
      case rel => exact ⟨_, _, _, t, rfl, HM, by omega, by omega, HS, HX, trivial⟩
      case measure => simp [slen] <;> omega
    · have HD := Lib.hid (trim_head hD.out (fun x t h => by
        cases hx : blankS x with
        | false => rfl
        | true => exact absurd ⟨x, t, h, hx⟩ hb))
      have hM : M = [] ∧ m = 0 ∨ ∃ c t, M = (c, false) :: t ∨ (M = (c, true) :: t ∧ ¬ (c.toNat : Int) = 32) := by
        cases M with
        | nil => exact Or.inl ⟨rfl, by rw [hm.out]; rfl⟩
        | cons x t =>
          obtain ⟨c, bare⟩ := x
          refine Or.inr ⟨c, t, ?_⟩
          cases bare with
          | false => exact Or.inl rfl
          | true =>
            refine Or.inr ⟨rfl, fun h => hb ⟨_, t, rfl, ?_⟩⟩
            show (true && decide (c = 32)) = true
            rw [u8_eq (n := 32) (by omega) h]; rfl
      have hfacts : m = 0 ∨ (0 < m ∧ ∃ b o, ao = some ⟨b, o, none⟩ ∧ ((w.cell? ⟨b, o + 1, none⟩ = some (.bool false)) ∨ ∃ c : UInt8, w.cell? ⟨b, o + 1, none⟩ = some (.bool true) ∧ w.cell? ⟨b, o, none⟩ = some (.int .u8 (c.toNat : Int)) ∧ ((c.toNat : Int) == 32) = false)) := by
        rcases hM with ⟨_, h⟩ | ⟨c, t, h | ⟨h, hc⟩⟩
        · exact Or.inl h
        · subst h
          obtain ⟨b, o, hao, c0, c1⟩ := hA.out 0 (by simp)
          simp only [Nat.zero_mul, Nat.add_zero, List.getElem_cons_zero] at c0 c1
          exact Or.inr ⟨by rw [hm.out]; simp, b, o, hao, Or.inl c1⟩
        · subst h
          obtain ⟨b, o, hao, c0, c1⟩ := hA.out 0 (by simp)
          simp only [Nat.zero_mul, Nat.add_zero, List.getElem_cons_zero] at c0 c1
          exact Or.inr ⟨by rw [hm.out]; simp, b, o, hao, Or.inr ⟨c, c1, c0, by rw [beq_eq_false_iff_ne]; exact hc⟩⟩
      have HD := Lib.hid HD
      clear hb hM hD
      rcases hfacts with rfl | ⟨hpos, b, o, rfl, c1 | ⟨c, c1, c0, q⟩⟩
      case' inr.inl => have hpos' : (0 : Int) < (m : Int) := by omega
      case' inr.inr => have hpos' : (0 : Int) < (m : Int) := by omega
      all_goals
        go_wp2_with fail
        go_loopw [0] (fun lv wr => ∃ (ao2 : Option Addr) (m2 cap2 : Nat) (M2 : List Sg), lv = .slice ao2 m2 cap2 ∧ Hid (m2 = M2.length) ∧ m2 ≤ cap2 ∧ m2 ≤ 1100000 ∧ Hid (Sgs w ao2 M2) ∧ Hid (trim L = trimR M2) ∧ w = wr) (fun lv _ => slen lv)
        case atStart => exact ⟨_, _, _, M, rfl, hm, hc, hl, hA, HD, rfl⟩
        case round =>
          clear hm hA HD hc hl
          obtain ⟨ao, m, cap, M, rfl, hm, hc, hl, hA, hD, rfl⟩ := hrel
          by_cases hb : ∃ A x, M = A ++ [x] ∧ blankS x = true
          · obtain ⟨A, x, rfl, hx⟩ := hb
            obtain ⟨k, rfl⟩ : ∃ k, m = k + 1 := ⟨A.length, by rw [hm.out]; simp⟩
            have hk : k = A.length := by have := hm.out; simp only [List.length_append, List.length_cons, List.length_nil] at this; omega
            have HX : Hid (trim L = trimR A) := hD.out.trans (trimR_endblank hx)
            obtain ⟨b, o, hao, c0, c1⟩ := hA.out k (by rw [hk]; simp)
            have hxe : (A ++ [x])[k]'(by rw [hk]; simp) = x := by subst hk; simp
            rw [hxe] at c0 c1
            have hS := sgs_take hA.out k
            rw [hk, List.take_left] at hS
            obtain ⟨c, bare⟩ := x
            unfold blankS at hx
            simp only [Bool.and_eq_true, decide_eq_true_eq] at hx
            obtain ⟨rfl, rfl⟩ := hx
            subst hao
            have HS := Lib.hid hS
            have HM := Lib.hid hk
            clear hS hm hD hA hk hxe
            go_wp2_with fail
            go_roundw
            case rel => exact ⟨_, _, _, A, rfl, HM, by omega, by omega, HS, HX, trivial⟩
            case measure => simp [slen] <;> omega
          · have hM : M = [] ∧ m = 0 ∨ ∃ A x, M = A ++ [x] := by
              cases hMM : M.reverse with
              | nil => have : M = [] := by simpa using hMM
                       subst this; exact Or.inl ⟨rfl, by rw [hm.out]; rfl⟩
              | cons x t => exact Or.inr ⟨t.reverse, x, by rw [← List.reverse_reverse M, hMM]; simp⟩
            have HT : Hid (trim L = M) := by
              show trim L = M
              rw [hD.out]
              rcases hM with ⟨rfl, _⟩ | ⟨A, x, rfl⟩
              · rfl
              · refine trimR_endkeep ?_
                cases hx : blankS x with
                | false => rfl
                | true => exact absurd ⟨A, x, rfl, hx⟩ hb
            have hfacts : m = 0 ∨ ∃ k, m = k + 1 ∧ ∃ b o, ao = some ⟨b, o, none⟩ ∧ ((w.cell? ⟨b, o + k * 2 + 1, none⟩ = some (.bool false)) ∨ ∃ c : UInt8, w.cell? ⟨b, o + k * 2 + 1, none⟩ = some (.bool true) ∧ w.cell? ⟨b, o + k * 2, none⟩ = some (.int .u8 (c.toNat : Int)) ∧ ((c.toNat : Int) == 32) = false) := by
              rcases hM with ⟨_, h⟩ | ⟨A, x, rfl⟩
              · exact Or.inl h
              · refine Or.inr ⟨A.length, by rw [hm.out]; simp, ?_⟩
                obtain ⟨b, o, hao, c0, c1⟩ := hA.out A.length (by simp)
                have hxe : (A ++ [x])[A.length]'(by simp) = x := by simp
                rw [hxe] at c0 c1
                refine ⟨b, o, hao, ?_⟩
                obtain ⟨c, bare⟩ := x
                cases bare with
                | false => exact Or.inl c1
                | true =>
                  refine Or.inr ⟨c, c1, c0, ?_⟩
                  rw [beq_eq_false_iff_ne]
                  intro h
                  apply hb
                  refine ⟨A, _, rfl, ?_⟩
                  show (true && decide (c = 32)) = true
                  rw [u8_eq (n := 32) (by omega) h]; rfl
            have FIN : Hid (∀ v, v = Value.slice ao m cap → TrimE L w (.returned v) w) := by
              intro v hv
              subst hv
              rw [hm.out]
              exact trimE_of HT.out (by rw [← hm.out]; exact hc) hA.out
            clear hb hM hD hm hA HT
            rcases hfacts with rfl | ⟨k, rfl, b, o, rfl, c1 | ⟨c, c1, c0, q⟩⟩
            all_goals
              go_wp2_with fail
              go_ret
              exact FIN.out _ rfl
end dnw
end Go.Proofs.YtckpiaigoeicfaaGreatDoor
/-! BRowW -/
namespace Go.Proofs.YtckpiaigoeicfaaGreatDoor
open Go.RowKit
namespace dnw
set_option linter.unusedVariables false
/-- an append's run, in a box: two of them are told apart by their arguments alone -/
structure ApX (P : Program) (t tn ty : TypeId) (vs vx : Value) (w : World) (v' : Value) (w' : World) : Prop where
  run : (Builtin.append_ #[t, tn] ty #[vs, vx]).run P w = .ok v' w'
theorem wp_apX {P : Program} {w : World} {ops : Array Oper} {rest : List Oper} {o : Oper} {a : Act} {Q : Exit → Act → World → Prop} (hgd : o.guard = none) (s x : Operand) (t tn : TypeId)
    (ho : o.op = .call { callee := .builtin .append, args := #[s, x], argTypes := #[t, tn] }) (v' : Value) (w' : World) (hr : ApX P t tn o.type (a.eval s) (a.eval x) w v' w') (h : wpList P ops Q rest (a.put o.dst v') w') : wpList P ops Q (o :: rest) a w :=
  Lib.wpList_append_run w hgd s x t tn ho _ _ rfl rfl v' w' hr.run h
def BRow (w : World) (B : Nat) (v : Value) (l : List UInt8) : Prop := w.ownsRow B 5 1 v (Lib.byteCells l).length (Lib.byteCells l)
theorem brow_made (w : World) (B : Nat) (hB : B ≤ w.heap.size) : BRow (w.alloc (.cells #[] 5)) B (.slice (some ⟨w.heap.size, 0, none⟩) 0 0) [] := World.ownsRow_made w #[] 0 hB (by unfold maxLen; omega) rfl
theorem brow_below {w w' : World} {B : Nat} {v : Value} {l : List UInt8} (h : BRow w B v l) (hb : Below w.heap.size w w') : BRow w' B v l := kt.row_below h hb
theorem brow_same {w w' : World} {B : Nat} {v : Value} {l : List UInt8} (h : BRow w B v l) (hs : ∀ k, B ≤ k → k < w.heap.size → w'.heap[k]? = w.heap[k]?) : BRow w' B v l := by
  refine ⟨h.1, ?_⟩
  rcases h.2 with h0 | ⟨g, cap, cur, hv, hBg, hg, h1, h2, h3, h4⟩
  · exact Or.inl h0
  · refine Or.inr ⟨g, cap, cur, hv, hBg, ?_, h1, h2, h3, h4⟩
    rw [hs g hBg (bld.lt_of_heap hg)]
    exact hg
theorem brow_form {w : World} {B : Nat} {v : Value} {l : List UInt8} (h : BRow w B v l) : ∃ (ao : Option Addr) (m cap : Nat), v = .slice ao m cap ∧ Hid (m = l.length) := by
  obtain ⟨ao, n, cap, h1, h2⟩ := kt.row_form h
  exact ⟨ao, n, cap, h1, by show _ = _; rw [h2.out, Lib.byteCells_length]⟩
theorem brow_app {w : World} {B : Nat} {v : Value} {l : List UInt8} (c : UInt8) (h : BRow w B v l) (hl : l.length ≤ 100000000) (hB : B ≤ w.heap.size) :
    ∃ ao m cap w1, (Builtin.append_ #[82, 82] 82 #[v, .slice (some ⟨w.heap.size, 0, none⟩) 1 1]).run Tryz.prog (w.alloc (.cells #[.int .u8 (c.toNat : Int)] 5)) = .ok (.slice ao m cap) w1 ∧ BRow w1 B (.slice ao m cap) (l ++ [c]) ∧ Below B w w1 := by
  have hlen : (Lib.byteCells l).length = l.length := Lib.byteCells_length l
  obtain ⟨v', w1, h1, h2, _, h3⟩ := kt.app1 (P := Tryz.prog) (ty := 82) Tryz.underlying82 bld.infoByte rfl (.int .u8 (c.toNat : Int)) rfl h (by rw [hlen]; unfold maxLen; omega) (by rw [hlen]; omega) hB
  have h2' : BRow w1 B v' (l ++ [c]) := by unfold BRow; rw [Lib.byteCells_append]; exact h2
  obtain ⟨ao, m, cap, rfl, _⟩ := brow_form h2'
  exact ⟨ao, m, cap, w1, h1, h2', h3⟩
theorem brow_app3 {w : World} {B : Nat} {v : Value} {l : List UInt8} (a b c : UInt8) (h : BRow w B v l) (hl : l.length ≤ 100000000) (hB : B ≤ w.heap.size) :
    ∃ ao m cap w1, (Builtin.append_ #[82, 82] 82 #[v, .slice (some ⟨w.heap.size, 0, none⟩) 3 3]).run Tryz.prog (w.alloc (.cells #[.int .u8 (a.toNat : Int), .int .u8 (b.toNat : Int), .int .u8 (c.toNat : Int)] 5)) = .ok (.slice ao m cap) w1 ∧ BRow w1 B (.slice ao m cap) (l ++ [a, b, c]) ∧ Below B w w1 := by
  have hlen : (Lib.byteCells l).length = l.length := Lib.byteCells_length l
  have hb0 : Below w.heap.size w (w.alloc (.cells #[.int .u8 (a.toNat : Int), .int .u8 (b.toNat : Int), .int .u8 (c.toNat : Int)] 5)) := (Below.refl _ _).alloc (Nat.le_refl _) _
  obtain ⟨v', w1, h1, h2, _, h3⟩ := kt.appN (P := Tryz.prog) (ty := 82) Tryz.underlying82 bld.infoByte rfl ⟨w.heap.size, 0, none⟩ 3 3 [.int .u8 (a.toNat : Int), .int .u8 (b.toNat : Int), .int .u8 (c.toNat : Int)] rfl (fun j u hj => by
    rw [kt.addr_add, World.cell?_alloc_new]
    simpa using hj) (fun u hu => by simp at hu; rcases hu with rfl | rfl | rfl <;> rfl) (kt.row_below h hb0) (by rw [hlen]; unfold maxLen; omega) (by rw [hlen]; omega) (by simp; omega)
  have h2' : BRow w1 B v' (l ++ [a, b, c]) := by unfold BRow; rw [Lib.byteCells_append]; exact h2
  obtain ⟨ao, m, cap, rfl, _⟩ := brow_form h2'
  exact ⟨ao, m, cap, w1, h1, h2', ((Below.refl B w).alloc hB _).trans h3⟩
theorem brow_str {w : World} {B : Nat} {v : Value} {l : List UInt8} (h : BRow w B v l) : (convert 82 9 v).run Tryz.prog w = .ok (.string ⟨l.toArray⟩) w := kt.str_of_row Tryz.underlying82 Tryz.underlying5 Tryz.underlying9 h
end dnw
end Go.Proofs.YtckpiaigoeicfaaGreatDoor
