/- THE STATEMENT 'AttrParts': whatever the input, the law returns true and leaves its input as it was. Conditions: those of the row alone (its listed variables are tied to the program's text by the given tie). -/
import Derived.Test.YtckpiaigoeicfaaGreatDoorB12
import Derived.Test.YtckpiaigoeicfaaGreatDoorB10
import Derived.Test.YtckpiaigoeicfaaGreatDoorB8
import Derived.Deep.DeepCutAuto
import Derived.Test.YtckpiaigoeicfaaGreatDoorB13
import Derived.Test.YtckpiaigoeicfaaGreatDoorCards
import Derived.Test.YtckpiaigoeicfaaGreatDoorTie
import Derived.Lay
import Derived.Lib.LaidU8
import Derived.Lib.SmallJoins
import Derived.PinnedBridge
import Derived.WalkKit
import Derived.ProofKit
import Derived.OpenShut
import Derived.ChangeOld
import Derived.Below
import Derived.SizedLaws
import Derived.LaidMore
import Derived.Deep.DeepHandedRow
import Derived.Deep.DeepWitnessRowRef
import Derived.Lib.LaidTab
/-! RPartW -/
namespace Go.Proofs.YtckpiaigoeicfaaGreatDoor
open Go.RowKit
namespace atw
open atp tupw prw
set_option linter.unusedVariables false
set_option linter.unusedSimpArgs false
theorem any_all {first last : ByteArray} {mids : List ByteArray} : (first :: (mids ++ [last])).any neB = (neB first || neB last || mids.any neB) := by
  rw [List.any_cons, List.any_append, List.any_cons, List.any_nil, Bool.or_false, Bool.or_assoc, Bool.or_comm (neB last)]
theorem partE_20 {syn : Int} {value first last : ByteArray} {mids : List ByteArray} (h : ¬ (syn = 1 ∨ syn = 2 ∨ syn = 7) ∨ 8 < mids.length ∨ (neB first || neB last || mids.any neB) = false) : partE syn value first last mids = (false, 20) := by
  unfold partE
  by_cases h1 : ¬ (syn = 1 ∨ syn = 2 ∨ syn = 7)
  · rw [if_pos h1]
  · rw [if_neg h1]
    by_cases h2 : 8 < mids.length
    · rw [if_pos h2]
    · rw [if_neg h2, any_all]
      rcases h with h | h | h
      · exact absurd h h1
      · exact absurd h h2
      · rw [if_pos h]
theorem partE_err {syn : Int} {value first last : ByteArray} {mids : List ByteArray} (h : syn = 1 ∨ syn = 2 ∨ syn = 7) (h8 : ¬ 8 < mids.length) (hs : (neB first || neB last || mids.any neB) = true) (he : (normL syn value.data.toList).2 ≠ 0) : partE syn value first last mids = (false, (normL syn value.data.toList).2) := by
  unfold partE
  rw [if_neg (not_not_intro h), if_neg h8, any_all, hs, if_neg (by simp), if_pos he]
theorem partE_no {syn : Int} {value first last : ByteArray} {mids : List ByteArray} (h : syn = 1 ∨ syn = 2 ∨ syn = 7) (h8 : ¬ 8 < mids.length) (hs : (neB first || neB last || mids.any neB) = true) (he : (normL syn value.data.toList).2 = 0) {x : ByteArray} (hx : x ∈ first :: (mids ++ [last])) (hn : pieceO syn x.data.toList = none) : partE syn value first last mids = (false, 19) := by
  unfold partE
  obtain ⟨i, hi, rfl⟩ := List.mem_iff_getElem.1 hx
  rw [if_neg (not_not_intro h), if_neg h8, any_all, hs, if_neg (by simp), if_neg (not_not_intro he), if_pos (allP_no hi hn)]
theorem partE_yes {syn : Int} {value first last : ByteArray} {mids : List ByteArray} (h : syn = 1 ∨ syn = 2 ∨ syn = 7) (h8 : ¬ 8 < mids.length) (hs : (neB first || neB last || mids.any neB) = true) (he : (normL syn value.data.toList).2 = 0) {a z : List UInt8} (ha : pieceO syn first.data.toList = some a) (hz : pieceO syn last.data.toList = some z) (hm : allP syn mids = true) :
    partE syn value first last mids = (partL (normL syn value.data.toList).1 a z (mids.map (gotP syn)), 0) := by
  have hall : allP syn (first :: (mids ++ [last])) = true := by
    unfold allP at hm ⊢
    rw [List.all_cons, List.all_append, hm, ha, List.all_cons, hz]; rfl
  have g1 : gotP syn first = a := by unfold gotP; rw [ha]; rfl
  have g2 : gotP syn last = z := by unfold gotP; rw [hz]; rfl
  unfold partE
  rw [if_neg (not_not_intro h), if_neg h8, any_all, hs, if_neg (by simp), if_neg (not_not_intro he), hall, if_neg (by simp), g1, g2]
theorem ne_emp (x : ByteArray) : x.toList.isEmpty = !(neB x) := by
  unfold neB
  rw [Lib.toList_data]
  cases h : x.data.toList with
  | nil => rfl
  | cons a t => rfl
theorem any_take {l : List ByteArray} {i : Nat} (h : i < l.length) (s : Bool) : (s || (l.take (i + 1)).any neB) = ((s || (l.take i).any neB) || neB l[i]) := by
  rw [List.take_succ_eq_append_getElem h, List.any_append, List.any_cons, List.any_nil, Bool.or_false, Bool.or_assoc]
theorem ext_pre (s : ByteArray) (n : Nat) : (s.extract 0 n).data.toList = s.data.toList.take n := by
  rw [ByteArray.data_extract, Array.toList_extract, List.extract_eq_take_drop, List.drop_zero, Nat.sub_zero]
theorem ext_suf (s : ByteArray) (k : Nat) : (s.extract k s.size).data.toList = s.data.toList.drop k := by
  rw [ByteArray.data_extract, Array.toList_extract, List.extract_eq_take_drop, List.take_of_length_le]
  rw [List.length_drop, kt.size_len]
  exact Nat.le_refl _
theorem greedy_no {p : List UInt8} {r : List (List UInt8)} {l : List UInt8} (h : Lib.index l p < 0) : greedy (p :: r) l = false := by
  show (if Lib.index l p < 0 then false else _) = _
  rw [if_pos h]
theorem greedy_yes {p : List UInt8} {r : List (List UInt8)} {l : List UInt8} (h : ¬ Lib.index l p < 0) : greedy (p :: r) l = greedy r (l.drop ((Lib.index l p).toNat + p.length)) := by
  show (if Lib.index l p < 0 then false else greedy r (l.drop ((Lib.index l p).toNat + p.length))) = _
  rw [if_neg h]
set_option maxRecDepth 20000 in
set_option maxHeartbeats 16000000 in
theorem rpart_any (nm : ByteArray) (syn : Int) (sg : Bool) (value first last : ByteArray) (mids : List ByteArray) (ao : Option Addr) (cap : Nat) (w : World)
    (hS : Hid (Strs w ao mids)) (hN : mids.length ≤ 20) (hv : value.size ≤ 140737488351232) (hz : Hid (∀ x ∈ first :: (mids ++ [last]), x.size ≤ 1100000)) :
    Calls Tryz.prog 15 #[.agg #[.string nm, .int .i64 syn, .bool sg], .string value, .string first, .slice ao mids.length cap, .string last] w fun e w' => e = .returned (.tuple #[.bool (partE syn value first last mids).1, .int .i64 (partE syn value first last mids).2]) ∧ Below w.heap.size w w' := by
  obtain ⟨W0, hW0⟩ : ∃ W, w.alloc (.cells #[.string nm, .int .i64 syn, .bool sg] 23) = W := ⟨_, rfl⟩
  have hB0 : Below w.heap.size w W0 := by rw [← hW0]; exact (Below.refl _ _).alloc (Nat.le_refl _) _
  have HB0 := Lib.hid hB0
  have hw0 : w.heap.size ≤ W0.heap.size := hB0.size
  have HTB0 : Hid (TB W0 w.heap.size nm syn sg) := by rw [← hW0]; exact tb_new w nm syn sg
  obtain ⟨k0, k1, k2⟩ := tb_cells HTB0.out
  have HS0 : Hid (Strs W0 ao mids) := strs_below hS.out hB0
  obtain ⟨R, hR⟩ : ∃ R, partE syn value first last mids = R := ⟨_, rfl⟩
  have H20 := fun h => hR.symm.trans (partE_20 (syn := syn) (value := value) (first := first) (last := last) (mids := mids) h)
  have HERR := fun h h8 hs he => hR.symm.trans (partE_err (syn := syn) (value := value) (first := first) (last := last) (mids := mids) h h8 hs he)
  have HNO := fun h h8 hs he x hx hn => hR.symm.trans (partE_no (syn := syn) (value := value) (first := first) (last := last) (mids := mids) h h8 hs he (x := x) hx hn)
  have HYES := fun h h8 hs he a z ha hz hm => hR.symm.trans (partE_yes (syn := syn) (value := value) (first := first) (last := last) (mids := mids) h h8 hs he (a := a) (z := z) ha hz hm)
  have HF : Hid (∀ w, Calls Tryz.prog 37 #[.agg #[.string nm, .int .i64 syn, .bool sg], .string first] w fun e w' => e = .returned (prw.pairV (pieceO syn first.data.toList)) ∧ Below w.heap.size w w') := fun w => rpiece_any nm syn sg first w (hz.out first (by simp))
  have HL : Hid (∀ w, Calls Tryz.prog 37 #[.agg #[.string nm, .int .i64 syn, .bool sg], .string last] w fun e w' => e = .returned (prw.pairV (pieceO syn last.data.toList)) ∧ Below w.heap.size w w') := fun w => rpiece_any nm syn sg last w (hz.out last (by simp))
  have HM : Hid (∀ x ∈ mids, ∀ w, Calls Tryz.prog 37 #[.agg #[.string nm, .int .i64 syn, .bool sg], .string x] w fun e w' => e = .returned (prw.pairV (pieceO syn x.data.toList)) ∧ Below w.heap.size w w') := fun x hx w => rpiece_any nm syn sg x w (hz.out x (by simp [hx]))
  have HFL : Hid (∀ o, pieceO syn first.data.toList = some o → o.length ≤ 1100000) := fun o h => Nat.le_trans (by have := piece_len h; rwa [kt.size_len] at this) (hz.out first (by simp))
  have HLL : Hid (∀ o, pieceO syn last.data.toList = some o → o.length ≤ 1100000) := fun o h => Nat.le_trans (by have := piece_len h; rwa [kt.size_len] at this) (hz.out last (by simp))
  have HML : Hid (∀ x ∈ mids, (gotP syn x).length ≤ 1100000) := fun x hx => Nat.le_trans (gotP_len syn x) (hz.out x (by simp [hx]))
  have HNRM : Hid (∀ w, Calls Tryz.prog 20 #[.agg #[.string nm, .int .i64 syn, .bool sg], .string value] w fun e w' => e = .returned (normV (normL syn value.data.toList)) ∧ Below w.heap.size w w') := fun w => rnormal_any nm syn sg value w hv
  obtain ⟨nl, hnl⟩ : ∃ u, normL syn value.data.toList = u := ⟨_, rfl⟩
  have HNL : Hid ((syn = 1 ∨ syn = 2 ∨ syn = 7) → nl.1.length ≤ 1000) := by rw [← hnl]; exact fun h => norm_len h
  rw [hnl] at HNRM HERR HNO HYES
  rw [hR]
  clear hnl hR hB0 hS
  obtain ⟨u, er⟩ := nl
  have HN : Hid (∀ w, Calls Tryz.prog 20 #[.agg #[.string nm, .int .i64 syn, .bool sg], .string value] w fun e w' => e = .returned (.tuple #[.string (bs u), .int .i64 er]) ∧ Below w.heap.size w w') := HNRM
  have H20 := Lib.hid H20
  have HERR := Lib.hid HERR
  have HNO := Lib.hid HNO
  have HYES := Lib.hid HYES
  clear HNRM
  obtain ⟨N, hNe⟩ : ∃ N, mids.length = N := ⟨_, rfl⟩
  have HNe := Lib.hid hNe
  rw [hNe] at hN H20 HERR HNO HYES ⊢
  clear hNe
  obtain ⟨s0, hs0⟩ : ∃ s0, (neB first || neB last) = s0 := ⟨_, rfl⟩
  rw [hs0] at H20 HERR HNO HYES
  have hcase : (first.toList.isEmpty = false ∧ s0 = true) ∨ (first.toList.isEmpty = true ∧ (!last.toList.isEmpty) = s0) := by
    rw [ne_emp, ne_emp, ← hs0]
    cases neB first
    · exact Or.inr ⟨rfl, by cases neB last <;> rfl⟩
    · exact Or.inl ⟨rfl, rfl⟩
  clear hs0
  go_enter Tryz.func15, Tryz.ntmps15
  go_upto_region 1 with fail
  go_cut [12] (fun s12 wx => s12 = .bool s0 ∧ wx = W0)
  case first =>
    rcases hcase with ⟨h1, h2⟩ | ⟨h1, h2⟩
    · subst h2
      go_wp2_with fail
      go_meet
      exact ⟨rfl, rfl⟩
    · have H2 := Lib.hid h2
      clear h2
      go_wp2_with fail
      go_meet
      exact ⟨by rw [← H2.out], rfl⟩
  case rest =>
    obtain ⟨rfl, rfl⟩ := hcut
    clear hcase
    go_wp2_with fail
    go_loop [12, 13] (fun sv iv => ∃ i : Nat, i ≤ N ∧ iv = .int .i64 (i : Int) ∧ ∃ b : Bool, sv = .bool b ∧ Hid ((s0 || (mids.take i).any neB) = b)) (fun _ iv => N - (intOf iv).toNat)
    case atStart => exact ⟨0, Nat.zero_le _, rfl, s0, rfl, by show (s0 || [].any neB) = s0; simp⟩
    case round =>
      obtain ⟨i, hi, rfl, b, rfl, hb⟩ := hrel
      by_cases hlt : i < N
      · have hltI : (i : Int) < (N : Int) := by omega
        have hil : i < mids.length := by rw [HNe.out]; exact hlt
        obtain ⟨g, o, hao, hc0⟩ := HS0.out i hil
        subst hao
        have HST := Lib.hid (any_take hil s0)
        have hne := ne_emp mids[i]
        generalize mids[i] = x at hc0 HST hne
        cases b with
        | true =>
          have HB' : Hid ((s0 || (mids.take (i + 1)).any neB) = true) := by rw [HST.out, hb.out]; rfl
          clear hne hc0
          go_wp2_with fail
          go_round
          case rel => exact ⟨i + 1, by omega, by go_num, true, rfl, HB'⟩
          case measure => simp [intOf]; omega
        | false =>
          have HB' : Hid ((s0 || (mids.take (i + 1)).any neB) = neB x) := by rw [HST.out, hb.out]; rfl
          cases hx : neB x
          all_goals
            rw [hx] at HB' hne
            clear hx
            go_wp2_with fail
            go_round
            case rel => exact ⟨i + 1, by omega, by go_num, _, rfl, HB'⟩
            case measure => simp [intOf]; omega
      · obtain rfl : N = i := by omega
        have hb' := hb.out
        rw [← HNe.out, List.take_length] at hb'
        have HS1 := Lib.hid hb'
        clear hb hb'
        rcases fit_cases syn with hsy | ⟨hno, q1, q2, q7⟩
        · cases b with
          | false =>
            have HR := Lib.hid (H20.out (Or.inr (Or.inr HS1.out)))
            rcases hsy with rfl | rfl | rfl
            all_goals
              go_wp2_with fail
              go_ret2
              exact ⟨by (rw [HR.out] <;> rfl), HB0.out⟩
          | true =>
            by_cases h8 : 8 < N
            · have HR := Lib.hid (H20.out (Or.inr (Or.inl h8)))
              have h8I : (8 : Int) < (N : Int) := by omega
              clear h8
              rcases hsy with rfl | rfl | rfl
              all_goals
                go_wp2_with fail
                go_ret2
                exact ⟨by (rw [HR.out] <;> rfl), HB0.out⟩
            · have h8D : decide ((8 : Int) < (N : Int)) = false := by rw [decide_eq_false_iff_not]; omega
              have hsy' := hsy
              have hqs : (syn != 1) = false ∨ ((syn != 1) = true ∧ (syn != 2) = false) ∨ ((syn != 1) = true ∧ (syn != 2) = true ∧ (syn != 7) = false) := by
                rcases hsy' with rfl | rfl | rfl
                · exact Or.inl rfl
                · exact Or.inr (Or.inl ⟨rfl, rfl⟩)
                · exact Or.inr (Or.inr ⟨rfl, rfl, rfl⟩)
              clear hsy'
              rcases hqs with q1 | ⟨q1, q2⟩ | ⟨q1, q2, q7⟩
              all_goals
                go_wp2_with fail
                refine (HN.out _).mono ?_
                rintro e w1 ⟨rfl, hB1⟩
                have HB1 := Lib.hid (HB0.out.trans (hB1.mono hw0))
                have HBS1 := Lib.hid hB1
                have HT1 := Lib.hid (tb_below HTB0.out hB1)
                obtain ⟨m0, m1, m2⟩ := tb_cells HT1.out
                clear hB1 hW0 k0 k1 k2
                by_cases her : er = 0
                · subst her
                  have q0 : ((0 : Int) != 0) = false := by decide
                  have hul := HNL.out hsy
                  cases hpf : pieceO syn first.data.toList with
                  | none =>
                    have HR := Lib.hid (HNO.out hsy h8 HS1.out (by first | trivial | rfl) first (by simp) hpf)
                    rw [hpf] at HF
                    have HF1 : Hid (∀ w, Calls Tryz.prog 37 #[.agg #[.string nm, .int .i64 syn, .bool sg], .string first] w fun e w' => e = .returned (.tuple #[.string ⟨#[]⟩, .int .i64 19]) ∧ Below w.heap.size w w') := HF
                    clear hpf
                    go_wp2_with fail
                    refine (HF1.out _).mono ?_
                    rintro e w2 ⟨rfl, hB2⟩
                    have HB2 := Lib.hid (HB1.out.trans (hB2.mono HB1.out.size))
                    clear hB2 m0 m1 m2
                    go_wp2_with fail
                    go_ret2
                    exact ⟨by (rw [HR.out] <;> rfl), HB2.out⟩
                  | some a =>
                    have hal := HFL.out a hpf
                    rw [hpf] at HF
                    have HF1 : Hid (∀ w, Calls Tryz.prog 37 #[.agg #[.string nm, .int .i64 syn, .bool sg], .string first] w fun e w' => e = .returned (.tuple #[.string (bs a), .int .i64 0]) ∧ Below w.heap.size w w') := HF
                    have HPF := Lib.hid hpf
                    clear hpf
                    go_wp2_with fail
                    refine (HF1.out _).mono ?_
                    rintro e w2 ⟨rfl, hB2⟩
                    have HB2 := Lib.hid (HB1.out.trans (hB2.mono HB1.out.size))
                    have HT2 := Lib.hid (tb_below HT1.out hB2)
                    have HST2 : Hid (Strs w2 ao mids) := strs_below (strs_below HS0.out HBS1.out) hB2
                    have hw2 : w.heap.size ≤ w2.heap.size := HB2.out.size
                    clear hB2 m0 m1 m2
                    go_wp2_with fail
                    go_loopw [17, 18, 19, 20] (fun mv iv _ _ wr => ∃ i : Nat, i ≤ N ∧ iv = .int .i64 (i : Int) ∧ Hid (allP syn (mids.take i) = true) ∧ Hid (OwnT wr w2.heap.size mv ((mids.take i).map fun x => bs (gotP syn x))) ∧ Hid (Below w2.heap.size w2 wr)) (fun _ iv _ _ _ => N - (intOf iv).toNat)
                    case atStart => exact ⟨0, Nat.zero_le _, rfl, rfl, World.ownsRow_made _ #[] 0 (by simp) (by unfold maxLen; omega) rfl, (Below.refl _ _).alloc (Nat.le_refl _) _⟩
                    case round =>
                      obtain ⟨i, hi, rfl, hall, hO, hBr⟩ := hrel
                      have hsz := hBr.out.size
                      have HTr := Lib.hid (tb_below HT2.out hBr.out)
                      obtain ⟨n0, n1, n2⟩ := tb_cells HTr.out
                      obtain ⟨aoR, mR, capR, rfl, hmR⟩ := dnw.ownT_form hO.out
                      by_cases hlt : i < N
                      · have hltI : (i : Int) < (N : Int) := by omega
                        have hil : i < mids.length := by rw [HNe.out]; exact hlt
                        obtain ⟨b, o, hao, hc0⟩ := (strs_below HST2.out hBr.out) i hil
                        subst hao
                        have HP0 := HM.out mids[i] (List.getElem_mem _)
                        have HSTEP := Lib.hid (dnw.takeMap_step (fun x => bs (gotP syn x)) mids i hil)
                        have HAL := Lib.hid (allP_step (syn := syn) hil)
                        have HNOi := Lib.hid (HNO.out hsy h8 HS1.out (by first | trivial | rfl) mids[i] (by simp))
                        have HGP : Hid (∀ o, pieceO syn mids[i].data.toList = some o → gotP syn mids[i] = o) := by
                          intro o ho
                          unfold gotP
                          rw [ho]; rfl
                        have hml : ((mids.take i).map fun x => bs (gotP syn x)).length ≤ 20 := by rw [List.length_map, List.length_take]; omega
                        have HMLN := Lib.hid hml
                        clear hml
                        generalize mids[i] = x at hc0 HP0 HSTEP HAL HNOi HGP
                        cases hp : pieceO syn x.data.toList with
                        | none =>
                          have HR := Lib.hid (HNOi.out hp)
                          rw [hp] at HP0
                          have HP : Hid (∀ w, Calls Tryz.prog 37 #[.agg #[.string nm, .int .i64 syn, .bool sg], .string x] w fun e w' => e = .returned (.tuple #[.string ⟨#[]⟩, .int .i64 19]) ∧ Below w.heap.size w w') := HP0
                          have hl1 := World.block_lt_of_cell? wr _ n0
                          have hl2 := World.block_lt_of_cell? wr _ hc0
                          clear HP0 HNOi HGP hp HSTEP HAL
                          go_wp2_with fail
                          go_region_held3 (fun W => W.cell? ⟨w.heap.size, 0, none⟩ = some (.string nm) ∧ W.cell? ⟨w.heap.size, 1, none⟩ = some (.int .i64 syn) ∧ W.cell? ⟨w.heap.size, 2, none⟩ = some (.bool sg) ∧ W.cell? ⟨b, o + i, none⟩ = some (.string x)) (first
                              | exact ⟨n0, n1, n2, hc0⟩
                              | exact ⟨(hB6.cell (p := ⟨w.heap.size, 0, none⟩) hl1).trans n0, (hB6.cell (p := ⟨w.heap.size, 1, none⟩) hl1).trans n1, (hB6.cell (p := ⟨w.heap.size, 2, none⟩) hl1).trans n2, (hB6.cell (p := ⟨b, o + i, none⟩) hl2).trans hc0⟩)
                            (first | (go_at_call 37; refine (HP.out _).mono ?_; rintro e w6 ⟨rfl, hB6⟩) | fail)
                          all_goals
                            have HB6 := Lib.hid (HB2.out.trans ((hBr.out.trans (((Below.refl wr.heap.size wr).drew.trans hB6).mono hsz)).mono hw2))
                            clear hB6 n0 n1 n2 hc0
                            go_wp2_with fail
                            go_ret2
                            exact ⟨by (rw [HR.out] <;> rfl), HB6.out⟩
                        | some p =>
                          have hgp := HGP.out p hp
                          rw [hp] at HP0 HAL
                          rw [hgp] at HSTEP
                          have HALL : Hid (allP syn (mids.take (i + 1)) = true) := by rw [HAL.out, hall.out]; rfl
                          have HP : Hid (∀ w, Calls Tryz.prog 37 #[.agg #[.string nm, .int .i64 syn, .bool sg], .string x] w fun e w' => e = .returned (.tuple #[.string (bs p), .int .i64 0]) ∧ Below w.heap.size w w') := HP0
                          have hl1 := World.block_lt_of_cell? wr _ n0
                          have hl2 := World.block_lt_of_cell? wr _ hc0
                          generalize bs p = P at HP HSTEP
                          clear HP0 HNOi HGP hp HAL hgp
                          go_wp2_with fail
                          go_region_held3 (fun W => W.cell? ⟨w.heap.size, 0, none⟩ = some (.string nm) ∧ W.cell? ⟨w.heap.size, 1, none⟩ = some (.int .i64 syn) ∧ W.cell? ⟨w.heap.size, 2, none⟩ = some (.bool sg) ∧ W.cell? ⟨b, o + i, none⟩ = some (.string x)) (first
                              | exact ⟨n0, n1, n2, hc0⟩
                              | exact ⟨(hB6.cell (p := ⟨w.heap.size, 0, none⟩) hl1).trans n0, (hB6.cell (p := ⟨w.heap.size, 1, none⟩) hl1).trans n1, (hB6.cell (p := ⟨w.heap.size, 2, none⟩) hl1).trans n2, (hB6.cell (p := ⟨b, o + i, none⟩) hl2).trans hc0⟩)
                            (first | (go_at_call 37; refine (HP.out _).mono ?_; rintro e w6 ⟨rfl, hB6⟩) | fail)
                          all_goals
                            have hBd : Below wr.heap.size wr w6 := (Below.refl wr.heap.size wr).drew.trans hB6
                            have hB26 : Below w2.heap.size w2 w6 := hBr.out.trans (hBd.mono hsz)
                            obtain ⟨ao7, m7, cap7, w7, hap, hO7, hg7, hB7⟩ := dnw.ownT_appG P (dnw.ownT_below hO.out hBd) (Nat.le_trans HMLN.out (by omega)) hB26.size
                            have HO7 := Lib.hid hO7
                            have HB7 := Lib.hid (hB26.trans hB7)
                            clear hO7 hg7 hB7 hB26 hBd hB6 n0 n1 n2 hc0
                            go_wp2_with (at_builtin; refine Lib.wpList_append_run _ rfl _ _ _ _ rfl _ _ rfl rfl _ _ hap ?_)
                            go_roundw
                            case rel =>
                              refine ⟨i + 1, by omega, by go_num, HALL, ?_, HB7⟩
                              show prw.OwnT _ _ _ _
                              rw [HSTEP.out]
                              exact HO7.out
                            case measure => simp [intOf]; omega
                      · obtain rfl : N = i := by omega
                        have HALL : Hid (allP syn mids = true) := by
                          have := hall.out
                          rw [← HNe.out, List.take_length] at this
                          exact this
                        have HOM : Hid (OwnT wr w2.heap.size (.slice aoR mR capR) (mids.map fun x => bs (gotP syn x))) := by
                          have := hO.out
                          rw [← HNe.out, List.take_length] at this
                          exact this
                        have hmi : mR = N := by rw [hmR.out, List.length_map, List.length_take, HNe.out]; omega
                        subst hmi
                        have HBw := Lib.hid (HB2.out.trans (hBr.out.mono hw2))
                        clear hall hO hmR
                        cases hpl : pieceO syn last.data.toList with
                        | none =>
                          have HR := Lib.hid (HNO.out hsy h8 HS1.out (by first | trivial | rfl) last (by simp) hpl)
                          rw [hpl] at HL
                          have HL1 : Hid (∀ w, Calls Tryz.prog 37 #[.agg #[.string nm, .int .i64 syn, .bool sg], .string last] w fun e w' => e = .returned (.tuple #[.string ⟨#[]⟩, .int .i64 19]) ∧ Below w.heap.size w w') := HL
                          clear hpl
                          go_wp2_with fail
                          refine (HL1.out _).mono ?_
                          rintro e w3 ⟨rfl, hB3⟩
                          have HB3 := Lib.hid (HBw.out.trans (hB3.mono HBw.out.size))
                          clear hB3 n0 n1 n2
                          go_wp2_with fail
                          go_ret2
                          exact ⟨by (rw [HR.out] <;> rfl), HB3.out⟩
                        | some z =>
                          have hzl := HLL.out z hpl
                          have HR := Lib.hid (HYES.out hsy h8 HS1.out (by first | trivial | rfl) a z HPF.out hpl HALL.out)
                          rw [hpl] at HL
                          have HL1 : Hid (∀ w, Calls Tryz.prog 37 #[.agg #[.string nm, .int .i64 syn, .bool sg], .string last] w fun e w' => e = .returned (.tuple #[.string (bs z), .int .i64 0]) ∧ Below w.heap.size w w') := HL
                          clear hpl
                          have hMS : ∀ j (hj : j < mids.length), ((mids.map (gotP syn)).drop j = gotP syn mids[j] :: (mids.map (gotP syn)).drop (j + 1)) ∧ ((mids.map fun x => bs (gotP syn x))[j]? = some (bs (gotP syn mids[j]))) ∧ (gotP syn mids[j]).length ≤ 1100000 := by
                            intro j hj
                            refine ⟨?_, ?_, HML.out _ (List.getElem_mem _)⟩
                            · rw [List.drop_eq_getElem_cons (by rw [List.length_map]; exact hj), List.getElem_map]
                            · rw [List.getElem?_map, List.getElem?_eq_getElem hj]; rfl
                          have hEND : ∀ l, greedy ((mids.map (gotP syn)).drop mR) l = true := by
                            intro l
                            rw [List.drop_eq_nil_of_le (by rw [List.length_map, HNe.out]; exact Nat.le_refl _)]
                            rfl
                          have HSTR := dnw.ownT_strs HOM.out
                          have hcm : Hid (∀ j, j < mR → ∃ p : List UInt8, (∃ b o, aoR = some ⟨b, o, none⟩ ∧ wr.cell? ⟨b, o + j, none⟩ = some (.string (bs p))) ∧ (mids.map (gotP syn)).drop j = p :: (mids.map (gotP syn)).drop (j + 1) ∧ p.length ≤ 1100000) := by
                            intro j hj
                            have hj2 : j < mids.length := by rw [HNe.out]; exact hj
                            obtain ⟨e1, e2, e3⟩ := hMS j hj2
                            refine ⟨_, ?_, e1, e3⟩
                            obtain ⟨b, o, h1, h2⟩ := HSTR.1 j (by rw [List.length_map]; exact hj2)
                            refine ⟨b, o, h1, ?_⟩
                            rw [h2]
                            rw [List.getElem?_eq_getElem (by rw [List.length_map]; exact hj2)] at e2
                            rw [Option.some.inj e2]
                          have HEND := Lib.hid hEND
                          clear hMS hEND HSTR
                          generalize mids.map (gotP syn) = ms at HR hcm HEND
                          go_wp2_with fail
                          refine (HL1.out _).mono ?_
                          rintro e w3 ⟨rfl, hB3⟩
                          have HB3 := Lib.hid (HBw.out.trans (hB3.mono HBw.out.size))
                          have HCM : Hid (∀ j, j < mR → ∃ p : List UInt8, (∃ b o, aoR = some ⟨b, o, none⟩ ∧ w3.cell? ⟨b, o + j, none⟩ = some (.string (bs p))) ∧ ms.drop j = p :: ms.drop (j + 1) ∧ p.length ≤ 1100000) := by
                            intro j hj
                            obtain ⟨p, ⟨b, o, h1, h2⟩, h3⟩ := hcm.out j hj
                            exact ⟨p, ⟨b, o, h1, (hB3.cell (p := ⟨b, o + j, none⟩) (World.block_lt_of_cell? wr _ h2)).trans h2⟩, h3⟩
                          have hw3 : w.heap.size ≤ w3.heap.size := HB3.out.size
                          clear hB3 n0 n1 n2 hcm
                          have hxs : (bs u).size ≤ 1000 := by rw [bs_size]; exact hul
                          have has : (bs a).size ≤ 1100000 := by rw [bs_size]; exact hal
                          have hzs : (bs z).size ≤ 1100000 := by rw [bs_size]; exact hzl
                          have HNO3 : Hid (¬ ((bs a).size + (bs z).size ≤ (bs u).size ∧ (bs u).extract 0 (bs a).size = bs a ∧ (bs u).extract ((bs u).size - (bs z).size) (bs u).size = bs z) → R = (false, 0)) := by
                            intro h
                            rw [HR.out, partR_no (by
                              intro h2
                              apply h
                              refine ⟨by rw [bs_size, bs_size, bs_size]; exact h2.1, ?_, ?_⟩
                              · apply kt.str_eq; rw [ext_pre, bs_data, bs_data, bs_size]; exact h2.2.1
                              · apply kt.str_eq; rw [ext_suf, bs_data, bs_data, bs_size, bs_size]; exact h2.2.2)]
                          have HYES3 : Hid ((bs a).size + (bs z).size ≤ (bs u).size → (bs u).extract 0 (bs a).size = bs a → (bs u).extract ((bs u).size - (bs z).size) (bs u).size = bs z → R = (greedy ms ((((bs u).extract 0 ((bs u).size - (bs z).size)).data.toList).drop (bs a).size), 0)) := by
                            intro h1 h2 h3
                            rw [bs_size, bs_size, bs_size] at h1
                            have h2' := congrArg (fun x : ByteArray => x.data.toList) h2
                            have h3' := congrArg (fun x : ByteArray => x.data.toList) h3
                            rw [ext_pre, bs_data, bs_data, bs_size] at h2'
                            rw [ext_suf, bs_data, bs_data, bs_size, bs_size] at h3'
                            rw [HR.out, partR_yes h1 h2' h3', ext_pre, bs_data, bs_size, bs_size, bs_size]
                          clear HR
                          generalize bs u = X at *
                          generalize bs a = A at *
                          generalize bs z = Z at *
                          clear HYES HNO HERR H20 HF HF1 HL HL1 HM HN HML HNL HFL HLL HPF HALL HOM HST2 hBr
                          by_cases c1 : A.size + Z.size ≤ X.size
                          · have d1 : decide ((X.size : Int) < (A.size : Int) + (Z.size : Int)) = false := by rw [decide_eq_false_iff_not]; omega
                            have d1' : ¬ ((X.size : Int) < (A.size : Int) + (Z.size : Int)) := by omega
                            obtain ⟨K, hK⟩ : ∃ K, X.size - Z.size = K := ⟨_, rfl⟩
                            have hKI : (X.size : Int) - (Z.size : Int) = (K : Int) := by omega
                            have hAK : A.size ≤ K := by omega
                            have hKX : K ≤ X.size := by omega
                            have hAX : A.size ≤ X.size := by omega
                            have hKd : ¬ (X.size : Int) < (K : Int) := by omega
                            rw [hK] at HNO3 HYES3
                            by_cases c2 : X.extract 0 A.size = A
                            · have d2 : ((X.extract 0 A.size).toList == A.toList) = true := by rw [c2]; simp
                              by_cases c3 : X.extract K X.size = Z
                              · have d3 : ((X.extract K X.size).toList == Z.toList) = true := by rw [c3]; simp
                                have HR := Lib.hid (HYES3.out c1 c2 c3)
                                have hYs : (X.extract 0 K).size = K := by rw [ByteArray.size_extract]; omega
                                have hwr1 : IntKind.i64.wrap ((X.size : Int) - (Z.size : Int)) = (K : Int) := by rw [hKI]; exact IntWalk.i64_in _ (by omega)
                                have HKI := Lib.hid hKI
                                clear HNO3 HYES3 c1 c2 c3 hK
                                go_wp2_with fail
                                clear d2 d3
                                go_loopw [22, 23, 24] (fun av iv _ w5 => ∃ j : Nat, j ≤ mR ∧ iv = .int .i64 (j : Int) ∧ ∃ at_ : Nat, av = .int .i64 (at_ : Int) ∧ at_ ≤ K ∧ Hid (R = (greedy (ms.drop j) ((X.extract 0 K).data.toList.drop at_), 0)) ∧ Hid (Below w3.heap.size w3 w5)) (fun _ iv _ _ => mR - (intOf iv).toNat)
                                case atStart => exact ⟨0, Nat.zero_le _, rfl, A.size, rfl, hAK, HR, Below.refl _ _⟩
                                case round =>
                                  obtain ⟨j, hj, rfl, at_, rfl, hat, hRj, hB5⟩ := hrel
                                  by_cases hlt2 : j < mR
                                  · have hltJ : (j : Int) < (mR : Int) := by omega
                                    obtain ⟨p, ⟨b, o, hao, cp0⟩, hdr, hpl⟩ := HCM.out j hlt2
                                    subst hao
                                    have cp1 := (hB5.out.cell (p := ⟨b, o + j, none⟩) (World.block_lt_of_cell? _ _ cp0)).trans cp0
                                    have hps : (bs p).size ≤ 1100000 := by rw [bs_size]; exact hpl
                                    have hSA := fun w => stands_any (X.extract 0 K) (bs p) at_ w (by rw [hYs]; omega) (by omega) (by omega)
                                    have hRd := hRj.out
                                    rw [hdr] at hRd
                                    have hst := stand_eq (s := (X.extract 0 K).data.toList) (p := p) (k := at_) (by rw [kt.size_len, hYs]; exact hat)
                                    have hbp : (bs p).data.toList = p := bs_data p
                                    by_cases hix : Lib.index ((X.extract 0 K).data.toList.drop at_) p < 0
                                    · rw [greedy_no hix] at hRd
                                      rw [if_pos hix] at hst
                                      rw [hbp, hst] at hSA
                                      have HSA := Lib.hid hSA
                                      have HR3 := Lib.hid hRd
                                      clear hRd hdr hst hSA hix hRj cp0 hbp
                                      generalize bs p = P at cp1 hps HSA
                                      go_wp2_with fail
                                      go_quiet ((go_at_call 38; exact Calls.quiet_of_same (kt.flip (HSA.out _))))
                                      have HB6 := Lib.hid (HB3.out.trans ((below_dr hB5.out nq).mono hw3))
                                      generalize wr.drewN nq = w6 at HB6 ⊢
                                      clear cp1
                                      go_wp2_with fail
                                      go_ret2
                                      exact ⟨by (rw [HR3.out] <;> rfl), HB6.out⟩
                                    · rw [greedy_yes hix, List.drop_drop] at hRd
                                      rw [if_neg hix] at hst
                                      have hroom := Lib.index_room ((X.extract 0 K).data.toList.drop at_) p (by omega)
                                      rw [List.length_drop, kt.size_len, hYs] at hroom
                                      obtain ⟨q, hq⟩ : ∃ q : Nat, Lib.index ((X.extract 0 K).data.toList.drop at_) p = (q : Int) := ⟨_, (Int.toNat_of_nonneg (by omega)).symm⟩
                                      rw [hq] at hst hroom hRd
                                      rw [Int.toNat_natCast] at hRd
                                      obtain ⟨v, hv'⟩ : ∃ v : Nat, at_ + q = v := ⟨_, rfl⟩
                                      have hvI : (at_ : Int) + (q : Int) = (v : Int) := by omega
                                      rw [hvI] at hst
                                      rw [hbp, hst] at hSA
                                      have hvp : v + p.length ≤ K := by omega
                                      rw [show at_ + (q + p.length) = v + p.length by omega] at hRd
                                      have hbl : p.length = (bs p).size := (bs_size p).symm
                                      rw [hbl] at hRd hvp
                                      have HSA := Lib.hid hSA
                                      have HR3 := Lib.hid hRd
                                      clear hRd hdr hst hSA hix hRj cp0 hbp hroom hq hvI hv' hbl
                                      generalize bs p = P at cp1 hps HSA hvp HR3
                                      go_wp2_with fail
                                      go_quiet ((go_at_call 38; exact Calls.quiet_of_same (kt.flip (HSA.out _))))
                                      have HB6 := Lib.hid (below_dr hB5.out nq)
                                      have cp2 := ((below_dr (Below.refl wr.heap.size wr) nq).cell (p := ⟨b, o + j, none⟩) (World.block_lt_of_cell? _ _ cp1)).trans cp1
                                      generalize wr.drewN nq = w6 at HB6 cp2 ⊢
                                      clear cp1
                                      go_wp2_with fail
                                      go_roundw
                                      case rel => exact ⟨j + 1, by omega, by go_num, v + P.size, by go_num, hvp, HR3, HB6⟩
                                      case measure => simp [intOf]; omega
                                  · obtain rfl : j = mR := by omega
                                    have HR3 : Hid (R = (true, 0)) := by rw [hRj.out, HEND.out]; exact rfl
                                    go_wp2_with fail
                                    go_ret2
                                    exact ⟨by (rw [HR3.out] <;> rfl), HB3.out.trans (hB5.out.mono hw3)⟩
                              · have d3 : ((X.extract K X.size).toList == Z.toList) = false := by
                                  rw [beq_eq_false_iff_ne, Lib.toList_data, Lib.toList_data]
                                  exact fun h => c3 (kt.str_eq h)
                                have HR := Lib.hid (HNO3.out fun h => c3 h.2.2)
                                clear HNO3 HYES3 c1 c2 c3 hK
                                go_wp2_with fail
                                go_ret2
                                exact ⟨by (rw [HR.out] <;> rfl), HB3.out⟩
                            · have d2 : ((X.extract 0 A.size).toList == A.toList) = false := by
                                rw [beq_eq_false_iff_ne, Lib.toList_data, Lib.toList_data]
                                exact fun h => c2 (kt.str_eq h)
                              have HR := Lib.hid (HNO3.out fun h => c2 h.2.1)
                              clear HNO3 HYES3 c1 c2 hK
                              go_wp2_with fail
                              go_ret2
                              exact ⟨by (rw [HR.out] <;> rfl), HB3.out⟩
                          · have d1 : decide ((X.size : Int) < (A.size : Int) + (Z.size : Int)) = true := by rw [decide_eq_true_iff]; omega
                            have d1' : (X.size : Int) < (A.size : Int) + (Z.size : Int) := by omega
                            have HR := Lib.hid (HNO3.out fun h => c1 h.1)
                            clear HNO3 HYES3 c1
                            go_wp2_with fail
                            go_ret2
                            exact ⟨by (rw [HR.out] <;> rfl), HB3.out⟩
                · have HR := Lib.hid (HERR.out hsy h8 HS1.out her)
                  have q0 : (er != 0) = true := by rw [bne_iff_ne]; exact her
                  clear her
                  go_wp2_with fail
                  go_ret2
                  exact ⟨by (rw [HR.out] <;> rfl), HB1.out⟩
        · have HR := Lib.hid (H20.out (Or.inl hno))
          have p1 : (syn != 1) = true := by rw [bne, q1]; rfl
          have p2 : (syn != 2) = true := by rw [bne, q2]; rfl
          have p7 : (syn != 7) = true := by rw [bne, q7]; rfl
          clear hno q1 q2 q7
          go_wp2_with fail
          go_ret2
          exact ⟨by (rw [HR.out] <;> rfl), HB0.out⟩
end atw
end Go.Proofs.YtckpiaigoeicfaaGreatDoor
/-! LawP -/
namespace Go.Proofs.YtckpiaigoeicfaaGreatDoor
open Go.RowKit
namespace atw
open atp tupw prw
set_option linter.unusedVariables false
set_option linter.unusedSimpArgs false
set_option maxRecDepth 20000 in
set_option maxHeartbeats 16000000 in
theorem parts_law (nm : ByteArray) (syn : Int) (sg : Bool) (value first last : ByteArray) (mids : List ByteArray) (ao : Option Addr) (cap : Nat) (w : World) (hv : value.size ≤ 140737488351232) (hS : Hid (Strs w ao mids)) (hn : Hid (ao = none → cap = 0)) (hE : Hid (prw.Env w)) (hT : Hid (dnw.Tabs w)) (hY : Hid (TyEnv w)) :
    Calls Tryz.prog 4 #[.agg #[.string nm, .int .i64 syn, .bool sg], .string value, .string first, .slice ao mids.length cap, .string last] w fun e w' => e = .returned (.bool true) ∧ Below w.heap.size w w' := by
  obtain ⟨W0, hW0⟩ : ∃ W, w.alloc (.cells #[.string nm, .int .i64 syn, .bool sg] 23) = W := ⟨_, rfl⟩
  have hB0 : Below w.heap.size w W0 := by rw [← hW0]; exact (Below.refl _ _).alloc (Nat.le_refl _) _
  have HB0 := Lib.hid hB0
  have hw0 : w.heap.size ≤ W0.heap.size := hB0.size
  have HTB0 : Hid (TB W0 w.heap.size nm syn sg) := by rw [← hW0]; exact tb_new w nm syn sg
  have HAW := Lib.hid (awake_any W0 (Lib.hid (prw.env_below hE.out hB0)) (Lib.hid (dnw.tabs_below hT.out hB0)) (Lib.hid (tyEnv_below hY.out hB0)))
  obtain ⟨N, hNe⟩ : ∃ N, mids.length = N := ⟨_, rfl⟩
  have HNe := Lib.hid hNe
  rw [hNe]
  clear hNe hB0
  by_cases h1 : 2000 < value.size
  · have d0 : (2000 : Int) < (value.size : Int) := by omega
    clear h1
    go_enter Tryz.func4, Tryz.ntmps4
    go_wp2_with fail
    refine (HAW.out).mono ?_
    rintro e w1 ⟨rfl, hB1⟩
    have HB1 := Lib.hid (HB0.out.trans (hB1.mono hw0))
    have HT1 := Lib.hid (tb_below HTB0.out hB1)
    obtain ⟨k10, k11, k12⟩ := tb_cells HT1.out
    clear hB1 hW0
    go_wp2_with fail
    go_ret
    exact ⟨rfl, HB1.out⟩
  · have d0 : decide ((2000 : Int) < (value.size : Int)) = false := by rw [decide_eq_false_iff_not]; omega
    by_cases h2 : 2000 < first.size
    · have d1 : (2000 : Int) < (first.size : Int) := by omega
      clear h2
      go_enter Tryz.func4, Tryz.ntmps4
      go_wp2_with fail
      refine (HAW.out).mono ?_
      rintro e w1 ⟨rfl, hB1⟩
      have HB1 := Lib.hid (HB0.out.trans (hB1.mono hw0))
      have HT1 := Lib.hid (tb_below HTB0.out hB1)
      obtain ⟨k10, k11, k12⟩ := tb_cells HT1.out
      clear hB1 hW0
      go_wp2_with fail
      go_ret
      exact ⟨rfl, HB1.out⟩
    · have d1 : decide ((2000 : Int) < (first.size : Int)) = false := by rw [decide_eq_false_iff_not]; omega
      by_cases h3 : 2000 < last.size
      · have d2 : (2000 : Int) < (last.size : Int) := by omega
        clear h3
        go_enter Tryz.func4, Tryz.ntmps4
        go_wp2_with fail
        refine (HAW.out).mono ?_
        rintro e w1 ⟨rfl, hB1⟩
        have HB1 := Lib.hid (HB0.out.trans (hB1.mono hw0))
        have HT1 := Lib.hid (tb_below HTB0.out hB1)
        obtain ⟨k10, k11, k12⟩ := tb_cells HT1.out
        clear hB1 hW0
        go_wp2_with fail
        go_ret
        exact ⟨rfl, HB1.out⟩
      · have d2 : decide ((2000 : Int) < (last.size : Int)) = false := by rw [decide_eq_false_iff_not]; omega
        by_cases h4 : 20 < N
        · have d3 : (20 : Int) < (N : Int) := by omega
          clear h4
          go_enter Tryz.func4, Tryz.ntmps4
          go_wp2_with fail
          refine (HAW.out).mono ?_
          rintro e w1 ⟨rfl, hB1⟩
          have HB1 := Lib.hid (HB0.out.trans (hB1.mono hw0))
          have HT1 := Lib.hid (tb_below HTB0.out hB1)
          obtain ⟨k10, k11, k12⟩ := tb_cells HT1.out
          clear hB1 hW0
          go_wp2_with fail
          go_ret
          exact ⟨rfl, HB1.out⟩
        · have d3 : decide ((20 : Int) < (N : Int)) = false := by rw [decide_eq_false_iff_not]; omega
          go_enter Tryz.func4, Tryz.ntmps4
          go_wp2_with fail
          refine (HAW.out).mono ?_
          rintro e w1 ⟨rfl, hB1⟩
          have HB1 := Lib.hid (HB0.out.trans (hB1.mono hw0))
          have HT1 := Lib.hid (tb_below HTB0.out hB1)
          obtain ⟨k10, k11, k12⟩ := tb_cells HT1.out
          clear hB1 hW0
          go_wp2_with fail
          have HS1 : Hid (Strs w1 ao mids) := strs_below hS.out HB1.out
          go_loop [11] (fun iv => ∃ i : Nat, i ≤ N ∧ iv = .int .i64 (i : Int) ∧ Hid (∀ x ∈ mids.take i, x.size ≤ 2000)) (fun iv => N - (intOf iv).toNat)
          case atStart => exact ⟨0, Nat.zero_le _, rfl, fun x hx => by simp at hx⟩
          case round =>
            obtain ⟨i, hi, rfl, hall⟩ := hrel
            by_cases hlt : i < N
            · have hltI : (i : Int) < (N : Int) := by omega
              have hil : i < mids.length := by rw [HNe.out]; exact hlt
              obtain ⟨b, o, hao, hc0⟩ := HS1.out i hil
              subst hao
              have HNX : Hid (mids[i].size ≤ 2000 → ∀ x ∈ mids.take (i + 1), x.size ≤ 2000) := by
                intro h x hx
                rw [List.take_succ_eq_append_getElem hil, List.mem_append] at hx
                rcases hx with hx | hx
                · exact hall.out x hx
                · rw [List.mem_singleton] at hx; rw [hx]; exact h
              generalize mids[i] = x at hc0 HNX
              by_cases hx : 2000 < x.size
              · have dx : (2000 : Int) < (x.size : Int) := by omega
                clear hx
                go_wp2_with fail
                go_ret
                exact ⟨rfl, HB1.out⟩
              · have dx : decide ((2000 : Int) < (x.size : Int)) = false := by rw [decide_eq_false_iff_not]; omega
                have HALL := Lib.hid (HNX.out (by omega))
                clear hx
                go_wp2_with fail
                go_round
                case rel => exact ⟨i + 1, by omega, by go_num, HALL⟩
                case measure => simp [intOf]; omega
            · obtain rfl : N = i := by omega
              have hz : Hid (∀ x ∈ first :: (mids ++ [last]), x.size ≤ 1100000) := by
                intro x hx
                have h := hall.out
                rw [← HNe.out, List.take_length] at h
                simp only [List.mem_cons, List.mem_append, List.not_mem_nil, or_false] at hx
                rcases hx with rfl | hx | rfl
                · omega
                · have := h x hx; omega
                · omega
              have hz2 : Hid (∀ x ∈ first :: (mids ++ [last]), x.size ≤ 1100000) := fun x hx => Nat.le_trans (hz.out x hx) (by omega)
              have HP0 : ∀ w, Strs w ao mids → prw.Env w → dnw.Tabs w → Calls Tryz.prog 14 #[.agg #[.string nm, .int .i64 syn, .bool sg], .string value, .string first, .slice ao mids.length cap, .string last] w fun e w' => e = .returned (.tuple #[.bool (partE syn value first last mids).1, .int .i64 (partE syn value first last mids).2]) ∧ Below w.heap.size w w' := fun w h0 h1 h2 => part_any nm syn sg value first last mids ao cap w (Lib.hid h0) hn (by rw [HNe.out]; omega) hv hz2 (Lib.hid h1) (Lib.hid h2)
              have HR0 : ∀ w, Strs w ao mids → Calls Tryz.prog 15 #[.agg #[.string nm, .int .i64 syn, .bool sg], .string value, .string first, .slice ao mids.length cap, .string last] w fun e w' => e = .returned (.tuple #[.bool (partE syn value first last mids).1, .int .i64 (partE syn value first last mids).2]) ∧ Below w.heap.size w w' := fun w h0 => rpart_any nm syn sg value first last mids ao cap w (Lib.hid h0) (by rw [HNe.out]; omega) hv hz
              rw [HNe.out] at HP0 HR0
              generalize partE syn value first last mids = r at HP0 HR0
              obtain ⟨r1, r2⟩ := r
              have HP := Lib.hid HP0
              have HR := Lib.hid HR0
              simp only at HP HR
              have e1 : (r1 == r1) = true := by simp
              have e2 : (r2 == r2) = true := by simp
              clear HP0 HR0 hall
              go_wp2_with fail
              refine (HP.out _ HS1.out (prw.env_below hE.out HB1.out) (dnw.tabs_below hT.out HB1.out)).mono ?_
              rintro e w2 ⟨rfl, hB2⟩
              have HB2 := Lib.hid (HB1.out.trans (hB2.mono HB1.out.size))
              have HS2 := Lib.hid (strs_below HS1.out hB2)
              obtain ⟨k20, k21, k22⟩ := tb_cells (tb_below HT1.out hB2)
              clear hB2 k10 k11 k12
              go_wp2_with fail
              refine (HR.out _ HS2.out).mono ?_
              rintro e w3 ⟨rfl, hB3⟩
              have HB3 := Lib.hid (HB2.out.trans (hB3.mono HB2.out.size))
              clear hB3 k20 k21 k22
              go_wp2_with fail
              go_ret
              exact ⟨rfl, HB3.out⟩
end atw
end Go.Proofs.YtckpiaigoeicfaaGreatDoor
/-! AttrParts -/
namespace Go.Proofs.YtckpiaigoeicfaaGreatDoor.attrParts
open Go.ChangeShapes Go.WideShapes Go.ChangeAt Go.RowKit
open Go.ChangeMaps (open_string shut_string)
set_option linter.unusedVariables false

theorem own : ownKnob Tryz.prog.godebug = none := by kernel_rfl
theorem laidOut : laidOutB Tryz.prog = true := by kernel_rfl
theorem u8x : U8Extra Tryz.prog Tryz.lays260_ren where
  n3 := by kernel_rfl
  n4 := by kernel_rfl
  y3 := by kernel_rfl
  y4 := by kernel_rfl
  c5 := by kernel_rfl
  c119 := by kernel_rfl
  c138 := by kernel_rfl
theorem accEq : (Rows.laid_unicode_utf8_acceptRanges : DataW Unit) = Lib.acceptData := by kernel_rfl
theorem tyEq : (Rows.laid_rollbook_attr_types : DataW Unit) = atw.tyData := by kernel_rfl
/-- WHAT THE ROW's LIST GIVES, and the shape: the library's tables. -/
theorem tabs {W : World} (h : laidMetH Tryz.prog Rows.attrPartsRow.laid W) : Hid (dnw.Tabs W) :=
  utf8Tabs_of_reads Tryz.lays260 u8x (by have := Lib.laidMet.reads h (n := "unicode/utf8.first") (d := Rows.laid_unicode_utf8_first) (by simp [Rows.attrPartsRow]); rw [show Rows.laid_unicode_utf8_first = Lib.firstData from Pinned.utf8First_eq] at this; exact this) (by have := Lib.laidMet.reads h (n := "unicode/utf8.acceptRanges") (d := Rows.laid_unicode_utf8_acceptRanges) (by simp [Rows.attrPartsRow]); rw [accEq] at this; exact this)
theorem env {W : World} (hsh : W.ShapedOpen Tryz.prog) : Hid (prw.Env W) := Tryz.laysM146.s1_3 W hsh
theorem typ {W : World} (h : laidMetH Tryz.prog Rows.attrPartsRow.laid W) : Hid (atw.TyEnv W) :=
  atw.tyEnv_of_reads (by have := Lib.laidMet.reads h (n := "rollbook/attr.types") (d := Rows.laid_rollbook_attr_types) (by simp [Rows.attrPartsRow]); rw [tyEq] at this; exact this)

set_option maxRecDepth 100000 in
/-- WHAT THE WALK GIVES, FOR EVERY ARGUMENT. -/
theorem contract (H : Type) (enc : TypeId × Value → H) (W : World) (base : Nat) (args : Array Value) (ds gs : List (DataW H)) (before : List MemPlace)
    (hval : ∀ (j : Nat) t v, Tryz.f4.params[j]? = some t → args[j]? = some v → Value.okWide Tryz.prog W .any base t v)
    (hW : DataW.Whole enc Tryz.prog Tryz.f4.params.toList Rows.attrPartsSpec.vars false W args.toList ds gs before)
    (hsz0 : (DataW.weightsEach Tryz.prog (Tryz.f4.params.toList ++ Rows.attrPartsSpec.plain.varTypes Tryz.prog) (ds ++ gs)).all (· ≤ reachBytes) = true)
    (hL : laidMetH Tryz.prog Rows.attrPartsRow.laid W) (hsh : W.ShapedOpen Tryz.prog) :
    Calls Tryz.prog 4 args W fun e W' => ∃ v, e = .returned v ∧ Rows.attrPartsSpec.post enc Tryz.prog Tryz.f4 false true false false W args v W' := by
  have hW' := hW
  obtain ⟨p, q, hA0, hV, rfl, hfz, hnd⟩ := hW
  have hA : DataW.TrodAll enc Tryz.prog W 0 (fun _ => true) true Tryz.f4.params.toList args.toList ds p := hA0
  have hsz := hsz0
  rw [Tryz.params4] at hA hval hsz
  obtain ⟨v0, vs0, d0, ds0, p0, q0, hargs, rfl, rfl, h0, r0⟩ := trodAll_cons hA
  obtain ⟨v1, vs1, d1, ds1, p1, q1, rfl, rfl, rfl, h1, r1⟩ := trodAll_cons r0
  obtain ⟨v2, vs2, d2, ds2, p2, q2, rfl, rfl, rfl, h2, r2⟩ := trodAll_cons r1
  obtain ⟨v3, vs3, d3, ds3, p3, q3, rfl, rfl, rfl, h3, r3⟩ := trodAll_cons r2
  obtain ⟨v4, vs4, d4, ds4, p4, q4, rfl, rfl, rfl, h4, r4⟩ := trodAll_cons r3
  obtain ⟨rfl, rfl, rfl⟩ := trodAll_nil r4
  obtain rfl : args = #[v0, v1, v2, v3, v4] := by cases args; simp_all
  obtain ⟨rfl, rfl⟩ := trodVars_none hV
  have k0 := h0
  have lt0 : ∀ x ∈ p0, x.block < W.heap.size := by obtain ⟨m, hm⟩ := k0; exact DataW.trod_lt m _ _ _ hm
  have k1 := h1
  have lt1 : ∀ x ∈ p1, x.block < W.heap.size := by obtain ⟨m, hm⟩ := k1; exact DataW.trod_lt m _ _ _ hm
  have k2 := h2
  have lt2 : ∀ x ∈ p2, x.block < W.heap.size := by obtain ⟨m, hm⟩ := k2; exact DataW.trod_lt m _ _ _ hm
  have k3 := h3
  have lt3 : ∀ x ∈ p3, x.block < W.heap.size := by obtain ⟨m, hm⟩ := k3; exact DataW.trod_lt m _ _ _ hm
  have k4 := h4
  have lt4 : ∀ x ∈ p4, x.block < W.heap.size := by obtain ⟨m, hm⟩ := k4; exact DataW.trod_lt m _ _ _ hm
  obtain ⟨x0, y0, z0, u0, u0', u0'', n0, rfl, rfl, rfl, s0, t0, r0'⟩ := Joins.open_agg3 Tryz.underlying23 (by kernel_rfl) (by kernel_rfl) (hval 0 23 v0 rfl rfl) h0
  obtain ⟨nm0, e0s, _⟩ := DataW.trod_string Tryz.underlying9 s0
  obtain ⟨sy0, e0t, _⟩ := DataW.trod_int Tryz.underlying3 t0
  obtain ⟨sg0, e0r, _⟩ := DataW.trod_bool Tryz.underlying4 r0'
  simp only [List.cons.injEq, and_true] at e0s e0t e0r
  subst e0s e0t e0r
  obtain ⟨a1, rfl, rfl, rfl, ws1⟩ := open_string Tryz.underlying9 (hval 1 9 v1 rfl rfl) h1
  have ha1 : a1.size ≤ 140737488351232 := by
    have := sized_string hsz (j := 1) (t := 9) rfl rfl
    simpa [reachBytes] using this
  obtain ⟨a2, rfl, rfl, rfl, ws2⟩ := open_string Tryz.underlying9 (hval 2 9 v2 rfl rfl) h2
  have ha2 : a2.size ≤ 140737488351232 := by
    have := sized_string hsz (j := 2) (t := 9) rfl rfl
    simpa [reachBytes] using this
  obtain ⟨ao3, len3, cap3, rfl⟩ := WideShapes.okWide_slice Tryz.underlying31 (hval 3 31 v3 rfl rfl)
  obtain ⟨l3, hlen3, hS3, hm3, hx3, hc3, hn3⟩ := tupo.texts_of Tryz.underlying31 Tryz.underlying9 (by kernel_rfl) h3
  subst hlen3
  obtain ⟨a4, rfl, rfl, rfl, ws4⟩ := open_string Tryz.underlying9 (hval 4 9 v4 rfl rfl) h4
  have ha4 : a4.size ≤ 140737488351232 := by
    have := sized_string hsz (j := 4) (t := 9) rfl rfl
    simpa [reachBytes] using this
  clear hA0
  simp only [List.append_nil] at hW'
  have walk : Calls Tryz.prog 4 #[.agg #[.string nm0, .int .i64 sy0, .bool sg0], .string a1, .string a2, .slice ao3 l3.length cap3, .string a4] W fun e w' => e = .returned (.bool true) ∧ Below W.heap.size W w' := by
    exact atw.parts_law nm0 sy0 sg0 a1 a2 a4 l3 ao3 cap3 W ha1 hS3 (fun e => (hn3 e).2) (env hsh) (tabs hL) (typ hL)
  refine walk.mono fun e W' ⟨he, hb⟩ => ?_
  subst he
  exact ⟨_, rfl, _, _, _, [], _, [], hW', trodAll_cons_mk (shut_bool Tryz.underlying4 _) trodAll_mk0, (trodAll_cons_mk (Below.trod laidOut (by kernel_rfl) (of_decide_eq_true (by kernel_rfl)) k0 hb lt0) (trodAll_cons_mk (Below.trod laidOut (by kernel_rfl) (of_decide_eq_true (by kernel_rfl)) k1 hb lt1) (trodAll_cons_mk (Below.trod laidOut (by kernel_rfl) (of_decide_eq_true (by kernel_rfl)) k2 hb lt2) (trodAll_cons_mk (Below.trod laidOut (by kernel_rfl) (of_decide_eq_true (by kernel_rfl)) k3 hb lt3) (trodAll_cons_mk (Below.trod laidOut (by kernel_rfl) (of_decide_eq_true (by kernel_rfl)) k4 hb lt4) trodAll_mk0))))), rfl, hb.frame _, fun h => by cases h⟩

theorem laid_met (os : Os) : laidMet Tryz.prog Rows.attrPartsRow.laid ((World.laidAll Tryz.prog os Rows.attrPartsRow.laid).forCall (fun _ _ => 0) ⟨#[], #[.agg #[.string ByteArray.empty, .int .i64 0, .bool false], .string ByteArray.empty, .string ByteArray.empty, .slice none 0 0, .string ByteArray.empty], []⟩).memory :=
  laidMet_laidAll _ (by kernel_rfl) (by kernel_rfl)
theorem reads (os : Os) {H : Type} (enc : TypeId × Value → H) : ∃ places, DataW.whole enc Tryz.prog ((World.laidAll Tryz.prog os Rows.attrPartsRow.laid).forCall (fun _ _ => 0) ⟨#[], #[.agg #[.string ByteArray.empty, .int .i64 0, .bool false], .string ByteArray.empty, .string ByteArray.empty, .slice none 0 0, .string ByteArray.empty], []⟩).memory Tryz.f4.params.toList Rows.attrPartsSpec.vars false (#[.agg #[.string ByteArray.empty, .int .i64 0, .bool false], .string ByteArray.empty, .string ByteArray.empty, .slice none 0 0, .string ByteArray.empty] : Array Value).toList 8 = some ([.agg [.lit (.string []), .lit (.int .i64 0), .lit (.bool false)], .lit (.string []), .lit (.string []), .nil, .lit (.string [])], [], places) :=
  ⟨[], by kernel_rfl⟩

set_option maxRecDepth 100000 in
theorem lifted (os : Os) (started : os.Started) (H : Type) (enc : TypeId × Value → H) (F : Stop.Interp) :
    ReturnsInHanded {} Tryz.checked os 4 .any ((OpenSpec.ofChange Rows.attrPartsSpec).preRow enc Tryz.prog Tryz.f4 Rows.attrPartsRow.domain false Rows.attrPartsRow.laid) (((OpenSpec.ofChange Rows.attrPartsSpec).at F).post enc Tryz.prog Tryz.f4 false true false false) := by
  obtain ⟨places, hx⟩ := reads os enc
  refine returnsInHanded_of_row (C := Tryz.checked) (s := (OpenSpec.ofChange Rows.attrPartsSpec)) own started (by kernel_rfl) Tryz.func4
    (witness_row_at (enc := enc) (C := Tryz.checked) false (World.laidAll Tryz.prog os Rows.attrPartsRow.laid) #[.agg #[.string ByteArray.empty, .int .i64 0, .bool false], .string ByteArray.empty, .string ByteArray.empty, .slice none 0 0, .string ByteArray.empty] (World.laidAll_os _ _ _) (by kernel_rfl) (by kernel_rfl) (by kernel_rfl)
      (OpenSpec.preRow_of_cond 8 hx (by kernel_rfl) (fun k hk => by cases hk) (by kernel_rfl) (laid_met os))) ?_
  intro W base args ds gs before hval hW _ _ hsz hL hsh _
  exact contract H enc W base args ds gs before hval hW hsz hL hsh

theorem said : Rows.AttrPartsSaid :=
  OpenClaim.holds_of_cond 4 Tryz.f4 rfl rfl rfl rfl rfl rfl rfl ⟨rfl, rfl, rfl, rfl, rfl⟩ rfl rfl rfl rfl rfl (by kernel_rfl) Tryz.func4 (by kernel_rfl)
    (of_decide_eq_true (by kernel_rfl)) (by unfold Func.isWrapper; first | (rw [if_pos (by decide +kernel)]; kernel_rfl) | (rw [if_neg (by decide +kernel)]; exact ⟨rfl, rfl⟩))
    (fun os started H enc _ F => by rw [OpenClaim.pre_eq_preRow]; exact lifted os started H enc F)

theorem plain (f : FuncId) (fn : Func) (hf : Tryz.pinned.checked.prog.funcNamed "rollbook/rollbooklaw16.AttrParts" = some f) (hfn : Tryz.pinned.checked.prog.funcs[f]? = some fn) :
    true = Tryz.pinned.checked.prog.looks [] ∧ ∀ (j : Nat) t, fn.params[j]? = some t → Tryz.pinned.checked.prog.wantsStandIn t = false := by
  obtain rfl : f = 4 := Option.some.inj ((show Tryz.prog.funcNamed "rollbook/rollbooklaw16.AttrParts" = some 4 by kernel_rfl).symm.trans hf) |>.symm
  obtain rfl : fn = Tryz.f4 := (Option.some.inj (Tryz.func4.symm.trans hfn)).symm
  refine ⟨by kernel_rfl, fun j t ht => ?_⟩
  rw [Tryz.params4] at ht
  have hm : t ∈ [23, 9, 9, 31, 9] := by simpa using Array.mem_of_getElem? ht
  have hall : ([23, 9, 9, 31, 9].all fun u => !Tryz.prog.wantsStandIn u) = true := by kernel_rfl
  exact (show Tryz.prog.wantsStandIn t = false by simpa using List.all_eq_true.1 hall t hm)

theorem proved : Rows.AttrPartsCardSaid :=
  Claim7.holds_tied_plain_at .later [] _ _ _ _ said (fun _ h => by cases h) (by kernel_rfl) (fun _ h => by cases h) attrParts_row_tie rfl ⟨rfl, rfl⟩ (by kernel_rfl) rfl plain (by kernel_rfl)
#print axioms proved
end Go.Proofs.YtckpiaigoeicfaaGreatDoor.attrParts
