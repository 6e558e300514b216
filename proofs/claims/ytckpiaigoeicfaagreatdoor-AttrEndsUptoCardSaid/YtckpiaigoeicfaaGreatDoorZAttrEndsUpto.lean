/- THE STATEMENT 'AttrEndsUpto': whatever the input of the bounded bulk, the law returns true and leaves its input as it was. Conditions: those of the row alone (its listed variables are tied to the program's text by the given tie). -/
import Derived.Test.YtckpiaigoeicfaaGreatDoorB12
import Derived.Test.YtckpiaigoeicfaaGreatDoorB10
import Derived.Test.YtckpiaigoeicfaaGreatDoorB8
import Derived.Deep.DeepCutAuto
import Derived.Test.YtckpiaigoeicfaaGreatDoorB13
import Derived.Test.YtckpiaigoeicfaaGreatDoorCards
import Derived.Test.YtckpiaigoeicfaaGreatDoorTie
import Derived.Lay
import Derived.Lib.LaidU8
import Derived.Lib.SmallJoins
import Derived.PinnedBridge
import Derived.WalkKit
import Derived.ProofKit
import Derived.OpenShut
import Derived.ChangeOld
import Derived.Below
import Derived.SizedLaws
import Derived.LaidMore
import Derived.Deep.DeepHandedRow
import Derived.Deep.DeepWitnessRowRef
import Derived.Lib.LaidTab
/-! RPartW -/
namespace Go.Proofs.YtckpiaigoeicfaaGreatDoor
open Go.RowKit
namespace atw
open atp tupw prw
set_option linter.unusedVariables false
set_option linter.unusedSimpArgs false
theorem any_all {first last : ByteArray} {mids : List ByteArray} : (first :: (mids ++ [last])).any neB = (neB first || neB last || mids.any neB) := by
  rw [List.any_cons, List.any_append, List.any_cons, List.any_nil, Bool.or_false, Bool.or_assoc, Bool.or_comm (neB last)]
theorem partE_20 {syn : Int} {value first last : ByteArray} {mids : List ByteArray} (h : ¬ (syn = 1 ∨ syn = 2 ∨ syn = 7) ∨ 8 < mids.length ∨ (neB first || neB last || mids.any neB) = false) : partE syn value first last mids = (false, 20) := by
  unfold partE
  by_cases h1 : ¬ (syn = 1 ∨ syn = 2 ∨ syn = 7)
  · rw [if_pos h1]
  · rw [if_neg h1]
    by_cases h2 : 8 < mids.length
    · rw [if_pos h2]
    · rw [if_neg h2, any_all]
      rcases h with h | h | h
      · exact absurd h h1
      · exact absurd h h2
      · rw [if_pos h]
theorem partE_err {syn : Int} {value first last : ByteArray} {mids : List ByteArray} (h : syn = 1 ∨ syn = 2 ∨ syn = 7) (h8 : ¬ 8 < mids.length) (hs : (neB first || neB last || mids.any neB) = true) (he : (normL syn value.data.toList).2 ≠ 0) : partE syn value first last mids = (false, (normL syn value.data.toList).2) := by
  unfold partE
  rw [if_neg (not_not_intro h), if_neg h8, any_all, hs, if_neg (by simp), if_pos he]
theorem partE_no {syn : Int} {value first last : ByteArray} {mids : List ByteArray} (h : syn = 1 ∨ syn = 2 ∨ syn = 7) (h8 : ¬ 8 < mids.length) (hs : (neB first || neB last || mids.any neB) = true) (he : (normL syn value.data.toList).2 = 0) {x : ByteArray} (hx : x ∈ first :: (mids ++ [last])) (hn : pieceO syn x.data.toList = none) : partE syn value first last mids = (false, 19) := by
  unfold partE
  obtain ⟨i, hi, rfl⟩ := List.mem_iff_getElem.1 hx
  rw [if_neg (not_not_intro h), if_neg h8, any_all, hs, if_neg (by simp), if_neg (not_not_intro he), if_pos (allP_no hi hn)]
theorem partE_yes {syn : Int} {value first last : ByteArray} {mids : List ByteArray} (h : syn = 1 ∨ syn = 2 ∨ syn = 7) (h8 : ¬ 8 < mids.length) (hs : (neB first || neB last || mids.any neB) = true) (he : (normL syn value.data.toList).2 = 0) {a z : List UInt8} (ha : pieceO syn first.data.toList = some a) (hz : pieceO syn last.data.toList = some z) (hm : allP syn mids = true) :
    partE syn value first last mids = (partL (normL syn value.data.toList).1 a z (mids.map (gotP syn)), 0) := by
  have hall : allP syn (first :: (mids ++ [last])) = true := by
    unfold allP at hm ⊢
    rw [List.all_cons, List.all_append, hm, ha, List.all_cons, hz]; rfl
  have g1 : gotP syn first = a := by unfold gotP; rw [ha]; rfl
  have g2 : gotP syn last = z := by unfold gotP; rw [hz]; rfl
  unfold partE
  rw [if_neg (not_not_intro h), if_neg h8, any_all, hs, if_neg (by simp), if_neg (not_not_intro he), hall, if_neg (by simp), g1, g2]
theorem ne_emp (x : ByteArray) : x.toList.isEmpty = !(neB x) := by
  unfold neB
  rw [Lib.toList_data]
  cases h : x.data.toList with
  | nil => rfl
  | cons a t => rfl
theorem any_take {l : List ByteArray} {i : Nat} (h : i < l.length) (s : Bool) : (s || (l.take (i + 1)).any neB) = ((s || (l.take i).any neB) || neB l[i]) := by
  rw [List.take_succ_eq_append_getElem h, List.any_append, List.any_cons, List.any_nil, Bool.or_false, Bool.or_assoc]
theorem ext_pre (s : ByteArray) (n : Nat) : (s.extract 0 n).data.toList = s.data.toList.take n := by
  rw [ByteArray.data_extract, Array.toList_extract, List.extract_eq_take_drop, List.drop_zero, Nat.sub_zero]
theorem ext_suf (s : ByteArray) (k : Nat) : (s.extract k s.size).data.toList = s.data.toList.drop k := by
  rw [ByteArray.data_extract, Array.toList_extract, List.extract_eq_take_drop, List.take_of_length_le]
  rw [List.length_drop, kt.size_len]
  exact Nat.le_refl _
theorem greedy_no {p : List UInt8} {r : List (List UInt8)} {l : List UInt8} (h : Lib.index l p < 0) : greedy (p :: r) l = false := by
  show (if Lib.index l p < 0 then false else _) = _
  rw [if_pos h]
theorem greedy_yes {p : List UInt8} {r : List (List UInt8)} {l : List UInt8} (h : ¬ Lib.index l p < 0) : greedy (p :: r) l = greedy r (l.drop ((Lib.index l p).toNat + p.length)) := by
  show (if Lib.index l p < 0 then false else greedy r (l.drop ((Lib.index l p).toNat + p.length))) = _
  rw [if_neg h]
set_option maxRecDepth 20000 in
set_option maxHeartbeats 16000000 in
theorem rpart_any (nm : ByteArray) (syn : Int) (sg : Bool) (value first last : ByteArray) (mids : List ByteArray) (ao : Option Addr) (cap : Nat) (w : World)
    (hS : Hid (Strs w ao mids)) (hN : mids.length ≤ 20) (hv : value.size ≤ 140737488351232) (hz : Hid (∀ x ∈ first :: (mids ++ [last]), x.size ≤ 1100000)) :
    Calls Tryz.prog 15 #[.agg #[.string nm, .int .i64 syn, .bool sg], .string value, .string first, .slice ao mids.length cap, .string last] w fun e w' => e = .returned (.tuple #[.bool (partE syn value first last mids).1, .int .i64 (partE syn value first last mids).2]) ∧ Below w.heap.size w w' := by
  obtain ⟨W0, hW0⟩ : ∃ W, w.alloc (.cells #[.string nm, .int .i64 syn, .bool sg] 23) = W := ⟨_, rfl⟩
  have hB0 : Below w.heap.size w W0 := by rw [← hW0]; exact (Below.refl _ _).alloc (Nat.le_refl _) _
  have HB0 := Lib.hid hB0
  have hw0 : w.heap.size ≤ W0.heap.size := hB0.size
  have HTB0 : Hid (TB W0 w.heap.size nm syn sg) := by rw [← hW0]; exact tb_new w nm syn sg
  obtain ⟨k0, k1, k2⟩ := tb_cells HTB0.out
  have HS0 : Hid (Strs W0 ao mids) := strs_below hS.out hB0
  obtain ⟨R, hR⟩ : ∃ R, partE syn value first last mids = R := ⟨_, rfl⟩
  have H20 := fun h => hR.symm.trans (partE_20 (syn := syn) (value := value) (first := first) (last := last) (mids := mids) h)
  have HERR := fun h h8 hs he => hR.symm.trans (partE_err (syn := syn) (value := value) (first := first) (last := last) (mids := mids) h h8 hs he)
  have HNO := fun h h8 hs he x hx hn => hR.symm.trans (partE_no (syn := syn) (value := value) (first := first) (last := last) (mids := mids) h h8 hs he (x := x) hx hn)
  have HYES := fun h h8 hs he a z ha hz hm => hR.symm.trans (partE_yes (syn := syn) (value := value) (first := first) (last := last) (mids := mids) h h8 hs he (a := a) (z := z) ha hz hm)
  have HF : Hid (∀ w, Calls Tryz.prog 37 #[.agg #[.string nm, .int .i64 syn, .bool sg], .string first] w fun e w' => e = .returned (prw.pairV (pieceO syn first.data.toList)) ∧ Below w.heap.size w w') := fun w => rpiece_any nm syn sg first w (hz.out first (by simp))
  have HL : Hid (∀ w, Calls Tryz.prog 37 #[.agg #[.string nm, .int .i64 syn, .bool sg], .string last] w fun e w' => e = .returned (prw.pairV (pieceO syn last.data.toList)) ∧ Below w.heap.size w w') := fun w => rpiece_any nm syn sg last w (hz.out last (by simp))
  have HM : Hid (∀ x ∈ mids, ∀ w, Calls Tryz.prog 37 #[.agg #[.string nm, .int .i64 syn, .bool sg], .string x] w fun e w' => e = .returned (prw.pairV (pieceO syn x.data.toList)) ∧ Below w.heap.size w w') := fun x hx w => rpiece_any nm syn sg x w (hz.out x (by simp [hx]))
  have HFL : Hid (∀ o, pieceO syn first.data.toList = some o → o.length ≤ 1100000) := fun o h => Nat.le_trans (by have := piece_len h; rwa [kt.size_len] at this) (hz.out first (by simp))
  have HLL : Hid (∀ o, pieceO syn last.data.toList = some o → o.length ≤ 1100000) := fun o h => Nat.le_trans (by have := piece_len h; rwa [kt.size_len] at this) (hz.out last (by simp))
  have HML : Hid (∀ x ∈ mids, (gotP syn x).length ≤ 1100000) := fun x hx => Nat.le_trans (gotP_len syn x) (hz.out x (by simp [hx]))
  have HNRM : Hid (∀ w, Calls Tryz.prog 20 #[.agg #[.string nm, .int .i64 syn, .bool sg], .string value] w fun e w' => e = .returned (normV (normL syn value.data.toList)) ∧ Below w.heap.size w w') := fun w => rnormal_any nm syn sg value w hv
  obtain ⟨nl, hnl⟩ : ∃ u, normL syn value.data.toList = u := ⟨_, rfl⟩
  have HNL : Hid ((syn = 1 ∨ syn = 2 ∨ syn = 7) → nl.1.length ≤ 1000) := by rw [← hnl]; exact fun h => norm_len h
  rw [hnl] at HNRM HERR HNO HYES
  rw [hR]
  clear hnl hR hB0 hS
  obtain ⟨u, er⟩ := nl
  have HN : Hid (∀ w, Calls Tryz.prog 20 #[.agg #[.string nm, .int .i64 syn, .bool sg], .string value] w fun e w' => e = .returned (.tuple #[.string (bs u), .int .i64 er]) ∧ Below w.heap.size w w') := HNRM
  have H20 := Lib.hid H20
  have HERR := Lib.hid HERR
  have HNO := Lib.hid HNO
  have HYES := Lib.hid HYES
  clear HNRM
  obtain ⟨N, hNe⟩ : ∃ N, mids.length = N := ⟨_, rfl⟩
  have HNe := Lib.hid hNe
  rw [hNe] at hN H20 HERR HNO HYES ⊢
  clear hNe
  obtain ⟨s0, hs0⟩ : ∃ s0, (neB first || neB last) = s0 := ⟨_, rfl⟩
  rw [hs0] at H20 HERR HNO HYES
  have hcase : (first.toList.isEmpty = false ∧ s0 = true) ∨ (first.toList.isEmpty = true ∧ (!last.toList.isEmpty) = s0) := by
    rw [ne_emp, ne_emp, ← hs0]
    cases neB first
    · exact Or.inr ⟨rfl, by cases neB last <;> rfl⟩
    · exact Or.inl ⟨rfl, rfl⟩
  clear hs0
  go_enter Tryz.func15, Tryz.ntmps15
  go_upto_region 1 with fail
  go_cut [12] (fun s12 wx => s12 = .bool s0 ∧ wx = W0)
  case first =>
    rcases hcase with ⟨h1, h2⟩ | ⟨h1, h2⟩
    · subst h2
      go_wp2_with fail
      go_meet
      exact ⟨rfl, rfl⟩
    · have H2 := Lib.hid h2
      clear h2
      go_wp2_with fail
      go_meet
      exact ⟨by rw [← H2.out], rfl⟩
  case rest =>
    obtain ⟨rfl, rfl⟩ := hcut
    clear hcase
    go_wp2_with fail
    go_loop [12, 13] (fun sv iv => ∃ i : Nat, i ≤ N ∧ iv = .int .i64 (i : Int) ∧ ∃ b : Bool, sv = .bool b ∧ Hid ((s0 || (mids.take i).any neB) = b)) (fun _ iv => N - (intOf iv).toNat)
    case atStart => exact ⟨0, Nat.zero_le _, rfl, s0, rfl, by show (s0 || [].any neB) = s0; simp⟩
    case round =>
      obtain ⟨i, hi, rfl, b, rfl, hb⟩ := hrel
      by_cases hlt : i < N
      · have hltI : (i : Int) < (N : Int) := by omega
        have hil : i < mids.length := by rw [HNe.out]; exact hlt
        obtain ⟨g, o, hao, hc0⟩ := HS0.out i hil
        subst hao
        have HST := Lib.hid (any_take hil s0)
        have hne := ne_emp mids[i]
        generalize mids[i] = x at hc0 HST hne
        cases b with
        | true =>
          have HB' : Hid ((s0 || (mids.take (i + 1)).any neB) = true) := by rw [HST.out, hb.out]; rfl
          clear hne hc0
          go_wp2_with fail
          go_round
          case rel => exact ⟨i + 1, by omega, by go_num, true, rfl, HB'⟩
          case measure => simp [intOf]; omega
        | false =>
          have HB' : Hid ((s0 || (mids.take (i + 1)).any neB) = neB x) := by rw [HST.out, hb.out]; rfl
          cases hx : neB x
          all_goals
            rw [hx] at HB' hne
            clear hx
            go_wp2_with fail
            go_round
            case rel => exact ⟨i + 1, by omega, by go_num, _, rfl, HB'⟩
            case measure => simp [intOf]; omega
      · obtain rfl : N = i := by omega
        have hb' := hb.out
        rw [← HNe.out, List.take_length] at hb'
        have HS1 := Lib.hid hb'
        clear hb hb'
        rcases fit_cases syn with hsy | ⟨hno, q1, q2, q7⟩
        · cases b with
          | false =>
            have HR := Lib.hid (H20.out (Or.inr (Or.inr HS1.out)))
            rcases hsy with rfl | rfl | rfl
            all_goals
              go_wp2_with fail
              go_ret2
              exact ⟨by (rw [HR.out] <;> rfl), HB0.out⟩
          | true =>
            by_cases h8 : 8 < N
            · have HR := Lib.hid (H20.out (Or.inr (Or.inl h8)))
              have h8I : (8 : Int) < (N : Int) := by omega
              clear h8
              rcases hsy with rfl | rfl | rfl
              all_goals
                go_wp2_with fail
                go_ret2
                exact ⟨by (rw [HR.out] <;> rfl), HB0.out⟩
            · have h8D : decide ((8 : Int) < (N : Int)) = false := by rw [decide_eq_false_iff_not]; omega
              have hsy' := hsy
              have hqs : (syn != 1) = false ∨ ((syn != 1) = true ∧ (syn != 2) = false) ∨ ((syn != 1) = true ∧ (syn != 2) = true ∧ (syn != 7) = false) := by
                rcases hsy' with rfl | rfl | rfl
                · exact Or.inl rfl
                · exact Or.inr (Or.inl ⟨rfl, rfl⟩)
                · exact Or.inr (Or.inr ⟨rfl, rfl, rfl⟩)
              clear hsy'
              rcases hqs with q1 | ⟨q1, q2⟩ | ⟨q1, q2, q7⟩
              all_goals
                go_wp2_with fail
                refine (HN.out _).mono ?_
                rintro e w1 ⟨rfl, hB1⟩
                have HB1 := Lib.hid (HB0.out.trans (hB1.mono hw0))
                have HBS1 := Lib.hid hB1
                have HT1 := Lib.hid (tb_below HTB0.out hB1)
                obtain ⟨m0, m1, m2⟩ := tb_cells HT1.out
                clear hB1 hW0 k0 k1 k2
                by_cases her : er = 0
                · subst her
                  have q0 : ((0 : Int) != 0) = false := by decide
                  have hul := HNL.out hsy
                  cases hpf : pieceO syn first.data.toList with
                  | none =>
                    have HR := Lib.hid (HNO.out hsy h8 HS1.out (by first | trivial | rfl) first (by simp) hpf)
                    rw [hpf] at HF
                    have HF1 : Hid (∀ w, Calls Tryz.prog 37 #[.agg #[.string nm, .int .i64 syn, .bool sg], .string first] w fun e w' => e = .returned (.tuple #[.string ⟨#[]⟩, .int .i64 19]) ∧ Below w.heap.size w w') := HF
                    clear hpf
                    go_wp2_with fail
                    refine (HF1.out _).mono ?_
                    rintro e w2 ⟨rfl, hB2⟩
                    have HB2 := Lib.hid (HB1.out.trans (hB2.mono HB1.out.size))
                    clear hB2 m0 m1 m2
                    go_wp2_with fail
                    go_ret2
                    exact ⟨by (rw [HR.out] <;> rfl), HB2.out⟩
                  | some a =>
                    have hal := HFL.out a hpf
                    rw [hpf] at HF
                    have HF1 : Hid (∀ w, Calls Tryz.prog 37 #[.agg #[.string nm, .int .i64 syn, .bool sg], .string first] w fun e w' => e = .returned (.tuple #[.string (bs a), .int .i64 0]) ∧ Below w.heap.size w w') := HF
                    have HPF := Lib.hid hpf
                    clear hpf
                    go_wp2_with fail
                    refine (HF1.out _).mono ?_
                    rintro e w2 ⟨rfl, hB2⟩
                    have HB2 := Lib.hid (HB1.out.trans (hB2.mono HB1.out.size))
                    have HT2 := Lib.hid (tb_below HT1.out hB2)
                    have HST2 : Hid (Strs w2 ao mids) := strs_below (strs_below HS0.out HBS1.out) hB2
                    have hw2 : w.heap.size ≤ w2.heap.size := HB2.out.size
                    clear hB2 m0 m1 m2
                    go_wp2_with fail
                    go_loopw [17, 18, 19, 20] (fun mv iv _ _ wr => ∃ i : Nat, i ≤ N ∧ iv = .int .i64 (i : Int) ∧ Hid (allP syn (mids.take i) = true) ∧ Hid (OwnT wr w2.heap.size mv ((mids.take i).map fun x => bs (gotP syn x))) ∧ Hid (Below w2.heap.size w2 wr)) (fun _ iv _ _ _ => N - (intOf iv).toNat)
                    case atStart => exact ⟨0, Nat.zero_le _, rfl, rfl, World.ownsRow_made _ #[] 0 (by simp) (by unfold maxLen; omega) rfl, (Below.refl _ _).alloc (Nat.le_refl _) _⟩
                    case round =>
                      obtain ⟨i, hi, rfl, hall, hO, hBr⟩ := hrel
                      have hsz := hBr.out.size
                      have HTr := Lib.hid (tb_below HT2.out hBr.out)
                      obtain ⟨n0, n1, n2⟩ := tb_cells HTr.out
                      obtain ⟨aoR, mR, capR, rfl, hmR⟩ := dnw.ownT_form hO.out
                      by_cases hlt : i < N
                      · have hltI : (i : Int) < (N : Int) := by omega
                        have hil : i < mids.length := by rw [HNe.out]; exact hlt
                        obtain ⟨b, o, hao, hc0⟩ := (strs_below HST2.out hBr.out) i hil
                        subst hao
                        have HP0 := HM.out mids[i] (List.getElem_mem _)
                        have HSTEP := Lib.hid (dnw.takeMap_step (fun x => bs (gotP syn x)) mids i hil)
                        have HAL := Lib.hid (allP_step (syn := syn) hil)
                        have HNOi := Lib.hid (HNO.out hsy h8 HS1.out (by first | trivial | rfl) mids[i] (by simp))
                        have HGP : Hid (∀ o, pieceO syn mids[i].data.toList = some o → gotP syn mids[i] = o) := by
                          intro o ho
                          unfold gotP
                          rw [ho]; rfl
                        have hml : ((mids.take i).map fun x => bs (gotP syn x)).length ≤ 20 := by rw [List.length_map, List.length_take]; omega
                        have HMLN := Lib.hid hml
                        clear hml
                        generalize mids[i] = x at hc0 HP0 HSTEP HAL HNOi HGP
                        cases hp : pieceO syn x.data.toList with
                        | none =>
                          have HR := Lib.hid (HNOi.out hp)
                          rw [hp] at HP0
                          have HP : Hid (∀ w, Calls Tryz.prog 37 #[.agg #[.string nm, .int .i64 syn, .bool sg], .string x] w fun e w' => e = .returned (.tuple #[.string ⟨#[]⟩, .int .i64 19]) ∧ Below w.heap.size w w') := HP0
                          have hl1 := World.block_lt_of_cell? wr _ n0
                          have hl2 := World.block_lt_of_cell? wr _ hc0
                          clear HP0 HNOi HGP hp HSTEP HAL
                          go_wp2_with fail
                          go_region_held3 (fun W => W.cell? ⟨w.heap.size, 0, none⟩ = some (.string nm) ∧ W.cell? ⟨w.heap.size, 1, none⟩ = some (.int .i64 syn) ∧ W.cell? ⟨w.heap.size, 2, none⟩ = some (.bool sg) ∧ W.cell? ⟨b, o + i, none⟩ = some (.string x)) (first
                              | exact ⟨n0, n1, n2, hc0⟩
                              | exact ⟨(hB6.cell (p := ⟨w.heap.size, 0, none⟩) hl1).trans n0, (hB6.cell (p := ⟨w.heap.size, 1, none⟩) hl1).trans n1, (hB6.cell (p := ⟨w.heap.size, 2, none⟩) hl1).trans n2, (hB6.cell (p := ⟨b, o + i, none⟩) hl2).trans hc0⟩)
                            (first | (go_at_call 37; refine (HP.out _).mono ?_; rintro e w6 ⟨rfl, hB6⟩) | fail)
                          all_goals
                            have HB6 := Lib.hid (HB2.out.trans ((hBr.out.trans (((Below.refl wr.heap.size wr).drew.trans hB6).mono hsz)).mono hw2))
                            clear hB6 n0 n1 n2 hc0
                            go_wp2_with fail
                            go_ret2
                            exact ⟨by (rw [HR.out] <;> rfl), HB6.out⟩
                        | some p =>
                          have hgp := HGP.out p hp
                          rw [hp] at HP0 HAL
                          rw [hgp] at HSTEP
                          have HALL : Hid (allP syn (mids.take (i + 1)) = true) := by rw [HAL.out, hall.out]; rfl
                          have HP : Hid (∀ w, Calls Tryz.prog 37 #[.agg #[.string nm, .int .i64 syn, .bool sg], .string x] w fun e w' => e = .returned (.tuple #[.string (bs p), .int .i64 0]) ∧ Below w.heap.size w w') := HP0
                          have hl1 := World.block_lt_of_cell? wr _ n0
                          have hl2 := World.block_lt_of_cell? wr _ hc0
                          generalize bs p = P at HP HSTEP
                          clear HP0 HNOi HGP hp HAL hgp
                          go_wp2_with fail
                          go_region_held3 (fun W => W.cell? ⟨w.heap.size, 0, none⟩ = some (.string nm) ∧ W.cell? ⟨w.heap.size, 1, none⟩ = some (.int .i64 syn) ∧ W.cell? ⟨w.heap.size, 2, none⟩ = some (.bool sg) ∧ W.cell? ⟨b, o + i, none⟩ = some (.string x)) (first
                              | exact ⟨n0, n1, n2, hc0⟩
                              | exact ⟨(hB6.cell (p := ⟨w.heap.size, 0, none⟩) hl1).trans n0, (hB6.cell (p := ⟨w.heap.size, 1, none⟩) hl1).trans n1, (hB6.cell (p := ⟨w.heap.size, 2, none⟩) hl1).trans n2, (hB6.cell (p := ⟨b, o + i, none⟩) hl2).trans hc0⟩)
                            (first | (go_at_call 37; refine (HP.out _).mono ?_; rintro e w6 ⟨rfl, hB6⟩) | fail)
                          all_goals
                            have hBd : Below wr.heap.size wr w6 := (Below.refl wr.heap.size wr).drew.trans hB6
                            have hB26 : Below w2.heap.size w2 w6 := hBr.out.trans (hBd.mono hsz)
                            obtain ⟨ao7, m7, cap7, w7, hap, hO7, hg7, hB7⟩ := dnw.ownT_appG P (dnw.ownT_below hO.out hBd) (Nat.le_trans HMLN.out (by omega)) hB26.size
                            have HO7 := Lib.hid hO7
                            have HB7 := Lib.hid (hB26.trans hB7)
                            clear hO7 hg7 hB7 hB26 hBd hB6 n0 n1 n2 hc0
                            go_wp2_with (at_builtin; refine Lib.wpList_append_run _ rfl _ _ _ _ rfl _ _ rfl rfl _ _ hap ?_)
                            go_roundw
                            case rel =>
                              refine ⟨i + 1, by omega, by go_num, HALL, ?_, HB7⟩
                              show prw.OwnT _ _ _ _
                              rw [HSTEP.out]
                              exact HO7.out
                            case measure => simp [intOf]; omega
                      · obtain rfl : N = i := by omega
                        have HALL : Hid (allP syn mids = true) := by
                          have := hall.out
                          rw [← HNe.out, List.take_length] at this
                          exact this
                        have HOM : Hid (OwnT wr w2.heap.size (.slice aoR mR capR) (mids.map fun x => bs (gotP syn x))) := by
                          have := hO.out
                          rw [← HNe.out, List.take_length] at this
                          exact this
                        have hmi : mR = N := by rw [hmR.out, List.length_map, List.length_take, HNe.out]; omega
                        subst hmi
                        have HBw := Lib.hid (HB2.out.trans (hBr.out.mono hw2))
                        clear hall hO hmR
                        cases hpl : pieceO syn last.data.toList with
                        | none =>
                          have HR := Lib.hid (HNO.out hsy h8 HS1.out (by first | trivial | rfl) last (by simp) hpl)
                          rw [hpl] at HL
                          have HL1 : Hid (∀ w, Calls Tryz.prog 37 #[.agg #[.string nm, .int .i64 syn, .bool sg], .string last] w fun e w' => e = .returned (.tuple #[.string ⟨#[]⟩, .int .i64 19]) ∧ Below w.heap.size w w') := HL
                          clear hpl
                          go_wp2_with fail
                          refine (HL1.out _).mono ?_
                          rintro e w3 ⟨rfl, hB3⟩
                          have HB3 := Lib.hid (HBw.out.trans (hB3.mono HBw.out.size))
                          clear hB3 n0 n1 n2
                          go_wp2_with fail
                          go_ret2
                          exact ⟨by (rw [HR.out] <;> rfl), HB3.out⟩
                        | some z =>
                          have hzl := HLL.out z hpl
                          have HR := Lib.hid (HYES.out hsy h8 HS1.out (by first | trivial | rfl) a z HPF.out hpl HALL.out)
                          rw [hpl] at HL
                          have HL1 : Hid (∀ w, Calls Tryz.prog 37 #[.agg #[.string nm, .int .i64 syn, .bool sg], .string last] w fun e w' => e = .returned (.tuple #[.string (bs z), .int .i64 0]) ∧ Below w.heap.size w w') := HL
                          clear hpl
                          have hMS : ∀ j (hj : j < mids.length), ((mids.map (gotP syn)).drop j = gotP syn mids[j] :: (mids.map (gotP syn)).drop (j + 1)) ∧ ((mids.map fun x => bs (gotP syn x))[j]? = some (bs (gotP syn mids[j]))) ∧ (gotP syn mids[j]).length ≤ 1100000 := by
                            intro j hj
                            refine ⟨?_, ?_, HML.out _ (List.getElem_mem _)⟩
                            · rw [List.drop_eq_getElem_cons (by rw [List.length_map]; exact hj), List.getElem_map]
                            · rw [List.getElem?_map, List.getElem?_eq_getElem hj]; rfl
                          have hEND : ∀ l, greedy ((mids.map (gotP syn)).drop mR) l = true := by
                            intro l
                            rw [List.drop_eq_nil_of_le (by rw [List.length_map, HNe.out]; exact Nat.le_refl _)]
                            rfl
                          have HSTR := dnw.ownT_strs HOM.out
                          have hcm : Hid (∀ j, j < mR → ∃ p : List UInt8, (∃ b o, aoR = some ⟨b, o, none⟩ ∧ wr.cell? ⟨b, o + j, none⟩ = some (.string (bs p))) ∧ (mids.map (gotP syn)).drop j = p :: (mids.map (gotP syn)).drop (j + 1) ∧ p.length ≤ 1100000) := by
                            intro j hj
                            have hj2 : j < mids.length := by rw [HNe.out]; exact hj
                            obtain ⟨e1, e2, e3⟩ := hMS j hj2
                            refine ⟨_, ?_, e1, e3⟩
                            obtain ⟨b, o, h1, h2⟩ := HSTR.1 j (by rw [List.length_map]; exact hj2)
                            refine ⟨b, o, h1, ?_⟩
                            rw [h2]
                            rw [List.getElem?_eq_getElem (by rw [List.length_map]; exact hj2)] at e2
                            rw [Option.some.inj e2]
                          have HEND := Lib.hid hEND
                          clear hMS hEND HSTR
                          generalize mids.map (gotP syn) = ms at HR hcm HEND
                          go_wp2_with fail
                          refine (HL1.out _).mono ?_
                          rintro e w3 ⟨rfl, hB3⟩
                          have HB3 := Lib.hid (HBw.out.trans (hB3.mono HBw.out.size))
                          have HCM : Hid (∀ j, j < mR → ∃ p : List UInt8, (∃ b o, aoR = some ⟨b, o, none⟩ ∧ w3.cell? ⟨b, o + j, none⟩ = some (.string (bs p))) ∧ ms.drop j = p :: ms.drop (j + 1) ∧ p.length ≤ 1100000) := by
                            intro j hj
                            obtain ⟨p, ⟨b, o, h1, h2⟩, h3⟩ := hcm.out j hj
                            exact ⟨p, ⟨b, o, h1, (hB3.cell (p := ⟨b, o + j, none⟩) (World.block_lt_of_cell? wr _ h2)).trans h2⟩, h3⟩
                          have hw3 : w.heap.size ≤ w3.heap.size := HB3.out.size
                          clear hB3 n0 n1 n2 hcm
                          have hxs : (bs u).size ≤ 1000 := by rw [bs_size]; exact hul
                          have has : (bs a).size ≤ 1100000 := by rw [bs_size]; exact hal
                          have hzs : (bs z).size ≤ 1100000 := by rw [bs_size]; exact hzl
                          have HNO3 : Hid (¬ ((bs a).size + (bs z).size ≤ (bs u).size ∧ (bs u).extract 0 (bs a).size = bs a ∧ (bs u).extract ((bs u).size - (bs z).size) (bs u).size = bs z) → R = (false, 0)) := by
                            intro h
                            rw [HR.out, partR_no (by
                              intro h2
                              apply h
                              refine ⟨by rw [bs_size, bs_size, bs_size]; exact h2.1, ?_, ?_⟩
                              · apply kt.str_eq; rw [ext_pre, bs_data, bs_data, bs_size]; exact h2.2.1
                              · apply kt.str_eq; rw [ext_suf, bs_data, bs_data, bs_size, bs_size]; exact h2.2.2)]
                          have HYES3 : Hid ((bs a).size + (bs z).size ≤ (bs u).size → (bs u).extract 0 (bs a).size = bs a → (bs u).extract ((bs u).size - (bs z).size) (bs u).size = bs z → R = (greedy ms ((((bs u).extract 0 ((bs u).size - (bs z).size)).data.toList).drop (bs a).size), 0)) := by
                            intro h1 h2 h3
                            rw [bs_size, bs_size, bs_size] at h1
                            have h2' := congrArg (fun x : ByteArray => x.data.toList) h2
                            have h3' := congrArg (fun x : ByteArray => x.data.toList) h3
                            rw [ext_pre, bs_data, bs_data, bs_size] at h2'
                            rw [ext_suf, bs_data, bs_data, bs_size, bs_size] at h3'
                            rw [HR.out, partR_yes h1 h2' h3', ext_pre, bs_data, bs_size, bs_size, bs_size]
                          clear HR
                          generalize bs u = X at *
                          generalize bs a = A at *
                          generalize bs z = Z at *
                          clear HYES HNO HERR H20 HF HF1 HL HL1 HM HN HML HNL HFL HLL HPF HALL HOM HST2 hBr
                          by_cases c1 : A.size + Z.size ≤ X.size
                          · have d1 : decide ((X.size : Int) < (A.size : Int) + (Z.size : Int)) = false := by rw [decide_eq_false_iff_not]; omega
                            have d1' : ¬ ((X.size : Int) < (A.size : Int) + (Z.size : Int)) := by omega
                            obtain ⟨K, hK⟩ : ∃ K, X.size - Z.size = K := ⟨_, rfl⟩
                            have hKI : (X.size : Int) - (Z.size : Int) = (K : Int) := by omega
                            have hAK : A.size ≤ K := by omega
                            have hKX : K ≤ X.size := by omega
                            have hAX : A.size ≤ X.size := by omega
                            have hKd : ¬ (X.size : Int) < (K : Int) := by omega
                            rw [hK] at HNO3 HYES3
                            by_cases c2 : X.extract 0 A.size = A
                            · have d2 : ((X.extract 0 A.size).toList == A.toList) = true := by rw [c2]; simp
                              by_cases c3 : X.extract K X.size = Z
                              · have d3 : ((X.extract K X.size).toList == Z.toList) = true := by rw [c3]; simp
                                have HR := Lib.hid (HYES3.out c1 c2 c3)
                                have hYs : (X.extract 0 K).size = K := by rw [ByteArray.size_extract]; omega
                                have hwr1 : IntKind.i64.wrap ((X.size : Int) - (Z.size : Int)) = (K : Int) := by rw [hKI]; exact IntWalk.i64_in _ (by omega)
                                have HKI := Lib.hid hKI
                                clear HNO3 HYES3 c1 c2 c3 hK
                                go_wp2_with fail
                                clear d2 d3
                                go_loopw [22, 23, 24] (fun av iv _ w5 => ∃ j : Nat, j ≤ mR ∧ iv = .int .i64 (j : Int) ∧ ∃ at_ : Nat, av = .int .i64 (at_ : Int) ∧ at_ ≤ K ∧ Hid (R = (greedy (ms.drop j) ((X.extract 0 K).data.toList.drop at_), 0)) ∧ Hid (Below w3.heap.size w3 w5)) (fun _ iv _ _ => mR - (intOf iv).toNat)
                                case atStart => exact ⟨0, Nat.zero_le _, rfl, A.size, rfl, hAK, HR, Below.refl _ _⟩
                                case round =>
                                  obtain ⟨j, hj, rfl, at_, rfl, hat, hRj, hB5⟩ := hrel
                                  by_cases hlt2 : j < mR
                                  · have hltJ : (j : Int) < (mR : Int) := by omega
                                    obtain ⟨p, ⟨b, o, hao, cp0⟩, hdr, hpl⟩ := HCM.out j hlt2
                                    subst hao
                                    have cp1 := (hB5.out.cell (p := ⟨b, o + j, none⟩) (World.block_lt_of_cell? _ _ cp0)).trans cp0
                                    have hps : (bs p).size ≤ 1100000 := by rw [bs_size]; exact hpl
                                    have hSA := fun w => stands_any (X.extract 0 K) (bs p) at_ w (by rw [hYs]; omega) (by omega) (by omega)
                                    have hRd := hRj.out
                                    rw [hdr] at hRd
                                    have hst := stand_eq (s := (X.extract 0 K).data.toList) (p := p) (k := at_) (by rw [kt.size_len, hYs]; exact hat)
                                    have hbp : (bs p).data.toList = p := bs_data p
                                    by_cases hix : Lib.index ((X.extract 0 K).data.toList.drop at_) p < 0
                                    · rw [greedy_no hix] at hRd
                                      rw [if_pos hix] at hst
                                      rw [hbp, hst] at hSA
                                      have HSA := Lib.hid hSA
                                      have HR3 := Lib.hid hRd
                                      clear hRd hdr hst hSA hix hRj cp0 hbp
                                      generalize bs p = P at cp1 hps HSA
                                      go_wp2_with fail
                                      go_quiet ((go_at_call 38; exact Calls.quiet_of_same (kt.flip (HSA.out _))))
                                      have HB6 := Lib.hid (HB3.out.trans ((below_dr hB5.out nq).mono hw3))
                                      generalize wr.drewN nq = w6 at HB6 ⊢
                                      clear cp1
                                      go_wp2_with fail
                                      go_ret2
                                      exact ⟨by (rw [HR3.out] <;> rfl), HB6.out⟩
                                    · rw [greedy_yes hix, List.drop_drop] at hRd
                                      rw [if_neg hix] at hst
                                      have hroom := Lib.index_room ((X.extract 0 K).data.toList.drop at_) p (by omega)
                                      rw [List.length_drop, kt.size_len, hYs] at hroom
                                      obtain ⟨q, hq⟩ : ∃ q : Nat, Lib.index ((X.extract 0 K).data.toList.drop at_) p = (q : Int) := ⟨_, (Int.toNat_of_nonneg (by omega)).symm⟩
                                      rw [hq] at hst hroom hRd
                                      rw [Int.toNat_natCast] at hRd
                                      obtain ⟨v, hv'⟩ : ∃ v : Nat, at_ + q = v := ⟨_, rfl⟩
                                      have hvI : (at_ : Int) + (q : Int) = (v : Int) := by omega
                                      rw [hvI] at hst
                                      rw [hbp, hst] at hSA
                                      have hvp : v + p.length ≤ K := by omega
                                      rw [show at_ + (q + p.length) = v + p.length by omega] at hRd
                                      have hbl : p.length = (bs p).size := (bs_size p).symm
                                      rw [hbl] at hRd hvp
                                      have HSA := Lib.hid hSA
                                      have HR3 := Lib.hid hRd
                                      clear hRd hdr hst hSA hix hRj cp0 hbp hroom hq hvI hv' hbl
                                      generalize bs p = P at cp1 hps HSA hvp HR3
                                      go_wp2_with fail
                                      go_quiet ((go_at_call 38; exact Calls.quiet_of_same (kt.flip (HSA.out _))))
                                      have HB6 := Lib.hid (below_dr hB5.out nq)
                                      have cp2 := ((below_dr (Below.refl wr.heap.size wr) nq).cell (p := ⟨b, o + j, none⟩) (World.block_lt_of_cell? _ _ cp1)).trans cp1
                                      generalize wr.drewN nq = w6 at HB6 cp2 ⊢
                                      clear cp1
                                      go_wp2_with fail
                                      go_roundw
                                      case rel => exact ⟨j + 1, by omega, by go_num, v + P.size, by go_num, hvp, HR3, HB6⟩
                                      case measure => simp [intOf]; omega
                                  · obtain rfl : j = mR := by omega
                                    have HR3 : Hid (R = (true, 0)) := by rw [hRj.out, HEND.out]; exact rfl
                                    go_wp2_with fail
                                    go_ret2
                                    exact ⟨by (rw [HR3.out] <;> rfl), HB3.out.trans (hB5.out.mono hw3)⟩
                              · have d3 : ((X.extract K X.size).toList == Z.toList) = false := by
                                  rw [beq_eq_false_iff_ne, Lib.toList_data, Lib.toList_data]
                                  exact fun h => c3 (kt.str_eq h)
                                have HR := Lib.hid (HNO3.out fun h => c3 h.2.2)
                                clear HNO3 HYES3 c1 c2 c3 hK
                                go_wp2_with fail
                                go_ret2
                                exact ⟨by (rw [HR.out] <;> rfl), HB3.out⟩
                            · have d2 : ((X.extract 0 A.size).toList == A.toList) = false := by
                                rw [beq_eq_false_iff_ne, Lib.toList_data, Lib.toList_data]
                                exact fun h => c2 (kt.str_eq h)
                              have HR := Lib.hid (HNO3.out fun h => c2 h.2.1)
                              clear HNO3 HYES3 c1 c2 hK
                              go_wp2_with fail
                              go_ret2
                              exact ⟨by (rw [HR.out] <;> rfl), HB3.out⟩
                          · have d1 : decide ((X.size : Int) < (A.size : Int) + (Z.size : Int)) = true := by rw [decide_eq_true_iff]; omega
                            have d1' : (X.size : Int) < (A.size : Int) + (Z.size : Int) := by omega
                            have HR := Lib.hid (HNO3.out fun h => c1 h.1)
                            clear HNO3 HYES3 c1
                            go_wp2_with fail
                            go_ret2
                            exact ⟨by (rw [HR.out] <;> rfl), HB3.out⟩
                · have HR := Lib.hid (HERR.out hsy h8 HS1.out her)
                  have q0 : (er != 0) = true := by rw [bne_iff_ne]; exact her
                  clear her
                  go_wp2_with fail
                  go_ret2
                  exact ⟨by (rw [HR.out] <;> rfl), HB1.out⟩
        · have HR := Lib.hid (H20.out (Or.inl hno))
          have p1 : (syn != 1) = true := by rw [bne, q1]; rfl
          have p2 : (syn != 2) = true := by rw [bne, q2]; rfl
          have p7 : (syn != 7) = true := by rw [bne, q7]; rfl
          clear hno q1 q2 q7
          go_wp2_with fail
          go_ret2
          exact ⟨by (rw [HR.out] <;> rfl), HB0.out⟩
end atw
end Go.Proofs.YtckpiaigoeicfaaGreatDoor
/-! EdgeW -/
namespace Go.Proofs.YtckpiaigoeicfaaGreatDoor
open Go.RowKit
namespace atw
open atp tupw prw
set_option linter.unusedVariables false
set_option linter.unusedSimpArgs false
theorem u64_nonneg (n : Int) : 0 ≤ IntKind.u64.wrap n := by
  simp [IntKind.wrap, IntKind.bits, IntKind.signed]; omega
def EdgeE (s : ByteArray) (e : Ending) : Prop := ∃ r : Nat, e = .returned (.int .i64 (r : Int)) ∧ Brk s.data.toList r
set_option maxRecDepth 20000 in
set_option maxHeartbeats 4000000 in
theorem edge_any (s : ByteArray) (n : Int) (w : World) (hs : s.size ≤ 1000) (h0 : -9223372036854775808 ≤ n) (h1 : n ≤ 9223372036854775807) : Calls Tryz.prog 18 #[.string s, .int .i64 n] w fun e w' => EdgeE s e ∧ w = w' := by
  have hsl := kt.size_len s
  have HSL := Lib.hid hsl
  have hz : (0 : Int) ≤ (s.size : Int) := by omega
  have hz1 : (s.size : Int) ≤ 1000 := by omega
  obtain ⟨r0, hr0, hrs⟩ : ∃ r0 : Nat, wrap64 ((IntKind.u64.wrap n).tmod ((s.size : Int) + 1)) = (r0 : Int) ∧ r0 ≤ s.size := by
    have hu : 0 ≤ IntKind.u64.wrap n := u64_nonneg n
    rw [Int.tmod_eq_emod_of_nonneg hu]
    have h1 := Int.emod_nonneg (IntKind.u64.wrap n) (show (s.size : Int) + 1 ≠ 0 by omega)
    have h2 := Int.emod_lt_of_pos (IntKind.u64.wrap n) (show (0 : Int) < (s.size : Int) + 1 by omega)
    rw [IntWalk.wrap64_in _ (by omega)]
    exact ⟨((IntKind.u64.wrap n) % ((s.size : Int) + 1)).toNat, by omega, by omega⟩
  have HR0 := Lib.hid hr0
  unfold EdgeE
  have HBRK : Hid (∀ r : Nat, r ≤ s.size → (∀ h : r < s.size, ¬ (128 ≤ (s[r].toNat : Int) ∧ (s[r].toNat : Int) < 192)) → Brk s.data.toList r) := by
    intro r h1 h2
    refine ⟨by rw [hsl]; exact h1, fun c hc => ?_⟩
    obtain ⟨h3, h4⟩ := List.getElem?_eq_some_iff.1 hc
    have h5 := h2 (by rw [← hsl]; exact h3)
    have h6 : s[r]'(by rw [← hsl]; exact h3) = c := h4
    rw [h6] at h5
    omega
  clear hsl hs hr0
  go_enter Tryz.func18, Tryz.ntmps18
  go_wp2_with fail
  go_loop [1] (fun rv => ∃ r : Nat, r ≤ s.size ∧ rv = .int .i64 (r : Int)) (fun rv => s.size - (intOf rv).toNat)
  case atStart => exact ⟨r0, hrs, by rw [HR0.out]⟩
  case round =>
    obtain ⟨r, hr, rfl⟩ := hrel
    by_cases hlt : r < s.size
    · have hltI : (r : Int) < (s.size : Int) := by omega
      have HBX := Lib.hid (HBRK.out r hr)
      by_cases h128 : 128 ≤ (s[r].toNat : Int)
      · by_cases h192 : (s[r].toNat : Int) < 192
        · have d1 : decide ((128 : Int) ≤ (s[r].toNat : Int)) = true := decide_eq_true h128
          have d2 : decide ((s[r].toNat : Int) < 192) = true := decide_eq_true h192
          go_wp2_with fail
          go_round
          case rel => exact ⟨r + 1, by omega, by go_num⟩
          case measure => simp [intOf]; omega
        · have d1 : decide ((128 : Int) ≤ (s[r].toNat : Int)) = true := decide_eq_true h128
          have d2 : decide ((s[r].toNat : Int) < 192) = false := decide_eq_false h192
          have HB := Lib.hid (HBX.out (fun _ h => h192 h.2))
          clear HBX
          go_wp2_with fail
          go_ret
          exact ⟨⟨r, rfl, HB.out⟩, rfl⟩
      · have d1 : decide ((128 : Int) ≤ (s[r].toNat : Int)) = false := decide_eq_false h128
        have HB := Lib.hid (HBX.out (fun _ h => h128 h.1))
        clear HBX
        go_wp2_with fail
        go_ret
        exact ⟨⟨r, rfl, HB.out⟩, rfl⟩
    · have HB := Lib.hid (HBRK.out r hr (fun h => absurd h hlt))
      have hltI : ¬ (r : Int) < (s.size : Int) := by omega
      have hltD : decide ((r : Int) < (s.size : Int)) = false := decide_eq_false hltI
      go_wp2_with fail
      go_ret
      exact ⟨⟨r, rfl, HB.out⟩, rfl⟩
end atw
end Go.Proofs.YtckpiaigoeicfaaGreatDoor
/-! LawE -/
namespace Go.Proofs.YtckpiaigoeicfaaGreatDoor
open Go.RowKit
namespace atw
open atp tupw prw
set_option linter.unusedVariables false
set_option linter.unusedSimpArgs false
theorem neB_iff {x : ByteArray} (h : x.data.toList ≠ []) : neB x = true := by unfold neB; exact decide_eq_true h
theorem ends_parts {l S : List UInt8} (h : prp.readyO l false = some S) (h1 : S ≠ []) (h2 : S.length ≤ 1000) {a b : Nat} (ha : Brk S a) (hb : Brk S b) (hab : a ≤ b) :
    (0 < a → partE 2 (bs S) ((bs S).extract 0 a) ⟨#[]⟩ [] = (true, 0)) ∧ (b < (bs S).size → partE 2 (bs S) ⟨#[]⟩ ((bs S).extract b (bs S).size) [] = (true, 0)) ∧ partE 2 (bs S) ((bs S).extract 0 a) ((bs S).extract b (bs S).size) [(bs S).extract a b] = (true, 0) := by
  have eA : ((bs S).extract 0 a).data.toList = S.take a := by rw [ext_pre, bs_data]
  have eZ : ((bs S).extract b (bs S).size).data.toList = S.drop b := by rw [ext_suf, bs_data]
  have eM : ((bs S).extract a b).data.toList = (S.drop a).take (b - a) := by
    rw [ByteArray.data_extract, Array.toList_extract, List.extract_eq_take_drop, bs_data]
  have e0 : (⟨#[]⟩ : ByteArray).data.toList = [] := rfl
  have hn : normL 2 (bs S).data.toList = ((bs S).data.toList, 0) := by rw [bs_data]; exact ready_norm h h1 h2
  obtain ⟨pA, pM, pZ⟩ := ready_cut h ha hb hab
  refine ⟨fun h0 => ?_, fun h0 => ?_, ?_⟩
  · refine part_yes hn (by simp) ?_ ?_ ?_
    · rw [List.any_cons, neB_iff (by rw [eA]; intro e; have := congrArg List.length e; rw [List.length_take] at this; simp at this; rcases this with h | h; omega; exact h1 h)]; rfl
    · intro x hx
      simp at hx
      rcases hx with rfl | rfl
      · rw [eA]; exact pA
      · exact piece_nil
    · rw [bs_data, eA, e0]
      have := partL_two (S.take a) (S.drop a) []
      rw [List.append_nil, List.take_append_drop] at this
      exact this
  · refine part_yes hn (by simp) ?_ ?_ ?_
    · rw [List.any_cons, List.any_append, List.any_cons, neB_iff (x := (bs S).extract b (bs S).size) (by rw [eZ]; intro e; have := congrArg List.length e; rw [List.length_drop] at this; rw [bs_size] at h0; simp at this; omega)]; simp
    · intro x hx
      simp at hx
      rcases hx with rfl | rfl
      · exact piece_nil
      · rw [eZ]; exact pZ
    · rw [bs_data, eZ, e0]
      have := partL_two [] (S.take b) (S.drop b)
      rw [List.nil_append, List.take_append_drop] at this
      exact this
  · refine part_yes hn (by simp) ?_ ?_ ?_
    · rw [any_all, List.any_cons, List.any_nil, Bool.or_false]
      by_cases c1 : S.take a = []
      · by_cases c2 : (S.drop a).take (b - a) = []
        · by_cases c3 : S.drop b = []
          · exfalso
            apply h1
            rw [take_mid S hab, c1, c2, c3]; rfl
          · rw [neB_iff (x := (bs S).extract b (bs S).size) (by rw [eZ]; exact c3)]; simp
        · rw [neB_iff (x := (bs S).extract a b) (by rw [eM]; exact c2)]; simp
      · rw [neB_iff (x := (bs S).extract 0 a) (by rw [eA]; exact c1)]; simp
    · intro x hx
      simp at hx
      rcases hx with rfl | rfl | rfl
      · rw [eA]; exact pA
      · rw [eM]; exact pM
      · rw [eZ]; exact pZ
    · rw [bs_data, eA, eZ]
      show partL S _ _ [((bs S).extract a b).data.toList] = true
      rw [eM]
      have := partL_three (S.take a) ((S.drop a).take (b - a)) (S.drop b)
      rw [← take_mid S hab] at this
      exact this
theorem sn_find : resT (findS (sml.lowL [115, 101, 114, 105, 97, 108, 110, 117, 109, 98, 101, 114])) = .tuple #[.agg #[.string (bs [115, 101, 114, 105, 97, 108, 110, 117, 109, 98, 101, 114]), .int .i64 2, .bool false], .bool true] := by rfl
set_option maxRecDepth 20000 in
set_option maxHeartbeats 16000000 in
theorem ends_law (value : ByteArray) (cut more : Int) (w : World) (hv : value.size ≤ 1100000) (hc0 : -9223372036854775808 ≤ cut) (hc1 : cut ≤ 9223372036854775807) (hm0 : -9223372036854775808 ≤ more) (hm1 : more ≤ 9223372036854775807) (hE : Hid (prw.Env w)) (hT : Hid (dnw.Tabs w)) (hY : Hid (TyEnv w)) :
    Calls Tryz.prog 5 #[.string value, .int .i64 cut, .int .i64 more] w fun e w' => e = .returned (.bool true) ∧ Below w.heap.size w w' := by
  have HAW := Lib.hid (awake_any w hE hT hY)
  have HF0 : Hid (∀ w, TyEnv w → Calls Tryz.prog 16 #[.string ⟨#[115, 101, 114, 105, 97, 108, 110, 117, 109, 98, 101, 114]⟩] w fun e w' => e = .returned (.tuple #[.agg #[.string (bs [115, 101, 114, 105, 97, 108, 110, 117, 109, 98, 101, 114]), .int .i64 2, .bool false], .bool true]) ∧ Below w.heap.size w w') := by
    intro w h
    rw [← sn_find]
    exact find_any ⟨#[115, 101, 114, 105, 97, 108, 110, 117, 109, 98, 101, 114]⟩ w (by decide) (Lib.hid h)
  obtain ⟨nm, HF⟩ : ∃ nm : ByteArray, Hid (∀ w, TyEnv w → Calls Tryz.prog 16 #[.string ⟨#[115, 101, 114, 105, 97, 108, 110, 117, 109, 98, 101, 114]⟩] w fun e w' => e = .returned (.tuple #[.agg #[.string nm, .int .i64 2, .bool false], .bool true]) ∧ Below w.heap.size w w') := ⟨_, HF0⟩
  have HRD0 : ∀ w, Calls Tryz.prog 17 #[.string value, .bool false] w fun e w' => e = .returned (prw.pairV (prp.readyO value.data.toList false)) ∧ Below w.heap.size w w' := fun w => prw.rready_any value false w hv
  clear HF0
  cases hro : prp.readyO value.data.toList false with
  | none =>
    rw [hro] at HRD0
    have HRD : Hid (∀ w, Calls Tryz.prog 17 #[.string value, .bool false] w fun e w' => e = .returned (.tuple #[.string ⟨#[]⟩, .int .i64 19]) ∧ Below w.heap.size w w') := HRD0
    clear HRD0 hro
    go_enter Tryz.func5, Tryz.ntmps5
    go_wp2_with fail
    refine (HAW.out).mono ?_
    rintro e w1 ⟨rfl, hB1⟩
    have HB1 := Lib.hid hB1
    clear hB1
    go_wp2_with fail
    refine (HF.out _ (tyEnv_below hY.out HB1.out)).mono ?_
    rintro e w2 ⟨rfl, hB2⟩
    have HB2 := Lib.hid (HB1.out.trans (hB2.mono HB1.out.size))
    clear hB2
    obtain ⟨W1, hW1⟩ : ∃ W, w2.alloc (.cells #[.string nm, .int .i64 2, .bool false] 23) = W := ⟨_, rfl⟩
    have HT1 : Hid (TB W1 w2.heap.size nm 2 false) := by rw [← hW1]; exact tb_new w2 nm 2 false
    have HBW1 : Hid (Below w.heap.size w W1) := by rw [← hW1]; exact HB2.out.alloc (HB2.out.size) _
    have HW1 := Lib.hid hW1
    clear hW1
    go_wp2_with fail
    rw [HW1.out]
    refine (HRD.out _).mono ?_
    rintro e W2 ⟨rfl, hBW2⟩
    have HBW2 := Lib.hid (HBW1.out.trans (hBW2.mono HBW1.out.size))
    have HT2 := Lib.hid (tb_below HT1.out hBW2)
    clear hBW2
    go_wp2_with fail
    go_ret
    exact ⟨rfl, HBW2.out⟩
  | some S =>
    rw [hro] at HRD0
    have HRO := Lib.hid hro
    obtain ⟨X, hX⟩ : ∃ X, bs S = X := ⟨_, rfl⟩
    have hXS : X.size = S.length := by rw [← hX, bs_size]
    have HRD1 : Hid (∀ w, Calls Tryz.prog 17 #[.string value, .bool false] w fun e w' => e = .returned (.tuple #[.string (bs S), .int .i64 0]) ∧ Below w.heap.size w w') := HRD0
    rw [hX] at HRD1
    have HRD := Lib.hid HRD1.out
    have HX := Lib.hid hX
    clear HRD0 HRD1 hro hX
    by_cases hz : X.size = 0
    · have hzI : ((X.size : Int) == 0) = true := by rw [hz]; rfl
      have hzN : (X.size == 0) = true := by rw [hz]; rfl
      clear hz hXS
      go_enter Tryz.func5, Tryz.ntmps5
      go_wp2_with fail
      refine (HAW.out).mono ?_
      rintro e w1 ⟨rfl, hB1⟩
      have HB1 := Lib.hid hB1
      clear hB1
      go_wp2_with fail
      refine (HF.out _ (tyEnv_below hY.out HB1.out)).mono ?_
      rintro e w2 ⟨rfl, hB2⟩
      have HB2 := Lib.hid (HB1.out.trans (hB2.mono HB1.out.size))
      clear hB2
      obtain ⟨W1, hW1⟩ : ∃ W, w2.alloc (.cells #[.string nm, .int .i64 2, .bool false] 23) = W := ⟨_, rfl⟩
      have HT1 : Hid (TB W1 w2.heap.size nm 2 false) := by rw [← hW1]; exact tb_new w2 nm 2 false
      have HBW1 : Hid (Below w.heap.size w W1) := by rw [← hW1]; exact HB2.out.alloc (HB2.out.size) _
      have HW1 := Lib.hid hW1
      clear hW1
      go_wp2_with fail
      rw [HW1.out]
      refine (HRD.out _).mono ?_
      rintro e W2 ⟨rfl, hBW2⟩
      have HBW2 := Lib.hid (HBW1.out.trans (hBW2.mono HBW1.out.size))
      have HT2 := Lib.hid (tb_below HT1.out hBW2)
      clear hBW2
      go_wp2_with fail
      go_ret
      exact ⟨rfl, HBW2.out⟩
    · have hzI : ((X.size : Int) == 0) = false := by rw [beq_eq_false_iff_ne]; omega
      have hzN : (X.size == 0) = false := by rw [beq_eq_false_iff_ne]; omega
      by_cases hl : 1000 < X.size
      · have hlI : (1000 : Int) < (X.size : Int) := by omega
        clear hl hXS hz
        go_enter Tryz.func5, Tryz.ntmps5
        go_wp2_with fail
        refine (HAW.out).mono ?_
        rintro e w1 ⟨rfl, hB1⟩
        have HB1 := Lib.hid hB1
        clear hB1
        go_wp2_with fail
        refine (HF.out _ (tyEnv_below hY.out HB1.out)).mono ?_
        rintro e w2 ⟨rfl, hB2⟩
        have HB2 := Lib.hid (HB1.out.trans (hB2.mono HB1.out.size))
        clear hB2
        obtain ⟨W1, hW1⟩ : ∃ W, w2.alloc (.cells #[.string nm, .int .i64 2, .bool false] 23) = W := ⟨_, rfl⟩
        have HT1 : Hid (TB W1 w2.heap.size nm 2 false) := by rw [← hW1]; exact tb_new w2 nm 2 false
        have HBW1 : Hid (Below w.heap.size w W1) := by rw [← hW1]; exact HB2.out.alloc (HB2.out.size) _
        have HW1 := Lib.hid hW1
        clear hW1
        go_wp2_with fail
        rw [HW1.out]
        refine (HRD.out _).mono ?_
        rintro e W2 ⟨rfl, hBW2⟩
        have HBW2 := Lib.hid (HBW1.out.trans (hBW2.mono HBW1.out.size))
        have HT2 := Lib.hid (tb_below HT1.out hBW2)
        clear hBW2
        go_wp2_with fail
        go_ret
        exact ⟨rfl, HBW2.out⟩
      · have hlI : decide ((1000 : Int) < (X.size : Int)) = false := by rw [decide_eq_false_iff_not]; omega
        have HNE : Hid (S ≠ []) := by intro e; rw [e] at hXS; exact hz hXS
        have HLN : Hid (S.length ≤ 1000) := by show _ ≤ _; omega
        have hXl : X.size ≤ 1000 := by omega
        have HBX : Hid (∀ k, Brk X.data.toList k → Brk S k) := by
          intro k h
          rw [← HX.out, bs_data] at h
          exact h
        have HED : Hid (∀ n : Int, -9223372036854775808 ≤ n → n ≤ 9223372036854775807 → ∀ w, Calls Tryz.prog 18 #[.string X, .int .i64 n] w fun e w' => EdgeE X e ∧ w = w') := fun n h0 h1 w => edge_any X n w hXl h0 h1
        clear hl hXS hz
        go_enter Tryz.func5, Tryz.ntmps5
        go_wp2_with fail
        refine (HAW.out).mono ?_
        rintro e w1 ⟨rfl, hB1⟩
        have HB1 := Lib.hid hB1
        clear hB1
        go_wp2_with fail
        refine (HF.out _ (tyEnv_below hY.out HB1.out)).mono ?_
        rintro e w2 ⟨rfl, hB2⟩
        have HB2 := Lib.hid (HB1.out.trans (hB2.mono HB1.out.size))
        clear hB2
        obtain ⟨W1, hW1⟩ : ∃ W, w2.alloc (.cells #[.string nm, .int .i64 2, .bool false] 23) = W := ⟨_, rfl⟩
        have HT1 : Hid (TB W1 w2.heap.size nm 2 false) := by rw [← hW1]; exact tb_new w2 nm 2 false
        have HBW1 : Hid (Below w.heap.size w W1) := by rw [← hW1]; exact HB2.out.alloc (HB2.out.size) _
        have HW1 := Lib.hid hW1
        clear hW1
        go_wp2_with fail
        rw [HW1.out]
        refine (HRD.out _).mono ?_
        rintro e W2 ⟨rfl, hBW2⟩
        have HBW2 := Lib.hid (HBW1.out.trans (hBW2.mono HBW1.out.size))
        have HT2 := Lib.hid (tb_below HT1.out hBW2)
        clear hBW2
        go_wp2_with fail
        refine (HED.out cut hc0 hc1 _).mono ?_
        rintro e w3 ⟨⟨a, rfl, hBa0⟩, rfl⟩
        have hBA := Lib.hid (HBX.out a hBa0)
        clear hBa0
        go_wp2_with fail
        refine (HED.out more hm0 hm1 _).mono ?_
        rintro e w3 ⟨⟨b, rfl, hBb0⟩, rfl⟩
        have hBB := Lib.hid (HBX.out b hBb0)
        clear hBb0 HBX HED
        by_cases hab' : b < a
        · have hab : b ≤ a := by omega
          have hsI : (b : Int) < (a : Int) := by omega
          have hsD : decide (b < a) = true := decide_eq_true hab'
          have hBa := hBB.out
          have hBb := hBA.out
          clear hab'
          obtain ⟨hP1, hP2, hP3⟩ := ends_parts HRO.out HNE.out HLN.out hBa hBb hab
          have hbl : a ≤ X.size := by have := hBb.1; rw [← bs_size] at this; rw [← HX.out]; exact this
          have hal : b ≤ X.size := by omega
          rw [HX.out] at hP1 hP2 hP3
          have HP1 : Hid (0 < b → ∀ w, prw.Env w → dnw.Tabs w → Calls Tryz.prog 14 #[.agg #[.string nm, .int .i64 2, .bool false], .string X, .string (X.extract 0 b), .slice none 0 0, .string ⟨#[]⟩] w fun e w' => e = .returned (.tuple #[.bool true, .int .i64 0]) ∧ Below w.heap.size w w') := by
            intro h w h1 h2
            have := part_any nm 2 false X (X.extract 0 b) ⟨#[]⟩ [] none 0 w (fun i hi => absurd hi (Nat.not_lt_zero _)) (fun _ => rfl) (by decide) (by omega) (by intro x hx; simp at hx; rcases hx with rfl | rfl; (rw [ByteArray.size_extract]; omega); (show 0 ≤ _; omega)) (Lib.hid h1) (Lib.hid h2)
            rw [hP1 h] at this
            exact this
          have HP2 : Hid (a < X.size → ∀ w, prw.Env w → dnw.Tabs w → Calls Tryz.prog 14 #[.agg #[.string nm, .int .i64 2, .bool false], .string X, .string ⟨#[]⟩, .slice none 0 0, .string (X.extract a X.size)] w fun e w' => e = .returned (.tuple #[.bool true, .int .i64 0]) ∧ Below w.heap.size w w') := by
            intro h w h1 h2
            have := part_any nm 2 false X ⟨#[]⟩ (X.extract a X.size) [] none 0 w (fun i hi => absurd hi (Nat.not_lt_zero _)) (fun _ => rfl) (by decide) (by omega) (by intro x hx; simp at hx; rcases hx with rfl | rfl; (show 0 ≤ _; omega); (rw [ByteArray.size_extract]; omega)) (Lib.hid h1) (Lib.hid h2)
            rw [hP2 h] at this
            exact this
          have HP3 : Hid (∀ g w, w.cell? ⟨g, 0, none⟩ = some (.string (X.extract b a)) → prw.Env w → dnw.Tabs w → Calls Tryz.prog 14 #[.agg #[.string nm, .int .i64 2, .bool false], .string X, .string (X.extract 0 b), .slice (some ⟨g, 0, none⟩) 1 1, .string (X.extract a X.size)] w fun e w' => e = .returned (.tuple #[.bool true, .int .i64 0]) ∧ Below w.heap.size w w') := by
            intro g w h0 h1 h2
            have := part_any nm 2 false X (X.extract 0 b) (X.extract a X.size) [X.extract b a] (some ⟨g, 0, none⟩) 1 w (fun i hi => by obtain rfl : i = 0 := by { simp at hi; omega }; exact ⟨g, 0, rfl, h0⟩) (fun e => by cases e) (by simp) (by omega) (by intro x hx; simp at hx; rcases hx with rfl | rfl | rfl <;> (rw [ByteArray.size_extract]; omega)) (Lib.hid h1) (Lib.hid h2)
            rw [hP3] at this
            exact this
          have haI : (b : Int) ≤ (X.size : Int) := by omega
          have hbI : (a : Int) ≤ (X.size : Int) := by omega
          have habI : (b : Int) ≤ (a : Int) := by omega
          have habN : ¬ (a : Int) < (b : Int) := by omega
          have haN : ¬ (X.size : Int) < (b : Int) := by omega
          have hbN : ¬ (X.size : Int) < (a : Int) := by omega
          clear hP1 hP2 hP3 hBa hBb
          by_cases ha0 : 0 < b
          · have HQ1 := Lib.hid (HP1.out ha0)
            have ha0I : (0 : Int) < (b : Int) := by omega
            have ha0D : decide (0 < b) = true := decide_eq_true ha0
            by_cases hbx : a < X.size
            · have HQ2 := Lib.hid (HP2.out hbx)
              have hbxI : (a : Int) < (X.size : Int) := by omega
              have hbxD : decide (a < X.size) = true := decide_eq_true hbx
              clear HP1 HP2
              have HENV : Hid (prw.Env W2.drew ∧ dnw.Tabs W2.drew) := ⟨prw.env_below hE.out HBW2.out.drew, dnw.tabs_below hT.out HBW2.out.drew⟩
              obtain ⟨k0, k1, k2⟩ := tb_cells HT2.out
              have hlk := World.block_lt_of_cell? W2 _ k0
              go_wp2_with fail
              go_region_held3 (fun W => W.cell? ⟨w2.heap.size, 0, none⟩ = some (.string nm) ∧ W.cell? ⟨w2.heap.size, 1, none⟩ = some (.int .i64 2) ∧ W.cell? ⟨w2.heap.size, 2, none⟩ = some (.bool false)) (first
                  | exact ⟨k0, k1, k2⟩
                  | exact ⟨(hB6.cell (p := ⟨w2.heap.size, 0, none⟩) hlk).trans k0, (hB6.cell (p := ⟨w2.heap.size, 1, none⟩) hlk).trans k1, (hB6.cell (p := ⟨w2.heap.size, 2, none⟩) hlk).trans k2⟩)
                (first | (go_at_call 14; refine (HQ1.out _ HENV.out.1 HENV.out.2).mono ?_; rintro e w6 ⟨rfl, hB6⟩) | fail)
              have hB6' : Below W2.heap.size W2 w6 := ((Below.refl W2.heap.size W2).drew).trans hB6
              obtain ⟨W3, hW3⟩ : ∃ W, w6 = W := ⟨_, rfl⟩
              have HBW3 : Hid (Below w.heap.size w W3) := by rw [← hW3]; exact HBW2.out.trans (hB6'.mono HBW2.out.size)
              have HT3 : Hid (TB W3 w2.heap.size nm 2 false) := by rw [← hW3]; exact tb_below HT2.out hB6'
              rw [hW3]
              clear hB6 hB6' hW3 k0 k1 k2 hlk HENV
              have HENV : Hid (prw.Env W3.drew ∧ dnw.Tabs W3.drew) := ⟨prw.env_below hE.out HBW3.out.drew, dnw.tabs_below hT.out HBW3.out.drew⟩
              obtain ⟨k0, k1, k2⟩ := tb_cells HT3.out
              have hlk := World.block_lt_of_cell? W3 _ k0
              go_wp2_with fail
              go_region_held3 (fun W => W.cell? ⟨w2.heap.size, 0, none⟩ = some (.string nm) ∧ W.cell? ⟨w2.heap.size, 1, none⟩ = some (.int .i64 2) ∧ W.cell? ⟨w2.heap.size, 2, none⟩ = some (.bool false)) (first
                  | exact ⟨k0, k1, k2⟩
                  | exact ⟨(hB6.cell (p := ⟨w2.heap.size, 0, none⟩) hlk).trans k0, (hB6.cell (p := ⟨w2.heap.size, 1, none⟩) hlk).trans k1, (hB6.cell (p := ⟨w2.heap.size, 2, none⟩) hlk).trans k2⟩)
                (first | (go_at_call 14; refine (HQ2.out _ HENV.out.1 HENV.out.2).mono ?_; rintro e w6 ⟨rfl, hB6⟩) | fail)
              have hB6' : Below W3.heap.size W3 w6 := ((Below.refl W3.heap.size W3).drew).trans hB6
              obtain ⟨W4, hW4⟩ : ∃ W, w6 = W := ⟨_, rfl⟩
              have HBW4 : Hid (Below w.heap.size w W4) := by rw [← hW4]; exact HBW3.out.trans (hB6'.mono HBW3.out.size)
              have HT4 : Hid (TB W4 w2.heap.size nm 2 false) := by rw [← hW4]; exact tb_below HT3.out hB6'
              rw [hW4]
              clear hB6 hB6' hW4 k0 k1 k2 hlk HENV
              obtain ⟨W9, hW9⟩ : ∃ W, W4.drew.alloc (.cells #[.string (X.extract b a)] 9) = W := ⟨_, rfl⟩
              obtain ⟨k0, k1, k2⟩ := tb_cells HT4.out
              have hlk := World.block_lt_of_cell? W4 _ k0
              have hB9 : Below W4.heap.size W4 W9 := by rw [← hW9]; exact ((Below.refl W4.heap.size W4).drew).alloc (Nat.le_refl _) _
              have hc9 : W9.cell? ⟨W4.heap.size, 0, none⟩ = some (.string (X.extract b a)) := by rw [← hW9, show (⟨W4.heap.size, 0, none⟩ : Addr) = ⟨W4.drew.heap.size, 0, none⟩ from rfl, World.cell?_alloc_new]; rfl
              have HENV : Hid (prw.Env W9 ∧ dnw.Tabs W9) := ⟨prw.env_below hE.out (HBW4.out.trans (hB9.mono HBW4.out.size)), dnw.tabs_below hT.out (HBW4.out.trans (hB9.mono HBW4.out.size))⟩
              have HPX := Lib.hid (HP3.out _ W9 hc9 HENV.out.1 HENV.out.2)
              rw [← hW9] at HPX
              have HB9 := Lib.hid hB9
              have HW9 := Lib.hid hW9
              clear hc9 hB9 hW9
              go_wp2_with fail
              go_region_held3 (fun W => W.cell? ⟨w2.heap.size, 0, none⟩ = some (.string nm) ∧ W.cell? ⟨w2.heap.size, 1, none⟩ = some (.int .i64 2) ∧ W.cell? ⟨w2.heap.size, 2, none⟩ = some (.bool false)) (first
                  | exact ⟨k0, k1, k2⟩
                  | exact ⟨(hB6.cell (p := ⟨w2.heap.size, 0, none⟩) hlk).trans k0, (hB6.cell (p := ⟨w2.heap.size, 1, none⟩) hlk).trans k1, (hB6.cell (p := ⟨w2.heap.size, 2, none⟩) hlk).trans k2⟩
                  | exact ⟨(((Below.refl _ _).alloc (Nat.le_refl _) _).cell (p := ⟨w2.heap.size, 0, none⟩) hlk).trans k0, (((Below.refl _ _).alloc (Nat.le_refl _) _).cell (p := ⟨w2.heap.size, 1, none⟩) hlk).trans k1, (((Below.refl _ _).alloc (Nat.le_refl _) _).cell (p := ⟨w2.heap.size, 2, none⟩) hlk).trans k2⟩
                  | exact ⟨(hB6.cell (p := ⟨w2.heap.size, 0, none⟩) (Nat.lt_of_lt_of_le hlk ((Below.refl W4.heap.size W4).drew.alloc (Nat.le_refl _) _).size)).trans ((((Below.refl _ _).alloc (Nat.le_refl _) _).cell (p := ⟨w2.heap.size, 0, none⟩) hlk).trans k0), (hB6.cell (p := ⟨w2.heap.size, 1, none⟩) (Nat.lt_of_lt_of_le hlk ((Below.refl W4.heap.size W4).drew.alloc (Nat.le_refl _) _).size)).trans ((((Below.refl _ _).alloc (Nat.le_refl _) _).cell (p := ⟨w2.heap.size, 1, none⟩) hlk).trans k1), (hB6.cell (p := ⟨w2.heap.size, 2, none⟩) (Nat.lt_of_lt_of_le hlk ((Below.refl W4.heap.size W4).drew.alloc (Nat.le_refl _) _).size)).trans ((((Below.refl _ _).alloc (Nat.le_refl _) _).cell (p := ⟨w2.heap.size, 2, none⟩) hlk).trans k2)⟩)
                (first | (go_at_call 14; refine (HPX.out).mono ?_; rintro e w6 ⟨rfl, hB6⟩) | fail)
              all_goals
                have hB6' : Below w.heap.size w w6 := HBW4.out.trans ((HB9.out.trans (by rw [← HW9.out]; exact hB6.mono (by rw [HW9.out]; exact HB9.out.size))).mono HBW4.out.size)
                have HBZ := Lib.hid hB6'
                clear hB6 hB6' k0 k1 k2
                go_wp2_with fail
                go_ret
                exact ⟨rfl, HBZ.out⟩
            · have hbxI : ¬ (a : Int) < (X.size : Int) := by omega
              have hbxD : decide (a < X.size) = false := decide_eq_false hbx
              clear HP1 HP2
              have HENV : Hid (prw.Env W2.drew ∧ dnw.Tabs W2.drew) := ⟨prw.env_below hE.out HBW2.out.drew, dnw.tabs_below hT.out HBW2.out.drew⟩
              obtain ⟨k0, k1, k2⟩ := tb_cells HT2.out
              have hlk := World.block_lt_of_cell? W2 _ k0
              go_wp2_with fail
              go_region_held3 (fun W => W.cell? ⟨w2.heap.size, 0, none⟩ = some (.string nm) ∧ W.cell? ⟨w2.heap.size, 1, none⟩ = some (.int .i64 2) ∧ W.cell? ⟨w2.heap.size, 2, none⟩ = some (.bool false)) (first
                  | exact ⟨k0, k1, k2⟩
                  | exact ⟨(hB6.cell (p := ⟨w2.heap.size, 0, none⟩) hlk).trans k0, (hB6.cell (p := ⟨w2.heap.size, 1, none⟩) hlk).trans k1, (hB6.cell (p := ⟨w2.heap.size, 2, none⟩) hlk).trans k2⟩)
                (first | (go_at_call 14; refine (HQ1.out _ HENV.out.1 HENV.out.2).mono ?_; rintro e w6 ⟨rfl, hB6⟩) | fail)
              have hB6' : Below W2.heap.size W2 w6 := ((Below.refl W2.heap.size W2).drew).trans hB6
              obtain ⟨W3, hW3⟩ : ∃ W, w6 = W := ⟨_, rfl⟩
              have HBW3 : Hid (Below w.heap.size w W3) := by rw [← hW3]; exact HBW2.out.trans (hB6'.mono HBW2.out.size)
              have HT3 : Hid (TB W3 w2.heap.size nm 2 false) := by rw [← hW3]; exact tb_below HT2.out hB6'
              rw [hW3]
              clear hB6 hB6' hW3 k0 k1 k2 hlk HENV
              obtain ⟨W9, hW9⟩ : ∃ W, W3.drew.alloc (.cells #[.string (X.extract b a)] 9) = W := ⟨_, rfl⟩
              obtain ⟨k0, k1, k2⟩ := tb_cells HT3.out
              have hlk := World.block_lt_of_cell? W3 _ k0
              have hB9 : Below W3.heap.size W3 W9 := by rw [← hW9]; exact ((Below.refl W3.heap.size W3).drew).alloc (Nat.le_refl _) _
              have hc9 : W9.cell? ⟨W3.heap.size, 0, none⟩ = some (.string (X.extract b a)) := by rw [← hW9, show (⟨W3.heap.size, 0, none⟩ : Addr) = ⟨W3.drew.heap.size, 0, none⟩ from rfl, World.cell?_alloc_new]; rfl
              have HENV : Hid (prw.Env W9 ∧ dnw.Tabs W9) := ⟨prw.env_below hE.out (HBW3.out.trans (hB9.mono HBW3.out.size)), dnw.tabs_below hT.out (HBW3.out.trans (hB9.mono HBW3.out.size))⟩
              have HPX := Lib.hid (HP3.out _ W9 hc9 HENV.out.1 HENV.out.2)
              rw [← hW9] at HPX
              have HB9 := Lib.hid hB9
              have HW9 := Lib.hid hW9
              clear hc9 hB9 hW9
              go_wp2_with fail
              go_region_held3 (fun W => W.cell? ⟨w2.heap.size, 0, none⟩ = some (.string nm) ∧ W.cell? ⟨w2.heap.size, 1, none⟩ = some (.int .i64 2) ∧ W.cell? ⟨w2.heap.size, 2, none⟩ = some (.bool false)) (first
                  | exact ⟨k0, k1, k2⟩
                  | exact ⟨(hB6.cell (p := ⟨w2.heap.size, 0, none⟩) hlk).trans k0, (hB6.cell (p := ⟨w2.heap.size, 1, none⟩) hlk).trans k1, (hB6.cell (p := ⟨w2.heap.size, 2, none⟩) hlk).trans k2⟩
                  | exact ⟨(((Below.refl _ _).alloc (Nat.le_refl _) _).cell (p := ⟨w2.heap.size, 0, none⟩) hlk).trans k0, (((Below.refl _ _).alloc (Nat.le_refl _) _).cell (p := ⟨w2.heap.size, 1, none⟩) hlk).trans k1, (((Below.refl _ _).alloc (Nat.le_refl _) _).cell (p := ⟨w2.heap.size, 2, none⟩) hlk).trans k2⟩
                  | exact ⟨(hB6.cell (p := ⟨w2.heap.size, 0, none⟩) (Nat.lt_of_lt_of_le hlk ((Below.refl W3.heap.size W3).drew.alloc (Nat.le_refl _) _).size)).trans ((((Below.refl _ _).alloc (Nat.le_refl _) _).cell (p := ⟨w2.heap.size, 0, none⟩) hlk).trans k0), (hB6.cell (p := ⟨w2.heap.size, 1, none⟩) (Nat.lt_of_lt_of_le hlk ((Below.refl W3.heap.size W3).drew.alloc (Nat.le_refl _) _).size)).trans ((((Below.refl _ _).alloc (Nat.le_refl _) _).cell (p := ⟨w2.heap.size, 1, none⟩) hlk).trans k1), (hB6.cell (p := ⟨w2.heap.size, 2, none⟩) (Nat.lt_of_lt_of_le hlk ((Below.refl W3.heap.size W3).drew.alloc (Nat.le_refl _) _).size)).trans ((((Below.refl _ _).alloc (Nat.le_refl _) _).cell (p := ⟨w2.heap.size, 2, none⟩) hlk).trans k2)⟩)
                (first | (go_at_call 14; refine (HPX.out).mono ?_; rintro e w6 ⟨rfl, hB6⟩) | fail)
              all_goals
                have hB6' : Below w.heap.size w w6 := HBW3.out.trans ((HB9.out.trans (by rw [← HW9.out]; exact hB6.mono (by rw [HW9.out]; exact HB9.out.size))).mono HBW3.out.size)
                have HBZ := Lib.hid hB6'
                clear hB6 hB6' k0 k1 k2
                go_wp2_with fail
                go_ret
                exact ⟨rfl, HBZ.out⟩
          · have ha0I : ¬ (0 : Int) < (b : Int) := by omega
            have ha0D : decide (0 < b) = false := decide_eq_false ha0
            by_cases hbx : a < X.size
            · have HQ2 := Lib.hid (HP2.out hbx)
              have hbxI : (a : Int) < (X.size : Int) := by omega
              have hbxD : decide (a < X.size) = true := decide_eq_true hbx
              clear HP1 HP2
              have HENV : Hid (prw.Env W2.drew ∧ dnw.Tabs W2.drew) := ⟨prw.env_below hE.out HBW2.out.drew, dnw.tabs_below hT.out HBW2.out.drew⟩
              obtain ⟨k0, k1, k2⟩ := tb_cells HT2.out
              have hlk := World.block_lt_of_cell? W2 _ k0
              go_wp2_with fail
              go_region_held3 (fun W => W.cell? ⟨w2.heap.size, 0, none⟩ = some (.string nm) ∧ W.cell? ⟨w2.heap.size, 1, none⟩ = some (.int .i64 2) ∧ W.cell? ⟨w2.heap.size, 2, none⟩ = some (.bool false)) (first
                  | exact ⟨k0, k1, k2⟩
                  | exact ⟨(hB6.cell (p := ⟨w2.heap.size, 0, none⟩) hlk).trans k0, (hB6.cell (p := ⟨w2.heap.size, 1, none⟩) hlk).trans k1, (hB6.cell (p := ⟨w2.heap.size, 2, none⟩) hlk).trans k2⟩)
                (first | (go_at_call 14; refine (HQ2.out _ HENV.out.1 HENV.out.2).mono ?_; rintro e w6 ⟨rfl, hB6⟩) | fail)
              have hB6' : Below W2.heap.size W2 w6 := ((Below.refl W2.heap.size W2).drew).trans hB6
              obtain ⟨W3, hW3⟩ : ∃ W, w6 = W := ⟨_, rfl⟩
              have HBW3 : Hid (Below w.heap.size w W3) := by rw [← hW3]; exact HBW2.out.trans (hB6'.mono HBW2.out.size)
              have HT3 : Hid (TB W3 w2.heap.size nm 2 false) := by rw [← hW3]; exact tb_below HT2.out hB6'
              rw [hW3]
              clear hB6 hB6' hW3 k0 k1 k2 hlk HENV
              obtain ⟨W9, hW9⟩ : ∃ W, W3.drew.alloc (.cells #[.string (X.extract b a)] 9) = W := ⟨_, rfl⟩
              obtain ⟨k0, k1, k2⟩ := tb_cells HT3.out
              have hlk := World.block_lt_of_cell? W3 _ k0
              have hB9 : Below W3.heap.size W3 W9 := by rw [← hW9]; exact ((Below.refl W3.heap.size W3).drew).alloc (Nat.le_refl _) _
              have hc9 : W9.cell? ⟨W3.heap.size, 0, none⟩ = some (.string (X.extract b a)) := by rw [← hW9, show (⟨W3.heap.size, 0, none⟩ : Addr) = ⟨W3.drew.heap.size, 0, none⟩ from rfl, World.cell?_alloc_new]; rfl
              have HENV : Hid (prw.Env W9 ∧ dnw.Tabs W9) := ⟨prw.env_below hE.out (HBW3.out.trans (hB9.mono HBW3.out.size)), dnw.tabs_below hT.out (HBW3.out.trans (hB9.mono HBW3.out.size))⟩
              have HPX := Lib.hid (HP3.out _ W9 hc9 HENV.out.1 HENV.out.2)
              rw [← hW9] at HPX
              have HB9 := Lib.hid hB9
              have HW9 := Lib.hid hW9
              clear hc9 hB9 hW9
              go_wp2_with fail
              go_region_held3 (fun W => W.cell? ⟨w2.heap.size, 0, none⟩ = some (.string nm) ∧ W.cell? ⟨w2.heap.size, 1, none⟩ = some (.int .i64 2) ∧ W.cell? ⟨w2.heap.size, 2, none⟩ = some (.bool false)) (first
                  | exact ⟨k0, k1, k2⟩
                  | exact ⟨(hB6.cell (p := ⟨w2.heap.size, 0, none⟩) hlk).trans k0, (hB6.cell (p := ⟨w2.heap.size, 1, none⟩) hlk).trans k1, (hB6.cell (p := ⟨w2.heap.size, 2, none⟩) hlk).trans k2⟩
                  | exact ⟨(((Below.refl _ _).alloc (Nat.le_refl _) _).cell (p := ⟨w2.heap.size, 0, none⟩) hlk).trans k0, (((Below.refl _ _).alloc (Nat.le_refl _) _).cell (p := ⟨w2.heap.size, 1, none⟩) hlk).trans k1, (((Below.refl _ _).alloc (Nat.le_refl _) _).cell (p := ⟨w2.heap.size, 2, none⟩) hlk).trans k2⟩
                  | exact ⟨(hB6.cell (p := ⟨w2.heap.size, 0, none⟩) (Nat.lt_of_lt_of_le hlk ((Below.refl W3.heap.size W3).drew.alloc (Nat.le_refl _) _).size)).trans ((((Below.refl _ _).alloc (Nat.le_refl _) _).cell (p := ⟨w2.heap.size, 0, none⟩) hlk).trans k0), (hB6.cell (p := ⟨w2.heap.size, 1, none⟩) (Nat.lt_of_lt_of_le hlk ((Below.refl W3.heap.size W3).drew.alloc (Nat.le_refl _) _).size)).trans ((((Below.refl _ _).alloc (Nat.le_refl _) _).cell (p := ⟨w2.heap.size, 1, none⟩) hlk).trans k1), (hB6.cell (p := ⟨w2.heap.size, 2, none⟩) (Nat.lt_of_lt_of_le hlk ((Below.refl W3.heap.size W3).drew.alloc (Nat.le_refl _) _).size)).trans ((((Below.refl _ _).alloc (Nat.le_refl _) _).cell (p := ⟨w2.heap.size, 2, none⟩) hlk).trans k2)⟩)
                (first | (go_at_call 14; refine (HPX.out).mono ?_; rintro e w6 ⟨rfl, hB6⟩) | fail)
              all_goals
                have hB6' : Below w.heap.size w w6 := HBW3.out.trans ((HB9.out.trans (by rw [← HW9.out]; exact hB6.mono (by rw [HW9.out]; exact HB9.out.size))).mono HBW3.out.size)
                have HBZ := Lib.hid hB6'
                clear hB6 hB6' k0 k1 k2
                go_wp2_with fail
                go_ret
                exact ⟨rfl, HBZ.out⟩
            · have hbxI : ¬ (a : Int) < (X.size : Int) := by omega
              have hbxD : decide (a < X.size) = false := decide_eq_false hbx
              clear HP1 HP2
              obtain ⟨W9, hW9⟩ : ∃ W, W2.drew.alloc (.cells #[.string (X.extract b a)] 9) = W := ⟨_, rfl⟩
              obtain ⟨k0, k1, k2⟩ := tb_cells HT2.out
              have hlk := World.block_lt_of_cell? W2 _ k0
              have hB9 : Below W2.heap.size W2 W9 := by rw [← hW9]; exact ((Below.refl W2.heap.size W2).drew).alloc (Nat.le_refl _) _
              have hc9 : W9.cell? ⟨W2.heap.size, 0, none⟩ = some (.string (X.extract b a)) := by rw [← hW9, show (⟨W2.heap.size, 0, none⟩ : Addr) = ⟨W2.drew.heap.size, 0, none⟩ from rfl, World.cell?_alloc_new]; rfl
              have HENV : Hid (prw.Env W9 ∧ dnw.Tabs W9) := ⟨prw.env_below hE.out (HBW2.out.trans (hB9.mono HBW2.out.size)), dnw.tabs_below hT.out (HBW2.out.trans (hB9.mono HBW2.out.size))⟩
              have HPX := Lib.hid (HP3.out _ W9 hc9 HENV.out.1 HENV.out.2)
              rw [← hW9] at HPX
              have HB9 := Lib.hid hB9
              have HW9 := Lib.hid hW9
              clear hc9 hB9 hW9
              go_wp2_with fail
              go_region_held3 (fun W => W.cell? ⟨w2.heap.size, 0, none⟩ = some (.string nm) ∧ W.cell? ⟨w2.heap.size, 1, none⟩ = some (.int .i64 2) ∧ W.cell? ⟨w2.heap.size, 2, none⟩ = some (.bool false)) (first
                  | exact ⟨k0, k1, k2⟩
                  | exact ⟨(hB6.cell (p := ⟨w2.heap.size, 0, none⟩) hlk).trans k0, (hB6.cell (p := ⟨w2.heap.size, 1, none⟩) hlk).trans k1, (hB6.cell (p := ⟨w2.heap.size, 2, none⟩) hlk).trans k2⟩
                  | exact ⟨(((Below.refl _ _).alloc (Nat.le_refl _) _).cell (p := ⟨w2.heap.size, 0, none⟩) hlk).trans k0, (((Below.refl _ _).alloc (Nat.le_refl _) _).cell (p := ⟨w2.heap.size, 1, none⟩) hlk).trans k1, (((Below.refl _ _).alloc (Nat.le_refl _) _).cell (p := ⟨w2.heap.size, 2, none⟩) hlk).trans k2⟩
                  | exact ⟨(hB6.cell (p := ⟨w2.heap.size, 0, none⟩) (Nat.lt_of_lt_of_le hlk ((Below.refl W2.heap.size W2).drew.alloc (Nat.le_refl _) _).size)).trans ((((Below.refl _ _).alloc (Nat.le_refl _) _).cell (p := ⟨w2.heap.size, 0, none⟩) hlk).trans k0), (hB6.cell (p := ⟨w2.heap.size, 1, none⟩) (Nat.lt_of_lt_of_le hlk ((Below.refl W2.heap.size W2).drew.alloc (Nat.le_refl _) _).size)).trans ((((Below.refl _ _).alloc (Nat.le_refl _) _).cell (p := ⟨w2.heap.size, 1, none⟩) hlk).trans k1), (hB6.cell (p := ⟨w2.heap.size, 2, none⟩) (Nat.lt_of_lt_of_le hlk ((Below.refl W2.heap.size W2).drew.alloc (Nat.le_refl _) _).size)).trans ((((Below.refl _ _).alloc (Nat.le_refl _) _).cell (p := ⟨w2.heap.size, 2, none⟩) hlk).trans k2)⟩)
                (first | (go_at_call 14; refine (HPX.out).mono ?_; rintro e w6 ⟨rfl, hB6⟩) | fail)
              all_goals
                have hB6' : Below w.heap.size w w6 := HBW2.out.trans ((HB9.out.trans (by rw [← HW9.out]; exact hB6.mono (by rw [HW9.out]; exact HB9.out.size))).mono HBW2.out.size)
                have HBZ := Lib.hid hB6'
                clear hB6 hB6' k0 k1 k2
                go_wp2_with fail
                go_ret
                exact ⟨rfl, HBZ.out⟩
        · have hab : a ≤ b := by omega
          have hsI : ¬ (b : Int) < (a : Int) := by omega
          have hsD : decide (b < a) = false := decide_eq_false hab'
          have hBa := hBA.out
          have hBb := hBB.out
          clear hab'
          obtain ⟨hP1, hP2, hP3⟩ := ends_parts HRO.out HNE.out HLN.out hBa hBb hab
          have hbl : b ≤ X.size := by have := hBb.1; rw [← bs_size] at this; rw [← HX.out]; exact this
          have hal : a ≤ X.size := by omega
          rw [HX.out] at hP1 hP2 hP3
          have HP1 : Hid (0 < a → ∀ w, prw.Env w → dnw.Tabs w → Calls Tryz.prog 14 #[.agg #[.string nm, .int .i64 2, .bool false], .string X, .string (X.extract 0 a), .slice none 0 0, .string ⟨#[]⟩] w fun e w' => e = .returned (.tuple #[.bool true, .int .i64 0]) ∧ Below w.heap.size w w') := by
            intro h w h1 h2
            have := part_any nm 2 false X (X.extract 0 a) ⟨#[]⟩ [] none 0 w (fun i hi => absurd hi (Nat.not_lt_zero _)) (fun _ => rfl) (by decide) (by omega) (by intro x hx; simp at hx; rcases hx with rfl | rfl; (rw [ByteArray.size_extract]; omega); (show 0 ≤ _; omega)) (Lib.hid h1) (Lib.hid h2)
            rw [hP1 h] at this
            exact this
          have HP2 : Hid (b < X.size → ∀ w, prw.Env w → dnw.Tabs w → Calls Tryz.prog 14 #[.agg #[.string nm, .int .i64 2, .bool false], .string X, .string ⟨#[]⟩, .slice none 0 0, .string (X.extract b X.size)] w fun e w' => e = .returned (.tuple #[.bool true, .int .i64 0]) ∧ Below w.heap.size w w') := by
            intro h w h1 h2
            have := part_any nm 2 false X ⟨#[]⟩ (X.extract b X.size) [] none 0 w (fun i hi => absurd hi (Nat.not_lt_zero _)) (fun _ => rfl) (by decide) (by omega) (by intro x hx; simp at hx; rcases hx with rfl | rfl; (show 0 ≤ _; omega); (rw [ByteArray.size_extract]; omega)) (Lib.hid h1) (Lib.hid h2)
            rw [hP2 h] at this
            exact this
          have HP3 : Hid (∀ g w, w.cell? ⟨g, 0, none⟩ = some (.string (X.extract a b)) → prw.Env w → dnw.Tabs w → Calls Tryz.prog 14 #[.agg #[.string nm, .int .i64 2, .bool false], .string X, .string (X.extract 0 a), .slice (some ⟨g, 0, none⟩) 1 1, .string (X.extract b X.size)] w fun e w' => e = .returned (.tuple #[.bool true, .int .i64 0]) ∧ Below w.heap.size w w') := by
            intro g w h0 h1 h2
            have := part_any nm 2 false X (X.extract 0 a) (X.extract b X.size) [X.extract a b] (some ⟨g, 0, none⟩) 1 w (fun i hi => by obtain rfl : i = 0 := by { simp at hi; omega }; exact ⟨g, 0, rfl, h0⟩) (fun e => by cases e) (by simp) (by omega) (by intro x hx; simp at hx; rcases hx with rfl | rfl | rfl <;> (rw [ByteArray.size_extract]; omega)) (Lib.hid h1) (Lib.hid h2)
            rw [hP3] at this
            exact this
          have haI : (a : Int) ≤ (X.size : Int) := by omega
          have hbI : (b : Int) ≤ (X.size : Int) := by omega
          have habI : (a : Int) ≤ (b : Int) := by omega
          have habN : ¬ (b : Int) < (a : Int) := by omega
          have haN : ¬ (X.size : Int) < (a : Int) := by omega
          have hbN : ¬ (X.size : Int) < (b : Int) := by omega
          clear hP1 hP2 hP3 hBa hBb
          by_cases ha0 : 0 < a
          · have HQ1 := Lib.hid (HP1.out ha0)
            have ha0I : (0 : Int) < (a : Int) := by omega
            have ha0D : decide (0 < a) = true := decide_eq_true ha0
            by_cases hbx : b < X.size
            · have HQ2 := Lib.hid (HP2.out hbx)
              have hbxI : (b : Int) < (X.size : Int) := by omega
              have hbxD : decide (b < X.size) = true := decide_eq_true hbx
              clear HP1 HP2
              have HENV : Hid (prw.Env W2.drew ∧ dnw.Tabs W2.drew) := ⟨prw.env_below hE.out HBW2.out.drew, dnw.tabs_below hT.out HBW2.out.drew⟩
              obtain ⟨k0, k1, k2⟩ := tb_cells HT2.out
              have hlk := World.block_lt_of_cell? W2 _ k0
              go_wp2_with fail
              go_region_held3 (fun W => W.cell? ⟨w2.heap.size, 0, none⟩ = some (.string nm) ∧ W.cell? ⟨w2.heap.size, 1, none⟩ = some (.int .i64 2) ∧ W.cell? ⟨w2.heap.size, 2, none⟩ = some (.bool false)) (first
                  | exact ⟨k0, k1, k2⟩
                  | exact ⟨(hB6.cell (p := ⟨w2.heap.size, 0, none⟩) hlk).trans k0, (hB6.cell (p := ⟨w2.heap.size, 1, none⟩) hlk).trans k1, (hB6.cell (p := ⟨w2.heap.size, 2, none⟩) hlk).trans k2⟩)
                (first | (go_at_call 14; refine (HQ1.out _ HENV.out.1 HENV.out.2).mono ?_; rintro e w6 ⟨rfl, hB6⟩) | fail)
              have hB6' : Below W2.heap.size W2 w6 := ((Below.refl W2.heap.size W2).drew).trans hB6
              obtain ⟨W3, hW3⟩ : ∃ W, w6 = W := ⟨_, rfl⟩
              have HBW3 : Hid (Below w.heap.size w W3) := by rw [← hW3]; exact HBW2.out.trans (hB6'.mono HBW2.out.size)
              have HT3 : Hid (TB W3 w2.heap.size nm 2 false) := by rw [← hW3]; exact tb_below HT2.out hB6'
              rw [hW3]
              clear hB6 hB6' hW3 k0 k1 k2 hlk HENV
              have HENV : Hid (prw.Env W3.drew ∧ dnw.Tabs W3.drew) := ⟨prw.env_below hE.out HBW3.out.drew, dnw.tabs_below hT.out HBW3.out.drew⟩
              obtain ⟨k0, k1, k2⟩ := tb_cells HT3.out
              have hlk := World.block_lt_of_cell? W3 _ k0
              go_wp2_with fail
              go_region_held3 (fun W => W.cell? ⟨w2.heap.size, 0, none⟩ = some (.string nm) ∧ W.cell? ⟨w2.heap.size, 1, none⟩ = some (.int .i64 2) ∧ W.cell? ⟨w2.heap.size, 2, none⟩ = some (.bool false)) (first
                  | exact ⟨k0, k1, k2⟩
                  | exact ⟨(hB6.cell (p := ⟨w2.heap.size, 0, none⟩) hlk).trans k0, (hB6.cell (p := ⟨w2.heap.size, 1, none⟩) hlk).trans k1, (hB6.cell (p := ⟨w2.heap.size, 2, none⟩) hlk).trans k2⟩)
                (first | (go_at_call 14; refine (HQ2.out _ HENV.out.1 HENV.out.2).mono ?_; rintro e w6 ⟨rfl, hB6⟩) | fail)
              have hB6' : Below W3.heap.size W3 w6 := ((Below.refl W3.heap.size W3).drew).trans hB6
              obtain ⟨W4, hW4⟩ : ∃ W, w6 = W := ⟨_, rfl⟩
              have HBW4 : Hid (Below w.heap.size w W4) := by rw [← hW4]; exact HBW3.out.trans (hB6'.mono HBW3.out.size)
              have HT4 : Hid (TB W4 w2.heap.size nm 2 false) := by rw [← hW4]; exact tb_below HT3.out hB6'
              rw [hW4]
              clear hB6 hB6' hW4 k0 k1 k2 hlk HENV
              obtain ⟨W9, hW9⟩ : ∃ W, W4.drew.alloc (.cells #[.string (X.extract a b)] 9) = W := ⟨_, rfl⟩
              obtain ⟨k0, k1, k2⟩ := tb_cells HT4.out
              have hlk := World.block_lt_of_cell? W4 _ k0
              have hB9 : Below W4.heap.size W4 W9 := by rw [← hW9]; exact ((Below.refl W4.heap.size W4).drew).alloc (Nat.le_refl _) _
              have hc9 : W9.cell? ⟨W4.heap.size, 0, none⟩ = some (.string (X.extract a b)) := by rw [← hW9, show (⟨W4.heap.size, 0, none⟩ : Addr) = ⟨W4.drew.heap.size, 0, none⟩ from rfl, World.cell?_alloc_new]; rfl
              have HENV : Hid (prw.Env W9 ∧ dnw.Tabs W9) := ⟨prw.env_below hE.out (HBW4.out.trans (hB9.mono HBW4.out.size)), dnw.tabs_below hT.out (HBW4.out.trans (hB9.mono HBW4.out.size))⟩
              have HPX := Lib.hid (HP3.out _ W9 hc9 HENV.out.1 HENV.out.2)
              rw [← hW9] at HPX
              have HB9 := Lib.hid hB9
              have HW9 := Lib.hid hW9
              clear hc9 hB9 hW9
              go_wp2_with fail
              go_region_held3 (fun W => W.cell? ⟨w2.heap.size, 0, none⟩ = some (.string nm) ∧ W.cell? ⟨w2.heap.size, 1, none⟩ = some (.int .i64 2) ∧ W.cell? ⟨w2.heap.size, 2, none⟩ = some (.bool false)) (first
                  | exact ⟨k0, k1, k2⟩
                  | exact ⟨(hB6.cell (p := ⟨w2.heap.size, 0, none⟩) hlk).trans k0, (hB6.cell (p := ⟨w2.heap.size, 1, none⟩) hlk).trans k1, (hB6.cell (p := ⟨w2.heap.size, 2, none⟩) hlk).trans k2⟩
                  | exact ⟨(((Below.refl _ _).alloc (Nat.le_refl _) _).cell (p := ⟨w2.heap.size, 0, none⟩) hlk).trans k0, (((Below.refl _ _).alloc (Nat.le_refl _) _).cell (p := ⟨w2.heap.size, 1, none⟩) hlk).trans k1, (((Below.refl _ _).alloc (Nat.le_refl _) _).cell (p := ⟨w2.heap.size, 2, none⟩) hlk).trans k2⟩
                  | exact ⟨(hB6.cell (p := ⟨w2.heap.size, 0, none⟩) (Nat.lt_of_lt_of_le hlk ((Below.refl W4.heap.size W4).drew.alloc (Nat.le_refl _) _).size)).trans ((((Below.refl _ _).alloc (Nat.le_refl _) _).cell (p := ⟨w2.heap.size, 0, none⟩) hlk).trans k0), (hB6.cell (p := ⟨w2.heap.size, 1, none⟩) (Nat.lt_of_lt_of_le hlk ((Below.refl W4.heap.size W4).drew.alloc (Nat.le_refl _) _).size)).trans ((((Below.refl _ _).alloc (Nat.le_refl _) _).cell (p := ⟨w2.heap.size, 1, none⟩) hlk).trans k1), (hB6.cell (p := ⟨w2.heap.size, 2, none⟩) (Nat.lt_of_lt_of_le hlk ((Below.refl W4.heap.size W4).drew.alloc (Nat.le_refl _) _).size)).trans ((((Below.refl _ _).alloc (Nat.le_refl _) _).cell (p := ⟨w2.heap.size, 2, none⟩) hlk).trans k2)⟩)
                (first | (go_at_call 14; refine (HPX.out).mono ?_; rintro e w6 ⟨rfl, hB6⟩) | fail)
              all_goals
                have hB6' : Below w.heap.size w w6 := HBW4.out.trans ((HB9.out.trans (by rw [← HW9.out]; exact hB6.mono (by rw [HW9.out]; exact HB9.out.size))).mono HBW4.out.size)
                have HBZ := Lib.hid hB6'
                clear hB6 hB6' k0 k1 k2
                go_wp2_with fail
                go_ret
                exact ⟨rfl, HBZ.out⟩
            · have hbxI : ¬ (b : Int) < (X.size : Int) := by omega
              have hbxD : decide (b < X.size) = false := decide_eq_false hbx
              clear HP1 HP2
              have HENV : Hid (prw.Env W2.drew ∧ dnw.Tabs W2.drew) := ⟨prw.env_below hE.out HBW2.out.drew, dnw.tabs_below hT.out HBW2.out.drew⟩
              obtain ⟨k0, k1, k2⟩ := tb_cells HT2.out
              have hlk := World.block_lt_of_cell? W2 _ k0
              go_wp2_with fail
              go_region_held3 (fun W => W.cell? ⟨w2.heap.size, 0, none⟩ = some (.string nm) ∧ W.cell? ⟨w2.heap.size, 1, none⟩ = some (.int .i64 2) ∧ W.cell? ⟨w2.heap.size, 2, none⟩ = some (.bool false)) (first
                  | exact ⟨k0, k1, k2⟩
                  | exact ⟨(hB6.cell (p := ⟨w2.heap.size, 0, none⟩) hlk).trans k0, (hB6.cell (p := ⟨w2.heap.size, 1, none⟩) hlk).trans k1, (hB6.cell (p := ⟨w2.heap.size, 2, none⟩) hlk).trans k2⟩)
                (first | (go_at_call 14; refine (HQ1.out _ HENV.out.1 HENV.out.2).mono ?_; rintro e w6 ⟨rfl, hB6⟩) | fail)
              have hB6' : Below W2.heap.size W2 w6 := ((Below.refl W2.heap.size W2).drew).trans hB6
              obtain ⟨W3, hW3⟩ : ∃ W, w6 = W := ⟨_, rfl⟩
              have HBW3 : Hid (Below w.heap.size w W3) := by rw [← hW3]; exact HBW2.out.trans (hB6'.mono HBW2.out.size)
              have HT3 : Hid (TB W3 w2.heap.size nm 2 false) := by rw [← hW3]; exact tb_below HT2.out hB6'
              rw [hW3]
              clear hB6 hB6' hW3 k0 k1 k2 hlk HENV
              obtain ⟨W9, hW9⟩ : ∃ W, W3.drew.alloc (.cells #[.string (X.extract a b)] 9) = W := ⟨_, rfl⟩
              obtain ⟨k0, k1, k2⟩ := tb_cells HT3.out
              have hlk := World.block_lt_of_cell? W3 _ k0
              have hB9 : Below W3.heap.size W3 W9 := by rw [← hW9]; exact ((Below.refl W3.heap.size W3).drew).alloc (Nat.le_refl _) _
              have hc9 : W9.cell? ⟨W3.heap.size, 0, none⟩ = some (.string (X.extract a b)) := by rw [← hW9, show (⟨W3.heap.size, 0, none⟩ : Addr) = ⟨W3.drew.heap.size, 0, none⟩ from rfl, World.cell?_alloc_new]; rfl
              have HENV : Hid (prw.Env W9 ∧ dnw.Tabs W9) := ⟨prw.env_below hE.out (HBW3.out.trans (hB9.mono HBW3.out.size)), dnw.tabs_below hT.out (HBW3.out.trans (hB9.mono HBW3.out.size))⟩
              have HPX := Lib.hid (HP3.out _ W9 hc9 HENV.out.1 HENV.out.2)
              rw [← hW9] at HPX
              have HB9 := Lib.hid hB9
              have HW9 := Lib.hid hW9
              clear hc9 hB9 hW9
              go_wp2_with fail
              go_region_held3 (fun W => W.cell? ⟨w2.heap.size, 0, none⟩ = some (.string nm) ∧ W.cell? ⟨w2.heap.size, 1, none⟩ = some (.int .i64 2) ∧ W.cell? ⟨w2.heap.size, 2, none⟩ = some (.bool false)) (first
                  | exact ⟨k0, k1, k2⟩
                  | exact ⟨(hB6.cell (p := ⟨w2.heap.size, 0, none⟩) hlk).trans k0, (hB6.cell (p := ⟨w2.heap.size, 1, none⟩) hlk).trans k1, (hB6.cell (p := ⟨w2.heap.size, 2, none⟩) hlk).trans k2⟩
                  | exact ⟨(((Below.refl _ _).alloc (Nat.le_refl _) _).cell (p := ⟨w2.heap.size, 0, none⟩) hlk).trans k0, (((Below.refl _ _).alloc (Nat.le_refl _) _).cell (p := ⟨w2.heap.size, 1, none⟩) hlk).trans k1, (((Below.refl _ _).alloc (Nat.le_refl _) _).cell (p := ⟨w2.heap.size, 2, none⟩) hlk).trans k2⟩
                  | exact ⟨(hB6.cell (p := ⟨w2.heap.size, 0, none⟩) (Nat.lt_of_lt_of_le hlk ((Below.refl W3.heap.size W3).drew.alloc (Nat.le_refl _) _).size)).trans ((((Below.refl _ _).alloc (Nat.le_refl _) _).cell (p := ⟨w2.heap.size, 0, none⟩) hlk).trans k0), (hB6.cell (p := ⟨w2.heap.size, 1, none⟩) (Nat.lt_of_lt_of_le hlk ((Below.refl W3.heap.size W3).drew.alloc (Nat.le_refl _) _).size)).trans ((((Below.refl _ _).alloc (Nat.le_refl _) _).cell (p := ⟨w2.heap.size, 1, none⟩) hlk).trans k1), (hB6.cell (p := ⟨w2.heap.size, 2, none⟩) (Nat.lt_of_lt_of_le hlk ((Below.refl W3.heap.size W3).drew.alloc (Nat.le_refl _) _).size)).trans ((((Below.refl _ _).alloc (Nat.le_refl _) _).cell (p := ⟨w2.heap.size, 2, none⟩) hlk).trans k2)⟩)
                (first | (go_at_call 14; refine (HPX.out).mono ?_; rintro e w6 ⟨rfl, hB6⟩) | fail)
              all_goals
                have hB6' : Below w.heap.size w w6 := HBW3.out.trans ((HB9.out.trans (by rw [← HW9.out]; exact hB6.mono (by rw [HW9.out]; exact HB9.out.size))).mono HBW3.out.size)
                have HBZ := Lib.hid hB6'
                clear hB6 hB6' k0 k1 k2
                go_wp2_with fail
                go_ret
                exact ⟨rfl, HBZ.out⟩
          · have ha0I : ¬ (0 : Int) < (a : Int) := by omega
            have ha0D : decide (0 < a) = false := decide_eq_false ha0
            by_cases hbx : b < X.size
            · have HQ2 := Lib.hid (HP2.out hbx)
              have hbxI : (b : Int) < (X.size : Int) := by omega
              have hbxD : decide (b < X.size) = true := decide_eq_true hbx
              clear HP1 HP2
              have HENV : Hid (prw.Env W2.drew ∧ dnw.Tabs W2.drew) := ⟨prw.env_below hE.out HBW2.out.drew, dnw.tabs_below hT.out HBW2.out.drew⟩
              obtain ⟨k0, k1, k2⟩ := tb_cells HT2.out
              have hlk := World.block_lt_of_cell? W2 _ k0
              go_wp2_with fail
              go_region_held3 (fun W => W.cell? ⟨w2.heap.size, 0, none⟩ = some (.string nm) ∧ W.cell? ⟨w2.heap.size, 1, none⟩ = some (.int .i64 2) ∧ W.cell? ⟨w2.heap.size, 2, none⟩ = some (.bool false)) (first
                  | exact ⟨k0, k1, k2⟩
                  | exact ⟨(hB6.cell (p := ⟨w2.heap.size, 0, none⟩) hlk).trans k0, (hB6.cell (p := ⟨w2.heap.size, 1, none⟩) hlk).trans k1, (hB6.cell (p := ⟨w2.heap.size, 2, none⟩) hlk).trans k2⟩)
                (first | (go_at_call 14; refine (HQ2.out _ HENV.out.1 HENV.out.2).mono ?_; rintro e w6 ⟨rfl, hB6⟩) | fail)
              have hB6' : Below W2.heap.size W2 w6 := ((Below.refl W2.heap.size W2).drew).trans hB6
              obtain ⟨W3, hW3⟩ : ∃ W, w6 = W := ⟨_, rfl⟩
              have HBW3 : Hid (Below w.heap.size w W3) := by rw [← hW3]; exact HBW2.out.trans (hB6'.mono HBW2.out.size)
              have HT3 : Hid (TB W3 w2.heap.size nm 2 false) := by rw [← hW3]; exact tb_below HT2.out hB6'
              rw [hW3]
              clear hB6 hB6' hW3 k0 k1 k2 hlk HENV
              obtain ⟨W9, hW9⟩ : ∃ W, W3.drew.alloc (.cells #[.string (X.extract a b)] 9) = W := ⟨_, rfl⟩
              obtain ⟨k0, k1, k2⟩ := tb_cells HT3.out
              have hlk := World.block_lt_of_cell? W3 _ k0
              have hB9 : Below W3.heap.size W3 W9 := by rw [← hW9]; exact ((Below.refl W3.heap.size W3).drew).alloc (Nat.le_refl _) _
              have hc9 : W9.cell? ⟨W3.heap.size, 0, none⟩ = some (.string (X.extract a b)) := by rw [← hW9, show (⟨W3.heap.size, 0, none⟩ : Addr) = ⟨W3.drew.heap.size, 0, none⟩ from rfl, World.cell?_alloc_new]; rfl
              have HENV : Hid (prw.Env W9 ∧ dnw.Tabs W9) := ⟨prw.env_below hE.out (HBW3.out.trans (hB9.mono HBW3.out.size)), dnw.tabs_below hT.out (HBW3.out.trans (hB9.mono HBW3.out.size))⟩
              have HPX := Lib.hid (HP3.out _ W9 hc9 HENV.out.1 HENV.out.2)
              rw [← hW9] at HPX
              have HB9 := Lib.hid hB9
              have HW9 := Lib.hid hW9
              clear hc9 hB9 hW9
              go_wp2_with fail
              go_region_held3 (fun W => W.cell? ⟨w2.heap.size, 0, none⟩ = some (.string nm) ∧ W.cell? ⟨w2.heap.size, 1, none⟩ = some (.int .i64 2) ∧ W.cell? ⟨w2.heap.size, 2, none⟩ = some (.bool false)) (first
                  | exact ⟨k0, k1, k2⟩
                  | exact ⟨(hB6.cell (p := ⟨w2.heap.size, 0, none⟩) hlk).trans k0, (hB6.cell (p := ⟨w2.heap.size, 1, none⟩) hlk).trans k1, (hB6.cell (p := ⟨w2.heap.size, 2, none⟩) hlk).trans k2⟩
                  | exact ⟨(((Below.refl _ _).alloc (Nat.le_refl _) _).cell (p := ⟨w2.heap.size, 0, none⟩) hlk).trans k0, (((Below.refl _ _).alloc (Nat.le_refl _) _).cell (p := ⟨w2.heap.size, 1, none⟩) hlk).trans k1, (((Below.refl _ _).alloc (Nat.le_refl _) _).cell (p := ⟨w2.heap.size, 2, none⟩) hlk).trans k2⟩
                  | exact ⟨(hB6.cell (p := ⟨w2.heap.size, 0, none⟩) (Nat.lt_of_lt_of_le hlk ((Below.refl W3.heap.size W3).drew.alloc (Nat.le_refl _) _).size)).trans ((((Below.refl _ _).alloc (Nat.le_refl _) _).cell (p := ⟨w2.heap.size, 0, none⟩) hlk).trans k0), (hB6.cell (p := ⟨w2.heap.size, 1, none⟩) (Nat.lt_of_lt_of_le hlk ((Below.refl W3.heap.size W3).drew.alloc (Nat.le_refl _) _).size)).trans ((((Below.refl _ _).alloc (Nat.le_refl _) _).cell (p := ⟨w2.heap.size, 1, none⟩) hlk).trans k1), (hB6.cell (p := ⟨w2.heap.size, 2, none⟩) (Nat.lt_of_lt_of_le hlk ((Below.refl W3.heap.size W3).drew.alloc (Nat.le_refl _) _).size)).trans ((((Below.refl _ _).alloc (Nat.le_refl _) _).cell (p := ⟨w2.heap.size, 2, none⟩) hlk).trans k2)⟩)
                (first | (go_at_call 14; refine (HPX.out).mono ?_; rintro e w6 ⟨rfl, hB6⟩) | fail)
              all_goals
                have hB6' : Below w.heap.size w w6 := HBW3.out.trans ((HB9.out.trans (by rw [← HW9.out]; exact hB6.mono (by rw [HW9.out]; exact HB9.out.size))).mono HBW3.out.size)
                have HBZ := Lib.hid hB6'
                clear hB6 hB6' k0 k1 k2
                go_wp2_with fail
                go_ret
                exact ⟨rfl, HBZ.out⟩
            · have hbxI : ¬ (b : Int) < (X.size : Int) := by omega
              have hbxD : decide (b < X.size) = false := decide_eq_false hbx
              clear HP1 HP2
              obtain ⟨W9, hW9⟩ : ∃ W, W2.drew.alloc (.cells #[.string (X.extract a b)] 9) = W := ⟨_, rfl⟩
              obtain ⟨k0, k1, k2⟩ := tb_cells HT2.out
              have hlk := World.block_lt_of_cell? W2 _ k0
              have hB9 : Below W2.heap.size W2 W9 := by rw [← hW9]; exact ((Below.refl W2.heap.size W2).drew).alloc (Nat.le_refl _) _
              have hc9 : W9.cell? ⟨W2.heap.size, 0, none⟩ = some (.string (X.extract a b)) := by rw [← hW9, show (⟨W2.heap.size, 0, none⟩ : Addr) = ⟨W2.drew.heap.size, 0, none⟩ from rfl, World.cell?_alloc_new]; rfl
              have HENV : Hid (prw.Env W9 ∧ dnw.Tabs W9) := ⟨prw.env_below hE.out (HBW2.out.trans (hB9.mono HBW2.out.size)), dnw.tabs_below hT.out (HBW2.out.trans (hB9.mono HBW2.out.size))⟩
              have HPX := Lib.hid (HP3.out _ W9 hc9 HENV.out.1 HENV.out.2)
              rw [← hW9] at HPX
              have HB9 := Lib.hid hB9
              have HW9 := Lib.hid hW9
              clear hc9 hB9 hW9
              go_wp2_with fail
              go_region_held3 (fun W => W.cell? ⟨w2.heap.size, 0, none⟩ = some (.string nm) ∧ W.cell? ⟨w2.heap.size, 1, none⟩ = some (.int .i64 2) ∧ W.cell? ⟨w2.heap.size, 2, none⟩ = some (.bool false)) (first
                  | exact ⟨k0, k1, k2⟩
                  | exact ⟨(hB6.cell (p := ⟨w2.heap.size, 0, none⟩) hlk).trans k0, (hB6.cell (p := ⟨w2.heap.size, 1, none⟩) hlk).trans k1, (hB6.cell (p := ⟨w2.heap.size, 2, none⟩) hlk).trans k2⟩
                  | exact ⟨(((Below.refl _ _).alloc (Nat.le_refl _) _).cell (p := ⟨w2.heap.size, 0, none⟩) hlk).trans k0, (((Below.refl _ _).alloc (Nat.le_refl _) _).cell (p := ⟨w2.heap.size, 1, none⟩) hlk).trans k1, (((Below.refl _ _).alloc (Nat.le_refl _) _).cell (p := ⟨w2.heap.size, 2, none⟩) hlk).trans k2⟩
                  | exact ⟨(hB6.cell (p := ⟨w2.heap.size, 0, none⟩) (Nat.lt_of_lt_of_le hlk ((Below.refl W2.heap.size W2).drew.alloc (Nat.le_refl _) _).size)).trans ((((Below.refl _ _).alloc (Nat.le_refl _) _).cell (p := ⟨w2.heap.size, 0, none⟩) hlk).trans k0), (hB6.cell (p := ⟨w2.heap.size, 1, none⟩) (Nat.lt_of_lt_of_le hlk ((Below.refl W2.heap.size W2).drew.alloc (Nat.le_refl _) _).size)).trans ((((Below.refl _ _).alloc (Nat.le_refl _) _).cell (p := ⟨w2.heap.size, 1, none⟩) hlk).trans k1), (hB6.cell (p := ⟨w2.heap.size, 2, none⟩) (Nat.lt_of_lt_of_le hlk ((Below.refl W2.heap.size W2).drew.alloc (Nat.le_refl _) _).size)).trans ((((Below.refl _ _).alloc (Nat.le_refl _) _).cell (p := ⟨w2.heap.size, 2, none⟩) hlk).trans k2)⟩)
                (first | (go_at_call 14; refine (HPX.out).mono ?_; rintro e w6 ⟨rfl, hB6⟩) | fail)
              all_goals
                have hB6' : Below w.heap.size w w6 := HBW2.out.trans ((HB9.out.trans (by rw [← HW9.out]; exact hB6.mono (by rw [HW9.out]; exact HB9.out.size))).mono HBW2.out.size)
                have HBZ := Lib.hid hB6'
                clear hB6 hB6' k0 k1 k2
                go_wp2_with fail
                go_ret
                exact ⟨rfl, HBZ.out⟩
end atw
end Go.Proofs.YtckpiaigoeicfaaGreatDoor
/-! AttrEndsUpto -/
namespace Go.Proofs.YtckpiaigoeicfaaGreatDoor.attrEnds
open Go.ChangeShapes Go.WideShapes Go.ChangeAt Go.RowKit
open Go.ChangeMaps (open_string shut_string)
set_option linter.unusedVariables false

theorem own : ownKnob Tryz.prog.godebug = none := by kernel_rfl
theorem laidOut : laidOutB Tryz.prog = true := by kernel_rfl
theorem u8x : U8Extra Tryz.prog Tryz.lays260_ren where
  n3 := by kernel_rfl
  n4 := by kernel_rfl
  y3 := by kernel_rfl
  y4 := by kernel_rfl
  c5 := by kernel_rfl
  c119 := by kernel_rfl
  c138 := by kernel_rfl
theorem accEq : (Rows.laid_unicode_utf8_acceptRanges : DataW Unit) = Lib.acceptData := by kernel_rfl
theorem tyEq : (Rows.laid_rollbook_attr_types : DataW Unit) = atw.tyData := by kernel_rfl
/-- WHAT THE ROW's LIST GIVES, and the shape: the library's tables. -/
theorem tabs {W : World} (h : laidMetH Tryz.prog Rows.attrEndsRow.laid W) : Hid (dnw.Tabs W) :=
  utf8Tabs_of_reads Tryz.lays260 u8x (by have := Lib.laidMet.reads h (n := "unicode/utf8.first") (d := Rows.laid_unicode_utf8_first) (by simp [Rows.attrEndsRow]); rw [show Rows.laid_unicode_utf8_first = Lib.firstData from Pinned.utf8First_eq] at this; exact this) (by have := Lib.laidMet.reads h (n := "unicode/utf8.acceptRanges") (d := Rows.laid_unicode_utf8_acceptRanges) (by simp [Rows.attrEndsRow]); rw [accEq] at this; exact this)
theorem env {W : World} (hsh : W.ShapedOpen Tryz.prog) : Hid (prw.Env W) := Tryz.laysM146.s1_3 W hsh
theorem typ {W : World} (h : laidMetH Tryz.prog Rows.attrEndsRow.laid W) : Hid (atw.TyEnv W) :=
  atw.tyEnv_of_reads (by have := Lib.laidMet.reads h (n := "rollbook/attr.types") (d := Rows.laid_rollbook_attr_types) (by simp [Rows.attrEndsRow]); rw [tyEq] at this; exact this)

set_option maxRecDepth 100000 in
/-- WHAT THE WALK GIVES, FOR EVERY ARGUMENT. -/
theorem contract (H : Type) (enc : TypeId × Value → H) (W : World) (base : Nat) (args : Array Value) (ds gs : List (DataW H)) (before : List MemPlace)
    (hval : ∀ (j : Nat) t v, Tryz.f5.params[j]? = some t → args[j]? = some v → Value.okWide Tryz.prog W .any base t v)
    (hW : DataW.Whole enc Tryz.prog Tryz.f5.params.toList Rows.attrEndsSpec.vars false W args.toList ds gs before)
    (hk : Rows.uptoSmall H (ds ++ gs) = true)
    (hsz0 : (DataW.weightsEach Tryz.prog (Tryz.f5.params.toList ++ Rows.attrEndsSpec.plain.varTypes Tryz.prog) (ds ++ gs)).all (· ≤ reachBytes) = true)
    (hL : laidMetH Tryz.prog Rows.attrEndsUptoRow.laid W) (hsh : W.ShapedOpen Tryz.prog) :
    Calls Tryz.prog 5 args W fun e W' => ∃ v, e = .returned v ∧ Rows.attrEndsSpec.post enc Tryz.prog Tryz.f5 false true false false W args v W' := by
  have hW' := hW
  obtain ⟨p, q, hA0, hV, rfl, hfz, hnd⟩ := hW
  have hA : DataW.TrodAll enc Tryz.prog W 0 (fun _ => true) true Tryz.f5.params.toList args.toList ds p := hA0
  have hsz := hsz0
  rw [Tryz.params5] at hA hval hsz
  obtain ⟨v0, vs0, d0, ds0, p0, q0, hargs, rfl, rfl, h0, r0⟩ := trodAll_cons hA
  obtain ⟨v1, vs1, d1, ds1, p1, q1, rfl, rfl, rfl, h1, r1⟩ := trodAll_cons r0
  obtain ⟨v2, vs2, d2, ds2, p2, q2, rfl, rfl, rfl, h2, r2⟩ := trodAll_cons r1
  obtain ⟨rfl, rfl, rfl⟩ := trodAll_nil r2
  obtain rfl : args = #[v0, v1, v2] := by cases args; simp_all
  obtain ⟨rfl, rfl⟩ := trodVars_none hV
  have k0 := h0
  have lt0 : ∀ x ∈ p0, x.block < W.heap.size := by obtain ⟨m, hm⟩ := k0; exact DataW.trod_lt m _ _ _ hm
  have k1 := h1
  have lt1 : ∀ x ∈ p1, x.block < W.heap.size := by obtain ⟨m, hm⟩ := k1; exact DataW.trod_lt m _ _ _ hm
  have k2 := h2
  have lt2 : ∀ x ∈ p2, x.block < W.heap.size := by obtain ⟨m, hm⟩ := k2; exact DataW.trod_lt m _ _ _ hm
  obtain ⟨a0, rfl, rfl, rfl, ws0⟩ := open_string Tryz.underlying9 (hval 0 9 v0 rfl rfl) h0
  have ha0 : a0.size ≤ 140737488351232 := by
    have := sized_string hsz (j := 0) (t := 9) rfl rfl
    simpa [reachBytes] using this
  obtain ⟨a1, rfl, rfl, rfl, wf1⟩ := open_int Tryz.underlying3 (hval 1 3 v1 rfl rfl) h1
  have wa1 := bounds_i64 wf1
  obtain ⟨a2, rfl, rfl, rfl, wf2⟩ := open_int Tryz.underlying3 (hval 2 3 v2 rfl rfl) h2
  have wa2 := bounds_i64 wf2
  clear hA0
  simp only [List.append_nil] at hW'
  have walk : Calls Tryz.prog 5 #[.string a0, .int .i64 a1, .int .i64 a2] W fun e w' => e = .returned (.bool true) ∧ Below W.heap.size W w' := by
    have hb : a0.size ≤ 1100000 := by
      have := hk
      simp [Rows.uptoSmall, Rows.uptoBulkAll, Rows.uptoBulk] at this
      have e := kt.size_len a0
      simp at e
      omega
    exact atw.ends_law a0 a1 a2 W hb wa1.1 wa1.2 wa2.1 wa2.2 (env hsh) (tabs hL) (typ hL)
  refine walk.mono fun e W' ⟨he, hb⟩ => ?_
  subst he
  exact ⟨_, rfl, _, _, _, [], _, [], hW', trodAll_cons_mk (shut_bool Tryz.underlying4 _) trodAll_mk0, (trodAll_cons_mk (Below.trod laidOut (by kernel_rfl) (of_decide_eq_true (by kernel_rfl)) k0 hb lt0) (trodAll_cons_mk (Below.trod laidOut (by kernel_rfl) (of_decide_eq_true (by kernel_rfl)) k1 hb lt1) (trodAll_cons_mk (Below.trod laidOut (by kernel_rfl) (of_decide_eq_true (by kernel_rfl)) k2 hb lt2) trodAll_mk0))), rfl, hb.frame _, fun h => by cases h⟩

theorem laid_met (os : Os) : laidMet Tryz.prog Rows.attrEndsUptoRow.laid ((World.laidAll Tryz.prog os Rows.attrEndsUptoRow.laid).forCall (fun _ _ => 0) ⟨#[], #[.string ByteArray.empty, .int .i64 0, .int .i64 0], []⟩).memory :=
  laidMet_laidAll _ (by kernel_rfl) (by kernel_rfl)
theorem reads (os : Os) {H : Type} (enc : TypeId × Value → H) : ∃ places, DataW.whole enc Tryz.prog ((World.laidAll Tryz.prog os Rows.attrEndsUptoRow.laid).forCall (fun _ _ => 0) ⟨#[], #[.string ByteArray.empty, .int .i64 0, .int .i64 0], []⟩).memory Tryz.f5.params.toList Rows.attrEndsSpec.vars false (#[.string ByteArray.empty, .int .i64 0, .int .i64 0] : Array Value).toList 8 = some ([.lit (.string []), .lit (.int .i64 0), .lit (.int .i64 0)], [], places) :=
  ⟨[], by kernel_rfl⟩

set_option maxRecDepth 100000 in
theorem lifted (os : Os) (started : os.Started) (H : Type) (enc : TypeId × Value → H) (F : Stop.Interp) :
    ReturnsInHanded {} Tryz.checked os 5 .any ((Rows.OpenSpec.upto Rows.attrEndsSpec).preRow enc Tryz.prog Tryz.f5 Rows.attrEndsUptoRow.domain false Rows.attrEndsUptoRow.laid) (((Rows.OpenSpec.upto Rows.attrEndsSpec).at F).post enc Tryz.prog Tryz.f5 false true false false) := by
  obtain ⟨places, hx⟩ := reads os enc
  refine returnsInHanded_of_row (C := Tryz.checked) (s := (Rows.OpenSpec.upto Rows.attrEndsSpec)) own started (by kernel_rfl) Tryz.func5
    (witness_row_at (enc := enc) (C := Tryz.checked) false (World.laidAll Tryz.prog os Rows.attrEndsUptoRow.laid) #[.string ByteArray.empty, .int .i64 0, .int .i64 0] (World.laidAll_os _ _ _) (by kernel_rfl) (by kernel_rfl) (by kernel_rfl)
      (OpenSpec.preRow_of_cond 8 hx (by kernel_rfl) (fun k hk => by cases hk; kernel_rfl) (by kernel_rfl) (laid_met os))) ?_
  intro W base args ds gs before hval hW _ hcond hsz hL hsh _
  exact contract H enc W base args ds gs before hval hW (hcond _ rfl) hsz hL hsh

theorem said : Rows.AttrEndsUptoSaid :=
  OpenClaim.holds_of_cond 5 Tryz.f5 rfl rfl rfl rfl rfl rfl rfl ⟨rfl, rfl, rfl, rfl, rfl⟩ rfl rfl rfl rfl rfl (by kernel_rfl) Tryz.func5 (by kernel_rfl)
    (of_decide_eq_true (by kernel_rfl)) (by unfold Func.isWrapper; first | (rw [if_pos (by decide +kernel)]; kernel_rfl) | (rw [if_neg (by decide +kernel)]; exact ⟨rfl, rfl⟩))
    (fun os started H enc _ F => by rw [OpenClaim.pre_eq_preRow]; exact lifted os started H enc F)

theorem plain (f : FuncId) (fn : Func) (hf : Tryz.pinned.checked.prog.funcNamed "rollbook/rollbooklaw16.AttrEnds" = some f) (hfn : Tryz.pinned.checked.prog.funcs[f]? = some fn) :
    true = Tryz.pinned.checked.prog.looks [] ∧ ∀ (j : Nat) t, fn.params[j]? = some t → Tryz.pinned.checked.prog.wantsStandIn t = false := by
  obtain rfl : f = 5 := Option.some.inj ((show Tryz.prog.funcNamed "rollbook/rollbooklaw16.AttrEnds" = some 5 by kernel_rfl).symm.trans hf) |>.symm
  obtain rfl : fn = Tryz.f5 := (Option.some.inj (Tryz.func5.symm.trans hfn)).symm
  refine ⟨by kernel_rfl, fun j t ht => ?_⟩
  rw [Tryz.params5] at ht
  have hm : t ∈ [9, 3, 3] := by simpa using Array.mem_of_getElem? ht
  have hall : ([9, 3, 3].all fun u => !Tryz.prog.wantsStandIn u) = true := by kernel_rfl
  exact (show Tryz.prog.wantsStandIn t = false by simpa using List.all_eq_true.1 hall t hm)

theorem proved : Rows.AttrEndsUptoCardSaid :=
  Claim7.holds_tied_plain_at .later [] _ _ _ _ said (fun _ h => by cases h) (by kernel_rfl) (fun _ h => by cases h) attrEndsUpto_row_tie rfl ⟨rfl, rfl⟩ (by kernel_rfl) rfl plain (by kernel_rfl)
#print axioms proved
end Go.Proofs.YtckpiaigoeicfaaGreatDoor.attrEnds
