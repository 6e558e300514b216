/- The walk of dn.Print: a name's text. -/
import Derived.Test.YtjjbmhndakmkbaaGreatDoorDValW
namespace Go.Proofs.YtjjbmhndakmkbaaGreatDoor
open Go.RowKit
namespace dnw
open dnp
set_option linter.unusedVariables false
set_option linter.unusedSimpArgs false
theorem joinT {w : World} {B : Nat} {v : Value} {l : List ByteArray} (h : prw.OwnT w B v l) (sep : ByteArray) (hl : l.length ≤ 100000000) (hlen : (Lib.join (l.map (·.data.toList)) sep.data.toList).length ≤ 140737488355328) :
    Calls Tryz.prog 30 #[v, .string sep] w fun e w' => e = .returned (.string ⟨(Lib.join (l.map (·.data.toList)) sep.data.toList).toArray⟩) ∧ Below w.heap.size w w' := by
  obtain ⟨ao, cap, rfl, hcap, hcs⟩ := prw.ownT_cells h
  by_cases hne : l = []
  · subst hne
    refine (Tryz.strings_Join_none ao cap sep w).mono ?_
    rintro e w' ⟨rfl, h2⟩
    refine ⟨rfl, ?_⟩
    first
      | (rw [h2]; exact Below.refl _ _)
      | (rw [← h2]; exact Below.refl _ _)
  · obtain ⟨g, rfl, hg, hcc⟩ := hcs hne
    exact Tryz.strings_Join g 0 cap l sep w hcc hg (by omega) hcap hlen
def bytes (l : List UInt8) : ByteArray := ⟨l.toArray⟩
theorem bytes_data (l : List UInt8) : (bytes l).data.toList = l := rfl
/-- what Print leaves -/
def PrintE (n : List (List Av)) (e : Ending) : Prop := e = .returned (.tuple #[.string (bytes (printR n).1), .int .i64 (printR n).2])
theorem printE_no {n : List (List Av)} (h : nameOK n = false) : PrintE n (.returned (.tuple #[.string ⟨#[]⟩, .int .i64 4])) := by
  unfold PrintE printR
  rw [h]; rfl
theorem printE_long {n : List (List Av)} (h : nameOK n = true) (h2 : 1000 < (nameX n).length) : PrintE n (.returned (.tuple #[.string ⟨#[]⟩, .int .i64 5])) := by
  unfold PrintE printR
  rw [if_pos h, if_pos h2]; rfl
theorem printE_ok {n : List (List Av)} (h : nameOK n = true) (h2 : ¬ 1000 < (nameX n).length) : PrintE n (.returned (.tuple #[.string (bytes (nameX n)), .int .i64 0])) := by
  unfold PrintE printR
  rw [if_pos h, if_neg h2]; rfl
theorem ownT_below {w w' : World} {B : Nat} {v : Value} {l : List ByteArray} (h : prw.OwnT w B v l) (hb : Below w.heap.size w w') : prw.OwnT w' B v l := kt.row_below h hb
theorem ownT_appG {w : World} {B : Nat} {v : Value} {l : List ByteArray} (x : ByteArray) (hown : prw.OwnT w B v l) (hl : l.length ≤ 100000000) (hbase : B ≤ w.heap.size) :
    ∃ ao m cap w1, (Builtin.append_ #[28, 28] 28 #[v, .slice (some ⟨w.heap.size, 0, none⟩) 1 1]).run Tryz.prog (w.alloc (.cells #[.string x] 9)) = .ok (.slice ao m cap) w1 ∧ prw.OwnT w1 B (.slice ao m cap) (l ++ [x]) ∧ w.grownBy w1 v.ownBlock ∧ Below B w w1 := by
  obtain ⟨v', w1, h1, h2, h4, h3⟩ := kt.app1 (P := Tryz.prog) (t := 28) (ty := 28) Tryz.underlying28 prw.infoStr rfl (.string x) rfl hown (by rw [prw.scells_length]; unfold maxLen; omega) (by rw [prw.scells_length]; omega) hbase
  have h2' : prw.OwnT w1 B v' (l ++ [x]) := by
    unfold prw.OwnT
    have e : prw.scells (l ++ [x]) = prw.scells l ++ [.string x] := by simp [prw.scells]
    rw [e]
    exact h2
  obtain ⟨ao, cap, rfl, _, _⟩ := prw.ownT_cells h2'
  exact ⟨ao, _, cap, w1, h1, h2', h4, h3⟩
theorem cat_ptx (x : Av) : (x.t ++ (⟨#[61]⟩ : ByteArray)) ++ (⟨(textL x.v.data.toList).toArray⟩ : ByteArray) = bytes (ptx x) := by
  apply kt.str_eq
  rw [ByteArray.data_append, ByteArray.data_append, bytes_data]
  simp [ptx]
theorem ownT_form {w : World} {B : Nat} {v : Value} {l : List ByteArray} (h : prw.OwnT w B v l) : ∃ (ao : Option Addr) (m cap : Nat), v = .slice ao m cap ∧ Hid (m = l.length) := by
  obtain ⟨ao, cap, rfl, _, _⟩ := prw.ownT_cells h
  exact ⟨ao, _, cap, rfl, rfl⟩
theorem takeMap_step {α : Type} (f : α → ByteArray) (l : List α) (i : Nat) (hi : i < l.length) : (l.take (i + 1)).map f = (l.take i).map f ++ [f l[i]] := by
  rw [List.take_succ_eq_append_getElem hi, List.map_append]; rfl
theorem join_map (f : Av → List UInt8) (l : List Av) : (l.map fun a => bytes (f a)).map (·.data.toList) = l.map f := by
  rw [List.map_map]; rfl
set_option maxRecDepth 20000 in
set_option maxHeartbeats 4000000 in
theorem print_any (ao : Option Addr) (cap : Nat) (n : List (List Av)) (w : World) (hA : Hid (Rdns w ao n)) (hE : Hid (prw.Env w)) (hS : Hid (∀ l ∈ n, l.length ≤ 4 → Smalls l)) :
    Calls Tryz.prog 17 #[.slice ao n.length cap] w fun e w' => PrintE n e ∧ Below w.heap.size w w' := by
  have CR := right_any ao cap n w hA hE hS
  obtain ⟨m, hm⟩ : ∃ m, m = n.length := ⟨_, rfl⟩
  have HM := Lib.hid hm
  rw [← hm] at CR ⊢
  clear hm
  cases hok : nameOK n with
  | false =>
    rw [hok] at CR
    have HC := Lib.hid CR
    have HN := Lib.hid (printE_no hok)
    clear CR hok
    go_enter Tryz.func17, Tryz.ntmps17
    go_wp2_with fail
    refine HC.out.mono ?_
    rintro e w1 ⟨rfl, hB1⟩
    go_wp2_with fail
    go_ret2
    exact ⟨HN.out, hB1⟩
  | true =>
    rw [hok] at CR
    have HC := Lib.hid CR
    have HOK := Lib.hid hok
    have hf := nameOK_facts hok
    have hm12 : m ≤ 12 := by rw [HM.out]; exact hf.1
    have HL := Lib.hid hf.2
    clear CR hok hf
    go_enter Tryz.func17, Tryz.ntmps17
    go_wp2_with fail
    refine HC.out.mono ?_
    rintro e w1 ⟨rfl, hB1⟩
    have HB1 := Lib.hid hB1
    have hsz1 := hB1.size
    clear hB1 HC
    go_wp2_with fail
    go_loopw [4, 6, 7, 9, 16] (fun rv _ _ _ iv wr => ∃ (i : Nat), i ≤ m ∧ iv = .int .i64 (i : Int) ∧ Hid (prw.OwnT wr w1.heap.size rv ((n.take i).map fun l => bytes (rdnX l))) ∧ Below w1.heap.size w1 wr) (fun _ _ _ _ iv _ => m - (intOf iv).toNat)
    case atStart => exact ⟨0, Nat.zero_le _, rfl, World.ownsRow_nil _ _ _ _, Below.refl _ _⟩
    case round =>
      obtain ⟨i, hi, rfl, hO, hB⟩ := hrel
      have hsz := hB.size
      obtain ⟨aoR, mR, capR, rfl, hmR⟩ := ownT_form hO.out
      by_cases hlt : i < m
      · have hlt' : (i : Int) < (m : Int) := by omega
        have hil : i < n.length := by rw [← HM.out]; exact hlt
        have HBT := Lib.hid (HB1.out.trans (hB.mono hsz1))
        obtain ⟨b, o, ao', cap', hao, hc0, hcc, hAv⟩ := (rdns_below hA.out HBT.out) i hil
        subst hao
        have HST := takeMap_step (fun l => bytes (rdnX l)) n i hil
        have hro := HL.out n[i] (List.getElem_mem hil)
        generalize n[i] = l at hc0 hcc hAv HST hro
        have h4 := (rdnOK_facts hro).2.1
        have HX := Lib.hid (rdnOK_av hro)
        have hxl := rdnX_len hro
        have HST := Lib.hid HST
        have HAv := Lib.hid hAv
        obtain ⟨p, hp⟩ : ∃ p, p = l.length := ⟨_, rfl⟩
        have HP := Lib.hid hp
        rw [← hp] at hc0 hcc h4
        clear hp hAv hro
        obtain ⟨wo, rfl⟩ : ∃ x, x = wr := ⟨_, rfl⟩
        go_wp2_with fail
        go_loopw [7, 9, 22] (fun pv _ kv wq => ∃ k : Nat, k ≤ p ∧ kv = .int .i64 (k : Int) ∧ Hid (prw.OwnT wq wo.heap.size pv ((l.take k).map fun a => bytes (ptx a))) ∧ Below wo.heap.size wo wq) (fun _ _ kv _ => p - (intOf kv).toNat)
        case atStart => exact ⟨0, Nat.zero_le _, rfl, World.ownsRow_nil _ _ _ _, Below.refl _ _⟩
        case round =>
          obtain ⟨k, hk, rfl, hO2, hBk⟩ := hrel
          have hszk := hBk.size
          obtain ⟨aoP, mP, capP, rfl, hmP⟩ := ownT_form hO2.out
          by_cases hkp : k < p
          · have hkp' : (k : Int) < (p : Int) := by omega
            have hkl : k < l.length := by rw [← HP.out]; exact hkp
            obtain ⟨b2, o2, hao2, d0, d1⟩ := (avas_below HAv.out hBk) k hkl
            subst hao2
            have HSK := takeMap_step (fun a => bytes (ptx a)) l k hkl
            have hxx := HX.out l[k] (List.getElem_mem hkl)
            generalize l[k] = x at d0 d1 HSK hxx
            have HV := Lib.hid (fun W => dval_any x.v W (by have := valOK_le hxx.2; rw [kt.size_len] at this; omega))
            have hq0 : (wr.alloc (.cells #[.string x.t, .string x.v] 40)).cell? ⟨wr.heap.size, 0, none⟩ = some (.string x.t) := by rw [World.cell?_alloc_new]; rfl
            have hq1 : (wr.alloc (.cells #[.string x.t, .string x.v] 40)).cell? ⟨wr.heap.size, 1, none⟩ = some (.string x.v) := by rw [World.cell?_alloc_new]; rfl
            have HO5 : Hid (prw.OwnT (wr.alloc (.cells #[.string x.t, .string x.v] 40)) wo.heap.size (.slice aoP mP capP) ((l.take k).map fun a => bytes (ptx a))) := ownT_below hO2.out ((Below.refl _ _).alloc (Nat.le_refl _) _)
            have HB5 : Hid (Below wo.heap.size wo (wr.alloc (.cells #[.string x.t, .string x.v] 40))) := hBk.alloc hszk _
            have hlt5 : wr.heap.size < (wr.alloc (.cells #[.string x.t, .string x.v] 40)).heap.size := by simp
            have HNE : Hid (∀ k', (Value.slice aoP mP capP).ownBlock = some k' → k' < wr.heap.size) := fun k' h => (hO2.out.lt k' h).2
            have hkl' : ((l.take k).map fun a => bytes (ptx a)).length ≤ 4 := by rw [List.length_map, List.length_take]; omega
            obtain ⟨Y, hY⟩ : ∃ Y, Y = (⟨(textL x.v.data.toList).toArray⟩ : ByteArray) := ⟨_, rfl⟩
            obtain ⟨T1, hT1⟩ : ∃ T1, T1 = x.t ++ (⟨#[61]⟩ : ByteArray) := ⟨_, rfl⟩
            obtain ⟨T2, hT2⟩ : ∃ T2, T2 = T1 ++ Y := ⟨_, rfl⟩
            have hcat := cat_ptx x
            rw [← hY, ← hT1, ← hT2] at hcat
            have hts := typeOK_le hxx.1
            rw [kt.size_len] at hts
            have hys : Y.size ≤ 765 := by
              have h1 := textF_len true x.v.data.toList
              have h2 := valOK_le hxx.2
              rw [hY, ← kt.size_len]
              show (textF true _).length ≤ _
              omega
            have h1s : T1.size = x.t.size + 1 := by rw [hT1, ByteArray.size_append]; rfl
            have hadd1 : ∀ W, (Op.stringOp .add x.t ⟨#[61]⟩).run Tryz.prog W = .ok (.string T1) W := fun W => by rw [hT1]; exact run_string_add_sum W _ _ (by show x.t.size + 1 ≤ 9223372036854775807; omega)
            have hadd2 : ∀ W, (Op.stringOp .add T1 Y).run Tryz.prog W = .ok (.string T2) W := fun W => by rw [hT2]; exact run_string_add_sum W _ _ (by omega)
            have HCAT := Lib.hid hcat
            rw [← hY] at HV
            have HSK := Lib.hid HSK
            clear hcat hT1 hT2 hY h1s hys hts
            clear hO2 hxx
            go_wp2_with fail
            generalize wr.alloc (.cells #[.string x.t, .string x.v] 40) = w5 at hq0 hq1 HO5 HB5 hlt5 ⊢
            go_region_held3 (fun W => W.cell? ⟨wr.heap.size, 0, none⟩ = some (.string x.t) ∧ W.cell? ⟨wr.heap.size, 1, none⟩ = some (.string x.v)) (first
                | exact ⟨hq0, hq1⟩
                | exact ⟨(hB6.cell (p := ⟨wr.heap.size, 0, none⟩) hlt5).trans hq0, (hB6.cell (p := ⟨wr.heap.size, 1, none⟩) hlt5).trans hq1⟩
                | exact ⟨(((Below.refl _ _).alloc (Nat.le_refl _) _).cell (p := ⟨wr.heap.size, 0, none⟩) (Nat.lt_of_lt_of_le hlt5 hB6.size)).trans ((hB6.cell (p := ⟨wr.heap.size, 0, none⟩) hlt5).trans hq0), (((Below.refl _ _).alloc (Nat.le_refl _) _).cell (p := ⟨wr.heap.size, 1, none⟩) (Nat.lt_of_lt_of_le hlt5 hB6.size)).trans ((hB6.cell (p := ⟨wr.heap.size, 1, none⟩) hlt5).trans hq1)⟩
                | exact ⟨(World.cell?_of_block (hg7.block wr.heap.size (Nat.lt_of_lt_of_le hlt5 hB6.size) hne7)).trans ((hB6.cell (p := ⟨wr.heap.size, 0, none⟩) hlt5).trans hq0), (World.cell?_of_block (hg7.block wr.heap.size (Nat.lt_of_lt_of_le hlt5 hB6.size) hne7)).trans ((hB6.cell (p := ⟨wr.heap.size, 1, none⟩) hlt5).trans hq1)⟩)
              (first
                | (go_at_call 29; refine (HV.out _).mono ?_; rintro e w6 ⟨rfl, hB6⟩; obtain ⟨ao7, m7, cap7, w7, hap, hO7, hg7, hB7⟩ := ownT_appG T2 (ownT_below HO5.out ((Below.refl w5.heap.size w5).drew.trans hB6)) (by omega) (Nat.le_trans HB5.out.size hB6.size); have hne7 : some wr.heap.size ≠ (Value.slice aoP mP capP).ownBlock := fun h => absurd (HNE.out _ h.symm) (Nat.lt_irrefl _); have hO7 := Lib.hid hO7)
                | (refine kt.step_append_run rfl _ _ _ _ rfl _ _ rfl rfl _ _ hap ?_))
            all_goals
              go_wp2_with fail
              go_roundw
              case rel =>
                refine ⟨k + 1, by omega, by go_num, ?_, HB5.out.trans ((((Below.refl w5.heap.size w5).drew.trans hB6).mono HB5.out.size).trans hB7)⟩
                show prw.OwnT _ _ _ _
                rw [HSK.out, ← HCAT.out]
                exact hO7.out
              case measure => simp [intOf]; omega
          · obtain rfl : k = p := by omega
            have hO3 := hO2.out
            rw [HP.out, List.take_length] at hO3
            have e1 : ((l.map fun a => bytes (ptx a)).map (·.data.toList)) = l.map ptx := by rw [List.map_map]; rfl
            have CJ := joinT hO3 ⟨#[43]⟩ (by rw [List.length_map, ← HP.out]; omega) (by rw [e1]; show (rdnX l).length ≤ _; omega)
            rw [e1] at CJ
            have CJ' : Calls Tryz.prog 30 #[.slice aoP mP capP, .string ⟨#[43]⟩] wr fun e w' => e = .returned (.string (bytes (rdnX l))) ∧ Below wr.heap.size wr w' := CJ
            have HJ := Lib.hid CJ'
            obtain ⟨T, hT⟩ : ∃ T, T = bytes (rdnX l) := ⟨_, rfl⟩
            rw [← hT] at HJ
            have HT := Lib.hid hT
            clear CJ CJ' e1 hO3 hT
            go_wp2_with fail
            refine HJ.out.mono ?_
            rintro e w2 ⟨rfl, hB2⟩
            have HB2 : Hid (Below wo.heap.size wo w2) := hBk.trans (hB2.mono hszk)
            have hsz2 := Nat.le_trans hsz HB2.out.size
            obtain ⟨ao7, m7, cap7, w7, hap, hO7, hg7, hB7⟩ := ownT_appG T (ownT_below hO.out HB2.out) (by rw [List.length_map, List.length_take]; omega) hsz2
            have HO7 := Lib.hid hO7
            have HB7 := Lib.hid ((hB.trans (HB2.out.mono hsz)).trans hB7)
            have HST := Lib.hid HST
            clear hO7 hg7 hB7 hB2
            go_wp2_with (at_builtin; refine Lib.wpList_append_run _ rfl _ _ _ _ rfl _ _ rfl rfl _ _ hap ?_)
            go_roundw
            case rel =>
              refine ⟨i + 1, by omega, by go_num, ?_, HB7.out⟩
              show prw.OwnT _ _ _ _
              rw [HST.out.out, ← HT.out]
              exact HO7.out
            case measure => simp [intOf]; omega
      · obtain rfl : i = m := by omega
        have hO1 := hO.out
        rw [HM.out, List.take_length] at hO1
        have e1 : ((n.map fun l => bytes (rdnX l)).map (·.data.toList)) = n.map rdnX := by rw [List.map_map]; rfl
        have hnx := nameX_len HOK.out
        have CJ := joinT hO1 ⟨#[44]⟩ (by rw [List.length_map, ← HM.out]; omega) (by rw [e1]; show (nameX n).length ≤ _; omega)
        rw [e1] at CJ
        have CJ' : Calls Tryz.prog 30 #[.slice aoR mR capR, .string ⟨#[44]⟩] wr fun e w' => e = .returned (.string (bytes (nameX n))) ∧ Below wr.heap.size wr w' := CJ
        have HJ := Lib.hid CJ'
        obtain ⟨t, ht⟩ : ∃ t, t = bytes (nameX n) := ⟨_, rfl⟩
        have hts : t.size = (nameX n).length := by rw [ht, ← kt.size_len]; rfl
        rw [← ht] at HJ
        have HT := Lib.hid ht
        clear CJ CJ' e1 hO1 ht
        by_cases hlong : 1000 < t.size
        · have hlong' : 1000 < (t.size : Int) := by omega
          have HN := Lib.hid (printE_long HOK.out (by omega))
          clear hts hnx
          go_wp2_with fail
          refine HJ.out.mono ?_
          rintro e w2 ⟨rfl, hB2⟩
          go_wp2_with fail
          go_ret2
          exact ⟨HN.out, HB1.out.trans ((hB.trans (hB2.mono hsz)).mono hsz1)⟩
        · have hlong' : ¬ 1000 < (t.size : Int) := by omega
          have HN := Lib.hid (printE_ok HOK.out (by omega))
          rw [← HT.out] at HN
          clear hts hnx
          go_wp2_with fail
          refine HJ.out.mono ?_
          rintro e w2 ⟨rfl, hB2⟩
          go_wp2_with fail
          go_ret2
          exact ⟨HN.out, HB1.out.trans ((hB.trans (hB2.mono hsz)).mono hsz1)⟩
end dnw
end Go.Proofs.YtjjbmhndakmkbaaGreatDoor
