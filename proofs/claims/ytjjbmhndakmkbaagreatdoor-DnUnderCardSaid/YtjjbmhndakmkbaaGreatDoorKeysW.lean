/- The walks of dn.Keys, Under and Same. -/
import Derived.Test.YtjjbmhndakmkbaaGreatDoorKeyW
namespace Go.Proofs.YtjjbmhndakmkbaaGreatDoor
open Go.RowKit
namespace dnw
open dnp
set_option linter.unusedVariables false
set_option linter.unusedSimpArgs false
/-- what Keys leaves -/
def KeysE (n : List (List Av)) (w : World) (e : Ending) (w' : World) : Prop :=
  Below w.heap.size w w' ∧ if nameOK n = true then ∃ ao cap, e = .returned (.tuple #[.slice ao n.length cap, .int .i64 0]) ∧ n.length ≤ cap ∧ tupw.Strs w' ao (keysB n) else e = .returned (.tuple #[.slice none 0 0, .int .i64 4])
theorem ownT_strs {w : World} {B : Nat} {ao : Option Addr} {m cap : Nat} {l : List ByteArray} (h : prw.OwnT w B (.slice ao m cap) l) : tupw.Strs w ao l ∧ m = l.length ∧ m ≤ cap := by
  obtain ⟨ao', cap', hv, hc, hcs⟩ := prw.ownT_cells h
  simp only [Value.slice.injEq] at hv
  obtain ⟨rfl, rfl, rfl⟩ := hv
  refine ⟨fun i hi => ?_, rfl, hc⟩
  obtain ⟨g, hg, _, hcell⟩ := hcs (by intro e; rw [e] at hi; simp at hi)
  exact ⟨g, 0, hg, hcell i _ (List.getElem?_eq_getElem hi)⟩
theorem revTake_step (n : List (List Av)) (i : Nat) (hi : i < n.length) : (n.reverse.take (i + 1)).map (fun l => bytes (keyL l)) = (n.reverse.take i).map (fun l => bytes (keyL l)) ++ [bytes (keyL (n[n.length - 1 - i]'(by omega)))] := by
  rw [List.take_succ_eq_append_getElem (by simpa using hi), List.map_append]
  simp only [List.getElem_reverse]
  rfl
set_option maxRecDepth 20000 in
set_option maxHeartbeats 4000000 in
theorem keys_any (ao : Option Addr) (cap : Nat) (n : List (List Av)) (w : World) (hA : Hid (Rdns w ao n)) (hE : Hid (prw.Env w)) (hT : Hid (Tabs w)) (hS : Hid (∀ l ∈ n, l.length ≤ 4 → Smalls l)) :
    Calls Tryz.prog 9 #[.slice ao n.length cap] w fun e w' => KeysE n w e w' := by
  have CR := right_any ao cap n w hA hE hS
  obtain ⟨m, hm⟩ : ∃ m, m = n.length := ⟨_, rfl⟩
  have HM := Lib.hid hm
  rw [← hm] at CR ⊢
  clear hm
  cases hok : nameOK n with
  | false =>
    rw [hok] at CR
    have HC := Lib.hid CR
    have HOK := Lib.hid hok
    clear CR hok
    go_enter Tryz.func9, Tryz.ntmps9
    go_wp2_with fail
    refine HC.out.mono ?_
    rintro e w1 ⟨rfl, hB1⟩
    go_wp2_with fail
    go_ret2
    refine ⟨hB1, ?_⟩
    rw [if_neg (by rw [HOK.out]; simp)]
    rfl
  | true =>
    rw [hok] at CR
    have HC := Lib.hid CR
    have HOK := Lib.hid hok
    have hf := nameOK_facts hok
    have hm12 : m ≤ 12 := by rw [HM.out]; exact hf.1
    have HL := Lib.hid hf.2
    clear CR hok hf
    go_enter Tryz.func9, Tryz.ntmps9
    go_wp2_with fail
    refine HC.out.mono ?_
    rintro e w1 ⟨rfl, hB1⟩
    have HB1 := Lib.hid hB1
    have hsz1 := hB1.size
    clear hB1 HC
    go_wp2_with fail
    go_loopw [4, 5, 11] (fun rv _ iv wr => ∃ (i : Nat), i ≤ m ∧ iv = .int .i64 (i : Int) ∧ Hid (prw.OwnT wr w1.heap.size rv ((n.reverse.take i).map fun l => bytes (keyL l))) ∧ Below w1.heap.size w1 wr) (fun _ _ iv _ => m - (intOf iv).toNat)
    case atStart => exact ⟨0, Nat.zero_le _, rfl, World.ownsRow_nil _ _ _ _, Below.refl _ _⟩
    case round =>
      obtain ⟨i, hi, rfl, hO, hB⟩ := hrel
      have hsz := hB.size
      obtain ⟨aoR, mR, capR, rfl, hmR⟩ := ownT_form hO.out
      by_cases hlt : i < m
      · have hlt' : (i : Int) < (m : Int) := by omega
        have hil : i < n.length := by rw [← HM.out]; exact hlt
        have HBT := Lib.hid (HB1.out.trans (hB.mono hsz1))
        obtain ⟨j, hj⟩ : ∃ j, j = m - 1 - i := ⟨_, rfl⟩
        have hjl : j < n.length := by rw [← HM.out]; omega
        have hjm : (j : Int) < (m : Int) := by omega
        have hj0 : (0 : Int) ≤ (j : Int) := by omega
        have ej : (m : Int) - 1 - (i : Int) = (j : Int) := by omega
        have w1e : IntKind.i64.wrap ((m : Int) - 1) = (m : Int) - 1 := IntWalk.i64_in _ (by omega)
        have w2e : IntKind.i64.wrap ((m : Int) - 1 - (i : Int)) = (j : Int) := by rw [ej]; exact IntWalk.i64_in _ (by omega)
        have HST := revTake_step n i hil
        have hje : n.length - 1 - i = j := by rw [← HM.out]; exact hj.symm
        have HST2 : (n.reverse.take (i + 1)).map (fun l => bytes (keyL l)) = (n.reverse.take i).map (fun l => bytes (keyL l)) ++ [bytes (keyL n[j])] := by
          rw [HST]
          congr 4
          simp only [hje]
        obtain ⟨b, o, ao', cap', hao, hc0, hcc, hAv⟩ := (rdns_below hA.out HBT.out) j hjl
        subst hao
        have hro := HL.out n[j] (List.getElem_mem hjl)
        have CK := key_any ao' cap' n[j] wr (Lib.hid hAv) (Lib.hid (prw.env_below hE.out HBT.out)) (Lib.hid (tabs_below hT.out HBT.out)) hro
        have hst := Lib.hid HST2
        generalize n[j] = l at hc0 CK hst
        obtain ⟨p, hp⟩ : ∃ p, p = l.length := ⟨_, rfl⟩
        rw [← hp] at hc0 CK
        have HCK := Lib.hid CK
        clear CK HST HST2 hje hro hAv hcc hp hj
        go_wp2_with fail
        refine HCK.out.mono ?_
        rintro e w2 ⟨rfl, hB2⟩
        obtain ⟨ao7, m7, cap7, w8, hap, hO8, _, hB8⟩ := ownT_appG (bytes (keyL l)) (ownT_below hO.out hB2) (by rw [List.length_map, List.length_take, List.length_reverse]; omega) (Nat.le_trans hsz hB2.size)
        have HO8 : Hid (prw.OwnT w8 w1.heap.size (.slice ao7 m7 cap7) ((n.reverse.take (i + 1)).map fun l => bytes (keyL l))) := by
          show prw.OwnT _ _ _ _
          rw [hst.out]
          exact hO8
        have HB8 := Lib.hid ((hB.trans (hB2.mono hsz)).trans hB8)
        clear hO8 hB8 hB2 HCK hst
        generalize bytes (keyL l) = KB at hap ⊢
        go_wp2_with (at_builtin; refine Lib.wpList_append_run _ rfl _ _ _ _ rfl _ _ rfl rfl _ _ hap ?_)
        go_roundw
        case rel => exact ⟨i + 1, by omega, by go_num, HO8, HB8.out⟩
        case measure => simp [intOf] <;> omega
      · obtain rfl : i = m := by omega
        have hO1 := hO.out
        rw [HM.out, List.take_of_length_le (by rw [List.length_reverse]; exact Nat.le_refl _)] at hO1
        obtain ⟨hst, hml, hmc⟩ := ownT_strs hO1
        rw [List.length_map, List.length_reverse] at hml
        have HST := Lib.hid hst
        have HML := Lib.hid hml
        clear hO1 hst hml
        go_wp2_with fail
        go_ret2
        refine ⟨HB1.out.trans (hB.mono hsz1), ?_⟩
        rw [if_pos HOK.out]
        have h1 := HML.out
        subst h1
        exact ⟨aoR, capR, rfl, hmc, HST.out⟩
end dnw
end Go.Proofs.YtjjbmhndakmkbaaGreatDoor
