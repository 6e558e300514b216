/- The walks of Right. -/
import Derived.Test.YtjjbmhndakmkbaaGreatDoorRdnW
namespace Go.Proofs.YtjjbmhndakmkbaaGreatDoor
open Go.RowKit
namespace dnw
open dnp
set_option linter.unusedVariables false
set_option linter.unusedSimpArgs false
/-- may it be a name? -/
def nameOK (n : List (List Av)) : Bool := decide (n.length ≤ 12) && n.all rdnOK
theorem nameOK_len {n : List (List Av)} (h : 12 < n.length) : false = nameOK n := by
  unfold nameOK; rw [decide_eq_false (by omega : ¬ n.length ≤ 12)]; rfl
theorem nameOK_no {n : List (List Av)} {i : Nat} (hi : i < n.length) (h : rdnOK n[i] = false) : false = nameOK n := by
  symm
  unfold nameOK
  rw [Bool.and_eq_false_iff]
  right
  rw [Bool.eq_false_iff]
  intro e
  have := List.all_eq_true.1 e n[i] (List.getElem_mem hi)
  rw [h] at this
  cases this
theorem nameOK_all {n : List (List Av)} (h : ∀ i (hi : i < n.length), rdnOK n[i] = true) : decide (n.length ≤ 12) = nameOK n := by
  unfold nameOK
  have : n.all rdnOK = true := by
    rw [List.all_eq_true]
    intro l hl
    obtain ⟨i, hi, rfl⟩ := List.mem_iff_getElem.1 hl
    exact h i hi
  rw [this, Bool.and_true]
set_option maxRecDepth 20000 in
set_option maxHeartbeats 2000000 in
theorem right_any (ao : Option Addr) (cap : Nat) (n : List (List Av)) (w : World) (hA : Hid (Rdns w ao n)) (hE : Hid (prw.Env w)) (hS : Hid (∀ l ∈ n, l.length ≤ 4 → Smalls l)) :
    Calls Tryz.prog 20 #[.slice ao n.length cap] w fun e w' => e = .returned (.bool (nameOK n)) ∧ Below w.heap.size w w' := by
  by_cases h12 : 12 < n.length
  · have h12' : 12 < (n.length : Int) := by omega
    have HN := Lib.hid (nameOK_len h12)
    go_enter Tryz.func20, Tryz.ntmps20
    go_wp2_with fail
    go_ret
    exact ⟨kt.ret_bool HN.out, Below.refl _ _⟩
  · have h12' : ¬ 12 < (n.length : Int) := by omega
    have hn12 : n.length ≤ 12 := by omega
    go_enter Tryz.func20, Tryz.ntmps20
    go_wp2_with fail
    go_loopw [4, 10] (fun _ iv wr => ∃ i : Nat, i ≤ n.length ∧ iv = .int .i64 (i : Int) ∧ Hid (∀ j (hj : j < n.length), j < i → rdnOK n[j] = true) ∧ Below w.heap.size w wr) (fun _ iv _ => n.length - (intOf iv).toNat)
    case atStart => exact ⟨0, Nat.zero_le _, rfl, fun j _ h => by omega, Below.refl _ _⟩
    case round =>
      obtain ⟨i, hi, rfl, hP, hB⟩ := hrel
      have hsz := hB.size
      by_cases hlt : i < n.length
      · have hlt' : (i : Int) < (n.length : Int) := by omega
        obtain ⟨b, o, ao', cap', hao, hc0, hcc, hAv⟩ := (rdns_below hA.out hB) i hlt
        subst hao
        have hSm := hS.out n[i] (List.getElem_mem hlt)
        have hpn := fun h => nameOK_no (n := n) hlt h
        have hpy : rdnOK n[i] = true → ∀ j (hj : j < n.length), j < i + 1 → rdnOK n[j] = true := by
          intro h j hj hji
          by_cases e : j = i
          · subst e; exact h
          · exact hP.out j hj (by omega)
        have CR := rightRdn_any ao' cap' n[i] wr (Lib.hid hAv) (Lib.hid (prw.env_below hE.out hB)) (Lib.hid hSm) hcc
        generalize n[i] = l at hc0 hpn hpy CR
        generalize hm : l.length = m at hc0 CR
        cases hr : rdnOK l with
        | false =>
          rw [hr] at CR
          have HN := Lib.hid (hpn hr)
          have HC := Lib.hid CR
          clear CR hpn hpy hr hm hAv hSm hcc
          go_wp2_with fail
          refine HC.out.mono ?_
          rintro e w2 ⟨rfl, hB2⟩
          go_wp2_with fail
          go_ret
          exact ⟨kt.ret_bool HN.out, hB.trans (hB2.mono hsz)⟩
        | true =>
          rw [hr] at CR
          have HY := Lib.hid (hpy hr)
          have HC := Lib.hid CR
          clear CR hpn hpy hr hm hAv hSm hcc
          go_wp2_with fail
          refine HC.out.mono ?_
          rintro e w2 ⟨rfl, hB2⟩
          go_wp2_with fail
          go_roundw
          case rel => exact ⟨i + 1, by omega, by go_num, HY, hB.trans (hB2.mono hsz)⟩
          case measure => simp [intOf]; omega
      · obtain rfl : i = n.length := by omega
        have HN := Lib.hid ((decide_eq_true hn12).symm.trans (nameOK_all (n := n) (fun j hj => hP.out j hj hj)))
        go_wp2_with fail
        go_ret
        exact ⟨kt.ret_bool HN.out, hB⟩
end dnw
end Go.Proofs.YtjjbmhndakmkbaaGreatDoor
