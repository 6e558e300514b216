/- The walk of the statements' Long: no more than is gone through. -/
import Derived.Test.YtjjbmhndakmkbaaGreatDoorRRdnW
namespace Go.Proofs.YtjjbmhndakmkbaaGreatDoor
open Go.RowKit
namespace dnw
open dnp
set_option linter.unusedVariables false
set_option linter.unusedSimpArgs false
def SmallAv (x : Av) : Prop := x.t.size ≤ 600 ∧ x.v.size ≤ 600
def SmallN (n : List (List Av)) : Prop := n.length ≤ 30 ∧ ∀ l ∈ n, l.length ≤ 30 ∧ ∀ x ∈ l, SmallAv x
theorem smallN_smalls {n : List (List Av)} (h : SmallN n) : ∀ l ∈ n, Smalls l := fun l hl x hx => by
  have := (h.2 l hl).2 x hx
  unfold SmallAv at this
  omega
def LongE (n : List (List Av)) (e : Ending) : Prop := ∃ b : Bool, e = .returned (.bool b) ∧ (b = false → SmallN n)
theorem longE_true {n : List (List Av)} : LongE n (.returned (.bool true)) := ⟨true, rfl, fun h => by cases h⟩
set_option maxRecDepth 20000 in
set_option maxHeartbeats 4000000 in
theorem long_any (ao : Option Addr) (cap : Nat) (n : List (List Av)) (w : World) (hA : Hid (Rdns w ao n)) :
    Calls Tryz.prog 6 #[.slice ao n.length cap] w fun e w' => LongE n e ∧ w = w' := by
  obtain ⟨m, hm⟩ : ∃ m, m = n.length := ⟨_, rfl⟩
  have HM := Lib.hid hm
  rw [← hm]
  clear hm
  go_enter Tryz.func6, Tryz.ntmps6
  go_wp2_with fail
  go_loopw [3, 4] (fun iv _ wr => ∃ i : Nat, i ≤ m ∧ i ≤ 30 ∧ iv = .int .i64 (i : Int) ∧ Hid (∀ j (h : j < n.length), j < i → n[j].length ≤ 30 ∧ ∀ x ∈ n[j], SmallAv x) ∧ w = wr) (fun iv _ _ => 30 - (intOf iv).toNat)
  case atStart => exact ⟨0, Nat.zero_le _, by omega, rfl, fun j _ h => by omega, rfl⟩
  case round =>
    obtain ⟨i, hi, hi30, rfl, hP, rfl⟩ := hrel
    have FIN : Hid (i = m → m ≤ 30 → SmallN n) := by
      intro h h2
      refine ⟨by rw [← HM.out]; exact h2, fun l hl => ?_⟩
      obtain ⟨j, hj, rfl⟩ := List.mem_iff_getElem.1 hl
      exact hP.out j hj (by rw [h, HM.out]; exact hj)
    by_cases hlt : i < m
    · have hlt' : (i : Int) < (m : Int) := by omega
      by_cases h30 : i < 30
      · have h30' : (i : Int) < 30 := by omega
        have hil : i < n.length := by rw [← HM.out]; exact hlt
        obtain ⟨b, o, ao', cap', hao, hc0, hcc, hAv⟩ := hA.out i hil
        subst hao
        have HNX : Hid (n[i].length ≤ 30 ∧ (∀ x ∈ n[i], SmallAv x) → ∀ j (h : j < n.length), j < i + 1 → n[j].length ≤ 30 ∧ ∀ x ∈ n[j], SmallAv x) := by
          intro h j hj hji
          by_cases e : j = i
          · subst e; exact h
          · exact hP.out j hj (by omega)
        generalize n[i] = l at hc0 hcc hAv HNX
        obtain ⟨p, hp⟩ : ∃ p, p = l.length := ⟨_, rfl⟩
        have HP := Lib.hid hp
        rw [← hp] at hc0 hcc
        have HAv := Lib.hid hAv
        clear hp hAv hcc FIN
        go_wp2_with fail
        go_loopw [4] (fun kv wr => ∃ k : Nat, k ≤ p ∧ k ≤ 30 ∧ kv = .int .i64 (k : Int) ∧ Hid (∀ j (h : j < l.length), j < k → SmallAv l[j]) ∧ w = wr) (fun kv _ => 30 - (intOf kv).toNat)
        case atStart => exact ⟨0, Nat.zero_le _, by omega, rfl, fun j _ h => by omega, rfl⟩
        case round =>
          obtain ⟨k, hk, hk30, rfl, hQ, rfl⟩ := hrel
          by_cases hkp : k < p
          · have hkp' : (k : Int) < (p : Int) := by omega
            by_cases hk3 : k < 30
            · have hk3' : (k : Int) < 30 := by omega
              have hkl : k < l.length := by rw [← HP.out]; exact hkp
              obtain ⟨b2, o2, hao2, c0, c1⟩ := HAv.out k hkl
              subst hao2
              have HQX : Hid (SmallAv l[k] → ∀ j (h : j < l.length), j < k + 1 → SmallAv l[j]) := by
                intro h j hj hjk
                by_cases e : j = k
                · subst e; exact h
                · exact hQ.out j hj (by omega)
              generalize l[k] = x at c0 c1 HQX
              by_cases t6 : 600 < x.t.size
              · have t6' : 600 < (x.t.size : Int) := by omega
                go_wp2_with fail
                go_ret
                exact ⟨longE_true, rfl⟩
              · have t6' : ¬ 600 < (x.t.size : Int) := by omega
                by_cases v6 : 600 < x.v.size
                · have v6' : 600 < (x.v.size : Int) := by omega
                  go_wp2_with fail
                  go_ret
                  exact ⟨longE_true, rfl⟩
                · have v6' : ¬ 600 < (x.v.size : Int) := by omega
                  have HN := Lib.hid (HQX.out ⟨by omega, by omega⟩)
                  clear HQX
                  go_wp2_with fail
                  go_roundw
                  case rel => exact ⟨k + 1, by omega, by omega, by go_num, HN, trivial⟩
                  case measure => simp [intOf]; omega
            · have hk3' : ¬ (k : Int) < 30 := by omega
              by_cases hp30 : 30 < p
              · have hp30' : 30 < (p : Int) := by omega
                go_wp2_with fail
                go_ret
                exact ⟨longE_true, rfl⟩
              · exfalso; omega
          · obtain rfl : k = p := by omega
            by_cases hp30 : 30 < k
            · exfalso; omega
            · have hp30' : ¬ 30 < (k : Int) := by omega
              have HN := Lib.hid (HNX.out ⟨by rw [← HP.out]; omega, fun x hx => by
                obtain ⟨j, hj, rfl⟩ := List.mem_iff_getElem.1 hx
                exact hQ.out j hj (by rw [HP.out]; exact hj)⟩)
              clear HNX
              go_wp2_with fail
              go_roundw
              case rel => exact ⟨i + 1, by omega, by omega, by go_num, HN, trivial⟩
              case measure => simp [intOf]; omega
      · have h30' : ¬ (i : Int) < 30 := by omega
        have hm30 : 30 < (m : Int) := by omega
        go_wp2_with fail
        go_ret
        exact ⟨longE_true, rfl⟩
    · obtain rfl : i = m := by omega
      have hm30 : ¬ 30 < (i : Int) := by omega
      have HF := Lib.hid (FIN.out rfl (by omega))
      clear FIN
      go_wp2_with fail
      go_ret
      exact ⟨⟨_, rfl, fun _ => HF.out⟩, rfl⟩
end dnw
end Go.Proofs.YtjjbmhndakmkbaaGreatDoor
