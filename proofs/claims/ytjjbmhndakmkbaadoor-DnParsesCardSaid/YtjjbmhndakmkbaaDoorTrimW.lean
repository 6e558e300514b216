/- The walk of the reference's Trim. -/
import Derived.Test.YtjjbmhndakmkbaaDoorCutW
namespace Go.Proofs.YtjjbmhndakmkbaaDoor
open Go.RowKit
namespace dnw
open dnp
set_option linter.unusedVariables false
set_option linter.unusedSimpArgs false
theorem trimR_endblank {M : List Sg} {x : Sg} (h : blankS x = true) : trimR (M ++ [x]) = trimR M := by
  unfold trimR
  rw [List.reverse_append]
  show (List.dropWhile blankS (x :: M.reverse)).reverse = _
  rw [List.dropWhile_cons, if_pos h]
theorem trimR_endkeep {M : List Sg} {x : Sg} (h : blankS x = false) : trimR (M ++ [x]) = M ++ [x] := by
  unfold trimR
  rw [List.reverse_append]
  show (List.dropWhile blankS (x :: M.reverse)).reverse = _
  rw [List.dropWhile_cons, if_neg (by rw [h]; simp)]
  simp
/-- what Trim leaves -/
def TrimE (L : List Sg) (w : World) (e : Ending) (w' : World) : Prop := w = w' ∧ ∃ ao cap, e = .returned (.slice ao (trim L).length cap) ∧ (trim L).length ≤ cap ∧ Sgs w ao (trim L)
theorem trimE_of {L : List Sg} {w : World} {ao : Option Addr} {cap : Nat} {M : List Sg} (h : trim L = M) (hc : M.length ≤ cap) (hs : Sgs w ao M) : TrimE L w (.returned (.slice ao M.length cap)) w := by
  subst h
  exact ⟨rfl, ao, cap, rfl, hc, hs⟩
theorem trim_drop {M : List Sg} {L : List Sg} {x : Sg} (h : L.dropWhile blankS = (x :: M).dropWhile blankS) (hx : blankS x = true) : L.dropWhile blankS = M.dropWhile blankS := by
  rw [h, List.dropWhile_cons, if_pos hx]
theorem trim_head {M : List Sg} {L : List Sg} (h : L.dropWhile blankS = M.dropWhile blankS) (hx : ∀ x t, M = x :: t → blankS x = false) : trim L = trimR M := by
  unfold trim
  rw [h, dropW_id _ M hx]
set_option maxRecDepth 20000 in
set_option maxHeartbeats 4000000 in
theorem trim_any (ao : Option Addr) (cap : Nat) (L : List Sg) (w : World) (hA : Hid (Sgs w ao L)) (hc : L.length ≤ cap) (hl : L.length ≤ 1000000) :
    Calls Tryd.prog 24 #[.slice ao L.length cap] w fun e w' => TrimE L w e w' := by
  go_enter Tryd.func24, Tryd.ntmps24
  go_wp2_with fail
  go_loopw [0] (fun lv wr => ∃ (ao : Option Addr) (m cap : Nat) (M : List Sg), lv = .slice ao m cap ∧ Hid (m = M.length) ∧ m ≤ cap ∧ m ≤ 1000000 ∧ Hid (Sgs w ao M) ∧ Hid (L.dropWhile blankS = M.dropWhile blankS) ∧ w = wr) (fun lv _ => slen lv)
  case atStart => exact ⟨ao, _, cap, L, rfl, rfl, hc, hl, hA, rfl, rfl⟩
  case round =>
    clear hA hc hl
    obtain ⟨ao, m, cap, M, rfl, hm, hc, hl, hA, hD, rfl⟩ := hrel
    by_cases hb : ∃ x t, M = x :: t ∧ blankS x = true
    · obtain ⟨x, t, rfl, hx⟩ := hb
      obtain ⟨k, rfl⟩ : ∃ k, m = k + 1 := ⟨t.length, by rw [hm.out]; rfl⟩
      have HX := Lib.hid (trim_drop hD.out hx)
      obtain ⟨b, o, hao, c0, c1⟩ := hA.out 0 (by simp)
      have hS := sgs_cut (lo := 1) hA.out (by rw [← hm.out]; exact hc)
      obtain ⟨c, bare⟩ := x
      unfold blankS at hx
      simp only [Bool.and_eq_true, decide_eq_true_eq] at hx
      obtain ⟨rfl, rfl⟩ := hx
      simp only [Nat.zero_mul, Nat.add_zero, List.getElem_cons_zero] at c0 c1
      subst hao
      have HS : Hid (Sgs w (if cap = 1 then some ⟨b, o, none⟩ else some ⟨b, o + 2, none⟩) t) := by
        have h : cutA (some ⟨b, o, none⟩) cap 1 = if cap = 1 then some ⟨b, o, none⟩ else some ⟨b, o + 2, none⟩ := cutA_some b o cap 1
        rw [h] at hS
        exact hS
      have HM : Hid (k = t.length) := by have := hm.out; simp only [List.length_cons] at this; show k = _; omega
      clear hS hm hD hA
      go_wp2_with fail
      go_roundw
      case rel => exact ⟨_, _, _, t, rfl, HM, by omega, by omega, HS, HX, trivial⟩
      case measure => simp [slen] <;> omega
    · have HD := Lib.hid (trim_head hD.out (fun x t h => by
        cases hx : blankS x with
        | false => rfl
        | true => exact absurd ⟨x, t, h, hx⟩ hb))
      have hM : M = [] ∧ m = 0 ∨ ∃ c t, M = (c, false) :: t ∨ (M = (c, true) :: t ∧ ¬ (c.toNat : Int) = 32) := by
        cases M with
        | nil => exact Or.inl ⟨rfl, by rw [hm.out]; rfl⟩
        | cons x t =>
          obtain ⟨c, bare⟩ := x
          refine Or.inr ⟨c, t, ?_⟩
          cases bare with
          | false => exact Or.inl rfl
          | true =>
            refine Or.inr ⟨rfl, fun h => hb ⟨_, t, rfl, ?_⟩⟩
            show (true && decide (c = 32)) = true
            rw [u8_eq (n := 32) (by omega) h]; rfl
      have hfacts : m = 0 ∨ (0 < m ∧ ∃ b o, ao = some ⟨b, o, none⟩ ∧ ((w.cell? ⟨b, o + 1, none⟩ = some (.bool false)) ∨ ∃ c : UInt8, w.cell? ⟨b, o + 1, none⟩ = some (.bool true) ∧ w.cell? ⟨b, o, none⟩ = some (.int .u8 (c.toNat : Int)) ∧ ((c.toNat : Int) == 32) = false)) := by
        rcases hM with ⟨_, h⟩ | ⟨c, t, h | ⟨h, hc⟩⟩
        · exact Or.inl h
        · subst h
          obtain ⟨b, o, hao, c0, c1⟩ := hA.out 0 (by simp)
          simp only [Nat.zero_mul, Nat.add_zero, List.getElem_cons_zero] at c0 c1
          exact Or.inr ⟨by rw [hm.out]; simp, b, o, hao, Or.inl c1⟩
        · subst h
          obtain ⟨b, o, hao, c0, c1⟩ := hA.out 0 (by simp)
          simp only [Nat.zero_mul, Nat.add_zero, List.getElem_cons_zero] at c0 c1
          exact Or.inr ⟨by rw [hm.out]; simp, b, o, hao, Or.inr ⟨c, c1, c0, by rw [beq_eq_false_iff_ne]; exact hc⟩⟩
      have HD := Lib.hid HD
      clear hb hM hD
      rcases hfacts with rfl | ⟨hpos, b, o, rfl, c1 | ⟨c, c1, c0, q⟩⟩
      case' inr.inl => have hpos' : (0 : Int) < (m : Int) := by omega
      case' inr.inr => have hpos' : (0 : Int) < (m : Int) := by omega
      all_goals
        go_wp2_with fail
        go_loopw [0] (fun lv wr => ∃ (ao2 : Option Addr) (m2 cap2 : Nat) (M2 : List Sg), lv = .slice ao2 m2 cap2 ∧ Hid (m2 = M2.length) ∧ m2 ≤ cap2 ∧ m2 ≤ 1000000 ∧ Hid (Sgs w ao2 M2) ∧ Hid (trim L = trimR M2) ∧ w = wr) (fun lv _ => slen lv)
        case atStart => exact ⟨_, _, _, M, rfl, hm, hc, hl, hA, HD, rfl⟩
        case round =>
          clear hm hA HD hc hl
          obtain ⟨ao, m, cap, M, rfl, hm, hc, hl, hA, hD, rfl⟩ := hrel
          by_cases hb : ∃ A x, M = A ++ [x] ∧ blankS x = true
          · obtain ⟨A, x, rfl, hx⟩ := hb
            obtain ⟨k, rfl⟩ : ∃ k, m = k + 1 := ⟨A.length, by rw [hm.out]; simp⟩
            have hk : k = A.length := by have := hm.out; simp only [List.length_append, List.length_cons, List.length_nil] at this; omega
            have HX : Hid (trim L = trimR A) := hD.out.trans (trimR_endblank hx)
            obtain ⟨b, o, hao, c0, c1⟩ := hA.out k (by rw [hk]; simp)
            have hxe : (A ++ [x])[k]'(by rw [hk]; simp) = x := by subst hk; simp
            rw [hxe] at c0 c1
            have hS := sgs_take hA.out k
            rw [hk, List.take_left] at hS
            obtain ⟨c, bare⟩ := x
            unfold blankS at hx
            simp only [Bool.and_eq_true, decide_eq_true_eq] at hx
            obtain ⟨rfl, rfl⟩ := hx
            subst hao
            have HS := Lib.hid hS
            have HM := Lib.hid hk
            clear hS hm hD hA hk hxe
            go_wp2_with fail
            go_roundw
            case rel => exact ⟨_, _, _, A, rfl, HM, by omega, by omega, HS, HX, trivial⟩
            case measure => simp [slen] <;> omega
          · have hM : M = [] ∧ m = 0 ∨ ∃ A x, M = A ++ [x] := by
              cases hMM : M.reverse with
              | nil => have : M = [] := by simpa using hMM
                       subst this; exact Or.inl ⟨rfl, by rw [hm.out]; rfl⟩
              | cons x t => exact Or.inr ⟨t.reverse, x, by rw [← List.reverse_reverse M, hMM]; simp⟩
            have HT : Hid (trim L = M) := by
              show trim L = M
              rw [hD.out]
              rcases hM with ⟨rfl, _⟩ | ⟨A, x, rfl⟩
              · rfl
              · refine trimR_endkeep ?_
                cases hx : blankS x with
                | false => rfl
                | true => exact absurd ⟨A, x, rfl, hx⟩ hb
            have hfacts : m = 0 ∨ ∃ k, m = k + 1 ∧ ∃ b o, ao = some ⟨b, o, none⟩ ∧ ((w.cell? ⟨b, o + k * 2 + 1, none⟩ = some (.bool false)) ∨ ∃ c : UInt8, w.cell? ⟨b, o + k * 2 + 1, none⟩ = some (.bool true) ∧ w.cell? ⟨b, o + k * 2, none⟩ = some (.int .u8 (c.toNat : Int)) ∧ ((c.toNat : Int) == 32) = false) := by
              rcases hM with ⟨_, h⟩ | ⟨A, x, rfl⟩
              · exact Or.inl h
              · refine Or.inr ⟨A.length, by rw [hm.out]; simp, ?_⟩
                obtain ⟨b, o, hao, c0, c1⟩ := hA.out A.length (by simp)
                have hxe : (A ++ [x])[A.length]'(by simp) = x := by simp
                rw [hxe] at c0 c1
                refine ⟨b, o, hao, ?_⟩
                obtain ⟨c, bare⟩ := x
                cases bare with
                | false => exact Or.inl c1
                | true =>
                  refine Or.inr ⟨c, c1, c0, ?_⟩
                  rw [beq_eq_false_iff_ne]
                  intro h
                  apply hb
                  refine ⟨A, _, rfl, ?_⟩
                  show (true && decide (c = 32)) = true
                  rw [u8_eq (n := 32) (by omega) h]; rfl
            have FIN : Hid (∀ v, v = Value.slice ao m cap → TrimE L w (.returned v) w) := by
              intro v hv
              subst hv
              rw [hm.out]
              exact trimE_of HT.out (by rw [← hm.out]; exact hc) hA.out
            clear hb hM hD hm hA HT
            rcases hfacts with rfl | ⟨k, rfl, b, o, rfl, c1 | ⟨c, c1, c0, q⟩⟩
            all_goals
              go_wp2_with fail
              go_ret
              exact FIN.out _ rfl
end dnw
end Go.Proofs.YtjjbmhndakmkbaaDoor
