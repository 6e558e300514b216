/- The walk of the reference's Phone. -/
import Derived.Test.YtbadknkhedjfaaaDoorRReadyW
namespace Go.Proofs.YtbadknkhedjfaaaDoor
open Go.RowKit
namespace prw
open run prp
set_option linter.unusedVariables false
set_option linter.unusedSimpArgs false
def phP (v : Int) : Bool := decide (v ≠ 32) && decide (v ≠ 45)
theorem ph_keep {m : List Int} {i : Nat} (hi : i < m.length) (h : phP m[i] = true) : (m.take (i + 1)).filter phP = (m.take i).filter phP ++ [m[i]] := by
  rw [List.take_succ_eq_append_getElem hi, List.filter_append]; simp [h]
theorem ph_drop {m : List Int} {i : Nat} (hi : i < m.length) (h : phP m[i] = false) : (m.take (i + 1)).filter phP = (m.take i).filter phP := by
  rw [List.take_succ_eq_append_getElem hi, List.filter_append]; simp [h]
theorem ph_len (m : List Int) (i : Nat) : ((m.take i).filter phP).length ≤ i := by
  refine Nat.le_trans (List.length_filter_le _ _) ?_
  rw [List.length_take]; omega
theorem phoneO_ph (l : List UInt8) : phoneO l = (mapO' l true).map fun m => text (m.filter phP) := phoneO_eq l
set_option maxHeartbeats 4000000 in
theorem rphone_any (s : ByteArray) (w : World) (hs : s.size ≤ 1000000) : Calls Tryd.prog 17 #[.string s] w fun e w' => e = .returned (pairV (phoneO s.data.toList)) ∧ Below w.heap.size w w' := by
  rw [phoneO_ph]
  have CR := mapped_any s true w hs
  cases hrs : mapO' s.data.toList true with
  | none =>
    rw [hrs] at CR
    have CH := Lib.hid CR
    clear hrs CR
    go_enter Tryd.func17, Tryd.ntmps17
    go_wp2_with fail
    refine CH.out.mono ?_
    rintro e w1 ⟨hB1, v, rfl⟩
    go_wp2_with fail
    go_ret2
    exact ⟨rfl, hB1⟩
  | some m =>
    rw [hrs] at CR
    obtain ⟨hml, hok⟩ := mapO'_facts hrs
    have CH := Lib.hid CR
    have HK : Hid (∀ v ∈ m.filter phP, okR v) := fun v hv => hok v (List.mem_filter.1 hv).1
    have hml2 : m.length ≤ 1000000 := by omega
    clear hrs CR hok hml
    go_enter Tryd.func17, Tryd.ntmps17
    go_wp2_with fail
    refine CH.out.mono ?_
    rintro e w1 ⟨hB1, v, rfl, hO⟩
    obtain ⟨ao, cap, rfl, hS⟩ := runs_of hO
    have HS := Lib.hid hS
    clear hO hS
    have hsz1 := hB1.size
    go_wp2_with fail
    go_loopw [6, 7] (fun lv iv wr => ∃ (i : Nat), i ≤ m.length ∧ iv = .int .i64 (i : Int) ∧ Hid (OwnR wr w1.heap.size lv ((m.take i).filter phP)) ∧ Below w1.heap.size w1 wr) (fun _ iv _ => m.length - (intOf iv).toNat)
    case atStart =>
      refine ⟨0, Nat.zero_le _, rfl, ?_, (Below.refl _ _).alloc (Nat.le_refl _) _⟩
      exact World.ownsRow_made _ #[] 0 (by simp) (by unfold maxLen; omega) rfl
    case round =>
      obtain ⟨i, hi, rfl, hO, hB⟩ := hrel
      have hsz := hB.size
      by_cases hlt : i < m.length
      · have hlt' : (i : Int) < (m.length : Int) := by omega
        obtain ⟨b, o, hao, hc⟩ := runs_below HS.out hB i hlt
        have q1 := ph_keep hlt
        have q2 := ph_drop hlt
        have q3 := ph_len m i
        subst hao
        generalize m[i] = x at hc q1 q2
        by_cases hx : x = 32
        · subst hx
          have hO1 := hO.out
          rw [← q2 rfl] at hO1
          have HO1 := Lib.hid hO1
          clear q1 q2 q3 hO1
          go_wp2_with fail
          go_roundw
          case rel => exact ⟨i + 1, by omega, by go_num, HO1, hB⟩
          case measure => simp [intOf]; omega
        · by_cases hy : x = 45
          · subst hy
            have hO1 := hO.out
            rw [← q2 rfl] at hO1
            have HO1 := Lib.hid hO1
            clear q1 q2 q3 hO1
            go_wp2_with fail
            go_roundw
            case rel => exact ⟨i + 1, by omega, by go_num, HO1, hB⟩
            case measure => simp [intOf]; omega
          · have hx1 : (x == 32) = false := by rw [beq_eq_false_iff_ne]; exact hx
            have hx2 : (x != 32) = true := by rw [bne_iff_ne]; exact hx
            have hy1 : (x == 45) = false := by rw [beq_eq_false_iff_ne]; exact hy
            have hy2 : (x != 45) = true := by rw [bne_iff_ne]; exact hy
            obtain ⟨v', w2, hap, hO1, hB2⟩ := ownR_app x hO.out (by omega) hsz
            rw [← q1 (by unfold phP; simp [hx, hy])] at hO1
            have HO1 := Lib.hid hO1
            clear q1 q2 q3 hx hy hO1
            go_wp2_with (at_builtin; refine Lib.wpList_append_run _ rfl _ _ _ _ rfl _ _ rfl rfl _ _ hap ?_)
            go_roundw
            case rel => exact ⟨i + 1, by omega, by go_num, HO1, hB.trans hB2⟩
            case measure => simp [intOf]; omega
      · obtain rfl : i = m.length := by omega
        have hO1 := hO.out
        rw [List.take_length] at hO1
        have hl := ph_len m m.length
        rw [List.take_length] at hl
        obtain ⟨ao2, cap2, rfl, hS2⟩ := runs_of hO1
        have HS2 := Lib.hid hS2
        have CT := Lib.hid (text_any ao2 cap2 (m.filter phP) wr (by omega) HS2 HK)
        clear hO1 hS2 hl
        go_wp2_with fail
        refine CT.out.mono ?_
        rintro e w2 ⟨rfl, hB2⟩
        go_wp2_with fail
        go_ret2
        exact ⟨rfl, hB1.trans ((hB.trans (hB2.mono hsz)).mono hsz1)⟩
end prw
end Go.Proofs.YtbadknkhedjfaaaDoor
