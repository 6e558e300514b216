/- The walk of the reference's Ready. -/
import Derived.Test.YtjjbmhndakmkbaaGreatDoorMappedW
namespace Go.Proofs.YtjjbmhndakmkbaaGreatDoor
open Go.RowKit
namespace prw
open run prp
set_option linter.unusedVariables false
set_option linter.unusedSimpArgs false
/-- a text and how it went -/
def pairV : Option (List UInt8) → Value
  | none => .tuple #[.string ⟨#[]⟩, .int .i64 19]
  | some t => .tuple #[.string ⟨t.toArray⟩, .int .i64 0]
theorem mapO_eq (l : List UInt8) (fold : Bool) : mapO l fold = (mapO' l fold).map text := by
  unfold mapO mapO'; rw [Option.map_map]; rfl
theorem readyO_eq (l : List UInt8) (fold : Bool) : readyO l fold = (mapO' l fold).map fun m => text (sq 32 false m) := by
  unfold readyO mapO' readyR; rw [Option.map_map]; rfl
theorem phoneO_eq (l : List UInt8) : phoneO l = (mapO' l true).map fun m => text (m.filter fun v => decide (v ≠ 32) && decide (v ≠ 45)) := by
  unfold phoneO mapO' phoneR; rw [Option.map_map]; rfl
theorem mapO'_facts {s : ByteArray} {fold : Bool} {m : List Int} (h : mapO' s.data.toList fold = some m) : m.length ≤ s.size ∧ ∀ v ∈ m, okR v := by
  unfold mapO' at h
  obtain ⟨k, hk, rfl⟩ := Option.map_eq_some_iff.1 h
  have h1 := runes_len hk
  rw [kt.size_len] at h1
  refine ⟨?_, mapped_ok (runes_text _ _ k (Nat.le_refl _) hk).2⟩
  unfold mapped
  rw [List.length_map]
  exact Nat.le_trans (List.length_filter_le _ _) h1
theorem sq_drop_ne {m acc : List Int} {i : Nat} (hi : i < m.length) (h : sq 32 false m = acc ++ sq 32 (!acc.isEmpty) (m.drop i)) (hx : m[i] ≠ 32) : sq 32 false m = (acc ++ [m[i]]) ++ sq 32 (!(acc ++ [m[i]]).isEmpty) (m.drop (i + 1)) := by
  rw [List.drop_eq_getElem_cons hi, sq_ne _ _ _ _ hx] at h
  rw [h]
  have : (!(acc ++ [m[i]]).isEmpty) = true := by simp
  rw [this]
  simp
theorem sq_drop_on {m acc : List Int} {i : Nat} (hi : i < m.length) (h : sq 32 false m = acc ++ sq 32 (!acc.isEmpty) (m.drop i)) (hx : m[i] = 32) (ha : 0 < acc.length) (hi2 : i + 1 < m.length) (hy : m[i + 1] ≠ 32) : sq 32 false m = (acc ++ [m[i]]) ++ sq 32 (!(acc ++ [m[i]]).isEmpty) (m.drop (i + 1)) := by
  have hst : (!acc.isEmpty) = true := by cases acc with
    | nil => simp at ha
    | cons => rfl
  have hh : headNe 32 (m.drop (i + 1)) = true := by rw [List.drop_eq_getElem_cons hi2]; simpa [headNe] using hy
  rw [List.drop_eq_getElem_cons hi, hx, hst, sq_on _ _ hh] at h
  rw [h]
  have : (!(acc ++ [m[i]]).isEmpty) = true := by simp
  rw [this, hx]
  simp
theorem sq_drop_off {m acc : List Int} {i : Nat} (hi : i < m.length) (h : sq 32 false m = acc ++ sq 32 (!acc.isEmpty) (m.drop i)) (hx : m[i] = 32) (hn : acc.length = 0 ∨ m.length ≤ i + 1 ∨ ∃ hi2 : i + 1 < m.length, m[i + 1] = 32) : sq 32 false m = acc ++ sq 32 (!acc.isEmpty) (m.drop (i + 1)) := by
  rw [List.drop_eq_getElem_cons hi, hx, sq_off] at h
  · exact h
  · rintro ⟨h1, h2⟩
    rcases hn with hn | hn | ⟨hi2, hn⟩
    · cases acc with
      | nil => simp at h1
      | cons => simp at hn
    · rw [List.drop_of_length_le (by omega)] at h2
      simp [headNe] at h2
    · rw [List.drop_eq_getElem_cons hi2] at h2
      simp [headNe, hn] at h2
theorem sq_drop_end {m acc : List Int} (h : sq 32 false m = acc ++ sq 32 (!acc.isEmpty) (m.drop m.length)) : sq 32 false m = acc := by
  rw [List.drop_length] at h
  simpa [sq] using h
set_option maxRecDepth 20000 in
set_option maxHeartbeats 4000000 in
theorem rready_any (s : ByteArray) (fold : Bool) (w : World) (hs : s.size ≤ 1000000) : Calls Tryz.prog 23 #[.string s, .bool fold] w fun e w' => e = .returned (pairV (readyO s.data.toList fold)) ∧ Below w.heap.size w w' := by
  rw [readyO_eq]
  have CR := mapped_any s fold w hs
  cases hrs : mapO' s.data.toList fold with
  | none =>
    rw [hrs] at CR
    have CH := Lib.hid CR
    clear hrs CR
    go_enter Tryz.func23, Tryz.ntmps23
    go_wp2_with fail
    refine CH.out.mono ?_
    rintro e w1 ⟨hB1, v, rfl⟩
    go_wp2_with fail
    go_ret2
    exact ⟨rfl, hB1⟩
  | some m =>
    rw [hrs] at CR
    obtain ⟨hml, hok⟩ := mapO'_facts hrs
    have CH := Lib.hid CR
    have HK : Hid (∀ v ∈ sq 32 false m, okR v) := fun v hv => hok v (sq_mem _ _ _ v hv)
    have hml2 : m.length ≤ 1000000 := by omega
    clear hrs CR hok hml
    go_enter Tryz.func23, Tryz.ntmps23
    go_wp2_with fail
    refine CH.out.mono ?_
    rintro e w1 ⟨hB1, v, rfl, hO⟩
    obtain ⟨ao, cap, rfl, hS⟩ := runs_of hO
    have HS := Lib.hid hS
    clear hO hS
    have hsz1 := hB1.size
    go_wp2_with fail
    go_loopw [8, 9] (fun lv iv wr => ∃ (i : Nat) (acc : List Int), i ≤ m.length ∧ iv = .int .i64 (i : Int) ∧ Hid (OwnR wr w1.heap.size lv acc) ∧ acc.length ≤ i ∧ Hid (sq 32 false m = acc ++ sq 32 (!acc.isEmpty) (m.drop i)) ∧ Below w1.heap.size w1 wr) (fun _ iv _ => m.length - (intOf iv).toNat)
    case atStart =>
      refine ⟨0, [], Nat.zero_le _, rfl, ?_, by simp, by show _ = _; simp, (Below.refl _ _).alloc (Nat.le_refl _) _⟩
      exact World.ownsRow_made _ #[] 0 (by simp) (by unfold maxLen; omega) rfl
    case round =>
      obtain ⟨i, acc, hi, rfl, hO, hal, hQ, hB⟩ := hrel
      have hsz := hB.size
      obtain ⟨ao', cap', rfl⟩ := ownR_form hO.out
      by_cases hlt : i < m.length
      · have hlt' : (i : Int) < (m.length : Int) := by omega
        obtain ⟨b, o, hao, hc⟩ := runs_below HS.out hB i hlt
        have q1 := sq_drop_ne hlt hQ.out
        have q2 := sq_drop_on hlt hQ.out
        have q3 := sq_drop_off hlt hQ.out
        by_cases hx : m[i] = 32
        · by_cases ha : 0 < acc.length
          · have ha' : (0 : Int) < (acc.length : Int) := by omega
            by_cases hi2 : i + 1 < m.length
            · have hi2' : (i : Int) + 1 < (m.length : Int) := by omega
              obtain ⟨b', o', hao', hc'⟩ := runs_below HS.out hB (i + 1) hi2
              rw [hao] at hao'
              cases hao'
              subst hao
              by_cases hy : m[i + 1] = 32
              · have hQ2 := q3 hx (Or.inr (Or.inr ⟨hi2, hy⟩))
                rw [hx] at hc
                rw [hy] at hc'
                have HQ2 := Lib.hid hQ2
                clear q1 q2 q3 hx hy hQ2
                go_wp2_with fail
                go_roundw
                case rel => exact ⟨i + 1, acc, by omega, by go_num, hO, by omega, HQ2, hB⟩
                case measure => simp [intOf]; omega
              · have hQ2 := q2 hx ha hi2 hy
                rw [hx] at hc hQ2
                obtain ⟨v', w2, hap, hO1, hB2⟩ := ownR_app 32 hO.out (by omega) hsz
                generalize m[i + 1] = y at hc' hy
                have hy' : (y == 32) = false := by rw [beq_eq_false_iff_ne]; exact hy
                have HQ2 := Lib.hid hQ2
                have HO1 := Lib.hid hO1
                clear q1 q2 q3 hx hy hQ2 hO1
                go_wp2_with (at_builtin; refine Lib.wpList_append_run _ rfl _ _ _ _ rfl _ _ rfl rfl _ _ hap ?_)
                go_roundw
                case rel => exact ⟨i + 1, acc ++ [32], by omega, by go_num, HO1, by simp; omega, HQ2, hB.trans hB2⟩
                case measure => simp [intOf]; omega
            · have hi2' : ¬ (i : Int) + 1 < (m.length : Int) := by omega
              have hQ2 := q3 hx (Or.inr (Or.inl (by omega)))
              subst hao
              rw [hx] at hc
              have HQ2 := Lib.hid hQ2
              clear q1 q2 q3 hx hQ2
              go_wp2_with fail
              go_roundw
              case rel => exact ⟨i + 1, acc, by omega, by go_num, hO, by omega, HQ2, hB⟩
              case measure => simp [intOf]; omega
          · have ha' : ¬ (0 : Int) < (acc.length : Int) := by omega
            have hQ2 := q3 hx (Or.inl (by omega))
            subst hao
            rw [hx] at hc
            have HQ2 := Lib.hid hQ2
            have hacc : acc.length = 0 := by omega
            obtain rfl : acc = [] := List.eq_nil_of_length_eq_zero hacc
            clear q1 q2 q3 hx hQ2 ha hacc
            go_wp2_with fail
            go_roundw
            case rel => exact ⟨i + 1, [], by omega, by go_num, hO, by simp, HQ2, hB⟩
            case measure => simp [intOf]; omega
        · have hQ2 := q1 hx
          subst hao
          generalize m[i] = x at hc hx hQ2
          have hx' : (x == 32) = false := by rw [beq_eq_false_iff_ne]; exact hx
          have hx2 : (x != 32) = true := by rw [bne_iff_ne]; exact hx
          obtain ⟨v', w2, hap, hO1, hB2⟩ := ownR_app x hO.out (by omega) hsz
          have HQ2 := Lib.hid hQ2
          have HO1 := Lib.hid hO1
          clear q1 q2 q3 hx hQ2 hO1
          go_wp2_with (at_builtin; refine Lib.wpList_append_run _ rfl _ _ _ _ rfl _ _ rfl rfl _ _ hap ?_)
          go_roundw
          case rel => exact ⟨i + 1, acc ++ [x], by omega, by go_num, HO1, by simp; omega, HQ2, hB.trans hB2⟩
          case measure => simp [intOf]; omega
      · obtain rfl : i = m.length := by omega
        have he := sq_drop_end hQ.out
        have hK := HK.out
        rw [he] at hK
        have HE := Lib.hid he
        have HK2 := Lib.hid hK
        obtain ⟨ao2, cap2, hv, hS2⟩ := runs_of hO.out
        cases hv
        have HS2 := Lib.hid hS2
        have CT := Lib.hid (text_any ao' cap' acc wr (by omega) HS2 HK2)
        clear he hK hS2
        go_wp2_with fail
        refine CT.out.mono ?_
        rintro e w2 ⟨rfl, hB2⟩
        go_wp2_with fail
        go_ret2
        refine ⟨?_, hB1.trans ((hB.trans (hB2.mono hsz)).mono hsz1)⟩
        show _ = Ending.returned (pairV (some (text (sq 32 false m))))
        rw [HE.out]; rfl
end prw
end Go.Proofs.YtjjbmhndakmkbaaGreatDoor
