/- The walks of the reference's Mapped, Map, Ready, Phone. -/
import Derived.Test.YtjjbmhndakmkbaaGreatDoorTextW
import Derived.LoopN
namespace Go.Proofs.YtjjbmhndakmkbaaGreatDoor
open Go.RowKit
namespace prw
open run prp
set_option linter.unusedVariables false
set_option linter.unusedSimpArgs false
/-- what Mapped hands back -/
def MappedE (o : Option (List Int)) (w : World) (e : Ending) (w' : World) : Prop :=
  Below w.heap.size w w' ∧ match o with
    | none => ∃ v, e = .returned (.tuple #[v, .int .i64 19])
    | some m => ∃ v, e = .returned (.tuple #[v, .int .i64 0]) ∧ OwnR w' w.heap.size v m
theorem mapped_take_drop {fold : Bool} {m : List Int} {i : Nat} (hi : i < m.length) (h : dropB m[i] = true) : mapped fold (m.take (i + 1)) = mapped fold (m.take i) := by
  rw [List.take_succ_eq_append_getElem hi, mapped_append]
  simp [mapped, h]
theorem mapped_take_keep {fold : Bool} {m : List Int} {i : Nat} (hi : i < m.length) (h : dropB m[i] = false) : mapped fold (m.take (i + 1)) = mapped fold (m.take i) ++ [mapR fold m[i]] := by
  rw [List.take_succ_eq_append_getElem hi, mapped_append]
  simp [mapped, h]
theorem mapped_take_len (fold : Bool) (m : List Int) (i : Nat) : (mapped fold (m.take i)).length ≤ i := by
  unfold mapped
  rw [List.length_map]
  refine Nat.le_trans (List.length_filter_le _ _) ?_
  rw [List.length_take]; omega
theorem mapR_blank {fold : Bool} {r : Int} (h : blankB r = true) : mapR fold r = 32 := by unfold mapR; rw [if_pos h]
theorem mapR_small {r : Int} (h : blankB r = false) : mapR true r = smallI r := by unfold mapR; rw [if_neg (by rw [h]; simp), if_pos rfl]
theorem mapR_same {r : Int} (h : blankB r = false) : mapR false r = r := by unfold mapR; rw [if_neg (by rw [h]; simp), if_neg (by simp)]
/-- the runes that are mapped: none of a text that has none -/
def mapO' (l : List UInt8) (fold : Bool) : Option (List Int) := (runes l).map (mapped fold)
set_option maxRecDepth 20000 in
set_option maxHeartbeats 4000000 in
theorem mapped_any (s : ByteArray) (fold : Bool) (w : World) (hs : s.size ≤ 1000000) : Calls Tryz.prog 40 #[.string s, .bool fold] w fun e w' => MappedE (mapO' s.data.toList fold) w e w' := by
  have CR := rrunes_any s w hs
  have HM : Hid (mapO' s.data.toList fold = (runes s.data.toList).map (mapped fold)) := rfl
  cases hrs : runes s.data.toList with
  | none =>
    rw [hrs] at CR HM
    have CH := Lib.hid CR
    clear hrs CR
    go_enter Tryz.func40, Tryz.ntmps40
    go_wp2_with fail
    refine CH.out.mono ?_
    rintro e w1 ⟨hB1, rfl⟩
    go_wp2_with fail
    refine wp_loop_rounds 1 ?_
    rw [rounds_succ]
    go_wp2_with fail
    go_ret2
    refine ⟨hB1.alloc hB1.size _, ?_⟩
    rw [HM.out]
    exact ⟨_, rfl⟩
  | some m =>
    rw [hrs] at CR HM
    have hml := runes_len hrs
    have hok := (runes_text _ _ m (Nat.le_refl _) hrs).2
    have CH := Lib.hid CR
    have HK := Lib.hid hok
    have hml2 : m.length ≤ 1000000 := by rw [kt.size_len] at hml; omega
    clear hrs CR hok hml
    go_enter Tryz.func40, Tryz.ntmps40
    go_wp2_with fail
    refine CH.out.mono ?_
    rintro e w1 ⟨hB1, v, rfl, hO⟩
    obtain ⟨ao, cap, rfl, hS⟩ := runs_of hO
    have HS := Lib.hid hS
    clear hO hS
    have hsz1 := hB1.size
    go_wp2_with fail
    go_loopw [8, 9, 10] (fun lv iv xv wr => ∃ (i : Nat), i ≤ m.length ∧ iv = .int .i64 (i : Int) ∧ Hid (OwnR wr w1.heap.size lv (mapped fold (m.take i))) ∧ Below w1.heap.size w1 wr) (fun _ iv _ _ => m.length - (intOf iv).toNat)
    case atStart =>
      refine ⟨0, Nat.zero_le _, rfl, ?_, (Below.refl _ _).alloc (Nat.le_refl _) _⟩
      exact World.ownsRow_made _ #[] 0 (by simp) (by unfold maxLen; omega) rfl
    case round =>
      obtain ⟨i, hi, rfl, hO, hB⟩ := hrel
      have hsz := hB.size
      by_cases hlt : i < m.length
      · have hlt' : (i : Int) < (m.length : Int) := by omega
        obtain ⟨b, o, hao, hc⟩ := runs_below HS.out hB i hlt
        subst hao
        have hx := HK.out m[i] (by simp)
        have h1 := mapped_take_drop (fold := fold) hlt
        have h2 := mapped_take_keep (fold := fold) hlt
        have h3 : Hid ((mapped fold (m.take i)).length ≤ 1000000) := by show _ ≤ _; have := mapped_take_len fold m i; omega
        generalize m[i] = x at hc hx h1 h2
        obtain ⟨x0, x1, _⟩ := hx
        have CD := Lib.hid (rdropped_any x)
        by_cases hd : dropB x = true
        · have hO1 := hO.out
          rw [← h1 hd] at hO1
          have HO1 := Lib.hid hO1
          rw [hd] at CD
          clear h1 h2 hd hO1
          go_wp2_with fail
          refine (CD.out wr).mono ?_
          rintro e w2 ⟨rfl, rfl⟩
          go_wp2_with fail
          go_roundw
          case rel => exact ⟨i + 1, by omega, by go_num, HO1, hB⟩
          case measure => simp [intOf]; omega
        · have hd' : dropB x = false := by simpa using hd
          rw [hd'] at CD
          have h2' := h2 hd'
          clear h1 h2 hd hd'
          have CB := Lib.hid (rblank_any x)
          by_cases hb : blankB x = true
          · rw [hb] at CB
            rw [mapR_blank hb] at h2'
            obtain ⟨v', w2, hap, hO1, hB2⟩ := ownR_app 32 hO.out (by have := h3.out; omega) hsz
            rw [← h2'] at hO1
            have HO1 := Lib.hid hO1
            clear h2' hO1 hb
            go_wp2_with fail
            refine (CD.out wr).mono ?_
            rintro e w2 ⟨rfl, rfl⟩
            go_wp2_with fail
            refine (CB.out wr).mono ?_
            rintro e w2 ⟨rfl, rfl⟩
            go_wp2_with (at_builtin; refine Lib.wpList_append_run _ rfl _ _ _ _ rfl _ _ rfl rfl _ _ hap ?_)
            go_roundw
            case rel => exact ⟨i + 1, by omega, by go_num, HO1, hB.trans hB2⟩
            case measure => simp [intOf]; omega
          · have hb' : blankB x = false := by simpa using hb
            rw [hb'] at CB
            clear hb
            cases fold with
            | true =>
              rw [mapR_small hb'] at h2'
              have CS := Lib.hid (fun w => rsmall_any x w x0 x1)
              generalize smallI x = y at CS h2'
              obtain ⟨v', w2, hap, hO1, hB2⟩ := ownR_app y hO.out (by have := h3.out; omega) hsz
              rw [← h2'] at hO1
              have HO1 := Lib.hid hO1
              clear h2' hO1 hb'
              go_wp2_with fail
              refine (CD.out wr).mono ?_
              rintro e w2 ⟨rfl, rfl⟩
              go_wp2_with fail
              refine (CB.out wr).mono ?_
              rintro e w2 ⟨rfl, rfl⟩
              go_wp2_with fail
              refine (CS.out wr).mono ?_
              rintro e w2 ⟨rfl, rfl⟩
              go_wp2_with (at_builtin; refine Lib.wpList_append_run _ rfl _ _ _ _ rfl _ _ rfl rfl _ _ hap ?_)
              go_roundw
              case rel => exact ⟨i + 1, by omega, by go_num, HO1, hB.trans hB2⟩
              case measure => simp [intOf]; omega
            | false =>
              rw [mapR_same hb'] at h2'
              obtain ⟨v', w2, hap, hO1, hB2⟩ := ownR_app x hO.out (by have := h3.out; omega) hsz
              rw [← h2'] at hO1
              have HO1 := Lib.hid hO1
              clear h2' hO1 hb'
              go_wp2_with fail
              refine (CD.out wr).mono ?_
              rintro e w2 ⟨rfl, rfl⟩
              go_wp2_with fail
              refine (CB.out wr).mono ?_
              rintro e w2 ⟨rfl, rfl⟩
              go_wp2_with (at_builtin; refine Lib.wpList_append_run _ rfl _ _ _ _ rfl _ _ rfl rfl _ _ hap ?_)
              go_roundw
              case rel => exact ⟨i + 1, by omega, by go_num, HO1, hB.trans hB2⟩
              case measure => simp [intOf]; omega
      · obtain rfl : i = m.length := by omega
        have hO' := hO.out
        rw [List.take_length] at hO'
        have HO1 := Lib.hid hO'
        clear hO'
        go_wp2_with fail
        go_ret2
        refine ⟨hB1.trans (hB.mono hsz1), ?_⟩
        rw [HM.out]
        exact ⟨_, rfl, ownR_mono HO1.out hsz1⟩
end prw
end Go.Proofs.YtjjbmhndakmkbaaGreatDoor
