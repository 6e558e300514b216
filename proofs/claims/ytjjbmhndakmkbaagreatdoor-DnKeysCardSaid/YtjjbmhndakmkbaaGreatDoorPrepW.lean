/- The walks of the program's Map, Ready, Phone, Same. -/
import Derived.Test.YtjjbmhndakmkbaaGreatDoorWRuneW
import Derived.Test.YtjjbmhndakmkbaaGreatDoorRReadyW
import Derived.Deep.QuietTactic
import Derived.BigQuiet
namespace Go.Proofs.YtjjbmhndakmkbaaGreatDoor
open Go.RowKit
namespace prw
open run prp
set_option linter.unusedVariables false
set_option linter.unusedSimpArgs false
/-- what the library's variable holds -/
def Env (w : World) : Prop := ∃ m : Int, w.cell? ⟨0, 0, none⟩ = some (.int .i64 m)
theorem env_below {w w' : World} (h : Env w) (hb : Below w.heap.size w w') : Env w' := by
  obtain ⟨m, hm⟩ := h
  exact ⟨m, (hb.cell (World.block_lt_of_cell? w _ hm)).trans hm⟩
theorem text_map_len {fold : Bool} {m : List Int} (i : Nat) (hi : i ≤ m.length) : (text (mapped fold (m.take i))).length ≤ 4 * i := by
  have h1 := text_len4 (mapped fold (m.take i))
  have h2 := mapped_take_len fold m i
  omega
set_option maxRecDepth 20000 in
set_option maxHeartbeats 4000000 in
theorem map_any (s : ByteArray) (fold : Bool) (w : World) (hs : s.size ≤ 1000000) : Calls Tryz.prog 51 #[.string s, .bool fold] w fun e w' => e = .returned (pairV (mapO s.data.toList fold)) ∧ Below w.heap.size w w' := by
  rw [mapO_eq]
  have CR := runes_any s w hs
  have HM : Hid (mapO' s.data.toList fold = (runes s.data.toList).map (mapped fold)) := rfl
  cases hrs : runes s.data.toList with
  | none =>
    rw [hrs] at CR HM
    have CH := Lib.hid CR
    clear hrs CR
    go_enter Tryz.func51, Tryz.ntmps51
    go_wp2_with fail
    refine CH.out.mono ?_
    rintro e w1 ⟨hB1, rfl⟩
    go_wp2_with fail
    go_ret2
    refine ⟨?_, hB1⟩
    rw [HM.out]; rfl
  | some m =>
    rw [hrs] at CR HM
    have hml := runes_len hrs
    have hok := (runes_text _ _ m (Nat.le_refl _) hrs).2
    have CH := Lib.hid CR
    have HK := Lib.hid hok
    have hml2 : m.length ≤ 1000000 := by rw [kt.size_len] at hml; omega
    clear hrs CR hok hml
    go_enter Tryz.func51, Tryz.ntmps51
    go_wp2_with fail
    refine CH.out.mono ?_
    rintro e w1 ⟨hB1, v, rfl, hO⟩
    obtain ⟨ao, cap, rfl, hS⟩ := runs_of hO
    have HS := Lib.hid hS
    clear hO hS
    have hsz1 := hB1.size
    go_wp2_with fail
    go_loopw [10, 21] (fun xv iv wr => ∃ (i : Nat), i ≤ m.length ∧ iv = .int .i64 (i : Int) ∧ Hid (bld.Is w1.heap.size w1.heap.size (text (mapped fold (m.take i))) wr) ∧ Below w1.heap.size w1 wr ∧ w1.heap.size < wr.heap.size) (fun _ iv _ => m.length - (intOf iv).toNat)
    case atStart =>
      refine ⟨0, Nat.zero_le _, rfl, ?_, (Below.refl _ _).alloc (Nat.le_refl _) _, by simp⟩
      exact bld.fresh w1
    case round =>
      obtain ⟨i, hi, rfl, hI, hB, hgt⟩ := hrel
      have hsz := hB.size
      by_cases hlt : i < m.length
      · have hlt' : (i : Int) < (m.length : Int) := by omega
        obtain ⟨b, o, hao, hc⟩ := runs_below HS.out hB i hlt
        subst hao
        have hx := HK.out m[i] (by simp)
        have h1 := mapped_take_drop (fold := fold) hlt
        have h2 := mapped_take_keep (fold := fold) hlt
        have h3 := Lib.hid (text_map_len (fold := fold) i hi)
        generalize m[i] = x at hc hx h1 h2
        have hx3 := hx
        obtain ⟨x0, x1, _⟩ := hx
        have CD := Lib.hid (dropped_any x)
        by_cases hd : dropB x = true
        · have hI1 := hI.out
          rw [← h1 hd] at hI1
          have HI1 := Lib.hid hI1
          rw [hd] at CD
          clear h1 h2 hd hI1
          go_wp2_with fail
          refine (CD.out wr).mono ?_
          rintro e w2 ⟨rfl, rfl⟩
          go_wp2_with fail
          go_roundw
          case rel => exact ⟨i + 1, by omega, by go_num, HI1, hB, hgt⟩
          case measure => simp [intOf]; omega
        · have hd' : dropB x = false := by simpa using hd
          rw [hd'] at CD
          have h2' := h2 hd'
          have hy : okR (mapR fold x) := mapR_ok hx3
          have CW := bld.writeRune_any w1.heap.size w1.heap.size (text (mapped fold (m.take i))) (mapR fold x) wr hI.out hy.1 hy.2.1 (by have := h3.out; omega) hsz
          have e1 : text (mapped fold (m.take i)) ++ enc (mapR fold x) = text (mapped fold (m.take (i + 1))) := by rw [h2', text_append]; simp [text]
          rw [e1] at CW
          clear h1 h2 hd hd' h2' e1 hy
          have CB := Lib.hid (blank_any x)
          by_cases hb : blankB x = true
          · rw [hb] at CB
            rw [mapR_blank hb] at CW
            have CWH := Lib.hid CW
            clear CW hb
            go_wp2_with fail
            refine (CD.out wr).mono ?_
            rintro e w2 ⟨rfl, rfl⟩
            go_wp2_with fail
            refine (CB.out wr).mono ?_
            rintro e w2 ⟨rfl, rfl⟩
            go_wp2_with fail
            refine CWH.out.mono ?_
            rintro e w2 ⟨v, rfl, hI2, hB2⟩
            have HI2 := Lib.hid hI2
            have hsz2 := hB2.size
            clear hI2
            go_wp2_with fail
            go_roundw
            case rel => exact ⟨i + 1, by omega, by go_num, HI2, hB.trans hB2, by omega⟩
            case measure => simp [intOf]; omega
          · have hb' : blankB x = false := by simpa using hb
            rw [hb'] at CB
            clear hb
            cases fold with
            | true =>
              rw [mapR_small hb'] at CW
              have CS := Lib.hid (fun w => small_any x w x0 x1)
              generalize smallI x = y at CS CW
              have CWH := Lib.hid CW
              clear CW hb'
              go_wp2_with fail
              refine (CD.out wr).mono ?_
              rintro e w2 ⟨rfl, rfl⟩
              go_wp2_with fail
              refine (CB.out wr).mono ?_
              rintro e w2 ⟨rfl, rfl⟩
              go_wp2_with fail
              refine (CS.out wr).mono ?_
              rintro e w2 ⟨rfl, rfl⟩
              go_wp2_with fail
              refine CWH.out.mono ?_
              rintro e w2 ⟨v, rfl, hI2, hB2⟩
              have HI2 := Lib.hid hI2
              have hsz2 := hB2.size
              clear hI2
              go_wp2_with fail
              go_roundw
              case rel => exact ⟨i + 1, by omega, by go_num, HI2, hB.trans hB2, by omega⟩
              case measure => simp [intOf]; omega
            | false =>
              rw [mapR_same hb'] at CW
              have CWH := Lib.hid CW
              clear CW hb'
              go_wp2_with fail
              refine (CD.out wr).mono ?_
              rintro e w2 ⟨rfl, rfl⟩
              go_wp2_with fail
              refine (CB.out wr).mono ?_
              rintro e w2 ⟨rfl, rfl⟩
              go_wp2_with fail
              refine CWH.out.mono ?_
              rintro e w2 ⟨v, rfl, hI2, hB2⟩
              have HI2 := Lib.hid hI2
              have hsz2 := hB2.size
              clear hI2
              go_wp2_with fail
              go_roundw
              case rel => exact ⟨i + 1, by omega, by go_num, HI2, hB.trans hB2, by omega⟩
              case measure => simp [intOf]; omega
      · obtain rfl : i = m.length := by omega
        have hI1 := hI.out
        rw [List.take_length] at hI1
        have CS := Lib.hid (Tryz.Builder_String_any w1.heap.size w1.heap.size (text (mapped fold m)) wr hI1 hsz)
        clear hI1
        go_wp2_with fail
        refine CS.out.mono ?_
        rintro e w2 ⟨rfl, hB2⟩
        go_wp2_with fail
        go_ret2
        refine ⟨?_, hB1.trans ((hB.trans hB2).mono hsz1)⟩
        rw [HM.out]; rfl
end prw
end Go.Proofs.YtjjbmhndakmkbaaGreatDoor
