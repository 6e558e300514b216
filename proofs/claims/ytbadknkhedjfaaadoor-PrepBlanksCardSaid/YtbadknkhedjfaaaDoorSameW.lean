/- The walks of the program's Phone and Same. -/
import Derived.Test.YtbadknkhedjfaaaDoorReadyW
namespace Go.Proofs.YtbadknkhedjfaaaDoor
open Go.RowKit
namespace prw
open run prp
set_option linter.unusedVariables false
set_option linter.unusedSimpArgs false
theorem replaceAll_len (c : UInt8) (l : List UInt8) : (Lib.replaceAll l [c] []).length ≤ l.length := by
  rw [replaceAll_filter]; exact List.length_filter_le _ _
set_option maxHeartbeats 1000000 in
theorem phone_any (s : ByteArray) (w : World) (hs : s.size ≤ 1000000) (hE : Hid (Env w)) : Calls Tryd.prog 16 #[.string s] w fun e w' => e = .returned (pairV (phoneO s.data.toList)) ∧ Below w.heap.size w w' := by
  have CR := ready_any s true w hs hE
  have HM := Lib.hid (phoneO_of_ready s.data.toList)
  cases hrs : readyO s.data.toList true with
  | none =>
    rw [hrs] at CR HM
    have CH := Lib.hid CR
    clear hrs CR
    go_enter Tryd.func16, Tryd.ntmps16
    go_wp2_with fail
    refine CH.out.mono ?_
    rintro e w1 ⟨rfl, hB1⟩
    unfold pairV
    go_wp2_with fail
    go_ret2
    refine ⟨?_, hB1⟩
    rw [HM.out]; rfl
  | some t =>
    have htl := readyO_len hrs
    rw [kt.size_len] at htl
    rw [hrs] at CR HM
    obtain ⟨ta, hta⟩ : ∃ ta : ByteArray, ta = ⟨t.toArray⟩ := ⟨_, rfl⟩
    have htd : ta.data.toList = t := by rw [hta]
    rw [pairV_some, ← hta] at CR
    have CH := Lib.hid CR
    have hl1 := replaceAll_len 32 t
    have hts : ta.size ≤ 1000000 := by rw [← kt.size_len, htd]; omega
    have CS1 : Hid (∀ (W : World) (m : Int), W.cell? ⟨0, 0, none⟩ = some (.int .i64 m) → Calls Tryd.prog 30 #[.string ta, .string ⟨#[32]⟩, .string ⟨#[]⟩] W fun e w' => e = .returned (.string ⟨(Lib.replaceAll t [32] []).toArray⟩) ∧ Below W.heap.size W w') := by
      intro W m hm
      have := Tryd.strings_ReplaceAll ta ⟨#[32]⟩ ⟨#[]⟩ m W (by omega) hm (by decide) (by show ta.size + _ * 0 ≤ _; omega)
      rw [htd] at this
      exact this
    have CS2 : Hid (∀ (W : World) (m : Int), W.cell? ⟨0, 0, none⟩ = some (.int .i64 m) → Calls Tryd.prog 30 #[.string ⟨(Lib.replaceAll t [32] []).toArray⟩, .string ⟨#[45]⟩, .string ⟨#[]⟩] W fun e w' => e = .returned (.string ⟨(Lib.replaceAll (Lib.replaceAll t [32] []) [45] []).toArray⟩) ∧ Below W.heap.size W w') := by
      intro W m hm
      have hz : (⟨(Lib.replaceAll t [32] []).toArray⟩ : ByteArray).size ≤ 1000000 := by
        rw [← kt.size_len]; show (Lib.replaceAll t [32] []).length ≤ _; omega
      exact Tryd.strings_ReplaceAll ⟨(Lib.replaceAll t [32] []).toArray⟩ ⟨#[45]⟩ ⟨#[]⟩ m W (by omega) hm (by decide) (by show _ + _ * 0 ≤ _; omega)
    clear hrs CR htd hl1 hts htl hta
    generalize (⟨(Lib.replaceAll t [32] []).toArray⟩ : ByteArray) = t1 at CS1 CS2
    go_enter Tryd.func16, Tryd.ntmps16
    go_wp2_with fail
    refine CH.out.mono ?_
    rintro e w1 ⟨rfl, hB1⟩
    have hE1 := env_below hE.out hB1
    obtain ⟨m1, hm1⟩ := hE1
    have C1 := Lib.hid (CS1.out w1 m1 hm1)
    clear hm1
    go_wp2_with fail
    refine C1.out.mono ?_
    rintro e w2 ⟨rfl, hB2⟩
    have hB12 := hB1.trans (hB2.mono hB1.size)
    have hE2 := env_below hE.out hB12
    obtain ⟨m2, hm2⟩ := hE2
    have C2 := Lib.hid (CS2.out w2 m2 hm2)
    clear hm2
    go_wp2_with fail
    refine C2.out.mono ?_
    rintro e w3 ⟨rfl, hB3⟩
    go_wp2_with fail
    go_ret2
    refine ⟨?_, hB12.trans (hB3.mono hB12.size)⟩
    rw [HM.out]; rfl
set_option maxHeartbeats 1000000 in
theorem same_any (a b : ByteArray) (w : World) (ha : a.size ≤ 1000000) (hb : b.size ≤ 1000000) (hE : Hid (Env w)) : Calls Tryd.prog 18 #[.string a, .string b] w fun e w' => e = .returned (.bool (sameB a.data.toList b.data.toList)) ∧ Below w.heap.size w w' := by
  have CA := ready_any a true w ha hE
  have CB : ∀ W : World, Below w.heap.size w W → _ := fun W hB => ready_any b true W hb (Lib.hid (env_below hE.out hB))
  have HS : Hid (sameB a.data.toList b.data.toList = ((readyO a.data.toList true).isSome && decide (readyO a.data.toList true = readyO b.data.toList true))) := rfl
  cases h1 : readyO a.data.toList true with
  | none =>
    rw [h1] at CA HS
    have HA := Lib.hid CA
    cases h2 : readyO b.data.toList true with
    | none =>
      rw [h2] at CB
      have HB := Lib.hid CB
      clear h1 h2 CA CB
      go_enter Tryd.func18, Tryd.ntmps18
      go_wp2_with fail
      refine HA.out.mono ?_
      rintro e w1 ⟨rfl, hB1⟩
      have HB1 := Lib.hid (HB.out w1 hB1)
      unfold pairV
      go_wp2_with fail
      refine HB1.out.mono ?_
      rintro e w2 ⟨rfl, hB2⟩
      unfold pairV
      go_wp2_with fail
      go_ret
      exact ⟨by rw [HS.out]; rfl, hB1.trans (hB2.mono hB1.size)⟩
    | some u =>
      rw [h2] at CB
      have HB := Lib.hid CB
      clear h1 h2 CA CB
      go_enter Tryd.func18, Tryd.ntmps18
      go_wp2_with fail
      refine HA.out.mono ?_
      rintro e w1 ⟨rfl, hB1⟩
      have HB1 := Lib.hid (HB.out w1 hB1)
      unfold pairV
      go_wp2_with fail
      refine HB1.out.mono ?_
      rintro e w2 ⟨rfl, hB2⟩
      unfold pairV
      go_wp2_with fail
      go_ret
      exact ⟨by rw [HS.out]; rfl, hB1.trans (hB2.mono hB1.size)⟩
  | some t =>
    rw [h1] at CA HS
    have HA := Lib.hid CA
    cases h2 : readyO b.data.toList true with
    | none =>
      rw [h2] at CB HS
      have HB := Lib.hid CB
      clear h1 h2 CA CB
      go_enter Tryd.func18, Tryd.ntmps18
      go_wp2_with fail
      refine HA.out.mono ?_
      rintro e w1 ⟨rfl, hB1⟩
      have HB1 := Lib.hid (HB.out w1 hB1)
      unfold pairV
      go_wp2_with fail
      refine HB1.out.mono ?_
      rintro e w2 ⟨rfl, hB2⟩
      unfold pairV
      go_wp2_with fail
      go_ret
      exact ⟨by rw [HS.out]; rfl, hB1.trans (hB2.mono hB1.size)⟩
    | some u =>
      rw [h2] at CB HS
      by_cases htu : t = u
      · subst htu
        rw [pairV_some] at CA CB
        generalize (⟨t.toArray⟩ : ByteArray) = tb at CA CB
        have HA := Lib.hid CA
        have HB := Lib.hid CB
        clear h1 h2 CA CB
        go_enter Tryd.func18, Tryd.ntmps18
        go_wp2_with fail
        refine HA.out.mono ?_
        rintro e w1 ⟨rfl, hB1⟩
        have HB1 := Lib.hid (HB.out w1 hB1)
        go_wp2_with fail
        refine HB1.out.mono ?_
        rintro e w2 ⟨rfl, hB2⟩
        go_wp2_with fail
        go_ret
        exact ⟨by rw [HS.out]; simp, hB1.trans (hB2.mono hB1.size)⟩
      · have hne : (⟨t.toArray⟩ : ByteArray) ≠ ⟨u.toArray⟩ := by
          intro e
          apply htu
          have := congrArg (fun x : ByteArray => x.data.toList) e
          exact this
        rw [pairV_some] at CA CB
        generalize (⟨t.toArray⟩ : ByteArray) = tb at CA hne
        generalize (⟨u.toArray⟩ : ByteArray) = ub at CB hne
        have g1 : (tb.toList == ub.toList) = false := by
          rw [beq_eq_false_iff_ne]
          intro e
          apply hne
          apply kt.str_eq
          rw [← Lib.toList_data, ← Lib.toList_data, e]
        have HA := Lib.hid CA
        have HB := Lib.hid CB
        have HTU := Lib.hid htu
        clear h1 h2 CA CB htu hne
        go_enter Tryd.func18, Tryd.ntmps18
        go_wp2_with fail
        refine HA.out.mono ?_
        rintro e w1 ⟨rfl, hB1⟩
        have HB1 := Lib.hid (HB.out w1 hB1)
        go_wp2_with fail
        refine HB1.out.mono ?_
        rintro e w2 ⟨rfl, hB2⟩
        go_wp2_with fail
        go_ret
        exact ⟨by rw [HS.out]; simp [HTU.out], hB1.trans (hB2.mono hB1.size)⟩
end prw
end Go.Proofs.YtbadknkhedjfaaaDoor
