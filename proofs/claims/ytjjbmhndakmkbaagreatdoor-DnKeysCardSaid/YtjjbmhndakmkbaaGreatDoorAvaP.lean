/- Names: pairs, relative names, names, and where they lie; what may be one. The walks of rightValue and the reference's Value. -/
import Derived.Test.YtjjbmhndakmkbaaGreatDoorValueW
import Derived.Test.YtjjbmhndakmkbaaGreatDoorReadyW
namespace Go.Proofs.YtjjbmhndakmkbaaGreatDoor
open Go.RowKit
namespace dnw
open dnp
set_option linter.unusedVariables false
set_option linter.unusedSimpArgs false
/-- a pair: type and value -/
structure Av where
  t : ByteArray
  v : ByteArray
/-- where pairs lie -/
def Avas (w : World) (ao : Option Addr) (l : List Av) : Prop := ∀ i (hi : i < l.length), ∃ b o, ao = some ⟨b, o, none⟩ ∧ w.cell? ⟨b, o + i * 2, none⟩ = some (.string l[i].t) ∧ w.cell? ⟨b, o + i * 2 + 1, none⟩ = some (.string l[i].v)
theorem avas_below {w w' : World} {ao : Option Addr} {l : List Av} (h : Avas w ao l) (hb : Below w.heap.size w w') : Avas w' ao l := by
  intro i hi
  obtain ⟨b, o, h1, h2, h3⟩ := h i hi
  exact ⟨b, o, h1, (hb.cell (World.block_lt_of_cell? w _ h2)).trans h2, (hb.cell (World.block_lt_of_cell? w _ h3)).trans h3⟩
/-- where relative names lie -/
def Rdns (w : World) (ao : Option Addr) (n : List (List Av)) : Prop := ∀ i (hi : i < n.length), ∃ b o ao' cap', ao = some ⟨b, o, none⟩ ∧ w.cell? ⟨b, o + i, none⟩ = some (.slice ao' n[i].length cap') ∧ n[i].length ≤ cap' ∧ Avas w ao' n[i]
theorem rdns_below {w w' : World} {ao : Option Addr} {n : List (List Av)} (h : Rdns w ao n) (hb : Below w.heap.size w w') : Rdns w' ao n := by
  intro i hi
  obtain ⟨b, o, ao', cap', h1, h2, h3, h4⟩ := h i hi
  exact ⟨b, o, ao', cap', h1, (hb.cell (World.block_lt_of_cell? w _ h2)).trans h2, h3, avas_below h4 hb⟩
/-- may it be a value? -/
def valOK (v : List UInt8) : Bool := decide (v.length ≤ 255) && match prp.readyO v true with
  | none => false
  | some t => decide (t ≠ [])
theorem valOK_long {v : ByteArray} (h : ¬ v.size ≤ 255) : false = valOK v.data.toList := by
  unfold valOK
  rw [decide_eq_false (by rw [kt.size_len]; exact h)]; rfl
theorem valOK_none {v : ByteArray} (h : prp.readyO v.data.toList true = none) : false = valOK v.data.toList := by
  unfold valOK
  rw [h]; simp
theorem valOK_some {v : ByteArray} {t : List UInt8} (hl : v.size ≤ 255) (h : prp.readyO v.data.toList true = some t) : decide (t ≠ []) = valOK v.data.toList := by
  unfold valOK
  have h2 : decide (v.data.toList.length ≤ 255) = true := by rw [decide_eq_true_iff, kt.size_len]; exact hl
  rw [h, h2]; simp
set_option maxRecDepth 20000 in
set_option maxHeartbeats 1000000 in
theorem rightValue_any (s : ByteArray) (w : World) (hs : s.size ≤ 1000000) (hE : Hid (prw.Env w)) : Calls Tryz.prog 39 #[.string s] w fun e w' => e = .returned (.bool (valOK s.data.toList)) ∧ Below w.heap.size w w' := by
  have CR := prw.ready_any s true w hs hE
  by_cases hl : s.size ≤ 255
  · have hl' : (s.size : Int) ≤ 255 := by omega
    cases hr : prp.readyO s.data.toList true with
    | none =>
      rw [hr] at CR
      have HR := Lib.hid CR
      have HN := Lib.hid (valOK_none hr)
      clear CR hr
      go_enter Tryz.func39, Tryz.ntmps39
      go_wp2_with fail
      refine HR.out.mono ?_
      rintro e w1 ⟨rfl, hB1⟩
      unfold prw.pairV
      go_wp2_with fail
      go_ret
      exact ⟨kt.ret_bool HN.out, hB1⟩
    | some t =>
      rw [hr, prw.pairV_some] at CR
      have HN := Lib.hid (valOK_some hl hr)
      obtain ⟨ta, hta⟩ : ∃ ta : ByteArray, ta = ⟨t.toArray⟩ := ⟨_, rfl⟩
      have htd : ta.data.toList = t := by rw [hta]
      rw [← hta] at CR
      have HR := Lib.hid CR
      clear CR hr hta
      by_cases ht : t = []
      · subst ht
        obtain rfl : ta = ⟨#[]⟩ := kt.str_eq htd
        clear htd
        go_enter Tryz.func39, Tryz.ntmps39
        go_wp2_with fail
        refine HR.out.mono ?_
        rintro e w1 ⟨rfl, hB1⟩
        go_wp2_with fail
        go_ret
        exact ⟨kt.ret_bool HN.out, hB1⟩
      · have g1 : (ta.toList == []) = false := by rw [beq_eq_false_iff_ne, Lib.toList_data, htd]; exact ht
        have g2 : ¬ ta.toList = [] := by simpa using g1
        have HN' : Hid (true = valOK s.data.toList) := by
          have := HN.out
          rw [decide_eq_true ht] at this
          exact this
        clear htd ht
        go_enter Tryz.func39, Tryz.ntmps39
        go_wp2_with fail
        refine HR.out.mono ?_
        rintro e w1 ⟨rfl, hB1⟩
        go_wp2_with fail
        go_ret
        exact ⟨kt.ret_bool HN'.out, hB1⟩
  · have hl' : decide ((s.size : Int) ≤ 255) = false := by rw [decide_eq_false_iff_not]; omega
    have HN := Lib.hid (valOK_long hl)
    have pv : ∀ o : Option (List UInt8), ∃ (t : ByteArray) (er : Int), prw.pairV o = .tuple #[.string t, .int .i64 er] := fun o => by cases o <;> exact ⟨_, _, rfl⟩
    obtain ⟨t1, e1, h1⟩ := pv (prp.readyO s.data.toList true)
    rw [h1] at CR
    have HR := Lib.hid CR
    clear CR h1 pv hl
    go_enter Tryz.func39, Tryz.ntmps39
    go_wp2_with fail
    refine HR.out.mono ?_
    rintro e w1 ⟨rfl, hB1⟩
    go_wp2_with fail
    go_ret
    exact ⟨kt.ret_bool HN.out, hB1⟩
set_option maxRecDepth 20000 in
set_option maxHeartbeats 1000000 in
theorem rvalue_any (s : ByteArray) (w : World) (hs : s.size ≤ 1000000) : Calls Tryz.prog 32 #[.string s] w fun e w' => e = .returned (.bool (valOK s.data.toList)) ∧ Below w.heap.size w w' := by
  have CR := prw.rready_any s true w hs
  by_cases hl : s.size ≤ 255
  · have hl' : (s.size : Int) ≤ 255 := by omega
    cases hr : prp.readyO s.data.toList true with
    | none =>
      rw [hr] at CR
      have HR := Lib.hid CR
      have HN := Lib.hid (valOK_none hr)
      clear CR hr
      go_enter Tryz.func32, Tryz.ntmps32
      go_wp2_with fail
      refine HR.out.mono ?_
      rintro e w1 ⟨rfl, hB1⟩
      unfold prw.pairV
      go_wp2_with fail
      go_ret
      exact ⟨kt.ret_bool HN.out, hB1⟩
    | some t =>
      rw [hr, prw.pairV_some] at CR
      have HN := Lib.hid (valOK_some hl hr)
      obtain ⟨ta, hta⟩ : ∃ ta : ByteArray, ta = ⟨t.toArray⟩ := ⟨_, rfl⟩
      have htd : ta.data.toList = t := by rw [hta]
      have hts : ta.size = t.length := by rw [← kt.size_len, htd]
      rw [← hta] at CR
      have HR := Lib.hid CR
      clear CR hr hta
      by_cases ht : t = []
      · subst ht
        obtain rfl : ta = ⟨#[]⟩ := kt.str_eq htd
        clear htd hts
        go_enter Tryz.func32, Tryz.ntmps32
        go_wp2_with fail
        refine HR.out.mono ?_
        rintro e w1 ⟨rfl, hB1⟩
        go_wp2_with fail
        go_ret
        exact ⟨kt.ret_bool HN.out, hB1⟩
      · have hp : Hid (0 < ta.size) := by
          have := List.length_pos_iff.2 ht
          show 0 < _
          omega
        have HN' : Hid (true = valOK s.data.toList) := by
          have := HN.out
          rw [decide_eq_true ht] at this
          exact this
        clear htd ht hts
        go_enter Tryz.func32, Tryz.ntmps32
        go_wp2_with fail
        refine HR.out.mono ?_
        rintro e w1 ⟨rfl, hB1⟩
        go_wp2_with fail
        go_ret
        exact ⟨kt.ret_bool ((decide_eq_true hp.out).trans HN'.out), hB1⟩
  · have hl' : decide ((s.size : Int) ≤ 255) = false := by rw [decide_eq_false_iff_not]; omega
    have HN := Lib.hid (valOK_long hl)
    have pv : ∀ o : Option (List UInt8), ∃ (t : ByteArray) (er : Int), prw.pairV o = .tuple #[.string t, .int .i64 er] := fun o => by cases o <;> exact ⟨_, _, rfl⟩
    obtain ⟨t1, e1, h1⟩ := pv (prp.readyO s.data.toList true)
    rw [h1] at CR
    have HR := Lib.hid CR
    clear CR h1 pv hl
    go_enter Tryz.func32, Tryz.ntmps32
    go_wp2_with fail
    refine HR.out.mono ?_
    rintro e w1 ⟨rfl, hB1⟩
    go_wp2_with fail
    go_ret
    exact ⟨kt.ret_bool HN.out, hB1⟩
end dnw
end Go.Proofs.YtjjbmhndakmkbaaGreatDoor
