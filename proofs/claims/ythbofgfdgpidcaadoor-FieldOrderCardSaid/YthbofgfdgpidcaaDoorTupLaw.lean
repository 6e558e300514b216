/- The walks of long and of the statement FieldTuples; a list of texts that came in, opened. -/
import Derived.Test.YthbofgfdgpidcaaDoorTupR
import Derived.Test.YthbofgfdgpidcaaDoorPartLaw
import Derived.SliceStrings
namespace Go.Proofs.YthbofgfdgpidcaaDoor
open Go.RowKit
namespace tupr
open tupw prt
theorem cell_spot {w : World} {b o : Nat} {sp : Option Nat} {v : Value} (h : w.cell? ⟨b, o, sp⟩ = some v) : sp = none := by
  cases sp with
  | none => rfl
  | some x =>
    unfold World.cell? at h
    simp at h
    split at h <;> cases h
/-- a list of texts that came in -/
theorem texts_of {H : Type} {enc : TypeId × Value → H} {P : Program} {w : World} {base : Nat} {sp : Nat → Bool} {held : Bool} {t e : TypeId} {d : DataW H} {p : List MemPlace} {ao : Option Addr} {len cap : Nat}
    (ht : P.underlying t = some (.slice e)) (he : P.underlying e = some .string) (hc : P.cellsOf e = 1)
    (h : ∃ fuel, DataW.trod enc P w base sp held fuel t [.slice ao len cap] = some (d, p)) : ∃ l : List ByteArray, len = l.length ∧ Strs w ao l ∧ (∀ s ∈ l, s.size ≤ maxLen) ∧ len ≤ maxLen ∧ len ≤ cap ∧ (ao = none → len = 0 ∧ cap = 0) := by
  obtain ⟨fuel, h⟩ := h
  rcases ChangeShapes.open_strings ht he hc h with ⟨hcs, _⟩ | ⟨a, len', cap', ss, hcs, _, hlc, hcm, hlen, _, hcell, hsm⟩
  · simp at hcs
    obtain ⟨rfl, rfl, rfl⟩ := hcs
    exact ⟨[], rfl, fun i hi => by simp at hi, fun s hs => by simp at hs, by omega, by omega, fun _ => ⟨rfl, rfl⟩⟩
  · simp at hcs
    obtain ⟨rfl, rfl, rfl⟩ := hcs
    have hle : len ≤ ss.length := by rw [hlen]; split <;> omega
    refine ⟨ss.take len, by simp; omega, fun i hi => ?_, fun s hs => hsm s (List.mem_of_mem_take hs), by omega, hlc, fun e => by simp at e⟩
    have hi' : i < len := by simp at hi; omega
    have hc2 := hcell i (by omega)
    obtain ⟨b, o, spt⟩ := a
    have hsp : spt = none := by
      cases spt with
      | none => rfl
      | some x =>
        exfalso
        have hz := hcell 0 (by omega)
        have e0 : (⟨b, o, some x⟩ : Addr).add 0 = ⟨b, o, some x⟩ := by unfold Addr.add; rfl
        rw [e0] at hz
        exact absurd (cell_spot hz) (by simp)
    subst hsp
    refine ⟨b, o, rfl, ?_⟩
    rw [Addr.add_mid] at hc2
    rw [hc2, List.getElem_take]
    simp [List.getD, List.getElem?_eq_getElem (show i < ss.length by omega)]

theorem take_small {l : List ByteArray} {i : Nat} (h : i < l.length) (h1 : ∀ p ∈ l.take i, p.size ≤ 9000) (h2 : l[i].size ≤ 9000) : ∀ p ∈ l.take (i + 1), p.size ≤ 9000 := by
  rw [List.take_succ_eq_append_getElem h]
  intro p hp
  rcases List.mem_append.1 hp with h' | h'
  · exact h1 p h'
  · rw [List.mem_singleton.1 h']; exact h2
/-- what long answers -/
def LongAns (l : List ByteArray) (e : Ending) : Prop := ∃ b : Bool, e = .returned (.bool b) ∧ (b = false → l.length ≤ 40 ∧ ∀ p ∈ l, p.size ≤ 9000)
set_option maxHeartbeats 1000000 in
theorem long_any (ao : Option Addr) (cap : Nat) (l : List ByteArray) (w : World) (hl : Hid (Strs w ao l)) (hm : Hid (∀ p ∈ l, p.size ≤ maxLen)) (hlen : l.length ≤ maxLen) :
    Calls Tryd.prog 13 #[.slice ao l.length cap] w fun e w' => LongAns l e ∧ Below w.heap.size w w' := by
  unfold maxLen at hlen
  go_enter Tryd.func13, Tryd.ntmps13
  go_wp2_with fail
  go_loopw [3, 4] (fun nv iv wr => ∃ (i N : Nat), i ≤ l.length ∧ i ≤ 40 ∧ iv = .int .i64 i ∧ nv = .int .i64 N ∧ N ≤ 18001 ∧ Hid (N ≤ 9000 → ∀ p ∈ l.take i, p.size ≤ 9000) ∧ Below w.heap.size w wr) (fun _ iv _ => 40 - (intOf iv).toNat)
  case atStart => exact ⟨0, 0, Nat.zero_le _, by omega, rfl, rfl, by omega, fun _ p hp => by simp at hp, Below.refl _ _⟩
  case round =>
    obtain ⟨i, N, hi, hi40, rfl, rfl, hN, hS, hB⟩ := hrel
    by_cases c1 : i < l.length
    · have c1' : (i : Int) < (l.length : Int) := by omega
      by_cases c2 : i < 40
      · have c2' : (i : Int) < 40 := by omega
        by_cases c3 : N ≤ 9000
        · have c3' : (N : Int) ≤ 9000 := by omega
          obtain ⟨p, hp⟩ : ∃ p : ByteArray, Hid (p = l[i]'c1) := ⟨l[i]'c1, rfl⟩
          have hpm : p.size ≤ maxLen := by rw [hp.out]; exact hm.out _ (List.getElem_mem c1)
          unfold maxLen at hpm
          obtain ⟨bl, of, hao, hc0⟩ := hl.out i c1
          have hc := (hB.cell (World.block_lt_of_cell? w _ hc0)).trans hc0
          rw [← hp.out] at hc
          clear hc0
          subst hao
          obtain ⟨M, hM⟩ : ∃ M : Nat, Hid (M = N + min p.size 9001) := ⟨_, rfl⟩
          have eM : (N : Int) + min (p.size : Int) 9001 = (M : Int) := by rw [hM.out]; omega
          have hMb : M ≤ 18001 := by rw [hM.out]; omega
          have hS2 : Hid (M ≤ 9000 → ∀ p ∈ l.take (i + 1), p.size ≤ 9000) := by
            intro hh
            rw [hM.out] at hh
            exact take_small c1 (hS.out (by omega)) (by rw [← hp.out]; omega)
          go_wp2_with fail
          go_roundw
          case rel => exact ⟨i + 1, M, by omega, by omega, by go_num, by go_num, hMb, hS2, hB⟩
          case measure => simp [intOf]; omega
        · have c3' : ¬ (N : Int) ≤ 9000 := by omega
          have c4' : 9000 < (N : Int) := by omega
          by_cases c5 : 40 < l.length
          · have c5' : 40 < (l.length : Int) := by omega
            go_wp2_with fail
            go_ret
            exact ⟨⟨true, rfl, fun h => by cases h⟩, hB⟩
          · have c5' : ¬ 40 < (l.length : Int) := by omega
            go_wp2_with fail
            go_ret
            exact ⟨⟨true, rfl, fun h => by cases h⟩, hB⟩
      · obtain rfl : i = 40 := by omega
        have c5' : 40 < (l.length : Int) := by omega
        go_wp2_with fail
        go_ret
        exact ⟨⟨true, rfl, fun h => by cases h⟩, hB⟩
    · obtain rfl : i = l.length := by omega
      have c1' : ¬ (l.length : Int) < (l.length : Int) := by omega
      have c5' : ¬ 40 < (l.length : Int) := by omega
      by_cases c3 : N ≤ 9000
      · have c3' : ¬ 9000 < (N : Int) := by omega
        have hh : Hid (l.length ≤ 40 ∧ ∀ p ∈ l, p.size ≤ 9000) := by
          have := hS.out c3
          rw [List.take_of_length_le (Nat.le_refl _)] at this
          exact ⟨hi40, this⟩
        go_wp2_with fail
        go_ret
        exact ⟨⟨false, rfl, fun _ => hh.out⟩, hB⟩
      · have c3' : 9000 < (N : Int) := by omega
        go_wp2_with fail
        go_ret
        exact ⟨⟨true, rfl, fun h => by cases h⟩, hB⟩
/-- what a list's tuple reads as -/
theorem out_cases (l : List ByteArray) : (∃ er : Int, tup.out l = (⟨#[]⟩, er) ∧ ¬ er = 0) ∨ (tup.out l = (⟨(tup.bytes l).toArray⟩, 0) ∧ tup.parts (tup.bytes l) = some l ∧ (tup.bytes l).length ≤ 4096 ∧ l.length ≤ 16) := by
  by_cases h1 : 16 < l.length
  · exact Or.inl ⟨1, by unfold tup.out; rw [if_pos h1], by decide⟩
  · by_cases h2 : 4096 < (tup.bytes l).length
    · exact Or.inl ⟨5, by unfold tup.out; rw [if_neg h1, if_pos h2], by decide⟩
    · exact Or.inr ⟨by unfold tup.out; rw [if_neg h1, if_neg h2], (tup.parts_some _ _).2 ⟨rfl, by omega, by omega⟩, by omega, by omega⟩
set_option maxHeartbeats 1000000 in
theorem tuples_any (ao : Option Addr) (cap : Nat) (l : List ByteArray) (w : World) (hE : Hid (trm.Env w)) (hl : Hid (Strs w ao l)) (hm : Hid (∀ p ∈ l, p.size ≤ maxLen)) (hlen : l.length ≤ maxLen) :
    Calls Tryd.prog 5 #[.slice ao l.length cap] w fun e w' => e = .returned (.bool true) ∧ Below w.heap.size w w' := by
  go_enter Tryd.func5, Tryd.ntmps5
  go_wp2_with fail
  refine (awk.awake_true w hE).mono ?_
  rintro e w1 ⟨rfl, hB1⟩
  have hs1 := hB1.size
  go_wp2_with fail
  refine (long_any ao cap l w1 (Lib.hid (strs_below hl.out hB1)) hm hlen).mono ?_
  rintro e w2 ⟨⟨b, rfl, hb⟩, hB2⟩
  have hB12 := hB1.trans (hB2.mono hs1)
  have hs2 := hB12.size
  have hb2 := Lib.hid hb
  clear hb
  cases b with
  | true =>
    go_wp2_with fail
    go_ret
    exact ⟨rfl, hB12⟩
  | false =>
    obtain ⟨hl40, hl9⟩ := hb2.out rfl
    have T1 := Lib.hid (tuple_any ao cap l w2 (Lib.hid (trm.env_below hE.out hB12)) (Lib.hid (strs_below hl.out hB12)))
    have T2 := Lib.hid (fun w3 (h : Below w.heap.size w w3) => rtuple_any ao cap l w3 (Lib.hid (strs_below hl.out h)) (Lib.hid (fun p hp => Nat.le_trans (hl9 p hp) (by omega))))
    have P1 := fun s w3 (h : Below w.heap.size w w3) hs => parts_any s w3 hs (Lib.hid (trm.env_below hE.out h))
    unfold tupV at T1 T2
    rcases out_cases l with ⟨er, ho, hne⟩ | ⟨ho, hp, h4, h16⟩
    · rw [ho] at T1 T2
      simp only at T1 T2
      have her : (er == 0) = false := by simpa using hne
      clear ho hne P1 hl9
      go_wp2_with fail
      refine T1.out.mono ?_
      rintro e w3 ⟨rfl, hB3⟩
      have hB13 := hB12.trans (hB3.mono hs2)
      go_wp2_with fail
      refine (T2.out w3 hB13).mono ?_
      rintro e w4 ⟨rfl, hB4⟩
      go_wp2_with fail
      go_ret
      exact ⟨rfl, hB13.trans (hB4.mono hB13.size)⟩
    · obtain ⟨X, hX⟩ : ∃ X : ByteArray, Hid (X = ⟨(tup.bytes l).toArray⟩) := ⟨_, rfl⟩
      rw [ho, ← hX.out] at T1 T2
      simp only at T1 T2
      have hXd : X.data.toList = tup.bytes l := by rw [hX.out]
      rw [← hXd] at hp
      have hXs : X.size ≤ 4096 := by rw [← kt.size_len, hXd]; exact h4
      have PX := P1 X
      rw [hp] at PX
      have HP := Lib.hid PX
      clear ho P1 hl9 hp h4 hXd PX
      go_wp2_with fail
      refine T1.out.mono ?_
      rintro e w3 ⟨rfl, hB3⟩
      have hB13 := hB12.trans (hB3.mono hs2)
      go_wp2_with fail
      refine (T2.out w3 hB13).mono ?_
      rintro e w4 ⟨rfl, hB4⟩
      have hB14 := hB13.trans (hB4.mono hB13.size)
      go_wp2_with fail
      refine (HP.out w4 hB14 (by omega)).mono ?_
      rintro e w5 ⟨v, rfl, ⟨sv, rfl, hO⟩, hB5⟩
      have hB15 := hB14.trans (hB5.mono hB14.size)
      obtain ⟨a2, c2, rfl, hS2⟩ := own_strs hO
      have S := Lib.hid (same.same_any ao a2 cap c2 l l w5 (Lib.hid (strs_below hl.out hB15)) hS2 (by omega))
      rw [show decide (l = l) = true from decide_eq_true rfl] at S
      clear hO hS2
      go_wp2_with fail
      refine S.out.mono ?_
      rintro e w6 ⟨rfl, hB6⟩
      go_wp2_with fail
      go_ret
      exact ⟨rfl, hB15.trans (hB6.mono hB15.size)⟩
end tupr
end Go.Proofs.YthbofgfdgpidcaaDoor
