/- The walks of first and of Parse. -/
import Derived.Test.YtifplgnabkkbjaaDoorParseW
namespace Go.Proofs.YtifplgnabkkbjaaDoor
open Go.RowKit
namespace ldw
open ldp
set_option linter.unusedVariables false
set_option linter.unusedSimpArgs false
/-- the number that first tells -/
def firstL (o : Nat ⊕ List Rec) : Nat := match o with
  | .inl j => j
  | .inr _ => 0
set_option maxRecDepth 20000 in
set_option maxHeartbeats 4000000 in
theorem first_any (v : Value) (s : ByteArray) (k : Nat) (w : World) (hs : s.size ≤ 20000) (hk : (rowsP [] 0 (raw s.data.toList)).2 = some k) :
    Calls Tryd.prog 9 #[v, .string s, .int .i64 (k : Int)] w fun e w' => e = .returned (.int .i64 (firstL (foldL 0 [] false (rowsP [] 0 (raw s.data.toList)).1) : Nat)) ∧ Below w.heap.size w w' := by
  have hall := rowsP_all 20000 (raw s.data.toList) [] 0 (fun x hx => by cases hx) (by have := raw_sum _ s.data.toList (Nat.le_refl _); rw [kt.size_len] at this; omega)
  have hlen0 := raw_len _ s.data.toList (Nat.le_refl _)
  rw [kt.size_len] at hlen0
  obtain ⟨_, _, hR3⟩ := hall
  have hk1 := hR3 k hk
  obtain ⟨m, rfl⟩ : ∃ m, k = m + 1 := ⟨k - 1, by omega⟩
  have hm : m < (raw s.data.toList).length := by omega
  have hmb : m ≤ 20000 := by omega
  have htk := (rowsP_take (raw s.data.toList) [] 0 (m + 1) hk).2
  rw [show m + 1 - 1 - 0 = m from by omega, ← raw_take m s.data.toList hm] at htk
  obtain ⟨hdr, hpl⟩ := raw_drop m s.data.toList hm
  rw [kt.size_len] at hpl
  obtain ⟨P, hP⟩ : ∃ P, P = posN m s.data.toList := ⟨_, rfl⟩
  rw [← hP] at hpl htk
  obtain ⟨t, ht⟩ : ∃ t, s.extract 0 P = t := ⟨_, rfl⟩
  have htd : t.data.toList = s.data.toList.take P := by rw [← ht, Lib.extract_data]; simp
  have hts : t.size ≤ 20000 := by rw [← kt.size_len, htd, List.length_take, kt.size_len]; omega
  rw [← htd] at htk
  have HPK : Hid (∀ w, Calls Tryd.prog 5 #[.string t] w (ParseE (foldL 0 [] false (rowsP [] 0 (raw s.data.toList)).1) w)) := by
    intro w
    have h := parse_ok t w hts (by rw [htk])
    rw [htk] at h
    exact h
  have HPOS := Lib.hid hP
  have HM := Lib.hid hm
  clear hk hR3 hk1 hlen0 hdr htd htk hP hm
  have i0 : IntKind.i64.wrap ((m + 1 : Nat) : Int) = (m : Int) + 1 := by rw [show ((m + 1 : Nat) : Int) = (m : Int) + 1 from by omega]; exact IntWalk.i64_in _ (by omega)
  obtain ⟨kv, hkv⟩ : ∃ kv : Int, kv = ((m + 1 : Nat) : Int) := ⟨_, rfl⟩
  rw [← hkv] at i0 ⊢
  have hk2 : kv = (m : Int) + 1 := by omega
  subst hk2
  clear hkv i0
  go_enter Tryd.func9, Tryd.ntmps9
  go_wp2_with fail
  go_loop [7, 13] (fun av jv => ∃ (j p : Nat), j ≤ m ∧ jv = .int .i64 (j : Int) ∧ av = .int .i64 (p : Int) ∧ p ≤ s.size ∧ Hid (p = posN j s.data.toList)) (fun _ jv => m - (intOf jv).toNat)
  case atStart => exact ⟨0, 0, Nat.zero_le _, rfl, rfl, Nat.zero_le _, rfl⟩
  case round =>
    obtain ⟨j, p, hj, rfl, rfl, hps, hp⟩ := hrel
    by_cases hjm : j < m
    · obtain ⟨A, R, hA, hA10, hpos⟩ := posN_succ j s.data.toList (by have := HM.out; omega)
      rw [← hp.out] at hA hpos
      obtain ⟨x, hx⟩ : ∃ x, s.extract p s.size = x := ⟨_, rfl⟩
      have hxd : x.data.toList = A ++ 10 :: R := by rw [← hx, Lib.extract_to_end, hA]
      obtain ⟨n, hn⟩ : ∃ n, n = A.length := ⟨_, rfl⟩
      have hpn : p + n + 1 ≤ s.size := by
        have := congrArg List.length hA
        rw [List.length_drop, kt.size_len] at this
        simp at this
        omega
      rw [← hn] at hpos
      have HPN : Hid (p + n + 1 = posN (j + 1) s.data.toList) := hpos.symm
      have HIX : Hid (∀ w, Calls Tryd.prog 19 #[.string x, .int .u8 10] w fun e w' => e = .returned (.int .i64 (n : Int)) ∧ w = w') := by
        intro w
        refine (Tryd.strings_IndexByte x 10 w).mono ?_
        rintro e w' ⟨rfl, rfl⟩
        refine ⟨?_, rfl⟩
        rw [hxd, show (10 : Int).toNat.toUInt8 = (10 : UInt8) from rfl, ix_hit hA10, hn]
      have hps' : (p : Int) ≤ (s.size : Int) := by omega
      clear hA hA10 hpos hxd hn
      go_wp2_with fail
      refine (HIX.out _).mono ?_
      rintro e w2 ⟨rfl, rfl⟩
      go_wp2_with fail
      go_round
      case rel => exact ⟨j + 1, p + n + 1, by omega, by go_num, by go_num, by omega, HPN⟩
      case measure => simp [intOf]; omega
    · obtain rfl : j = m := by omega
      obtain rfl : p = P := by rw [hp.out, HPOS.out]
      have hps' : (p : Int) ≤ (s.size : Int) := by omega
      go_wp2_with fail
      refine (HPK.out _).mono ?_
      intro e w2 hE
      cases ho : foldL 0 [] false (rowsP [] 0 (raw s.data.toList)).1 with
      | inl q =>
        rw [ho] at hE
        obtain ⟨hB, rfl⟩ := hE
        have HB := Lib.hid hB
        have HO := Lib.hid ho
        clear ho hB
        go_wp2_with fail
        go_ret
        exact ⟨by rw [HO.out]; rfl, HB.out⟩
      | inr recs =>
        rw [ho] at hE
        obtain ⟨hB, ao, n, cap, l, rfl, _, _⟩ := hE
        have HB := Lib.hid hB
        have HO := Lib.hid ho
        clear ho hB
        go_wp2_with fail
        go_ret
        exact ⟨by rw [HO.out]; rfl, HB.out⟩
theorem parseL_alike (l : List UInt8) : parseL l = match (rowsP [] 0 (raw l)).2 with
    | none => foldL 0 [] false (rowsP [] 0 (raw l)).1
    | some k => match foldL 0 [] false (rowsP [] 0 (raw l)).1 with
      | .inl j => .inl j
      | .inr _ => .inl k := parse_alike pairL isDn skipL (raw l)
set_option maxRecDepth 20000 in
set_option maxHeartbeats 4000000 in
/-- what Parse computes -/
theorem parse_any (s : ByteArray) (w : World) (hs : s.size ≤ 20000) : Calls Tryd.prog 5 #[.string s] w (ParseE (parseL s.data.toList) w) := by
  cases hst : (rowsP [] 0 (raw s.data.toList)).2 with
  | none =>
    have h := parse_ok s w hs hst
    have e := parseL_alike s.data.toList
    rw [hst] at e
    simp only at e
    rw [e]
    exact h
  | some k =>
    have e := parseL_alike s.data.toList
    rw [hst] at e
    simp only at e
    have hpos : ∀ j, foldL 0 [] false (rowsP [] 0 (raw s.data.toList)).1 = .inl j → 0 < j := by
      intro j hj
      refine foldL_pos _ 0 [] false j ?_ hj
      intro x hx
      exact ((rowsP_all 20000 (raw s.data.toList) [] 0 (fun x hx => by cases hx) (by have := raw_sum _ s.data.toList (Nat.le_refl _); rw [kt.size_len] at this; omega)).2.1 x hx).2.1
    have HL : Hid (∀ w, Calls Tryd.prog 8 #[.string s] w fun e w' => e = .returned (.tuple #[.slice none 0 0, .int .i64 (k : Int), .bool false]) ∧ Below w.heap.size w w') := by
      intro w
      refine (lines_any s w hs).mono ?_
      intro e w' h
      have h2 := h.2
      rw [hst] at h2
      exact ⟨h2, h.1⟩
    have hF := fun w => first_any (.slice none 0 0) s k w hs hst
    have hsI : (s.size : Int) ≤ 100000 := by omega
    cases ho : foldL 0 [] false (rowsP [] 0 (raw s.data.toList)).1 with
    | inl j =>
      rw [ho] at e hF
      have hj := hpos j ho
      have hjI : (0 : Int) < (j : Int) := by omega
      have HF : Hid (∀ w, Calls Tryd.prog 9 #[.slice none 0 0, .string s, .int .i64 (k : Int)] w fun e w' => e = .returned (.int .i64 (j : Int)) ∧ Below w.heap.size w w') := hF
      have HE := Lib.hid e
      clear e hpos ho hF hst hj
      go_enter Tryd.func5, Tryd.ntmps5
      go_wp2_with fail
      refine (HL.out _).mono ?_
      rintro e w1 ⟨rfl, hB1⟩
      have HB1 := Lib.hid hB1
      clear hB1
      go_wp2_with fail
      refine (HF.out _).mono ?_
      rintro e w2 ⟨rfl, hB2⟩
      have HB2 := Lib.hid (HB1.out.trans (hB2.mono HB1.out.size))
      clear hB2
      go_wp2_with fail
      go_ret3
      exact parseE_err HE.out HB2.out
    | inr recs =>
      rw [ho] at e hF
      have HF : Hid (∀ w, Calls Tryd.prog 9 #[.slice none 0 0, .string s, .int .i64 (k : Int)] w fun e w' => e = .returned (.int .i64 0) ∧ Below w.heap.size w w') := hF
      have HE := Lib.hid e
      clear e hpos ho hF hst
      go_enter Tryd.func5, Tryd.ntmps5
      go_wp2_with fail
      refine (HL.out _).mono ?_
      rintro e w1 ⟨rfl, hB1⟩
      have HB1 := Lib.hid hB1
      clear hB1
      go_wp2_with fail
      refine (HF.out _).mono ?_
      rintro e w2 ⟨rfl, hB2⟩
      have HB2 := Lib.hid (HB1.out.trans (hB2.mono HB1.out.size))
      clear hB2
      go_wp2_with fail
      go_ret3
      exact parseE_err HE.out HB2.out
end ldw
end Go.Proofs.YtifplgnabkkbjaaDoor
