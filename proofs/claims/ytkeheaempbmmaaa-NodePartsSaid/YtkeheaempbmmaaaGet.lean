/- The walks of get, of the reference's At, of long. -/
import Derived.Test.YtkeheaempbmmaaaCnt
namespace Go.Proofs.Ytkeheaempbmmaaa
open Go.RowKit
namespace nod
open fldw
/-- what get answers -/
def getP (leaf : Bool) (s : List UInt8) (i : Nat) : Cel × Bool := match fld.take s (2 + 2 * (i : Int)) 2 with
  | .error _ => (⟨⟨#[]⟩, ⟨#[]⟩, 0, 0, 0⟩, false)
  | .ok n => uncellP leaf s n
theorem one5 (w : World) {a b c d e : Value} {t : TypeId} {w1 : World} (hB : Below (w.alloc (.cells #[a, b, c, d, e] t)).heap.size (w.alloc (.cells #[a, b, c, d, e] t)) w1) :
    w1.heap[w.heap.size]? = some (.cells #[a, b, c, d, e] t (0, 0)) ∧ Below w.heap.size w w1 := by
  have s1 := size1 w (.cells #[a, b, c, d, e] t)
  refine ⟨?_, ?_⟩
  · rw [hB.block _ (by omega)]
    exact heap_alloc_last w _
  · exact ((Below.refl _ _).alloc (Nat.le_refl _) _).trans (hB.mono (by omega))
set_option maxHeartbeats 1000000 in
theorem get_any (leaf : Bool) (s : ByteArray) (i : Nat) (w : World) (hs : s.size ≤ 1000000) (hi : i ≤ 1000000) :
    Calls Try.prog 20 #[.bool leaf, .string s, .int .i64 (i : Int)] w fun e w' => e = .returned (.tuple #[(getP leaf s.data.toList i).1.v, .bool (getP leaf s.data.toList i).2]) ∧ Below w.heap.size w w' := by
  obtain ⟨n, er, hv, hnn, her, hnb⟩ := take_form s.data.toList (2 + 2 * (i : Int)) 2 (by omega)
  have K := fun w => take_any s (2 + 2 * (i : Int)) 2 w hs (by omega) (by omega) (by omega) (by omega)
  rw [hv] at K
  have KH := Lib.hid K
  by_cases he : er = 0
  · subst he
    have htk : fld.take s.data.toList (2 + 2 * (i : Int)) 2 = .ok n := by
      cases hk1 : fld.take s.data.toList (2 + 2 * (i : Int)) 2 with
      | error e0 => rw [hk1] at her; cases her
      | ok n0 => rw [hk1] at hnn; rw [hnn]; rfl
    have hg : getP leaf s.data.toList i = uncellP leaf s.data.toList n := by unfold getP; rw [htk]
    rw [hg]
    have wn : IntKind.i64.wrap (n : Int) = (n : Int) := kt.wrap_i64_nat _ (by omega)
    have U := Lib.hid (fun w => uncell_any leaf s (n : Int) w hs (by omega) (by omega))
    generalize uncellP leaf s.data.toList (n : Int) = r at U ⊢
    obtain ⟨⟨k, x, o, z, ch⟩, b⟩ := r
    unfold Cel.v at U ⊢
    dsimp only at U ⊢
    clear K hv her hnn htk hg
    go_enter Try.func20, Try.ntmps20
    go_wp2_with fail
    refine (KH.out _).mono ?_
    rintro e w1 ⟨rfl, hB1⟩
    obtain ⟨o1, hbl⟩ := one5 w hB1
    go_wp2_with fail
    refine (U.out _).mono ?_
    rintro e w2 ⟨rfl, hB2⟩
    have m1 := (hB2.block _ (bld_lt o1)).trans o1
    have hbl2 := hbl.trans (hB2.mono hbl.size)
    obtain ⟨⟨p0, p1, p2, p3, p4⟩, pf⟩ := five m1
    have y0 := pf 0
    have y1 := pf 1
    have y2 := pf 2
    have y3 := pf 3
    have y4 := pf 4
    clear pf o1 m1
    go_wp2_with fail
    refine bodyPost_ret (v := .tuple #[.agg #[.string k, .string x, .int .i64 o, .int .i64 z, .int .i64 ch], .bool b]) ?_ rfl ⟨rfl, ?_⟩
    · rw [results_cell_tmp rfl]
      go_simp
    · exact put5 hbl2 _ _ _ _ _
  · have he' : (er == 0) = false := by simpa using he
    have hg : getP leaf s.data.toList i = (⟨⟨#[]⟩, ⟨#[]⟩, 0, 0, 0⟩, false) := by
      unfold getP
      cases hk1 : fld.take s.data.toList (2 + 2 * (i : Int)) 2 with
      | error e0 => rfl
      | ok n0 =>
        rw [hk1, he'] at her
        cases her
    rw [hg]
    clear K hv her hnn hg he
    go_enter Try.func20, Try.ntmps20
    go_wp2_with fail
    refine (KH.out _).mono ?_
    rintro e w1 ⟨rfl, hB1⟩
    obtain ⟨o1, hbl⟩ := one5 w hB1
    obtain ⟨⟨p0, p1, p2, p3, p4⟩, pf⟩ := five o1
    have y0 := pf 0
    have y1 := pf 1
    have y2 := pf 2
    have y3 := pf 3
    have y4 := pf 4
    clear pf o1
    go_wp2_with fail
    refine bodyPost_ret (v := .tuple #[Cel.v ⟨⟨#[]⟩, ⟨#[]⟩, 0, 0, 0⟩, .bool false]) ?_ rfl ⟨rfl, ?_⟩
    · rw [results_cell_tmp rfl]
      go_simp
      rfl
    · exact put5 hbl _ _ _ _ _
set_option maxHeartbeats 1000000 in
theorem at_any (s : ByteArray) (a k : Int) (w : World) (hs : s.size ≤ 1000000) (hk : k ≤ 4) (h1 : -9223372036854775808 ≤ k) (h2 : -9223372036854775808 ≤ a) (h3 : a ≤ 9223372036854775807) :
    Calls Try.prog 21 #[.string s, .int .i64 a, .int .i64 k] w fun e w' => e = .returned (.int .i64 (num0 (fld.take s.data.toList a k) : Int)) ∧ w = w' := by
  obtain ⟨n, er, hv, hnn, her, hnb⟩ := take_form s.data.toList a k hk
  have K := fun w => rtake_any s a k w hs (by omega) (by omega) (by omega) (by omega)
  rw [hv] at K
  rw [← hnn]
  have KH := Lib.hid K
  have wn : IntKind.i64.wrap (n : Int) = (n : Int) := kt.wrap_i64_nat _ (by omega)
  by_cases he : er = 0
  · subst he
    clear K hv her hnn
    go_enter Try.func21, Try.ntmps21
    go_wp2_with fail
    refine (KH.out _).mono ?_
    rintro e w1 ⟨rfl, rfl⟩
    go_wp2_with fail
    go_ret
    exact ⟨rfl, rfl⟩
  · have he' : (er == 0) = false := by simpa using he
    have hn0 : n = 0 := by
      rw [hnn]
      cases hk1 : fld.take s.data.toList a k with
      | error e0 => rfl
      | ok n0 =>
        rw [hk1, he'] at her
        cases her
    subst hn0
    clear K hv her hnn
    go_enter Try.func21, Try.ntmps21
    go_wp2_with fail
    refine (KH.out _).mono ?_
    rintro e w1 ⟨rfl, rfl⟩
    go_wp2_with fail
    go_ret
    exact ⟨rfl, rfl⟩
/-- what long answers -/
def LongE (l : List Cel) (e : Ending) : Prop := ∃ b : Bool, e = .returned (.bool b) ∧ (b = false → l.length ≤ 200 ∧ ∀ c ∈ l, c.key.size ≤ 300 ∧ c.val.size ≤ 300)
set_option maxRecDepth 20000 in
set_option maxHeartbeats 1000000 in
theorem longl_any (ao : Option Addr) (cap : Nat) (l : List Cel) (w : World) (hl : Hid (Cels w ao l)) (hn : l.length ≤ 9223372036854775807) :
    Calls Try.prog 10 #[.slice ao l.length cap] w fun e w' => LongE l e ∧ Below w.heap.size w w' := by
  go_enter Try.func10, Try.ntmps10
  go_wp2_with fail
  go_loopw [3] (fun iv wr => ∃ i : Nat, i ≤ l.length ∧ i ≤ 200 ∧ iv = .int .i64 i ∧ Hid (∀ c ∈ l.take i, c.key.size ≤ 300 ∧ c.val.size ≤ 300) ∧ Below w.heap.size w wr) (fun iv _ => 200 - (intOf iv).toNat)
  case atStart => exact ⟨0, Nat.zero_le _, Nat.zero_le _, rfl, fun c hc => by simp at hc, Below.refl _ _⟩
  case round =>
    obtain ⟨i, hi, hi2, rfl, hA, hB⟩ := hrel
    by_cases hil : i < l.length
    · by_cases h200 : i < 200
      · have hil' : (i : Int) < (l.length : Int) := by omega
        obtain ⟨c, hc⟩ : ∃ c : Cel, Hid (c = l[i]'hil) := ⟨l[i]'hil, rfl⟩
        obtain ⟨b, o, hao, f0, f1, f2, f3, f4⟩ := (cels_below hl.out hB) i hil
        rw [← hc.out] at f0 f1 f2 f3 f4
        subst hao
        have hsn : l.take (i + 1) = l.take i ++ [c] := by rw [List.take_succ_eq_append_getElem hil, hc.out]
        have HS := Lib.hid hsn
        have HI := Lib.hid hi
        have HN := Lib.hid hn
        have HL := Lib.hid hil
        clear hi hn hsn
        by_cases c1 : 300 < c.key.size
        · have c1' : 300 < (c.key.size : Int) := by omega
          clear c1
          go_wp2_with fail
          go_ret
          exact ⟨⟨true, rfl, fun h => by cases h⟩, hB⟩
        · have c1' : ¬ 300 < (c.key.size : Int) := by omega
          by_cases c2 : 300 < c.val.size
          · have c2' : 300 < (c.val.size : Int) := by omega
            clear c2
            go_wp2_with fail
            go_ret
            exact ⟨⟨true, rfl, fun h => by cases h⟩, hB⟩
          · have c2' : ¬ 300 < (c.val.size : Int) := by omega
            have HC : Hid (c.key.size ≤ 300 ∧ c.val.size ≤ 300) := ⟨by omega, by omega⟩
            clear c1 c2
            go_wp2_with fail
            go_roundw
            case rel => exact ⟨i + 1, HL.out, h200, by go_num, by
              show ∀ x ∈ l.take (i + 1), _
              rw [HS.out]
              intro x hx
              rcases List.mem_append.1 hx with h | h
              · exact hA.out x h
              · simp at h; subst h; exact HC.out, hB⟩
            case measure => simp [intOf]; omega
      · obtain rfl : i = 200 := by omega
        have hil' : (200 : Int) < (l.length : Int) := by omega
        have hil2 : ((200 : Nat) : Int) < (l.length : Int) := by omega
        go_wp2_with fail
        go_ret
        exact ⟨⟨true, rfl, fun h => by cases h⟩, hB⟩
    · obtain rfl : i = l.length := by omega
      have hil' : ¬ (l.length : Int) < (l.length : Int) := by omega
      have h2' : ¬ 200 < (l.length : Int) := by omega
      have HA : Hid (∀ c ∈ l, c.key.size ≤ 300 ∧ c.val.size ≤ 300) := by
        have h := hA.out
        rw [List.take_of_length_le (Nat.le_refl _)] at h
        exact h
      have HI := Lib.hid hi2
      clear hi2
      go_wp2_with fail
      go_ret
      exact ⟨⟨false, rfl, fun _ => ⟨HI.out, HA.out⟩⟩, hB⟩
end nod
end Go.Proofs.Ytkeheaempbmmaaa
