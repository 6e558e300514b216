/- The walk of the reference's Rows. -/
import Derived.Test.YtifplgnabkkbjaaDoorLinesW
import Derived.Test.YtifplgnabkkbjaaDoorRPairW
import Derived.BigRegion
namespace Go.Proofs.YtifplgnabkkbjaaDoor
open Go.RowKit
namespace ldw
open ldp
set_option linter.unusedVariables false
set_option linter.unusedSimpArgs false
theorem raw_at (l : List UInt8) (p : Nat) (h : p < l.length) : ∃ q X, p ≤ q ∧ q ≤ l.length ∧ (∀ j (hj : j < l.length), p ≤ j → j < q → l[j] ≠ 10) ∧ (∀ hq : q < l.length, l[q] = 10) ∧ raw (l.drop p) = X :: raw (l.drop (q + 1)) ∧ X = if q < l.length then trimCR ((l.drop p).take (q - p)) else (l.drop p).take (q - p) := by
  have hne : l.drop p ≠ [] := by
    intro e
    have := congrArg List.length e
    rw [List.length_drop] at this
    simp at this
    omega
  by_cases h10 : (10 : UInt8) ∈ l.drop p
  · obtain ⟨A, R, hA, hA10⟩ := splitL h10
    have hl : l.length - p = A.length + R.length + 1 := by rw [← List.length_drop, hA]; simp; omega
    have hget : ∀ i (hi : p + i < l.length) (hi2 : i < (A ++ 10 :: R).length), l[p + i] = (A ++ 10 :: R)[i] := by
      intro i hi hi2
      have : (l.drop p)[i]'(by rw [List.length_drop]; omega) = (A ++ 10 :: R)[i] := by simp only [hA]
      rw [List.getElem_drop] at this
      exact this
    refine ⟨p + A.length, trimCR A, by omega, by omega, ?_, ?_, ?_, ?_⟩
    · intro j hj h1 h2 e
      obtain ⟨i, rfl⟩ := Nat.exists_eq_add_of_le h1
      rw [hget i hj (by simp; omega), List.getElem_append_left (by omega)] at e
      exact hA10 (e ▸ List.getElem_mem _)
    · intro hq
      rw [hget A.length hq (by simp)]
      simp
    · rw [hA, raw_line A R hA10]
      congr 2
      have : l.drop (p + A.length + 1) = (l.drop p).drop (A.length + 1) := by rw [List.drop_drop]; congr 1
      rw [this, hA]
      simp
    · rw [if_pos (by omega), hA]
      simp
  · refine ⟨l.length, l.drop p, by omega, Nat.le_refl _, ?_, fun hq => by omega, ?_, ?_⟩
    · intro j hj h1 h2 e
      apply h10
      obtain ⟨i, rfl⟩ := Nat.exists_eq_add_of_le h1
      rw [← e]
      have : (l.drop p)[i]'(by rw [List.length_drop]; omega) = l[p + i] := List.getElem_drop ..
      rw [← this]
      exact List.getElem_mem _
    · rw [raw_last hne h10, show l.drop (l.length + 1) = [] from List.drop_of_length_le (by omega), raw_nil]
    · rw [if_neg (by omega), List.take_of_length_le (by rw [List.length_drop]; omega)]
theorem rowsR_keep {acc : List Row} {no : Nat} {X : List UInt8} {r : List (List UInt8)} (h : goes X = false) : rowsR acc no (X :: r) = rowsR (acc ++ [⟨X, no + 1, false⟩]) (no + 1) r := by
  show (if goes X = false then _ else _) = _
  rw [if_pos h]
theorem rowsR_none {no : Nat} {X : List UInt8} {r : List (List UInt8)} (h : goes X = true) : rowsR [] no (X :: r) = rowsR ([] ++ [⟨X, no + 1, true⟩]) (no + 1) r := by
  show (if goes X = false then _ else _) = _
  rw [if_neg (by rw [h]; simp)]
  rfl
theorem rowsR_lost {A : List Row} {y : Row} {no : Nat} {X : List UInt8} {r : List (List UInt8)} (h : goes X = true) (hy : y.text = [] ∨ y.lost = true) : rowsR (A ++ [y]) no (X :: r) = rowsR ((A ++ [y]) ++ [⟨X, no + 1, true⟩]) (no + 1) r := by
  show (if goes X = false then _ else _) = _
  rw [if_neg (by rw [h]; simp), List.getLast?_concat]
  simp only [if_pos hy]
theorem rowsR_go {A : List Row} {y : Row} {no : Nat} {X : List UInt8} {r : List (List UInt8)} (h : goes X = true) (hy : y.text ≠ []) (hl : y.lost = false) : rowsR (A ++ [y]) no (X :: r) = rowsR (A ++ [⟨y.text ++ X.tail, y.no, false⟩]) (no + 1) r := by
  show (if goes X = false then _ else _) = _
  rw [if_neg (by rw [h]; simp), List.getLast?_concat]
  have hn : ¬ (y.text = [] ∨ y.lost = true) := by rw [hl]; simp [hy]
  simp only [if_neg hn, List.dropLast_concat, List.drop_one]
theorem goes_nil : goes [] = false := rfl
theorem goes_s {x : ByteArray} (h : 0 < x.size) : goes x.data.toList = decide (x[0].toNat = 32) := by
  unfold goes
  rw [head_s h, Bool.eq_iff_iff, decide_eq_true_iff, decide_eq_true_iff, Option.some.injEq, ← UInt8.toNat_inj]
  rfl
theorem trim_last {a : ByteArray} {m : Nat} (h : a.size = m + 1) : trimCR a.data.toList = if (a[m]'(by omega)).toNat = 13 then a.data.toList.take m else a.data.toList := by
  have hl : a.data.toList.length = m + 1 := by simpa using h
  have hlast : a.data.toList.getLast? = some (a[m]'(by omega)) := by
    rw [List.getLast?_eq_getElem?, hl, Nat.add_sub_cancel, List.getElem?_eq_getElem (by omega)]
    rfl
  unfold trimCR
  rw [hlast]
  simp only [Option.some.injEq]
  by_cases e : (a[m]'(by omega)).toNat = 13
  · rw [if_pos e, if_pos (by apply UInt8.toNat_inj.1; exact e), List.dropLast_eq_take, hl]; rfl
  · rw [if_neg e, if_neg (by intro h2; apply e; rw [h2]; rfl)]
/-- what Rows leaves -/
def RowsE (ls : List (List UInt8)) (w : World) (e : Ending) (w' : World) : Prop := Below w.heap.size w w' ∧ ∃ ao n cap, e = .returned (.slice ao n cap) ∧ RRow w' w.heap.size (.slice ao n cap) (rowsR [] 0 ls)
theorem rowsE_end {ls : List (List UInt8)} {acc : List Row} {w w' : World} {ao : Option Addr} {n cap : Nat} (h : acc = rowsR [] 0 ls) (hb : Below w.heap.size w w') (hr : RRow w' w.heap.size (.slice ao n cap) acc) : RowsE ls w (.returned (.slice ao n cap)) w' := by
  subst h
  exact ⟨hb, ao, n, cap, rfl, hr⟩
theorem rrow_made (w : World) : RRow (w.alloc (.cells #[] 46)) w.heap.size (.slice (some ⟨w.heap.size, 0, none⟩) 0 0) [] :=
  kt.segX_of_row (World.ownsRow_made w #[] 0 (Nat.le_refl _) (by unfold maxLen; omega) rfl)
set_option maxRecDepth 20000 in
set_option maxHeartbeats 16000000 in
theorem rows_any (s : ByteArray) (w : World) (hs : s.size ≤ 20000) : Calls Tryd.prog 13 #[.string s] w (RowsE (raw s.data.toList) w) := by
  go_enter Tryd.func13, Tryd.ntmps13
  go_wp2_with fail
  go_loopw [3, 4, 5] (fun lv nv av wr => ∃ (acc : List Row) (no p : Nat), av = .int .i64 (p : Int) ∧ p ≤ s.size + 1 ∧ no ≤ p ∧ acc.length ≤ no ∧ Hid (∀ x ∈ acc, x.text.length ≤ p) ∧ Hid (RRow wr w.heap.size lv acc) ∧ nv = .int .i64 (no : Int) ∧ av = .int .i64 (p : Int) ∧ Hid (rowsR acc no (raw (s.data.toList.drop p)) = rowsR [] 0 (raw s.data.toList)) ∧ Below w.heap.size w wr) (fun _ _ av _ => s.size + 1 - (intOf av).toNat)
  case atStart => exact ⟨[], 0, 0, rfl, by omega, by omega, Nat.le_refl _, (fun x hx => by cases hx), rrow_made w, rfl, rfl, rfl, (Below.refl _ _).alloc (Nat.le_refl _) _⟩
  case round =>
    obtain ⟨acc, no, p, rfl, hp, hnp, hal, hM, hW, rfl, _, hR, hB⟩ := hrel
    have hszw := hB.size
    obtain ⟨ao, n, cap, rfl, hn, hnc⟩ := rrow_form hW.out
    by_cases hlt : p < s.size
    · obtain ⟨q, X, hpe, hqs, hno, hat, hraw, hX⟩ := raw_at s.data.toList p (by simpa using hlt)
      have hlen : s.data.toList.length = s.size := kt.size_len s
      rw [hlen] at hqs
      have hR2 := hR.out
      rw [hraw] at hR2
      have HNO : Hid (∀ j (hj : j < s.size), p ≤ j → j < q → ¬ (s[j].toNat = 10)) := by
        intro j hj h1 h2 e
        apply hno j (by omega) h1 h2
        apply UInt8.toNat_inj.1
        exact e
      have HAT : Hid (∀ hq : q < s.size, s[q].toNat = 10) := by
        intro hq
        have := hat (by omega)
        have e : s[q] = 10 := this
        rw [e]; rfl
      obtain ⟨a, ha⟩ : ∃ a, s.extract p q = a := ⟨_, rfl⟩
      have had : a.data.toList = (s.data.toList.drop p).take (q - p) := by rw [← ha, Lib.extract_data]
      have has : a.size ≤ q - p := by rw [← kt.size_len, had]; exact List.length_take_le _ _
      rw [← had, hlen] at hX
      have hcast : ((no + 1 : Nat) : Int) = (no : Int) + 1 := by omega
      have hpq := Lib.hid hpe
      have hlt' : (p : Int) < (s.size : Int) := by omega
      have hq1 : (p : Int) ≤ (q : Int) := by omega
      have hq2 : (q : Int) ≤ (s.size : Int) := by omega
      clear hno hat hraw had hlen hR
      go_wp2_with fail
      go_loop [6] (fun ev => ∃ e : Nat, p ≤ e ∧ e ≤ q ∧ ev = .int .i64 (e : Int)) (fun ev => q - (intOf ev).toNat)
      case atStart => exact ⟨p, by omega, hpq.out, rfl⟩
      case round =>
        obtain ⟨e, hpe, heq, rfl⟩ := hrel
        by_cases hlt2 : e < q
        · have hes : e < s.size := by omega
          have hes' : (e : Int) < (s.size : Int) := by omega
          have HK := Lib.hid (HNO.out e hes hpe hlt2)
          obtain ⟨c, hc⟩ : ∃ c, s[e]'hes = c := ⟨_, rfl⟩
          rw [hc] at HK
          have q1 : ((c.toNat : Int) != 10) = true := by rw [bne_iff_ne]; have := HK.out; omega
          go_wp2_with fail
          go_round
          case rel => exact ⟨e + 1, by omega, by omega, by go_num⟩
          case measure => simp [intOf]; omega
        · obtain rfl : e = q := by omega
          have hCC : (∃ (h : e < s.size) (m : Nat), a.size = m + 1 ∧ ∃ hm : m < a.size, (a[m]'hm).toNat = 13) ∨ (∃ (h : e < s.size) (m : Nat), a.size = m + 1 ∧ ∃ hm : m < a.size, ¬ (a[m]'hm).toNat = 13) ∨ (e < s.size ∧ a.size = 0) ∨ e = s.size := by
            by_cases h : e < s.size
            · by_cases h0 : a.size = 0
              · exact Or.inr (Or.inr (Or.inl ⟨h, h0⟩))
              · obtain ⟨m, hm⟩ : ∃ m, a.size = m + 1 := ⟨a.size - 1, by omega⟩
                have hmm : m < a.size := by omega
                by_cases h13 : (a[m]'hmm).toNat = 13
                · exact Or.inl ⟨h, m, hm, hmm, h13⟩
                · exact Or.inr (Or.inl ⟨h, m, hm, hmm, h13⟩)
            · exact Or.inr (Or.inr (Or.inr (by omega)))
          rcases hCC with ⟨hes, m, ham, hmm, h13⟩ | ⟨hes, m, ham, hmm, h13⟩ | ⟨hes, ham⟩ | hes
          case' inl =>
            obtain ⟨x, hx⟩ : ∃ x, a.extract 0 m = x := ⟨_, rfl⟩
            have hxX : X = x.data.toList := by rw [hX, if_pos hes, trim_last ham, if_pos h13, ← hx, Lib.extract_data]; simp
            have hxs : x.size ≤ e - p := by rw [← kt.size_len, ← hxX, hX, if_pos hes, trim_last ham, if_pos h13]; refine Nat.le_trans (List.length_take_le _ _) ?_; omega
            have HC := Lib.hid (HAT.out hes)
            obtain ⟨c, hc⟩ : ∃ c, s[e]'hes = c := ⟨_, rfl⟩
            rw [hc] at HC
            have q1 : ((c.toNat : Int) != 10) = false := by rw [bne_eq_false_iff_eq]; have := HC.out; omega
            have hes' : (e : Int) < (s.size : Int) := by omega
            obtain ⟨c1, hc1⟩ : ∃ c, a[m]'hmm = c := ⟨_, rfl⟩
            have h13 := h13; rw [hc1] at h13
            have q2 : ((c1.toNat : Int) == 13) = true := by rw [beq_iff_eq]; omega
            have hmb : m ≤ 20000 := by omega
            have ham' : (a.size : Int) = (m : Int) + 1 := by omega
          case' inr.inl =>
            obtain ⟨x, rfl⟩ : ∃ x, x = a := ⟨_, rfl⟩
            have hxX : X = x.data.toList := by rw [hX, if_pos hes, trim_last ham, if_neg h13]
            have hxs : x.size ≤ e - p := has
            have HC := Lib.hid (HAT.out hes)
            obtain ⟨c, hc⟩ : ∃ c, s[e]'hes = c := ⟨_, rfl⟩
            rw [hc] at HC
            have q1 : ((c.toNat : Int) != 10) = false := by rw [bne_eq_false_iff_eq]; have := HC.out; omega
            have hes' : (e : Int) < (s.size : Int) := by omega
            obtain ⟨c1, hc1⟩ : ∃ c, x[m]'hmm = c := ⟨_, rfl⟩
            have h13 := h13; rw [hc1] at h13
            have q2 : ((c1.toNat : Int) == 13) = false := by rw [beq_eq_false_iff_ne]; omega
            have hmb : m ≤ 20000 := by omega
            have hm1 : (1 : Int) ≤ (m : Int) + 1 := by omega
            have ham' : (x.size : Int) = (m : Int) + 1 := by omega
          case' inr.inr.inl =>
            obtain ⟨x, rfl⟩ : ∃ x, x = a := ⟨_, rfl⟩
            have hxX : X = x.data.toList := by rw [hX, if_pos hes, zero_s ham]; rfl
            have hxs : x.size ≤ e - p := has
            have HC := Lib.hid (HAT.out hes)
            obtain ⟨c, hc⟩ : ∃ c, s[e]'hes = c := ⟨_, rfl⟩
            rw [hc] at HC
            have q1 : ((c.toNat : Int) != 10) = false := by rw [bne_eq_false_iff_eq]; have := HC.out; omega
            have hes' : (e : Int) < (s.size : Int) := by omega
            have ham' : (x.size : Int) = 0 := by omega
          case' inr.inr.inr =>
            obtain ⟨x, rfl⟩ : ∃ x, x = a := ⟨_, rfl⟩
            have hxX : X = x.data.toList := by rw [hX, if_neg (by omega)]
            have hxs : x.size ≤ e - p := has
            have hes' : decide ((e : Int) < (s.size : Int)) = false := by rw [decide_eq_false_iff_not]; omega
            have hes'' : decide (e < s.size) = false := by rw [decide_eq_false_iff_not]; omega
            have HES := Lib.hid hes
            clear hes
          all_goals
            have hR3 := hR2
            rw [hxX] at hR3
            have HR := Lib.hid hR3
            have hxq : Hid (x.data.toList.length ≤ e + 1) := by show _ ≤ _; rw [kt.size_len]; have := hpq.out; omega
            have hxq2 : Hid (x.size + p ≤ e) := by show _ ≤ _; have := hpq.out; omega
            have hxb : x.size ≤ 20000 := by omega
            clear hR2 hR3 hxX hX hxs
            (try clear h13)
          all_goals
            have hDD : x.size = 0 ∨ ∃ h : 0 < x.size, ((x[0]'h).toNat = 32 ∨ ¬ (x[0]'h).toNat = 32) := by
              by_cases h : x.size = 0
              · exact Or.inl h
              · exact Or.inr ⟨by omega, Classical.em _⟩
            rcases hDD with hx0 | ⟨hx0, hx32 | hx32⟩
            · try (exfalso; omega)
              all_goals
                have hgo : goes x.data.toList = false := by rw [zero_s hx0]; rfl
                have HST : Hid (rowsR (acc ++ [⟨x.data.toList, no + 1, false⟩]) (no + 1) (raw (s.data.toList.drop (e + 1))) = rowsR [] 0 (raw s.data.toList)) := by show _ = _; rw [← HR.out, rowsR_keep hgo]
                have hx0' : (x.size : Int) = 0 := by omega
                clear hgo hx0
                obtain ⟨ao2, n2, cap2, w3, hap, hW3, hB3⟩ := rrow_app (⟨x.data.toList, no + 1, false⟩ : Row) x (bs_of x) hW.out (by omega) hszw
                have HW3 := Lib.hid hW3
                have HB3 := Lib.hid (hB.trans hB3)
                simp only [hcast] at hap
                have HM2 : Hid (∀ z ∈ acc ++ [(⟨x.data.toList, no + 1, false⟩ : Row)], z.text.length ≤ e + 1) := by
                  intro z hz
                  rcases List.mem_append.1 hz with hz | hz
                  · have h1 := hM.out z hz
                    have := hpq.out
                    omega
                  · simp only [List.mem_singleton] at hz
                    subst hz
                    exact hxq.out
                clear hW3 hB3
                go_wp2_with (at_builtin; refine Lib.wpList_append_run _ rfl _ _ _ _ rfl _ _ rfl rfl _ _ hap ?_)
                go_roundw
                case rel => exact ⟨_, no + 1, e + 1, rfl, by omega, by omega, (by simp only [List.length_append, List.length_cons, List.length_nil] at hal ⊢; omega), HM2, HW3, by go_num, by go_num, HST, HB3.out⟩
                case measure => (have := hpq.out; simp [intOf]; omega)
            · try (exfalso; omega)
              all_goals
                have hgo : goes x.data.toList = true := by rw [goes_s hx0]; exact decide_eq_true hx32
                obtain ⟨c2, hc2⟩ : ∃ c, x[0]'hx0 = c := ⟨_, rfl⟩
                rw [hc2] at hx32
                have x0' : (0 : Int) < (x.size : Int) := by omega
                have x1' : (1 : Int) ≤ (x.size : Int) := by omega
                have x1'' : 1 ≤ x.size := hx0
                have q7 : ((x.size : Int) == 0) = false := by rw [beq_eq_false_iff_ne]; omega
                have q8 : ((c2.toNat : Int) != 32) = false := by rw [bne_eq_false_iff_eq]; omega
                clear hx32
                rcases List.eq_nil_or_concat acc with rfl | ⟨A2, y, hacc⟩
                · have HST : Hid (rowsR ([] ++ [⟨x.data.toList, no + 1, true⟩]) (no + 1) (raw (s.data.toList.drop (e + 1))) = rowsR [] 0 (raw s.data.toList)) := by show _ = _; rw [← HR.out, rowsR_none hgo]
                  obtain rfl : n = 0 := by have := hn.out; simpa using this
                  clear hgo
                  obtain ⟨ao2, n2, cap2, w3, hap, hW3, hB3⟩ := rrow_app (⟨x.data.toList, no + 1, true⟩ : Row) x (bs_of x) hW.out (by omega) hszw
                  have HW3 := Lib.hid hW3
                  have HB3 := Lib.hid (hB.trans hB3)
                  simp only [hcast] at hap
                  have HM2 : Hid (∀ z ∈ [] ++ [(⟨x.data.toList, no + 1, true⟩ : Row)], z.text.length ≤ e + 1) := by
                    intro z hz
                    rcases List.mem_append.1 hz with hz | hz
                    · have h1 := hM.out z hz
                      have := hpq.out
                      omega
                    · simp only [List.mem_singleton] at hz
                      subst hz
                      exact hxq.out
                  clear hW3 hB3
                  go_wp2_with (at_builtin; refine Lib.wpList_append_run _ rfl _ _ _ _ rfl _ _ rfl rfl _ _ hap ?_)
                  go_roundw
                  case rel => exact ⟨_, no + 1, e + 1, rfl, by omega, by omega, (by simp only [List.length_append, List.length_cons, List.length_nil] at hal ⊢; omega), HM2, HW3, by go_num, by go_num, HST, HB3.out⟩
                  case measure => (have := hpq.out; simp [intOf]; omega)
                · rw [List.concat_eq_append] at hacc
                  subst hacc
                  obtain ⟨k, hk⟩ : ∃ k, Hid (k = A2.length) := ⟨_, rfl⟩
                  obtain rfl : n = k + 1 := by have := hn.out; rw [List.length_append] at this; simp at this; rw [hk.out]; omega
                  have hkb : k ≤ 20000 := by have := hk.out; rw [List.length_append] at hal; simp at hal; omega
                  obtain ⟨g, o, rfl, hBg, c0, c1, f0, hset⟩ := rrow_last hW.out (by rw [hk.out])
                  rw [← hk.out] at c0 c1 f0 hset
                  have hk1 : ((k : Int) + 1 == 0) = false := by rw [beq_eq_false_iff_ne]; omega
                  by_cases hyt : y.text = []
                  · have HST : Hid (rowsR ((A2 ++ [y]) ++ [⟨x.data.toList, no + 1, true⟩]) (no + 1) (raw (s.data.toList.drop (e + 1))) = rowsR [] 0 (raw s.data.toList)) := by show _ = _; rw [← HR.out, rowsR_lost hgo (Or.inl hyt)]
                    have hy0 : (bs y.text).toList = [] := by rw [hyt]; exact bs_nil
                    clear hgo hset hyt
                    obtain ⟨ao2, n2, cap2, w3, hap, hW3, hB3⟩ := rrow_app (⟨x.data.toList, no + 1, true⟩ : Row) x (bs_of x) hW.out (by omega) hszw
                    have HW3 := Lib.hid hW3
                    have HB3 := Lib.hid (hB.trans hB3)
                    simp only [hcast] at hap
                    have HM2 : Hid (∀ z ∈ (A2 ++ [y]) ++ [(⟨x.data.toList, no + 1, true⟩ : Row)], z.text.length ≤ e + 1) := by
                      intro z hz
                      rcases List.mem_append.1 hz with hz | hz
                      · have h1 := hM.out z hz
                        have := hpq.out
                        omega
                      · simp only [List.mem_singleton] at hz
                        subst hz
                        exact hxq.out
                    clear hW3 hB3
                    go_wp2_with (at_builtin; refine Lib.wpList_append_run _ rfl _ _ _ _ rfl _ _ rfl rfl _ _ hap ?_)
                    go_roundw
                    case rel => exact ⟨_, no + 1, e + 1, rfl, by omega, by omega, (by simp only [List.length_append, List.length_cons, List.length_nil] at hal ⊢; omega), HM2, HW3, by go_num, by go_num, HST, HB3.out⟩
                    case measure => (have := hpq.out; simp [intOf]; omega)
                  · obtain ⟨y1, y2⟩ := bs_ne hyt
                    cases hlo : y.lost with
                    | true =>
                      have HST : Hid (rowsR ((A2 ++ [y]) ++ [⟨x.data.toList, no + 1, true⟩]) (no + 1) (raw (s.data.toList.drop (e + 1))) = rowsR [] 0 (raw s.data.toList)) := by show _ = _; rw [← HR.out, rowsR_lost hgo (Or.inr hlo)]
                      rw [hlo] at c1
                      clear hgo hset hyt hlo
                      obtain ⟨ao2, n2, cap2, w3, hap, hW3, hB3⟩ := rrow_app (⟨x.data.toList, no + 1, true⟩ : Row) x (bs_of x) hW.out (by omega) hszw
                      have HW3 := Lib.hid hW3
                      have HB3 := Lib.hid (hB.trans hB3)
                      simp only [hcast] at hap
                      have HM2 : Hid (∀ z ∈ (A2 ++ [y]) ++ [(⟨x.data.toList, no + 1, true⟩ : Row)], z.text.length ≤ e + 1) := by
                        intro z hz
                        rcases List.mem_append.1 hz with hz | hz
                        · have h1 := hM.out z hz
                          have := hpq.out
                          omega
                        · simp only [List.mem_singleton] at hz
                          subst hz
                          exact hxq.out
                      clear hW3 hB3
                      go_wp2_with (at_builtin; refine Lib.wpList_append_run _ rfl _ _ _ _ rfl _ _ rfl rfl _ _ hap ?_)
                      go_roundw
                      case rel => exact ⟨_, no + 1, e + 1, rfl, by omega, by omega, (by simp only [List.length_append, List.length_cons, List.length_nil] at hal ⊢; omega), HM2, HW3, by go_num, by go_num, HST, HB3.out⟩
                      case measure => (have := hpq.out; simp [intOf]; omega)
                    | false =>
                      have HST : Hid (rowsR (A2 ++ [⟨y.text ++ x.data.toList.tail, y.no, false⟩]) (no + 1) (raw (s.data.toList.drop (e + 1))) = rowsR [] 0 (raw s.data.toList)) := by show _ = _; rw [← HR.out, rowsR_go hgo hyt hlo]
                      rw [hlo] at c1
                      have hset2 := hset (y.text ++ x.data.toList.tail)
                      rw [hlo] at hset2
                      have HSET := Lib.hid hset2
                      obtain ⟨z, hz⟩ : ∃ q, x.extract 1 x.size = q := ⟨_, rfl⟩
                      have hzt := tail_s hz.symm
                      have hzs : z.size + 1 = x.size := by rw [← kt.size_len, hzt, List.length_tail, kt.size_len]; omega
                      have hcat : bs y.text ++ z = bs (y.text ++ x.data.toList.tail) := by rw [← bs_of z, hzt, app_bs]
                      have hym := hM.out y (by simp)
                      have hcb : ¬ 9223372036854775807 < (bs y.text).size + z.size := by rw [bs_size]; omega
                      have i1 : IntKind.i64.wrap (k : Int) = (k : Int) := IntWalk.i64_in _ (by omega)
                      have i2 : (k : Int) < (k : Int) + 1 := by omega
                      have HM2 : Hid (∀ z ∈ A2 ++ [(⟨y.text ++ x.data.toList.tail, y.no, false⟩ : Row)], z.text.length ≤ e + 1) := by
                        intro z hz
                        rcases List.mem_append.1 hz with hz | hz
                        · have h1 := hM.out z (by simp [hz])
                          have := hpq.out
                          omega
                        · simp only [List.mem_singleton] at hz
                          subst hz
                          simp only [List.length_append, List.length_tail]
                          have h1 := hxq2.out
                          rw [kt.size_len]
                          omega
                      (try rw [ham] at hz)
                      clear hgo hset hset2 hyt hlo hzt hzs hym
                      go_wp2_with fail
                      go_region_law (fail)
                      all_goals go_wp2_with fail
                      all_goals go_roundw
                      case rel => exact ⟨_, no + 1, e + 1, rfl, by omega, by omega, by simp at hal ⊢; omega, HM2, HSET, by go_num, by go_num, HST, (hB.drew).setCell (p := ⟨g, _, none⟩) hBg _⟩
                      case measure => (have := hpq.out; simp [intOf]; omega)
            · try (exfalso; omega)
              all_goals
                have hgo : goes x.data.toList = false := by rw [goes_s hx0]; exact decide_eq_false hx32
                have HST : Hid (rowsR (acc ++ [⟨x.data.toList, no + 1, false⟩]) (no + 1) (raw (s.data.toList.drop (e + 1))) = rowsR [] 0 (raw s.data.toList)) := by show _ = _; rw [← HR.out, rowsR_keep hgo]
                obtain ⟨c2, hc2⟩ : ∃ c, x[0]'hx0 = c := ⟨_, rfl⟩
                rw [hc2] at hx32
                have x0' : (0 : Int) < (x.size : Int) := by omega
                have q7 : ((x.size : Int) == 0) = false := by rw [beq_eq_false_iff_ne]; omega
                have q8 : ((c2.toNat : Int) != 32) = true := by rw [bne_iff_ne]; omega
                clear hgo hx32
                obtain ⟨ao2, n2, cap2, w3, hap, hW3, hB3⟩ := rrow_app (⟨x.data.toList, no + 1, false⟩ : Row) x (bs_of x) hW.out (by omega) hszw
                have HW3 := Lib.hid hW3
                have HB3 := Lib.hid (hB.trans hB3)
                simp only [hcast] at hap
                have HM2 : Hid (∀ z ∈ acc ++ [(⟨x.data.toList, no + 1, false⟩ : Row)], z.text.length ≤ e + 1) := by
                  intro z hz
                  rcases List.mem_append.1 hz with hz | hz
                  · have h1 := hM.out z hz
                    have := hpq.out
                    omega
                  · simp only [List.mem_singleton] at hz
                    subst hz
                    exact hxq.out
                clear hW3 hB3
                go_wp2_with (at_builtin; refine Lib.wpList_append_run _ rfl _ _ _ _ rfl _ _ rfl rfl _ _ hap ?_)
                go_roundw
                case rel => exact ⟨_, no + 1, e + 1, rfl, by omega, by omega, (by simp only [List.length_append, List.length_cons, List.length_nil] at hal ⊢; omega), HM2, HW3, by go_num, by go_num, HST, HB3.out⟩
                case measure => (have := hpq.out; simp [intOf]; omega)
    · have hend : acc = rowsR [] 0 (raw s.data.toList) := by rw [← hR.out, List.drop_of_length_le (by rw [kt.size_len]; omega)]; rfl
      have HEND := Lib.hid hend
      have hlt' : decide ((p : Int) < (s.size : Int)) = false := by rw [decide_eq_false_iff_not]; omega
      clear hend
      go_wp2_with fail
      go_ret
      exact rowsE_end HEND.out hB hW.out
end ldw
end Go.Proofs.YtifplgnabkkbjaaDoor
