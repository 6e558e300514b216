/- The walk of lines. -/
import Derived.Test.YtifplgnabkkbjaaDoorRowM
import Derived.Test.YtifplgnabkkbjaaDoorNameW
import Derived.Test.YtifplgnabkkbjaaDoorPairW
namespace Go.Proofs.YtifplgnabkkbjaaDoor
open Go.RowKit
namespace ldw
open ldp
set_option linter.unusedVariables false
set_option linter.unusedSimpArgs false
/-- what lines leaves -/
def LinesE (ls : List (List UInt8)) (w : World) (e : Ending) (w' : World) : Prop := Below w.heap.size w w' ∧ match (rowsP [] 0 ls).2 with
  | none => ∃ ao n cap, e = .returned (.tuple #[.slice ao n cap, .int .i64 0, .bool true]) ∧ WRow w' w.heap.size (.slice ao n cap) (rowsP [] 0 ls).1
  | some k => e = .returned (.tuple #[.slice none 0 0, .int .i64 (k : Int), .bool false])
theorem linesE_stop {ls : List (List UInt8)} {w w' : World} {k : Nat} (h : (rowsP [] 0 ls).2 = some k) (hb : Below w.heap.size w w') : LinesE ls w (.returned (.tuple #[.slice none 0 0, .int .i64 (k : Int), .bool false])) w' := by
  refine ⟨hb, ?_⟩
  rw [h]
theorem linesE_end {ls : List (List UInt8)} {acc : List Row} {w w' : World} {ao : Option Addr} {n cap : Nat} (h : (acc, none) = rowsP [] 0 ls) (hb : Below w.heap.size w w') (hr : WRow w' w.heap.size (.slice ao n cap) acc) : LinesE ls w (.returned (.tuple #[.slice ao n cap, .int .i64 0, .bool true])) w' := by
  refine ⟨hb, ?_⟩
  rw [← h]
  exact ⟨ao, n, cap, rfl, hr⟩
def opn (acc : List Row) : Bool := match acc.getLast? with
  | none => false
  | some x => decide (x.text ≠ [])
theorem raw_cons {l : List UInt8} (h : l ≠ []) : ∃ X R, raw l = X :: raw R ∧ R.length < l.length ∧ X.length + R.length ≤ l.length ∧ ((∃ A, l = A ++ 10 :: R ∧ (10 : UInt8) ∉ A ∧ X = trimCR A) ∨ ((10 : UInt8) ∉ l ∧ X = l ∧ R = [])) := by
  by_cases h10 : (10 : UInt8) ∈ l
  · obtain ⟨A, R, rfl, hA⟩ := splitL h10
    refine ⟨trimCR A, R, raw_line A R hA, by simp; omega, ?_, Or.inl ⟨A, rfl, hA, rfl⟩⟩
    unfold trimCR
    split <;> simp <;> omega
  · refine ⟨l, [], raw_last h h10, ?_, by simp, Or.inr ⟨h10, rfl, rfl⟩⟩
    cases l with
    | nil => exact absurd rfl h
    | cons a t => simp
theorem suf_one (l : List UInt8) (c : UInt8) : Lib.hasSuffix l [c] = decide (l.getLast? = some c) := by
  unfold Lib.hasSuffix
  rcases List.eq_nil_or_concat l with rfl | ⟨A, x, rfl⟩
  · simp [List.isSuffixOf]
  · rw [List.concat_eq_append, List.getLast?_concat]
    unfold List.isSuffixOf
    rw [List.reverse_append]
    simp only [List.reverse_cons, List.reverse_nil, List.nil_append, List.cons_append, List.isPrefixOf, Bool.and_true]
    rw [Bool.eq_iff_iff, beq_iff_eq, decide_eq_true_iff, Option.some.injEq]
    exact eq_comm
theorem trimSuf_cr (A : List UInt8) : Lib.trimSuffix A [13] = trimCR A := by
  unfold Lib.trimSuffix trimCR
  rw [suf_one]
  by_cases h : A.getLast? = some 13
  · rw [if_pos (by simpa using h), if_pos h, List.dropLast_eq_take]; rfl
  · rw [if_neg (by simpa using h), if_neg h]
theorem rowsP_keep {acc : List Row} {no : Nat} {X : List UInt8} {r : List (List UInt8)} (h : goes X = false) : rowsP acc no (X :: r) = rowsP (acc ++ [⟨X, no + 1, false⟩]) (no + 1) r := by
  show (if goes X = false then _ else _) = _
  rw [if_pos h]
theorem rowsP_stop {acc : List Row} {no : Nat} {X : List UInt8} {r : List (List UInt8)} (h : goes X = true) (ho : opn acc = false) : rowsP acc no (X :: r) = (acc, some (no + 1)) := by
  show (if goes X = false then _ else _) = _
  rw [if_neg (by rw [h]; simp)]
  unfold opn at ho
  cases hl : acc.getLast? with
  | none => rfl
  | some x =>
    rw [hl] at ho
    simp only [decide_eq_false_iff_not, ne_eq, Classical.not_not] at ho
    simp only [ho, if_true]
theorem rowsP_go {acc : List Row} {no : Nat} {X : List UInt8} {r : List (List UInt8)} (h : goes X = true) (ho : opn acc = true) : ∃ A y, acc = A ++ [y] ∧ y.text ≠ [] ∧ rowsP acc no (X :: r) = rowsP (A ++ [⟨y.text ++ X.tail, y.no, false⟩]) (no + 1) r := by
  rw [← List.drop_one]
  unfold opn at ho
  rcases List.eq_nil_or_concat acc with rfl | ⟨A, y, rfl⟩
  · simp at ho
  · rw [List.concat_eq_append, List.getLast?_concat] at ho
    simp only [decide_eq_true_eq] at ho
    refine ⟨A, y, by rw [List.concat_eq_append], ho, ?_⟩
    show (if goes X = false then _ else _) = _
    rw [if_neg (by rw [h]; simp), List.concat_eq_append, List.getLast?_concat]
    simp only [if_neg ho, List.dropLast_concat]
theorem opn_app (acc : List Row) (x : Row) : opn (acc ++ [x]) = decide (x.text ≠ []) := by unfold opn; rw [List.getLast?_concat]
theorem bs_size (l : List UInt8) : (bs l).size = l.length := by rw [← kt.size_len]; rfl
theorem bs_ne {l : List UInt8} (h : l ≠ []) : (bs l).toList.isEmpty = false ∧ ¬ (bs l).toList = [] := by
  rw [Lib.toList_data, bs_data]
  refine ⟨?_, h⟩
  cases l with
  | nil => exact absurd rfl h
  | cons a t => rfl
theorem str_ne {s : ByteArray} (h : s.data.toList ≠ []) : s.toList.isEmpty = false ∧ ¬ s.toList = [] := by
  rw [Lib.toList_data]
  refine ⟨?_, h⟩
  cases hh : s.data.toList with
  | nil => exact absurd hh h
  | cons a t => rfl
theorem bs_nil : (bs []).toList = [] := by rw [Lib.toList_data]; rfl
theorem app_bs (a b : List UInt8) : bs a ++ bs b = bs (a ++ b) := by
  apply kt.str_eq
  show (bs a ++ bs b).data.toList = a ++ b
  simp [bs]
def wlen : Value → Nat
  | .string s => s.size
  | _ => 0
set_option maxRecDepth 20000 in
set_option maxHeartbeats 8000000 in
theorem lines_any (s : ByteArray) (w : World) (hs : s.size ≤ 20000) : Calls Tryd.prog 8 #[.string s] w (LinesE (raw s.data.toList) w) := by
  go_enter Tryd.func8, Tryd.ntmps8
  go_wp2_with fail
  go_loopw [0, 5, 6, 7] (fun sv lv ov nv wr => ∃ (t : ByteArray) (acc : List Row) (no : Nat) (b : Bool), sv = .string t ∧ t.size + no ≤ 20000 ∧ acc.length ≤ no ∧ Hid (∀ x ∈ acc, x.text.length + t.size ≤ 20000) ∧ Hid (WRow wr w.heap.size lv acc) ∧ ov = .bool b ∧ Hid (b = opn acc) ∧ nv = .int .i64 (no : Int) ∧ Hid (rowsP acc no (raw t.data.toList) = rowsP [] 0 (raw s.data.toList)) ∧ Below w.heap.size w wr) (fun sv _ _ _ _ => wlen sv)
  case atStart => exact ⟨s, [], 0, false, rfl, by omega, Nat.le_refl _, (fun x hx => by cases hx), kt.segX_nil _ _ _ _, rfl, rfl, rfl, rfl, Below.refl _ _⟩
  case round =>
    obtain ⟨t, acc, no, b, rfl, hsz, hal, hM, hW, rfl, hO, rfl, hR, hB⟩ := hrel
    by_cases hte : t.data.toList = []
    · have hend : (acc, none) = rowsP [] 0 (raw s.data.toList) := by rw [← hR.out, hte]; rfl
      have HEND := Lib.hid hend
      have hte' : t.toList = [] := by rw [Lib.toList_data]; exact hte
      obtain ⟨ao, n, cap, rfl, hn, hnc⟩ := wrow_form hW.out
      clear hend hte
      go_wp2_with fail
      go_ret3
      exact linesE_end HEND.out hB hW.out
    · obtain ⟨X, R, hraw, hRl, hXl, hcase⟩ := raw_cons hte
      obtain ⟨t1, t2⟩ := str_ne hte
      have hR2 := hR.out
      rw [hraw] at hR2
      have HR := Lib.hid hR2
      have hXs : X.length ≤ 20000 := by rw [kt.size_len] at hXl; omega
      have hXR : Hid (X.length + R.length ≤ t.size) := by show _ ≤ _; rw [← kt.size_len]; exact hXl
      have hRs : R.length + 1 + no ≤ 20000 := by rw [kt.size_len] at hRl; omega
      have hRL : Hid (R.length < t.size) := by rw [← kt.size_len]; exact hRl
      have HCP : Hid (∀ w, Calls Tryd.prog 18 #[.string (bs X), .string ⟨#[32]⟩] w fun e w' => e = .returned (.tuple #[.string (bs (if goes X = true then X.tail else X)), .bool (goes X)]) ∧ w = w') := by
        intro w
        refine (Tryd.strings_CutPrefix (bs X) ⟨#[32]⟩ w).mono ?_
        rintro e w' ⟨rfl, rfl⟩
        refine ⟨?_, rfl⟩
        show Ending.returned (.tuple #[.string ⟨(Lib.trimPrefix X [32]).toArray⟩, .bool (Lib.hasPrefix X [32])]) = _
        have e1 : Lib.hasPrefix X [32] = goes X := pre_one X 32
        have e2 : Lib.trimPrefix X [32] = if goes X = true then X.tail else X := by
          unfold Lib.trimPrefix
          rw [e1]; simp
        rw [e1, e2]
        rfl
      have i1 : IntKind.i64.wrap ((no : Int) + 1) = (no : Int) + 1 := IntWalk.i64_in _ (by omega)
      clear hR2 hraw hR hXl hRl hte
      obtain ⟨ao, n, cap, rfl, hn, hnc⟩ := wrow_form hW.out
      rcases hcase with ⟨A, hA, hA10, hX⟩ | ⟨hA10, hX, hRn⟩
      case' inl =>
        have HC : Hid (∀ w, Calls Tryd.prog 16 #[.string t, .string ⟨#[10]⟩] w fun e w' => e = .returned (.tuple #[.string (bs A), .string (bs R), .bool true]) ∧ Below w.heap.size w w') := fun w => cut_hit t 10 A R w (by omega) hA hA10
        have HTS : Hid (∀ w, Calls Tryd.prog 17 #[.string (bs A), .string ⟨#[13]⟩] w fun e w' => e = .returned (.string (bs X)) ∧ w = w') := by
          intro w
          have hAl : A.length ≤ 20000 := by
            have := congrArg List.length hA
            rw [kt.size_len] at this
            simp at this
            omega
          refine (Tryd.strings_TrimSuffix (bs A) ⟨#[13]⟩ w (by rw [bs_size]; omega)).mono ?_
          rintro e w' ⟨rfl, rfl⟩
          refine ⟨?_, rfl⟩
          show Ending.returned (.string (bs (Lib.trimSuffix A [13]))) = _
          rw [trimSuf_cr, hX]
        clear hA hA10 hX
        go_wp2_with fail
        refine (HC.out _).mono ?_
        rintro e w1 ⟨rfl, hB1⟩
        have HB1 := Lib.hid hB1
        clear hB1
        go_wp2_with fail
        refine (HTS.out _).mono ?_
        rintro e w2 ⟨rfl, rfl⟩
        go_wp2_with fail
        refine (HCP.out _).mono ?_
        rintro e w2 ⟨rfl, rfl⟩
      case' inr =>
        subst hX
        have hts : bs t.data.toList = t := bs_of t
        have HC : Hid (∀ w, Calls Tryd.prog 16 #[.string t, .string ⟨#[10]⟩] w fun e w' => e = .returned (.tuple #[.string (bs t.data.toList), .string (bs R), .bool false]) ∧ Below w.heap.size w w') := by
          rw [hts, hRn]
          exact fun w => cut_miss t 10 w hA10
        obtain ⟨X, hX⟩ : ∃ X, X = t.data.toList := ⟨_, rfl⟩
        rw [← hX] at HC HR HCP hXs hXR
        clear hA10 hRn hts hX
        go_wp2_with fail
        refine (HC.out _).mono ?_
        rintro e w1 ⟨rfl, hB1⟩
        have HB1 := Lib.hid hB1
        clear hB1
        go_wp2_with fail
        refine (HCP.out _).mono ?_
        rintro e w2 ⟨rfl, rfl⟩
      all_goals
        have hsz1 := HB1.out.size
        have hszw := hB.size
        have HB2 := Lib.hid (hB.trans (HB1.out.mono hszw))
        have HW1 := Lib.hid (wrow_below hW.out HB1.out)
        by_cases hg : goes X = true
        · rw [hg]
          simp only [if_true]
          cases b with
          | false =>
            have hst := rowsP_stop (no := no) (r := raw R) hg hO.out.symm
            have HST : Hid ((rowsP [] 0 (raw s.data.toList)).2 = some (no + 1)) := by show _ = _; rw [← HR.out, hst]
            clear hg hst
            go_wp2_with fail
            go_ret3
            exact linesE_stop HST.out HB2.out
          | true =>
            obtain ⟨A2, y, hacc, hy, hst⟩ := rowsP_go (no := no) (r := raw R) hg hO.out.symm
            subst hacc
            have HST : Hid (rowsP (A2 ++ [⟨y.text ++ X.tail, y.no, false⟩]) (no + 1) (raw (bs R).data.toList) = rowsP [] 0 (raw s.data.toList)) := by show _ = _; rw [← HR.out, hst]; rfl
            obtain ⟨k, hk⟩ : ∃ k, Hid (k = A2.length) := ⟨_, rfl⟩
            obtain rfl : n = k + 1 := by have := hn.out; rw [List.length_append] at this; simp at this; rw [hk.out]; omega
            have hkb : k ≤ 20000 := by have := hk.out; rw [List.length_append] at hal; simp at hal; omega
            obtain ⟨g, o, rfl, hBg, c0, f0, hset⟩ := wrow_last HW1.out (by rw [hk.out])
            rw [← hk.out] at c0 f0 hset
            have hset2 := hset (y.text ++ X.tail) false
            have HSET := Lib.hid hset2
            have hyl : y.text.length + X.tail.length + R.length ≤ 20000 := by
              have h1 := hM.out y (by simp)
              have h2 := hXR.out
              rw [List.length_tail]
              omega
            have HM2 : Hid (∀ x ∈ A2 ++ [(⟨y.text ++ X.tail, y.no, false⟩ : Row)], x.text.length + (bs R).size ≤ 20000) := by
              intro x hx
              rw [bs_size]
              rcases List.mem_append.1 hx with hx | hx
              · have h1 := hM.out x (by simp [hx])
                have := hRL.out
                omega
              · simp only [List.mem_singleton] at hx
                subst hx
                simp only [List.length_append]
                omega
            have hcb : ¬ 9223372036854775807 < (bs y.text).size + (bs X.tail).size := by rw [bs_size, bs_size]; omega
            have hcat : bs y.text ++ bs (X.tail) = bs (y.text ++ X.tail) := app_bs _ _
            have HOP : Hid (true = opn (A2 ++ [(⟨y.text ++ X.tail, y.no, false⟩ : Row)])) := by
              show _ = _
              rw [opn_app]
              symm
              rw [decide_eq_true_eq]
              intro e
              exact hy (List.append_eq_nil_iff.1 e).1
            have HY : Hid (y.lost = false ∨ True) := Or.inr trivial
            clear hset hset2 hst hg hy
            go_wp2_with fail
            go_roundw
            case rel => exact ⟨bs R, _, no + 1, true, rfl, by rw [bs_size]; omega, by simp at hal ⊢; omega, HM2, HSET, rfl, HOP, by go_num, HST, HB2.out.setCell (p := ⟨g, _, none⟩) hBg _⟩
            case measure => (have := hRL.out; simp [wlen, bs_size]; omega)
        · have hg' : goes X = false := by simpa using hg
          rw [hg']
          simp only [Bool.false_eq_true, if_false]
          have hst := rowsP_keep (acc := acc) (no := no) (r := raw R) hg'
          have HST : Hid (rowsP (acc ++ [⟨X, no + 1, false⟩]) (no + 1) (raw (bs R).data.toList) = rowsP [] 0 (raw s.data.toList)) := by show _ = _; rw [← HR.out, hst]; rfl
          obtain ⟨ao2, n2, cap2, w3, hap, hW3, hB3⟩ := wrow_app (⟨X, no + 1, false⟩ : Row) (bs X) rfl HW1.out (by omega) (by omega)
          have HW3 := Lib.hid hW3
          have HB3 := Lib.hid (HB2.out.trans hB3)
          have HM2 : Hid (∀ x ∈ acc ++ [(⟨X, no + 1, false⟩ : Row)], x.text.length + (bs R).size ≤ 20000) := by
            intro x hx
            rw [bs_size]
            rcases List.mem_append.1 hx with hx | hx
            · have h1 := hM.out x hx
              have := hRL.out
              omega
            · simp only [List.mem_singleton] at hx
              subst hx
              have := hXR.out
              show X.length + _ ≤ _
              omega
          have HOP : Hid (decide (X ≠ []) = opn (acc ++ [⟨X, no + 1, false⟩])) := by show _ = _; rw [opn_app]
          have hcast : ((no + 1 : Nat) : Int) = (no : Int) + 1 := by omega
          simp only [hcast] at hap
          clear hg hg' hst hW3 hB3 hcast
          by_cases hX0 : X = []
          · have hx1 : (bs X).toList = [] := by rw [hX0]; exact bs_nil
            have HX : Hid (decide (X ≠ []) = false) := by show _ = _; rw [hX0]; rfl
            clear hX0
            go_wp2_with (at_builtin; refine Lib.wpList_append_run _ rfl _ _ _ _ rfl _ _ rfl rfl _ _ hap ?_)
            go_roundw
            case rel => exact ⟨bs R, _, no + 1, false, rfl, by rw [bs_size]; omega, by simp; omega, HM2, HW3, rfl, by show _ = _; rw [← HOP.out, HX.out], by go_num, HST, HB3.out⟩
            case measure => (have := hRL.out; simp [wlen, bs_size]; omega)
          · obtain ⟨x1, x2⟩ := bs_ne hX0
            have HX : Hid (decide (X ≠ []) = true) := decide_eq_true hX0
            clear hX0
            go_wp2_with (at_builtin; refine Lib.wpList_append_run _ rfl _ _ _ _ rfl _ _ rfl rfl _ _ hap ?_)
            go_roundw
            case rel => exact ⟨bs R, _, no + 1, true, rfl, by rw [bs_size]; omega, by simp; omega, HM2, HW3, rfl, by show _ = _; rw [← HOP.out, HX.out], by go_num, HST, HB3.out⟩
            case measure => (have := hRL.out; simp [wlen, bs_size]; omega)
end ldw
end Go.Proofs.YtifplgnabkkbjaaDoor
