/- What Parse computes: plain laws, no program. -/
import Derived.Test.YtifplgnabkkbjaaDoorPairP
namespace Go.Proofs.YtifplgnabkkbjaaDoor
namespace ldp
set_option linter.unusedVariables false
set_option linter.unusedSimpArgs false
def version : List UInt8 := [118, 101, 114, 115, 105, 111, 110, 58, 32, 49]
/-- is a line passed over? -/
def skipL (i : Nat) (l : List UInt8) : Bool := decide (l.head? = some 35) || (decide (i = 0) && decide (l = version))
abbrev foldL (i : Nat) (recs : List Rec) (op : Bool) (rows : List Row) : Nat ⊕ List Rec := foldR pairL isDn skipL i recs op rows
/-- the reference's answer -/
def parseL (l : List UInt8) : Nat ⊕ List Rec := foldL 0 [] false (rowsR [] 0 (raw l))
theorem splitRaw {l : List UInt8} (h : l ≠ []) : ∃ X R, raw l = X :: raw R ∧ X.length + R.length ≤ l.length ∧ R.length < l.length ∧ ((10 : UInt8) ∉ l → R = []) ∧ ((10 : UInt8) ∈ l → R = l.drop (posN 1 l) ∧ posN 1 l ≤ l.length) := by
  by_cases h10 : (10 : UInt8) ∈ l
  · obtain ⟨A, R, rfl, hA⟩ := split10 h10
    refine ⟨trimCR A, R, raw_line A R hA, ?_, by simp; omega, fun hn => absurd h10 hn, fun _ => ?_⟩
    · have : (trimCR A).length ≤ A.length := by unfold trimCR; split <;> simp
      simp; omega
    · rw [posN_line 0 A R hA]
      show R = (A ++ 10 :: R).drop (A.length + 1 + 0) ∧ A.length + 1 + 0 ≤ _
      simp
  · refine ⟨l, [], raw_last h h10, by simp, ?_, fun _ => rfl, fun hn => absurd hn h10⟩
    cases l with
    | nil => exact absurd rfl h
    | cons a t => simp
theorem raw_len : ∀ (n : Nat) (l : List UInt8), l.length ≤ n → (raw l).length ≤ l.length
  | n, l, h => by
    by_cases hne : l = []
    · subst hne; simp [raw_nil]
    · obtain ⟨X, R, h1, h2, h3, _⟩ := splitRaw hne
      rw [h1, List.length_cons]
      match n, h with
      | 0, h => have : l = [] := List.eq_nil_of_length_eq_zero (by omega); exact absurd this hne
      | n + 1, h =>
        have := raw_len n R (by omega)
        omega
def sumL (ls : List (List UInt8)) : Nat := (ls.map List.length).sum
theorem raw_sum : ∀ (n : Nat) (l : List UInt8), l.length ≤ n → sumL (raw l) ≤ l.length
  | n, l, h => by
    by_cases hne : l = []
    · subst hne; simp [raw_nil, sumL]
    · obtain ⟨X, R, h1, h2, h3, _⟩ := splitRaw hne
      rw [h1]
      match n, h with
      | 0, h => have : l = [] := List.eq_nil_of_length_eq_zero (by omega); exact absurd this hne
      | n + 1, h =>
        have := raw_sum n R (by omega)
        unfold sumL at this ⊢
        rw [List.map_cons, List.sum_cons]
        omega
/-- what the program's rows are: how many, how long, their numbers -/
theorem rowsP_all (M : Nat) : ∀ (ls : List (List UInt8)) (acc : List Row) (no : Nat), (∀ x ∈ acc, x.text.length + sumL ls ≤ M ∧ 0 < x.no ∧ x.lost = false) → sumL ls ≤ M →
    (rowsP acc no ls).1.length ≤ acc.length + ls.length ∧ (∀ x ∈ (rowsP acc no ls).1, x.text.length ≤ M ∧ 0 < x.no ∧ x.lost = false) ∧ ∀ k, (rowsP acc no ls).2 = some k → no < k ∧ k ≤ no + ls.length
  | [], acc, no, h, hs => ⟨by show acc.length ≤ _; simp, fun x hx => ⟨by have := (h x hx).1; omega, (h x hx).2⟩, fun k hk => by unfold rowsP at hk; cases hk⟩
  | t :: r, acc, no, h, hs => by
    have hsum : sumL (t :: r) = t.length + sumL r := by unfold sumL; simp
    rw [hsum] at h hs
    have hstop : (∀ x ∈ acc, x.text.length ≤ M ∧ 0 < x.no ∧ x.lost = false) := fun x hx => ⟨by have := (h x hx).1; omega, (h x hx).2⟩
    unfold rowsP
    by_cases hg : goes t = false
    · rw [if_pos hg]
      obtain ⟨h1, h2, h3⟩ := rowsP_all M r (acc ++ [⟨t, no + 1, false⟩]) (no + 1) (fun x hx => by
        rcases List.mem_append.1 hx with hx | hx
        · have := h x hx; exact ⟨by omega, this.2⟩
        · simp only [List.mem_singleton] at hx; subst hx; exact ⟨by show t.length + _ ≤ _; omega, by show 0 < no + 1; omega, rfl⟩) (by omega)
      refine ⟨by simp at h1 ⊢; omega, h2, fun k hk => ?_⟩
      have := h3 k hk
      simp; omega
    · rw [if_neg hg]
      cases hl : acc.getLast? with
      | none => exact ⟨by simp only []; omega, hstop, fun k hk => by simp only [Option.some.injEq] at hk; subst hk; simp⟩
      | some x =>
        simp only
        by_cases he : x.text = []
        · rw [if_pos he]
          exact ⟨by simp only []; omega, hstop, fun k hk => by simp only [Option.some.injEq] at hk; subst hk; simp⟩
        · rw [if_neg he]
          have hxm : x ∈ acc := List.mem_of_getLast? hl
          have hlen : acc.dropLast.length + 1 = acc.length := by
            rw [List.length_dropLast]
            have : 0 < acc.length := List.length_pos_of_mem hxm
            omega
          obtain ⟨h1, h2, h3⟩ := rowsP_all M r (acc.dropLast ++ [⟨x.text ++ t.drop 1, x.no, false⟩]) (no + 1) (fun y hy => by
            rcases List.mem_append.1 hy with hy | hy
            · have := h y (List.dropLast_subset _ hy); exact ⟨by omega, this.2⟩
            · simp only [List.mem_singleton] at hy
              subst hy
              have := h x hxm
              exact ⟨by show (x.text ++ t.drop 1).length + _ ≤ _; rw [List.length_append, List.length_drop]; omega, this.2.1, rfl⟩) (by omega)
          refine ⟨by rw [List.length_append, List.length_singleton] at h1; rw [List.length_cons]; omega, h2, fun k hk => ?_⟩
          have := h3 k hk
          simp; omega
/-- the same of the reference's -/
theorem rowsR_all (M : Nat) : ∀ (ls : List (List UInt8)) (acc : List Row) (no : Nat), (∀ x ∈ acc, x.text.length + sumL ls ≤ M) → sumL ls ≤ M →
    (rowsR acc no ls).length ≤ acc.length + ls.length ∧ (∀ x ∈ rowsR acc no ls, x.text.length ≤ M)
  | [], acc, no, h, hs => ⟨by show acc.length ≤ _; simp, fun x hx => by have := h x hx; omega⟩
  | t :: r, acc, no, h, hs => by
    have hsum : sumL (t :: r) = t.length + sumL r := by unfold sumL; simp
    rw [hsum] at h hs
    have happ : ∀ b, (∀ x ∈ acc ++ [(⟨t, no + 1, b⟩ : Row)], x.text.length + sumL r ≤ M) := fun b x hx => by
      rcases List.mem_append.1 hx with hx | hx
      · have := h x hx; omega
      · simp only [List.mem_singleton] at hx; subst hx; show t.length + _ ≤ _; omega
    unfold rowsR
    by_cases hg : goes t = false
    · rw [if_pos hg]
      obtain ⟨h1, h2⟩ := rowsR_all M r (acc ++ [⟨t, no + 1, false⟩]) (no + 1) (happ _) (by omega)
      exact ⟨by simp at h1 ⊢; omega, h2⟩
    · rw [if_neg hg]
      have hlost : (rowsR (acc ++ [⟨t, no + 1, true⟩]) (no + 1) r).length ≤ acc.length + (t :: r).length ∧ (∀ x ∈ rowsR (acc ++ [⟨t, no + 1, true⟩]) (no + 1) r, x.text.length ≤ M) := by
        obtain ⟨h1, h2⟩ := rowsR_all M r (acc ++ [⟨t, no + 1, true⟩]) (no + 1) (happ _) (by omega)
        exact ⟨by simp at h1 ⊢; omega, h2⟩
      cases hl : acc.getLast? with
      | none => exact hlost
      | some x =>
        simp only
        by_cases he : x.text = [] ∨ x.lost = true
        · rw [if_pos he]
          exact hlost
        · rw [if_neg he]
          have hxm : x ∈ acc := List.mem_of_getLast? hl
          have hlen : acc.dropLast.length + 1 = acc.length := by
            rw [List.length_dropLast]
            have : 0 < acc.length := List.length_pos_of_mem hxm
            omega
          obtain ⟨h1, h2⟩ := rowsR_all M r (acc.dropLast ++ [⟨x.text ++ t.drop 1, x.no, false⟩]) (no + 1) (fun y hy => by
            rcases List.mem_append.1 hy with hy | hy
            · have := h y (List.dropLast_subset _ hy); omega
            · simp only [List.mem_singleton] at hy
              subst hy
              have := h x hxm
              show (x.text ++ t.drop 1).length + _ ≤ _; rw [List.length_append, List.length_drop]; omega) (by omega)
          exact ⟨by rw [List.length_append, List.length_singleton] at h1; rw [List.length_cons]; omega, h2⟩
/-- what is told is a row's number -/
theorem foldL_pos : ∀ (rows : List Row) (i : Nat) (recs : List Rec) (op : Bool) (k : Nat), (∀ x ∈ rows, 0 < x.no) → foldL i recs op rows = .inl k → 0 < k
  | [], i, recs, op, k, h, e => by unfold foldL foldR at e; cases e
  | x :: r, i, recs, op, k, h, e => by
    have hx := h x (by simp)
    have hr : ∀ y ∈ r, 0 < y.no := fun y hy => h y (by simp [hy])
    unfold foldL foldR at e
    split at e
    · cases e; exact hx
    · split at e
      · exact foldL_pos r _ _ _ k hr e
      · split at e
        · exact foldL_pos r _ _ _ k hr e
        · split at e
          · cases e; exact hx
          · split at e
            · cases e; exact hx
            · split at e
              · exact foldL_pos r _ _ _ k hr e
              · exact foldL_pos r _ _ _ k hr e
/-- the text from behind n lines on -/
theorem raw_drop : ∀ (n : Nat) (l : List UInt8), n < (raw l).length → raw (l.drop (posN n l)) = (raw l).drop n ∧ posN n l ≤ l.length
  | 0, l, _ => by simp [posN]
  | n + 1, l, h => by
    by_cases h10 : (10 : UInt8) ∈ l
    · obtain ⟨a, r, rfl, ha⟩ := split10 h10
      rw [raw_line a r ha] at h ⊢
      simp only [List.length_cons] at h
      rw [posN_line n a r ha, List.drop_succ_cons]
      obtain ⟨i1, i2⟩ := raw_drop n r (by omega)
      have e : (a ++ 10 :: r).drop (a.length + 1 + posN n r) = r.drop (posN n r) := by
        rw [Nat.add_assoc, List.drop_append, List.drop_of_length_le (by omega), show a.length + (1 + posN n r) - a.length = posN n r + 1 from by omega, List.drop_succ_cons]
        rfl
      rw [e]
      exact ⟨i1, by simp; omega⟩
    · exfalso
      by_cases hne : l = []
      · subst hne; rw [raw_nil] at h; simp at h
      · rw [raw_last hne h10] at h; simp at h
theorem posN_succ : ∀ (n : Nat) (l : List UInt8), n + 1 < (raw l).length → ∃ A R, l.drop (posN n l) = A ++ 10 :: R ∧ (10 : UInt8) ∉ A ∧ posN (n + 1) l = posN n l + A.length + 1
  | 0, l, h => by
    by_cases h10 : (10 : UInt8) ∈ l
    · obtain ⟨a, r, rfl, ha⟩ := split10 h10
      refine ⟨a, r, rfl, ha, ?_⟩
      rw [posN_line 0 a r ha]
      show a.length + 1 + 0 = 0 + a.length + 1
      omega
    · exfalso
      by_cases hne : l = []
      · subst hne; rw [raw_nil] at h; simp at h
      · rw [raw_last hne h10] at h; simp at h
  | n + 1, l, h => by
    by_cases h10 : (10 : UInt8) ∈ l
    · obtain ⟨a, r, rfl, ha⟩ := split10 h10
      rw [raw_line a r ha] at h
      simp only [List.length_cons] at h
      obtain ⟨A, R, i1, i2, i3⟩ := posN_succ n r (by omega)
      refine ⟨A, R, ?_, i2, ?_⟩
      · rw [posN_line n a r ha, ← i1, Nat.add_assoc, List.drop_append, List.drop_of_length_le (by omega), show a.length + (1 + posN n r) - a.length = posN n r + 1 from by omega, List.drop_succ_cons]
        rfl
      · rw [posN_line (n + 1) a r ha, posN_line n a r ha, i3]
        omega
    · exfalso
      by_cases hne : l = []
      · subst hne; rw [raw_nil] at h; simp at h
      · rw [raw_last hne h10] at h; simp at h
end ldp
end Go.Proofs.YtifplgnabkkbjaaDoor
