/- A file's lines and its records: plain laws, no program (begun). -/
import Derived.Lib.Hide
namespace Go.Proofs.YtifplgnabkkbjaaDoor
namespace ldp
set_option linter.unusedVariables false
set_option linter.unusedSimpArgs false
/-- a line without the carriage return at its end -/
def trimCR (t : List UInt8) : List UInt8 := if t.getLast? = some 13 then t.dropLast else t
/-- the raw lines of a text -/
def rawF : Nat → List UInt8 → List (List UInt8)
  | 0, _ => []
  | f + 1, l => if l = [] then [] else match l.dropWhile (· ≠ 10) with
    | [] => [l]
    | _ :: r => trimCR (l.takeWhile (· ≠ 10)) :: rawF f r
def raw (l : List UInt8) : List (List UInt8) := rawF l.length l
/-- a row: its text, the number of its first line, whether it goes on with nothing -/
structure Row where
  text : List UInt8
  no : Nat
  lost : Bool
/-- does a line go on with the one ahead? -/
def goes (t : List UInt8) : Bool := decide (t.head? = some 32)
/-- the reference's rows -/
def rowsR : List Row → Nat → List (List UInt8) → List Row
  | acc, _, [] => acc
  | acc, no, t :: r => if goes t = false then rowsR (acc ++ [⟨t, no + 1, false⟩]) (no + 1) r else match acc.getLast? with
    | none => rowsR (acc ++ [⟨t, no + 1, true⟩]) (no + 1) r
    | some x => if x.text = [] ∨ x.lost = true then rowsR (acc ++ [⟨t, no + 1, true⟩]) (no + 1) r else rowsR (acc.dropLast ++ [⟨x.text ++ t.drop 1, x.no, false⟩]) (no + 1) r
/-- the program's rows; none with a number: that line goes on with nothing -/
def rowsP : List Row → Nat → List (List UInt8) → List Row × Option Nat
  | acc, _, [] => (acc, none)
  | acc, no, t :: r => if goes t = false then rowsP (acc ++ [⟨t, no + 1, false⟩]) (no + 1) r else match acc.getLast? with
    | none => (acc, some (no + 1))
    | some x => if x.text = [] then (acc, some (no + 1)) else rowsP (acc.dropLast ++ [⟨x.text ++ t.drop 1, x.no, false⟩]) (no + 1) r
theorem last_append (A : List Row) (z : Row) : (A ++ [z]).getLast? = some z := by simp
/-- what stands ahead of a lost row, and it, stay as they are -/
theorem rowsR_keeps : ∀ (ls : List (List UInt8)) (A : List Row) (z : Row) (C : List Row) (no : Nat), z.lost = true → ∃ D, rowsR (A ++ z :: C) no ls = A ++ z :: D
  | [], A, z, C, no, hz => ⟨C, rfl⟩
  | t :: r, A, z, C, no, hz => by
    have happ : ∀ y : Row, (A ++ z :: C) ++ [y] = A ++ z :: (C ++ [y]) := fun y => by simp
    unfold rowsR
    by_cases hg : goes t = false
    · rw [if_pos hg, happ]
      exact rowsR_keeps r A z _ (no + 1) hz
    · rw [if_neg hg]
      rcases List.eq_nil_or_concat C with rfl | ⟨C', y, rfl⟩
      · rw [last_append]
        simp only [hz, or_true, if_true]
        rw [happ]
        exact rowsR_keeps r A z _ (no + 1) hz
      · rw [List.concat_eq_append] at happ ⊢
        have e : A ++ z :: (C' ++ [y]) = (A ++ z :: C') ++ [y] := by simp
        rw [e, last_append]
        simp only []
        split
        · rw [← e, happ]
          exact rowsR_keeps r A z _ (no + 1) hz
        · rw [List.dropLast_concat]
          have e2 : (A ++ z :: C') ++ [⟨y.text ++ t.drop 1, y.no, false⟩] = A ++ z :: (C' ++ [⟨y.text ++ t.drop 1, y.no, false⟩]) := by simp
          rw [e2]
          exact rowsR_keeps r A z _ (no + 1) hz
/-- what the two leave, where the program stops at line k -/
def Stops (R P : List Row) (k : Nat) : Prop := (∀ x ∈ P, x.lost = false) ∧ ∃ t D, R = P ++ (⟨t, k, true⟩ : Row) :: D
/-- while no row is lost the two go alike; the first lost one is where the program stops -/
theorem rows_alike : ∀ (ls : List (List UInt8)) (acc : List Row) (no : Nat), (∀ x ∈ acc, x.lost = false) →
    ((rowsP acc no ls).2 = none ∧ rowsR acc no ls = (rowsP acc no ls).1 ∧ ∀ x ∈ (rowsP acc no ls).1, x.lost = false) ∨
    (∃ k, (rowsP acc no ls).2 = some k ∧ Stops (rowsR acc no ls) (rowsP acc no ls).1 k)
  | [], acc, no, h => Or.inl ⟨rfl, rfl, h⟩
  | t :: r, acc, no, h => by
    have hstop : Stops (rowsR (acc ++ [⟨t, no + 1, true⟩]) (no + 1) r) acc (no + 1) := by
      obtain ⟨D, hD⟩ := rowsR_keeps r acc ⟨t, no + 1, true⟩ [] (no + 1) rfl
      exact ⟨h, t, D, hD⟩
    unfold rowsP rowsR
    by_cases hg : goes t = false
    · rw [if_pos hg, if_pos hg]
      exact rows_alike r _ (no + 1) (fun x hx => by
        rcases List.mem_append.1 hx with hx | hx
        · exact h x hx
        · simp only [List.mem_singleton] at hx; rw [hx])
    · rw [if_neg hg, if_neg hg]
      cases hl : acc.getLast? with
      | none => exact Or.inr ⟨no + 1, rfl, hstop⟩
      | some x =>
        have hx : x ∈ acc := List.mem_of_getLast? hl
        have hxl := h x hx
        simp only [hxl]
        by_cases he : x.text = []
        · simp only [he, true_or, if_true]
          exact Or.inr ⟨no + 1, rfl, hstop⟩
        · simp only [he, false_or, if_false, Bool.false_eq_true]
          exact rows_alike r _ (no + 1) (fun y hy => by
            rcases List.mem_append.1 hy with hy | hy
            · exact h y (List.dropLast_subset _ hy)
            · simp only [List.mem_singleton] at hy; rw [hy])
theorem rowsP_take : ∀ (ls : List (List UInt8)) (acc : List Row) (no k : Nat), (rowsP acc no ls).2 = some k → no < k ∧ rowsP acc no (ls.take (k - 1 - no)) = ((rowsP acc no ls).1, none)
  | [], acc, no, k, h => by unfold rowsP at h; cases h
  | t :: r, acc, no, k, h => by
    unfold rowsP at h ⊢
    by_cases hg : goes t = false
    · rw [if_pos hg] at h ⊢
      obtain ⟨h1, h2⟩ := rowsP_take r _ (no + 1) k h
      refine ⟨by omega, ?_⟩
      rw [show k - 1 - no = (k - 1 - (no + 1)) + 1 from by omega, List.take_succ_cons]
      show (if goes t = false then _ else _) = _
      rw [if_pos hg, h2]
    · rw [if_neg hg] at h ⊢
      cases hl : acc.getLast? with
      | none =>
        rw [hl] at h
        simp only [Option.some.injEq] at h
        subst h
        exact ⟨by omega, by rw [show no + 1 - 1 - no = 0 from by omega]; rfl⟩
      | some x =>
        rw [hl] at h
        simp only at h ⊢
        by_cases he : x.text = []
        · rw [if_pos he] at h ⊢
          simp only [Option.some.injEq] at h
          subst h
          exact ⟨by omega, by rw [show no + 1 - 1 - no = 0 from by omega]; rfl⟩
        · rw [if_neg he] at h ⊢
          obtain ⟨h1, h2⟩ := rowsP_take r _ (no + 1) k h
          refine ⟨by omega, ?_⟩
          rw [show k - 1 - no = (k - 1 - (no + 1)) + 1 from by omega, List.take_succ_cons]
          show (if goes t = false then _ else _) = _
          rw [if_neg hg, hl]
          simp only [if_neg he]
          exact h2
/-- a record, and what becomes of the rows; inl: the number of the line that is none of one -/
structure Rec where
  name : List UInt8
  pairs : List (List UInt8 × List UInt8)
section
variable (pr : List UInt8 → Option (List UInt8 × List UInt8)) (isName : List UInt8 → Bool) (skip : Nat → List UInt8 → Bool)
def addPair (recs : List Rec) (a : List UInt8 × List UInt8) : List Rec := match recs.getLast? with
  | none => recs
  | some x => recs.dropLast ++ [⟨x.name, x.pairs ++ [a]⟩]
def foldR : Nat → List Rec → Bool → List Row → Nat ⊕ List Rec
  | _, recs, _, [] => .inr recs
  | i, recs, op, x :: r => if x.lost = true then .inl x.no else if skip i x.text = true then foldR (i + 1) recs op r else if x.text = [] then foldR (i + 1) recs false r else match pr x.text with
    | none => .inl x.no
    | some a => if isName a.1 = op then .inl x.no else if op = true then foldR (i + 1) (addPair recs a) true r else foldR (i + 1) (recs ++ [⟨a.2, []⟩]) true r
/-- where a row is lost, what stands ahead of it decides, or it -/
theorem fold_stop : ∀ (P : List Row) (i : Nat) (recs : List Rec) (op : Bool) (z : Row) (D : List Row), (∀ x ∈ P, x.lost = false) → z.lost = true →
    foldR pr isName skip i recs op (P ++ z :: D) = match foldR pr isName skip i recs op P with
      | .inl k => .inl k
      | .inr _ => .inl z.no
  | [], i, recs, op, z, D, h, hz => by
    show foldR pr isName skip i recs op (z :: D) = _
    unfold foldR
    rw [if_pos hz]
  | x :: P, i, recs, op, z, D, h, hz => by
    have hx := h x (by simp)
    have hP : ∀ y ∈ P, y.lost = false := fun y hy => h y (by simp [hy])
    rw [List.cons_append]
    unfold foldR
    simp only [hx, Bool.false_eq_true, if_false]
    split
    · exact fold_stop P _ _ _ z D hP hz
    · split
      · exact fold_stop P _ _ _ z D hP hz
      · cases hpr : pr x.text with
        | none => rfl
        | some a =>
          simp only
          split
          · rfl
          · split
            · exact fold_stop P _ _ _ z D hP hz
            · exact fold_stop P _ _ _ z D hP hz
/-- THE REFERENCE's WAY AND THE PROGRAM's TELL THE SAME -/
theorem parse_alike (ls : List (List UInt8)) : foldR pr isName skip 0 [] false (rowsR [] 0 ls) = match (rowsP [] 0 ls).2 with
    | none => foldR pr isName skip 0 [] false (rowsP [] 0 ls).1
    | some k => match foldR pr isName skip 0 [] false (rowsP [] 0 ls).1 with
      | .inl j => .inl j
      | .inr _ => .inl k := by
  rcases rows_alike ls [] 0 (by simp) with ⟨h1, h2, _⟩ | ⟨k, h1, h2, t, D, h3⟩
  · rw [h1, h2]
  · rw [h1, h3, fold_stop pr isName skip _ _ _ _ _ _ h2 rfl]
end
/-! ### the text ahead of a line -/
theorem rawF_more : ∀ (f g : Nat) (l : List UInt8), l.length ≤ f → l.length ≤ g → rawF f l = rawF g l
  | 0, g, l, h, _ => by
    have : l = [] := List.eq_nil_of_length_eq_zero (by omega)
    subst this
    cases g <;> rfl
  | f + 1, 0, l, _, h => by
    have : l = [] := List.eq_nil_of_length_eq_zero (by omega)
    subst this
    rfl
  | f + 1, g + 1, l, h, h' => by
    unfold rawF
    split
    · rfl
    · rename_i hne
      cases hd : l.dropWhile (fun c => decide (c ≠ 10)) with
      | nil => rfl
      | cons c r =>
        simp only
        have hl : r.length < l.length := by
          have h1 := congrArg List.length (List.takeWhile_append_dropWhile (p := fun c : UInt8 => decide (c ≠ 10)) (l := l))
          rw [hd, List.length_append, List.length_cons] at h1
          omega
        rw [rawF_more f g r (by omega) (by omega)]
theorem raw_line (a r : List UInt8) (h : (10 : UInt8) ∉ a) : raw (a ++ 10 :: r) = trimCR a :: raw r := by
  have h1 : ∀ (b : List UInt8), (10 : UInt8) ∉ b → (b ++ 10 :: r).takeWhile (fun c => decide (c ≠ 10)) = b ∧ (b ++ 10 :: r).dropWhile (fun c => decide (c ≠ 10)) = 10 :: r := by
    intro b
    induction b with
    | nil => intro _; simp
    | cons c b ih =>
      intro hb
      simp only [List.mem_cons, not_or] at hb
      obtain ⟨i1, i2⟩ := ih hb.2
      have hc : decide (c ≠ 10) = true := by simpa using Ne.symm hb.1
      rw [List.cons_append, List.takeWhile_cons, List.dropWhile_cons, if_pos hc, if_pos hc, i1, i2]
      exact ⟨rfl, rfl⟩
  obtain ⟨i1, i2⟩ := h1 a h
  unfold raw
  rw [show (a ++ 10 :: r).length = (a.length + r.length) + 1 from by simp; omega]
  show (if a ++ 10 :: r = [] then _ else _) = _
  rw [if_neg (by simp), i2, i1]
  simp only
  rw [rawF_more (a.length + r.length) r.length r (by omega) (Nat.le_refl _)]
theorem raw_nil : raw [] = [] := rfl
theorem raw_last {l : List UInt8} (hne : l ≠ []) (h : (10 : UInt8) ∉ l) : raw l = [l] := by
  have hd : l.dropWhile (fun c => decide (c ≠ 10)) = [] := by
    clear hne
    induction l with
    | nil => rfl
    | cons c l ih =>
      simp only [List.mem_cons, not_or] at h
      have hc : decide (c ≠ 10) = true := by simpa using Ne.symm h.1
      rw [List.dropWhile_cons, if_pos hc]
      exact ih h.2
  obtain ⟨c, t, rfl⟩ := List.exists_cons_of_ne_nil hne
  unfold raw
  show (if c :: t = [] then _ else _) = _
  rw [if_neg (by simp), hd]
theorem split10 {l : List UInt8} (h : (10 : UInt8) ∈ l) : ∃ a r, l = a ++ 10 :: r ∧ (10 : UInt8) ∉ a := by
  induction l with
  | nil => simp at h
  | cons c l ih =>
    by_cases e : c = 10
    · exact ⟨[], l, by rw [e]; rfl, by simp⟩
    · simp only [List.mem_cons] at h
      rcases h with h | h
      · exact absurd h.symm e
      · obtain ⟨a, r, h1, h2⟩ := ih h
        exact ⟨c :: a, r, by rw [h1]; rfl, by simp [Ne.symm e, h2]⟩
/-- the place behind n line ends -/
def posN : Nat → List UInt8 → Nat
  | 0, _ => 0
  | n + 1, l => (l.takeWhile (· ≠ 10)).length + 1 + posN n ((l.dropWhile (· ≠ 10)).drop 1)
theorem posN_line (n : Nat) (a r : List UInt8) (h : (10 : UInt8) ∉ a) : posN (n + 1) (a ++ 10 :: r) = a.length + 1 + posN n r := by
  have h1 : (a ++ 10 :: r).takeWhile (fun c => decide (c ≠ 10)) = a ∧ (a ++ 10 :: r).dropWhile (fun c => decide (c ≠ 10)) = 10 :: r := by
    induction a with
    | nil => simp
    | cons c b ih =>
      simp only [List.mem_cons, not_or] at h
      obtain ⟨i1, i2⟩ := ih h.2
      have hc : decide (c ≠ 10) = true := by simpa using Ne.symm h.1
      rw [List.cons_append, List.takeWhile_cons, List.dropWhile_cons, if_pos hc, if_pos hc, i1, i2]
      exact ⟨rfl, rfl⟩
  show ((a ++ 10 :: r).takeWhile (fun c => decide (c ≠ 10))).length + 1 + posN n (((a ++ 10 :: r).dropWhile (fun c => decide (c ≠ 10))).drop 1) = _
  rw [h1.1, h1.2]
  rfl
theorem raw_take : ∀ (n : Nat) (l : List UInt8), n < (raw l).length → raw (l.take (posN n l)) = (raw l).take n
  | 0, l, _ => by simp [posN, raw_nil]
  | n + 1, l, h => by
    by_cases h10 : (10 : UInt8) ∈ l
    · obtain ⟨a, r, rfl, ha⟩ := split10 h10
      rw [raw_line a r ha] at h ⊢
      simp only [List.length_cons] at h
      rw [posN_line n a r ha, List.take_succ_cons]
      have e : (a ++ 10 :: r).take (a.length + 1 + posN n r) = a ++ 10 :: r.take (posN n r) := by
        rw [Nat.add_assoc, List.take_append, List.take_of_length_le (by omega), show a.length + (1 + posN n r) - a.length = posN n r + 1 from by omega, List.take_succ_cons]
      rw [e, raw_line a _ ha, raw_take n r (by omega)]
    · exfalso
      by_cases hne : l = []
      · subst hne; rw [raw_nil] at h; simp at h
      · rw [raw_last hne h10] at h; simp at h
end ldp
end Go.Proofs.YtifplgnabkkbjaaDoor
