/- The plain law of the order of tuples. -/
import Derived.Test.YthbofgfdgpidcaaDoorTupP
namespace Go.Proofs.YthbofgfdgpidcaaDoor
namespace ord
open Go.Lib tup
theorem cmp_nil_cons (a : UInt8) (s : List UInt8) : compareBytes [] (a :: s) = -1 := rfl
theorem cmp_cons_nil (a : UInt8) (s : List UInt8) : compareBytes (a :: s) [] = 1 := rfl
theorem cmp_cons (a b : UInt8) (s t : List UInt8) : compareBytes (a :: s) (b :: t) = if a < b then -1 else if b < a then 1 else compareBytes s t := rfl
theorem cmp_same (a : UInt8) (s t : List UInt8) : compareBytes (a :: s) (a :: t) = compareBytes s t := by
  rw [cmp_cons]
  simp
theorem cmp_lt {a b : UInt8} (h : a < b) (s t : List UInt8) : compareBytes (a :: s) (b :: t) = -1 := by
  rw [cmp_cons, if_pos h]
theorem cmp_gt {a b : UInt8} (h : b < a) (s t : List UInt8) : compareBytes (a :: s) (b :: t) = 1 := by
  rw [cmp_cons, if_neg (fun h' => absurd h (by
    have h1 := UInt8.lt_iff_toNat_lt.1 h'
    intro h2
    have h3 := UInt8.lt_iff_toNat_lt.1 h2
    omega)), if_pos h]
theorem cmp_cases (a b : UInt8) : a < b ∨ b < a ∨ a = b := by
  rcases Nat.lt_trichotomy a.toNat b.toNat with h | h | h
  · exact Or.inl (UInt8.lt_iff_toNat_lt.2 h)
  · exact Or.inr (Or.inr (UInt8.toNat_inj.1 h))
  · exact Or.inr (Or.inl (UInt8.lt_iff_toNat_lt.2 h))
theorem cmp_three : ∀ a b : List UInt8, compareBytes a b = -1 ∨ compareBytes a b = 0 ∨ compareBytes a b = 1
  | [], [] => Or.inr (Or.inl rfl)
  | [], _ :: _ => Or.inl rfl
  | _ :: _, [] => Or.inr (Or.inr rfl)
  | a :: s, b :: t => by
    rcases cmp_cases a b with h | h | rfl
    · exact Or.inl (cmp_lt h s t)
    · exact Or.inr (Or.inr (cmp_gt h s t))
    · rw [cmp_same]; exact cmp_three s t
theorem cmp_neg : ∀ a b : List UInt8, compareBytes b a = - compareBytes a b
  | [], [] => rfl
  | [], _ :: _ => rfl
  | _ :: _, [] => rfl
  | a :: s, b :: t => by
    rcases cmp_cases a b with h | h | rfl
    · rw [cmp_lt h, cmp_gt h]; rfl
    · rw [cmp_gt h, cmp_lt h]
    · rw [cmp_same, cmp_same]; exact cmp_neg s t
theorem pos_of_ne {d : UInt8} (h : ¬ d = 0) : (0 : UInt8) < d := by
  rw [UInt8.lt_iff_toNat_lt]
  have : d.toNat ≠ (0 : UInt8).toNat := fun e => h (UInt8.toNat_inj.1 e)
  have h0 : (0 : UInt8).toNat = 0 := rfl
  omega
theorem esc_zero (r x : List UInt8) : esc (0 :: r) ++ x = 0 :: 255 :: (esc r ++ x) := by simp [esc]
theorem esc_ne {c : UInt8} (h : ¬ c = 0) (r x : List UInt8) : esc (c :: r) ++ x = c :: (esc r ++ x) := by simp [esc, h]
theorem cmp_part : ∀ (p q x y : List UInt8), compareBytes (esc p ++ (0 :: 1 :: x)) (esc q ++ (0 :: 1 :: y)) = if compareBytes p q = 0 then compareBytes x y else compareBytes p q
  | [], [], x, y => by
    show compareBytes (0 :: 1 :: x) (0 :: 1 :: y) = _
    rw [cmp_same, cmp_same]
    rfl
  | [], d :: q, x, y => by
    rw [cmp_nil_cons, if_neg (by decide)]
    show compareBytes (0 :: 1 :: x) _ = _
    by_cases hd : d = 0
    · subst hd
      rw [esc_zero, cmp_same, cmp_lt (by decide)]
    · rw [esc_ne hd, cmp_lt (pos_of_ne hd)]
  | c :: p, [], x, y => by
    rw [cmp_cons_nil, if_neg (by decide)]
    show compareBytes _ (0 :: 1 :: y) = _
    by_cases hc : c = 0
    · subst hc
      rw [esc_zero, cmp_same, cmp_gt (by decide)]
    · rw [esc_ne hc, cmp_gt (pos_of_ne hc)]
  | c :: p, d :: q, x, y => by
    by_cases hc : c = 0
    · subst hc
      by_cases hd : d = 0
      · subst hd
        rw [esc_zero, esc_zero, cmp_same, cmp_same, cmp_same, cmp_part p q x y]
      · rw [esc_zero, esc_ne hd, cmp_lt (pos_of_ne hd), cmp_lt (pos_of_ne hd)]
        rfl
    · by_cases hd : d = 0
      · subst hd
        rw [esc_zero, esc_ne hc, cmp_gt (pos_of_ne hc), cmp_gt (pos_of_ne hc)]
        rfl
      · rw [esc_ne hc, esc_ne hd]
        rcases cmp_cases c d with h | h | rfl
        · rw [cmp_lt h, cmp_lt h]; rfl
        · rw [cmp_gt h, cmp_gt h]; rfl
        · rw [cmp_same, cmp_same, cmp_part p q x y]
/-- two lists of texts, part by part -/
def cmpL : List ByteArray → List ByteArray → Int
  | [], [] => 0
  | [], _ :: _ => -1
  | _ :: _, [] => 1
  | a :: s, b :: t => if compareBytes a.data.toList b.data.toList = 0 then cmpL s t else compareBytes a.data.toList b.data.toList
theorem bytes_cons (p : ByteArray) (r : List ByteArray) : tup.bytes (p :: r) = esc p.data.toList ++ (0 :: 1 :: tup.bytes r) := by
  rw [tup.bytes, List.append_assoc]; rfl
theorem esc_not_nil (p x : List UInt8) : esc p ++ (0 :: 1 :: x) ≠ [] := by simp
theorem cmp_bytes : ∀ a b : List ByteArray, compareBytes (tup.bytes a) (tup.bytes b) = cmpL a b
  | [], [] => rfl
  | [], q :: b => by
    rw [bytes_cons]
    cases h : esc q.data.toList ++ (0 :: 1 :: tup.bytes b) with
    | nil => exact absurd h (esc_not_nil _ _)
    | cons x y => rfl
  | p :: a, [] => by
    rw [bytes_cons]
    cases h : esc p.data.toList ++ (0 :: 1 :: tup.bytes a) with
    | nil => exact absurd h (esc_not_nil _ _)
    | cons x y => rfl
  | p :: a, q :: b => by
    rw [bytes_cons, bytes_cons, cmp_part, cmp_bytes a b]
    rfl
theorem cmpL_neg : ∀ a b : List ByteArray, cmpL b a = - cmpL a b
  | [], [] => rfl
  | [], _ :: _ => rfl
  | _ :: _, [] => rfl
  | p :: a, q :: b => by
    show (if compareBytes q.data.toList p.data.toList = 0 then cmpL b a else compareBytes q.data.toList p.data.toList) = - (if compareBytes p.data.toList q.data.toList = 0 then cmpL a b else compareBytes p.data.toList q.data.toList)
    rw [cmp_neg p.data.toList q.data.toList, cmpL_neg a b]
    split <;> split <;> omega
theorem cmpL_three : ∀ a b : List ByteArray, cmpL a b = -1 ∨ cmpL a b = 0 ∨ cmpL a b = 1
  | [], [] => Or.inr (Or.inl rfl)
  | [], _ :: _ => Or.inl rfl
  | _ :: _, [] => Or.inr (Or.inr rfl)
  | p :: a, q :: b => by
    have e : cmpL (p :: a) (q :: b) = if compareBytes p.data.toList q.data.toList = 0 then cmpL a b else compareBytes p.data.toList q.data.toList := rfl
    rw [e]
    split
    · exact cmpL_three a b
    · exact cmp_three _ _
theorem pre_part : ∀ (p q x y : List UInt8), (esc p ++ (0 :: 1 :: x)) <+: (esc q ++ (0 :: 1 :: y)) ↔ p = q ∧ x <+: y
  | [], [], x, y => by
    show (0 :: 1 :: x) <+: (0 :: 1 :: y) ↔ _
    simp [List.cons_prefix_cons]
  | [], d :: q, x, y => by
    show (0 :: 1 :: x) <+: _ ↔ _
    by_cases hd : d = 0
    · subst hd
      rw [esc_zero]
      simp [List.cons_prefix_cons]
    · rw [esc_ne hd]
      simp [List.cons_prefix_cons]
      exact fun e => absurd e.symm hd
  | c :: p, [], x, y => by
    show _ <+: (0 :: 1 :: y) ↔ _
    by_cases hc : c = 0
    · subst hc
      rw [esc_zero]
      simp [List.cons_prefix_cons]
    · rw [esc_ne hc]
      simp [List.cons_prefix_cons]
      exact fun e => absurd e hc
  | c :: p, d :: q, x, y => by
    by_cases hc : c = 0
    · subst hc
      by_cases hd : d = 0
      · subst hd
        rw [esc_zero, esc_zero]
        simp only [List.cons_prefix_cons, true_and]
        rw [pre_part p q x y]
        simp
      · rw [esc_zero, esc_ne hd]
        simp only [List.cons_prefix_cons, List.cons.injEq]
        constructor
        · rintro ⟨e, _⟩; exact absurd e.symm hd
        · rintro ⟨⟨e, _⟩, _⟩; exact absurd e.symm hd
    · by_cases hd : d = 0
      · subst hd
        rw [esc_zero, esc_ne hc]
        simp only [List.cons_prefix_cons, List.cons.injEq]
        constructor
        · rintro ⟨e, _⟩; exact absurd e hc
        · rintro ⟨⟨e, _⟩, _⟩; exact absurd e hc
      · rw [esc_ne hc, esc_ne hd]
        simp only [List.cons_prefix_cons, List.cons.injEq]
        rw [pre_part p q x y]
        constructor
        · rintro ⟨e, f, g⟩; exact ⟨⟨e, f⟩, g⟩
        · rintro ⟨⟨e, f⟩, g⟩; exact ⟨e, f, g⟩
theorem pre_bytes : ∀ a b : List ByteArray, tup.bytes a <+: tup.bytes b ↔ a <+: b
  | [], b => by simp [tup.bytes]
  | p :: a, [] => by
    rw [bytes_cons]
    simp [tup.bytes]
  | p :: a, q :: b => by
    rw [bytes_cons, bytes_cons, pre_part, pre_bytes a b, List.cons_prefix_cons]
    constructor
    · rintro ⟨e, f⟩
      refine ⟨?_, f⟩
      cases p; cases q
      simp at e
      simp [e]
    · rintro ⟨rfl, f⟩
      exact ⟨rfl, f⟩
/-- what the reference's Begins answers -/
def begins (a b : List UInt8) : Bool := decide (a.length ≤ b.length) && decide (b.take a.length = a)
theorem begins_iff (a b : List UInt8) : begins a b = true ↔ a <+: b := by
  unfold begins
  simp only [Bool.and_eq_true, decide_eq_true_eq]
  constructor
  · rintro ⟨_, h⟩
    rw [← h]
    exact List.take_prefix _ _
  · intro h
    exact ⟨h.length_le, (List.prefix_iff_eq_take.1 h).symm⟩
def beginsL (a b : List ByteArray) : Bool := decide (a.length ≤ b.length) && decide (a = b.take a.length)
theorem beginsL_iff (a b : List ByteArray) : beginsL a b = true ↔ a <+: b := by
  unfold beginsL
  simp only [Bool.and_eq_true, decide_eq_true_eq]
  constructor
  · rintro ⟨_, h⟩
    rw [h]
    exact List.take_prefix _ _
  · intro h
    exact ⟨h.length_le, List.prefix_iff_eq_take.1 h⟩
theorem begins_bytes (a b : List ByteArray) : begins (tup.bytes a) (tup.bytes b) = beginsL a b := by
  rw [Bool.eq_iff_iff, begins_iff, beginsL_iff, pre_bytes]
/-- what Compare's loop leaves -/
theorem cmpL_drop (a b : List ByteArray) (i : Nat) (ha : i < a.length) (hb : i < b.length) : cmpL (a.drop i) (b.drop i) = if compareBytes a[i].data.toList b[i].data.toList = 0 then cmpL (a.drop (i + 1)) (b.drop (i + 1)) else compareBytes a[i].data.toList b[i].data.toList := by
  rw [List.drop_eq_getElem_cons ha, List.drop_eq_getElem_cons hb]
  rfl
theorem cmpL_end (a b : List ByteArray) (i : Nat) (hi : i ≤ a.length) (hb : i ≤ b.length) (h : a.length ≤ i ∨ b.length ≤ i) : cmpL (a.drop i) (b.drop i) = if a.length < b.length then -1 else if b.length < a.length then 1 else 0 := by
  by_cases h1 : a.length ≤ i
  · rw [List.drop_eq_nil_of_le h1]
    by_cases h2 : b.length ≤ i
    · rw [List.drop_eq_nil_of_le h2, if_neg (by omega), if_neg (by omega)]
      rfl
    · rw [List.drop_eq_getElem_cons (by omega), if_pos (by omega)]
      rfl
  · rw [List.drop_eq_nil_of_le (show b.length ≤ i by omega), List.drop_eq_getElem_cons (by omega), if_neg (by omega), if_pos (by omega)]
    rfl
theorem cmp_end (a b : List UInt8) (i : Nat) (hi : i ≤ a.length) (hb : i ≤ b.length) (h : a.length ≤ i ∨ b.length ≤ i) : compareBytes (a.drop i) (b.drop i) = if a.length < b.length then -1 else if b.length < a.length then 1 else 0 := by
  by_cases h1 : a.length ≤ i
  · rw [List.drop_eq_nil_of_le h1]
    by_cases h2 : b.length ≤ i
    · rw [List.drop_eq_nil_of_le h2, if_neg (by omega), if_neg (by omega)]
      rfl
    · rw [List.drop_eq_getElem_cons (by omega), if_pos (by omega)]
      rfl
  · rw [List.drop_eq_nil_of_le (show b.length ≤ i by omega), List.drop_eq_getElem_cons (by omega), if_neg (by omega), if_pos (by omega)]
    rfl
end ord
end Go.Proofs.YthbofgfdgpidcaaDoor
