/- The plain law of letters and digits: what Encode, Decode, Hex, Unhex compute, on lists of bytes; no program in sight. -/
import Derived.Test.YtifplgnabkkbjaaDoorKit
namespace Go.Proofs.YtifplgnabkkbjaaDoor
namespace b64p
set_option linter.unusedVariables false
/-- the digits of base 16 -/
def digits : List UInt8 := [48, 49, 50, 51, 52, 53, 54, 55, 56, 57, 97, 98, 99, 100, 101, 102]
def dg (n : Nat) : UInt8 := digits.getD n 0
def hex : List UInt8 → List UInt8
  | [] => []
  | c :: l => dg (c.toNat / 16) :: dg (c.toNat % 16) :: hex l
theorem hex_append (a b : List UInt8) : hex (a ++ b) = hex a ++ hex b := by
  induction a with
  | nil => rfl
  | cons c a ih => simp [hex, ih]
theorem hex_length (l : List UInt8) : (hex l).length = 2 * l.length := by
  induction l with
  | nil => rfl
  | cons c a ih => simp [hex, ih]; omega
/-- the letters -/
def letters : List UInt8 := [65, 66, 67, 68, 69, 70, 71, 72, 73, 74, 75, 76, 77, 78, 79, 80, 81, 82, 83, 84, 85, 86, 87, 88, 89, 90, 97, 98, 99, 100, 101, 102, 103, 104, 105, 106, 107, 108, 109, 110, 111, 112, 113, 114, 115, 116, 117, 118, 119, 120, 121, 122, 48, 49, 50, 51, 52, 53, 54, 55, 56, 57, 43, 47]
def lt (n : Nat) : UInt8 := letters.getD (n % 64) 0
/-- three bytes as a number, read so far -/
def numAt (l : List UInt8) : Nat → Nat
  | 0 => 0
  | j + 1 => 256 * numAt l j + (l.getD j 0).toNat
def sign (n sz j : Nat) : UInt8 := if sz < j then 61 else lt (n / 2 ^ (18 - 6 * j))
def four (l : List UInt8) : List UInt8 := (List.range 4).map (sign (numAt l 3) l.length)
def enc (l : List UInt8) : List UInt8 :=
  if h : l = [] then [] else four l ++ enc (l.drop 3)
termination_by l.length
decreasing_by
  have : l.length ≠ 0 := fun e => h (List.eq_nil_of_length_eq_zero e)
  simp; omega
theorem enc_nil : enc [] = [] := by unfold enc; simp
theorem enc_cons {l : List UInt8} (h : l ≠ []) : enc l = four l ++ enc (l.drop 3) := by
  conv => lhs; unfold enc
  rw [dif_neg h]
theorem numAt_lt (l : List UInt8) : ∀ j, numAt l j < 256 ^ j
  | 0 => by simp [numAt]
  | j + 1 => by
    have := numAt_lt l j
    have h2 := (l.getD j 0).toNat_lt
    simp only [numAt, Nat.pow_succ]
    omega
theorem four_length (l : List UInt8) : (four l).length = 4 := by simp [four]
theorem four_take (l : List UInt8) (j : Nat) (hj : j < 4) : (four l).take (j + 1) = (four l).take j ++ [sign (numAt l 3) l.length j] := by
  rw [List.take_succ_eq_append_getElem (by rw [four_length]; exact hj)]
  simp [four]
theorem enc_length : ∀ (n : Nat) (l : List UInt8), l.length ≤ n → (enc l).length ≤ 2 * l.length + 2 ∧ (enc l).length % 4 = 0
  | 0, l, h => by
    have : l = [] := List.eq_nil_of_length_eq_zero (by omega)
    subst this
    simp [enc_nil]
  | n + 1, l, h => by
    by_cases hl : l = []
    · subst hl; simp [enc_nil]
    · have hpos : 0 < l.length := List.length_pos_iff.2 hl
      have ih := enc_length n (l.drop 3) (by simp; omega)
      rw [enc_cons hl, List.length_append, four_length]
      simp only [List.length_drop] at ih
      by_cases h3 : l.length ≤ 3
      · have : (l.drop 3) = [] := List.drop_eq_nil_of_le h3
        rw [this, enc_nil]
        simp; omega
      · omega
/-- pieces of width W, and what is still to be cut -/
def Good (W : Nat) (ts : List (List UInt8)) (rest l : List UInt8) : Prop :=
  (∀ i (h : i < ts.length), 1 ≤ ts[i].length ∧ ts[i].length ≤ W ∧ (i + 1 < ts.length ∨ rest ≠ [] → ts[i].length = W)) ∧ ts.flatten ++ rest = l
theorem good_nil (W : Nat) (l : List UInt8) : Good W [] l l := ⟨fun i h => absurd h (by simp), rfl⟩
theorem good_step {W : Nat} (hW : 1 ≤ W) {ts : List (List UInt8)} {rest l : List UInt8} (h : Good W ts rest l) (hne : rest ≠ []) :
    Good W (ts ++ [rest.take (min W rest.length)]) (rest.drop (min W rest.length)) l := by
  have hpos : 0 < rest.length := List.length_pos_iff.2 hne
  refine ⟨fun i hi => ?_, ?_⟩
  · simp only [List.length_append, List.length_singleton] at hi
    by_cases hlt : i < ts.length
    · rw [List.getElem_append_left hlt]
      obtain ⟨a, b, c⟩ := h.1 i hlt
      exact ⟨a, b, fun _ => c (Or.inr hne)⟩
    · obtain rfl : i = ts.length := by omega
      rw [List.getElem_append_right (Nat.le_refl _)]
      simp only [Nat.sub_self, List.getElem_singleton, List.length_take, List.length_append, List.length_singleton]
      refine ⟨by omega, by omega, fun hh => ?_⟩
      rcases hh with hh | hh
      · omega
      · have : 0 < (rest.drop (min W rest.length)).length := List.length_pos_iff.2 hh
        rw [List.length_drop] at this
        omega
  · rw [List.flatten_append, List.append_assoc]
    simp only [List.flatten_singleton, List.take_append_drop]
    exact h.2
theorem flat_count : ∀ (ts : List (List UInt8)), (∀ t ∈ ts, 1 ≤ t.length) → ts.length ≤ ts.flatten.length
  | [], _ => by simp
  | t :: ts, h => by
    have := flat_count ts (fun x hx => h x (List.mem_cons_of_mem _ hx))
    have h1 := h t List.mem_cons_self
    simp only [List.length_cons, List.flatten_cons, List.length_append]
    omega
theorem good_count {W : Nat} {ts : List (List UInt8)} {rest l : List UInt8} (h : Good W ts rest l) : ts.length ≤ l.length := by
  have h1 := flat_count ts (fun t ht => by obtain ⟨i, hi, rfl⟩ := List.mem_iff_getElem.1 ht; exact (h.1 i hi).1)
  have h2 := congrArg List.length h.2
  rw [List.length_append] at h2
  omega
/-- a width that takes all in gives one piece at the most -/
theorem good_one {W : Nat} {ts : List (List UInt8)} {l : List UInt8} (h : Good W ts [] l) (hW : l.length ≤ W) : ts.length ≤ 1 := by
  match ts, h with
  | [], _ => simp
  | [_], _ => simp
  | a :: b :: r, h =>
    have h0 := (h.1 0 (by simp)).2.2 (Or.inl (by simp))
    have h1 := (h.1 1 (by simp)).1
    have h2 := congrArg List.length h.2
    simp at h0 h1 h2
    omega
theorem flat_take (ts : List (List UInt8)) (i : Nat) (h : i < ts.length) : (ts.take (i + 1)).flatten = (ts.take i).flatten ++ ts[i] := by
  rw [List.take_succ_eq_append_getElem h, List.flatten_append]
  simp
theorem flat_mem (ts : List (List UInt8)) (i : Nat) (h : i < ts.length) : ts[i].length ≤ ts.flatten.length := by
  induction ts generalizing i with
  | nil => simp at h
  | cons t ts ih =>
    cases i with
    | zero => simp
    | succ i =>
      have := ih i (by simpa using h)
      simp only [List.getElem_cons_succ, List.flatten_cons, List.length_append]
      omega
/-- a digit's number; -1: it is none -/
def valI (c : UInt8) : Int :=
  if 48 ≤ c.toNat ∧ c.toNat ≤ 57 then c.toNat - 48 else if 97 ≤ c.toNat ∧ c.toNat ≤ 102 then c.toNat - 87 else if 65 ≤ c.toNat ∧ c.toNat ≤ 70 then c.toNat - 55 else -1
theorem valI_le (c : UInt8) : -1 ≤ valI c ∧ valI c ≤ 15 := by unfold valI; split <;> (try split) <;> (try split) <;> omega
def unhex : List UInt8 → Option (List UInt8)
  | [] => some []
  | [_] => none
  | a :: b :: r => if valI a < 0 ∨ valI b < 0 then none else (unhex r).map (UInt8.ofNat (16 * valI a + valI b).toNat :: ·)
theorem valI_dg (n : Nat) (h : n < 16) : valI (dg n) = n := by
  have all : ∀ m : Fin 16, valI (dg m.val) = m.val := by decide
  exact all ⟨n, h⟩
theorem unhex_hex (l : List UInt8) : unhex (hex l) = some l := by
  induction l with
  | nil => rfl
  | cons c l ih =>
    have hc := c.toNat_lt
    simp only [hex, unhex, ih]
    rw [valI_dg _ (by omega), valI_dg _ (by omega), if_neg (by omega)]
    simp only [Option.map_some, Option.some.injEq, List.cons.injEq, and_true]
    rw [show (16 * ((c.toNat / 16 : Nat) : Int) + ((c.toNat % 16 : Nat) : Int)).toNat = c.toNat from by omega]
    exact UInt8.ofNat_toNat
theorem unhex_odd : ∀ (n : Nat) (l : List UInt8), l.length ≤ n → l.length % 2 = 1 → unhex l = none
  | _, [], _, h => by simp at h
  | _, [_], _, _ => rfl
  | 0, _ :: _ :: _, h, _ => by simp at h
  | n + 1, a :: b :: r, h, hm => by
    simp only [unhex]
    rw [unhex_odd n r (by simp at h; omega) (by simp at hm; omega)]
    simp
theorem unhex_step (l : List UInt8) (i : Nat) (h : i + 1 < l.length) :
    unhex (l.drop i) = if valI l[i] < 0 ∨ valI l[i + 1] < 0 then none else (unhex (l.drop (i + 2))).map (UInt8.ofNat (16 * valI l[i] + valI l[i + 1]).toNat :: ·) := by
  rw [List.drop_eq_getElem_cons (i := i) (by omega), List.drop_eq_getElem_cons (i := i + 1) h]
  rfl
theorem unhex_last (l : List UInt8) (i : Nat) (h : i + 1 = l.length) : unhex (l.drop i) = none := by
  rw [List.drop_eq_getElem_cons (i := i) (by omega), List.drop_of_length_le (by omega)]
  rfl
/-- what Unhex returns -/
def uhV (o : Option (List UInt8)) : Value :=
  match o with
  | some l => .tuple #[.string ⟨l.toArray⟩, .int .i64 0]
  | none => .tuple #[.string ⟨#[]⟩, .int .i64 4]
end b64p
end Go.Proofs.YtifplgnabkkbjaaDoor
