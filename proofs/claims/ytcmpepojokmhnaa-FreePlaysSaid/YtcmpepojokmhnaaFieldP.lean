/- The plain law of numbers laid as bytes, the highest byte first; no program in sight. -/
import Derived.Test.YtcmpepojokmhnaaKit
namespace Go.Proofs.Ytcmpepojokmhnaa
namespace fld
set_option linter.unusedVariables false
/-- a number in k bytes -/
def be (n : Nat) : Nat → List UInt8
  | 0 => []
  | k + 1 => be (n / 256) k ++ [UInt8.ofNat n]
/-- the number of bytes -/
def num (l : List UInt8) : Nat := l.foldl (fun a c => a * 256 + c.toNat) 0
theorem be_length (n k : Nat) : (be n k).length = k := by
  induction k generalizing n with
  | zero => rfl
  | succ k ih => simp [be, ih]
theorem num_snoc (l : List UInt8) (c : UInt8) : num (l ++ [c]) = num l * 256 + c.toNat := by simp [num]
theorem num_be (k : Nat) : ∀ n, num (be n k) = n % 256 ^ k := by
  induction k with
  | zero => intro n; simp [be, num, Nat.mod_one]
  | succ k ih =>
    intro n
    rw [be, num_snoc, ih, UInt8.toNat_ofNat']
    have h := Nat.mod_mul (x := n) (a := 256) (b := 256 ^ k)
    rw [show 256 ^ (k + 1) = 256 * 256 ^ k from by rw [Nat.pow_succ, Nat.mul_comm], h]
    have : (2 : Nat) ^ 8 = 256 := by decide
    omega
theorem num_lt (l : List UInt8) : num l < 256 ^ l.length := by
  have h : ∀ (m : Nat) (l : List UInt8), l.length = m → num l < 256 ^ m := by
    intro m
    induction m with
    | zero => intro l hl; rw [List.eq_nil_of_length_eq_zero hl]; simp [num]
    | succ m ih =>
      intro l hl
      have hne : l ≠ [] := by intro e; rw [e] at hl; simp at hl
      rw [← List.dropLast_concat_getLast hne, num_snoc]
      have := ih l.dropLast (by simp [hl])
      have h2 := (l.getLast hne).toNat_lt
      rw [Nat.pow_succ]
      omega
  exact h _ l rfl
theorem be_num (l : List UInt8) : be (num l) l.length = l := by
  have h : ∀ (m : Nat) (l : List UInt8), l.length = m → be (num l) m = l := by
    intro m
    induction m with
    | zero => intro l hl; rw [List.eq_nil_of_length_eq_zero hl]; rfl
    | succ m ih =>
      intro l hl
      have hne : l ≠ [] := by intro e; rw [e] at hl; simp at hl
      have hs := List.dropLast_concat_getLast hne
      rw [← hs, num_snoc, be]
      have h2 := (l.getLast hne).toNat_lt
      rw [show (num l.dropLast * 256 + (l.getLast hne).toNat) / 256 = num l.dropLast from by omega, ih l.dropLast (by simp [hl])]
      congr 1
      congr 1
      apply UInt8.toNat_inj.1
      rw [UInt8.toNat_ofNat']
      omega
  exact h _ l rfl
/-- the bytes that a loop from the last one on lays: behind j places that are still noughts -/
def laid (n k j : Nat) : List UInt8 := List.replicate j 0 ++ (be n k).drop j
theorem laid_start (n k : Nat) : laid n k k = List.replicate k 0 := by
  unfold laid
  rw [List.drop_of_length_le (by rw [be_length]; exact Nat.le_refl _), List.append_nil]
theorem laid_end (n k : Nat) : laid n k 0 = be n k := by simp [laid]
theorem laid_length (n k j : Nat) (h : j ≤ k) : (laid n k j).length = k := by simp [laid, be_length]; omega
theorem be_get (k : Nat) : ∀ (n j : Nat) (h : j < k), (be n k)[j]'(by rw [be_length]; exact h) = UInt8.ofNat (n / 256 ^ (k - 1 - j)) := by
  induction k with
  | zero => intro n j h; omega
  | succ k ih =>
    intro n j h
    simp only [be]
    by_cases hj : j < k
    · rw [List.getElem_append_left (by rw [be_length]; exact hj), ih (n / 256) j hj]
      congr 1
      rw [Nat.div_div_eq_div_mul, show 256 * 256 ^ (k - 1 - j) = 256 ^ (k + 1 - 1 - j) from by rw [show k + 1 - 1 - j = (k - 1 - j) + 1 from by omega, Nat.pow_succ, Nat.mul_comm]]
    · obtain rfl : j = k := by omega
      rw [List.getElem_append_right (by rw [be_length]; exact Nat.le_refl _)]
      simp [be_length]
theorem laid_step (n k j : Nat) (h : j < k) : (laid n k (j + 1)).set j (UInt8.ofNat (n / 256 ^ (k - 1 - j))) = laid n k j := by
  unfold laid
  rw [List.replicate_succ', List.append_assoc, List.set_append_right _ _ (by simp)]
  simp only [List.length_replicate, Nat.sub_self, List.singleton_append, List.set_cons_zero]
  rw [List.drop_eq_getElem_cons (i := j) (by rw [be_length]; exact h), be_get k n j h]
/-- Put: the bytes behind a text; none: it is refused -/
def put (n : Nat) (size : Int) : Option (List UInt8) :=
  if size < 1 ∨ 8 < size then none else if 256 ^ size.toNat ≤ n then none else some (be n size.toNat)
/-- Take: the number of bytes, or why there is none -/
def take (s : List UInt8) (at' size : Int) : Except Int Nat :=
  if size < 1 ∨ 8 < size ∨ at' < 0 then .error 1 else if (s.length : Int) < at' + size then .error 3 else .ok (num ((s.drop at'.toNat).take size.toNat))
/-- TakeText -/
def takeT (s : List UInt8) (at' : Int) : Except Int (List UInt8 × Nat) :=
  match take s at' 2 with
  | .error e => .error e
  | .ok n => if s.length < at'.toNat + 2 + n then .error 3 else .ok ((s.drop (at'.toNat + 2)).take n, at'.toNat + 2 + n)
theorem u64_shl_or (N c : Nat) (hN : N < 72057594037927936) (hc : c < 256) : bits .or .u64 (IntKind.u64.wrap ((N : Int) * 256)) (c : Int) = ((256 * N + c : Nat) : Int) := by
  have e : IntKind.u64.wrap ((N : Int) * 256) = ((2 ^ 8 * N : Nat) : Int) := by
    rw [IntKind.wrap_u64]
    have : (2 : Nat) ^ 8 = 256 := by decide
    omega
  have p8 : (2 : Nat) ^ 8 = 256 := by decide
  rw [e, u64_or_nat _ _ (by omega) (by omega), ← Nat.two_pow_add_eq_or_of_lt (by omega), p8]
theorem u64_mul_add (N c : Nat) (hN : N < 72057594037927936) (hc : c < 256) : IntKind.u64.wrap (IntKind.u64.wrap ((N : Int) * 256) + (c : Int)) = ((256 * N + c : Nat) : Int) := by
  rw [IntKind.wrap_u64, IntKind.wrap_u64]
  omega
theorem num_small {l : List UInt8} {j : Nat} (h : (l.take j).length ≤ 7) : num (l.take j) < 72057594037927936 := by
  have h1 := num_lt (l.take j)
  have h2 : 256 ^ (l.take j).length ≤ 256 ^ 7 := Nat.pow_le_pow_right (by omega) h
  have h3 : (256 : Nat) ^ 7 = 72057594037927936 := by decide
  omega
theorem num_u64 {l : List UInt8} (h : l.length ≤ 8) : num l < 18446744073709551616 := by
  have h1 := num_lt l
  have h2 : 256 ^ l.length ≤ 256 ^ 8 := Nat.pow_le_pow_right (by omega) h
  have h3 : (256 : Nat) ^ 8 = 18446744073709551616 := by decide
  omega
theorem num_le {l : List UInt8} {k : Nat} (h : l.length ≤ k) : num l < 256 ^ k := Nat.lt_of_lt_of_le (num_lt l) (Nat.pow_le_pow_right (by omega) h)
end fld
end Go.Proofs.Ytcmpepojokmhnaa
