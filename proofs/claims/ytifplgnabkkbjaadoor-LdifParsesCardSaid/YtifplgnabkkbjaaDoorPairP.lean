/- A line's type and value: plain laws, no program. -/
import Derived.Test.YtifplgnabkkbjaaDoorLdifP
import Derived.Test.YtifplgnabkkbjaaDoorPlain2
namespace Go.Proofs.YtifplgnabkkbjaaDoor
namespace ldp
set_option linter.unusedVariables false
set_option linter.unusedSimpArgs false
/-- may a byte stand at place k of a type? -/
def tyAt (k : Nat) (c : UInt8) : Prop := (65 ≤ (c.toNat : Int) ∧ (c.toNat : Int) ≤ 90) ∨ (97 ≤ (c.toNat : Int) ∧ (c.toNat : Int) ≤ 122) ∨ (k ≠ 0 ∧ ((c.toNat : Int) = 45 ∨ (48 ≤ (c.toNat : Int) ∧ (c.toNat : Int) ≤ 57)))
instance (k : Nat) (c : UInt8) : Decidable (tyAt k c) := by unfold tyAt; infer_instance
def typeOK (l : List UInt8) : Bool := decide (l ≠ [] ∧ l.length ≤ 64 ∧ ∀ k (h : k < l.length), tyAt k l[k])
/-- may a byte not stand at place k of a plain value? -/
def plAt (k : Nat) (c : UInt8) : Prop := (c.toNat : Int) ≠ 0 ∧ (c.toNat : Int) ≤ 127 ∧ (c.toNat : Int) ≠ 10 ∧ (c.toNat : Int) ≠ 13 ∧ (k = 0 → (c.toNat : Int) ≠ 32 ∧ (c.toNat : Int) ≠ 58 ∧ (c.toNat : Int) ≠ 60)
instance (k : Nat) (c : UInt8) : Decidable (plAt k c) := by unfold plAt; infer_instance
def plainOK (l : List UInt8) : Bool := decide (∀ k (h : k < l.length), plAt k l[k])
/-- is a type that of a name? -/
def isDn (l : List UInt8) : Bool := l == [100, 110] || l == [68, 110] || l == [100, 78] || l == [68, 78]
/-- the pair of a line -/
def pairL (l : List UInt8) : Option (List UInt8 × List UInt8) :=
  match l.dropWhile (· ≠ 58) with
  | [] => none
  | _ :: r => if typeOK (l.takeWhile (· ≠ 58)) = true then
      (if r.head? = some 58 then (b64p.D (r.tail.dropWhile (· == 32))).map (fun v => (l.takeWhile (· ≠ 58), v))
      else if plainOK (r.dropWhile (· == 32)) = true then some (l.takeWhile (· ≠ 58), r.dropWhile (· == 32)) else none)
    else none
theorem typeOK_no {s : ByteArray} {k : Nat} (hk : k < s.size) (h : ¬ tyAt k s[k]) : false = typeOK s.data.toList := by
  symm
  unfold typeOK
  rw [decide_eq_false_iff_not]
  rintro ⟨_, _, h3⟩
  exact h (h3 k (by simpa using hk))
theorem typeOK_end {s : ByteArray} (h : ∀ k (hk : k < s.size), tyAt k s[k]) (h0 : s.size ≠ 0) (h1 : s.size ≤ 64) : true = typeOK s.data.toList := by
  symm
  unfold typeOK
  have hl : s.data.toList.length = s.size := by simp
  rw [decide_eq_true_iff]
  refine ⟨fun e => by rw [e] at hl; simp at hl; omega, by omega, fun k hk => h k (by omega)⟩
theorem typeOK_len {s : ByteArray} (h1 : s.size = 0 ∨ 64 < s.size) : false = typeOK s.data.toList := by
  symm
  unfold typeOK
  have hl : s.data.toList.length = s.size := by simp
  rw [decide_eq_false_iff_not]
  rintro ⟨h2, h3, _⟩
  rcases h1 with h1 | h1
  · exact h2 (List.eq_nil_of_length_eq_zero (by omega))
  · omega
theorem plainOK_no {s : ByteArray} {k : Nat} (hk : k < s.size) (h : ¬ plAt k s[k]) : false = plainOK s.data.toList := by
  symm
  unfold plainOK
  rw [decide_eq_false_iff_not]
  intro h3
  exact h (h3 k (by simpa using hk))
theorem plainOK_end {s : ByteArray} (h : ∀ k (hk : k < s.size), plAt k s[k]) : true = plainOK s.data.toList := by
  symm
  unfold plainOK
  rw [decide_eq_true_iff]
  exact fun k hk => h k (by simpa using hk)
theorem cutL {A R : List UInt8} {c : UInt8} (h : c ∉ A) : (A ++ c :: R).takeWhile (fun x => decide (x ≠ c)) = A ∧ (A ++ c :: R).dropWhile (fun x => decide (x ≠ c)) = c :: R := by
  induction A with
  | nil => simp
  | cons d b ih =>
    simp only [List.mem_cons, not_or] at h
    obtain ⟨i1, i2⟩ := ih h.2
    have hc : decide (d ≠ c) = true := by simpa using Ne.symm h.1
    rw [List.cons_append, List.takeWhile_cons, List.dropWhile_cons, if_pos hc, if_pos hc, i1, i2]
    exact ⟨rfl, rfl⟩
theorem dropL {l : List UInt8} {c : UInt8} (h : c ∉ l) : l.dropWhile (fun x => decide (x ≠ c)) = [] := by
  induction l with
  | nil => rfl
  | cons d b ih =>
    simp only [List.mem_cons, not_or] at h
    have hc : decide (d ≠ c) = true := by simpa using Ne.symm h.1
    rw [List.dropWhile_cons, if_pos hc]
    exact ih h.2
theorem splitL {l : List UInt8} {c : UInt8} (h : c ∈ l) : ∃ a r, l = a ++ c :: r ∧ c ∉ a := by
  induction l with
  | nil => simp at h
  | cons d l ih =>
    by_cases e : d = c
    · exact ⟨[], l, by rw [e]; rfl, by simp⟩
    · simp only [List.mem_cons] at h
      rcases h with h | h
      · exact absurd h.symm e
      · obtain ⟨a, r, h1, h2⟩ := ih h
        exact ⟨d :: a, r, by rw [h1]; rfl, by simp [Ne.symm e, h2]⟩
theorem pairL_none {l : List UInt8} (h : (58 : UInt8) ∉ l) : pairL l = none := by
  unfold pairL
  rw [dropL h]
theorem pairL_at {A R : List UInt8} (h : (58 : UInt8) ∉ A) : pairL (A ++ 58 :: R) = if typeOK A = true then
      (if R.head? = some 58 then (b64p.D (R.tail.dropWhile (· == 32))).map (fun v => (A, v))
      else if plainOK (R.dropWhile (· == 32)) = true then some (A, R.dropWhile (· == 32)) else none)
    else none := by
  unfold pairL
  rw [(cutL h).1, (cutL h).2]
end ldp
end Go.Proofs.YtifplgnabkkbjaaDoor
