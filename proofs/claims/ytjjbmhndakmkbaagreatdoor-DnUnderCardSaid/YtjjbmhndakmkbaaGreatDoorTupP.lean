/- The plain law of a tuple's bytes: what replacing does, byte by byte; no program in sight. -/
import Derived.Lib.Replace
import Derived.Lib.CountLaws
namespace Go.Proofs.YtjjbmhndakmkbaaGreatDoor
namespace tup
open Go.Lib

def rep (old new s : List UInt8) : List UInt8 := replaceK old new (count s old) s
theorem replaceAll_rep {old new : List UInt8} (h : (old == new) = false) (s : List UInt8) : replaceAll s old new = rep old new s := by
  unfold replaceAll replace rep replaceNum
  rw [h]
  simp
theorem rep_nil {old new : List UInt8} (h : old ≠ []) : rep old new [] = [] := by
  have h1 : index [] old = -1 := by
    unfold index
    cases old with
    | nil => exact absurd rfl h
    | cons a t => rfl
  unfold rep
  rw [count_miss h1]
  rfl
theorem rep_miss {old new : List UInt8} (ho : old ≠ []) (x : UInt8) (r : List UInt8) (h : old.isPrefixOf (x :: r) = false) : rep old new (x :: r) = x :: rep old new r := by
  have hi : index (x :: r) old = if index r old == -1 then -1 else index r old + 1 := by
    rw [index, h]; rfl
  by_cases hm : index r old = -1
  · rw [hm] at hi
    have hi' : index (x :: r) old = -1 := hi
    unfold rep
    rw [count_miss hi', count_miss hm]
    rfl
  · have hge := index_ge r old
    obtain ⟨i, hi0⟩ : ∃ i : Nat, index r old = i := ⟨(index r old).toNat, by omega⟩
    have hi1 : index (x :: r) old = ((i + 1 : Nat) : Int) := by
      rw [hi, hi0, if_neg (by simp)]; rfl
    unfold rep
    rw [count_hit ho hi0, count_hit ho hi1, Nat.add_comm 1, Nat.add_comm 1, replaceK_hit _ _ _ _ _ hi0, replaceK_hit _ _ _ _ _ hi1]
    have e : i + 1 + old.length = (i + old.length) + 1 := by omega
    rw [e]
    simp
theorem rep_hit {old new : List UInt8} (ho : old ≠ []) (r : List UInt8) : rep old new (old ++ r) = new ++ rep old new r := by
  have hi : index (old ++ r) old = ((0 : Nat) : Int) := index_first (i := 0) (Nat.zero_le _) (by simp [occAt]) (fun _ h => absurd h (Nat.not_lt_zero _))
  unfold rep
  rw [count_hit ho hi, Nat.add_comm 1, replaceK_hit _ _ _ _ _ hi]
  simp

/-- a null byte is followed by 255 -/
def esc : List UInt8 → List UInt8
  | [] => []
  | c :: r => (if c = 0 then [0, 255] else [c]) ++ esc r
theorem replace_esc (s : List UInt8) : replaceAll s [0] [0, 255] = esc s := by
  rw [replaceAll_rep (by decide)]
  induction s with
  | nil => exact rep_nil (by simp)
  | cons c r ih =>
    by_cases hc : c = 0
    · subst hc
      have := rep_hit (old := [0]) (new := [0, 255]) (by simp) r
      rw [List.singleton_append] at this
      rw [this, ih]
      rfl
    · rw [rep_miss (by simp) c r (by
        rw [Bool.eq_false_iff]
        intro e
        simp [List.isPrefixOf] at e
        exact hc e.symm), ih]
      simp [esc, hc]
def unesc : List UInt8 → List UInt8
  | [] => []
  | [c] => [c]
  | c :: d :: r => if c = 0 ∧ d = 255 then 0 :: unesc r else c :: unesc (d :: r)
theorem replace_unesc : ∀ s : List UInt8, rep [0, 255] [0] s = unesc s
  | [] => rep_nil (by simp)
  | [c] => by
    rw [rep_miss (by simp) c [] (by simp [List.isPrefixOf]), rep_nil (by simp)]
    rfl
  | c :: d :: r => by
    by_cases h : c = 0 ∧ d = 255
    · obtain ⟨rfl, rfl⟩ := h
      have := rep_hit (old := [0, 255]) (new := [0]) (by simp) r
      simp only [List.cons_append, List.nil_append] at this
      rw [this, replace_unesc r]
      simp [unesc]
    · rw [rep_miss (by simp) c (d :: r) (by
        rw [Bool.eq_false_iff]
        intro e
        apply h
        simp [List.isPrefixOf] at e
        exact ⟨e.1.symm, e.2.symm⟩), replace_unesc (d :: r)]
      simp [unesc, h]
theorem replaceAll_unesc (s : List UInt8) : replaceAll s [0, 255] [0] = unesc s := by
  rw [replaceAll_rep (by decide), replace_unesc]
theorem esc_length (s : List UInt8) : s.length ≤ (esc s).length ∧ (esc s).length ≤ 2 * s.length := by
  induction s with
  | nil => simp [esc]
  | cons c r ih =>
    simp only [esc, List.length_append, List.length_cons]
    split <;> simp <;> omega
theorem unesc_esc (s : List UInt8) : unesc (esc s) = s := by
  induction s with
  | nil => rfl
  | cons c r ih =>
    by_cases hc : c = 0
    · subst hc
      simp [esc, unesc, ih]
    · simp only [esc, hc, if_false, List.singleton_append]
      cases he : esc r with
      | nil => 
        rw [he] at ih
        simp [unesc] at ih ⊢
        exact ih
      | cons d t =>
        rw [he] at ih
        simp [unesc, hc, ih]

/-- the bytes of a tuple -/
def bytes : List ByteArray → List UInt8
  | [] => []
  | p :: r => esc p.data.toList ++ [0, 1] ++ bytes r
theorem bytes_append (a b : List ByteArray) : bytes (a ++ b) = bytes a ++ bytes b := by
  induction a with
  | nil => rfl
  | cons p r ih => simp [bytes, ih]
theorem bytes_mem {l : List ByteArray} {p : ByteArray} (h : p ∈ l) : p.size ≤ (bytes l).length := by
  induction l with
  | nil => cases h
  | cons q r ih =>
    have he := (esc_length q.data.toList).1
    rcases List.mem_cons.1 h with rfl | h'
    · simp only [bytes, List.length_append]
      simp at he
      omega
    · have := ih h'
      simp only [bytes, List.length_append]
      omega
theorem bytes_small {l : List ByteArray} (h : ∀ p ∈ l, p.size ≤ 4096) : (bytes l).length ≤ 8194 * l.length := by
  induction l with
  | nil => simp [bytes]
  | cons q r ih =>
    have he := (esc_length q.data.toList).2
    have h1 := h q (by simp)
    have h2 := ih (fun p hp => h p (by simp [hp]))
    simp at he
    simp only [bytes, List.length_append, List.length_cons]
    simp
    omega
/-- what Tuple answers -/
def out (l : List ByteArray) : ByteArray × Int :=
  if 16 < l.length then (⟨#[]⟩, 1) else if 4096 < (bytes l).length then (⟨#[]⟩, 5) else (⟨(bytes l).toArray⟩, 0)
end tup
end Go.Proofs.YtjjbmhndakmkbaaGreatDoor
