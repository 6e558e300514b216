/- The plain law of a tuple's reading: both roads answer the one list whose bytes it is. -/
import Derived.Test.YthbofgfdgpidcaaDoorTupP
namespace Go.Proofs.YthbofgfdgpidcaaDoor
namespace tup
open Go.Lib
theorem esc_append (a b : List UInt8) : esc (a ++ b) = esc a ++ esc b := by
  induction a with
  | nil => rfl
  | cons c r ih => simp [esc, ih]
/-- the reference's reading -/
def rparse : List UInt8 → List UInt8 → Bool → List ByteArray → Option (List ByteArray)
  | [], _, o, acc => if o then none else some acc
  | [c], b, _, acc => if c ≠ 0 then rparse [] (b ++ [c]) true acc else none
  | c :: d :: r, b, _, acc =>
    if c ≠ 0 then rparse (d :: r) (b ++ [c]) true acc
    else if d = 255 then rparse r (b ++ [0]) true acc else if d = 1 then rparse r [] false (acc ++ [⟨b.toArray⟩]) else none
theorem rparse_ne {c : UInt8} (h : c ≠ 0) (r b : List UInt8) (o : Bool) (acc : List ByteArray) : rparse (c :: r) b o acc = rparse r (b ++ [c]) true acc := by
  cases r with
  | nil =>
    conv => lhs; rw [rparse]
    rw [if_pos h]
  | cons d r =>
    conv => lhs; rw [rparse]
    rw [if_pos h]
theorem rparse_z (d : UInt8) (r b : List UInt8) (o : Bool) (acc : List ByteArray) : rparse (0 :: d :: r) b o acc = if d = 255 then rparse r (b ++ [0]) true acc else if d = 1 then rparse r [] false (acc ++ [⟨b.toArray⟩]) else none := by
  rw [rparse, if_neg (by simp)]
theorem rparse_z0 (b : List UInt8) (o : Bool) (acc : List ByteArray) : rparse [0] b o acc = none := by
  rw [rparse, if_neg (by simp)]
theorem rparse_nil (b : List UInt8) (o : Bool) (acc : List ByteArray) : rparse [] b o acc = if o then none else some acc := by
  rw [rparse]
theorem rparse_sound : ∀ (s b : List UInt8) (o : Bool) (acc m : List ByteArray), rparse s b o acc = some m → (o = false → b = []) → ∃ l, m = acc ++ l ∧ esc b ++ s = bytes l
  | [], b, o, acc, m, h, hb => by
    rw [rparse_nil] at h
    cases o with
    | true => simp at h
    | false =>
      simp at h
      exact ⟨[], by simp [h], by simp [hb rfl, esc, bytes]⟩
  | [c], b, o, acc, m, h, hb => by
    by_cases hc : c = 0
    · subst hc
      rw [rparse_z0] at h
      cases h
    · rw [rparse_ne hc, rparse_nil] at h
      simp at h
  | c :: d :: r, b, o, acc, m, h, hb => by
    by_cases hc : c = 0
    · subst hc
      rw [rparse_z] at h
      by_cases hd : d = 255
      · rw [if_pos hd] at h
        obtain ⟨l, h1, h2⟩ := rparse_sound r (b ++ [0]) true acc m h (fun e => by cases e)
        refine ⟨l, h1, ?_⟩
        rw [← h2, esc_append, hd]
        simp [esc]
      · rw [if_neg hd] at h
        by_cases hd1 : d = 1
        · rw [if_pos hd1] at h
          obtain ⟨l, h1, h2⟩ := rparse_sound r [] false _ m h (fun _ => rfl)
          refine ⟨⟨b.toArray⟩ :: l, by rw [h1]; simp, ?_⟩
          rw [bytes, ← h2, hd1]
          simp [esc]
        · rw [if_neg hd1] at h
          cases h
    · rw [rparse_ne hc] at h
      obtain ⟨l, h1, h2⟩ := rparse_sound (d :: r) (b ++ [c]) true acc m h (fun e => by cases e)
      refine ⟨l, h1, ?_⟩
      rw [← h2, esc_append]
      simp [esc, hc]
theorem rparse_part (p : List UInt8) : ∀ (t b : List UInt8) (o : Bool) (acc : List ByteArray), rparse (esc p ++ [0, 1] ++ t) b o acc = rparse t [] false (acc ++ [⟨(b ++ p).toArray⟩]) := by
  induction p with
  | nil =>
    intro t b o acc
    simp only [esc, List.nil_append, List.cons_append, List.append_nil]
    rw [rparse_z]
    simp
  | cons c r ih =>
    intro t b o acc
    by_cases hc : c = 0
    · subst hc
      simp only [esc, if_true, List.cons_append, List.nil_append]
      rw [rparse_z]
      simp only [if_true]
      have := ih t (b ++ [0]) true acc
      simp only [List.append_assoc, List.cons_append, List.nil_append] at this ⊢
      rw [this]
    · simp only [esc, hc, if_false, List.cons_append, List.nil_append]
      rw [rparse_ne hc]
      have := ih t (b ++ [c]) true acc
      simp only [List.append_assoc, List.cons_append, List.nil_append] at this ⊢
      rw [this]
theorem rparse_bytes (l : List ByteArray) : ∀ acc, rparse (bytes l) [] false acc = some (acc ++ l) := by
  induction l with
  | nil => intro acc; simp [bytes, rparse_nil]
  | cons p r ih =>
    intro acc
    rw [bytes, rparse_part, ih]
    simp
/-- what the reference's Parts answers -/
def rparts (s : List UInt8) : Option (List ByteArray) :=
  if 4096 < s.length then none else match rparse s [] false [] with
    | none => none
    | some m => if 16 < m.length then none else some m
theorem rparts_some (s : List UInt8) (m : List ByteArray) : rparts s = some m ↔ bytes m = s ∧ m.length ≤ 16 ∧ s.length ≤ 4096 := by
  unfold rparts
  constructor
  · intro h
    split at h
    · cases h
    · rename_i h0
      cases hr : rparse s [] false [] with
      | none => rw [hr] at h; cases h
      | some x =>
        rw [hr] at h
        simp only at h
        split at h
        · cases h
        · rename_i h1
          cases h
          obtain ⟨l, h2, h3⟩ := rparse_sound s [] false [] m hr (fun _ => rfl)
          simp [esc] at h2 h3
          subst h2
          exact ⟨h3.symm, by omega, by omega⟩
  · rintro ⟨rfl, h1, h2⟩
    rw [if_neg (by omega), rparse_bytes]
    simp
    omega

/-- the code's reading -/
def parse : Nat → List UInt8 → Option (List ByteArray)
  | 0, _ => none
  | n + 1, s => if s = [] then some [] else if (cut s [0, 1]).2.2 = true then (parse n (cut s [0, 1]).2.1).map (⟨(unesc (cut s [0, 1]).1).toArray⟩ :: ·) else none
theorem no_occ (p t : List UInt8) : ∀ j, j < (esc p).length → occAt (esc p ++ ([0, 1] ++ t)) [0, 1] j = false := by
  induction p with
  | nil => intro j hj; simp [esc] at hj
  | cons c r ih =>
    intro j hj
    by_cases hc : c = 0
    · subst hc
      simp only [esc, if_true, List.cons_append, List.nil_append, List.length_cons] at hj ⊢
      match j with
      | 0 => simp [occAt, List.isPrefixOf]
      | 1 => simp [occAt, List.isPrefixOf]
      | j + 2 =>
        have := ih j (by omega)
        simpa [occAt] using this
    · simp only [esc, hc, if_false, List.cons_append, List.nil_append, List.length_cons] at hj ⊢
      match j with
      | 0 =>
        simp [occAt, List.isPrefixOf]
        exact fun e => absurd e.symm hc
      | j + 1 =>
        have := ih j (by omega)
        simpa [occAt] using this
theorem cut_part (p t : List UInt8) : cut (esc p ++ [0, 1] ++ t) [0, 1] = (esc p, t, true) := by
  have hi : index (esc p ++ ([0, 1] ++ t)) [0, 1] = ((esc p).length : Nat) := index_first (by simp) (by simp [occAt]) (no_occ p t)
  rw [List.append_assoc]
  unfold cut
  rw [hi]
  simp [List.drop_append]
theorem parse_bytes (l : List ByteArray) : ∀ n, (bytes l).length < n → parse n (bytes l) = some l := by
  induction l with
  | nil =>
    intro n hn
    cases n with
    | zero => omega
    | succ n => simp [bytes, parse]
  | cons p r ih =>
    intro n hn
    cases n with
    | zero => omega
    | succ n =>
      rw [bytes] at hn ⊢
      rw [parse, if_neg (by simp), cut_part]
      simp only [if_true]
      rw [ih n (by simp at hn; omega), unesc_esc]
      simp
/-- what the code's Parts answers -/
def parts (s : List UInt8) : Option (List ByteArray) :=
  match parse (s.length + 1) s with
  | none => none
  | some l => if out l = (⟨s.toArray⟩, 0) then some l else none
theorem out_ok (l : List ByteArray) (s : List UInt8) : out l = (⟨s.toArray⟩, 0) ↔ bytes l = s ∧ l.length ≤ 16 ∧ s.length ≤ 4096 := by
  unfold out
  constructor
  · intro h
    split at h
    · cases h
    · split at h
      · cases h
      · rename_i h1 h2
        injection h with h3 _
        injection h3 with h4
        have : bytes l = s := by simpa using congrArg Array.toList h4
        subst this
        exact ⟨rfl, by omega, by omega⟩
  · rintro ⟨rfl, h1, h2⟩
    rw [if_neg (by omega), if_neg (by omega)]
theorem parts_some (s : List UInt8) (m : List ByteArray) : parts s = some m ↔ bytes m = s ∧ m.length ≤ 16 ∧ s.length ≤ 4096 := by
  unfold parts
  constructor
  · intro h
    cases hr : parse (s.length + 1) s with
    | none => rw [hr] at h; cases h
    | some x =>
      rw [hr] at h
      simp only at h
      split at h
      · rename_i h1
        cases h
        exact (out_ok _ _).1 h1
      · cases h
  · intro h
    have h0 := h
    obtain ⟨rfl, h1, h2⟩ := h
    rw [parse_bytes m _ (by omega)]
    simp only
    rw [if_pos ((out_ok _ _).2 h0)]
theorem parts_rparts (s : List UInt8) : parts s = rparts s := by
  cases h : rparts s with
  | some m => exact (parts_some s m).2 ((rparts_some s m).1 h)
  | none =>
    cases h2 : parts s with
    | none => rfl
    | some m =>
      have := (rparts_some s m).2 ((parts_some s m).1 h2)
      rw [h] at this
      cases this
/-- a reading ends -/
theorem cut_shorter (s : List UInt8) (h : (cut s [0, 1]).2.2 = true) : (cut s [0, 1]).2.1.length < s.length := by
  have hroom := index_room s [0, 1]
  unfold cut at h ⊢
  by_cases hx : 0 ≤ index s [0, 1]
  · rw [if_pos hx]
    have := hroom hx
    simp at this ⊢
    omega
  · rw [if_neg hx] at h
    cases h
end tup
end Go.Proofs.YthbofgfdgpidcaaDoor
