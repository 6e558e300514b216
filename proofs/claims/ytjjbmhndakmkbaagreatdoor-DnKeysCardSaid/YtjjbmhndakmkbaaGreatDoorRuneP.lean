/- Runes of a text and their bytes: plain laws, no program. One rune at the head of a list of bytes, as the document's reference reads it ('oneL') and as Go's range reads it (the model's decode); runes of a text; their bytes; there and back. -/
import Derived.Lib.DecodeN
import Derived.Lib.RuneBytes
import Derived.Lib.Hide
namespace Go.Proofs.YtjjbmhndakmkbaaGreatDoor
namespace run
set_option linter.unusedVariables false
set_option linter.unusedSimpArgs false
def fin (v low n : Nat) : Nat × Nat := if v < low ∨ 1114111 < v ∨ (55296 ≤ v ∧ v ≤ 57343) then (0, 0) else (v, n)
def cont (b : Nat) : Prop := 128 ≤ b ∧ b ≤ 191
instance (b : Nat) : Decidable (cont b) := by unfold cont; infer_instance
/-- one rune, by its bytes: n of them are there -/
def oneR (n b0 b1 b2 b3 : Nat) : Nat × Nat :=
  if b0 < 128 then (b0, 1)
  else if 194 ≤ b0 ∧ b0 < 224 then (if 2 ≤ n ∧ cont b1 then fin ((b0 - 192) * 64 + (b1 - 128)) 128 2 else (0, 0))
  else if 224 ≤ b0 ∧ b0 < 240 then (if 3 ≤ n ∧ cont b1 ∧ cont b2 then fin (((b0 - 224) * 64 + (b1 - 128)) * 64 + (b2 - 128)) 2048 3 else (0, 0))
  else if 240 ≤ b0 ∧ b0 < 245 then (if 4 ≤ n ∧ cont b1 ∧ cont b2 ∧ cont b3 then fin ((((b0 - 240) * 64 + (b1 - 128)) * 64 + (b2 - 128)) * 64 + (b3 - 128)) 65536 4 else (0, 0))
  else (0, 0)
theorem oneR_le (n b0 b1 b2 b3 : Nat) : (oneR n b0 b1 b2 b3).2 ≤ 4 := by
  unfold oneR fin
  repeat' split
  all_goals simp
theorem oneR_n (n b0 b1 b2 b3 : Nat) (hn : 1 ≤ n) : (oneR n b0 b1 b2 b3).2 ≤ n := by
  unfold oneR fin
  repeat' split
  all_goals (simp only; try omega)
theorem oneR_lt (n b0 b1 b2 b3 : Nat) (h : (oneR n b0 b1 b2 b3).2 ≠ 0) : (oneR n b0 b1 b2 b3).1 ≤ 1114111 ∧ ¬ (55296 ≤ (oneR n b0 b1 b2 b3).1 ∧ (oneR n b0 b1 b2 b3).1 ≤ 57343) := by
  generalize hp : oneR n b0 b1 b2 b3 = p at *
  unfold oneR fin at hp
  repeat' split at hp
  all_goals (subst hp; simp only at h ⊢; try omega)
set_option maxHeartbeats 4000000 in
/-- what Go's range reads, where there is a rune -/
theorem decode_one (n b0 b1 b2 b3 : Nat) (h0 : b0 < 256) (h1 : b1 < 256) (h2 : b2 < 256) (h3 : b3 < 256) (hn : 1 ≤ n) (h : (oneR n b0 b1 b2 b3).2 ≠ 0) : Lib.decodeN n b0 b1 b2 b3 = oneR n b0 b1 b2 b3 := by
  unfold oneR fin cont at *
  unfold Lib.decodeN
  by_cases c0 : b0 < 128
  · simp only [c0, if_true]
  · simp only [c0, if_false] at h ⊢
    by_cases c1 : 194 ≤ b0 ∧ b0 < 224
    · rw [if_pos c1] at h ⊢
      by_cases d1 : 2 ≤ n ∧ 128 ≤ b1 ∧ b1 ≤ 191
      · rw [if_pos d1] at h ⊢
        rw [if_pos (by omega)]
        split at h
        · simp at h
        · rename_i f1
          rw [if_pos (by omega), if_neg f1]
          apply Prod.ext <;> simp only <;> omega
      · rw [if_neg d1] at h; simp at h
    · rw [if_neg c1] at h ⊢
      by_cases c2 : 224 ≤ b0 ∧ b0 < 240
      · rw [if_pos c2] at h ⊢
        rw [if_neg (by omega)]
        by_cases d1 : 3 ≤ n ∧ (128 ≤ b1 ∧ b1 ≤ 191) ∧ (128 ≤ b2 ∧ b2 ≤ 191)
        · rw [if_pos d1] at h ⊢
          rw [if_pos (by omega)]
          split at h
          · simp at h
          · rename_i f1
            rw [if_pos (by omega), if_neg f1]
            apply Prod.ext <;> simp only <;> omega
        · rw [if_neg d1] at h; simp at h
      · rw [if_neg c2] at h ⊢
        by_cases c3 : 240 ≤ b0 ∧ b0 < 245
        · rw [if_pos c3] at h ⊢
          rw [if_neg (by omega), if_neg (by omega)]
          by_cases d1 : 4 ≤ n ∧ (128 ≤ b1 ∧ b1 ≤ 191) ∧ (128 ≤ b2 ∧ b2 ≤ 191) ∧ (128 ≤ b3 ∧ b3 ≤ 191)
          · rw [if_pos d1] at h ⊢
            rw [if_pos (by omega)]
            split at h
            · simp at h
            · rename_i f1
              rw [if_pos (by omega), if_neg f1]
              apply Prod.ext <;> simp only <;> omega
          · rw [if_neg d1] at h; simp at h
        · rw [if_neg c3] at h; simp at h
set_option maxHeartbeats 4000000 in
/-- what Go's range reads, where there is none -/
theorem decode_none (n b0 b1 b2 b3 : Nat) (h0 : b0 < 256) (h1 : b1 < 256) (h2 : b2 < 256) (h3 : b3 < 256) (hn : 1 ≤ n) (h : (oneR n b0 b1 b2 b3).2 = 0) : Lib.decodeN n b0 b1 b2 b3 = (65533, 1) ∧ ¬ (3 ≤ n ∧ b0 = 239 ∧ b1 = 191 ∧ b2 = 189) := by
  unfold oneR fin cont at h
  unfold Lib.decodeN
  refine ⟨?_, ?_⟩
  · repeat' split at h
    all_goals first | (simp at h; done) | skip
    all_goals (repeat' split) 
    all_goals first | rfl | (exfalso; omega)
  · rintro ⟨g0, rfl, rfl, rfl⟩
    simp [g0] at h
/-- the replacement rune itself: three bytes -/
theorem one_fffd (n b0 b1 b2 b3 : Nat) (h0 : b0 < 256) (h1 : b1 < 256) (h2 : b2 < 256) (h3 : b3 < 256) (h : (oneR n b0 b1 b2 b3).2 ≠ 0) (hv : (oneR n b0 b1 b2 b3).1 = 65533) : 3 ≤ n ∧ b0 = 239 ∧ b1 = 191 ∧ b2 = 189 := by
  generalize hp : oneR n b0 b1 b2 b3 = p at *
  unfold oneR fin cont at hp
  repeat' split at hp
  all_goals (subst hp; simp only at h hv; try omega)

/-! ### lists of bytes -/
def nth (l : List UInt8) (i : Nat) : Nat := (l.getD i 0).toNat
theorem nth_lt (l : List UInt8) (i : Nat) : nth l i < 256 := by unfold nth; exact (l.getD i 0).toNat_lt
def oneL (l : List UInt8) : Nat × Nat := oneR l.length (nth l 0) (nth l 1) (nth l 2) (nth l 3)
def runesF : Nat → List UInt8 → Option (List Int)
  | 0, _ => some []
  | _ + 1, [] => some []
  | f + 1, b :: t => if (oneL (b :: t)).2 = 0 then none else (runesF f ((b :: t).drop (oneL (b :: t)).2)).map (((oneL (b :: t)).1 : Int) :: ·)
/-- the runes of a text -/
def runes (l : List UInt8) : Option (List Int) := runesF l.length l
theorem runesF_more : ∀ (f g : Nat) (l : List UInt8), l.length ≤ f → l.length ≤ g → runesF f l = runesF g l
  | 0, g, l, h, _ => by
    have : l = [] := List.eq_nil_of_length_eq_zero (by omega)
    subst this
    cases g <;> rfl
  | f + 1, 0, l, _, h => by
    have : l = [] := List.eq_nil_of_length_eq_zero (by omega)
    subst this
    rfl
  | f + 1, g + 1, [], _, _ => rfl
  | f + 1, g + 1, b :: t, h, h' => by
    unfold runesF
    by_cases e : (oneL (b :: t)).2 = 0
    · rw [if_pos e, if_pos e]
    · rw [if_neg e, if_neg e, runesF_more f g _ (by simp at h ⊢; omega) (by simp at h' ⊢; omega)]
theorem runes_nil : runes [] = some [] := rfl
theorem runes_step (l : List UInt8) (h : l ≠ []) : runes l = if (oneL l).2 = 0 then none else (runes (l.drop (oneL l).2)).map (((oneL l).1 : Int) :: ·) := by
  cases l with
  | nil => exact absurd rfl h
  | cons b t =>
    have h1 : runes (b :: t) = if (oneL (b :: t)).2 = 0 then none else (runesF t.length ((b :: t).drop (oneL (b :: t)).2)).map (((oneL (b :: t)).1 : Int) :: ·) := rfl
    rw [h1]
    unfold runes
    by_cases e : (oneL (b :: t)).2 = 0
    · rw [if_pos e, if_pos e]
    · rw [if_neg e, if_neg e]
      rw [runesF_more t.length ((b :: t).drop (oneL (b :: t)).2).length _ (by rw [List.length_drop]; simp only [List.length_cons]; omega) (Nat.le_refl _)]
/-- a rune that may be -/
def okR (v : Int) : Prop := 0 ≤ v ∧ v ≤ 1114111 ∧ ¬ (55296 ≤ v ∧ v ≤ 57343)
def enc (v : Int) : List UInt8 := Lib.encodeRune v
/-- the bytes of runes -/
def text (m : List Int) : List UInt8 := m.flatMap enc
theorem text_nil : text [] = [] := rfl
theorem text_cons (v : Int) (m : List Int) : text (v :: m) = enc v ++ text m := rfl
theorem text_append (a b : List Int) : text (a ++ b) = text a ++ text b := List.flatMap_append ..
theorem enc_len (v : Int) : 1 ≤ (enc v).length ∧ (enc v).length ≤ 4 := by
  have := Lib.runeCells_le v
  rw [Lib.runeCells_length] at this
  exact this
theorem enc_one {v : Int} (h0 : 0 ≤ v) (h1 : v ≤ 127) : enc v = [v.toNat.toUInt8] := by
  unfold enc Lib.encodeRune; rw [Lib.encodeRuneZ_one h0 h1]; rfl
theorem enc_two {v : Int} (h0 : 128 ≤ v) (h1 : v ≤ 2047) : enc v = [(192 + v / 64).toNat.toUInt8, (128 + v % 64).toNat.toUInt8] := by
  unfold enc Lib.encodeRune; rw [Lib.encodeRuneZ_two h0 h1]; rfl
theorem enc_three {v : Int} (h : (2048 ≤ v ∧ v < 55296) ∨ (57343 < v ∧ v ≤ 65535)) : enc v = [(224 + v / 4096).toNat.toUInt8, (128 + v / 64 % 64).toNat.toUInt8, (128 + v % 64).toNat.toUInt8] := by
  unfold enc Lib.encodeRune; rw [Lib.encodeRuneZ_three h]; rfl
theorem enc_four {v : Int} (h0 : 65536 ≤ v) (h1 : v ≤ 1114111) : enc v = [(240 + v / 262144).toNat.toUInt8, (128 + v / 4096 % 64).toNat.toUInt8, (128 + v / 64 % 64).toNat.toUInt8, (128 + v % 64).toNat.toUInt8] := by
  unfold enc Lib.encodeRune; rw [Lib.encodeRuneZ_four h0 h1]; rfl
theorem u8z (a : Int) (h0 : 0 ≤ a) (h1 : a < 256) : (a.toNat.toUInt8).toNat = a.toNat := by
  simp; omega
theorem nth_cons (b : UInt8) (t : List UInt8) : nth (b :: t) 0 = b.toNat := rfl
theorem nth_cons1 (b : UInt8) (t : List UInt8) (i : Nat) : nth (b :: t) (i + 1) = nth t i := by unfold nth; simp
set_option maxHeartbeats 4000000 in
theorem one_enc (v : Int) (t : List UInt8) (h : okR v) : oneL (enc v ++ t) = (v.toNat, (enc v).length) := by
  obtain ⟨h0, h1, h2⟩ := h
  by_cases a1 : v ≤ 127
  · rw [enc_one h0 a1]
    unfold oneL oneR
    have e0 : nth ([v.toNat.toUInt8] ++ t) 0 = v.toNat := u8z v h0 (by omega)
    rw [e0, if_pos (by omega)]; rfl
  · by_cases a2 : v ≤ 2047
    · rw [enc_two (by omega) a2]
      unfold oneL oneR
      have e0 : nth ([(192 + v / 64).toNat.toUInt8, (128 + v % 64).toNat.toUInt8] ++ t) 0 = (192 + v / 64).toNat := u8z _ (by omega) (by omega)
      have e1 : nth ([(192 + v / 64).toNat.toUInt8, (128 + v % 64).toNat.toUInt8] ++ t) 1 = (128 + v % 64).toNat := u8z _ (by omega) (by omega)
      rw [e0, e1, if_neg (by omega), if_pos (by omega), if_pos ⟨by simp, by unfold cont; omega⟩]
      unfold fin
      rw [if_neg (by omega)]
      apply Prod.ext
      · show _ = v.toNat; simp only; omega
      · rfl
    · by_cases a3 : v ≤ 65535
      · rw [enc_three (by omega)]
        unfold oneL oneR
        have e0 : nth ([(224 + v / 4096).toNat.toUInt8, (128 + v / 64 % 64).toNat.toUInt8, (128 + v % 64).toNat.toUInt8] ++ t) 0 = (224 + v / 4096).toNat := u8z _ (by omega) (by omega)
        have e1 : nth ([(224 + v / 4096).toNat.toUInt8, (128 + v / 64 % 64).toNat.toUInt8, (128 + v % 64).toNat.toUInt8] ++ t) 1 = (128 + v / 64 % 64).toNat := u8z _ (by omega) (by omega)
        have e2 : nth ([(224 + v / 4096).toNat.toUInt8, (128 + v / 64 % 64).toNat.toUInt8, (128 + v % 64).toNat.toUInt8] ++ t) 2 = (128 + v % 64).toNat := u8z _ (by omega) (by omega)
        rw [e0, e1, e2, if_neg (by omega), if_neg (by omega), if_pos (by omega), if_pos ⟨by simp, by unfold cont; omega, by unfold cont; omega⟩]
        unfold fin
        rw [if_neg (by omega)]
        apply Prod.ext
        · show _ = v.toNat; simp only; omega
        · rfl
      · rw [enc_four (by omega) h1]
        unfold oneL oneR
        have e0 : nth ([(240 + v / 262144).toNat.toUInt8, (128 + v / 4096 % 64).toNat.toUInt8, (128 + v / 64 % 64).toNat.toUInt8, (128 + v % 64).toNat.toUInt8] ++ t) 0 = (240 + v / 262144).toNat := u8z _ (by omega) (by omega)
        have e1 : nth ([(240 + v / 262144).toNat.toUInt8, (128 + v / 4096 % 64).toNat.toUInt8, (128 + v / 64 % 64).toNat.toUInt8, (128 + v % 64).toNat.toUInt8] ++ t) 1 = (128 + v / 4096 % 64).toNat := u8z _ (by omega) (by omega)
        have e2 : nth ([(240 + v / 262144).toNat.toUInt8, (128 + v / 4096 % 64).toNat.toUInt8, (128 + v / 64 % 64).toNat.toUInt8, (128 + v % 64).toNat.toUInt8] ++ t) 2 = (128 + v / 64 % 64).toNat := u8z _ (by omega) (by omega)
        have e3 : nth ([(240 + v / 262144).toNat.toUInt8, (128 + v / 4096 % 64).toNat.toUInt8, (128 + v / 64 % 64).toNat.toUInt8, (128 + v % 64).toNat.toUInt8] ++ t) 3 = (128 + v % 64).toNat := u8z _ (by omega) (by omega)
        rw [e0, e1, e2, e3, if_neg (by omega), if_neg (by omega), if_neg (by omega), if_pos (by omega), if_pos ⟨by simp, by unfold cont; omega, by unfold cont; omega, by unfold cont; omega⟩]
        unfold fin
        rw [if_neg (by omega)]
        apply Prod.ext
        · show _ = v.toNat; simp only; omega
        · rfl
theorem ex1 {b : UInt8} {l : List UInt8} {n : Nat} (hn : 2 ≤ n) (h : n ≤ (b :: l).length) : ∃ c t, l = c :: t := by
  cases l with
  | nil => simp at h; omega
  | cons c t => exact ⟨c, t, rfl⟩
theorem u8_of (b : UInt8) (n : Nat) (h : n = b.toNat) : n.toUInt8 = b := by subst h; simp
set_option maxHeartbeats 4000000 in
/-- the bytes that were read are the rune's -/
theorem enc_of_one (l : List UInt8) (h : (oneL l).2 ≠ 0) (hl : l ≠ []) : l.take (oneL l).2 = enc ((oneL l).1 : Int) := by
  match l, hl with
  | b0 :: l1, _ =>
  have hb0 := b0.toNat_lt
  unfold oneL oneR at h ⊢
  rw [nth_cons] at h ⊢
  by_cases c0 : b0.toNat < 128
  · simp only [c0, if_true]
    rw [enc_one (by omega) (by omega)]
    show [b0] = _
    rw [u8_of b0 _ (by simp)]
  · simp only [c0, if_false] at h ⊢
    by_cases c1 : 194 ≤ b0.toNat ∧ b0.toNat < 224
    · rw [if_pos c1] at h ⊢
      split at h
      · rename_i d1
        rw [if_pos d1]
        unfold fin at h ⊢
        split at h
        · simp at h
        · rename_i f1
          rw [if_neg f1]
          obtain ⟨d2, d3⟩ := d1
          obtain ⟨b1, l2, rfl⟩ := ex1 (n := 2) (by omega) d2
          have e1 : nth (b0 :: b1 :: l2) 1 = b1.toNat := rfl
          rw [e1] at d3 f1 ⊢
          unfold cont at d3
          rw [enc_two (by omega) (by omega)]
          show [b0, b1] = _
          rw [u8_of b0 _ (by omega), u8_of b1 _ (by omega)]
      · simp at h
    · rw [if_neg c1] at h ⊢
      by_cases c2 : 224 ≤ b0.toNat ∧ b0.toNat < 240
      · rw [if_pos c2] at h ⊢
        split at h
        · rename_i d1
          rw [if_pos d1]
          unfold fin at h ⊢
          split at h
          · simp at h
          · rename_i f1
            rw [if_neg f1]
            obtain ⟨d2, d3, d4⟩ := d1
            obtain ⟨b1, l2', rfl⟩ := ex1 (n := 3) (by omega) d2
            obtain ⟨b2, l2, rfl⟩ := ex1 (b := b1) (l := l2') (n := 2) (by omega) (by simp only [List.length_cons] at d2 ⊢; omega)
            have e1 : nth (b0 :: b1 :: b2 :: l2) 1 = b1.toNat := rfl
            have e2 : nth (b0 :: b1 :: b2 :: l2) 2 = b2.toNat := rfl
            rw [e1] at d3 f1 ⊢
            rw [e2] at d4 f1 ⊢
            unfold cont at d3 d4
            rw [enc_three (by omega)]
            show [b0, b1, b2] = _
            rw [u8_of b0 _ (by omega), u8_of b1 _ (by omega), u8_of b2 _ (by omega)]
        · simp at h
      · rw [if_neg c2] at h ⊢
        by_cases c3 : 240 ≤ b0.toNat ∧ b0.toNat < 245
        · rw [if_pos c3] at h ⊢
          split at h
          · rename_i d1
            rw [if_pos d1]
            unfold fin at h ⊢
            split at h
            · simp at h
            · rename_i f1
              rw [if_neg f1]
              obtain ⟨d2, d3, d4, d5⟩ := d1
              obtain ⟨b1, l2', rfl⟩ := ex1 (n := 4) (by omega) d2
              obtain ⟨b2, l2'', rfl⟩ := ex1 (b := b1) (l := l2') (n := 3) (by omega) (by simp only [List.length_cons] at d2 ⊢; omega)
              obtain ⟨b3, l2, rfl⟩ := ex1 (b := b2) (l := l2'') (n := 2) (by omega) (by simp only [List.length_cons] at d2 ⊢; omega)
              have e1 : nth (b0 :: b1 :: b2 :: b3 :: l2) 1 = b1.toNat := rfl
              have e2 : nth (b0 :: b1 :: b2 :: b3 :: l2) 2 = b2.toNat := rfl
              have e3 : nth (b0 :: b1 :: b2 :: b3 :: l2) 3 = b3.toNat := rfl
              rw [e1] at d3 f1 ⊢
              rw [e2] at d4 f1 ⊢
              rw [e3] at d5 f1 ⊢
              unfold cont at d3 d4 d5
              rw [enc_four (by omega) (by omega)]
              show [b0, b1, b2, b3] = _
              rw [u8_of b0 _ (by omega), u8_of b1 _ (by omega), u8_of b2 _ (by omega), u8_of b3 _ (by omega)]
          · simp at h
        · rw [if_neg c3] at h; simp at h
theorem one_ok (l : List UInt8) (h : (oneL l).2 ≠ 0) : okR ((oneL l).1 : Int) := by
  obtain ⟨h1, h2⟩ := oneR_lt _ _ _ _ _ h
  exact ⟨by omega, by unfold oneL; omega, by unfold oneL; omega⟩
/-- what is read is a text of runes that may be -/
theorem runes_text : ∀ (n : Nat) (l : List UInt8) (m : List Int), l.length ≤ n → runes l = some m → text m = l ∧ ∀ v ∈ m, okR v
  | 0, l, m, hn, h => by
    have : l = [] := List.eq_nil_of_length_eq_zero (by omega)
    subst this
    rw [runes_nil] at h
    cases h
    exact ⟨rfl, by simp⟩
  | n + 1, l, m, hn, h => by
    by_cases hl : l = []
    · subst hl
      rw [runes_nil] at h
      cases h
      exact ⟨rfl, by simp⟩
    · rw [runes_step l hl] at h
      by_cases e : (oneL l).2 = 0
      · rw [if_pos e] at h; cases h
      · rw [if_neg e] at h
        obtain ⟨m', hm, rfl⟩ := Option.map_eq_some_iff.1 h
        obtain ⟨i1, i2⟩ := runes_text n _ m' (by rw [List.length_drop]; omega) hm
        refine ⟨?_, ?_⟩
        · rw [text_cons, i1, ← enc_of_one l e hl, List.take_append_drop]
        · intro v hv
          rcases List.mem_cons.1 hv with rfl | hv
          · exact one_ok l e
          · exact i2 v hv
/-- the runes of a text of runes that may be -/
theorem runes_of : ∀ (m : List Int) (t : List UInt8), (∀ v ∈ m, okR v) → runes (text m ++ t) = (runes t).map (m ++ ·)
  | [], t, _ => by
    show runes t = _
    cases runes t <;> rfl
  | v :: m, t, h => by
    have hv := h v (by simp)
    have he := enc_len v
    have h1 := one_enc v (text m ++ t) hv
    have hne : text (v :: m) ++ t ≠ [] := by
      rw [text_cons]
      intro e
      have := congrArg List.length e
      rw [List.length_append, List.length_append, List.length_nil] at this
      omega
    rw [runes_step _ hne, text_cons, List.append_assoc, h1]
    rw [if_neg (by show ¬ (enc v).length = 0; omega)]
    show (runes ((enc v ++ (text m ++ t)).drop (enc v).length)).map _ = _
    rw [List.drop_left, runes_of m t (fun u hu => h u (by simp [hu]))]
    cases runes t with
    | none => rfl
    | some x =>
      show some _ = some _
      congr 1
      show ((v.toNat : Int) :: (m ++ x)) = v :: m ++ x
      rw [Int.toNat_of_nonneg hv.1]; rfl
theorem runes_back (m : List Int) (h : ∀ v ∈ m, okR v) : runes (text m) = some m := by
  have := runes_of m [] h
  rw [List.append_nil, runes_nil] at this
  simpa using this
theorem runes_append {a b : List UInt8} {m n : List Int} (ha : runes a = some m) (hb : runes b = some n) : runes (a ++ b) = some (m ++ n) := by
  obtain ⟨h1, h2⟩ := runes_text _ a m (Nat.le_refl _) ha
  rw [← h1, runes_of m b h2, hb]; rfl
theorem text_len (m : List Int) : m.length ≤ (text m).length := by
  induction m with
  | nil => simp
  | cons v m ih =>
    have := enc_len v
    rw [text_cons, List.length_append, List.length_cons]; omega
theorem runes_len {l : List UInt8} {m : List Int} (h : runes l = some m) : m.length ≤ l.length := by
  obtain ⟨h1, _⟩ := runes_text _ l m (Nat.le_refl _) h
  rw [← h1]
  exact text_len m
/-! ### strings: what Go's range reads at a place -/
theorem get_nth (s : ByteArray) (i k : Nat) : (s.get! (i + k)).toNat = nth (s.data.toList.drop i) k := by
  unfold nth
  have : s.get! (i + k) = s.data[i + k]! := rfl
  rw [this, List.getD_eq_getElem?_getD, List.getElem?_drop, Array.getElem?_toList]
  by_cases h : i + k < s.data.size
  · rw [getElem!_pos s.data (i + k) h, Array.getElem?_eq_getElem h]; rfl
  · rw [getElem!_neg s.data (i + k) h, Array.getElem?_eq_none (by omega)]; rfl
theorem decode_list (s : ByteArray) (i : Nat) : Utf8.decode s i = Lib.decodeN (s.data.toList.drop i).length (nth (s.data.toList.drop i) 0) (nth (s.data.toList.drop i) 1) (nth (s.data.toList.drop i) 2) (nth (s.data.toList.drop i) 3) := by
  rw [Lib.decode_at]
  have h0 := get_nth s i 0
  rw [Nat.add_zero] at h0
  rw [h0, get_nth, get_nth, get_nth]
  congr 1
  simp
theorem decode_yes (s : ByteArray) (i : Nat) (hi : i < s.size) (h : (oneL (s.data.toList.drop i)).2 ≠ 0) : Utf8.decode s i = oneL (s.data.toList.drop i) := by
  have : s.data.toList.length = s.size := by simp
  rw [decode_list]
  exact decode_one _ _ _ _ _ (nth_lt _ _) (nth_lt _ _) (nth_lt _ _) (nth_lt _ _) (by rw [List.length_drop]; omega) h
/-- does a text begin with the replacement rune's bytes? -/
def fffd (l : List UInt8) : Prop := 3 ≤ l.length ∧ nth l 0 = 239 ∧ nth l 1 = 191 ∧ nth l 2 = 189
theorem decode_no (s : ByteArray) (i : Nat) (hi : i < s.size) (h : (oneL (s.data.toList.drop i)).2 = 0) : Utf8.decode s i = (65533, 1) ∧ ¬ fffd (s.data.toList.drop i) := by
  have : s.data.toList.length = s.size := by simp
  rw [decode_list]
  exact decode_none _ _ _ _ _ (nth_lt _ _) (nth_lt _ _) (nth_lt _ _) (nth_lt _ _) (by rw [List.length_drop]; omega) h
theorem fffd_yes (l : List UInt8) (h : (oneL l).2 ≠ 0) (hv : (oneL l).1 = 65533) : fffd l :=
  one_fffd _ _ _ _ _ (nth_lt _ _) (nth_lt _ _) (nth_lt _ _) (nth_lt _ _) h hv
theorem fffd_prefix (l : List UInt8) : fffd l ↔ [239, 191, 189] <+: l := by
  constructor
  · rintro ⟨h0, h1, h2, h3⟩
    match l, h0 with
    | a :: b :: c :: t, _ =>
    have e1 : a = 239 := UInt8.toNat_inj.1 h1
    have e2 : b = 191 := UInt8.toNat_inj.1 h2
    have e3 : c = 189 := UInt8.toNat_inj.1 h3
    subst e1 e2 e3
    exact ⟨t, rfl⟩
  · rintro ⟨t, rfl⟩
    exact ⟨by simp, rfl, rfl, rfl⟩
theorem one_width (l : List UInt8) (hl : l ≠ []) : (oneL l).2 ≤ l.length := by
  refine oneR_n _ _ _ _ _ ?_
  have := List.length_pos_iff.2 hl
  omega
end run
end Go.Proofs.YtjjbmhndakmkbaaGreatDoor
