/- One text out of several: RuneP, PrepP, Kit, RuneW. -/
import Derived.Lib.DecodeN
import Derived.Lib.RuneBytes
import Derived.Lib.Hide
import Derived.Lib.ReplaceLaws
import Derived.Lib.Join
import Derived.WalkKit
import Derived.WalkSpells
import Derived.Lib.UnsafeStr
import Derived.Lib.BufferRead
import Derived.Laws.BitsAllLaws
import Derived.IntWalk
import Derived.Lib.Builder
import Derived.Laws.IdiomStrings
import Derived.Laws.MakeOwn
import Derived.Deep.RegionHeld3
import Derived.Deep.RegionLaw
import Derived.Deep.RegionWith
import Derived.Deep.QuietTactic
import Derived.BigQuiet
import Derived.StillTailTactics
import Derived.RegionTactic
import Derived.ChangeAlike
import Derived.Lib.IndexBytes
import Derived.Lib.AppendZeros
import Derived.Test.YtckpiaigoeicfaaGreatDoorRows
/-! RuneP -/
namespace Go.Proofs.YtckpiaigoeicfaaGreatDoor
namespace run
set_option linter.unusedVariables false
set_option linter.unusedSimpArgs false
def fin (v low n : Nat) : Nat × Nat := if v < low ∨ 1114111 < v ∨ (55296 ≤ v ∧ v ≤ 57343) then (0, 0) else (v, n)
def cont (b : Nat) : Prop := 128 ≤ b ∧ b ≤ 191
instance (b : Nat) : Decidable (cont b) := by unfold cont; infer_instance
/-- one rune, by its bytes: n of them are there -/
def oneR (n b0 b1 b2 b3 : Nat) : Nat × Nat :=
  if b0 < 128 then (b0, 1)
  else if 194 ≤ b0 ∧ b0 < 224 then (if 2 ≤ n ∧ cont b1 then fin ((b0 - 192) * 64 + (b1 - 128)) 128 2 else (0, 0))
  else if 224 ≤ b0 ∧ b0 < 240 then (if 3 ≤ n ∧ cont b1 ∧ cont b2 then fin (((b0 - 224) * 64 + (b1 - 128)) * 64 + (b2 - 128)) 2048 3 else (0, 0))
  else if 240 ≤ b0 ∧ b0 < 245 then (if 4 ≤ n ∧ cont b1 ∧ cont b2 ∧ cont b3 then fin ((((b0 - 240) * 64 + (b1 - 128)) * 64 + (b2 - 128)) * 64 + (b3 - 128)) 65536 4 else (0, 0))
  else (0, 0)
theorem oneR_le (n b0 b1 b2 b3 : Nat) : (oneR n b0 b1 b2 b3).2 ≤ 4 := by
  unfold oneR fin
  repeat' split
  all_goals simp
theorem oneR_n (n b0 b1 b2 b3 : Nat) (hn : 1 ≤ n) : (oneR n b0 b1 b2 b3).2 ≤ n := by
  unfold oneR fin
  repeat' split
  all_goals (simp only; try omega)
theorem oneR_lt (n b0 b1 b2 b3 : Nat) (h : (oneR n b0 b1 b2 b3).2 ≠ 0) : (oneR n b0 b1 b2 b3).1 ≤ 1114111 ∧ ¬ (55296 ≤ (oneR n b0 b1 b2 b3).1 ∧ (oneR n b0 b1 b2 b3).1 ≤ 57343) := by
  generalize hp : oneR n b0 b1 b2 b3 = p at *
  unfold oneR fin at hp
  repeat' split at hp
  all_goals (subst hp; simp only at h ⊢; try omega)
set_option maxHeartbeats 4000000 in
/-- what Go's range reads, where there is a rune -/
theorem decode_one (n b0 b1 b2 b3 : Nat) (h0 : b0 < 256) (h1 : b1 < 256) (h2 : b2 < 256) (h3 : b3 < 256) (hn : 1 ≤ n) (h : (oneR n b0 b1 b2 b3).2 ≠ 0) : Lib.decodeN n b0 b1 b2 b3 = oneR n b0 b1 b2 b3 := by
  unfold oneR fin cont at *
  unfold Lib.decodeN
  by_cases c0 : b0 < 128
  · simp only [c0, if_true]
  · simp only [c0, if_false] at h ⊢
    by_cases c1 : 194 ≤ b0 ∧ b0 < 224
    · rw [if_pos c1] at h ⊢
      by_cases d1 : 2 ≤ n ∧ 128 ≤ b1 ∧ b1 ≤ 191
      · rw [if_pos d1] at h ⊢
        rw [if_pos (by omega)]
        split at h
        · simp at h
        · rename_i f1
          rw [if_pos (by omega), if_neg f1]
          apply Prod.ext <;> simp only <;> omega
      · rw [if_neg d1] at h; simp at h
    · rw [if_neg c1] at h ⊢
      by_cases c2 : 224 ≤ b0 ∧ b0 < 240
      · rw [if_pos c2] at h ⊢
        rw [if_neg (by omega)]
        by_cases d1 : 3 ≤ n ∧ (128 ≤ b1 ∧ b1 ≤ 191) ∧ (128 ≤ b2 ∧ b2 ≤ 191)
        · rw [if_pos d1] at h ⊢
          rw [if_pos (by omega)]
          split at h
          · simp at h
          · rename_i f1
            rw [if_pos (by omega), if_neg f1]
            apply Prod.ext <;> simp only <;> omega
        · rw [if_neg d1] at h; simp at h
      · rw [if_neg c2] at h ⊢
        by_cases c3 : 240 ≤ b0 ∧ b0 < 245
        · rw [if_pos c3] at h ⊢
          rw [if_neg (by omega), if_neg (by omega)]
          by_cases d1 : 4 ≤ n ∧ (128 ≤ b1 ∧ b1 ≤ 191) ∧ (128 ≤ b2 ∧ b2 ≤ 191) ∧ (128 ≤ b3 ∧ b3 ≤ 191)
          · rw [if_pos d1] at h ⊢
            rw [if_pos (by omega)]
            split at h
            · simp at h
            · rename_i f1
              rw [if_pos (by omega), if_neg f1]
              apply Prod.ext <;> simp only <;> omega
          · rw [if_neg d1] at h; simp at h
        · rw [if_neg c3] at h; simp at h
set_option maxHeartbeats 4000000 in
/-- what Go's range reads, where there is none -/
theorem decode_none (n b0 b1 b2 b3 : Nat) (h0 : b0 < 256) (h1 : b1 < 256) (h2 : b2 < 256) (h3 : b3 < 256) (hn : 1 ≤ n) (h : (oneR n b0 b1 b2 b3).2 = 0) : Lib.decodeN n b0 b1 b2 b3 = (65533, 1) ∧ ¬ (3 ≤ n ∧ b0 = 239 ∧ b1 = 191 ∧ b2 = 189) := by
  unfold oneR fin cont at h
  unfold Lib.decodeN
  refine ⟨?_, ?_⟩
  · repeat' split at h
    all_goals first | (simp at h; done) | skip
    all_goals (repeat' split) 
    all_goals first | rfl | (exfalso; omega)
  · rintro ⟨g0, rfl, rfl, rfl⟩
    simp [g0] at h
/-- the replacement rune itself: three bytes -/
theorem one_fffd (n b0 b1 b2 b3 : Nat) (h0 : b0 < 256) (h1 : b1 < 256) (h2 : b2 < 256) (h3 : b3 < 256) (h : (oneR n b0 b1 b2 b3).2 ≠ 0) (hv : (oneR n b0 b1 b2 b3).1 = 65533) : 3 ≤ n ∧ b0 = 239 ∧ b1 = 191 ∧ b2 = 189 := by
  generalize hp : oneR n b0 b1 b2 b3 = p at *
  unfold oneR fin cont at hp
  repeat' split at hp
  all_goals (subst hp; simp only at h hv; try omega)

/-! ### lists of bytes -/
def nth (l : List UInt8) (i : Nat) : Nat := (l.getD i 0).toNat
theorem nth_lt (l : List UInt8) (i : Nat) : nth l i < 256 := by unfold nth; exact (l.getD i 0).toNat_lt
def oneL (l : List UInt8) : Nat × Nat := oneR l.length (nth l 0) (nth l 1) (nth l 2) (nth l 3)
def runesF : Nat → List UInt8 → Option (List Int)
  | 0, _ => some []
  | _ + 1, [] => some []
  | f + 1, b :: t => if (oneL (b :: t)).2 = 0 then none else (runesF f ((b :: t).drop (oneL (b :: t)).2)).map (((oneL (b :: t)).1 : Int) :: ·)
/-- the runes of a text -/
def runes (l : List UInt8) : Option (List Int) := runesF l.length l
theorem runesF_more : ∀ (f g : Nat) (l : List UInt8), l.length ≤ f → l.length ≤ g → runesF f l = runesF g l
  | 0, g, l, h, _ => by
    have : l = [] := List.eq_nil_of_length_eq_zero (by omega)
    subst this
    cases g <;> rfl
  | f + 1, 0, l, _, h => by
    have : l = [] := List.eq_nil_of_length_eq_zero (by omega)
    subst this
    rfl
  | f + 1, g + 1, [], _, _ => rfl
  | f + 1, g + 1, b :: t, h, h' => by
    unfold runesF
    by_cases e : (oneL (b :: t)).2 = 0
    · rw [if_pos e, if_pos e]
    · rw [if_neg e, if_neg e, runesF_more f g _ (by simp at h ⊢; omega) (by simp at h' ⊢; omega)]
theorem runes_nil : runes [] = some [] := rfl
theorem runes_step (l : List UInt8) (h : l ≠ []) : runes l = if (oneL l).2 = 0 then none else (runes (l.drop (oneL l).2)).map (((oneL l).1 : Int) :: ·) := by
  cases l with
  | nil => exact absurd rfl h
  | cons b t =>
    have h1 : runes (b :: t) = if (oneL (b :: t)).2 = 0 then none else (runesF t.length ((b :: t).drop (oneL (b :: t)).2)).map (((oneL (b :: t)).1 : Int) :: ·) := rfl
    rw [h1]
    unfold runes
    by_cases e : (oneL (b :: t)).2 = 0
    · rw [if_pos e, if_pos e]
    · rw [if_neg e, if_neg e]
      rw [runesF_more t.length ((b :: t).drop (oneL (b :: t)).2).length _ (by rw [List.length_drop]; simp only [List.length_cons]; omega) (Nat.le_refl _)]
/-- a rune that may be -/
def okR (v : Int) : Prop := 0 ≤ v ∧ v ≤ 1114111 ∧ ¬ (55296 ≤ v ∧ v ≤ 57343)
def enc (v : Int) : List UInt8 := Lib.encodeRune v
/-- the bytes of runes -/
def text (m : List Int) : List UInt8 := m.flatMap enc
theorem text_nil : text [] = [] := rfl
theorem text_cons (v : Int) (m : List Int) : text (v :: m) = enc v ++ text m := rfl
theorem text_append (a b : List Int) : text (a ++ b) = text a ++ text b := List.flatMap_append ..
theorem enc_len (v : Int) : 1 ≤ (enc v).length ∧ (enc v).length ≤ 4 := by
  have := Lib.runeCells_le v
  rw [Lib.runeCells_length] at this
  exact this
theorem enc_one {v : Int} (h0 : 0 ≤ v) (h1 : v ≤ 127) : enc v = [v.toNat.toUInt8] := by
  unfold enc Lib.encodeRune; rw [Lib.encodeRuneZ_one h0 h1]; rfl
theorem enc_two {v : Int} (h0 : 128 ≤ v) (h1 : v ≤ 2047) : enc v = [(192 + v / 64).toNat.toUInt8, (128 + v % 64).toNat.toUInt8] := by
  unfold enc Lib.encodeRune; rw [Lib.encodeRuneZ_two h0 h1]; rfl
theorem enc_three {v : Int} (h : (2048 ≤ v ∧ v < 55296) ∨ (57343 < v ∧ v ≤ 65535)) : enc v = [(224 + v / 4096).toNat.toUInt8, (128 + v / 64 % 64).toNat.toUInt8, (128 + v % 64).toNat.toUInt8] := by
  unfold enc Lib.encodeRune; rw [Lib.encodeRuneZ_three h]; rfl
theorem enc_four {v : Int} (h0 : 65536 ≤ v) (h1 : v ≤ 1114111) : enc v = [(240 + v / 262144).toNat.toUInt8, (128 + v / 4096 % 64).toNat.toUInt8, (128 + v / 64 % 64).toNat.toUInt8, (128 + v % 64).toNat.toUInt8] := by
  unfold enc Lib.encodeRune; rw [Lib.encodeRuneZ_four h0 h1]; rfl
theorem u8z (a : Int) (h0 : 0 ≤ a) (h1 : a < 256) : (a.toNat.toUInt8).toNat = a.toNat := by
  simp; omega
theorem nth_cons (b : UInt8) (t : List UInt8) : nth (b :: t) 0 = b.toNat := rfl
theorem nth_cons1 (b : UInt8) (t : List UInt8) (i : Nat) : nth (b :: t) (i + 1) = nth t i := by unfold nth; simp
set_option maxHeartbeats 4000000 in
theorem one_enc (v : Int) (t : List UInt8) (h : okR v) : oneL (enc v ++ t) = (v.toNat, (enc v).length) := by
  obtain ⟨h0, h1, h2⟩ := h
  by_cases a1 : v ≤ 127
  · rw [enc_one h0 a1]
    unfold oneL oneR
    have e0 : nth ([v.toNat.toUInt8] ++ t) 0 = v.toNat := u8z v h0 (by omega)
    rw [e0, if_pos (by omega)]; rfl
  · by_cases a2 : v ≤ 2047
    · rw [enc_two (by omega) a2]
      unfold oneL oneR
      have e0 : nth ([(192 + v / 64).toNat.toUInt8, (128 + v % 64).toNat.toUInt8] ++ t) 0 = (192 + v / 64).toNat := u8z _ (by omega) (by omega)
      have e1 : nth ([(192 + v / 64).toNat.toUInt8, (128 + v % 64).toNat.toUInt8] ++ t) 1 = (128 + v % 64).toNat := u8z _ (by omega) (by omega)
      rw [e0, e1, if_neg (by omega), if_pos (by omega), if_pos ⟨by simp, by unfold cont; omega⟩]
      unfold fin
      rw [if_neg (by omega)]
      apply Prod.ext
      · show _ = v.toNat; simp only; omega
      · rfl
    · by_cases a3 : v ≤ 65535
      · rw [enc_three (by omega)]
        unfold oneL oneR
        have e0 : nth ([(224 + v / 4096).toNat.toUInt8, (128 + v / 64 % 64).toNat.toUInt8, (128 + v % 64).toNat.toUInt8] ++ t) 0 = (224 + v / 4096).toNat := u8z _ (by omega) (by omega)
        have e1 : nth ([(224 + v / 4096).toNat.toUInt8, (128 + v / 64 % 64).toNat.toUInt8, (128 + v % 64).toNat.toUInt8] ++ t) 1 = (128 + v / 64 % 64).toNat := u8z _ (by omega) (by omega)
        have e2 : nth ([(224 + v / 4096).toNat.toUInt8, (128 + v / 64 % 64).toNat.toUInt8, (128 + v % 64).toNat.toUInt8] ++ t) 2 = (128 + v % 64).toNat := u8z _ (by omega) (by omega)
        rw [e0, e1, e2, if_neg (by omega), if_neg (by omega), if_pos (by omega), if_pos ⟨by simp, by unfold cont; omega, by unfold cont; omega⟩]
        unfold fin
        rw [if_neg (by omega)]
        apply Prod.ext
        · show _ = v.toNat; simp only; omega
        · rfl
      · rw [enc_four (by omega) h1]
        unfold oneL oneR
        have e0 : nth ([(240 + v / 262144).toNat.toUInt8, (128 + v / 4096 % 64).toNat.toUInt8, (128 + v / 64 % 64).toNat.toUInt8, (128 + v % 64).toNat.toUInt8] ++ t) 0 = (240 + v / 262144).toNat := u8z _ (by omega) (by omega)
        have e1 : nth ([(240 + v / 262144).toNat.toUInt8, (128 + v / 4096 % 64).toNat.toUInt8, (128 + v / 64 % 64).toNat.toUInt8, (128 + v % 64).toNat.toUInt8] ++ t) 1 = (128 + v / 4096 % 64).toNat := u8z _ (by omega) (by omega)
        have e2 : nth ([(240 + v / 262144).toNat.toUInt8, (128 + v / 4096 % 64).toNat.toUInt8, (128 + v / 64 % 64).toNat.toUInt8, (128 + v % 64).toNat.toUInt8] ++ t) 2 = (128 + v / 64 % 64).toNat := u8z _ (by omega) (by omega)
        have e3 : nth ([(240 + v / 262144).toNat.toUInt8, (128 + v / 4096 % 64).toNat.toUInt8, (128 + v / 64 % 64).toNat.toUInt8, (128 + v % 64).toNat.toUInt8] ++ t) 3 = (128 + v % 64).toNat := u8z _ (by omega) (by omega)
        rw [e0, e1, e2, e3, if_neg (by omega), if_neg (by omega), if_neg (by omega), if_pos (by omega), if_pos ⟨by simp, by unfold cont; omega, by unfold cont; omega, by unfold cont; omega⟩]
        unfold fin
        rw [if_neg (by omega)]
        apply Prod.ext
        · show _ = v.toNat; simp only; omega
        · rfl
theorem ex1 {b : UInt8} {l : List UInt8} {n : Nat} (hn : 2 ≤ n) (h : n ≤ (b :: l).length) : ∃ c t, l = c :: t := by
  cases l with
  | nil => simp at h; omega
  | cons c t => exact ⟨c, t, rfl⟩
theorem u8_of (b : UInt8) (n : Nat) (h : n = b.toNat) : n.toUInt8 = b := by subst h; simp
set_option maxHeartbeats 4000000 in
/-- the bytes that were read are the rune's -/
theorem enc_of_one (l : List UInt8) (h : (oneL l).2 ≠ 0) (hl : l ≠ []) : l.take (oneL l).2 = enc ((oneL l).1 : Int) := by
  match l, hl with
  | b0 :: l1, _ =>
  have hb0 := b0.toNat_lt
  unfold oneL oneR at h ⊢
  rw [nth_cons] at h ⊢
  by_cases c0 : b0.toNat < 128
  · simp only [c0, if_true]
    rw [enc_one (by omega) (by omega)]
    show [b0] = _
    rw [u8_of b0 _ (by simp)]
  · simp only [c0, if_false] at h ⊢
    by_cases c1 : 194 ≤ b0.toNat ∧ b0.toNat < 224
    · rw [if_pos c1] at h ⊢
      split at h
      · rename_i d1
        rw [if_pos d1]
        unfold fin at h ⊢
        split at h
        · simp at h
        · rename_i f1
          rw [if_neg f1]
          obtain ⟨d2, d3⟩ := d1
          obtain ⟨b1, l2, rfl⟩ := ex1 (n := 2) (by omega) d2
          have e1 : nth (b0 :: b1 :: l2) 1 = b1.toNat := rfl
          rw [e1] at d3 f1 ⊢
          unfold cont at d3
          rw [enc_two (by omega) (by omega)]
          show [b0, b1] = _
          rw [u8_of b0 _ (by omega), u8_of b1 _ (by omega)]
      · simp at h
    · rw [if_neg c1] at h ⊢
      by_cases c2 : 224 ≤ b0.toNat ∧ b0.toNat < 240
      · rw [if_pos c2] at h ⊢
        split at h
        · rename_i d1
          rw [if_pos d1]
          unfold fin at h ⊢
          split at h
          · simp at h
          · rename_i f1
            rw [if_neg f1]
            obtain ⟨d2, d3, d4⟩ := d1
            obtain ⟨b1, l2', rfl⟩ := ex1 (n := 3) (by omega) d2
            obtain ⟨b2, l2, rfl⟩ := ex1 (b := b1) (l := l2') (n := 2) (by omega) (by simp only [List.length_cons] at d2 ⊢; omega)
            have e1 : nth (b0 :: b1 :: b2 :: l2) 1 = b1.toNat := rfl
            have e2 : nth (b0 :: b1 :: b2 :: l2) 2 = b2.toNat := rfl
            rw [e1] at d3 f1 ⊢
            rw [e2] at d4 f1 ⊢
            unfold cont at d3 d4
            rw [enc_three (by omega)]
            show [b0, b1, b2] = _
            rw [u8_of b0 _ (by omega), u8_of b1 _ (by omega), u8_of b2 _ (by omega)]
        · simp at h
      · rw [if_neg c2] at h ⊢
        by_cases c3 : 240 ≤ b0.toNat ∧ b0.toNat < 245
        · rw [if_pos c3] at h ⊢
          split at h
          · rename_i d1
            rw [if_pos d1]
            unfold fin at h ⊢
            split at h
            · simp at h
            · rename_i f1
              rw [if_neg f1]
              obtain ⟨d2, d3, d4, d5⟩ := d1
              obtain ⟨b1, l2', rfl⟩ := ex1 (n := 4) (by omega) d2
              obtain ⟨b2, l2'', rfl⟩ := ex1 (b := b1) (l := l2') (n := 3) (by omega) (by simp only [List.length_cons] at d2 ⊢; omega)
              obtain ⟨b3, l2, rfl⟩ := ex1 (b := b2) (l := l2'') (n := 2) (by omega) (by simp only [List.length_cons] at d2 ⊢; omega)
              have e1 : nth (b0 :: b1 :: b2 :: b3 :: l2) 1 = b1.toNat := rfl
              have e2 : nth (b0 :: b1 :: b2 :: b3 :: l2) 2 = b2.toNat := rfl
              have e3 : nth (b0 :: b1 :: b2 :: b3 :: l2) 3 = b3.toNat := rfl
              rw [e1] at d3 f1 ⊢
              rw [e2] at d4 f1 ⊢
              rw [e3] at d5 f1 ⊢
              unfold cont at d3 d4 d5
              rw [enc_four (by omega) (by omega)]
              show [b0, b1, b2, b3] = _
              rw [u8_of b0 _ (by omega), u8_of b1 _ (by omega), u8_of b2 _ (by omega), u8_of b3 _ (by omega)]
          · simp at h
        · rw [if_neg c3] at h; simp at h
theorem one_ok (l : List UInt8) (h : (oneL l).2 ≠ 0) : okR ((oneL l).1 : Int) := by
  obtain ⟨h1, h2⟩ := oneR_lt _ _ _ _ _ h
  exact ⟨by omega, by unfold oneL; omega, by unfold oneL; omega⟩
/-- what is read is a text of runes that may be -/
theorem runes_text : ∀ (n : Nat) (l : List UInt8) (m : List Int), l.length ≤ n → runes l = some m → text m = l ∧ ∀ v ∈ m, okR v
  | 0, l, m, hn, h => by
    have : l = [] := List.eq_nil_of_length_eq_zero (by omega)
    subst this
    rw [runes_nil] at h
    cases h
    exact ⟨rfl, by simp⟩
  | n + 1, l, m, hn, h => by
    by_cases hl : l = []
    · subst hl
      rw [runes_nil] at h
      cases h
      exact ⟨rfl, by simp⟩
    · rw [runes_step l hl] at h
      by_cases e : (oneL l).2 = 0
      · rw [if_pos e] at h; cases h
      · rw [if_neg e] at h
        obtain ⟨m', hm, rfl⟩ := Option.map_eq_some_iff.1 h
        obtain ⟨i1, i2⟩ := runes_text n _ m' (by rw [List.length_drop]; omega) hm
        refine ⟨?_, ?_⟩
        · rw [text_cons, i1, ← enc_of_one l e hl, List.take_append_drop]
        · intro v hv
          rcases List.mem_cons.1 hv with rfl | hv
          · exact one_ok l e
          · exact i2 v hv
/-- the runes of a text of runes that may be -/
theorem runes_of : ∀ (m : List Int) (t : List UInt8), (∀ v ∈ m, okR v) → runes (text m ++ t) = (runes t).map (m ++ ·)
  | [], t, _ => by
    show runes t = _
    cases runes t <;> rfl
  | v :: m, t, h => by
    have hv := h v (by simp)
    have he := enc_len v
    have h1 := one_enc v (text m ++ t) hv
    have hne : text (v :: m) ++ t ≠ [] := by
      rw [text_cons]
      intro e
      have := congrArg List.length e
      rw [List.length_append, List.length_append, List.length_nil] at this
      omega
    rw [runes_step _ hne, text_cons, List.append_assoc, h1]
    rw [if_neg (by show ¬ (enc v).length = 0; omega)]
    show (runes ((enc v ++ (text m ++ t)).drop (enc v).length)).map _ = _
    rw [List.drop_left, runes_of m t (fun u hu => h u (by simp [hu]))]
    cases runes t with
    | none => rfl
    | some x =>
      show some _ = some _
      congr 1
      show ((v.toNat : Int) :: (m ++ x)) = v :: m ++ x
      rw [Int.toNat_of_nonneg hv.1]; rfl
theorem runes_back (m : List Int) (h : ∀ v ∈ m, okR v) : runes (text m) = some m := by
  have := runes_of m [] h
  rw [List.append_nil, runes_nil] at this
  simpa using this
theorem runes_append {a b : List UInt8} {m n : List Int} (ha : runes a = some m) (hb : runes b = some n) : runes (a ++ b) = some (m ++ n) := by
  obtain ⟨h1, h2⟩ := runes_text _ a m (Nat.le_refl _) ha
  rw [← h1, runes_of m b h2, hb]; rfl
theorem text_len (m : List Int) : m.length ≤ (text m).length := by
  induction m with
  | nil => simp
  | cons v m ih =>
    have := enc_len v
    rw [text_cons, List.length_append, List.length_cons]; omega
theorem runes_len {l : List UInt8} {m : List Int} (h : runes l = some m) : m.length ≤ l.length := by
  obtain ⟨h1, _⟩ := runes_text _ l m (Nat.le_refl _) h
  rw [← h1]
  exact text_len m
/-! ### strings: what Go's range reads at a place -/
theorem get_nth (s : ByteArray) (i k : Nat) : (s.get! (i + k)).toNat = nth (s.data.toList.drop i) k := by
  unfold nth
  have : s.get! (i + k) = s.data[i + k]! := rfl
  rw [this, List.getD_eq_getElem?_getD, List.getElem?_drop, Array.getElem?_toList]
  by_cases h : i + k < s.data.size
  · rw [getElem!_pos s.data (i + k) h, Array.getElem?_eq_getElem h]; rfl
  · rw [getElem!_neg s.data (i + k) h, Array.getElem?_eq_none (by omega)]; rfl
theorem decode_list (s : ByteArray) (i : Nat) : Utf8.decode s i = Lib.decodeN (s.data.toList.drop i).length (nth (s.data.toList.drop i) 0) (nth (s.data.toList.drop i) 1) (nth (s.data.toList.drop i) 2) (nth (s.data.toList.drop i) 3) := by
  rw [Lib.decode_at]
  have h0 := get_nth s i 0
  rw [Nat.add_zero] at h0
  rw [h0, get_nth, get_nth, get_nth]
  congr 1
  simp
theorem decode_yes (s : ByteArray) (i : Nat) (hi : i < s.size) (h : (oneL (s.data.toList.drop i)).2 ≠ 0) : Utf8.decode s i = oneL (s.data.toList.drop i) := by
  have : s.data.toList.length = s.size := by simp
  rw [decode_list]
  exact decode_one _ _ _ _ _ (nth_lt _ _) (nth_lt _ _) (nth_lt _ _) (nth_lt _ _) (by rw [List.length_drop]; omega) h
/-- does a text begin with the replacement rune's bytes? -/
def fffd (l : List UInt8) : Prop := 3 ≤ l.length ∧ nth l 0 = 239 ∧ nth l 1 = 191 ∧ nth l 2 = 189
theorem decode_no (s : ByteArray) (i : Nat) (hi : i < s.size) (h : (oneL (s.data.toList.drop i)).2 = 0) : Utf8.decode s i = (65533, 1) ∧ ¬ fffd (s.data.toList.drop i) := by
  have : s.data.toList.length = s.size := by simp
  rw [decode_list]
  exact decode_none _ _ _ _ _ (nth_lt _ _) (nth_lt _ _) (nth_lt _ _) (nth_lt _ _) (by rw [List.length_drop]; omega) h
theorem fffd_yes (l : List UInt8) (h : (oneL l).2 ≠ 0) (hv : (oneL l).1 = 65533) : fffd l :=
  one_fffd _ _ _ _ _ (nth_lt _ _) (nth_lt _ _) (nth_lt _ _) (nth_lt _ _) h hv
theorem fffd_prefix (l : List UInt8) : fffd l ↔ [239, 191, 189] <+: l := by
  constructor
  · rintro ⟨h0, h1, h2, h3⟩
    match l, h0 with
    | a :: b :: c :: t, _ =>
    have e1 : a = 239 := UInt8.toNat_inj.1 h1
    have e2 : b = 191 := UInt8.toNat_inj.1 h2
    have e3 : c = 189 := UInt8.toNat_inj.1 h3
    subst e1 e2 e3
    exact ⟨t, rfl⟩
  · rintro ⟨t, rfl⟩
    exact ⟨by simp, rfl, rfl, rfl⟩
theorem one_width (l : List UInt8) (hl : l ≠ []) : (oneL l).2 ≤ l.length := by
  refine oneR_n _ _ _ _ _ ?_
  have := List.length_pos_iff.2 hl
  omega
end run
end Go.Proofs.YtckpiaigoeicfaaGreatDoor
/-! PrepP -/
namespace Go.Proofs.YtckpiaigoeicfaaGreatDoor
namespace prp
open run
set_option linter.unusedVariables false
set_option linter.unusedSimpArgs false
/-! ### blanks squeezed -/
section
variable {α : Type} [DecidableEq α]
def headNe (b : α) : List α → Bool
  | [] => false
  | x :: _ => decide (x ≠ b)
def sq (b : α) : Bool → List α → List α
  | _, [] => []
  | st, x :: t => if x ≠ b then x :: sq b true t else if st = true ∧ headNe b t = true then x :: sq b true t else sq b st t
def pieces (b : α) : List α → List (List α)
  | [] => [[]]
  | x :: t => if x = b then [] :: pieces b t else match pieces b t with
    | [] => [[x]]
    | p :: r => (x :: p) :: r
theorem pieces_ne (b : α) (l : List α) : ∃ p r, pieces b l = p :: r := by
  cases l with
  | nil => exact ⟨_, _, rfl⟩
  | cons x t =>
    unfold pieces
    split
    · exact ⟨_, _, rfl⟩
    · split <;> exact ⟨_, _, rfl⟩
theorem pieces_ne_cons (b x : α) (t p : List α) (r : List (List α)) (h : x ≠ b) (hp : pieces b t = p :: r) : pieces b (x :: t) = (x :: p) :: r := by
  rw [pieces, if_neg h, hp]
theorem sq_ne (b x : α) (st : Bool) (t : List α) (h : x ≠ b) : sq b st (x :: t) = x :: sq b true t := by rw [sq, if_pos h]
theorem sq_on (b : α) (t : List α) (h : headNe b t = true) : sq b true (b :: t) = b :: sq b true t := by rw [sq, if_neg (by simp), if_pos ⟨rfl, h⟩]
theorem sq_off (b : α) (st : Bool) (t : List α) (h : ¬ (st = true ∧ headNe b t = true)) : sq b st (b :: t) = sq b st t := by rw [sq, if_neg (by simp), if_neg h]
theorem sq_run (b : α) : ∀ (xs t : List α) (st : Bool), xs ≠ [] → (∀ x ∈ xs, x ≠ b) → sq b st (xs ++ t) = xs ++ sq b true t
  | [], _, _, h, _ => absurd rfl h
  | [x], t, st, _, h => sq_ne b x st t (h x (by simp))
  | x :: y :: ys, t, st, _, h => by
    rw [List.cons_append, sq_ne b x st _ (h x (by simp)), sq_run b (y :: ys) t true (by simp) (fun z hz => h z (by simp at hz ⊢; right; exact hz))]; rfl
theorem sq_len (b : α) : ∀ (l : List α) (st : Bool), (sq b st l).length ≤ l.length
  | [], _ => by simp [sq]
  | x :: t, st => by
    have h1 := sq_len b t true
    have h2 := sq_len b t st
    unfold sq
    repeat' split
    all_goals (simp; try omega)
theorem sq_mem (b : α) : ∀ (l : List α) (st : Bool) (x : α), x ∈ sq b st l → x ∈ l
  | [], _, x, h => by simp [sq] at h
  | y :: t, st, x, h => by
    unfold sq at h
    repeat' split at h
    · rcases List.mem_cons.1 h with rfl | h
      · simp
      · exact List.mem_cons_of_mem _ (sq_mem b t _ x h)
    · rcases List.mem_cons.1 h with rfl | h
      · simp
      · exact List.mem_cons_of_mem _ (sq_mem b t _ x h)
    · exact List.mem_cons_of_mem _ (sq_mem b t _ x h)
theorem headNe_sq (b : α) : ∀ l : List α, headNe b l = true → headNe b (sq b true l) = true
  | [], h => by simp [headNe] at h
  | x :: t, h => by
    have hx : x ≠ b := by simpa [headNe] using h
    rw [sq_ne b x true t hx]
    simpa [headNe] using hx
/-- squeezed twice is squeezed once -/
theorem sq_sq (b : α) : ∀ (l : List α) (st : Bool), sq b st (sq b st l) = sq b st l
  | [], _ => by simp [sq]
  | x :: t, st => by
    by_cases hx : x = b
    · subst hx
      by_cases hh : st = true ∧ headNe x t = true
      · obtain ⟨rfl, hh⟩ := hh
        rw [sq_on x t hh, sq_on x _ (headNe_sq x t hh), sq_sq x t true]
      · rw [sq_off x st t hh, sq_sq x t st]
    · rw [sq_ne b x st t hx, sq_ne b x st _ hx, sq_sq b t true]
theorem filter_sq (b : α) (p : α → Bool) (hp : p b = false) : ∀ (l : List α) (st : Bool), (sq b st l).filter p = l.filter p
  | [], _ => by simp [sq]
  | x :: t, st => by
    have h1 := filter_sq b p hp t true
    have h2 := filter_sq b p hp t st
    by_cases hx : x = b
    · subst hx
      by_cases hh : st = true ∧ headNe x t = true
      · obtain ⟨rfl, hh⟩ := hh
        rw [sq_on x t hh, List.filter_cons, List.filter_cons, h1]
      · rw [sq_off x st t hh, h2, List.filter_cons, hp]; rfl
    · rw [sq_ne b x st t hx, List.filter_cons, List.filter_cons, h1]
/-- more blanks ahead -/
theorem sq_ahead (b : α) (l : List α) : ∀ k : Nat, sq b false (List.replicate k b ++ l) = sq b false l
  | 0 => by simp
  | k + 1 => by
    rw [List.replicate_succ, List.cons_append, sq_off b false _ (by simp), sq_ahead b l k]
theorem sq_rep (b : α) : ∀ (k : Nat) (st : Bool), sq b st (List.replicate k b) = []
  | 0, _ => by simp [sq]
  | k + 1, st => by
    have hh : headNe b (List.replicate k b) = false := by cases k <;> simp [headNe, List.replicate_succ]
    rw [List.replicate_succ, sq_off b st _ (by rw [hh]; simp), sq_rep b k st]
/-- more blanks behind -/
theorem sq_behind (b : α) (k : Nat) : ∀ (l : List α) (st : Bool), sq b st (l ++ List.replicate k b) = sq b st l
  | [], st => by rw [List.nil_append, sq_rep]; simp [sq]
  | x :: t, st => by
    by_cases hx : x = b
    · subst hx
      have hh : headNe x (t ++ List.replicate k x) = headNe x t := by
        cases t with
        | nil => cases k <;> simp [headNe, List.replicate_succ]
        | cons y t => rfl
      rw [List.cons_append]
      by_cases h : st = true ∧ headNe x t = true
      · obtain ⟨rfl, h⟩ := h
        rw [sq_on x t h, sq_on x _ (by rw [hh]; exact h), sq_behind x k t true]
      · rw [sq_off x st t h, sq_off x st _ (by rw [hh]; exact h), sq_behind x k t st]
    · rw [List.cons_append, sq_ne b x st _ hx, sq_ne b x st _ hx, sq_behind b k t true]
theorem headNe_rep (b : α) (k : Nat) (l : List α) : headNe b (List.replicate (k + 1) b ++ l) = false := by simp [headNe, List.replicate_succ]
theorem sq_blanks (b : α) (l : List α) : ∀ (k : Nat) (st : Bool), sq b st (List.replicate (k + 1) b ++ l) = sq b st (b :: l)
  | 0, st => rfl
  | k + 1, st => by
    rw [List.replicate_succ, List.cons_append, sq_off b st _ (by rw [headNe_rep]; simp), sq_blanks b l k st]
/-- more blanks within -/
theorem sq_within (b : α) (k : Nat) (r : List α) : ∀ (l : List α) (st : Bool), sq b st (l ++ (List.replicate (k + 1) b ++ r)) = sq b st (l ++ b :: r)
  | [], st => by rw [List.nil_append, List.nil_append, sq_blanks]
  | x :: t, st => by
    by_cases hx : x = b
    · subst hx
      have hh : headNe x (t ++ (List.replicate (k + 1) x ++ r)) = headNe x (t ++ x :: r) := by
        cases t with
        | nil => rw [List.nil_append, List.nil_append, headNe_rep]; simp [headNe]
        | cons y t => rfl
      rw [List.cons_append, List.cons_append]
      by_cases h : st = true ∧ headNe x (t ++ x :: r) = true
      · obtain ⟨rfl, h⟩ := h
        rw [sq_on x _ h, sq_on x _ (by rw [hh]; exact h), sq_within x k r t true]
      · rw [sq_off x st _ h, sq_off x st _ (by rw [hh]; exact h), sq_within x k r t st]
    · rw [List.cons_append, List.cons_append, sq_ne b x st _ hx, sq_ne b x st _ hx, sq_within b k r t true]
/-- a map that leaves the blank alone, and makes none, goes through -/
theorem sq_map (b : α) (f : α → α) : ∀ (l : List α) (st : Bool), (∀ x ∈ l, (f x = b ↔ x = b)) → sq b st (l.map f) = (sq b st l).map f
  | [], _, _ => by simp [sq]
  | x :: t, st, h => by
    have hx := h x (by simp)
    have ht : ∀ y ∈ t, (f y = b ↔ y = b) := fun y hy => h y (by simp [hy])
    have hh : headNe b (t.map f) = headNe b t := by
      cases t with
      | nil => rfl
      | cons y t =>
        have := h y (by simp)
        simp only [List.map_cons, headNe]
        by_cases e : y = b
        · have e2 := this.2 e; simp only [e, e2, ne_eq, not_true_eq_false, decide_false]; rw [← e, e2, e]; simp
        · have e2 : f y ≠ b := fun e2 => e (this.1 e2); simp [e, e2]
    rw [List.map_cons]
    by_cases e : x = b
    · subst e
      have e2 := hx.2 rfl
      rw [e2]
      by_cases h2 : st = true ∧ headNe x t = true
      · obtain ⟨rfl, h2⟩ := h2
        rw [sq_on x t h2, sq_on x _ (by rw [hh]; exact h2), sq_map x f t true ht, List.map_cons, e2]
      · rw [sq_off x st t h2, sq_off x st _ (by rw [hh]; exact h2), sq_map x f t st ht]
    · rw [sq_ne b x st t e, sq_ne b (f x) st _ (fun e2 => e (hx.1 e2)), sq_map b f t true ht, List.map_cons]
end
/-! ### Go's way: pieces, words, joined -/
def joinT (b : UInt8) (r : List (List UInt8)) : List UInt8 := Lib.joinTail [b] r
theorem sq_true_pieces (b : UInt8) : ∀ (l p : List UInt8) (r : List (List UInt8)), pieces b l = p :: r → sq b true l = p ++ Lib.joinTail [b] (r.filter (· ≠ []))
  | [], p, r, h => by
    simp only [pieces, List.cons.injEq] at h
    obtain ⟨rfl, rfl⟩ := h
    simp [sq, Lib.joinTail]
  | x :: t, p, r, h => by
    obtain ⟨p', r', h'⟩ := pieces_ne b t
    have ih := sq_true_pieces b t p' r' h'
    by_cases hx : x = b
    · subst hx
      rw [pieces, if_pos rfl, h'] at h
      simp only [List.cons.injEq] at h
      obtain ⟨rfl, rfl⟩ := h
      cases t with
      | nil =>
        simp only [pieces, List.cons.injEq] at h'
        obtain ⟨rfl, rfl⟩ := h'
        simp [sq, headNe, Lib.joinTail]
      | cons y t =>
        by_cases hy : y = x
        · subst hy
          rw [pieces, if_pos rfl] at h'
          simp only [List.cons.injEq] at h'
          obtain ⟨rfl, rfl⟩ := h'
          rw [sq_off y true _ (by simp [headNe]), ih]
          simp
        · rw [sq_on x _ (by simp [headNe, hy]), ih]
          clear ih
          obtain ⟨p2, r2, h2⟩ := pieces_ne x t
          rw [pieces_ne_cons x y t p2 r2 hy h2] at h'
          simp only [List.cons.injEq] at h'
          obtain ⟨rfl, rfl⟩ := h'
          simp [Lib.joinTail]
    · rw [pieces_ne_cons b x t p' r' hx h'] at h
      simp only [List.cons.injEq] at h
      obtain ⟨rfl, rfl⟩ := h
      rw [sq_ne b x true t hx, ih]; rfl
theorem sq_pieces (b : UInt8) : ∀ (l : List UInt8), sq b false l = Lib.join ((pieces b l).filter (· ≠ [])) [b]
  | [] => by simp [sq, pieces, Lib.join_nil]
  | x :: t => by
    obtain ⟨p', r', h'⟩ := pieces_ne b t
    by_cases hx : x = b
    · subst hx
      have hp : pieces x (x :: t) = [] :: pieces x t := by rw [pieces, if_pos rfl]
      rw [sq_off x false t (by simp), hp, sq_pieces x t]
      simp
    · rw [sq_ne b x false t hx, pieces_ne_cons b x t p' r' hx h', sq_true_pieces b t p' r' h']
      rw [show ((x :: p') :: r').filter (· ≠ []) = (x :: p') :: r'.filter (· ≠ []) from by simp, Lib.join_cons]
      rfl
theorem pieces_no (c : UInt8) : ∀ l : List UInt8, c ∉ l → pieces c l = [l]
  | [], _ => rfl
  | x :: t, h => by
    simp only [List.mem_cons, not_or] at h
    exact pieces_ne_cons c x t t [] (Ne.symm h.1) (pieces_no c t h.2)
theorem pieces_at (c : UInt8) : ∀ (a t : List UInt8), c ∉ a → pieces c (a ++ c :: t) = a :: pieces c t
  | [], t, _ => by rw [List.nil_append, pieces, if_pos rfl]
  | x :: a, t, h => by
    simp only [List.mem_cons, not_or] at h
    exact pieces_ne_cons c x _ a (pieces c t) (Ne.symm h.1) (pieces_at c a t h.2)
/-- where the first one stands -/
theorem index_one (c : UInt8) : ∀ l : List UInt8, (Lib.index l [c] = -1 ∧ c ∉ l) ∨ ∃ a t, l = a ++ c :: t ∧ c ∉ a ∧ Lib.index l [c] = (a.length : Int)
  | [] => Or.inl ⟨by simp [Lib.index], by simp⟩
  | x :: t => by
    by_cases hx : x = c
    · subst hx
      exact Or.inr ⟨[], t, rfl, by simp, by rw [Lib.index]; simp [List.isPrefixOf]⟩
    · have hp : ([c] : List UInt8).isPrefixOf (x :: t) = false := by simp [List.isPrefixOf, Ne.symm hx]
      have hix : Lib.index (x :: t) [c] = if Lib.index t [c] == -1 then -1 else Lib.index t [c] + 1 := by rw [Lib.index, hp]; simp
      rcases index_one c t with ⟨h1, h2⟩ | ⟨a, r, rfl, h2, h3⟩
      · refine Or.inl ⟨by rw [hix, h1]; rfl, by simp [h2, Ne.symm hx]⟩
      · refine Or.inr ⟨x :: a, r, rfl, by simp [h2, Ne.symm hx], ?_⟩
        rw [hix, h3, if_neg (by simp)]
        simp
theorem splitK_pieces (c : UInt8) : ∀ (k : Nat) (l : List UInt8), l.count c = k → Lib.splitK [c] 0 k l = pieces c l
  | 0, l, h => by
    rw [pieces_no c l (List.count_eq_zero.1 h)]; rfl
  | k + 1, l, h => by
    rcases index_one c l with ⟨h1, h2⟩ | ⟨a, t, rfl, h2, h3⟩
    · rw [List.count_eq_zero.2 h2] at h; omega
    · rw [Lib.splitK, if_neg (by rw [h3]; simp), h3, pieces_at c a t h2]
      have ht : t.count c = k := by
        rw [List.count_append, List.count_cons_self, List.count_eq_zero.2 h2] at h; omega
      rw [show ((a.length : Int).toNat + 0) = a.length from by omega, List.take_left, show ((a.length : Int).toNat + [c].length) = a.length + 1 from by simp]
      rw [show (a ++ c :: t).drop (a.length + 1) = t from by rw [show a ++ c :: t = (a ++ [c]) ++ t from by simp, show a.length + 1 = (a ++ [c]).length from by simp, List.drop_left]]
      rw [splitK_pieces c k t ht]
theorem replaceK_filter (c : UInt8) : ∀ (k : Nat) (l : List UInt8), l.count c = k → Lib.replaceK [c] [] k l = l.filter (· ≠ c)
  | 0, l, h => by
    have := List.count_eq_zero.1 h
    show l = _
    rw [List.filter_eq_self.2]
    intro x hx
    simp only [ne_eq, decide_not, Bool.not_eq_true', decide_eq_false_iff_not]
    rintro rfl
    exact this hx
  | k + 1, l, h => by
    rcases index_one c l with ⟨h1, h2⟩ | ⟨a, t, rfl, h2, h3⟩
    · rw [List.count_eq_zero.2 h2] at h; omega
    · rw [Lib.replaceK_hit [c] [] k _ a.length h3]
      have ht : t.count c = k := by
        rw [List.count_append, List.count_cons_self, List.count_eq_zero.2 h2] at h; omega
      have ha := replaceK_filter c 0 a (List.count_eq_zero.2 h2)
      rw [List.take_left, show (a ++ c :: t).drop (a.length + [c].length) = t from by rw [show a ++ c :: t = (a ++ [c]) ++ t from by simp, show a.length + [c].length = (a ++ [c]).length from by simp, List.drop_left]]
      rw [replaceK_filter c k t ht, List.filter_append, ← ha]
      simp [Lib.replaceK]
theorem replaceAll_filter (c : UInt8) (l : List UInt8) : Lib.replaceAll l [c] [] = l.filter (· ≠ c) := by
  unfold Lib.replaceAll Lib.replace Lib.replaceNum
  rw [if_neg (by simp), if_pos (Or.inl (by decide)), Lib.count_one, replaceK_filter c _ l rfl]
/-! ### runes -/
def dropB (r : Int) : Bool := decide (r ≤ 8 ∨ (14 ≤ r ∧ r ≤ 31) ∨ (127 ≤ r ∧ r ≤ 132) ∨ (134 ≤ r ∧ r ≤ 159) ∨ r = 173 ∨ (8203 ≤ r ∧ r ≤ 8207) ∨ r = 65279)
def blankB (r : Int) : Bool := decide ((9 ≤ r ∧ r ≤ 13) ∨ r = 32 ∨ r = 133 ∨ r = 160 ∨ r = 5760 ∨ (8192 ≤ r ∧ r ≤ 8202) ∨ r = 8232 ∨ r = 8233 ∨ r = 8239 ∨ r = 8287 ∨ r = 12288)
def smallI (r : Int) : Int := if (65 ≤ r ∧ r ≤ 90) ∨ (192 ≤ r ∧ r ≤ 222 ∧ r ≠ 215) ∨ (913 ≤ r ∧ r ≤ 937 ∧ r ≠ 930) ∨ (1040 ≤ r ∧ r ≤ 1071) then r + 32 else if 1024 ≤ r ∧ r ≤ 1039 then r + 80 else r
def mapR (fold : Bool) (r : Int) : Int := if blankB r = true then 32 else if fold = true then smallI r else r
def mapped (fold : Bool) (m : List Int) : List Int := (m.filter (fun r => !dropB r)).map (mapR fold)
theorem mapped_append (fold : Bool) (a b : List Int) : mapped fold (a ++ b) = mapped fold a ++ mapped fold b := by unfold mapped; rw [List.filter_append, List.map_append]
theorem smallI_ok {r : Int} (h : okR r) : okR (smallI r) := by
  unfold smallI okR at *
  repeat' split
  all_goals omega
theorem mapR_ok {fold : Bool} {r : Int} (h : okR r) : okR (mapR fold r) := by
  unfold mapR
  repeat' split
  · unfold okR; omega
  · exact smallI_ok h
  · exact h
theorem mapped_ok {fold : Bool} {m : List Int} (h : ∀ v ∈ m, okR v) : ∀ v ∈ mapped fold m, okR v := by
  intro v hv
  obtain ⟨u, hu, rfl⟩ := List.mem_map.1 hv
  exact mapR_ok (h u (List.mem_filter.1 hu).1)
theorem small_small (r : Int) : smallI (smallI r) = smallI r := by
  unfold smallI
  repeat' split
  all_goals omega
/-- what a rune becomes is not dropped, is a blank where it was one, and becomes itself -/
theorem small_keep {r : Int} (h1 : dropB r = false) (h2 : blankB r = false) : dropB (smallI r) = false ∧ blankB (smallI r) = false := by
  unfold dropB blankB at *
  simp only [decide_eq_false_iff_not] at *
  unfold smallI
  repeat' split
  all_goals (constructor <;> omega)
theorem mapR_mapR (fold g : Bool) (r : Int) (hd : dropB r = false) : mapR g (mapR fold r) = mapR (fold || g) r ∧ dropB (mapR fold r) = false := by
  by_cases hb : blankB r = true
  · have h1 : mapR fold r = 32 := by unfold mapR; rw [if_pos hb]
    have h2 : mapR (fold || g) r = 32 := by unfold mapR; rw [if_pos hb]
    rw [h1, h2]
    exact ⟨by unfold mapR; rw [if_pos (by decide)], by decide⟩
  · have hb' : blankB r = false := by simpa using hb
    obtain ⟨k1, k2⟩ := small_keep hd hb'
    cases fold with
    | false =>
      have h1 : mapR false r = r := by unfold mapR; rw [if_neg hb]; simp
      rw [h1]
      exact ⟨by simp, hd⟩
    | true =>
      have h1 : mapR true r = smallI r := by unfold mapR; rw [if_neg hb]; simp
      rw [h1]
      refine ⟨?_, k1⟩
      unfold mapR
      rw [if_neg (by rw [k2]; simp)]
      cases g with
      | true => simp only [if_true, Bool.or_true, small_small]; rw [if_neg hb]
      | false => simp only [Bool.or_false, if_true]; rw [if_neg hb]; simp
theorem mapped_mapped (fold g : Bool) (m : List Int) : mapped g (mapped fold m) = mapped (fold || g) m := by
  induction m with
  | nil => rfl
  | cons r m ih =>
    unfold mapped at *
    by_cases hd : dropB r = true
    · simp only [List.filter_cons, hd, Bool.not_true, Bool.false_eq_true, if_false]
      exact ih
    · have hd' : dropB r = false := by simpa using hd
      obtain ⟨h1, h2⟩ := mapR_mapR fold g r hd'
      simp only [List.filter_cons, hd', Bool.not_false, if_true, List.map_cons, h2, h1, ih]
theorem mapped_sq (g : Bool) : ∀ (l : List Int) (st : Bool), (∀ x ∈ l, dropB x = false) → (∀ x ∈ l, blankB x = true → x = 32) → mapped g (sq 32 st l) = sq 32 st (mapped g l)
  | l, st, h1, h2 => by
    have hf : ∀ k : List Int, (∀ x ∈ k, x ∈ l) → mapped g k = k.map (mapR g) := by
      intro k hk
      unfold mapped
      rw [List.filter_eq_self.2]
      intro x hx
      rw [h1 x (hk x hx)]; rfl
    rw [hf _ (fun x hx => sq_mem 32 l st x hx), hf l (fun x hx => hx), sq_map]
    intro x hx
    have hd := h1 x hx
    have hb := h2 x hx
    constructor
    · intro e
      by_cases hb' : blankB x = true
      · exact hb hb'
      · exfalso
        have hb2 : blankB x = false := by simpa using hb'
        obtain ⟨k1, k2⟩ := small_keep hd hb2
        unfold mapR at e
        rw [if_neg hb'] at e
        split at e
        · rw [e] at k2; revert k2; decide
        · rw [e] at hb2; revert hb2; decide
    · rintro rfl
      unfold mapR
      rw [if_pos (by decide)]
theorem mapped_keeps (fold : Bool) (m : List Int) : (∀ x ∈ mapped fold m, dropB x = false) ∧ (∀ x ∈ mapped fold m, blankB x = true → x = 32) := by
  constructor
  · intro x hx
    obtain ⟨r, hr, rfl⟩ := List.mem_map.1 hx
    exact (mapR_mapR fold fold r (by have := (List.mem_filter.1 hr).2; simpa using this)).2
  · intro x hx hb
    obtain ⟨r, hr, rfl⟩ := List.mem_map.1 hx
    have hd : dropB r = false := by have := (List.mem_filter.1 hr).2; simpa using this
    by_cases h : blankB r = true
    · unfold mapR; rw [if_pos h]
    · have h' : blankB r = false := by simpa using h
      obtain ⟨k1, k2⟩ := small_keep hd h'
      exfalso
      unfold mapR at hb
      rw [if_neg h] at hb
      split at hb
      · rw [k2] at hb; simp at hb
      · exact h hb
/-- the runes of a text made ready -/
def readyR (fold : Bool) (m : List Int) : List Int := sq 32 false (mapped fold m)
theorem ready_ready (fold g : Bool) (m : List Int) : readyR g (readyR fold m) = readyR (fold || g) m := by
  unfold readyR
  rw [mapped_sq g _ _ (mapped_keeps fold m).1 (mapped_keeps fold m).2, mapped_mapped, sq_sq]
theorem ready_ok {fold : Bool} {m : List Int} (h : ∀ v ∈ m, okR v) : ∀ v ∈ readyR fold m, okR v :=
  fun v hv => mapped_ok h v (sq_mem _ _ _ v hv)
/-! ### bytes of runes -/
theorem enc_ascii {v : Int} (h : okR v) {c : Int} (h0 : 0 ≤ c) (h1 : c < 128) (hx : c.toNat.toUInt8 ∈ enc v) : v = c := by
  obtain ⟨a0, a1, a2⟩ := h
  have key : ∀ z : Int, 0 ≤ z → z < 256 → c.toNat.toUInt8 = z.toNat.toUInt8 → z = c := by
    intro z z0 z1 e
    have := congrArg UInt8.toNat e
    rw [u8z c h0 (by omega), u8z z z0 z1] at this
    omega
  by_cases b1 : v ≤ 127
  · rw [enc_one a0 b1] at hx
    simp only [List.mem_singleton] at hx
    exact key v a0 (by omega) hx
  · exfalso
    by_cases b2 : v ≤ 2047
    · rw [enc_two (by omega) b2] at hx
      simp only [List.mem_cons, List.not_mem_nil, or_false] at hx
      rcases hx with hx | hx
      · have := key _ (by omega) (by omega) hx; omega
      · have := key _ (by omega) (by omega) hx; omega
    · by_cases b3 : v ≤ 65535
      · rw [enc_three (by omega)] at hx
        simp only [List.mem_cons, List.not_mem_nil, or_false] at hx
        rcases hx with hx | hx | hx
        all_goals (have := key _ (by omega) (by omega) hx; omega)
      · rw [enc_four (by omega) a1] at hx
        simp only [List.mem_cons, List.not_mem_nil, or_false] at hx
        rcases hx with hx | hx | hx | hx
        all_goals (have := key _ (by omega) (by omega) hx; omega)
theorem enc_no32 {v : Int} (h : okR v) (hv : v ≠ 32) : ∀ x ∈ enc v, x ≠ 32 := by
  rintro x hx rfl
  exact hv (enc_ascii h (c := 32) (by omega) (by omega) hx)
theorem headNe_text {m : List Int} (h : ∀ v ∈ m, okR v) : headNe (32 : UInt8) (text m) = headNe 32 m := by
  cases m with
  | nil => rfl
  | cons v m =>
    have hl := enc_len v
    rw [text_cons]
    by_cases hv : v = 32
    · subst hv; rfl
    · have hn := enc_no32 (h v (by simp)) hv
      cases he : enc v with
      | nil => rw [he] at hl; simp at hl
      | cons x t =>
        rw [he] at hn
        have := hn x (by simp)
        simp [headNe, hv, this]
theorem sq_text : ∀ (m : List Int) (st : Bool), (∀ v ∈ m, okR v) → sq (32 : UInt8) st (text m) = text (sq 32 st m)
  | [], _, _ => rfl
  | v :: m, st, h => by
    have hm : ∀ u ∈ m, okR u := fun u hu => h u (by simp [hu])
    have hl := enc_len v
    by_cases hv : v = 32
    · subst hv
      have e1 : text (32 :: m) = (32 : UInt8) :: text m := rfl
      rw [e1]
      by_cases h2 : st = true ∧ headNe 32 m = true
      · obtain ⟨rfl, h2⟩ := h2
        rw [sq_on 32 m h2, sq_on 32 (text m) (by rw [headNe_text hm]; exact h2), sq_text m true hm]; rfl
      · rw [sq_off 32 st m h2, sq_off 32 st (text m) (by rw [headNe_text hm]; exact h2), sq_text m st hm]
    · rw [sq_ne 32 v st m hv, text_cons, text_cons, sq_run 32 (enc v) (text m) st (by intro e; rw [e] at hl; simp at hl) (enc_no32 (h v (by simp)) hv), sq_text m true hm]
theorem filter_text (c : Int) (h0 : 0 ≤ c) (h1 : c < 128) : ∀ m : List Int, (∀ v ∈ m, okR v) → (text m).filter (· ≠ c.toNat.toUInt8) = text (m.filter (· ≠ c))
  | [], _ => rfl
  | v :: m, h => by
    have ih := filter_text c h0 h1 m (fun u hu => h u (by simp [hu]))
    rw [text_cons, List.filter_append, ih]
    by_cases hv : v = c
    · subst hv
      rw [enc_one h0 (by omega)]
      simp
    · have he : (enc v).filter (· ≠ c.toNat.toUInt8) = enc v := by
        refine List.filter_eq_self.2 ?_
        intro x hx
        simp only [ne_eq, decide_not, Bool.not_eq_true', decide_eq_false_iff_not]
        rintro rfl
        exact hv (enc_ascii (h v (by simp)) h0 h1 hx)
      rw [he]
      simp [hv, text_cons]
theorem mapR_len {fold : Bool} {r : Int} (h : okR r) : (enc (mapR fold r)).length ≤ (enc r).length := by
  have h1 := enc_len r
  unfold mapR
  split
  · exact h1.1
  · split
    · obtain ⟨a0, a1, a2⟩ := h
      unfold smallI
      split
      · rename_i h2
        by_cases b : r ≤ 90
        · rw [enc_one (by omega) (by omega), enc_one (by omega) (by omega)]; simp
        · rw [enc_two (by omega) (by omega), enc_two (by omega) (by omega)]; simp
      · split
        · rw [enc_two (by omega) (by omega), enc_two (by omega) (by omega)]; simp
        · exact Nat.le_refl _
    · exact Nat.le_refl _
theorem mapped_len (fold : Bool) : ∀ m : List Int, (∀ v ∈ m, okR v) → (text (mapped fold m)).length ≤ (text m).length
  | [], _ => by simp [mapped, text]
  | v :: m, h => by
    have ih := mapped_len fold m (fun u hu => h u (by simp [hu]))
    have h1 := mapR_len (fold := fold) (h v (by simp))
    unfold mapped at *
    by_cases hd : dropB v = true
    · simp only [List.filter_cons, hd, Bool.not_true, Bool.false_eq_true, if_false]
      rw [text_cons, List.length_append]; omega
    · have hd' : dropB v = false := by simpa using hd
      simp only [List.filter_cons, hd', Bool.not_false, if_true, List.map_cons]
      rw [text_cons, text_cons, List.length_append, List.length_append]; omega
theorem ready_len (fold : Bool) (m : List Int) (h : ∀ v ∈ m, okR v) : (text (readyR fold m)).length ≤ (text m).length := by
  unfold readyR
  rw [← sq_text _ _ (mapped_ok h)]
  exact Nat.le_trans (sq_len _ _ _) (mapped_len fold m h)
/-! ### texts -/
/-- mapped, made ready, a phone's number: none where the text has no runes -/
def mapO (l : List UInt8) (fold : Bool) : Option (List UInt8) := (runes l).map fun m => text (mapped fold m)
def readyO (l : List UInt8) (fold : Bool) : Option (List UInt8) := (runes l).map fun m => text (readyR fold m)
def phoneR (m : List Int) : List Int := (mapped true m).filter fun v => decide (v ≠ 32) && decide (v ≠ 45)
def phoneO (l : List UInt8) : Option (List UInt8) := (runes l).map fun m => text (phoneR m)
theorem mapO_len {l o : List UInt8} {fold : Bool} (h : mapO l fold = some o) : o.length ≤ l.length := by
  unfold mapO at h
  obtain ⟨m, hm, rfl⟩ := Option.map_eq_some_iff.1 h
  obtain ⟨h1, h2⟩ := runes_text _ l m (Nat.le_refl _) hm
  have := mapped_len fold m h2
  rw [h1] at this
  exact this
theorem readyO_len {l o : List UInt8} {fold : Bool} (h : readyO l fold = some o) : o.length ≤ l.length := by
  unfold readyO at h
  obtain ⟨m, hm, rfl⟩ := Option.map_eq_some_iff.1 h
  obtain ⟨h1, h2⟩ := runes_text _ l m (Nat.le_refl _) hm
  have := ready_len fold m h2
  rw [h1] at this
  exact this
/-- Go's Ready of what is mapped -/
theorem readyO_of_map (l : List UInt8) (fold : Bool) : readyO l fold = (mapO l fold).map fun t => Lib.join ((pieces 32 t).filter (· ≠ [])) [32] := by
  unfold readyO mapO
  cases h : runes l with
  | none => rfl
  | some m =>
    obtain ⟨h1, h2⟩ := runes_text _ l m (Nat.le_refl _) h
    show some _ = some _
    congr 1
    show text (readyR fold m) = Lib.join ((pieces 32 (text (mapped fold m))).filter (· ≠ [])) [32]
    rw [← sq_pieces, sq_text _ _ (mapped_ok h2)]; rfl
theorem phoneO_of_ready (l : List UInt8) : phoneO l = (readyO l true).map fun t => Lib.replaceAll (Lib.replaceAll t [32] []) [45] [] := by
  unfold readyO phoneO
  cases h : runes l with
  | none => rfl
  | some m =>
    obtain ⟨h1, h2⟩ := runes_text _ l m (Nat.le_refl _) h
    show some _ = some _
    congr 1
    show text (phoneR m) = Lib.replaceAll (Lib.replaceAll (text (readyR true m)) [32] []) [45] []
    rw [replaceAll_filter, replaceAll_filter]
    have h3 := mapped_ok (fold := true) h2
    unfold readyR
    rw [← sq_text _ _ h3, filter_sq 32 _ (by simp)]
    rw [show (32 : UInt8) = (32 : Int).toNat.toUInt8 from rfl, filter_text 32 (by omega) (by omega) _ h3]
    rw [show (45 : UInt8) = (45 : Int).toNat.toUInt8 from rfl, filter_text 45 (by omega) (by omega) _ (fun v hv => h3 v (List.mem_filter.1 hv).1)]
    unfold phoneR
    rw [List.filter_filter]
    congr 1
    apply List.filter_congr
    intro x _
    rw [Bool.and_comm]
def sameB (a b : List UInt8) : Bool := (readyO a true).isSome && decide (readyO a true = readyO b true)
theorem sameB_self (a : List UInt8) : sameB a a = (readyO a true).isSome := by unfold sameB; simp
theorem sameB_comm (a b : List UInt8) : sameB a b = sameB b a := by
  unfold sameB
  by_cases h : readyO a true = readyO b true
  · rw [h]
  · simp [h, Ne.symm h]
theorem sameB_trans {a b c : List UInt8} (h1 : sameB a b = true) (h2 : sameB b c = true) : sameB a c = true := by
  unfold sameB at *
  simp only [Bool.and_eq_true, decide_eq_true_eq] at *
  exact ⟨h1.1, h1.2.trans h2.2⟩
/-- WHAT IS READY STAYS SO -/
theorem once {l o : List UInt8} {fold : Bool} (h : readyO l fold = some o) : readyO o fold = some o ∧ sameB l o = true := by
  unfold readyO at h
  obtain ⟨m, hm, rfl⟩ := Option.map_eq_some_iff.1 h
  obtain ⟨h1, h2⟩ := runes_text _ l m (Nat.le_refl _) hm
  have hr := runes_back (readyR fold m) (ready_ok h2)
  have e : ∀ g : Bool, readyO (text (readyR fold m)) g = some (text (readyR (fold || g) m)) := by
    intro g
    unfold readyO
    rw [hr]
    show some (text (readyR g (readyR fold m))) = some _
    rw [ready_ready]
  refine ⟨by rw [e]; simp, ?_⟩
  unfold sameB
  rw [e true]
  have : readyO l true = some (text (readyR true m)) := by unfold readyO; rw [hm]; rfl
  rw [this]
  simp
/-- blanks at the ends, and more of them within -/
theorem blanks_same {a b bl : List UInt8} {ma mb mbl : List Int} (k : Nat) (ha : runes a = some ma) (hb : runes b = some mb) (hbl : runes bl = some mbl) (hm : mapped true mbl = List.replicate (k + 1) 32) :
    sameB (bl ++ a ++ bl ++ b ++ bl) (a ++ [32] ++ b) = true := by
  have h1 := runes_append (runes_append (runes_append (runes_append hbl ha) hbl) hb) hbl
  have h2 := runes_append (runes_append ha (show runes [32] = some [32] from rfl)) hb
  unfold sameB readyO
  rw [h1, h2]
  simp only [Option.map_some, Option.isSome_some, Bool.true_and, decide_eq_true_eq, Option.some.injEq]
  congr 1
  unfold readyR
  rw [mapped_append, mapped_append, mapped_append, mapped_append, mapped_append, mapped_append, hm]
  rw [show mapped true [32] = [32] from by decide]
  rw [sq_behind]
  rw [List.append_assoc, List.append_assoc, List.append_assoc, sq_ahead]
  rw [sq_within]
  rfl
end prp
end Go.Proofs.YtckpiaigoeicfaaGreatDoor
/-! Kit -/
namespace Go.Proofs.YtckpiaigoeicfaaGreatDoor
open Go.RowKit
namespace kt

theorem ret_int {k : IntKind} {a b : Int} (h : a = b) : Ending.returned (.int k a) = .returned (.int k b) := by rw [h]
theorem ret_bool {a b : Bool} (h : a = b) : Ending.returned (.bool a) = .returned (.bool b) := by rw [h]
theorem ret_str {a b : ByteArray} (h : a = b) : Ending.returned (.string a) = .returned (.string b) := by rw [h]
theorem str_eq {a b : ByteArray} (h : a.data.toList = b.data.toList) : a = b := by
  cases a; cases b
  congr 1
  exact Array.toList_inj.1 h
theorem take_snoc (s : ByteArray) (k : Nat) (h : k < s.size) : s.data.toList.take (k + 1) = s.data.toList.take k ++ [s[k]] := by
  rw [List.take_succ_eq_append_getElem (by simpa using h)]; rfl
theorem size_len (s : ByteArray) : s.data.toList.length = s.size := by simp

/-- the value of an owned row is a slice -/
theorem row_slice {w : World} {B : Nat} {e : TypeId} {v : Value} {xs : List Value} (h : w.ownsRow B e 1 v xs.length xs) : ∃ ao cap, v = .slice ao xs.length cap ∧ (ao = none → xs = [] ∧ cap = 0) ∧ xs.length ≤ cap := by
  rcases h.2 with ⟨rfl, h0⟩ | ⟨g, cap, cur, rfl, _, _, hc, _, _⟩
  · have : xs = [] := List.eq_nil_of_length_eq_zero h0
    subst this
    exact ⟨none, 0, rfl, fun _ => ⟨rfl, rfl⟩, Nat.le_refl _⟩
  · exact ⟨_, cap, rfl, fun h => by simp at h, hc⟩

/-- the same, the length behind a name -/
theorem row_form {w : World} {B : Nat} {e : TypeId} {v : Value} {xs : List Value} (h : w.ownsRow B e 1 v xs.length xs) : ∃ (ao : Option Addr) (n cap : Nat), v = .slice ao n cap ∧ Hid (n = xs.length) := by
  obtain ⟨ao, cap, hv, _⟩ := row_slice h
  exact ⟨ao, _, cap, hv, rfl⟩
/-- 'append(v, x)' where v owns its row: the run. -/
theorem app1 {P : Program} {t e ty : TypeId} {z : Value} {bytes : Nat} (ht : P.underlying t = some (.slice e)) (hinfo : (P.info? e).map (fun i => (i.zero, i.size, i.bytes)) = some (some z, 1, bytes)) (hzs : z.cells.size = 1)
    {w : World} {B : Nat} {v : Value} {xs : List Value} (x : Value) (hx : x.oneCell' = true) (hown : w.ownsRow B e 1 v xs.length xs) (h63 : xs.length + 1 ≤ maxLen) (hb : (xs.length + 1) * bytes ≤ 140737488355328) (hbase : B ≤ w.heap.size) :
    ∃ v' w1, (Builtin.append_ #[t, t] ty #[v, .slice (some ⟨w.heap.size, 0, none⟩) 1 1]).run P (w.alloc (.cells #[x] e)) = .ok v' w1 ∧ w1.ownsRow B e 1 v' (xs ++ [x]).length (xs ++ [x]) ∧ w.grownBy w1 v.ownBlock ∧ Below B w w1 := by
  obtain ⟨i0, hi, hz0, hz1, hz2⟩ := info_parts hinfo
  obtain ⟨v', w1, hrun, hown', hgr, _⟩ := run_append_own (P := P) (w.alloc (.cells #[x] e)) B t ty e i0 z 1 bytes ht hi hz0 hz1 hz2 hzs (by omega) v xs.length xs (hown.alloc _) ⟨w.heap.size, 0, none⟩ 1 1 [x] rfl
    (fun j u hj => by
      match j, hj with
      | 0, hj => simp at hj; subst hj; simp [Addr.add])
    (fun u hu => by simp at hu; subst hu; exact hx) h63 hb (by simp; omega)
  have hlt : ∀ k, v.ownBlock = some k → B ≤ k ∧ k < w.heap.size := hown.lt
  have hg : w.grownBy w1 v.ownBlock := by
    refine ⟨hgr.os, hgr.tape, hgr.output, ?_, ?_⟩
    · have := hgr.size; simp at this; omega
    · intro k hk hne
      rw [hgr.block k (by simp; omega) hne]
      exact Below.heap_alloc _ _ _ hk
  exact ⟨v', w1, hrun, by simpa using hown', hg, (Below.refl B w).grown hg hbase (fun k hk => (hlt k hk).1)⟩

/-- 'append(v, x, y)' where v owns its row: the run. -/
theorem app2 {P : Program} {t e ty : TypeId} {z : Value} {bytes : Nat} (ht : P.underlying t = some (.slice e)) (hinfo : (P.info? e).map (fun i => (i.zero, i.size, i.bytes)) = some (some z, 1, bytes)) (hzs : z.cells.size = 1)
    {w : World} {B : Nat} {v : Value} {xs : List Value} (x y : Value) (hx : x.oneCell' = true) (hy : y.oneCell' = true) (hown : w.ownsRow B e 1 v xs.length xs) (h63 : xs.length + 2 ≤ maxLen) (hb : (xs.length + 2) * bytes ≤ 140737488355328) (hbase : B ≤ w.heap.size) :
    ∃ v' w1, (Builtin.append_ #[t, t] ty #[v, .slice (some ⟨w.heap.size, 0, none⟩) 2 2]).run P (w.alloc (.cells #[x, y] e)) = .ok v' w1 ∧ w1.ownsRow B e 1 v' (xs ++ [x, y]).length (xs ++ [x, y]) ∧ w.grownBy w1 v.ownBlock ∧ Below B w w1 := by
  obtain ⟨i0, hi, hz0, hz1, hz2⟩ := info_parts hinfo
  obtain ⟨v', w1, hrun, hown', hgr, _⟩ := run_append_own (P := P) (w.alloc (.cells #[x, y] e)) B t ty e i0 z 1 bytes ht hi hz0 hz1 hz2 hzs (by omega) v xs.length xs (hown.alloc _) ⟨w.heap.size, 0, none⟩ 2 2 [x, y] rfl
    (fun j u hj => by
      match j, hj with
      | 0, hj => simp at hj; subst hj; simp [Addr.add]
      | 1, hj => simp at hj; subst hj; simp [Addr.add])
    (fun u hu => by simp at hu; rcases hu with rfl | rfl <;> assumption) h63 hb (by simp; omega)
  have hlt : ∀ k, v.ownBlock = some k → B ≤ k ∧ k < w.heap.size := hown.lt
  have hg : w.grownBy w1 v.ownBlock := by
    refine ⟨hgr.os, hgr.tape, hgr.output, ?_, ?_⟩
    · have := hgr.size; simp at this; omega
    · intro k hk hne
      rw [hgr.block k (by simp; omega) hne]
      exact Below.heap_alloc _ _ _ hk
  exact ⟨v', w1, hrun, by simpa using hown', hg, (Below.refl B w).grown hg hbase (fun k hk => (hlt k hk).1)⟩

/-- 'append(v, news...)' where v owns its row: the run; the news lie at ad. -/
theorem appN {P : Program} {t e ty : TypeId} {z : Value} {bytes : Nat} (ht : P.underlying t = some (.slice e)) (hinfo : (P.info? e).map (fun i => (i.zero, i.size, i.bytes)) = some (some z, 1, bytes)) (hzs : z.cells.size = 1)
    {w : World} {B : Nat} {v : Value} {xs : List Value} (ad : Addr) (m c : Nat) (news : List Value) (hl : news.length = m) (hnews : ∀ j u, news[j]? = some u → w.cell? (ad.add j) = some u) (h1 : ∀ u ∈ news, u.oneCell' = true)
    (hown : w.ownsRow B e 1 v xs.length xs) (h63 : xs.length + m ≤ maxLen) (hb : (xs.length + m) * bytes ≤ 140737488355328) (hbase : B ≤ w.heap.size) :
    ∃ v' w1, (Builtin.append_ #[t, t] ty #[v, .slice (some ad) m c]).run P w = .ok v' w1 ∧ w1.ownsRow B e 1 v' (xs ++ news).length (xs ++ news) ∧ w.grownBy w1 v.ownBlock ∧ Below B w w1 := by
  obtain ⟨i0, hi, hz0, hz1, hz2⟩ := info_parts hinfo
  obtain ⟨v', w1, hrun, hown', hgr, _⟩ := run_append_own (P := P) w B t ty e i0 z 1 bytes ht hi hz0 hz1 hz2 hzs (by omega) v xs.length xs hown ad m c news (by omega) hnews h1 h63 hb hbase
  have hlt : ∀ k, v.ownBlock = some k → B ≤ k ∧ k < w.heap.size := hown.lt
  exact ⟨v', w1, hrun, by rw [List.length_append, hl]; exact hown', hgr, (Below.refl B w).grown hgr hbase (fun k hk => (hlt k hk).1)⟩

/-- 'string(v)' where v owns a row of bytes: the run. -/
theorem str_of_row {P : Program} {src dst e : TypeId} (hs : P.underlying src = some (.slice e)) (he : P.underlying e = some (.int .u8)) (hd : P.underlying dst = some .string)
    {w : World} {B : Nat} {v : Value} {n : Nat} {l : List UInt8} (h : w.ownsRow B e 1 v n (Lib.byteCells l)) :
    (convert src dst v).run P w = .ok (.string ⟨l.toArray⟩) w := by
  have hn : l.length = n := by have := h.1; rw [Lib.byteCells_length] at this; omega
  rcases h.2 with ⟨rfl, h0⟩ | ⟨g, cap, cur, rfl, _, hg, _, _, _, htk⟩
  · have : l = [] := List.eq_nil_of_length_eq_zero (by omega)
    subst this
    exact Lib.run_convert_nil_bytes w src dst e 0 hs he hd
  · rw [← hn]
    refine run_convert_bytes_back w src dst e ⟨g, 0, none⟩ cap l hs he hd (Lib.bytes_of_row hg ?_)
    rw [Nat.mul_one, ← hn] at htk
    exact htk

/-- an owned row's cells -/
theorem row_cell {w : World} {B : Nat} {e : TypeId} {g cap n : Nat} {xs : List Value} (h : w.ownsRow B e 1 (.slice (some ⟨g, 0, none⟩) n cap) n xs) (i : Nat) (x : Value) (hx : xs[i]? = some x) : w.cell? ⟨g, i, none⟩ = some x := by
  have := h.cells (g := g) rfl i x hx
  have e1 : (⟨g, 0, none⟩ : Addr).add i = ⟨g, i, none⟩ := by
    unfold Addr.add
    split
    · rename_i h0; rw [h0]
    · simp
  rw [e1] at this
  exact this

/-- an owned row that is not empty has an address, and its cells lie there -/
theorem row_some {w : World} {B : Nat} {e : TypeId} {ao : Option Addr} {cap n : Nat} {xs : List Value} (h : w.ownsRow B e 1 (.slice ao n cap) n xs) (hne : 0 < n) :
    ∃ g, ao = some ⟨g, 0, none⟩ ∧ (∀ (j : Nat) (x : Value), xs[j]? = some x → w.cell? ⟨g, j, none⟩ = some x) ∧ B ≤ g := by
  rcases h.2 with ⟨_, h0⟩ | ⟨g, cap', cur, hv, hBg, _⟩
  · omega
  · simp only [Value.slice.injEq] at hv
    obtain ⟨rfl, _, rfl⟩ := hv
    exact ⟨g, rfl, fun j x hx => row_cell h j x hx, hBg⟩
/-- a contract that leaves the world, as the quiet regions ask it -/
theorem flip {P : Program} {f : FuncId} {args : Array Value} {w : World} {v : Value} (h : Calls P f args w fun e w' => e = .returned v ∧ w = w') : Calls P f args w fun e w' => e = .returned v ∧ w' = w :=
  h.mono fun _ _ ⟨he, hm⟩ => ⟨he, hm.symm⟩
theorem ret_tup2 {a b c d : Value} (h : a = b) (h2 : c = d) : Ending.returned (.tuple #[a, c]) = .returned (.tuple #[b, d]) := by rw [h, h2]
/-- an append whose run is known, at a step of a region that draws its order -/
theorem step_append_run {P : Program} {w : World} {ops : Array Oper} {o : Oper} {a : Act} {K : Act → World → Prop} {Q : Exit → Act → World → Prop} {E : Prop} (hgd : o.guard = none) (s x : Operand) (t tn : TypeId)
    (ho : o.op = .call { callee := .builtin .append, args := #[s, x], argTypes := #[t, tn] }) (vs vx : Value) (hs : a.eval s = vs) (hx : a.eval x = vx)
    (v' : Value) (w' : World) (hr : (Builtin.append_ #[t, tn] o.type #[vs, vx]).run P w = .ok v' w') (h : K (a.put o.dst v') w') :
    if Region.wanted o (yielded ops a.tmps) = true then Oper.wp P o a w K Q else E := by
  have hw : Region.wanted o (yielded ops a.tmps) = true := by simp [Region.wanted, hgd]
  rw [if_pos hw]
  exact Lib.wp_append_run w s x t tn ho vs vx hs hx v' w' hr h
/-- an owned row stands where nothing below the heap's size has turned -/
theorem row_below {w w' : World} {B : Nat} {e : TypeId} {v : Value} {n : Nat} {xs : List Value} (h : w.ownsRow B e 1 v n xs) (hb : Below w.heap.size w w') : w'.ownsRow B e 1 v n xs := by
  refine ⟨h.1, ?_⟩
  rcases h.2 with h0 | ⟨g, cap, cur, hv, hBg, hg, h1, h2, h3, h4⟩
  · exact Or.inl h0
  · refine Or.inr ⟨g, cap, cur, hv, hBg, ?_, h1, h2, h3, h4⟩
    rw [hb.block g (Nat.lt_of_not_le fun hge => by simp [Array.getElem?_eq_none hge] at hg)]
    exact hg
theorem addr_add (b j : Nat) : (⟨b, 0, none⟩ : Addr).add j = ⟨b, j, none⟩ := by
  unfold Addr.add
  split
  · rename_i h0; rw [h0]
  · simp
/-- block B holds these bytes, none of them frozen -/
def ByteRow (w : World) (B : Nat) (l : List UInt8) : Prop :=
  ∀ j (hj : j < l.length), w.cell? ⟨B, j, none⟩ = some (.int .u8 (l[j].toNat : Int)) ∧ w.frozen? ⟨B, j, none⟩ = false
theorem byterow_set {w : World} {B : Nat} {l : List UInt8} (h : ByteRow w B l) (i : Nat) (x : UInt8) : ByteRow (w.setCell ⟨B, i, none⟩ (.int .u8 (x.toNat : Int))) B (l.set i x) := by
  intro j hj
  simp only [List.length_set] at hj
  obtain ⟨hc, hf⟩ := h j hj
  refine ⟨?_, ?_⟩
  · by_cases e : i = j
    · subst e
      rw [World.cell?_setCell_same _ _ _ hc]
      simp
    · rw [World.cell?_setCell_other _ _ _ _ (by intro hh; apply e; injection hh), hc, List.getElem_set_ne e]
  · rw [World.frozen?_setCell]
    exact hf
theorem byterow_str {P : Program} {src dst e : TypeId} (hs : P.underlying src = some (.slice e)) (he : P.underlying e = some (.int .u8)) (hd : P.underlying dst = some .string)
    {w : World} {B n cap : Nat} {l : List UInt8} (h : ByteRow w B l) (hn : n = l.length) : (convert src dst (.slice (some ⟨B, 0, none⟩) n cap)).run P w = .ok (.string ⟨l.toArray⟩) w := by
  subst hn
  exact run_convert_bytes_back w src dst e ⟨B, 0, none⟩ cap l hs he hd (fun j hj => by rw [addr_add]; exact (h j hj).1)
/-- 'make([]byte, n)': the run, and the bytes -/
theorem mkbytes {P : Program} {t e : TypeId} (ht : P.underlying t = some (.slice e)) (hinfo : (P.info? e).map (fun i => (i.zero, i.size, i.bytes)) = some (some (.int .u8 0), 1, 1)) (w : World) (n : Nat) (hn : n ≤ 1000000000) :
    ∃ W1, (Instr.makeSlice t (.int .i64 (n : Int)) (.int .i64 (n : Int))).run P w = .ok (.slice (some ⟨w.heap.size, 0, none⟩) n n) W1 ∧ ByteRow W1 w.heap.size (List.replicate n 0) ∧ Below w.heap.size w W1 := by
  obtain ⟨i0, hi, hz0, hz1, hz2⟩ := info_parts hinfo
  obtain ⟨w', hrun, hown, hgr⟩ := run_make_full (P := P) w w.heap.size t e i0 (.int .u8 0) 1 ht hi hz0 hz1 .i64 .i64 n (by rw [hz2]; omega) (by unfold maxLen; omega) (Nat.le_refl _)
  refine ⟨w', hrun, ?_, (Below.refl _ w).grown hgr (Nat.le_refl _) (fun k hk => by cases hk)⟩
  intro j hj
  rw [List.length_replicate] at hj
  rcases hown.2 with ⟨_, h0⟩ | ⟨g, cap, cur, hv, _, hg, h1, h2, h3, h4⟩
  · omega
  · simp only [Value.slice.injEq, Option.some.injEq, Addr.mk.injEq] at hv
    obtain ⟨⟨rfl, _, _⟩, _, rfl⟩ := hv
    have hcur : cur[j]? = some (.int .u8 0) := by
      have h5 : (cur.toList.take (n * 1))[j]? = some (.int .u8 0) := by
        rw [h4]
        have hv : ∀ m : Nat, (Value.int IntKind.u8 0).cells[m % (Value.int IntKind.u8 0).cells.size]! = Value.int IntKind.u8 0 := by
          intro m
          rw [show (Value.int IntKind.u8 0).cells.size = 1 from rfl, Nat.mod_one]; rfl
        simp [madeCells, hv, hj]
      rw [List.getElem?_take, if_pos (by omega)] at h5
      simpa using h5
    refine ⟨?_, ?_⟩
    · rw [Lib.cell_of_heap hg, hcur]; simp [List.getElem_replicate]
    · exact Lib.frozen_of_heap hg j
/-- '[]byte(s)': the run, and the bytes -/
theorem bytes_of {P : Program} {src dst e : TypeId} (hs : P.underlying src = some .string) (hd : P.underlying dst = some (.slice e)) (he : P.underlying e = some (.int .u8)) (w : World) (s : ByteArray) :
    ∃ (W1 : World) (cap : Nat), (convert src dst (.string s)).run P w = .ok (.slice (some ⟨w.heap.size, 0, none⟩) s.size cap) W1 ∧ ByteRow W1 w.heap.size s.data.toList ∧ Below w.heap.size w W1 := by
  refine ⟨_, _, run_bytes_of_string w src dst e s hs hd he, ?_, ((Below.refl _ _).drew).alloc (Nat.le_refl _) _⟩
  intro j hj
  have hj' : j < s.data.size := by simpa using hj
  have hsz : s.size ≤ (bytesRow s (grownCap w s.size 0 e)).size := by simp [bytesRow]
  refine ⟨?_, ?_⟩
  · have h1 := World.cell?_alloc_mark w.drew (bytesRow s (grownCap w s.size 0 e)) e ((bytesRow s (grownCap w s.size 0 e)).size, (bytesRow s (grownCap w s.size 0 e)).size + 1) j
    rw [bytesRow_at s _ j hj'] at h1
    exact h1
  · have h2 := World.frozen?_alloc_mark w.drew (bytesRow s (grownCap w s.size 0 e)) e (bytesRow s (grownCap w s.size 0 e)).size ((bytesRow s (grownCap w s.size 0 e)).size + 1) j
    refine h2.trans ?_
    have : ¬ (bytesRow s (grownCap w s.size 0 e)).size ≤ j := by
      have : s.data.size = s.size := rfl
      omega
    simp [this]
theorem u64pow : (2 : Nat) ^ 64 = 18446744073709551616 := by decide
theorem ofInt64 (a : Nat) (ha : a < 18446744073709551616) : (BitVec.ofInt 64 (a : Int)).toNat = a := by
  rw [BitVec.ofInt_natCast, BitVec.toNat_ofNat]; exact Nat.mod_eq_of_lt (by omega)
theorem wrap_i64_nat (a : Nat) (ha : a < 9223372036854775808) : IntKind.i64.wrap (a : Int) = (a : Int) := by
  rw [IntKind.wrap_i64]
  omega
theorem i64_or_nat (a b : Nat) (ha : a < 9223372036854775808) (hb : b < 9223372036854775808) : bits .or .i64 (a : Int) (b : Int) = ((a ||| b : Nat) : Int) := by
  have hx : a ||| b < 2 ^ 63 := Nat.or_lt_two_pow (by omega) (by omega)
  show IntKind.i64.wrap ((BitVec.ofInt 64 (a : Int) ||| BitVec.ofInt 64 (b : Int)).toNat : Int) = _
  rw [BitVec.toNat_or, ofInt64 a (by omega), ofInt64 b (by omega)]
  exact wrap_i64_nat _ (by omega)
theorem i64_and_nat (a b : Nat) (ha : a < 9223372036854775808) (hb : b < 9223372036854775808) : bits .and .i64 (a : Int) (b : Int) = ((a &&& b : Nat) : Int) := by
  have hx : a &&& b < 2 ^ 63 := Nat.and_lt_two_pow _ (by omega)
  show IntKind.i64.wrap ((BitVec.ofInt 64 (a : Int) &&& BitVec.ofInt 64 (b : Int)).toNat : Int) = _
  rw [BitVec.toNat_and, ofInt64 a (by omega), ofInt64 b (by omega)]
  exact wrap_i64_nat _ (by omega)
/-- 'n << k | c', c below 2^k -/
theorem i64_or_low (k a c : Nat) (hc : c < 2 ^ k) (ha : 2 ^ k * a + c < 9223372036854775808) : bits .or .i64 ((2 ^ k * a : Nat) : Int) (c : Int) = ((2 ^ k * a + c : Nat) : Int) := by
  rw [i64_or_nat _ _ (by omega) (by omega), Nat.two_pow_add_eq_or_of_lt hc]
/-- 'n & (2^k - 1)' -/
theorem i64_low (k a : Nat) (hk : 2 ^ k ≤ 9223372036854775808) (ha : a < 9223372036854775808) : bits .and .i64 (a : Int) ((2 ^ k - 1 : Nat) : Int) = ((a % 2 ^ k : Nat) : Int) := by
  have : 0 < 2 ^ k := Nat.two_pow_pos k
  rw [i64_and_nat _ _ ha (by omega), Nat.and_two_pow_sub_one_eq_mod]
end kt
end Go.Proofs.YtckpiaigoeicfaaGreatDoor
/-! RuneW -/
namespace Go.Proofs.YtckpiaigoeicfaaGreatDoor
open Go.RowKit
namespace prw
open run prp
set_option linter.unusedVariables false
set_option linter.unusedSimpArgs false
theorem drop_yes {r : Int} (h : r ≤ 8 ∨ (14 ≤ r ∧ r ≤ 31) ∨ (127 ≤ r ∧ r ≤ 132) ∨ (134 ≤ r ∧ r ≤ 159) ∨ r = 173 ∨ (8203 ≤ r ∧ r ≤ 8207) ∨ r = 65279) : true = dropB r := by
  unfold dropB; exact (decide_eq_true h).symm
theorem drop_no {r : Int} (h : ¬ (r ≤ 8 ∨ (14 ≤ r ∧ r ≤ 31) ∨ (127 ≤ r ∧ r ≤ 132) ∨ (134 ≤ r ∧ r ≤ 159) ∨ r = 173 ∨ (8203 ≤ r ∧ r ≤ 8207) ∨ r = 65279)) : false = dropB r := by
  unfold dropB; exact (decide_eq_false h).symm
theorem blank_yes {r : Int} (h : (9 ≤ r ∧ r ≤ 13) ∨ r = 32 ∨ r = 133 ∨ r = 160 ∨ r = 5760 ∨ (8192 ≤ r ∧ r ≤ 8202) ∨ r = 8232 ∨ r = 8233 ∨ r = 8239 ∨ r = 8287 ∨ r = 12288) : true = blankB r := by
  unfold blankB; exact (decide_eq_true h).symm
theorem blank_no {r : Int} (h : ¬ ((9 ≤ r ∧ r ≤ 13) ∨ r = 32 ∨ r = 133 ∨ r = 160 ∨ r = 5760 ∨ (8192 ≤ r ∧ r ≤ 8202) ∨ r = 8232 ∨ r = 8233 ∨ r = 8239 ∨ r = 8287 ∨ r = 12288)) : false = blankB r := by
  unfold blankB; exact (decide_eq_false h).symm
set_option maxRecDepth 20000 in
set_option maxHeartbeats 4000000 in
theorem dropped_any (r : Int) (w : World) : Calls Tryz.prog 85 #[.int .i32 r] w fun e w' => e = .returned (.bool (dropB r)) ∧ w = w' := by
  go_enter Tryz.func85, Tryz.ntmps85
  go_wp2
  all_goals
    go_ret
    refine ⟨kt.ret_bool ?_, rfl⟩
    first
      | ((try simp only [beq_iff_eq, beq_eq_false_iff_ne, ne_eq, bne_iff_ne] at *); exact drop_yes (by omega))
      | ((try simp only [beq_iff_eq, beq_eq_false_iff_ne, ne_eq, bne_iff_ne] at *); exact drop_no (by omega))
      | (rw [Bool.eq_iff_iff]; unfold dropB; (try simp only [beq_iff_eq, beq_eq_false_iff_ne, ne_eq, bne_iff_ne] at *); simp only [Bool.and_eq_true, Bool.or_eq_true, decide_eq_true_eq, beq_iff_eq]; omega)
set_option maxRecDepth 20000 in
set_option maxHeartbeats 4000000 in
theorem rdropped_any (r : Int) (w : World) : Calls Tryz.prog 63 #[.int .i32 r] w fun e w' => e = .returned (.bool (dropB r)) ∧ w = w' := by
  go_enter Tryz.func63, Tryz.ntmps63
  go_wp2
  all_goals
    go_ret
    refine ⟨kt.ret_bool ?_, rfl⟩
    first
      | ((try simp only [beq_iff_eq, beq_eq_false_iff_ne, ne_eq, bne_iff_ne] at *); exact drop_yes (by omega))
      | ((try simp only [beq_iff_eq, beq_eq_false_iff_ne, ne_eq, bne_iff_ne] at *); exact drop_no (by omega))
      | (rw [Bool.eq_iff_iff]; unfold dropB; (try simp only [beq_iff_eq, beq_eq_false_iff_ne, ne_eq, bne_iff_ne] at *); simp only [Bool.and_eq_true, Bool.or_eq_true, decide_eq_true_eq, beq_iff_eq]; omega)
set_option maxRecDepth 20000 in
set_option maxHeartbeats 4000000 in
theorem blank_any (r : Int) (w : World) : Calls Tryz.prog 86 #[.int .i32 r] w fun e w' => e = .returned (.bool (blankB r)) ∧ w = w' := by
  go_enter Tryz.func86, Tryz.ntmps86
  go_wp2
  all_goals
    go_ret
    refine ⟨kt.ret_bool ?_, rfl⟩
    first
      | ((try simp only [beq_iff_eq, beq_eq_false_iff_ne, ne_eq, bne_iff_ne] at *); exact blank_yes (by omega))
      | ((try simp only [beq_iff_eq, beq_eq_false_iff_ne, ne_eq, bne_iff_ne] at *); exact blank_no (by omega))
      | (rw [Bool.eq_iff_iff]; unfold blankB; (try simp only [beq_iff_eq, beq_eq_false_iff_ne, ne_eq, bne_iff_ne] at *); simp only [Bool.and_eq_true, Bool.or_eq_true, decide_eq_true_eq, beq_iff_eq]; omega)
set_option maxRecDepth 20000 in
set_option maxHeartbeats 4000000 in
theorem rblank_any (r : Int) (w : World) : Calls Tryz.prog 64 #[.int .i32 r] w fun e w' => e = .returned (.bool (blankB r)) ∧ w = w' := by
  go_enter Tryz.func64, Tryz.ntmps64
  go_wp2
  all_goals
    go_ret
    refine ⟨kt.ret_bool ?_, rfl⟩
    first
      | ((try simp only [beq_iff_eq, beq_eq_false_iff_ne, ne_eq, bne_iff_ne] at *); exact blank_yes (by omega))
      | ((try simp only [beq_iff_eq, beq_eq_false_iff_ne, ne_eq, bne_iff_ne] at *); exact blank_no (by omega))
      | (rw [Bool.eq_iff_iff]; unfold blankB; (try simp only [beq_iff_eq, beq_eq_false_iff_ne, ne_eq, bne_iff_ne] at *); simp only [Bool.and_eq_true, Bool.or_eq_true, decide_eq_true_eq, beq_iff_eq]; omega)
set_option maxRecDepth 20000 in
set_option maxHeartbeats 4000000 in
theorem small_any (r : Int) (w : World) (h0 : 0 ≤ r) (h1 : r ≤ 1114111) : Calls Tryz.prog 87 #[.int .i32 r] w fun e w' => e = .returned (.int .i32 (smallI r)) ∧ w = w' := by
  have ha : r + 32 ≤ 2147483647 := by omega
  have hb : r + 80 ≤ 2147483647 := by omega
  go_enter Tryz.func87, Tryz.ntmps87
  go_wp2
  all_goals
    go_ret
    refine ⟨kt.ret_int ?_, rfl⟩
    (try simp only [bne, Bool.not_eq_true', Bool.not_eq_false', beq_iff_eq, beq_eq_false_iff_ne, ne_eq, bne_iff_ne] at *)
    unfold smallI
    repeat' split
    all_goals omega
set_option maxRecDepth 20000 in
set_option maxHeartbeats 4000000 in
theorem rsmall_any (r : Int) (w : World) (h0 : 0 ≤ r) (h1 : r ≤ 1114111) : Calls Tryz.prog 65 #[.int .i32 r] w fun e w' => e = .returned (.int .i32 (smallI r)) ∧ w = w' := by
  have ha : r + 32 ≤ 2147483647 := by omega
  have hb : r + 80 ≤ 2147483647 := by omega
  go_enter Tryz.func65, Tryz.ntmps65
  go_wp2
  all_goals
    go_ret
    refine ⟨kt.ret_int ?_, rfl⟩
    (try simp only [bne, Bool.not_eq_true', Bool.not_eq_false', beq_iff_eq, beq_eq_false_iff_ne, ne_eq, bne_iff_ne] at *)
    unfold smallI
    repeat' split
    all_goals omega
end prw
end Go.Proofs.YtckpiaigoeicfaaGreatDoor
