/- Small letters by strings.Map, against the reference's byte by byte: plain. -/
import Derived.Test.YtjjbmhndakmkbaaGreatDoorDnP
import Derived.Lib.MapLaws
import Derived.Laws.RangeAny
namespace Go.Proofs.YtjjbmhndakmkbaaGreatDoor
namespace dnp
set_option linter.unusedVariables false
set_option linter.unusedSimpArgs false
/-- what lower's function makes of a rune -/
def lowf (r : Int) : Int := if 65 ≤ r ∧ r ≤ 90 then r + 32 else r
theorem low_ascii (c : UInt8) (h : c.toNat < 128) : Lib.encodeRune (lowf (c.toNat : Int)) = [low c] := by
  have all : ∀ m : Fin 128, Lib.encodeRune (lowf (m.val : Int)) = [low (UInt8.ofNat m.val)] := by decide +kernel
  have := all ⟨c.toNat, h⟩
  simpa using this
theorem lowf_nonneg {r : Int} (h : 0 ≤ r) : 0 ≤ lowf r := by unfold lowf; split <;> omega
theorem decodeL_ascii (c : UInt8) (t : List UInt8) (h : c.toNat < 128) : Lib.decodeL (c :: t) = (c.toNat, 1) := by
  unfold Lib.decodeL
  exact decode_ascii ⟨(c :: t).toArray⟩ 0 (by show 0 < (c :: t).toArray.size; simp) h
theorem decodeL_high (c : UInt8) (t : List UInt8) (h : 128 ≤ c.toNat) : 128 ≤ (Lib.decodeL (c :: t)).1 := by
  unfold Lib.decodeL
  exact (decode_high ⟨(c :: t).toArray⟩ 0 (by show 0 < (c :: t).toArray.size; simp) h).1
theorem mapD_ascii (c : UInt8) (t : List UInt8) (h : c.toNat < 128) : Lib.mapD lowf (c :: t) = low c :: Lib.mapD lowf t := by
  rw [Lib.mapD_step lowf _ (by simp), decodeL_ascii c t h, if_pos (lowf_nonneg (by simp)), low_ascii c h]
  rfl
/-- a rune beyond ASCII has a great byte in front -/
theorem enc_high (r : Int) (h : 128 ≤ r) : ∃ x t, Lib.encodeRune r = x :: t ∧ 128 ≤ x.toNat := by
  have key : ∀ z : Int, 128 ≤ z → z < 256 → 128 ≤ (z.toNat.toUInt8).toNat := by
    intro z h1 h2
    simp; omega
  unfold Lib.encodeRune Lib.encodeRuneZ
  repeat' split
  · omega
  · exact ⟨_, _, rfl, key _ (by omega) (by omega)⟩
  · exact ⟨_, _, rfl, key _ (by omega) (by omega)⟩
  · exact ⟨_, _, rfl, key _ (by omega) (by omega)⟩
  · exact ⟨_, _, rfl, key _ (by omega) (by omega)⟩
theorem mapD_all : ∀ l : List UInt8, (∀ c ∈ l, c.toNat < 128) → Lib.mapD lowf l = lowL l
  | [], _ => rfl
  | c :: t, h => by
    rw [mapD_ascii c t (h c (by simp)), mapD_all t (fun x hx => h x (by simp [hx]))]; rfl
theorem mapD_high : ∀ l : List UInt8, (∃ c ∈ l, 128 ≤ c.toNat) → ∃ x ∈ Lib.mapD lowf l, 128 ≤ x.toNat
  | [], ⟨c, h, _⟩ => by simp at h
  | c :: t, ⟨d, hd, h⟩ => by
    by_cases hc : c.toNat < 128
    · rw [mapD_ascii c t hc]
      rcases List.mem_cons.1 hd with rfl | hd
      · omega
      · obtain ⟨x, hx, hx2⟩ := mapD_high t ⟨d, hd, h⟩
        exact ⟨x, List.mem_cons_of_mem _ hx, hx2⟩
    · have h1 := decodeL_high c t (by omega)
      rw [Lib.mapD_step lowf _ (by simp), if_pos (lowf_nonneg (by omega))]
      have e : lowf ((Lib.decodeL (c :: t)).1 : Int) = ((Lib.decodeL (c :: t)).1 : Int) := by unfold lowf; rw [if_neg (by omega)]
      rw [e]
      obtain ⟨x, u, hx, hx2⟩ := enc_high ((Lib.decodeL (c :: t)).1 : Int) (by omega)
      exact ⟨x, by rw [hx]; simp, hx2⟩
theorem typeOK_high {l : List UInt8} (h : ∃ x ∈ l, 128 ≤ x.toNat) : typeOK l = false := by
  obtain ⟨x, hx, hx2⟩ := h
  rw [Bool.eq_false_iff]
  intro e
  unfold typeOK at e
  simp only [Bool.and_eq_true] at e
  have h1 := List.all_eq_true.1 e.2 x hx
  have all : ∀ m : Fin 256, 128 ≤ m.val → typeCh (UInt8.ofNat m.val) = false := by decide +kernel
  have := all ⟨x.toNat, x.toNat_lt⟩ hx2
  simp only [UInt8.ofNat_toNat] at this
  rw [this] at h1
  cases h1
theorem low_high (c : UInt8) (h : 128 ≤ c.toNat) : low c = c := by
  unfold low
  rw [if_neg]
  rintro ⟨_, h2⟩
  rw [UInt8.le_iff_toNat_le] at h2
  have : (90 : UInt8).toNat = 90 := rfl
  omega
/-- is it a type, and which -/
theorem low_type (l : List UInt8) : typeOK (Lib.mapD lowf l) = typeOK (lowL l) ∧ (typeOK (lowL l) = true → Lib.mapD lowf l = lowL l) := by
  by_cases h : ∃ c ∈ l, 128 ≤ c.toNat
  · have h1 := typeOK_high (mapD_high l h)
    obtain ⟨c, hc, hc2⟩ := h
    have h2 : typeOK (lowL l) = false := typeOK_high ⟨low c, List.mem_map.2 ⟨c, hc, rfl⟩, by rw [low_high c hc2]; exact hc2⟩
    rw [h1, h2]
    exact ⟨rfl, fun e => by cases e⟩
  · have h1 := mapD_all l (fun c hc => by
      by_cases e : c.toNat < 128
      · exact e
      · exact absurd ⟨c, hc, by omega⟩ h)
    rw [h1]
    exact ⟨rfl, fun _ => rfl⟩
theorem mapGoD_len (f : Int → Int) : ∀ (n : Nat) (l : List UInt8), l.length ≤ n → (Lib.mapD f l).length ≤ 4 * l.length
  | 0, l, h => by
    have : l = [] := List.eq_nil_of_length_eq_zero (by omega)
    subst this
    simp [Lib.mapD_nil]
  | n + 1, l, h => by
    by_cases hl : l = []
    · subst hl; simp [Lib.mapD_nil]
    · have hw := Lib.decodeL_le l hl
      have hp : 0 < l.length := List.length_pos_iff.2 hl
      have hw1 : 1 ≤ (Lib.decodeL l).2 := by
        cases l with
        | nil => exact absurd rfl hl
        | cons c t =>
          by_cases e : c.toNat < 128
          · rw [decodeL_ascii c t e]; exact Nat.le_refl _
          · unfold Lib.decodeL
            exact (decode_high ⟨(c :: t).toArray⟩ 0 (by show 0 < (c :: t).toArray.size; simp) (by show 128 ≤ c.toNat; omega)).2
      have ih := mapGoD_len f n (l.drop (Lib.decodeL l).2) (by rw [List.length_drop]; omega)
      rw [List.length_drop] at ih
      rw [Lib.mapD_step f l hl, List.length_append]
      have h4 : (if 0 ≤ f ((Lib.decodeL l).1 : Int) then Lib.encodeRune (f ((Lib.decodeL l).1 : Int)) else []).length ≤ 4 := by
        split
        · have := Lib.runeCells_le (f ((Lib.decodeL l).1 : Int))
          rw [Lib.runeCells_length] at this
          exact this.2
        · simp
      omega
end dnp
end Go.Proofs.YtjjbmhndakmkbaaGreatDoor
