/- Plain laws for the reference's Parse: sizes, and how the loop goes on. -/
import Derived.Test.YtjjbmhndakmkbaaDoorRefP
namespace Go.Proofs.YtjjbmhndakmkbaaDoor
namespace dnw
open dnp
set_option linter.unusedVariables false
set_option linter.unusedSimpArgs false
theorem signs_len : ∀ (n : Nat) (l : List UInt8) (L : List Sg), l.length ≤ n → signs l = some L → L.length ≤ l.length
  | n, [], L, _, h => by rw [signs_nil] at h; cases h; exact Nat.le_refl _
  | 0, _ :: _, _, h, _ => by simp at h
  | n + 1, c :: t, L, hn, h => by
    simp only [List.length_cons] at hn
    by_cases h92 : c = 92
    · subst h92
      cases he : esc t with
      | none => rw [signs_bad t he] at h; cases h
      | some p =>
        obtain ⟨d, k⟩ := p
        rw [signs_esc t d k he] at h
        obtain ⟨q, hq, rfl⟩ := Option.map_eq_some_iff.1 h
        have := signs_len n (t.drop k) q (by rw [List.length_drop]; omega) hq
        rw [List.length_drop] at this
        simp only [List.length_cons]
        omega
    · rw [signs_bare c t h92] at h
      obtain ⟨q, hq, rfl⟩ := Option.map_eq_some_iff.1 h
      have := signs_len n t q (by omega) hq
      simp only [List.length_cons]
      omega
theorem dropW_len {α : Type} (p : α → Bool) (l : List α) : (l.dropWhile p).length ≤ l.length := by
  obtain ⟨a, h, _⟩ := dropW_split p l
  have := congrArg List.length h
  rw [List.length_append] at this
  omega
theorem trim_len (L : List Sg) : (trim L).length ≤ L.length := by
  unfold trim
  have h1 := trimR_len (L.dropWhile blankS)
  have h2 := dropW_len blankS L
  omega
theorem pairS_small {B : List Sg} {p : Pr} (h : pairS B = some p) : p.1.length ≤ 32 ∧ p.2.length ≤ B.length ∧ 1 ≤ B.length := by
  obtain ⟨A, V, rfl, _, _, h1, _, rfl⟩ := pairS_some h
  have h2 := trim_len V
  refine ⟨?_, ?_, ?_⟩
  · unfold typeOK at h1
    simp only [Bool.and_eq_true, decide_eq_true_eq] at h1
    exact h1.1.2
  · simp only [List.length_map, List.length_append, List.length_cons]; omega
  · simp only [List.length_append, List.length_cons]; omega
/-- the segment at hand: from j0 to i, none of its signs cuts -/
def Seg (L : List Sg) (j0 i : Nat) : Prop := j0 ≤ i ∧ i ≤ L.length ∧ ∀ j (h : j < L.length), j0 ≤ j → j < i → sepS L[j] = false
def segL (L : List Sg) (j0 i : Nat) : List Sg := (L.drop j0).take (i - j0)
theorem segL_len {L : List Sg} {j0 i : Nat} (h : Seg L j0 i) : (segL L j0 i).length = i - j0 := by
  unfold segL
  rw [List.length_take, List.length_drop]
  have := h.1; have := h.2.1
  omega
theorem segL_sep {L : List Sg} {j0 i : Nat} (h : Seg L j0 i) : ∀ x ∈ segL L j0 i, sepS x = false := by
  intro x hx
  obtain ⟨k, hk, rfl⟩ := List.mem_iff_getElem.1 hx
  have hk' := hk
  rw [segL_len h] at hk'
  have e : (segL L j0 i)[k] = L[j0 + k]'(by have := h.2.1; omega) := by
    simp only [segL, List.getElem_take, List.getElem_drop]
  rw [e]
  exact h.2.2 (j0 + k) _ (by omega) (by have := h.1; omega)
theorem segL_at {L : List Sg} {j0 i : Nat} (h : Seg L j0 i) (hi : i < L.length) : L.drop j0 = segL L j0 i ++ L[i] :: L.drop (i + 1) := by
  unfold segL
  have h1 := (List.take_append_drop (i - j0) (L.drop j0)).symm
  rw [List.drop_drop, show j0 + (i - j0) = i from by have := h.1; omega] at h1
  rw [List.drop_eq_getElem_cons hi] at h1
  exact h1
theorem segL_end {L : List Sg} {j0 : Nat} (h : Seg L j0 L.length) : L.drop j0 = segL L j0 L.length := by
  unfold segL
  rw [List.take_of_length_le (by rw [List.length_drop]; exact Nat.le_refl _)]
theorem seg_next {L : List Sg} {j0 i : Nat} (h : Seg L j0 i) (hi : i < L.length) (hs : sepS L[i] = false) : Seg L j0 (i + 1) := by
  refine ⟨by have := h.1; omega, by omega, fun j hj h1 h2 => ?_⟩
  by_cases e : j = i
  · subst e; exact hs
  · exact h.2.2 j hj h1 (by omega)
theorem seg_new {L : List Sg} {i : Nat} (hi : i ≤ L.length) : Seg L i i := ⟨Nat.le_refl _, hi, fun j _ h1 h2 => by omega⟩
/-- how the reference's loop goes -/
def GAt (L : List Sg) (ns : List (List Av)) (cur : List Av) (j0 : Nat) : Prop := GR [] [] L = GR ns cur (L.drop j0)
theorem sep_eq {x : Sg} (h : sepS x = true) : x = (x.1, true) ∧ isSep x.1 = true := by
  obtain ⟨c, b⟩ := x
  unfold sepS at h
  simp only [Bool.and_eq_true] at h
  obtain ⟨rfl, h2⟩ := h
  exact ⟨rfl, h2⟩
theorem gat_none {L : List Sg} {ns : List (List Av)} {cur : List Av} {j0 i : Nat} (h : GAt L ns cur j0) (hs : Seg L j0 i) (he : ∀ h : i < L.length, sepS L[i] = true) (hp : pairS (segL L j0 i) = none) : GR [] [] L = none := by
  rw [h]
  by_cases hi : i < L.length
  · have h1 := he hi
    obtain ⟨e1, e2⟩ := sep_eq h1
    rw [segL_at hs hi, e1]
    exact GR_bad (segL_sep hs) e2 hp
  · obtain rfl : i = L.length := by have := hs.2.1; omega
    rw [segL_end hs]
    exact GR_bad_end (segL_sep hs) hp
theorem gat_end {L : List Sg} {ns : List (List Av)} {cur : List Av} {j0 : Nat} {p : Pr} (h : GAt L ns cur j0) (hs : Seg L j0 L.length) (hp : pairS (segL L j0 L.length) = some p) : GR [] [] L = some (ns ++ [cur ++ [av p]]) := by
  rw [h, segL_end hs]
  exact GR_end (segL_sep hs) hp
theorem gat_plus {L : List Sg} {ns : List (List Av)} {cur : List Av} {j0 i : Nat} {p : Pr} (h : GAt L ns cur j0) (hs : Seg L j0 i) (hi : i < L.length) (he : L[i] = (43, true)) (hp : pairS (segL L j0 i) = some p) : GAt L ns (cur ++ [av p]) (i + 1) := by
  unfold GAt at *
  rw [h, segL_at hs hi, he]
  exact GR_plus (segL_sep hs) hp
theorem gat_next {L : List Sg} {ns : List (List Av)} {cur : List Av} {j0 i : Nat} {p : Pr} (h : GAt L ns cur j0) (hs : Seg L j0 i) (hi : i < L.length) (he : sepS L[i] = true) (h43 : L[i].1 ≠ 43) (hp : pairS (segL L j0 i) = some p) : GAt L (ns ++ [cur ++ [av p]]) [] (i + 1) := by
  unfold GAt at *
  obtain ⟨e1, e2⟩ := sep_eq he
  rw [h, segL_at hs hi, e1]
  exact GR_next (segL_sep hs) e2 h43 hp
end dnw
end Go.Proofs.YtjjbmhndakmkbaaDoor
