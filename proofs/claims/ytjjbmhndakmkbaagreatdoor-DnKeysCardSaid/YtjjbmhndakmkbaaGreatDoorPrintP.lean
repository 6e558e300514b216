/- A name's text: plain laws. What is printed is read as it was, with blanks about its signs too. -/
import Derived.Test.YtjjbmhndakmkbaaGreatDoorRefP
namespace Go.Proofs.YtjjbmhndakmkbaaGreatDoor
namespace dnw
open dnp
set_option linter.unusedVariables false
set_option linter.unusedSimpArgs false
def hexed (c : UInt8) : Bool := decide (c < 32 ∨ c = 127)
def fenced (first last : Bool) (c : UInt8) : Bool := special c || (decide (c = 32) && (first || last)) || (decide (c = 35) && first)
/-- a byte of a value, as its text has it -/
def textB (first last : Bool) (c : UInt8) : List UInt8 := if hexed c = true then 92 :: b64p.hex [c] else if fenced first last c = true then [92, c] else [c]
def textF : Bool → List UInt8 → List UInt8
  | _, [] => []
  | f, c :: t => textB f t.isEmpty c ++ textF false t
def textL (v : List UInt8) : List UInt8 := textF true v
def sgB (first last : Bool) (c : UInt8) : Sg := (c, !(hexed c || fenced first last c))
def sgF : Bool → List UInt8 → List Sg
  | _, [] => []
  | f, c :: t => sgB f t.isEmpty c :: sgF false t
theorem textB_len (f l : Bool) (c : UInt8) : (textB f l c).length ≤ 3 := by
  unfold textB
  split
  · simp [b64p.hex]
  · split <;> simp
theorem textF_len : ∀ (f : Bool) (v : List UInt8), (textF f v).length ≤ 3 * v.length
  | _, [] => by simp [textF]
  | f, c :: t => by
    have := textB_len f t.isEmpty c
    have := textF_len false t
    simp only [textF, List.length_append, List.length_cons]
    omega
theorem esc_hexed (c : UInt8) (r : List UInt8) : esc (b64p.hex [c] ++ r) = some (c, 2) := by
  have all : ∀ m : Fin 256, (special (b64p.dg (m.val / 16)) || decide (b64p.dg (m.val / 16) = 35) || decide (b64p.dg (m.val / 16) = 32)) = false ∧ (0 ≤ b64p.valI (b64p.dg (m.val / 16)) ∧ 0 ≤ b64p.valI (b64p.dg (m.val % 16))) ∧ UInt8.ofNat (16 * b64p.valI (b64p.dg (m.val / 16)) + b64p.valI (b64p.dg (m.val % 16))).toNat = UInt8.ofNat m.val := by decide +kernel
  obtain ⟨h1, ⟨h2, h3⟩, h4⟩ := all ⟨c.toNat, c.toNat_lt⟩
  simp only [UInt8.ofNat_toNat] at h1 h2 h3 h4
  have hp : ¬ plainEsc (b64p.dg (c.toNat / 16)) := by
    rintro (h | h | h)
    · rw [h] at h1; cases h1
    · rw [h] at h1; revert h1; decide
    · rw [h] at h1; revert h1; decide
  have := esc_hex (t := r) hp (e := b64p.dg (c.toNat % 16)) (by omega)
  rw [h4] at this
  exact this
theorem fenced_plain {f l : Bool} {c : UInt8} (h : fenced f l c = true) : plainEsc c := by
  unfold fenced at h
  simp only [Bool.or_eq_true, Bool.and_eq_true, decide_eq_true_eq] at h
  rcases h with (h | h) | h
  · exact Or.inl h
  · exact Or.inr (Or.inr h.1)
  · exact Or.inr (Or.inl h.1)
theorem scan_textB (f l : Bool) (c : UInt8) (r : List UInt8) : scan (textB f l c ++ r) = (scan r).map fun p => (sgB f l c :: p.1, p.2) := by
  unfold textB sgB
  by_cases h1 : hexed c = true
  · rw [if_pos h1, h1, List.cons_append, scan_esc _ c 2 (esc_hexed c r)]
    rfl
  · rw [if_neg h1]
    have h1' : hexed c = false := by simpa using h1
    rw [h1']
    by_cases h2 : fenced f l c = true
    · rw [if_pos h2, h2]
      show scan (92 :: (c :: r)) = _
      rw [scan_esc _ c 1 (esc_plain (fenced_plain h2))]
      rfl
    · rw [if_neg h2]
      have h2' : fenced f l c = false := by simpa using h2
      rw [h2']
      have hs : special c = false := by
        unfold fenced at h2'
        simp only [Bool.or_eq_false_iff] at h2'
        exact h2'.1.1
      have h3 : isSep c = false ∧ bad c = false ∧ c ≠ 92 := by
        unfold special at hs
        simp only [decide_eq_false_iff_not, not_or] at hs
        refine ⟨?_, ?_, hs.2.2.2.2.2.2.2⟩
        · simp only [isSep, decide_eq_false_iff_not, not_or]; exact ⟨hs.2.2.1, hs.2.2.2.1, hs.2.1⟩
        · simp only [bad, decide_eq_false_iff_not, not_or]; exact ⟨hs.1, hs.2.2.2.2.1, hs.2.2.2.2.2.2.1⟩
      show scan (c :: r) = _
      rw [scan_bare c r h3.1 h3.2.1 h3.2.2]
      rfl
theorem scan_textF : ∀ (f : Bool) (v r : List UInt8), scan (textF f v ++ r) = (scan r).map fun p => (sgF f v ++ p.1, p.2)
  | _, [], r => by simp [textF, sgF]
  | f, c :: t, r => by
    rw [textF, List.append_assoc, scan_textB, scan_textF false t r, Option.map_map]
    rfl
theorem sgF_fst : ∀ (f : Bool) (v : List UInt8), (sgF f v).map (·.1) = v
  | _, [] => rfl
  | f, c :: t => by rw [sgF, List.map_cons, sgF_fst false t]; rfl
theorem sgF_last : ∀ (f : Bool) (c : UInt8) (t : List UInt8), ∃ A x, sgF f (c :: t) = A ++ [x] ∧ blankS x = false
  | f, c, [] => by
    refine ⟨[], sgB f true c, rfl, ?_⟩
    unfold blankS sgB fenced
    by_cases h : c = 32
    · subst h; simp
    · simp [h]
  | f, c, d :: t => by
    obtain ⟨A, x, h1, h2⟩ := sgF_last false d t
    refine ⟨sgB f false c :: A, x, ?_, h2⟩
    rw [sgF, h1]; rfl
theorem trimR_keepall (A u : List Sg) (x : Sg) (hx : blankS x = false) (hu : ∀ y ∈ u, blankS y = true) : trimR (A ++ [x] ++ u) = A ++ [x] := by
  unfold trimR
  rw [List.reverse_append, dropW_app _ u.reverse _ (fun y hy => hu y (List.mem_reverse.1 hy)), dropW_id, List.reverse_reverse]
  intro y t h
  rw [List.reverse_append] at h
  cases h
  exact hx
theorem trimR_all (u : List Sg) (hu : ∀ y ∈ u, blankS y = true) : trimR u = [] := by
  unfold trimR
  have := dropW_app blankS u.reverse [] (fun y hy => hu y (List.mem_reverse.1 hy))
  rw [List.append_nil] at this
  rw [this]; rfl
theorem scan_blanks : ∀ (u r : List UInt8), (∀ c ∈ u, c = 32) → scan (u ++ r) = (scan r).map fun p => (u.map (·, true) ++ p.1, p.2)
  | [], r, _ => by simp
  | c :: u, r, h => by
    have hc := h c (by simp)
    subst hc
    rw [List.cons_append, scan_bare 32 _ (by decide) (by decide) (by decide), scan_blanks u r (fun d hd => h d (by simp [hd])), Option.map_map]
    rfl
theorem textF_head (c : UInt8) (t : List UInt8) : ∃ d s, textF true (c :: t) = d :: s ∧ d ≠ 32 ∧ d ≠ 35 := by
  rw [textF]
  unfold textB
  by_cases h1 : hexed c = true
  · rw [if_pos h1]; exact ⟨92, _, rfl, by decide, by decide⟩
  · rw [if_neg h1]
    by_cases h2 : fenced true t.isEmpty c = true
    · rw [if_pos h2]; exact ⟨92, _, rfl, by decide, by decide⟩
    · rw [if_neg h2]
      refine ⟨c, _, rfl, ?_, ?_⟩
      · rintro rfl; apply h2; simp [fenced]
      · rintro rfl; apply h2; simp [fenced]
/-- what may stand behind a value -/
def EndSep (r : List UInt8) : Prop := r = [] ∨ ∃ c t, r = c :: t ∧ isSep c = true
theorem endSep_scan {r : List UInt8} (h : EndSep r) : scan r = some ([], r) := by
  rcases h with rfl | ⟨c, t, rfl, h⟩
  · exact scan_nil
  · exact scan_sep c t h
theorem sep_ne {c : UInt8} (h : isSep c = true) : c ≠ 32 ∧ c ≠ 35 := by
  constructor <;> (rintro rfl; revert h; decide)
theorem value_text (z v u r : List UInt8) (hz : ∀ c ∈ z, c = 32) (hu : ∀ c ∈ u, c = 32) (hr : EndSep r) : valueP (z ++ (textL v ++ (u ++ r))) = some (v, r) := by
  have hub : ∀ y ∈ u.map (fun c => ((c, true) : Sg)), blankS y = true := by
    intro y hy
    obtain ⟨c, hc, rfl⟩ := List.mem_map.1 hy
    rw [hu c hc]; decide
  unfold valueP
  rw [dropW_app _ z _ (fun c hc => by simp [hz c hc])]
  cases v with
  | nil =>
    have e : (textL [] ++ (u ++ r)).dropWhile (fun c => decide (c = 32)) = r := by
      show (u ++ r).dropWhile _ = r
      rw [dropW_app _ u _ (fun c hc => by simp [hu c hc]), dropW_id]
      intro x t hx
      rcases hr with rfl | ⟨c, t', rfl, h⟩
      · cases hx
      · cases hx; simpa using (sep_ne h).1
    rw [e, if_neg, endSep_scan hr]
    · rfl
    · rcases hr with rfl | ⟨c, t', rfl, h⟩
      · simp
      · simpa using (sep_ne h).2
  | cons c t =>
    obtain ⟨d, s, hd, h32, h35⟩ := textF_head c t
    have e : (textL (c :: t) ++ (u ++ r)).dropWhile (fun c => decide (c = 32)) = textL (c :: t) ++ (u ++ r) := by
      rw [dropW_id]
      intro x t' hx
      unfold textL at hx
      rw [hd] at hx
      cases hx
      simpa using h32
    rw [e, if_neg]
    · unfold textL
      rw [scan_textF, scan_blanks u r hu, endSep_scan hr]
      simp only [Option.map_some, List.append_nil]
      obtain ⟨A, x, h1, h2⟩ := sgF_last true c t
      have h3 := sgF_fst true (c :: t)
      rw [h1] at h3 ⊢
      rw [trimR_keepall A _ x h2 hub, h3]
    · unfold textL
      rw [hd]
      simpa using h35
/-! ### a whole name -/
theorem av_back (a : Av) : av (a.t.data.toList, a.v.data.toList) = a := by
  unfold av
  cases a with | mk t v => simp
section
variable (U : List UInt8 → List UInt8) (b : List UInt8) (s2 : UInt8)
def pt (a : Av) : List UInt8 := U a.t.data.toList ++ (b ++ 61 :: (b ++ textL a.v.data.toList))
def tailR (r : List Av) : List UInt8 := r.flatMap fun a => b ++ 43 :: (b ++ pt U b a)
def rdnT : List Av → List UInt8
  | [] => []
  | a :: r => pt U b a ++ tailR U b r
def tailN (m : List (List Av)) : List UInt8 := m.flatMap fun l => b ++ s2 :: (b ++ rdnT U b l)
def nameT : List (List Av) → List UInt8
  | [] => []
  | l :: m => rdnT U b l ++ tailN U b s2 m
end
/-- a type as it may be written -/
def TyAs (U : List UInt8 → List UInt8) (a : Av) : Prop := lowL (U a.t.data.toList) = a.t.data.toList ∧ typeOK a.t.data.toList = true
theorem kind_text {U : List UInt8 → List UInt8} {a : Av} (h : TyAs U a) {b pre : List UInt8} (hb : ∀ c ∈ b, c = 32) (hp : ∀ c ∈ pre, c = 32) (r : List UInt8) : kindP (pre ++ (U a.t.data.toList ++ (b ++ 61 :: r))) = some (a.t.data.toList, r) := by
  have := kindP_of pre (U a.t.data.toList) b r hp hb (by rw [h.1]; exact h.2)
  rw [h.1] at this
  rw [← this]
  simp
theorem GP_text {U : List UInt8 → List UInt8} {b : List UInt8} {s2 : UInt8} (hb : ∀ c ∈ b, c = 32) (hs : isSep s2 = true) (h43 : s2 ≠ 43) :
    ∀ (m : List (List Av)) (r : List Av) (ns : List (List Av)) (cur : List Av) (a : Av) (pre : List UInt8), (∀ c ∈ pre, c = 32) → (∀ x ∈ a :: r, TyAs U x) → (∀ l ∈ m, l ≠ [] ∧ ∀ x ∈ l, TyAs U x) →
      GP ns cur (pre ++ (pt U b a ++ (tailR U b r ++ tailN U b s2 m))) = some (ns ++ (cur ++ a :: r) :: m) := by
  intro m
  induction m with
  | nil =>
    intro r
    induction r with
    | nil =>
      intro ns cur a pre hp ha _
      have hk := kind_text (ha a (by simp)) hb hp (b ++ (textL a.v.data.toList ++ ([] ++ [])))
      have hv := value_text b a.v.data.toList [] [] hb (by simp) (Or.inl rfl)
      have e : pre ++ (pt U b a ++ (tailR U b [] ++ tailN U b s2 [])) = pre ++ (U a.t.data.toList ++ (b ++ 61 :: (b ++ (textL a.v.data.toList ++ ([] ++ []))))) := by
        simp [pt, tailR, tailN]
      rw [e, GP_end hk hv, av_back]
    | cons a' r ih =>
      intro ns cur a pre hp ha hm
      have hk := kind_text (ha a (by simp)) hb hp (b ++ (textL a.v.data.toList ++ (b ++ 43 :: (b ++ (pt U b a' ++ (tailR U b r ++ tailN U b s2 []))))))
      have hv := value_text b a.v.data.toList b (43 :: (b ++ (pt U b a' ++ (tailR U b r ++ tailN U b s2 [])))) hb hb (Or.inr ⟨43, _, rfl, by decide⟩)
      have e : pre ++ (pt U b a ++ (tailR U b (a' :: r) ++ tailN U b s2 [])) = pre ++ (U a.t.data.toList ++ (b ++ 61 :: (b ++ (textL a.v.data.toList ++ (b ++ 43 :: (b ++ (pt U b a' ++ (tailR U b r ++ tailN U b s2 [])))))))) := by
        simp [pt, tailR, tailN]
      rw [e, GP_plus hk hv, av_back, ih _ _ a' b hb (fun x hx => ha x (by simp only [List.mem_cons] at hx ⊢; exact Or.inr hx)) hm]
      simp
  | cons l m ihm =>
    intro r
    induction r with
    | nil =>
      intro ns cur a pre hp ha hm
      obtain ⟨hl, hlx⟩ := hm l (by simp)
      obtain ⟨a', r', rfl⟩ := List.exists_cons_of_ne_nil hl
      have hk := kind_text (ha a (by simp)) hb hp (b ++ (textL a.v.data.toList ++ (b ++ s2 :: (b ++ (pt U b a' ++ (tailR U b r' ++ tailN U b s2 m))))))
      have hv := value_text b a.v.data.toList b (s2 :: (b ++ (pt U b a' ++ (tailR U b r' ++ tailN U b s2 m)))) hb hb (Or.inr ⟨s2, _, rfl, hs⟩)
      have e : pre ++ (pt U b a ++ (tailR U b [] ++ tailN U b s2 ((a' :: r') :: m))) = pre ++ (U a.t.data.toList ++ (b ++ 61 :: (b ++ (textL a.v.data.toList ++ (b ++ s2 :: (b ++ (pt U b a' ++ (tailR U b r' ++ tailN U b s2 m)))))))) := by
        simp [pt, tailR, tailN, rdnT]
      rw [e, GP_next hk hv h43, av_back, ihm r' _ [] a' b hb hlx (fun l hl => hm l (by simp [hl]))]
      simp
    | cons a' r ih =>
      intro ns cur a pre hp ha hm
      have hk := kind_text (ha a (by simp)) hb hp (b ++ (textL a.v.data.toList ++ (b ++ 43 :: (b ++ (pt U b a' ++ (tailR U b r ++ tailN U b s2 (l :: m)))))))
      have hv := value_text b a.v.data.toList b (43 :: (b ++ (pt U b a' ++ (tailR U b r ++ tailN U b s2 (l :: m))))) hb hb (Or.inr ⟨43, _, rfl, by decide⟩)
      have e : pre ++ (pt U b a ++ (tailR U b (a' :: r) ++ tailN U b s2 (l :: m))) = pre ++ (U a.t.data.toList ++ (b ++ 61 :: (b ++ (textL a.v.data.toList ++ (b ++ 43 :: (b ++ (pt U b a' ++ (tailR U b r ++ tailN U b s2 (l :: m))))))))) := by
        simp [pt, tailR, tailN]
      rw [e, GP_plus hk hv, av_back, ih _ _ a' b hb (fun x hx => ha x (by simp only [List.mem_cons] at hx ⊢; exact Or.inr hx)) hm]
      simp
/-- WHAT IS WRITTEN IS READ AS IT WAS -/
theorem parse_text {U : List UInt8 → List UInt8} {b : List UInt8} {s2 : UInt8} (hb : ∀ c ∈ b, c = 32) (hs : isSep s2 = true) (h43 : s2 ≠ 43) (n : List (List Av)) (hn : nameOK n = true) (hne : ∀ l ∈ n, l ≠ [] ∧ ∀ x ∈ l, TyAs U x) : parseR (nameT U b s2 n) = some n := by
  cases n with
  | nil => rfl
  | cons l m =>
    obtain ⟨hl, hlx⟩ := hne l (by simp)
    obtain ⟨a, r, rfl⟩ := List.exists_cons_of_ne_nil hl
    have hg := GP_text hb hs h43 m r [] [] a [] (by simp) hlx (fun l hl => hne l (by simp [hl]))
    simp only [List.nil_append] at hg
    have e : nameT U b s2 ((a :: r) :: m) = pt U b a ++ (tailR U b r ++ tailN U b s2 m) := by simp [nameT, rdnT]
    rw [← e] at hg
    unfold parseR
    have hd : GP [] [] ((nameT U b s2 ((a :: r) :: m)).dropWhile fun c => decide (c = 32)) = some ((a :: r) :: m) := by
      rw [← hg]; unfold GP; rw [P_drop]
    rw [if_neg]
    · rw [hd]; simp only [hn, if_true]
    · intro h0
      rw [h0] at hd
      rw [GP_kind (l := []) rfl] at hd
      cases hd
end dnw
end Go.Proofs.YtjjbmhndakmkbaaGreatDoor
