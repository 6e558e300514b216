/- Texts made ready: plain laws, no program: runes left out, blanks alike, small ones; single blanks within; a phone's number; what is ready stays so. -/
import Derived.Test.YtjjbmhndakmkbaaGreatDoorRuneP
import Derived.Lib.ReplaceLaws
import Derived.Lib.Join
namespace Go.Proofs.YtjjbmhndakmkbaaGreatDoor
namespace prp
open run
set_option linter.unusedVariables false
set_option linter.unusedSimpArgs false
/-! ### blanks squeezed -/
section
variable {α : Type} [DecidableEq α]
def headNe (b : α) : List α → Bool
  | [] => false
  | x :: _ => decide (x ≠ b)
def sq (b : α) : Bool → List α → List α
  | _, [] => []
  | st, x :: t => if x ≠ b then x :: sq b true t else if st = true ∧ headNe b t = true then x :: sq b true t else sq b st t
def pieces (b : α) : List α → List (List α)
  | [] => [[]]
  | x :: t => if x = b then [] :: pieces b t else match pieces b t with
    | [] => [[x]]
    | p :: r => (x :: p) :: r
theorem pieces_ne (b : α) (l : List α) : ∃ p r, pieces b l = p :: r := by
  cases l with
  | nil => exact ⟨_, _, rfl⟩
  | cons x t =>
    unfold pieces
    split
    · exact ⟨_, _, rfl⟩
    · split <;> exact ⟨_, _, rfl⟩
theorem pieces_ne_cons (b x : α) (t p : List α) (r : List (List α)) (h : x ≠ b) (hp : pieces b t = p :: r) : pieces b (x :: t) = (x :: p) :: r := by
  rw [pieces, if_neg h, hp]
theorem sq_ne (b x : α) (st : Bool) (t : List α) (h : x ≠ b) : sq b st (x :: t) = x :: sq b true t := by rw [sq, if_pos h]
theorem sq_on (b : α) (t : List α) (h : headNe b t = true) : sq b true (b :: t) = b :: sq b true t := by rw [sq, if_neg (by simp), if_pos ⟨rfl, h⟩]
theorem sq_off (b : α) (st : Bool) (t : List α) (h : ¬ (st = true ∧ headNe b t = true)) : sq b st (b :: t) = sq b st t := by rw [sq, if_neg (by simp), if_neg h]
theorem sq_run (b : α) : ∀ (xs t : List α) (st : Bool), xs ≠ [] → (∀ x ∈ xs, x ≠ b) → sq b st (xs ++ t) = xs ++ sq b true t
  | [], _, _, h, _ => absurd rfl h
  | [x], t, st, _, h => sq_ne b x st t (h x (by simp))
  | x :: y :: ys, t, st, _, h => by
    rw [List.cons_append, sq_ne b x st _ (h x (by simp)), sq_run b (y :: ys) t true (by simp) (fun z hz => h z (by simp at hz ⊢; right; exact hz))]; rfl
theorem sq_len (b : α) : ∀ (l : List α) (st : Bool), (sq b st l).length ≤ l.length
  | [], _ => by simp [sq]
  | x :: t, st => by
    have h1 := sq_len b t true
    have h2 := sq_len b t st
    unfold sq
    repeat' split
    all_goals (simp; try omega)
theorem sq_mem (b : α) : ∀ (l : List α) (st : Bool) (x : α), x ∈ sq b st l → x ∈ l
  | [], _, x, h => by simp [sq] at h
  | y :: t, st, x, h => by
    unfold sq at h
    repeat' split at h
    · rcases List.mem_cons.1 h with rfl | h
      · simp
      · exact List.mem_cons_of_mem _ (sq_mem b t _ x h)
    · rcases List.mem_cons.1 h with rfl | h
      · simp
      · exact List.mem_cons_of_mem _ (sq_mem b t _ x h)
    · exact List.mem_cons_of_mem _ (sq_mem b t _ x h)
theorem headNe_sq (b : α) : ∀ l : List α, headNe b l = true → headNe b (sq b true l) = true
  | [], h => by simp [headNe] at h
  | x :: t, h => by
    have hx : x ≠ b := by simpa [headNe] using h
    rw [sq_ne b x true t hx]
    simpa [headNe] using hx
/-- squeezed twice is squeezed once -/
theorem sq_sq (b : α) : ∀ (l : List α) (st : Bool), sq b st (sq b st l) = sq b st l
  | [], _ => by simp [sq]
  | x :: t, st => by
    by_cases hx : x = b
    · subst hx
      by_cases hh : st = true ∧ headNe x t = true
      · obtain ⟨rfl, hh⟩ := hh
        rw [sq_on x t hh, sq_on x _ (headNe_sq x t hh), sq_sq x t true]
      · rw [sq_off x st t hh, sq_sq x t st]
    · rw [sq_ne b x st t hx, sq_ne b x st _ hx, sq_sq b t true]
theorem filter_sq (b : α) (p : α → Bool) (hp : p b = false) : ∀ (l : List α) (st : Bool), (sq b st l).filter p = l.filter p
  | [], _ => by simp [sq]
  | x :: t, st => by
    have h1 := filter_sq b p hp t true
    have h2 := filter_sq b p hp t st
    by_cases hx : x = b
    · subst hx
      by_cases hh : st = true ∧ headNe x t = true
      · obtain ⟨rfl, hh⟩ := hh
        rw [sq_on x t hh, List.filter_cons, List.filter_cons, h1]
      · rw [sq_off x st t hh, h2, List.filter_cons, hp]; rfl
    · rw [sq_ne b x st t hx, List.filter_cons, List.filter_cons, h1]
/-- more blanks ahead -/
theorem sq_ahead (b : α) (l : List α) : ∀ k : Nat, sq b false (List.replicate k b ++ l) = sq b false l
  | 0 => by simp
  | k + 1 => by
    rw [List.replicate_succ, List.cons_append, sq_off b false _ (by simp), sq_ahead b l k]
theorem sq_rep (b : α) : ∀ (k : Nat) (st : Bool), sq b st (List.replicate k b) = []
  | 0, _ => by simp [sq]
  | k + 1, st => by
    have hh : headNe b (List.replicate k b) = false := by cases k <;> simp [headNe, List.replicate_succ]
    rw [List.replicate_succ, sq_off b st _ (by rw [hh]; simp), sq_rep b k st]
/-- more blanks behind -/
theorem sq_behind (b : α) (k : Nat) : ∀ (l : List α) (st : Bool), sq b st (l ++ List.replicate k b) = sq b st l
  | [], st => by rw [List.nil_append, sq_rep]; simp [sq]
  | x :: t, st => by
    by_cases hx : x = b
    · subst hx
      have hh : headNe x (t ++ List.replicate k x) = headNe x t := by
        cases t with
        | nil => cases k <;> simp [headNe, List.replicate_succ]
        | cons y t => rfl
      rw [List.cons_append]
      by_cases h : st = true ∧ headNe x t = true
      · obtain ⟨rfl, h⟩ := h
        rw [sq_on x t h, sq_on x _ (by rw [hh]; exact h), sq_behind x k t true]
      · rw [sq_off x st t h, sq_off x st _ (by rw [hh]; exact h), sq_behind x k t st]
    · rw [List.cons_append, sq_ne b x st _ hx, sq_ne b x st _ hx, sq_behind b k t true]
theorem headNe_rep (b : α) (k : Nat) (l : List α) : headNe b (List.replicate (k + 1) b ++ l) = false := by simp [headNe, List.replicate_succ]
theorem sq_blanks (b : α) (l : List α) : ∀ (k : Nat) (st : Bool), sq b st (List.replicate (k + 1) b ++ l) = sq b st (b :: l)
  | 0, st => rfl
  | k + 1, st => by
    rw [List.replicate_succ, List.cons_append, sq_off b st _ (by rw [headNe_rep]; simp), sq_blanks b l k st]
/-- more blanks within -/
theorem sq_within (b : α) (k : Nat) (r : List α) : ∀ (l : List α) (st : Bool), sq b st (l ++ (List.replicate (k + 1) b ++ r)) = sq b st (l ++ b :: r)
  | [], st => by rw [List.nil_append, List.nil_append, sq_blanks]
  | x :: t, st => by
    by_cases hx : x = b
    · subst hx
      have hh : headNe x (t ++ (List.replicate (k + 1) x ++ r)) = headNe x (t ++ x :: r) := by
        cases t with
        | nil => rw [List.nil_append, List.nil_append, headNe_rep]; simp [headNe]
        | cons y t => rfl
      rw [List.cons_append, List.cons_append]
      by_cases h : st = true ∧ headNe x (t ++ x :: r) = true
      · obtain ⟨rfl, h⟩ := h
        rw [sq_on x _ h, sq_on x _ (by rw [hh]; exact h), sq_within x k r t true]
      · rw [sq_off x st _ h, sq_off x st _ (by rw [hh]; exact h), sq_within x k r t st]
    · rw [List.cons_append, List.cons_append, sq_ne b x st _ hx, sq_ne b x st _ hx, sq_within b k r t true]
/-- a map that leaves the blank alone, and makes none, goes through -/
theorem sq_map (b : α) (f : α → α) : ∀ (l : List α) (st : Bool), (∀ x ∈ l, (f x = b ↔ x = b)) → sq b st (l.map f) = (sq b st l).map f
  | [], _, _ => by simp [sq]
  | x :: t, st, h => by
    have hx := h x (by simp)
    have ht : ∀ y ∈ t, (f y = b ↔ y = b) := fun y hy => h y (by simp [hy])
    have hh : headNe b (t.map f) = headNe b t := by
      cases t with
      | nil => rfl
      | cons y t =>
        have := h y (by simp)
        simp only [List.map_cons, headNe]
        by_cases e : y = b
        · have e2 := this.2 e; simp only [e, e2, ne_eq, not_true_eq_false, decide_false]; rw [← e, e2, e]; simp
        · have e2 : f y ≠ b := fun e2 => e (this.1 e2); simp [e, e2]
    rw [List.map_cons]
    by_cases e : x = b
    · subst e
      have e2 := hx.2 rfl
      rw [e2]
      by_cases h2 : st = true ∧ headNe x t = true
      · obtain ⟨rfl, h2⟩ := h2
        rw [sq_on x t h2, sq_on x _ (by rw [hh]; exact h2), sq_map x f t true ht, List.map_cons, e2]
      · rw [sq_off x st t h2, sq_off x st _ (by rw [hh]; exact h2), sq_map x f t st ht]
    · rw [sq_ne b x st t e, sq_ne b (f x) st _ (fun e2 => e (hx.1 e2)), sq_map b f t true ht, List.map_cons]
end
/-! ### Go's way: pieces, words, joined -/
def joinT (b : UInt8) (r : List (List UInt8)) : List UInt8 := Lib.joinTail [b] r
theorem sq_true_pieces (b : UInt8) : ∀ (l p : List UInt8) (r : List (List UInt8)), pieces b l = p :: r → sq b true l = p ++ Lib.joinTail [b] (r.filter (· ≠ []))
  | [], p, r, h => by
    simp only [pieces, List.cons.injEq] at h
    obtain ⟨rfl, rfl⟩ := h
    simp [sq, Lib.joinTail]
  | x :: t, p, r, h => by
    obtain ⟨p', r', h'⟩ := pieces_ne b t
    have ih := sq_true_pieces b t p' r' h'
    by_cases hx : x = b
    · subst hx
      rw [pieces, if_pos rfl, h'] at h
      simp only [List.cons.injEq] at h
      obtain ⟨rfl, rfl⟩ := h
      cases t with
      | nil =>
        simp only [pieces, List.cons.injEq] at h'
        obtain ⟨rfl, rfl⟩ := h'
        simp [sq, headNe, Lib.joinTail]
      | cons y t =>
        by_cases hy : y = x
        · subst hy
          rw [pieces, if_pos rfl] at h'
          simp only [List.cons.injEq] at h'
          obtain ⟨rfl, rfl⟩ := h'
          rw [sq_off y true _ (by simp [headNe]), ih]
          simp
        · rw [sq_on x _ (by simp [headNe, hy]), ih]
          clear ih
          obtain ⟨p2, r2, h2⟩ := pieces_ne x t
          rw [pieces_ne_cons x y t p2 r2 hy h2] at h'
          simp only [List.cons.injEq] at h'
          obtain ⟨rfl, rfl⟩ := h'
          simp [Lib.joinTail]
    · rw [pieces_ne_cons b x t p' r' hx h'] at h
      simp only [List.cons.injEq] at h
      obtain ⟨rfl, rfl⟩ := h
      rw [sq_ne b x true t hx, ih]; rfl
theorem sq_pieces (b : UInt8) : ∀ (l : List UInt8), sq b false l = Lib.join ((pieces b l).filter (· ≠ [])) [b]
  | [] => by simp [sq, pieces, Lib.join_nil]
  | x :: t => by
    obtain ⟨p', r', h'⟩ := pieces_ne b t
    by_cases hx : x = b
    · subst hx
      have hp : pieces x (x :: t) = [] :: pieces x t := by rw [pieces, if_pos rfl]
      rw [sq_off x false t (by simp), hp, sq_pieces x t]
      simp
    · rw [sq_ne b x false t hx, pieces_ne_cons b x t p' r' hx h', sq_true_pieces b t p' r' h']
      rw [show ((x :: p') :: r').filter (· ≠ []) = (x :: p') :: r'.filter (· ≠ []) from by simp, Lib.join_cons]
      rfl
theorem pieces_no (c : UInt8) : ∀ l : List UInt8, c ∉ l → pieces c l = [l]
  | [], _ => rfl
  | x :: t, h => by
    simp only [List.mem_cons, not_or] at h
    exact pieces_ne_cons c x t t [] (Ne.symm h.1) (pieces_no c t h.2)
theorem pieces_at (c : UInt8) : ∀ (a t : List UInt8), c ∉ a → pieces c (a ++ c :: t) = a :: pieces c t
  | [], t, _ => by rw [List.nil_append, pieces, if_pos rfl]
  | x :: a, t, h => by
    simp only [List.mem_cons, not_or] at h
    exact pieces_ne_cons c x _ a (pieces c t) (Ne.symm h.1) (pieces_at c a t h.2)
/-- where the first one stands -/
theorem index_one (c : UInt8) : ∀ l : List UInt8, (Lib.index l [c] = -1 ∧ c ∉ l) ∨ ∃ a t, l = a ++ c :: t ∧ c ∉ a ∧ Lib.index l [c] = (a.length : Int)
  | [] => Or.inl ⟨by simp [Lib.index], by simp⟩
  | x :: t => by
    by_cases hx : x = c
    · subst hx
      exact Or.inr ⟨[], t, rfl, by simp, by rw [Lib.index]; simp [List.isPrefixOf]⟩
    · have hp : ([c] : List UInt8).isPrefixOf (x :: t) = false := by simp [List.isPrefixOf, Ne.symm hx]
      have hix : Lib.index (x :: t) [c] = if Lib.index t [c] == -1 then -1 else Lib.index t [c] + 1 := by rw [Lib.index, hp]; simp
      rcases index_one c t with ⟨h1, h2⟩ | ⟨a, r, rfl, h2, h3⟩
      · refine Or.inl ⟨by rw [hix, h1]; rfl, by simp [h2, Ne.symm hx]⟩
      · refine Or.inr ⟨x :: a, r, rfl, by simp [h2, Ne.symm hx], ?_⟩
        rw [hix, h3, if_neg (by simp)]
        simp
theorem splitK_pieces (c : UInt8) : ∀ (k : Nat) (l : List UInt8), l.count c = k → Lib.splitK [c] 0 k l = pieces c l
  | 0, l, h => by
    rw [pieces_no c l (List.count_eq_zero.1 h)]; rfl
  | k + 1, l, h => by
    rcases index_one c l with ⟨h1, h2⟩ | ⟨a, t, rfl, h2, h3⟩
    · rw [List.count_eq_zero.2 h2] at h; omega
    · rw [Lib.splitK, if_neg (by rw [h3]; simp), h3, pieces_at c a t h2]
      have ht : t.count c = k := by
        rw [List.count_append, List.count_cons_self, List.count_eq_zero.2 h2] at h; omega
      rw [show ((a.length : Int).toNat + 0) = a.length from by omega, List.take_left, show ((a.length : Int).toNat + [c].length) = a.length + 1 from by simp]
      rw [show (a ++ c :: t).drop (a.length + 1) = t from by rw [show a ++ c :: t = (a ++ [c]) ++ t from by simp, show a.length + 1 = (a ++ [c]).length from by simp, List.drop_left]]
      rw [splitK_pieces c k t ht]
theorem replaceK_filter (c : UInt8) : ∀ (k : Nat) (l : List UInt8), l.count c = k → Lib.replaceK [c] [] k l = l.filter (· ≠ c)
  | 0, l, h => by
    have := List.count_eq_zero.1 h
    show l = _
    rw [List.filter_eq_self.2]
    intro x hx
    simp only [ne_eq, decide_not, Bool.not_eq_true', decide_eq_false_iff_not]
    rintro rfl
    exact this hx
  | k + 1, l, h => by
    rcases index_one c l with ⟨h1, h2⟩ | ⟨a, t, rfl, h2, h3⟩
    · rw [List.count_eq_zero.2 h2] at h; omega
    · rw [Lib.replaceK_hit [c] [] k _ a.length h3]
      have ht : t.count c = k := by
        rw [List.count_append, List.count_cons_self, List.count_eq_zero.2 h2] at h; omega
      have ha := replaceK_filter c 0 a (List.count_eq_zero.2 h2)
      rw [List.take_left, show (a ++ c :: t).drop (a.length + [c].length) = t from by rw [show a ++ c :: t = (a ++ [c]) ++ t from by simp, show a.length + [c].length = (a ++ [c]).length from by simp, List.drop_left]]
      rw [replaceK_filter c k t ht, List.filter_append, ← ha]
      simp [Lib.replaceK]
theorem replaceAll_filter (c : UInt8) (l : List UInt8) : Lib.replaceAll l [c] [] = l.filter (· ≠ c) := by
  unfold Lib.replaceAll Lib.replace Lib.replaceNum
  rw [if_neg (by simp), if_pos (Or.inl (by decide)), Lib.count_one, replaceK_filter c _ l rfl]
/-! ### runes -/
def dropB (r : Int) : Bool := decide (r ≤ 8 ∨ (14 ≤ r ∧ r ≤ 31) ∨ (127 ≤ r ∧ r ≤ 132) ∨ (134 ≤ r ∧ r ≤ 159) ∨ r = 173 ∨ (8203 ≤ r ∧ r ≤ 8207) ∨ r = 65279)
def blankB (r : Int) : Bool := decide ((9 ≤ r ∧ r ≤ 13) ∨ r = 32 ∨ r = 133 ∨ r = 160 ∨ r = 5760 ∨ (8192 ≤ r ∧ r ≤ 8202) ∨ r = 8232 ∨ r = 8233 ∨ r = 8239 ∨ r = 8287 ∨ r = 12288)
def smallI (r : Int) : Int := if (65 ≤ r ∧ r ≤ 90) ∨ (192 ≤ r ∧ r ≤ 222 ∧ r ≠ 215) ∨ (913 ≤ r ∧ r ≤ 937 ∧ r ≠ 930) ∨ (1040 ≤ r ∧ r ≤ 1071) then r + 32 else if 1024 ≤ r ∧ r ≤ 1039 then r + 80 else r
def mapR (fold : Bool) (r : Int) : Int := if blankB r = true then 32 else if fold = true then smallI r else r
def mapped (fold : Bool) (m : List Int) : List Int := (m.filter (fun r => !dropB r)).map (mapR fold)
theorem mapped_append (fold : Bool) (a b : List Int) : mapped fold (a ++ b) = mapped fold a ++ mapped fold b := by unfold mapped; rw [List.filter_append, List.map_append]
theorem smallI_ok {r : Int} (h : okR r) : okR (smallI r) := by
  unfold smallI okR at *
  repeat' split
  all_goals omega
theorem mapR_ok {fold : Bool} {r : Int} (h : okR r) : okR (mapR fold r) := by
  unfold mapR
  repeat' split
  · unfold okR; omega
  · exact smallI_ok h
  · exact h
theorem mapped_ok {fold : Bool} {m : List Int} (h : ∀ v ∈ m, okR v) : ∀ v ∈ mapped fold m, okR v := by
  intro v hv
  obtain ⟨u, hu, rfl⟩ := List.mem_map.1 hv
  exact mapR_ok (h u (List.mem_filter.1 hu).1)
theorem small_small (r : Int) : smallI (smallI r) = smallI r := by
  unfold smallI
  repeat' split
  all_goals omega
/-- what a rune becomes is not dropped, is a blank where it was one, and becomes itself -/
theorem small_keep {r : Int} (h1 : dropB r = false) (h2 : blankB r = false) : dropB (smallI r) = false ∧ blankB (smallI r) = false := by
  unfold dropB blankB at *
  simp only [decide_eq_false_iff_not] at *
  unfold smallI
  repeat' split
  all_goals (constructor <;> omega)
theorem mapR_mapR (fold g : Bool) (r : Int) (hd : dropB r = false) : mapR g (mapR fold r) = mapR (fold || g) r ∧ dropB (mapR fold r) = false := by
  by_cases hb : blankB r = true
  · have h1 : mapR fold r = 32 := by unfold mapR; rw [if_pos hb]
    have h2 : mapR (fold || g) r = 32 := by unfold mapR; rw [if_pos hb]
    rw [h1, h2]
    exact ⟨by unfold mapR; rw [if_pos (by decide)], by decide⟩
  · have hb' : blankB r = false := by simpa using hb
    obtain ⟨k1, k2⟩ := small_keep hd hb'
    cases fold with
    | false =>
      have h1 : mapR false r = r := by unfold mapR; rw [if_neg hb]; simp
      rw [h1]
      exact ⟨by simp, hd⟩
    | true =>
      have h1 : mapR true r = smallI r := by unfold mapR; rw [if_neg hb]; simp
      rw [h1]
      refine ⟨?_, k1⟩
      unfold mapR
      rw [if_neg (by rw [k2]; simp)]
      cases g with
      | true => simp only [if_true, Bool.or_true, small_small]; rw [if_neg hb]
      | false => simp only [Bool.or_false, if_true]; rw [if_neg hb]; simp
theorem mapped_mapped (fold g : Bool) (m : List Int) : mapped g (mapped fold m) = mapped (fold || g) m := by
  induction m with
  | nil => rfl
  | cons r m ih =>
    unfold mapped at *
    by_cases hd : dropB r = true
    · simp only [List.filter_cons, hd, Bool.not_true, Bool.false_eq_true, if_false]
      exact ih
    · have hd' : dropB r = false := by simpa using hd
      obtain ⟨h1, h2⟩ := mapR_mapR fold g r hd'
      simp only [List.filter_cons, hd', Bool.not_false, if_true, List.map_cons, h2, h1, ih]
theorem mapped_sq (g : Bool) : ∀ (l : List Int) (st : Bool), (∀ x ∈ l, dropB x = false) → (∀ x ∈ l, blankB x = true → x = 32) → mapped g (sq 32 st l) = sq 32 st (mapped g l)
  | l, st, h1, h2 => by
    have hf : ∀ k : List Int, (∀ x ∈ k, x ∈ l) → mapped g k = k.map (mapR g) := by
      intro k hk
      unfold mapped
      rw [List.filter_eq_self.2]
      intro x hx
      rw [h1 x (hk x hx)]; rfl
    rw [hf _ (fun x hx => sq_mem 32 l st x hx), hf l (fun x hx => hx), sq_map]
    intro x hx
    have hd := h1 x hx
    have hb := h2 x hx
    constructor
    · intro e
      by_cases hb' : blankB x = true
      · exact hb hb'
      · exfalso
        have hb2 : blankB x = false := by simpa using hb'
        obtain ⟨k1, k2⟩ := small_keep hd hb2
        unfold mapR at e
        rw [if_neg hb'] at e
        split at e
        · rw [e] at k2; revert k2; decide
        · rw [e] at hb2; revert hb2; decide
    · rintro rfl
      unfold mapR
      rw [if_pos (by decide)]
theorem mapped_keeps (fold : Bool) (m : List Int) : (∀ x ∈ mapped fold m, dropB x = false) ∧ (∀ x ∈ mapped fold m, blankB x = true → x = 32) := by
  constructor
  · intro x hx
    obtain ⟨r, hr, rfl⟩ := List.mem_map.1 hx
    exact (mapR_mapR fold fold r (by have := (List.mem_filter.1 hr).2; simpa using this)).2
  · intro x hx hb
    obtain ⟨r, hr, rfl⟩ := List.mem_map.1 hx
    have hd : dropB r = false := by have := (List.mem_filter.1 hr).2; simpa using this
    by_cases h : blankB r = true
    · unfold mapR; rw [if_pos h]
    · have h' : blankB r = false := by simpa using h
      obtain ⟨k1, k2⟩ := small_keep hd h'
      exfalso
      unfold mapR at hb
      rw [if_neg h] at hb
      split at hb
      · rw [k2] at hb; simp at hb
      · exact h hb
/-- the runes of a text made ready -/
def readyR (fold : Bool) (m : List Int) : List Int := sq 32 false (mapped fold m)
theorem ready_ready (fold g : Bool) (m : List Int) : readyR g (readyR fold m) = readyR (fold || g) m := by
  unfold readyR
  rw [mapped_sq g _ _ (mapped_keeps fold m).1 (mapped_keeps fold m).2, mapped_mapped, sq_sq]
theorem ready_ok {fold : Bool} {m : List Int} (h : ∀ v ∈ m, okR v) : ∀ v ∈ readyR fold m, okR v :=
  fun v hv => mapped_ok h v (sq_mem _ _ _ v hv)
/-! ### bytes of runes -/
theorem enc_ascii {v : Int} (h : okR v) {c : Int} (h0 : 0 ≤ c) (h1 : c < 128) (hx : c.toNat.toUInt8 ∈ enc v) : v = c := by
  obtain ⟨a0, a1, a2⟩ := h
  have key : ∀ z : Int, 0 ≤ z → z < 256 → c.toNat.toUInt8 = z.toNat.toUInt8 → z = c := by
    intro z z0 z1 e
    have := congrArg UInt8.toNat e
    rw [u8z c h0 (by omega), u8z z z0 z1] at this
    omega
  by_cases b1 : v ≤ 127
  · rw [enc_one a0 b1] at hx
    simp only [List.mem_singleton] at hx
    exact key v a0 (by omega) hx
  · exfalso
    by_cases b2 : v ≤ 2047
    · rw [enc_two (by omega) b2] at hx
      simp only [List.mem_cons, List.not_mem_nil, or_false] at hx
      rcases hx with hx | hx
      · have := key _ (by omega) (by omega) hx; omega
      · have := key _ (by omega) (by omega) hx; omega
    · by_cases b3 : v ≤ 65535
      · rw [enc_three (by omega)] at hx
        simp only [List.mem_cons, List.not_mem_nil, or_false] at hx
        rcases hx with hx | hx | hx
        all_goals (have := key _ (by omega) (by omega) hx; omega)
      · rw [enc_four (by omega) a1] at hx
        simp only [List.mem_cons, List.not_mem_nil, or_false] at hx
        rcases hx with hx | hx | hx | hx
        all_goals (have := key _ (by omega) (by omega) hx; omega)
theorem enc_no32 {v : Int} (h : okR v) (hv : v ≠ 32) : ∀ x ∈ enc v, x ≠ 32 := by
  rintro x hx rfl
  exact hv (enc_ascii h (c := 32) (by omega) (by omega) hx)
theorem headNe_text {m : List Int} (h : ∀ v ∈ m, okR v) : headNe (32 : UInt8) (text m) = headNe 32 m := by
  cases m with
  | nil => rfl
  | cons v m =>
    have hl := enc_len v
    rw [text_cons]
    by_cases hv : v = 32
    · subst hv; rfl
    · have hn := enc_no32 (h v (by simp)) hv
      cases he : enc v with
      | nil => rw [he] at hl; simp at hl
      | cons x t =>
        rw [he] at hn
        have := hn x (by simp)
        simp [headNe, hv, this]
theorem sq_text : ∀ (m : List Int) (st : Bool), (∀ v ∈ m, okR v) → sq (32 : UInt8) st (text m) = text (sq 32 st m)
  | [], _, _ => rfl
  | v :: m, st, h => by
    have hm : ∀ u ∈ m, okR u := fun u hu => h u (by simp [hu])
    have hl := enc_len v
    by_cases hv : v = 32
    · subst hv
      have e1 : text (32 :: m) = (32 : UInt8) :: text m := rfl
      rw [e1]
      by_cases h2 : st = true ∧ headNe 32 m = true
      · obtain ⟨rfl, h2⟩ := h2
        rw [sq_on 32 m h2, sq_on 32 (text m) (by rw [headNe_text hm]; exact h2), sq_text m true hm]; rfl
      · rw [sq_off 32 st m h2, sq_off 32 st (text m) (by rw [headNe_text hm]; exact h2), sq_text m st hm]
    · rw [sq_ne 32 v st m hv, text_cons, text_cons, sq_run 32 (enc v) (text m) st (by intro e; rw [e] at hl; simp at hl) (enc_no32 (h v (by simp)) hv), sq_text m true hm]
theorem filter_text (c : Int) (h0 : 0 ≤ c) (h1 : c < 128) : ∀ m : List Int, (∀ v ∈ m, okR v) → (text m).filter (· ≠ c.toNat.toUInt8) = text (m.filter (· ≠ c))
  | [], _ => rfl
  | v :: m, h => by
    have ih := filter_text c h0 h1 m (fun u hu => h u (by simp [hu]))
    rw [text_cons, List.filter_append, ih]
    by_cases hv : v = c
    · subst hv
      rw [enc_one h0 (by omega)]
      simp
    · have he : (enc v).filter (· ≠ c.toNat.toUInt8) = enc v := by
        refine List.filter_eq_self.2 ?_
        intro x hx
        simp only [ne_eq, decide_not, Bool.not_eq_true', decide_eq_false_iff_not]
        rintro rfl
        exact hv (enc_ascii (h v (by simp)) h0 h1 hx)
      rw [he]
      simp [hv, text_cons]
theorem mapR_len {fold : Bool} {r : Int} (h : okR r) : (enc (mapR fold r)).length ≤ (enc r).length := by
  have h1 := enc_len r
  unfold mapR
  split
  · exact h1.1
  · split
    · obtain ⟨a0, a1, a2⟩ := h
      unfold smallI
      split
      · rename_i h2
        by_cases b : r ≤ 90
        · rw [enc_one (by omega) (by omega), enc_one (by omega) (by omega)]; simp
        · rw [enc_two (by omega) (by omega), enc_two (by omega) (by omega)]; simp
      · split
        · rw [enc_two (by omega) (by omega), enc_two (by omega) (by omega)]; simp
        · exact Nat.le_refl _
    · exact Nat.le_refl _
theorem mapped_len (fold : Bool) : ∀ m : List Int, (∀ v ∈ m, okR v) → (text (mapped fold m)).length ≤ (text m).length
  | [], _ => by simp [mapped, text]
  | v :: m, h => by
    have ih := mapped_len fold m (fun u hu => h u (by simp [hu]))
    have h1 := mapR_len (fold := fold) (h v (by simp))
    unfold mapped at *
    by_cases hd : dropB v = true
    · simp only [List.filter_cons, hd, Bool.not_true, Bool.false_eq_true, if_false]
      rw [text_cons, List.length_append]; omega
    · have hd' : dropB v = false := by simpa using hd
      simp only [List.filter_cons, hd', Bool.not_false, if_true, List.map_cons]
      rw [text_cons, text_cons, List.length_append, List.length_append]; omega
theorem ready_len (fold : Bool) (m : List Int) (h : ∀ v ∈ m, okR v) : (text (readyR fold m)).length ≤ (text m).length := by
  unfold readyR
  rw [← sq_text _ _ (mapped_ok h)]
  exact Nat.le_trans (sq_len _ _ _) (mapped_len fold m h)
/-! ### texts -/
/-- mapped, made ready, a phone's number: none where the text has no runes -/
def mapO (l : List UInt8) (fold : Bool) : Option (List UInt8) := (runes l).map fun m => text (mapped fold m)
def readyO (l : List UInt8) (fold : Bool) : Option (List UInt8) := (runes l).map fun m => text (readyR fold m)
def phoneR (m : List Int) : List Int := (mapped true m).filter fun v => decide (v ≠ 32) && decide (v ≠ 45)
def phoneO (l : List UInt8) : Option (List UInt8) := (runes l).map fun m => text (phoneR m)
theorem mapO_len {l o : List UInt8} {fold : Bool} (h : mapO l fold = some o) : o.length ≤ l.length := by
  unfold mapO at h
  obtain ⟨m, hm, rfl⟩ := Option.map_eq_some_iff.1 h
  obtain ⟨h1, h2⟩ := runes_text _ l m (Nat.le_refl _) hm
  have := mapped_len fold m h2
  rw [h1] at this
  exact this
theorem readyO_len {l o : List UInt8} {fold : Bool} (h : readyO l fold = some o) : o.length ≤ l.length := by
  unfold readyO at h
  obtain ⟨m, hm, rfl⟩ := Option.map_eq_some_iff.1 h
  obtain ⟨h1, h2⟩ := runes_text _ l m (Nat.le_refl _) hm
  have := ready_len fold m h2
  rw [h1] at this
  exact this
/-- Go's Ready of what is mapped -/
theorem readyO_of_map (l : List UInt8) (fold : Bool) : readyO l fold = (mapO l fold).map fun t => Lib.join ((pieces 32 t).filter (· ≠ [])) [32] := by
  unfold readyO mapO
  cases h : runes l with
  | none => rfl
  | some m =>
    obtain ⟨h1, h2⟩ := runes_text _ l m (Nat.le_refl _) h
    show some _ = some _
    congr 1
    show text (readyR fold m) = Lib.join ((pieces 32 (text (mapped fold m))).filter (· ≠ [])) [32]
    rw [← sq_pieces, sq_text _ _ (mapped_ok h2)]; rfl
theorem phoneO_of_ready (l : List UInt8) : phoneO l = (readyO l true).map fun t => Lib.replaceAll (Lib.replaceAll t [32] []) [45] [] := by
  unfold readyO phoneO
  cases h : runes l with
  | none => rfl
  | some m =>
    obtain ⟨h1, h2⟩ := runes_text _ l m (Nat.le_refl _) h
    show some _ = some _
    congr 1
    show text (phoneR m) = Lib.replaceAll (Lib.replaceAll (text (readyR true m)) [32] []) [45] []
    rw [replaceAll_filter, replaceAll_filter]
    have h3 := mapped_ok (fold := true) h2
    unfold readyR
    rw [← sq_text _ _ h3, filter_sq 32 _ (by simp)]
    rw [show (32 : UInt8) = (32 : Int).toNat.toUInt8 from rfl, filter_text 32 (by omega) (by omega) _ h3]
    rw [show (45 : UInt8) = (45 : Int).toNat.toUInt8 from rfl, filter_text 45 (by omega) (by omega) _ (fun v hv => h3 v (List.mem_filter.1 hv).1)]
    unfold phoneR
    rw [List.filter_filter]
    congr 1
    apply List.filter_congr
    intro x _
    rw [Bool.and_comm]
def sameB (a b : List UInt8) : Bool := (readyO a true).isSome && decide (readyO a true = readyO b true)
theorem sameB_self (a : List UInt8) : sameB a a = (readyO a true).isSome := by unfold sameB; simp
theorem sameB_comm (a b : List UInt8) : sameB a b = sameB b a := by
  unfold sameB
  by_cases h : readyO a true = readyO b true
  · rw [h]
  · simp [h, Ne.symm h]
theorem sameB_trans {a b c : List UInt8} (h1 : sameB a b = true) (h2 : sameB b c = true) : sameB a c = true := by
  unfold sameB at *
  simp only [Bool.and_eq_true, decide_eq_true_eq] at *
  exact ⟨h1.1, h1.2.trans h2.2⟩
/-- WHAT IS READY STAYS SO -/
theorem once {l o : List UInt8} {fold : Bool} (h : readyO l fold = some o) : readyO o fold = some o ∧ sameB l o = true := by
  unfold readyO at h
  obtain ⟨m, hm, rfl⟩ := Option.map_eq_some_iff.1 h
  obtain ⟨h1, h2⟩ := runes_text _ l m (Nat.le_refl _) hm
  have hr := runes_back (readyR fold m) (ready_ok h2)
  have e : ∀ g : Bool, readyO (text (readyR fold m)) g = some (text (readyR (fold || g) m)) := by
    intro g
    unfold readyO
    rw [hr]
    show some (text (readyR g (readyR fold m))) = some _
    rw [ready_ready]
  refine ⟨by rw [e]; simp, ?_⟩
  unfold sameB
  rw [e true]
  have : readyO l true = some (text (readyR true m)) := by unfold readyO; rw [hm]; rfl
  rw [this]
  simp
/-- blanks at the ends, and more of them within -/
theorem blanks_same {a b bl : List UInt8} {ma mb mbl : List Int} (k : Nat) (ha : runes a = some ma) (hb : runes b = some mb) (hbl : runes bl = some mbl) (hm : mapped true mbl = List.replicate (k + 1) 32) :
    sameB (bl ++ a ++ bl ++ b ++ bl) (a ++ [32] ++ b) = true := by
  have h1 := runes_append (runes_append (runes_append (runes_append hbl ha) hbl) hb) hbl
  have h2 := runes_append (runes_append ha (show runes [32] = some [32] from rfl)) hb
  unfold sameB readyO
  rw [h1, h2]
  simp only [Option.map_some, Option.isSome_some, Bool.true_and, decide_eq_true_eq, Option.some.injEq]
  congr 1
  unfold readyR
  rw [mapped_append, mapped_append, mapped_append, mapped_append, mapped_append, mapped_append, hm]
  rw [show mapped true [32] = [32] from by decide]
  rw [sq_behind]
  rw [List.append_assoc, List.append_assoc, List.append_assoc, sq_ahead]
  rw [sq_within]
  rfl
end prp
end Go.Proofs.YtjjbmhndakmkbaaGreatDoor
