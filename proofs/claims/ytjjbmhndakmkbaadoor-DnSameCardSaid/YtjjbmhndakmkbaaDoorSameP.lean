/- A name's text written another way: plain laws. -/
import Derived.Test.YtjjbmhndakmkbaaDoorUpperW
import Derived.Test.YtjjbmhndakmkbaaDoorKeyAll
namespace Go.Proofs.YtjjbmhndakmkbaaDoor
namespace dnw
open dnp
set_option linter.unusedVariables false
set_option linter.unusedSimpArgs false
section
variable (U : List UInt8 → List UInt8) (b : List UInt8) (s2 : UInt8)
def midT (m : List (List Av)) (r : List Av) : List UInt8 := if r = [] then nameT U b s2 m else nameT U b s2 (m ++ [r])
theorem midT_nil (m : List (List Av)) : midT U b s2 m [] = nameT U b s2 m := if_pos rfl
theorem midT_all (m : List (List Av)) {r : List Av} (h : r ≠ []) : midT U b s2 m r = nameT U b s2 (m ++ [r]) := if_neg h
theorem rdnT_snoc (r : List Av) (x : Av) (h : r ≠ []) : rdnT U b (r ++ [x]) = rdnT U b r ++ (b ++ 43 :: (b ++ pt U b x)) := by
  obtain ⟨a, t, rfl⟩ := List.exists_cons_of_ne_nil h
  simp [rdnT, tailR]
theorem nameT_snoc (m : List (List Av)) (l : List Av) (h : m ≠ []) : nameT U b s2 (m ++ [l]) = nameT U b s2 m ++ (b ++ s2 :: (b ++ rdnT U b l)) := by
  obtain ⟨a, t, rfl⟩ := List.exists_cons_of_ne_nil h
  simp [nameT, tailN]
theorem nameT_one (l : List Av) : nameT U b s2 [l] = rdnT U b l := by simp [nameT, tailN]
theorem rdnT_one (x : Av) : rdnT U b [x] = pt U b x := by simp [rdnT, tailR]
theorem midT_first (x : Av) : midT U b s2 [] [x] = nameT U b s2 [] ++ pt U b x := by
  rw [midT_all _ _ _ _ (by simp), List.nil_append, nameT_one, rdnT_one]; rfl
theorem midT_next (m : List (List Av)) (x : Av) (h : m ≠ []) : midT U b s2 m [x] = (nameT U b s2 m ++ (b ++ s2 :: b)) ++ pt U b x := by
  rw [midT_all _ _ _ _ (by simp), nameT_snoc _ _ _ _ _ h, rdnT_one]; simp
theorem midT_plus (m : List (List Av)) (r : List Av) (x : Av) (h : r ≠ []) : midT U b s2 m (r ++ [x]) = (midT U b s2 m r ++ (b ++ 43 :: b)) ++ pt U b x := by
  rw [midT_all _ _ _ _ (by simp), midT_all _ _ _ _ h]
  cases m with
  | nil => rw [List.nil_append, List.nil_append, nameT_one, nameT_one, rdnT_snoc _ _ _ _ h]; simp
  | cons a m => rw [nameT_snoc _ _ _ _ _ (by simp), nameT_snoc _ _ _ _ _ (by simp), rdnT_snoc _ _ _ _ h]; simp
end
/-- the pairs of each relative name in the other order -/
def turnN (turn : Bool) (n : List (List Av)) : List (List Av) := if turn = true then n.map List.reverse else n
def turnL (turn : Bool) (l : List Av) : List Av := if turn = true then l.reverse else l
theorem turnN_eq (turn : Bool) (n : List (List Av)) : turnN turn n = n.map (turnL turn) := by
  unfold turnN turnL
  cases turn with
  | true => simp
  | false => simp
theorem turnL_perm (turn : Bool) (l : List Av) : (turnL turn l).Perm l := by
  unfold turnL
  split
  · exact List.reverse_perm l
  · exact List.Perm.refl l
theorem turnL_len (turn : Bool) (l : List Av) : (turnL turn l).length = l.length := (turnL_perm turn l).length_eq
theorem rdnOK_distinct {l : List Av} : rdnOK l = true ↔ 1 ≤ l.length ∧ l.length ≤ 4 ∧ (∀ x ∈ l, typeOK x.t.data.toList = true ∧ valOK x.v.data.toList = true) ∧ l.Pairwise (fun x y => x.t.data.toList ≠ y.t.data.toList) := by
  constructor
  · intro h
    obtain ⟨h1, h2, h3⟩ := rdnOK_facts h
    refine ⟨h1, h2, rdnOK_av h, ?_⟩
    rw [List.pairwise_iff_getElem]
    intro i j hi hj hij he
    have := h3 j hj
    unfold pairB at this
    simp only [Bool.and_eq_true, Bool.not_eq_true'] at this
    have hb := (hasB_iff l j l[j].t).2 ⟨i, hi, hij, he⟩
    rw [hb] at this
    cases this.1.1
  · rintro ⟨h1, h2, h3, h4⟩
    refine (rdnOK_yes h1 h2 fun i hi => ?_).symm
    have hx := h3 l[i] (List.getElem_mem hi)
    unfold pairB
    have hb : hasB l i l[i].t = false := by
      rw [Bool.eq_false_iff]
      intro hb
      obtain ⟨j, hj, hji, he⟩ := (hasB_iff l i l[i].t).1 hb
      exact (List.pairwise_iff_getElem.1 h4) j i hj hi hji he
    rw [hb, hx.1, hx.2]; rfl
theorem rdnOK_perm {a b : List Av} (h : a.Perm b) (ha : rdnOK a = true) : rdnOK b = true := by
  rw [rdnOK_distinct] at ha ⊢
  obtain ⟨h1, h2, h3, h4⟩ := ha
  refine ⟨by rw [← h.length_eq]; exact h1, by rw [← h.length_eq]; exact h2, fun x hx => h3 x (h.mem_iff.2 hx), h.pairwise h4 fun h e => h e.symm⟩
theorem turnN_ok (turn : Bool) {n : List (List Av)} (h : nameOK n = true) : nameOK (turnN turn n) = true := by
  obtain ⟨h1, h2⟩ := nameOK_facts h
  unfold nameOK
  rw [turnN_eq, decide_eq_true (by rw [List.length_map]; exact h1)]
  simp only [Bool.true_and]
  refine List.all_eq_true.2 fun l hl => ?_
  obtain ⟨l', hl', rfl⟩ := List.mem_map.1 hl
  exact rdnOK_perm (turnL_perm turn l').symm (h2 l' hl')
theorem turnN_keys (turn : Bool) (n : List (List Av)) : keysB (turnN turn n) = keysB n := by
  unfold keysB
  rw [turnN_eq, ← List.map_reverse, List.map_map]
  apply List.map_congr_left
  intro l _
  simp only [Function.comp]
  rw [keyL_perm (turnL_perm turn l)]
theorem turnN_len (turn : Bool) (n : List (List Av)) : (turnN turn n).length = n.length := by rw [turnN_eq, List.length_map]
theorem under_turn (turn : Bool) {n : List (List Av)} (h : nameOK n = true) : underR n (turnN turn n) = true ∧ underR (turnN turn n) n = true ∧ sameR n (turnN turn n) = true ∧ sameR n n = true := by
  have hk := keysB_len n
  have a1 : underR n (turnN turn n) = true := by
    unfold underR
    rw [h, turnN_ok turn h, turnN_keys, turnN_len, List.take_of_length_le (by omega)]
    simp
  have a2 : underR (turnN turn n) n = true := by
    unfold underR
    rw [h, turnN_ok turn h, turnN_keys, turnN_len, List.take_of_length_le (by omega)]
    simp
  refine ⟨a1, a2, ?_, ?_⟩
  · unfold sameR
    rw [a1, turnN_len]; simp
  · unfold sameR underR
    rw [h, List.take_of_length_le (by omega)]
    simp
theorem same_bad {n : List (List Av)} (h : nameOK n = false) : sameR n n = false := by
  unfold sameR underR
  rw [h]; simp
/-- the text as the statement writes it -/
def wr2 (turn : Bool) (n : List (List Av)) : List UInt8 := nameT upL [32] 59 (turnN turn n)
theorem parse_wr2 (turn : Bool) {n : List (List Av)} (h : nameOK n = true) : parseR (wr2 turn n) = some (turnN turn n) := by
  have hok := turnN_ok turn h
  refine parse_text (by simp) (by decide) (by decide) _ hok fun l hl => ?_
  have hr := (nameOK_facts hok).2 l hl
  refine ⟨?_, fun x hx => tyAs_up (rdnOK_av hr x hx).1⟩
  rintro rfl
  have := (rdnOK_facts hr).1
  simp at this
end dnw
end Go.Proofs.YtjjbmhndakmkbaaDoor
