/- The walks of Bytes, both; of long; of the example's check. -/
import Derived.Test.YtkeheaempbmmaaaSame
namespace Go.Proofs.Ytkeheaempbmmaaa
open Go.RowKit
namespace nod
/-- what Bytes answers -/
def BytesE (leaf : Bool) (l : List Cel) (e : Ending) : Prop := ∃ n : Nat, e = .returned (.int .i64 (n : Int)) ∧ ((Fit leaf l ∧ n = sum leaf l) ∨ (¬ Fit leaf l ∧ n = 0))
theorem bytes_one {leaf : Bool} {l : List Cel} {n m : Nat} (h : (Fit leaf l ∧ n = sum leaf l) ∨ (¬ Fit leaf l ∧ n = 0)) (k : (Fit leaf l ∧ m = sum leaf l) ∨ (¬ Fit leaf l ∧ m = 0)) : n = m := by
  rcases h with ⟨h1, rfl⟩ | ⟨h1, rfl⟩ <;> rcases k with ⟨k1, rfl⟩ | ⟨k1, rfl⟩ <;> first | rfl | exact absurd h1 k1 | exact absurd k1 h1
set_option maxHeartbeats 1000000 in
theorem bytes_any (leaf : Bool) (ao : Option Addr) (cap : Nat) (l : List Cel) (w : World) (hl : Hid (Cels w ao l)) (hs : Hid (∀ c ∈ l, c.key.size ≤ 1000000 ∧ c.val.size ≤ 1000000)) (hn : l.length ≤ 1000000) :
    Calls Try.prog 15 #[.bool leaf, .slice ao l.length cap] w fun e w' => BytesE leaf l e ∧ Below w.heap.size w w' := by
  have R := Lib.hid (right_any leaf ao cap l w hl hn)
  have S := Lib.hid (fun w' (h : Below w.heap.size w w') => sum_any leaf ao cap l w' (Lib.hid (cels_below hl.out h)) hs hn)
  go_enter Try.func15, Try.ntmps15
  go_wp2_with fail
  refine R.out.mono ?_
  rintro e w1 ⟨⟨b, rfl, hb⟩, hB1⟩
  have hb' := Lib.hid hb
  clear hb
  cases b with
  | false =>
    have HN : Hid (¬ Fit leaf l) := fun h => by have := hb'.out.2 h; cases this
    go_wp2_with fail
    go_ret
    exact ⟨⟨0, rfl, Or.inr ⟨HN.out, rfl⟩⟩, hB1⟩
  | true =>
    have HY : Hid (Fit leaf l) := hb'.out.1 rfl
    go_wp2_with fail
    refine (S.out w1 hB1).mono ?_
    rintro e w2 ⟨rfl, hB2⟩
    go_wp2_with fail
    go_ret
    exact ⟨⟨_, rfl, Or.inl ⟨HY.out, rfl⟩⟩, hB1.trans (hB2.mono hB1.size)⟩
set_option maxHeartbeats 1000000 in
theorem rbytes_any (leaf : Bool) (ao : Option Addr) (cap : Nat) (l : List Cel) (w : World) (hl : Hid (Cels w ao l)) (hs : Hid (∀ c ∈ l, c.key.size ≤ 1000000 ∧ c.val.size ≤ 1000000)) (hn : l.length ≤ 1000000) :
    Calls Try.prog 16 #[.bool leaf, .slice ao l.length cap] w fun e w' => BytesE leaf l e ∧ Below w.heap.size w w' := by
  have R := Lib.hid (rright_any leaf ao cap l w hl (fun c hc => (hs.out c hc).1) hn)
  have S := Lib.hid (fun w' (h : Below w.heap.size w w') => count_any leaf ao cap l w' (Lib.hid (cels_below hl.out h)) hs hn)
  go_enter Try.func16, Try.ntmps16
  go_wp2_with fail
  refine R.out.mono ?_
  rintro e w1 ⟨⟨b, rfl, hb⟩, hB1⟩
  have hb' := Lib.hid hb
  clear hb
  cases b with
  | false =>
    have HN : Hid (¬ Fit leaf l) := fun h => by have := hb'.out.2 h; cases this
    go_wp2_with fail
    go_ret
    exact ⟨⟨0, rfl, Or.inr ⟨HN.out, rfl⟩⟩, hB1⟩
  | true =>
    have HY : Hid (Fit leaf l) := hb'.out.1 rfl
    go_wp2_with fail
    refine (S.out w1 hB1).mono ?_
    rintro e w2 ⟨rfl, hB2⟩
    go_wp2_with fail
    go_ret
    exact ⟨⟨_, rfl, Or.inl ⟨HY.out, rfl⟩⟩, hB1.trans (hB2.mono hB1.size)⟩
/-- the chapter's example -/
def ex : Cel := ⟨⟨#[97]⟩, ⟨#[49]⟩, 0, 0, 0⟩
theorem ex_ok : ok true ex = true := by
  have h : okLeaf ex := by
    refine ⟨by rw [toList_nil]; decide, by decide, rfl, ?_⟩
    rw [if_pos (show ex.over = 0 from rfl)]
    exact ⟨rfl, by decide⟩
  exact decide_eq_true h
set_option maxHeartbeats 1000000 in
theorem awake_true (w : World) : Calls Try.prog 6 #[] w fun e w' => e = .returned (.bool true) ∧ Below w.heap.size w w' := by
  have hB0 : Below w.heap.size w (w.alloc (.cells #[.string { data := #[97] }, .string { data := #[49] }, .int .i64 0, .int .i64 0, .int .i64 0] 35)) := (Below.refl _ _).alloc (Nat.le_refl _) _
  have hc : Cels (w.alloc (.cells #[.string { data := #[97] }, .string { data := #[49] }, .int .i64 0, .int .i64 0, .int .i64 0] 35)) (some ⟨w.heap.size, 0, none⟩) [ex] := by
    intro i hi
    match i, hi with
    | 0, _ =>
      refine ⟨_, _, rfl, ?_, ?_, ?_, ?_, ?_⟩ <;> (rw [World.cell?_alloc_new]; rfl)
  have E := encode_any true (some ⟨w.heap.size, 0, none⟩) 1 [ex] (w.alloc (.cells #[.string { data := #[97] }, .string { data := #[49] }, .int .i64 0, .int .i64 0, .int .i64 0] 35)) hc (fun c hc => by
    simp at hc
    subst hc
    exact ⟨by decide, by decide⟩) (by simp)
  have EH := Lib.hid E
  clear E
  have HF : Hid (Fit true [ex]) := ⟨(fun h => by cases h), fun i hi => by
    match i, hi with
    | 0, _ => exact ⟨(show ok true ex = true from ex_ok), fun j hj _ => by omega⟩⟩
  have hen : encB true [ex] = { data := #[0, 1, 0, 4, 0, 1, 97, 0, 0, 1, 49] } := by decide
  have HE := Lib.hid hen
  clear hen hc
  go_enter Try.func6, Try.ntmps6
  go_wp2_with fail
  refine EH.out.mono ?_
  rintro e w1 ⟨⟨x, er, rfl, hA⟩, hB1⟩
  have hx : x = { data := #[0, 1, 0, 4, 0, 1, 97, 0, 0, 1, 49] } ∧ er = 0 := by
    rw [← HE.out]
    exact enc_one hA (Or.inr (Or.inr ⟨HF.out, by decide, rfl, rfl⟩))
  obtain ⟨rfl, rfl⟩ := hx
  clear hA
  go_wp2_with fail
  go_ret
  exact ⟨rfl, hB0.trans (hB1.mono hB0.size)⟩
end nod
end Go.Proofs.Ytkeheaempbmmaaa
