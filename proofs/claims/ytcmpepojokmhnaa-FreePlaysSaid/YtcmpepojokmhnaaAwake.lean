/- The walk of the example's check. -/
import Derived.Test.YtcmpepojokmhnaaTake
namespace Go.Proofs.Ytcmpepojokmhnaa
open Go.RowKit
namespace fre
set_option linter.unusedVariables false
/-- a list of the call's own, all of it from block B on, the world below as it was -/
def Own (W w : World) (B p : Nat) (v : Value) (l : List Fre) : Prop := IsList w B p v l ∧ OkL l ∧ Below B W w ∧ B ≤ w.heap.size
theorem own_touch {W w w' : World} {B p : Nat} {v v' : Value} {l l' : List Fre} (h : Own W w B p v l) (hl : IsList w' B p v' l') (hok : OkL l') (ht : Touch w w' p v) : Own W w' B p v' l' :=
  ⟨hl, hok, h.2.2.1.trans (touch_Below ht h.2.2.2 h.1.1 (fun k hk => (kt.segX_lt h.1.2.2.1 k hk).1)), Nat.le_trans h.2.2.2 ht.size⟩
theorem own_add {W w : World} {B p : Nat} {v : Value} {l : List Fre} (h : Own W w B p v l) (f : Fre) (hn : l.length ≤ 90000) :
    Calls Try.prog 11 #[.pointer (some ⟨p, 0, none⟩), f.v] w fun e w' => e = .returned (.int .i64 (addP l f).2) ∧ ∃ v', Hid (Own W w' B p v' (addP l f).1) ∧ kt.SameOrNew w v v' ∧ Touch w w' p v :=
  (add_any f w (Lib.hid h.1) (Lib.hid h.2.1.1) hn h.2.2.2).mono fun e w' ⟨he, ⟨v', hl, hs⟩, ht⟩ => ⟨he, v', own_touch h hl (okL_add f h.2.1) ht, hs, ht⟩
theorem own_take {W w : World} {B p : Nat} {v : Value} {l : List Fre} (h : Own W w B p v l) (u : Int) :
    Calls Try.prog 12 #[.pointer (some ⟨p, 0, none⟩), .int .i64 u] w fun e w' => e = .returned (.tuple #[.int .i64 (takeP l u).2.1, .bool (takeP l u).2.2]) ∧ ∃ v', Hid (Own W w' B p v' (takeP l u).1) ∧ kt.SameOrNew w v v' ∧ Touch w w' p v :=
  (take_any u w (Lib.hid h.1) (Lib.hid h.2.1)).mono fun e w' ⟨he, ⟨v', hl, hs⟩, ht⟩ => ⟨he, v', own_touch h hl (okL_take u h.2.1) ht, hs, ht⟩
theorem own_new (W : World) : Own W (W.alloc (.cells (lcells (.slice none 0 0) fun _ => false) 55)) W.heap.size W.heap.size (.slice none 0 0) [] :=
  ⟨⟨Nat.le_refl _, heap_alloc_last W _, kt.segX_nil _ _ _ _, (by intro h; cases h)⟩, ⟨List.Pairwise.nil, (fun f hf => by simp at hf), List.nodup_nil⟩, (Below.refl _ _).alloc (Nat.le_refl _) _, by rw [size1]; omega⟩
set_option maxHeartbeats 1000000 in
theorem awake_true (w : World) : Calls Try.prog 9 #[] w fun e w' => e = .returned (.bool true) ∧ Below w.heap.size w w' := by
  have N := Lib.hid new_any
  have a1 : addP [] ⟨7, 3⟩ = ([⟨7, 3⟩], 0) := by decide
  have a2 : addP [⟨7, 3⟩] ⟨5, 9⟩ = ([⟨5, 9⟩, ⟨7, 3⟩], 0) := by decide
  have t1 : takeP [⟨5, 9⟩, ⟨7, 3⟩] 6 = ([⟨7, 3⟩], 9, true) := by decide
  have t2 : takeP [⟨7, 3⟩] 6 = ([⟨7, 3⟩], 0, false) := by decide
  have t3 : takeP [⟨7, 3⟩] 7 = ([], 3, true) := by decide
  have A1 := fun (W w : World) (B p : Nat) (v : Value) (h : Own W w B p v []) => own_add h ⟨7, 3⟩ (by decide)
  have A2 := fun (W w : World) (B p : Nat) (v : Value) (h : Own W w B p v [⟨7, 3⟩]) => own_add h ⟨5, 9⟩ (by decide)
  have T1 := fun (W w : World) (B p : Nat) (v : Value) (h : Own W w B p v [⟨5, 9⟩, ⟨7, 3⟩]) => own_take h 6
  have T2 := fun (W w : World) (B p : Nat) (v : Value) (h : Own W w B p v [⟨7, 3⟩]) => own_take h 6
  have T3 := fun (W w : World) (B p : Nat) (v : Value) (h : Own W w B p v [⟨7, 3⟩]) => own_take h 7
  rw [a1] at A1
  rw [a2] at A2
  rw [t1] at T1
  rw [t2] at T2
  rw [t3] at T3
  unfold Fre.v at A1 A2
  dsimp only at A1 A2 T1 T2 T3
  have HA1 := Lib.hid A1
  have HA2 := Lib.hid A2
  have HT1 := Lib.hid T1
  have HT2 := Lib.hid T2
  have HT3 := Lib.hid T3
  have O0 := Lib.hid (own_new w)
  clear a1 a2 t1 t2 t3 A1 A2 T1 T2 T3
  go_enter Try.func9, Try.ntmps9
  go_wp2_with fail
  refine (N.out _).mono ?_
  rintro e w0 ⟨rfl, rfl⟩
  have hO0 := O0.out
  generalize w.alloc (.cells (lcells (.slice none 0 0) fun _ => false) 55) = w0 at hO0 ⊢
  have HO0 := Lib.hid hO0
  clear hO0 O0
  go_wp2_with fail
  refine (HA1.out _ _ _ _ _ HO0.out).mono ?_
  rintro e w1 ⟨rfl, v1, O1, _, _⟩
  go_wp2_with fail
  refine (HA2.out _ _ _ _ _ O1.out).mono ?_
  rintro e w2 ⟨rfl, v2, O2, _, _⟩
  go_wp2_with fail
  refine (HT1.out _ _ _ _ _ O2.out).mono ?_
  rintro e w3 ⟨rfl, v3, O3, _, _⟩
  go_wp2_with fail
  refine (HT2.out _ _ _ _ _ O3.out).mono ?_
  rintro e w4 ⟨rfl, v4, O4, _, _⟩
  go_wp2_with fail
  refine (HT3.out _ _ _ _ _ O4.out).mono ?_
  rintro e w5 ⟨rfl, v5, O5, _, _⟩
  go_wp2_with fail
  go_ret
  exact ⟨rfl, O5.out.2.2.1⟩
end fre
end Go.Proofs.Ytcmpepojokmhnaa
