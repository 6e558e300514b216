/- Two lists kept apart: what each call does with both. -/
import Derived.Test.YtcmpepojokmhnaaPlayP
namespace Go.Proofs.Ytcmpepojokmhnaa
open Go.RowKit
namespace fre
set_option linter.unusedVariables false
set_option linter.unusedSimpArgs false
def Two (W w : World) (B p : Nat) (v : Value) (l : List Fre) (q : Nat) (s : Value) (m : List Fre) : Prop := Own W w B p v l ∧ IsRef w B q s m ∧ Apart p v q s
theorem two_below {W w w' : World} {B p q : Nat} {v s : Value} {l m : List Fre} (h : Two W w B p v l q s m) (hb : Below w.heap.size w w') : Two W w' B p v l q s m := ⟨own_below h.1 hb, isRef_below h.2.1 hb, h.2.2⟩
theorem two_add {W w : World} {B p q : Nat} {v s : Value} {l m : List Fre} (h : Two W w B p v l q s m) (c : Fre) (hn : l.length ≤ 90000) :
    Calls Try.prog 11 #[.pointer (some ⟨p, 0, none⟩), c.v] w fun e w' => e = .returned (.int .i64 (addP l c).2) ∧ ∃ v', Hid (Two W w' B p v' (addP l c).1 q s m) :=
  (own_add h.1 c hn).mono fun e w' ⟨he, v', hO, hs, ht⟩ => ⟨he, v', hO.out, ref_touch h.2.1 ht h.2.2, apart_x h.2.2 hs h.2.1⟩
theorem two_radd {W w : World} {B p q : Nat} {v s : Value} {l m : List Fre} (h : Two W w B p v l q s m) (c : Fre) (hn : m.length ≤ 900000) :
    Calls Try.prog 15 #[.pointer (some ⟨q, 0, none⟩), c.v] w fun e w' => e = .returned (.int .i64 (raddP m c).2) ∧ ∃ s', Hid (Two W w' B p v l q s' (raddP m c).1) :=
  (radd_any c w (Lib.hid h.2.1) hn h.1.2.2.2).mono fun e w' ⟨he, ⟨s', hR, hs⟩, ht⟩ => ⟨he, s', own_touchR h.1 h.2.1 ht h.2.2, hR, apart_r h.2.2 hs h.1⟩
theorem two_take {W w : World} {B p q : Nat} {v s : Value} {l m : List Fre} (h : Two W w B p v l q s m) (u : Int) :
    Calls Try.prog 12 #[.pointer (some ⟨p, 0, none⟩), .int .i64 u] w fun e w' => e = .returned (.tuple #[.int .i64 (takeP l u).2.1, .bool (takeP l u).2.2]) ∧ ∃ v', Hid (Two W w' B p v' (takeP l u).1 q s m) :=
  (own_take h.1 u).mono fun e w' ⟨he, v', hO, hs, ht⟩ => ⟨he, v', hO.out, ref_touch h.2.1 ht h.2.2, apart_x h.2.2 hs h.2.1⟩
theorem two_rtake {W w : World} {B p q : Nat} {v s : Value} {l m l0 : List Fre} (h : Two W w B p v l q s m) (u : Int) (hn : m.length ≤ 900000) (h0 : OkL l0) (hp : m.Perm l0) :
    Calls Try.prog 16 #[.pointer (some ⟨q, 0, none⟩), .int .i64 u] w fun e w' => e = .returned (.tuple #[.int .i64 (takeP l0 u).2.1, .bool (takeP l0 u).2.2]) ∧ ∃ s' m', Hid (Two W w' B p v l q s' m') ∧ Hid (m'.Perm (takeP l0 u).1) :=
  (rtake_any u w (Lib.hid h.2.1) hn h.1.2.2.2).mono fun e w' ⟨m', pg, ok, he, hT, ⟨s', hR, hs⟩, ht⟩ => by
    obtain ⟨h1, h2⟩ := take_law h0 hp hT
    rw [h1]
    exact ⟨he, s', m', ⟨own_touchR h.1 h.2.1 ht h.2.2, hR, apart_r h.2.2 hs h.1⟩, h2⟩
theorem two_copy {W w w1 : World} {B p q p' : Nat} {v s v' : Value} {l m : List Fre} (h : Two W w B p v l q s m) (hc : IsList w1 w.heap.size p' v' l) (hb : Below w.heap.size w w1) (u : Int) :
    Calls Try.prog 12 #[.pointer (some ⟨p, 0, none⟩), .int .i64 u] w1 fun e w' => (∃ x y, e = .returned (.tuple #[.int .i64 x, .bool y])) ∧ Hid (Two W w' B p' v' l q s m) :=
  (own_take (own_below h.1 hb) u).mono fun e w' ⟨he, v2, hO, hs, ht⟩ => ⟨⟨_, _, he⟩, copy_law h.1 h.2.1 h.2.2 hc hb ⟨v2, hO.out⟩ ht⟩
theorem below_drewR (w : World) (n : Nat) : Below w.heap.size w (w.drewN n) := below_drewN (Below.refl _ _) n
theorem two_has {W w : World} {B p q : Nat} {v s : Value} {l m : List Fre} (h : Two W w B p v l q s m) (hp : m.Perm l) (k : Int) (n : Nat) :
    Calls Try.prog 18 #[.pointer (some ⟨p, 0, none⟩), .int .i64 k] (w.drewN n) fun e w' => e = .returned (.bool (hasP m k)) ∧ w' = w.drewN n :=
  (has_any k (w.drewN n) (Lib.hid (isList_below h.1.1 (below_drewR w n))) (Lib.hid h.1.2.1)).mono fun e w' ⟨he, hw⟩ => ⟨by rw [he, hasP_perm hp], hw.symm⟩
theorem two_rhas {W w : World} {B p q : Nat} {v s : Value} {l m : List Fre} (h : Two W w B p v l q s m) (hn : m.length ≤ 900000) (k : Int) (n : Nat) :
    Calls Try.prog 19 #[.pointer (some ⟨q, 0, none⟩), .int .i64 k] (w.drewN n) fun e w' => e = .returned (.bool (hasP m k)) ∧ w' = w.drewN n :=
  (rhas_any k (w.drewN n) (Lib.hid (isRef_below h.2.1 (below_drewR w n))) (by omega)).mono fun e w' ⟨he, hw⟩ => ⟨he, hw.symm⟩
theorem two_count {W w : World} {B p q : Nat} {v s : Value} {l m : List Fre} (h : Two W w B p v l q s m) (hp : m.Perm l) (n : Nat) :
    Calls Try.prog 20 #[.pointer (some ⟨p, 0, none⟩)] (w.drewN n) fun e w' => e = .returned (.int .i64 (m.length : Int)) ∧ w' = w.drewN n :=
  (count_any (w.drewN n) (Lib.hid (isList_below h.1.1 (below_drewR w n)))).mono fun e w' ⟨he, hw⟩ => ⟨by rw [he, hp.length_eq], hw.symm⟩
theorem two_new {W w : World} (h : Own W w W.heap.size W.heap.size (.slice none 0 0) []) (hlt : W.heap.size < w.heap.size) : Two W (w.alloc (.cells #[.slice none 0 0] 41)) W.heap.size W.heap.size (.slice none 0 0) [] w.heap.size (.slice none 0 0) [] :=
  ⟨own_below h ((Below.refl _ _).alloc (Nat.le_refl _) _), ref_new W w _ h.2.2.2, ⟨by omega, (by intro e; cases e), (by intro e; cases e), (by intro k e; cases e)⟩⟩
end fre
end Go.Proofs.Ytcmpepojokmhnaa
