/- An entry that a call builds out of bytes: what lies where, what stays when another part grows. -/
import Derived.Test.YtcolcogobdgejaaGreatDoorYRPack
import Derived.Test.YtcolcogobdgejaaGreatDoorC9
import Derived.Test.YtcolcogobdgejaaGreatDoorYRead
/-! PackQ -/
namespace Go.Proofs.YtcolcogobdgejaaGreatDoor
namespace etp
open atp atw
set_option linter.unusedVariables false
set_option linter.unusedSimpArgs false
open dnw (Av)
def SmallE (e : En) : Prop := e.rdn.length ≤ 255 ∧ e.ats.length ≤ 255 ∧ ∀ a ∈ e.ats, a.vs.length ≤ 255
def UnpE (s : List UInt8) (r : Except Int En) : Prop := (∀ e, r = .ok e → packE e = .ok s ∧ SmallE e) ∧ (∀ e, packE e = .ok s → SmallE e → r = .ok e) ∧ (∀ x, r = .error x → x = 4)
theorem unp_same {s : List UInt8} {r q : Except Int En} (h1 : UnpE s r) (h2 : UnpE s q) : r = q := by
 cases r with
 | ok e => exact (h2.2.1 e (h1.1 e rfl).1 (h1.1 e rfl).2).symm
 | error x =>
  cases q with
  | ok e =>
   have := h1.2.1 e (h2.1 e rfl).1 (h2.1 e rfl).2
   cases this
  | error y => rw [h1.2.2 x rfl, h2.2.2 y rfl]
def None_ (s : List UInt8) : Prop := ∀ e, packE e = .ok s → SmallE e → False
theorem unp_none {s : List UInt8} (h : None_ s) : UnpE s (.error 4) := ⟨fun e he => (by cases he), fun e h1 h2 => (h e h1 h2).elim, fun x hx => (by cases hx; rfl)⟩
theorem drop_more {L a b : List UInt8} {k n : Nat} (h : L.drop k = a ++ b) (hn : n = a.length) : L.drop (k + n) = b := by
 rw [← List.drop_drop, h, hn, List.drop_left]
theorem txt_take {L rest : List UInt8} {k : Nat} {s : ByteArray} (h : L.drop k = txt s ++ rest) (hL : L.length ≤ 4000) :
  fld.takeT L (k : Int) = .ok (s.data.toList, k + 2 + s.size) ∧ L.drop (k + 2 + s.size) = rest := by
 have hlen : L.length - k = 2 + s.size + rest.length := by
  have := congrArg List.length h
  rw [List.length_drop, List.length_append, txt_len] at this
  exact this
 have h2 : (L.drop k).take 2 = fld.be s.size 2 := by
  rw [h]
  unfold txt
  rw [List.append_assoc, List.take_append_of_le_length (by rw [fld.be_length]; exact Nat.le_refl _), List.take_of_length_le (by rw [fld.be_length]; exact Nat.le_refl _)]
 have ht : fld.take L (k : Int) 2 = .ok s.size := by
  unfold fld.take
  rw [if_neg (by omega), if_neg (by omega), Int.toNat_natCast, show (2 : Int).toNat = 2 from rfl, h2, fld.num_be, Nat.mod_eq_of_lt (by omega)]
 refine ⟨?_, ?_⟩
 ·unfold fld.takeT
  rw [ht]
  simp only [Int.toNat_natCast]
  rw [if_neg (by omega)]
  have e1 : L.drop (k + 2) = s.data.toList ++ rest := by
   refine drop_more (a := fld.be s.size 2) ?_ (by rw [fld.be_length])
   rw [h]; unfold txt; rw [List.append_assoc]
  rw [e1, List.take_append_of_le_length (by rw [kt.size_len]; exact Nat.le_refl _), List.take_of_length_le (by rw [kt.size_len]; exact Nat.le_refl _)]
 ·rw [Nat.add_assoc]
  exact drop_more h (by rw [txt_len])
theorem cnt_take {L rest : List UInt8} {k : Nat} {c : UInt8} (h : L.drop k = c :: rest) : fld.take L (k : Int) 1 = .ok c.toNat ∧ L.drop (k + 1) = rest ∧ L[k]? = some c := by
 have hlen : L.length - k = 1 + rest.length := by
  have := congrArg List.length h
  rw [List.length_drop, List.length_cons] at this
  omega
 refine ⟨?_, drop_more (a := [c]) h rfl, ?_⟩
 ·unfold fld.take
  rw [if_neg (by omega), if_neg (by omega), Int.toNat_natCast, show (1 : Int).toNat = 1 from rfl, h]
  simp [fld.num]
 ·have : (L.drop k)[0]? = some c := by rw [h]; rfl
  rw [List.getElem?_drop] at this
  exact this
def InvR (s : List UInt8) (bad : Bool) (k : Int) (n : Int) (l : List Av) : Prop :=
 ∀ e, packE e = .ok s → SmallE e → ∃ r, e.rdn = l ++ r ∧ n = (r.length : Int) ∧ bad = false ∧ 0 ≤ k ∧ s.drop k.toNat = encR r ++ (UInt8.ofNat e.ats.length :: encL e.ats)
def InvA (s : List UInt8) (bad : Bool) (k : Int) (n : Int) (rd : List Av) (l : List At) : Prop :=
 ∀ e, packE e = .ok s → SmallE e → ∃ r, e.rdn = rd ∧ e.ats = l ++ r ∧ n = (r.length : Int) ∧ bad = false ∧ 0 ≤ k ∧ s.drop k.toNat = encL r
def InvV (s : List UInt8) (bad : Bool) (k : Int) (n m : Int) (rd : List Av) (l : List At) (t : ByteArray) (vs : List ByteArray) : Prop :=
 ∀ e, packE e = .ok s → SmallE e → ∃ r u, e.rdn = rd ∧ e.ats = l ++ ⟨t, vs ++ u⟩ :: r ∧ n = (r.length : Int) + 1 ∧ m = (u.length : Int) ∧ bad = false ∧ 0 ≤ k ∧ s.drop k.toNat = encV u ++ encL r
theorem invR_none {s : List UInt8} (h : None_ s) (bad : Bool) (k n : Int) (l : List Av) : InvR s bad k n l := fun e h1 h2 => (h e h1 h2).elim
theorem invA_none {s : List UInt8} (h : None_ s) (bad : Bool) (k n : Int) (rd : List Av) (l : List At) : InvA s bad k n rd l := fun e h1 h2 => (h e h1 h2).elim
theorem invV_none {s : List UInt8} (h : None_ s) (bad : Bool) (k n m : Int) (rd : List Av) (l : List At) (t : ByteArray) (vs : List ByteArray) : InvV s bad k n m rd l t vs := fun e h1 h2 => (h e h1 h2).elim
theorem pack_ne {s : List UInt8} {e : En} (h : packE e = .ok s) : s ≠ [] := by
 obtain ⟨_, h2, _⟩ := pack_ok h
 rw [← h2]
 exact List.cons_ne_nil _ _
theorem invR_start {s : List UInt8} {c : Nat} (h : fld.take s 0 1 = .ok c) : InvR s false 1 (c : Int) [] := by
 intro e h1 h2
 obtain ⟨_, h3, _⟩ := pack_ok h1
 have hd : s.drop 0 = UInt8.ofNat e.rdn.length :: (encR e.rdn ++ (UInt8.ofNat e.ats.length :: encL e.ats)) := by rw [List.drop_zero, ← h3]; rfl
 obtain ⟨g1, g2, _⟩ := cnt_take hd
 rw [show ((0 : Nat) : Int) = 0 from rfl, h] at g1
 cases g1
 exact ⟨e.rdn, rfl, by rw [ofNat_toNat h2.1], rfl, by omega, g2⟩
theorem start_none {s : List UInt8} {x : Int} (h : fld.take s 0 1 = .error x) : None_ s := by
 intro e h1 h2
 obtain ⟨_, h3, _⟩ := pack_ok h1
 have hd : s.drop 0 = UInt8.ofNat e.rdn.length :: (encR e.rdn ++ (UInt8.ofNat e.ats.length :: encL e.ats)) := by rw [List.drop_zero, ← h3]; rfl
 obtain ⟨g1, g2, _⟩ := cnt_take hd
 rw [show ((0 : Nat) : Int) = 0 from rfl, h] at g1
 cases g1
theorem invR_bad {s : List UInt8} {k n : Int} {l : List Av} (h : InvR s true k n l) : None_ s := by
 intro e h1 h2
 obtain ⟨_, _, _, h3, _⟩ := h e h1 h2
 cases h3
theorem invA_bad {s : List UInt8} {k n : Int} {rd : List Av} {l : List At} (h : InvA s true k n rd l) : None_ s := by
 intro e h1 h2
 obtain ⟨_, _, _, _, h3, _⟩ := h e h1 h2
 cases h3
theorem invV_bad {s : List UInt8} {k n m : Int} {rd : List Av} {l : List At} {t : ByteArray} {vs : List ByteArray} (h : InvV s true k n m rd l t vs) : None_ s := by
 intro e h1 h2
 obtain ⟨_, _, _, _, _, _, h3, _⟩ := h e h1 h2
 cases h3
theorem cons_of {α : Type} {r : List α} {n : Int} (h : n = (r.length : Int)) (hn : 0 < n) : ∃ x t, r = x :: t ∧ n - 1 = (t.length : Int) := by
 cases r with
 | nil => simp at h; omega
 | cons x t => exact ⟨x, t, rfl, by simp at h; omega⟩
theorem invR_text {s : List UInt8} {bad : Bool} {k n : Int} {l : List Av} (h : InvR s bad k n l) (hn : 0 < n) :
  (∀ x, fld.takeT s k = .error x → None_ s) ∧ ∀ t p, fld.takeT s k = .ok (t, p) → (∀ x, fld.takeT s (p : Int) = .error x → None_ s) ∧ ∀ v q, fld.takeT s (p : Int) = .ok (v, q) → InvR s bad (q : Int) (n - 1) (l ++ [⟨⟨t.toArray⟩, ⟨v.toArray⟩⟩]) := by
 have key : ∀ e, packE e = .ok s → SmallE e → ∃ a r p q, e.rdn = l ++ a :: r ∧ n - 1 = (r.length : Int) ∧ bad = false ∧ fld.takeT s k = .ok (a.t.data.toList, p) ∧ fld.takeT s (p : Int) = .ok (a.v.data.toList, q) ∧ s.drop q = encR r ++ (UInt8.ofNat e.ats.length :: encL e.ats) := by
  intro e h1 h2
  obtain ⟨r, g1, g2, g3, g4, g5⟩ := h e h1 h2
  obtain ⟨_, _, hL⟩ := pack_ok h1
  obtain ⟨a, r, rfl, g6⟩ := cons_of g2 hn
  have e1 : s.drop k.toNat = txt a.t ++ (txt a.v ++ (encR r ++ (UInt8.ofNat e.ats.length :: encL e.ats))) := by
   rw [g5]; unfold encR; simp [List.flatMap_cons]
  obtain ⟨t1, t2⟩ := txt_take e1 hL
  obtain ⟨t3, t4⟩ := txt_take t2 hL
  rw [Int.toNat_of_nonneg g4] at t1
  exact ⟨a, r, _, _, g1, g6, g3, t1, t3, t4⟩
 refine ⟨fun x hx e h1 h2 => ?_, fun t p htp => ⟨fun x hx e h1 h2 => ?_, fun v q hvq e h1 h2 => ?_⟩⟩
 ·obtain ⟨a, r, p, q, _, _, _, t1, _⟩ := key e h1 h2
  rw [hx] at t1; cases t1
 ·obtain ⟨a, r, p', q, _, _, _, t1, t2, _⟩ := key e h1 h2
  rw [htp] at t1; cases t1
  rw [hx] at t2; cases t2
 ·obtain ⟨a, r, p', q', g1, g2, g3, t1, t2, t3⟩ := key e h1 h2
  rw [htp] at t1; cases t1
  rw [hvq] at t2; cases t2
  refine ⟨r, ?_, g2, g3, by omega, by rw [Int.toNat_natCast]; exact t3⟩
  rw [g1, List.append_assoc]
  rfl
theorem invR_cnt {s : List UInt8} {bad : Bool} {k n : Int} {l : List Av} (h : InvR s bad k n l) (hn : ¬ 0 < n) :
  (∀ x, fld.take s k 1 = .error x → None_ s) ∧ ∀ c, fld.take s k 1 = .ok c → InvA s bad (k + 1) (c : Int) l [] := by
 have key : ∀ e, packE e = .ok s → SmallE e → e.rdn = l ∧ bad = false ∧ 0 ≤ k ∧ fld.take s k 1 = .ok e.ats.length ∧ s.drop (k + 1).toNat = encL e.ats := by
  intro e h1 h2
  obtain ⟨r, g1, g2, g3, g4, g5⟩ := h e h1 h2
  have hr : r = [] := List.eq_nil_of_length_eq_zero (by omega)
  subst hr
  have e1 : s.drop k.toNat = UInt8.ofNat e.ats.length :: encL e.ats := by rw [g5]; rfl
  obtain ⟨t1, t2, _⟩ := cnt_take e1
  rw [Int.toNat_of_nonneg g4, ofNat_toNat h2.2.1] at t1
  exact ⟨by simpa using g1, g3, g4, t1, by rw [show (k + 1).toNat = k.toNat + 1 by omega]; exact t2⟩
 refine ⟨fun x hx e h1 h2 => ?_, fun c hc e h1 h2 => ?_⟩
 ·obtain ⟨_, _, _, t, _⟩ := key e h1 h2
  rw [hx] at t; cases t
 ·obtain ⟨g1, g2, g3, t, g4⟩ := key e h1 h2
  rw [hc] at t; cases t
  exact ⟨e.ats, g1, rfl, rfl, g2, by omega, g4⟩
theorem invA_head {s : List UInt8} {bad : Bool} {k n : Int} {rd : List Av} {l : List At} (h : InvA s bad k n rd l) (hn : 0 < n) :
  (∀ x, fld.takeT s k = .error x → None_ s) ∧ ∀ t p, fld.takeT s k = .ok (t, p) → (∀ x, fld.take s (p : Int) 1 = .error x → None_ s) ∧ ∀ c, fld.take s (p : Int) 1 = .ok c → InvV s bad ((p : Int) + 1) n (c : Int) rd l ⟨t.toArray⟩ [] := by
 have key : ∀ e, packE e = .ok s → SmallE e → ∃ a r p, e.rdn = rd ∧ e.ats = l ++ a :: r ∧ n - 1 = (r.length : Int) ∧ bad = false ∧ fld.takeT s k = .ok (a.t.data.toList, p) ∧ fld.take s (p : Int) 1 = .ok a.vs.length ∧ s.drop (p + 1) = encV a.vs ++ encL r := by
  intro e h1 h2
  obtain ⟨r, g0, g1, g2, g3, g4, g5⟩ := h e h1 h2
  obtain ⟨_, _, hL⟩ := pack_ok h1
  obtain ⟨a, r, rfl, g6⟩ := cons_of g2 hn
  have e1 : s.drop k.toNat = txt a.t ++ (UInt8.ofNat a.vs.length :: (encV a.vs ++ encL r)) := by
   rw [g5]; unfold encL encA; simp [List.flatMap_cons]
  obtain ⟨t1, t2⟩ := txt_take e1 hL
  obtain ⟨t3, t4, _⟩ := cnt_take t2
  rw [Int.toNat_of_nonneg g4] at t1
  rw [ofNat_toNat (h2.2.2 a (by rw [g1]; simp))] at t3
  exact ⟨a, r, _, g0, g1, g6, g3, t1, t3, t4⟩
 refine ⟨fun x hx e h1 h2 => ?_, fun t p htp => ⟨fun x hx e h1 h2 => ?_, fun c hc e h1 h2 => ?_⟩⟩
 ·obtain ⟨a, r, p, _, _, _, _, t1, _⟩ := key e h1 h2
  rw [hx] at t1; cases t1
 ·obtain ⟨a, r, p', _, _, _, _, t1, t2, _⟩ := key e h1 h2
  rw [htp] at t1; cases t1
  rw [hx] at t2; cases t2
 ·obtain ⟨a, r, p', g0, g1, g2, g3, t1, t2, t3⟩ := key e h1 h2
  rw [htp] at t1; cases t1
  rw [hc] at t2; cases t2
  refine ⟨r, a.vs, g0, ?_, by omega, rfl, g3, by omega, by rw [show ((p : Int) + 1).toNat = p + 1 by omega]; exact t3⟩
  rw [g1]
  rfl
theorem invV_text {s : List UInt8} {bad : Bool} {k n m : Int} {rd : List Av} {l : List At} {t : ByteArray} {vs : List ByteArray} (h : InvV s bad k n m rd l t vs) (hm : 0 < m) :
  (∀ x, fld.takeT s k = .error x → None_ s) ∧ ∀ v q, fld.takeT s k = .ok (v, q) → InvV s bad (q : Int) n (m - 1) rd l t (vs ++ [⟨v.toArray⟩]) := by
 have key : ∀ e, packE e = .ok s → SmallE e → ∃ v u r q, e.rdn = rd ∧ e.ats = l ++ ⟨t, vs ++ v :: u⟩ :: r ∧ n = (r.length : Int) + 1 ∧ m - 1 = (u.length : Int) ∧ bad = false ∧ fld.takeT s k = .ok (v.data.toList, q) ∧ s.drop q = encV u ++ encL r := by
  intro e h1 h2
  obtain ⟨r, u, g0, g1, g2, g3, g4, g5, g6⟩ := h e h1 h2
  obtain ⟨_, _, hL⟩ := pack_ok h1
  obtain ⟨v, u, rfl, g7⟩ := cons_of g3 hm
  have e1 : s.drop k.toNat = txt v ++ (encV u ++ encL r) := by
   rw [g6]; unfold encV; simp [List.flatMap_cons]
  obtain ⟨t1, t2⟩ := txt_take e1 hL
  rw [Int.toNat_of_nonneg g5] at t1
  exact ⟨v, u, r, _, g0, g1, g2, g7, g4, t1, t2⟩
 refine ⟨fun x hx e h1 h2 => ?_, fun v q hvq e h1 h2 => ?_⟩
 ·obtain ⟨_, _, _, q, _, _, _, _, _, t1, _⟩ := key e h1 h2
  rw [hx] at t1; cases t1
 ·obtain ⟨v', u, r, q', g0, g1, g2, g3, g4, t1, t2⟩ := key e h1 h2
  rw [hvq] at t1; cases t1
  refine ⟨r, u, g0, ?_, g2, g3, g4, by omega, by rw [Int.toNat_natCast]; exact t2⟩
  rw [g1, List.append_assoc]
  rfl
theorem invV_done {s : List UInt8} {bad : Bool} {k n m : Int} {rd : List Av} {l : List At} {t : ByteArray} {vs : List ByteArray} (h : InvV s bad k n m rd l t vs) (hm : ¬ 0 < m) : InvA s bad k (n - 1) rd (l ++ [⟨t, vs⟩]) := by
 intro e h1 h2
 obtain ⟨r, u, g0, g1, g2, g3, g4, g5, g6⟩ := h e h1 h2
 have hu : u = [] := List.eq_nil_of_length_eq_zero (by omega)
 subst hu
 refine ⟨r, g0, ?_, by omega, g4, g5, by rw [g6]; rfl⟩
 rw [g1, List.append_nil, List.append_assoc]
 rfl
theorem invA_done {s : List UInt8} {bad : Bool} {k n : Int} {rd : List Av} {l : List At} (h : InvA s bad k n rd l) (hn : ¬ 0 < n) : ∀ e, packE e = .ok s → SmallE e → e = ⟨rd, l⟩ := by
 intro e h1 h2
 obtain ⟨r, g0, g1, g2, _⟩ := h e h1 h2
 have hr : r = [] := List.eq_nil_of_length_eq_zero (by omega)
 subst hr
 cases e
 simp at g0 g1
 rw [g0, g1]
theorem unp_yes {s : List UInt8} {e : En} (h : ∀ x, packE x = .ok s → SmallE x → x = e) (h1 : packE e = .ok s) (h2 : SmallE e) : UnpE s (.ok e) := ⟨fun x hx => (by cases hx; exact ⟨h1, h2⟩), fun x k1 k2 => by rw [h x k1 k2], fun x hx => (by cases hx)⟩
theorem none_of {s : List UInt8} {e : En} (h : ∀ x, packE x = .ok s → SmallE x → x = e) (h1 : packE e ≠ .ok s) : None_ s := fun x k1 k2 => h1 (by rw [← h x k1 k2]; exact k1)
end etp
end Go.Proofs.YtcolcogobdgejaaGreatDoor
/-! UnpM -/
namespace Go.Proofs.YtcolcogobdgejaaGreatDoor
open Go.RowKit
namespace etw
open atp atw etp
open dnw (Av Avas)
open tupw (Strs strs_below)
set_option linter.unusedVariables false
set_option linter.unusedSimpArgs false
def SR (w : World) (B : Nat) (v : Value) (l : List ByteArray) : Prop := kt.SegX w B 9 1 v l.length (prw.scells l)
def AR (w : World) (B : Nat) (v : Value) (l : List Av) : Prop := kt.SegX w B 62 2 v l.length (l.flatMap avc)
def TR (w : World) (B : Nat) (v : Value) (l : List AV) : Prop := kt.SegX w B 57 2 v l.length (l.flatMap acell)
theorem seg_ne {w : World} {B n : Nat} {e T : TypeId} {sz p : Nat} {v : Value} {xs : List Value} {cs : Array Value} {f : Nat × Nat} (h : kt.SegX w B e sz v n xs) (hp : w.heap[p]? = some (.cells cs T f)) (ht : T ≠ e) : v.ownBlock ≠ some p := by
 rcases h.2 with ⟨rfl, _⟩ | ⟨g, o, cap, pre, post, rfl, _, hg, _⟩
 ·intro e1; cases e1
 ·intro e1
  have : g = p := by simpa [Value.ownBlock] using e1
  subst this
  rw [hg] at hp
  have := Option.some.inj hp
  injection this with _ h2 _
  exact ht h2.symm
theorem seg_diff {w : World} {B C n m : Nat} {e T : TypeId} {sz tz : Nat} {v u : Value} {xs ys : List Value} (h : kt.SegX w B e sz v n xs) (h2 : kt.SegX w C T tz u m ys) (ht : T ≠ e) : ∀ k, u.ownBlock = some k → v.ownBlock ≠ some k := by
 intro k hk
 rcases h2.2 with ⟨rfl, _⟩ | ⟨g, o, cap, pre, post, rfl, _, hg, _⟩
 ·cases hk
 ·have : g = k := by simpa [Value.ownBlock] using hk
  subst this
  exact seg_ne h hg ht
theorem seg_grown {w w' : World} {B n : Nat} {e : TypeId} {sz : Nat} {v : Value} {xs : List Value} {row : Option Nat} (h : kt.SegX w B e sz v n xs) (hg : w.grownBy w' row) (hne : ∀ k, v.ownBlock = some k → row ≠ some k) : kt.SegX w' B e sz v n xs :=
 kt.segX_same h fun k hk => hg.block k (kt.segX_lt h k hk).2 (fun e1 => hne k hk e1.symm)
theorem seg_set {w : World} {B n : Nat} {e : TypeId} {sz p j : Nat} {v u : Value} {xs : List Value} (h : kt.SegX w B e sz v n xs) (hne : v.ownBlock ≠ some p) : kt.SegX (w.setCell ⟨p, j, none⟩ u) B e sz v n xs :=
 kt.segX_same h fun k hk => Below.heap_setCell _ _ _ _ (fun e1 => hne (by rw [hk]; exact congrArg some e1))
structure Un (w : World) (B q : Nat) (l : List Av) (la : List AV) (rv av : Value) : Prop where
 hB : B ≤ q
 eb : EntB w q rv av
 rr : AR w B rv l
 aa : TR w B av la
 inn : ∀ x ∈ la, SR w B x.2 x.1.vs
structure Cu (w : World) (B a : Nat) (t : ByteArray) (xv : Value) (vs : List ByteArray) (la : List AV) (av : Value) : Prop where
 hB : B ≤ a
 ab : AttrB w a t xv
 rr : SR w B xv vs
 ne : av.ownBlock ≠ some a
 df : ∀ x ∈ la, ∀ k, x.2.ownBlock = some k → xv.ownBlock ≠ some k
def KU (q : Nat) (w w' : World) : Prop := ∀ (k : Nat) (cs : Array Value) (T : TypeId) (f : Nat × Nat), w.heap[k]? = some (.cells cs T f) → T ≠ 62 → T ≠ 57 → T ≠ 9 → k ≠ q → w'.heap[k]? = some (.cells cs T f)
theorem ku_rb {w w' : World} {q p : Nat} {s : ByteArray} {k : Int} {b : Bool} (h : RB w p s k b) (hk : KU q w w') (hp : p ≠ q) : RB w' p s k b := hk p _ _ _ h (by decide) (by decide) (by decide) hp
theorem ku_ent {w w' : World} {q p : Nat} {r a : Value} (h : EntB w p r a) (hk : KU q w w') (hp : p ≠ q) : EntB w' p r a := hk p _ _ _ h (by decide) (by decide) (by decide) hp
theorem un_below {w w' : World} {B q : Nat} {l : List Av} {la : List AV} {rv av : Value} (h : Un w B q l la rv av) (hb : Below w.heap.size w w') : Un w' B q l la rv av :=
 ⟨h.hB, entB_below h.eb hb, kt.segX_below h.rr hb, kt.segX_below h.aa hb, fun x hx => kt.segX_below (h.inn x hx) hb⟩
theorem cu_below {w w' : World} {B a : Nat} {t : ByteArray} {xv av : Value} {vs : List ByteArray} {la : List AV} (h : Cu w B a t xv vs la av) (hb : Below w.heap.size w w') : Cu w' B a t xv vs la av :=
 ⟨h.hB, attrB_below h.ab hb, kt.segX_below h.rr hb, h.ne, h.df⟩
theorem un_read {w w' : World} {B q p : Nat} {l : List Av} {la : List AV} {rv av : Value} {s : ByteArray} {k : Int} {b : Bool} (h : Un w B q l la rv av) (hp : RB w p s k b) (hg : w.grownBy w' (some p)) : Un w' B q l la rv av := by
 have hq : q ≠ p := by
  rintro rfl
  have := h.eb.symm.trans hp
  have := Option.some.inj this
  injection this with _ h2 _
  exact absurd h2 (by decide)
 have key : ∀ {e : TypeId} {sz n : Nat} {v : Value} {xs : List Value}, 115 ≠ e → kt.SegX w B e sz v n xs → kt.SegX w' B e sz v n xs := fun he hs => seg_grown hs hg (fun k hk e1 => by
  have := Option.some.inj e1
  subst this
  exact seg_ne hs hp he hk)
 exact ⟨h.hB, (hg.block q (kt.bld_lt h.eb) (fun e1 => hq (Option.some.inj e1))).trans h.eb, key (by decide) h.rr, key (by decide) h.aa, fun x hx => key (by decide) (h.inn x hx)⟩
theorem cu_read {w w' : World} {B a p : Nat} {t : ByteArray} {xv av : Value} {vs : List ByteArray} {la : List AV} {s : ByteArray} {k : Int} {b : Bool} (h : Cu w B a t xv vs la av) (hp : RB w p s k b) (hg : w.grownBy w' (some p)) : Cu w' B a t xv vs la av := by
 have hq : a ≠ p := by
  rintro rfl
  have := h.ab.symm.trans hp
  have := Option.some.inj this
  injection this with _ h2 _
  exact absurd h2 (by decide)
 refine ⟨h.hB, (hg.block a (kt.bld_lt h.ab) (fun e1 => hq (Option.some.inj e1))).trans h.ab, seg_grown h.rr hg (fun k hk e1 => ?_), h.ne, h.df⟩
 have := Option.some.inj e1
 subst this
 exact seg_ne h.rr hp (by decide) hk
theorem ent_read {w w' : World} {q p : Nat} {r a : Value} {s : ByteArray} {k : Int} {b : Bool} (h : EntB w q r a) (hp : RB w p s k b) (hg : w.grownBy w' (some p)) : EntB w' q r a := by
 refine (hg.block q (kt.bld_lt h) (fun e1 => ?_)).trans h
 have := Option.some.inj e1
 subst this
 have := h.symm.trans hp
 have := Option.some.inj this
 injection this with _ h2 _
 exact absurd h2 (by decide)
theorem below_grown {B0 p : Nat} {w0 w w' : World} (h : Below B0 w0 w) (hg : w.grownBy w' (some p)) (hp : B0 ≤ p) (hB : B0 ≤ w.heap.size) : Below B0 w0 w' :=
 h.trans ((Below.refl B0 w).grown hg hB (fun k hk => by cases hk; exact hp))
theorem ku_app {w w7 : World} {q j B n : Nat} {e : TypeId} {sz : Nat} {v u : Value} {xs : List Value} (hs : kt.SegX w B e sz v n xs) (he : e = 62 ∨ e = 57 ∨ e = 9) (ws : World) (ha : Below w.heap.size w ws) (hg : ws.grownBy w7 v.ownBlock) : KU q w (w7.setCell ⟨q, j, none⟩ u) := by
 intro k cs T f hk h1 h2 h3 hq
 have hlt := kt.bld_lt hk
 rw [Below.heap_setCell _ _ _ _ (fun e1 => hq (by rw [e1]))]
 rw [hg.block k (Nat.lt_of_lt_of_le hlt ha.size) (fun e1 => ?_), ha.block k hlt, hk]
 exact seg_ne hs hk (by rcases he with rfl | rfl | rfl <;> assumption) e1.symm
theorem un_pair {w : World} {B q : Nat} {l : List Av} {la : List AV} {rv av : Value} (h : Un w B q l la rv av) (x : Av) (hl : l.length ≤ 1000) :
  ∃ ao m cap w7, (Builtin.append_ #[22, 22] 22 #[rv, .slice (some ⟨w.heap.size, 0, none⟩) 1 1]).run Tryz.prog (w.alloc (.cells #[.string x.t, .string x.v] 62)) = .ok (.slice ao m cap) w7 ∧
   w7.frozen? ⟨q, 0, none⟩ = false ∧ w7.cell? ⟨q, 0, none⟩ = some rv ∧ Un (w7.setCell ⟨q, 0, none⟩ (.slice ao m cap)) B q (l ++ [x]) la (.slice ao m cap) av ∧ Below B w (w7.setCell ⟨q, 0, none⟩ (.slice ao m cap)) ∧ KU q w (w7.setCell ⟨q, 0, none⟩ (.slice ao m cap)) := by
 have hA : Below w.heap.size w (w.alloc (.cells #[.string x.t, .string x.v] 62)) := (Below.refl _ _).alloc (Nat.le_refl _) _
 have hn := un_below h hA
 have hBw : B ≤ w.heap.size := Nat.le_trans h.hB (Nat.le_of_lt (kt.bld_lt h.eb))
 obtain ⟨v', w7, h1, h2, h3, h4⟩ := kt.segX_append (P := Tryz.prog) (t := 22) (ty := 22) Tryz.underlying22 infoAv rfl (by omega) ⟨w.heap.size, 0, none⟩ 1 1 (avc x) rfl (fun j u hj => by
   rw [kt.addr_add, World.cell?_alloc_new]
   simpa [avc] using hj) (by intro u hu; simp [avc] at hu; rcases hu with rfl | rfl <;> rfl) hn.rr (by unfold maxLen; omega) (by omega) (Nat.le_trans hBw hA.size)
 obtain ⟨ao, cap, rfl, hc⟩ := kt.segX_slice h2
 have hq : rv.ownBlock ≠ some q := seg_ne hn.rr hn.eb (by decide)
 have he : EntB w7 q rv av := (h3.block q (kt.bld_lt hn.eb) (fun e1 => hq e1.symm)).trans hn.eb
 have h2' : AR w7 B (.slice ao (l.length + 1) cap) (l ++ [x]) := by
  unfold AR
  rw [List.length_append, List.flatMap_append]
  simpa using h2
 have hq7 : (Value.slice ao (l.length + 1) cap).ownBlock ≠ some q := seg_ne h2' he (by decide)
 have haa : TR w7 B av la := seg_grown hn.aa h3 (fun k hk e1 => seg_diff hn.rr hn.aa (by decide) k hk e1)
 have hin : ∀ y ∈ la, SR w7 B y.2 y.1.vs := fun y hy => seg_grown (hn.inn y hy) h3 (fun k hk e1 => seg_diff hn.rr (hn.inn y hy) (by decide) k hk e1)
 refine ⟨ao, _, cap, w7, h1, Lib.frozen_of_heap he 0, (entB_cells he).1, ⟨h.hB, entB_set0 he _, seg_set h2' hq7, seg_set haa (seg_ne haa he (by decide)), fun y hy => seg_set (hin y hy) (seg_ne (hin y hy) he (by decide))⟩, ?_, ?_⟩
 ·exact (((hA.mono hBw).trans ((Below.refl B _).grown h3 (Nat.le_trans hBw hA.size) (fun k hk => (kt.segX_lt hn.rr k hk).1))).setCell (p := ⟨q, 0, none⟩) h.hB _)
 ·exact ku_app h.rr (Or.inl rfl) _ hA h3
theorem un_val {w : World} {B q a : Nat} {l : List Av} {la : List AV} {rv av : Value} {t : ByteArray} {xv : Value} {vs : List ByteArray} (h : Un w B q l la rv av) (c : Cu w B a t xv vs la av) (y : ByteArray) (hl : vs.length ≤ 1000) :
  ∃ ao m cap w7, (Builtin.append_ #[32, 32] 32 #[xv, .slice (some ⟨w.heap.size, 0, none⟩) 1 1]).run Tryz.prog (w.alloc (.cells #[.string y] 9)) = .ok (.slice ao m cap) w7 ∧
   w7.frozen? ⟨a, 1, none⟩ = false ∧ w7.cell? ⟨a, 1, none⟩ = some xv ∧ Un (w7.setCell ⟨a, 1, none⟩ (.slice ao m cap)) B q l la rv av ∧ Cu (w7.setCell ⟨a, 1, none⟩ (.slice ao m cap)) B a t (.slice ao m cap) (vs ++ [y]) la av ∧ Below B w (w7.setCell ⟨a, 1, none⟩ (.slice ao m cap)) ∧ KU q w (w7.setCell ⟨a, 1, none⟩ (.slice ao m cap)) := by
 have hA : Below w.heap.size w (w.alloc (.cells #[.string y] 9)) := (Below.refl _ _).alloc (Nat.le_refl _) _
 have hn := un_below h hA
 have cn := cu_below c hA
 have hBw : B ≤ w.heap.size := Nat.le_trans h.hB (Nat.le_of_lt (kt.bld_lt h.eb))
 obtain ⟨v', w7, h1, h2, h3, h4⟩ := kt.segX_append (P := Tryz.prog) (t := 32) (ty := 32) Tryz.underlying32 prw.infoStr rfl (by omega) ⟨w.heap.size, 0, none⟩ 1 1 [.string y] rfl (fun j u hj => by
   rw [kt.addr_add, World.cell?_alloc_new]
   simpa using hj) (by intro u hu; simp at hu; rw [hu]; rfl) cn.rr (by unfold maxLen; omega) (by omega) (Nat.le_trans hBw hA.size)
 obtain ⟨ao, cap, rfl, hc⟩ := kt.segX_slice h2
 have hea : q ≠ a := by
  rintro rfl
  have := Option.some.inj (hn.eb.symm.trans cn.ab)
  injection this with _ h2 _
  exact absurd h2 (by decide)
 have ha : xv.ownBlock ≠ some a := seg_ne cn.rr cn.ab (by decide)
 have hab : AttrB w7 a t xv := (h3.block a (kt.bld_lt cn.ab) (fun e1 => ha e1.symm)).trans cn.ab
 have heb : EntB w7 q rv av := (h3.block q (kt.bld_lt hn.eb) (fun e1 => seg_ne cn.rr hn.eb (by decide) e1.symm)).trans hn.eb
 have h2' : SR w7 B (.slice ao (vs.length + 1) cap) (vs ++ [y]) := by
  unfold SR
  rw [List.length_append]
  have e : prw.scells (vs ++ [y]) = prw.scells vs ++ [.string y] := by simp [prw.scells]
  rw [e]
  simpa using h2
 have hrr : AR w7 B rv l := seg_grown hn.rr h3 (fun k hk e1 => seg_diff cn.rr hn.rr (by decide) k hk e1)
 have haa : TR w7 B av la := seg_grown hn.aa h3 (fun k hk e1 => seg_diff cn.rr hn.aa (by decide) k hk e1)
 have hin : ∀ z ∈ la, SR w7 B z.2 z.1.vs := fun z hz => seg_grown (hn.inn z hz) h3 (fun k hk e1 => cn.df z hz k hk e1)
 have hdf : ∀ z ∈ la, ∀ k, z.2.ownBlock = some k → (Value.slice ao (vs.length + 1) cap).ownBlock ≠ some k := fun z hz k hk e1 => by
  rcases h4 k e1 with e2 | e2
  ·exact cn.df z hz k hk e2
  ·have := (kt.segX_lt (hn.inn z hz) k hk).2
   omega
 refine ⟨ao, _, cap, w7, h1, Lib.frozen_of_heap hab 1, (attrB_cells hab).2, ⟨h.hB, (Below.heap_setCell _ _ _ _ hea).trans heb, seg_set hrr (seg_ne hrr hab (by decide)), seg_set haa cn.ne, fun z hz => seg_set (hin z hz) (seg_ne (hin z hz) hab (by decide))⟩, ⟨c.hB, ?_, seg_set h2' (seg_ne h2' hab (by decide)), c.ne, hdf⟩, ?_, ?_⟩
 ·exact Joins.block_setCell hab _
 ·exact (((hA.mono hBw).trans ((Below.refl B _).grown h3 (Nat.le_trans hBw hA.size) (fun k hk => (kt.segX_lt cn.rr k hk).1))).setCell (p := ⟨a, 1, none⟩) c.hB _)
 ·intro k cs T f hk k1 k2 k3 hkq
  have hlt := kt.bld_lt hk
  have hka : k ≠ a := by
   rintro rfl
   have := Option.some.inj (hk.symm.trans c.ab)
   injection this with _ h2 _
   exact k2 h2
  rw [Below.heap_setCell _ _ _ _ hka, h3.block k (Nat.lt_of_lt_of_le hlt hA.size) (fun e1 => ?_), hA.block k hlt, hk]
  exact seg_ne c.rr hk k3 e1.symm
theorem un_attr {w : World} {B q a : Nat} {l : List Av} {la : List AV} {rv av : Value} {t : ByteArray} {xv : Value} {vs : List ByteArray} (h : Un w B q l la rv av) (c : Cu w B a t xv vs la av) (hl : la.length ≤ 1000) :
  ∃ ao m cap w7, (Builtin.append_ #[23, 23] 23 #[av, .slice (some ⟨w.heap.size, 0, none⟩) 1 1]).run Tryz.prog (w.alloc (.cells #[.string t, xv] 57)) = .ok (.slice ao m cap) w7 ∧
   w7.frozen? ⟨q, 1, none⟩ = false ∧ w7.cell? ⟨q, 1, none⟩ = some av ∧ Un (w7.setCell ⟨q, 1, none⟩ (.slice ao m cap)) B q l (la ++ [(⟨t, vs⟩, xv)]) rv (.slice ao m cap) ∧ Below B w (w7.setCell ⟨q, 1, none⟩ (.slice ao m cap)) ∧ KU q w (w7.setCell ⟨q, 1, none⟩ (.slice ao m cap)) := by
 have hA : Below w.heap.size w (w.alloc (.cells #[.string t, xv] 57)) := (Below.refl _ _).alloc (Nat.le_refl _) _
 have hn := un_below h hA
 have cn := cu_below c hA
 have hBw : B ≤ w.heap.size := Nat.le_trans h.hB (Nat.le_of_lt (kt.bld_lt h.eb))
 obtain ⟨xo, xc, hxe, _⟩ := kt.segX_slice c.rr
 obtain ⟨v', w7, h1, h2, h3, h4⟩ := kt.segX_append (P := Tryz.prog) (t := 23) (ty := 23) Tryz.underlying23 infoAt rfl (by omega) ⟨w.heap.size, 0, none⟩ 1 1 (acell (⟨t, vs⟩, xv)) rfl (fun j u hj => by
   rw [kt.addr_add, World.cell?_alloc_new]
   simpa [acell] using hj) (by intro u hu; simp [acell] at hu; rcases hu with rfl | rfl <;> (try rw [hxe]) <;> rfl) hn.aa (by unfold maxLen; omega) (by omega) (Nat.le_trans hBw hA.size)
 obtain ⟨ao, cap, rfl, hc⟩ := kt.segX_slice h2
 have hq : av.ownBlock ≠ some q := seg_ne hn.aa hn.eb (by decide)
 have he : EntB w7 q rv av := (h3.block q (kt.bld_lt hn.eb) (fun e1 => hq e1.symm)).trans hn.eb
 have h2' : TR w7 B (.slice ao (la.length + 1) cap) (la ++ [(⟨t, vs⟩, xv)]) := by
  unfold TR
  rw [List.length_append, List.flatMap_append]
  simpa using h2
 have hq7 : (Value.slice ao (la.length + 1) cap).ownBlock ≠ some q := seg_ne h2' he (by decide)
 have hrr : AR w7 B rv l := seg_grown hn.rr h3 (fun k hk e1 => seg_diff hn.aa hn.rr (by decide) k hk e1)
 have hin : ∀ y ∈ la ++ [((⟨t, vs⟩ : At), xv)], SR w7 B y.2 y.1.vs := fun y hy => by
  rcases List.mem_append.1 hy with hy | hy
  ·exact seg_grown (hn.inn y hy) h3 (fun k hk e1 => seg_diff hn.aa (hn.inn y hy) (by decide) k hk e1)
  ·rw [List.mem_singleton] at hy
   subst hy
   exact seg_grown cn.rr h3 (fun k hk e1 => seg_diff hn.aa cn.rr (by decide) k hk e1)
 refine ⟨ao, _, cap, w7, h1, Lib.frozen_of_heap he 1, (entB_cells he).2, ⟨h.hB, entB_set1 he _, seg_set hrr (seg_ne hrr he (by decide)), seg_set h2' hq7, fun y hy => seg_set (hin y hy) (seg_ne (hin y hy) he (by decide))⟩, ?_, ?_⟩
 ·exact (((hA.mono hBw).trans ((Below.refl B _).grown h3 (Nat.le_trans hBw hA.size) (fun k hk => (kt.segX_lt hn.aa k hk).1))).setCell (p := ⟨q, 1, none⟩) h.hB _)
 ·exact ku_app h.aa (Or.inr (Or.inl rfl)) _ hA h3
theorem cu_new {w : World} {B q : Nat} {l : List Av} {la : List AV} {rv av : Value} (h : Un w B q l la rv av) (t : ByteArray) : Cu (w.alloc (.cells #[.string t, .slice none 0 0] 57)) B w.heap.size t (.slice none 0 0) [] la av :=
 ⟨Nat.le_trans h.hB (Nat.le_of_lt (kt.bld_lt h.eb)), attrB_new _ _ _, kt.segX_nil _ _ _ _, fun e => absurd (kt.segX_lt h.aa _ e).2 (Nat.lt_irrefl _), fun x hx k hk e => by cases e⟩
theorem sr_elem {w : World} {B : Nat} {v : Value} {l : List ByteArray} (h : SR w B v l) : ElemAt w v l := by
 obtain ⟨ao, cap, rfl, hc⟩ := kt.segX_slice h
 refine ⟨ao, cap, rfl, hc, fun i hi => ?_⟩
 obtain ⟨g, o, cap', hv, _, _, hcell⟩ := kt.segX_cell h (by omega)
 simp only [Value.slice.injEq] at hv
 obtain ⟨rfl, _, rfl⟩ := hv
 exact ⟨g, o, rfl, hcell i _ (by unfold prw.scells; rw [List.getElem?_map, List.getElem?_eq_getElem hi]; rfl)⟩
theorem un_ent {w : World} {B q : Nat} {l : List Av} {la : List AV} {rv av : Value} (h : Un w B q l la rv av) : EntV w (.agg #[rv, av]) ⟨l, la.map Prod.fst⟩ := by
 obtain ⟨ro, rc, rfl, hrc, hA⟩ := seg_avas h.rr
 have hO : OwnA w B av la := ⟨h.aa, fun x hx => ⟨sr_elem (h.inn x hx), fun _ k hk => seg_diff h.aa (h.inn x hx) (by decide) k hk⟩⟩
 obtain ⟨ao, n, ac, rfl, hn, hac⟩ := ownA_form hO
 have hT := ownA_ats hO
 have e : n = (la.map Prod.fst).length := by rw [List.length_map]; exact hn.out
 subst e
 exact ⟨ro, rc, ao, ac, rfl, hrc, hac, hA, hT⟩
theorem un_forms {w : World} {B q : Nat} {l : List Av} {la : List AV} {rv av : Value} (h : Un w B q l la rv av) : ∃ r1 n1 c1 r2 n2 c2, rv = .slice r1 n1 c1 ∧ av = .slice r2 n2 c2 := by
 obtain ⟨ro, rc, rfl, _⟩ := kt.segX_slice h.rr
 obtain ⟨ao, ac, rfl, _⟩ := kt.segX_slice h.aa
 exact ⟨_, _, _, _, _, _, rfl, rfl⟩
theorem cu_form {w : World} {B a : Nat} {t : ByteArray} {xv av : Value} {vs : List ByteArray} {la : List AV} (h : Cu w B a t xv vs la av) : ∃ r n c, xv = .slice r n c := by
 obtain ⟨ro, rc, rfl, _⟩ := kt.segX_slice h.rr
 exact ⟨_, _, _, rfl⟩
/-! what is read, step by step -/
theorem r_start (s : ByteArray) : InvR s.data.toList (cntR s 0).2 1 ((cntR s 0).1 : Int) [] := by
 unfold cntR
 cases h : fld.take s.data.toList 0 1 with
 | ok n => exact invR_start h
 | error e => exact invR_none (start_none h) _ _ _ _
theorem r_step {s : ByteArray} {k n : Int} {l : List Av} (h : InvR s.data.toList false k n l) (hn : 0 < n) :
  InvR s.data.toList ((txtR s k).2.2 || (txtR s ((txtR s k).2.1 : Int)).2.2) ((txtR s ((txtR s k).2.1 : Int)).2.1 : Int) (n - 1) (l ++ [⟨(txtR s k).1, (txtR s ((txtR s k).2.1 : Int)).1⟩]) := by
 obtain ⟨h1, h2⟩ := invR_text h hn
 cases e1 : fld.takeT s.data.toList k with
 | error x => exact invR_none (h1 x e1) _ _ _ _
 | ok r =>
  obtain ⟨t, p⟩ := r
  have f1 : txtR s k = (⟨t.toArray⟩, p, false) := by unfold txtR; rw [e1]
  rw [f1]
  obtain ⟨h3, h4⟩ := h2 t p e1
  cases e2 : fld.takeT s.data.toList (p : Int) with
  | error x => exact invR_none (h3 x e2) _ _ _ _
  | ok r2 =>
   obtain ⟨v, q⟩ := r2
   have f2 : txtR s (p : Int) = (⟨v.toArray⟩, q, false) := by unfold txtR; rw [e2]
   simp only [f2]
   exact h4 v q e2
theorem r_end {s : ByteArray} {b : Bool} {k n : Int} {l : List Av} (h : InvR s.data.toList b k n l) (hn : ¬ 0 < n ∨ b = true) : InvA s.data.toList (b || (cntR s k).2) (k + 1) ((cntR s k).1 : Int) l [] := by
 rcases hn with hn | hn
 ·obtain ⟨h1, h2⟩ := invR_cnt h hn
  cases e1 : fld.take s.data.toList k 1 with
  | error x => exact invA_none (h1 x e1) _ _ _ _ _
  | ok c =>
   have f1 : cntR s k = (c, false) := by unfold cntR; rw [e1]
   rw [f1, Bool.or_false]
   exact h2 c e1
 ·subst hn
  exact invA_none (invR_bad h) _ _ _ _ _
theorem a_step {s : ByteArray} {k n : Int} {rd : List Av} {l : List At} (h : InvA s.data.toList false k n rd l) (hn : 0 < n) :
  InvV s.data.toList ((txtR s k).2.2 || (cntR s ((txtR s k).2.1 : Int)).2) (((txtR s k).2.1 : Int) + 1) n ((cntR s ((txtR s k).2.1 : Int)).1 : Int) rd l (txtR s k).1 [] := by
 obtain ⟨h1, h2⟩ := invA_head h hn
 cases e1 : fld.takeT s.data.toList k with
 | error x => exact invV_none (h1 x e1) _ _ _ _ _ _ _ _
 | ok r =>
  obtain ⟨t, p⟩ := r
  have f1 : txtR s k = (⟨t.toArray⟩, p, false) := by unfold txtR; rw [e1]
  rw [f1]
  obtain ⟨h3, h4⟩ := h2 t p e1
  cases e2 : fld.take s.data.toList (p : Int) 1 with
  | error x => exact invV_none (h3 x e2) _ _ _ _ _ _ _ _
  | ok c =>
   have f2 : cntR s (p : Int) = (c, false) := by unfold cntR; rw [e2]
   simp only [f2]
   exact h4 c e2
theorem v_step {s : ByteArray} {k n m : Int} {rd : List Av} {l : List At} {t : ByteArray} {vs : List ByteArray} (h : InvV s.data.toList false k n m rd l t vs) (hm : 0 < m) :
  InvV s.data.toList (txtR s k).2.2 ((txtR s k).2.1 : Int) n (m - 1) rd l t (vs ++ [(txtR s k).1]) := by
 obtain ⟨h1, h2⟩ := invV_text h hm
 cases e1 : fld.takeT s.data.toList k with
 | error x => exact invV_none (h1 x e1) _ _ _ _ _ _ _ _
 | ok r =>
  obtain ⟨v, q⟩ := r
  have f1 : txtR s k = (⟨v.toArray⟩, q, false) := by unfold txtR; rw [e1]
  rw [f1]
  exact h2 v q e1
theorem v_end {s : ByteArray} {b : Bool} {k n m : Int} {rd : List Av} {l : List At} {t : ByteArray} {vs : List ByteArray} (h : InvV s.data.toList b k n m rd l t vs) (hm : ¬ 0 < m ∨ b = true) : InvA s.data.toList b k (n - 1) rd (l ++ [⟨t, vs⟩]) := by
 rcases hm with hm | hm
 ·exact invV_done h hm
 ·subst hm
  exact invA_none (invV_bad h) _ _ _ _ _
theorem a_end {s : ByteArray} {b : Bool} {k n : Int} {rd : List Av} {l : List At} (h : InvA s.data.toList b k n rd l) (hn : ¬ 0 < n ∨ b = true) (hs : SmallE ⟨rd, l⟩) :
  UnpE s.data.toList (if b = true ∨ ¬ packS ⟨rd, l⟩ = (s, 0) then .error 4 else .ok ⟨rd, l⟩) := by
 cases hb : b with
 | true =>
  subst hb
  rw [if_pos (Or.inl rfl)]
  exact unp_none (invA_bad h)
 | false =>
  subst hb
  have hn' : ¬ 0 < n := by rcases hn with h | h; exact h; cases h
  have key := invA_done h hn'
  by_cases hp : packS ⟨rd, l⟩ = (s, 0)
  ·rw [if_neg (by rintro (h1 | h1); cases h1; exact h1 hp)]
   refine unp_yes key ?_ hs
   unfold packS at hp
   cases hq : packE ⟨rd, l⟩ with
   | error f =>
    rw [hq] at hp
    simp only [Prod.mk.injEq] at hp
    obtain ⟨_, rfl⟩ := hp
    exfalso
    unfold packE at hq
    split at hq
    ·cases hq
    ·split at hq <;> cases hq
   | ok x =>
    rw [hq] at hp
    simp only [Prod.mk.injEq, and_true] at hp
    rw [← hp]
  ·rw [if_pos (Or.inr hp)]
   refine unp_none (none_of key fun hq => hp ?_)
   unfold packS
   rw [hq]
end etw
end Go.Proofs.YtcolcogobdgejaaGreatDoor
