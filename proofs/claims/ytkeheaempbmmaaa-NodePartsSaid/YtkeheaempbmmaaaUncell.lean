/- The walk of uncell: the cell of bytes, from a place on. -/
import Derived.Test.YtkeheaempbmmaaaBytes
import Derived.Laws.ResultCell
import Derived.Deep.WholeRow
namespace Go.Proofs.Ytkeheaempbmmaaa
open Go.RowKit
namespace nod
open fldw
def num0 (o : Except Int Nat) : Nat := match o with
  | .ok n => n
  | .error _ => 0
def isOk {α : Type} (o : Except Int α) : Bool := match o with
  | .ok _ => true
  | .error _ => false
/-- what uncell answers -/
def uncellP (leaf : Bool) (s : List UInt8) (a : Int) : Cel × Bool :=
  match fld.takeT s a with
  | .error _ => (⟨⟨#[]⟩, ⟨#[]⟩, 0, 0, 0⟩, false)
  | .ok (k, p) =>
    if leaf then
      match fld.take s p 1 with
      | .error _ => (⟨⟨k.toArray⟩, ⟨#[]⟩, 0, 0, 0⟩, false)
      | .ok kind =>
        if kind = 1 then (⟨⟨k.toArray⟩, ⟨#[]⟩, num0 (fld.take s ((p : Int) + 1) 4), num0 (fld.take s ((p : Int) + 5) 4), 0⟩, isOk (fld.take s ((p : Int) + 1) 4) && isOk (fld.take s ((p : Int) + 5) 4))
        else match fld.takeT s ((p : Int) + 1) with
          | .error _ => (⟨⟨k.toArray⟩, ⟨#[]⟩, 0, 0, 0⟩, false)
          | .ok (v, _) => (⟨⟨k.toArray⟩, ⟨v.toArray⟩, 0, 0, 0⟩, true)
    else (⟨⟨k.toArray⟩, ⟨#[]⟩, 0, 0, num0 (fld.take s p 4)⟩, isOk (fld.take s p 4))
/-- five cells of a block, none of them frozen -/
theorem five {w : World} {g : Nat} {a b c d e : Value} {t : TypeId} (h : w.heap[g]? = some (.cells #[a, b, c, d, e] t (0, 0))) :
    (w.cell? ⟨g, 0, none⟩ = some a ∧ w.cell? ⟨g, 1, none⟩ = some b ∧ w.cell? ⟨g, 2, none⟩ = some c ∧ w.cell? ⟨g, 3, none⟩ = some d ∧ w.cell? ⟨g, 4, none⟩ = some e) ∧ (∀ j, w.frozen? ⟨g, j, none⟩ = false) := by
  refine ⟨⟨?_, ?_, ?_, ?_, ?_⟩, fun j => Lib.frozen_of_heap h j⟩ <;> (rw [Lib.cell_of_heap h]; rfl)
/-- the two cells that the call has made, behind a callee -/
theorem two (w : World) {t : TypeId} {w1 : World} (hB : Below ((w.alloc (.cells #[.string ⟨#[]⟩, .string ⟨#[]⟩, .int .i64 0, .int .i64 0, .int .i64 0] t)).alloc (.cells #[.string ⟨#[]⟩, .string ⟨#[]⟩, .int .i64 0, .int .i64 0, .int .i64 0] t)).heap.size ((w.alloc (.cells #[.string ⟨#[]⟩, .string ⟨#[]⟩, .int .i64 0, .int .i64 0, .int .i64 0] t)).alloc (.cells #[.string ⟨#[]⟩, .string ⟨#[]⟩, .int .i64 0, .int .i64 0, .int .i64 0] t)) w1) :
    w1.heap[w.heap.size]? = some (.cells #[.string ⟨#[]⟩, .string ⟨#[]⟩, .int .i64 0, .int .i64 0, .int .i64 0] t (0, 0)) ∧ w1.heap[w.heap.size + 1]? = some (.cells #[.string ⟨#[]⟩, .string ⟨#[]⟩, .int .i64 0, .int .i64 0, .int .i64 0] t (0, 0)) ∧ Below w.heap.size w w1 := by
  have s1 := size1 w (.cells #[.string ⟨#[]⟩, .string ⟨#[]⟩, .int .i64 0, .int .i64 0, .int .i64 0] t)
  have s2 := size1 (w.alloc (.cells #[.string ⟨#[]⟩, .string ⟨#[]⟩, .int .i64 0, .int .i64 0, .int .i64 0] t)) (.cells #[.string ⟨#[]⟩, .string ⟨#[]⟩, .int .i64 0, .int .i64 0, .int .i64 0] t)
  refine ⟨?_, ?_, ?_⟩
  · rw [hB.block _ (by omega), Below.heap_alloc _ _ _ (by omega)]
    exact heap_alloc_last w _
  · rw [hB.block _ (by omega), ← s1]
    exact heap_alloc_last _ _
  · exact ((((Below.refl _ _).alloc (Nat.le_refl _) _).alloc (by omega) _).trans (hB.mono (by omega)))
theorem put5 {w w1 : World} (h : Below w.heap.size w w1) (a b c d e : Value) : Below w.heap.size w (((((w1.setCell ⟨w.heap.size, 0, none⟩ a).setCell ⟨w.heap.size, 1, none⟩ b).setCell ⟨w.heap.size, 2, none⟩ c).setCell ⟨w.heap.size, 3, none⟩ d).setCell ⟨w.heap.size, 4, none⟩ e) :=
  ((((h.setCell (p := ⟨w.heap.size, 0, none⟩) (Nat.le_refl _) a).setCell (p := ⟨w.heap.size, 1, none⟩) (Nat.le_refl _) b).setCell (p := ⟨w.heap.size, 2, none⟩) (Nat.le_refl _) c).setCell (p := ⟨w.heap.size, 3, none⟩) (Nat.le_refl _) d).setCell (p := ⟨w.heap.size, 4, none⟩) (Nat.le_refl _) e
theorem take_form (s : List UInt8) (a k : Int) (hk : k ≤ 4) : ∃ (n : Nat) (er : Int), takeV (fld.take s a k) = .tuple #[.int .u64 (n : Int), .int .i64 er] ∧ n = num0 (fld.take s a k) ∧ (er == 0) = isOk (fld.take s a k) ∧ n < 4294967296 := by
  cases h : fld.take s a k with
  | error e =>
    refine ⟨0, e, rfl, rfl, ?_, by omega⟩
    unfold fld.take at h
    split at h
    · cases h; rfl
    · split at h
      · cases h; rfl
      · cases h
  | ok n =>
    refine ⟨n, 0, rfl, rfl, rfl, ?_⟩
    unfold fld.take at h
    split at h
    · cases h
    · split at h
      · cases h
      · cases h
        have h1 : fld.num ((s.drop a.toNat).take k.toNat) < 256 ^ 4 := fld.num_le (by rw [List.length_take]; omega)
        have h2 : (256 : Nat) ^ 4 = 4294967296 := by decide
        omega
theorem tt_form (s : List UInt8) (a : Int) : ∃ (v : ByteArray) (q er : Int), ttV (fld.takeT s a) = .tuple #[.string v, .int .i64 q, .int .i64 er] ∧ (er == 0) = isOk (fld.takeT s a) ∧ v = (match fld.takeT s a with | .ok r => ⟨r.1.toArray⟩ | .error _ => ⟨#[]⟩) := by
  cases hT : fld.takeT s a with
  | error er =>
    refine ⟨⟨#[]⟩, 0, er, rfl, ?_, rfl⟩
    unfold fld.takeT at hT
    cases hk : fld.take s a 2 with
    | error e0 =>
      rw [hk] at hT
      simp only at hT
      cases hT
      unfold fld.take at hk
      split at hk
      · cases hk; rfl
      · split at hk
        · cases hk; rfl
        · cases hk
    | ok n =>
      rw [hk] at hT
      simp only at hT
      split at hT
      · cases hT; rfl
      · cases hT
  | ok r => exact ⟨⟨r.1.toArray⟩, r.2, 0, rfl, rfl, rfl⟩
theorem bld_lt {w : World} {b : Nat} {o : Obj} (h : w.heap[b]? = some o) : b < w.heap.size := by
  rcases Nat.lt_or_ge b w.heap.size with h' | h'
  · exact h'
  · simp [Array.getElem?_eq_none h'] at h
theorem set_same {w : World} {g j : Nat} {cs : Array Value} {t : TypeId} {fr : Nat × Nat} (h : w.heap[g]? = some (.cells cs t fr)) (v : Value) : (w.setCell ⟨g, j, none⟩ v).heap[g]? = some (.cells (cs.setIfInBounds j v) t fr) := by
  simp [World.setCell, Array.getElem?_modify, h]
theorem set_other {w : World} {g b j : Nat} {o : Obj} (h : w.heap[g]? = some o) (hne : g ≠ b) (v : Value) : (w.setCell ⟨b, j, none⟩ v).heap[g]? = some o := by
  rw [Below.heap_setCell _ _ _ _ hne]; exact h
set_option maxHeartbeats 2000000 in
theorem uncell_any (leaf : Bool) (s : ByteArray) (a : Int) (w : World) (hs : s.size ≤ 1000000) (h2 : -9223372036854775808 ≤ a) (h3 : a ≤ 9223372036854775807) :
    Calls Try.prog 35 #[.bool leaf, .string s, .int .i64 a] w fun e w' => e = .returned (.tuple #[(uncellP leaf s.data.toList a).1.v, .bool (uncellP leaf s.data.toList a).2]) ∧ Below w.heap.size w w' := by
  have T := Lib.hid (fun w => taketext_any s a w hs h2 h3)
  cases hT : fld.takeT s.data.toList a with
  | error er =>
    have hu : uncellP leaf s.data.toList a = (⟨⟨#[]⟩, ⟨#[]⟩, 0, 0, 0⟩, false) := by unfold uncellP; rw [hT]
    rw [hT] at T
    unfold ttV at T
    simp only at T
    have hne : (er == 0) = false := by
      unfold fld.takeT at hT
      cases hk : fld.take s.data.toList a 2 with
      | error e0 =>
        rw [hk] at hT
        simp only at hT
        cases hT
        unfold fld.take at hk
        split at hk
        · cases hk; rfl
        · split at hk
          · cases hk; rfl
          · cases hk
      | ok n =>
        rw [hk] at hT
        simp only at hT
        split at hT
        · cases hT; rfl
        · cases hT
    have HU := Lib.hid hu
    clear hu hT
    go_enter Try.func35, Try.ntmps35
    go_wp2_with fail
    refine (T.out _).mono ?_
    rintro e w1 ⟨rfl, hB1⟩
    obtain ⟨o1, o2, hbl⟩ := two w hB1
    obtain ⟨⟨p0, p1, p2, p3, p4⟩, pf⟩ := five o1
    obtain ⟨⟨q0, q1, q2, q3, q4⟩, qf⟩ := five o2
    have r0 := pf 0
    have r1 := pf 1
    have r2 := pf 2
    have r3 := pf 3
    have r4 := pf 4
    have HP := Lib.hid pf
    have HQ := Lib.hid qf
    clear pf qf
    go_wp2_with fail
    refine bodyPost_ret (v := .tuple #[Cel.v ⟨⟨#[]⟩, ⟨#[]⟩, 0, 0, 0⟩, .bool false]) ?_ rfl ⟨by rw [HU.out], ?_⟩
    · rw [results_cell_tmp rfl]
      go_simp
      rfl
    · exact put5 hbl _ _ _ _ _
  | ok r =>
    obtain ⟨kl, p⟩ := r
    have hp : p ≤ s.size := by
      unfold fld.takeT at hT
      cases hk : fld.take s.data.toList a 2 with
      | error e0 => rw [hk] at hT; cases hT
      | ok n =>
        rw [hk] at hT
        simp only at hT
        split at hT
        · cases hT
        · rename_i hx
          rw [kt.size_len] at hx
          injection hT with h1
          injection h1 with _ h2
          omega
    rw [hT] at T
    unfold ttV at T
    simp only at T
    obtain ⟨k, hk⟩ : ∃ k : ByteArray, Hid (k = ⟨kl.toArray⟩) := ⟨_, rfl⟩
    rw [← hk.out] at T
    cases leaf with
    | false =>
      obtain ⟨n, er, hv, hnn, her, hnb⟩ := take_form s.data.toList (p : Int) 4 (by omega)
      have K := fun w => take_any s (p : Int) 4 w hs (by omega) (by omega) (by omega) (by omega)
      rw [hv] at K
      have KH := Lib.hid K
      have HU : Hid (uncellP false s.data.toList a = (⟨k, ⟨#[]⟩, 0, 0, n⟩, er == 0)) := by
        show _ = _
        unfold uncellP
        rw [hT, hnn, her, hk.out]
        rfl
      have wn : IntKind.i64.wrap (n : Int) = (n : Int) := kt.wrap_i64_nat _ (by omega)
      obtain ⟨b, hb⟩ : ∃ b : Bool, Hid (b = (er == 0)) := ⟨_, rfl⟩
      have eb : (er == 0) = b := hb.out.symm
      clear K hT hv her hnn
      go_enter Try.func35, Try.ntmps35
      go_wp2_with fail
      refine (T.out _).mono ?_
      rintro e w1 ⟨rfl, hB1⟩
      obtain ⟨o1, o2, hbl⟩ := two w hB1
      have o1' := set_other (b := w.heap.size + 1) (j := 0) o1 (by omega) (.string k)
      have o2' : (w1.setCell ⟨w.heap.size + 1, 0, none⟩ (.string k)).heap[w.heap.size + 1]? = some (.cells #[.string k, .string ⟨#[]⟩, .int .i64 0, .int .i64 0, .int .i64 0] 35 (0, 0)) := set_same (j := 0) o2 (.string k)
      have hbl' : Below w.heap.size w (w1.setCell ⟨w.heap.size + 1, 0, none⟩ (.string k)) := hbl.setCell (p := ⟨w.heap.size + 1, 0, none⟩) (Nat.le_succ _) _
      obtain ⟨⟨q0, q1, q2, q3, q4⟩, qf⟩ := five o2
      have r0 := qf 0
      have HQ := Lib.hid qf
      clear qf
      go_wp2_with fail
      refine (KH.out _).mono ?_
      rintro e w2 ⟨rfl, hB2⟩
      have hl1 := bld_lt o1'
      have hl2 := bld_lt o2'
      have m1 := (hB2.block _ hl1).trans o1'
      have m2 := (hB2.block _ hl2).trans o2'
      have hbl2 := hbl'.trans (hB2.mono hbl'.size)
      obtain ⟨⟨p0, p1, p2, p3, p4⟩, pf⟩ := five m1
      obtain ⟨⟨t0, t1, t2, t3, t4⟩, tf⟩ := five m2
      have x4 := tf 4
      have y0 := pf 0
      have y1 := pf 1
      have y2 := pf 2
      have y3 := pf 3
      have y4 := pf 4
      have HPF := Lib.hid pf
      have HTF := Lib.hid tf
      have HH1 := Lib.hid o1'
      have HH2 := Lib.hid o2'
      have HM1 := Lib.hid m1
      have HM2 := Lib.hid m2
      clear pf tf o1' o2' m1 m2 o1 o2 q0 q1 q2 q3 q4 r0
      go_wp2_with fail
      refine bodyPost_ret (v := .tuple #[Cel.v ⟨k, ⟨#[]⟩, 0, 0, n⟩, .bool b]) ?_ rfl ⟨by rw [HU.out, hb.out], ?_⟩
      · rw [results_cell_tmp rfl]
        go_simp
        rfl
      · exact put5 (hbl2.setCell (p := ⟨w.heap.size + 1, 4, none⟩) (Nat.le_succ _) _) _ _ _ _ _
    | true =>
      obtain ⟨kd, er, hv, hnn, her, hnb⟩ := take_form s.data.toList (p : Int) 1 (by omega)
      have K := fun w => take_any s (p : Int) 1 w hs (by omega) (by omega) (by omega) (by omega)
      rw [hv] at K
      have KH := Lib.hid K
      by_cases he : er = 0
      · subst he
        have htk : fld.take s.data.toList (p : Int) 1 = .ok kd := by
          cases hk1 : fld.take s.data.toList (p : Int) 1 with
          | error e0 => rw [hk1] at her; cases her
          | ok n0 => rw [hk1] at hnn; rw [hnn]; rfl
        by_cases hkd : kd = 1
        · obtain ⟨n1, er1, hv1, hn1, he1, hb1⟩ := take_form s.data.toList ((p : Int) + 1) 4 (by omega)
          obtain ⟨n2, er2, hv2, hn2, he2, hb2⟩ := take_form s.data.toList ((p : Int) + 5) 4 (by omega)
          have K1 := fun w => take_any s ((p : Int) + 1) 4 w hs (by omega) (by omega) (by omega) (by omega)
          have K2 := fun w => take_any s ((p : Int) + 5) 4 w hs (by omega) (by omega) (by omega) (by omega)
          rw [hv1] at K1
          rw [hv2] at K2
          have KH1 := Lib.hid K1
          have KH2 := Lib.hid K2
          obtain ⟨b1, hbb1⟩ : ∃ b : Bool, Hid (b = (er1 == 0)) := ⟨_, rfl⟩
          obtain ⟨b2, hbb2⟩ : ∃ b : Bool, Hid (b = (er2 == 0)) := ⟨_, rfl⟩
          have eb1 : (er1 == 0) = b1 := hbb1.out.symm
          have eb2 : (er2 == 0) = b2 := hbb2.out.symm
          have HU : Hid (uncellP true s.data.toList a = (⟨k, ⟨#[]⟩, n1, n2, 0⟩, b1 && b2)) := by
            show _ = _
            unfold uncellP
            rw [hT]
            simp only [if_true, htk, hkd, ← hn1, ← hn2, ← he1, ← he2, eb1, eb2, hk.out]
          have wn1 : IntKind.i64.wrap (n1 : Int) = (n1 : Int) := kt.wrap_i64_nat _ (by omega)
          have wn2 : IntKind.i64.wrap (n2 : Int) = (n2 : Int) := kt.wrap_i64_nat _ (by omega)
          subst hkd
          clear K K1 K2 hT hv hv1 hv2 her hnn he1 he2 hn1 hn2 htk
          go_enter Try.func35, Try.ntmps35
          go_wp2_with fail
          refine (T.out _).mono ?_
          rintro e w1 ⟨rfl, hB1⟩
          obtain ⟨o1, o2, hbl⟩ := two w hB1
          have o1' := set_other (b := w.heap.size + 1) (j := 0) o1 (by omega) (.string k)
          have o2' : (w1.setCell ⟨w.heap.size + 1, 0, none⟩ (.string k)).heap[w.heap.size + 1]? = some (.cells #[.string k, .string ⟨#[]⟩, .int .i64 0, .int .i64 0, .int .i64 0] 35 (0, 0)) := set_same (j := 0) o2 (.string k)
          have hbl' : Below w.heap.size w (w1.setCell ⟨w.heap.size + 1, 0, none⟩ (.string k)) := hbl.setCell (p := ⟨w.heap.size + 1, 0, none⟩) (Nat.le_succ _) _
          obtain ⟨⟨q0, q1, q2, q3, q4⟩, qf⟩ := five o2
          have r0 := qf 0
          clear qf
          go_wp2_with fail
          refine (KH.out _).mono ?_
          rintro e w2 ⟨rfl, hB2⟩
          have m1 := (hB2.block _ (bld_lt o1')).trans o1'
          have m2 := (hB2.block _ (bld_lt o2')).trans o2'
          have hbl2 := hbl'.trans (hB2.mono hbl'.size)
          clear o1' o2' o1 o2 q0 q1 q2 q3 q4 r0
          go_wp2_with fail
          refine (KH1.out _).mono ?_
          rintro e w3 ⟨rfl, hB3⟩
          have m3 := (hB3.block _ (bld_lt m1)).trans m1
          have m4 := (hB3.block _ (bld_lt m2)).trans m2
          have hbl3 := hbl2.trans (hB3.mono hbl2.size)
          go_wp2_with fail
          refine (KH2.out _).mono ?_
          rintro e w4 ⟨rfl, hB4⟩
          have m5 := (hB4.block _ (bld_lt m3)).trans m3
          have m6 := (hB4.block _ (bld_lt m4)).trans m4
          have hbl4 := hbl3.trans (hB4.mono hbl3.size)
          obtain ⟨⟨p0, p1, p2, p3, p4⟩, pf⟩ := five m5
          obtain ⟨⟨t0, t1, t2, t3, t4⟩, tf⟩ := five m6
          have y0 := pf 0
          have y1 := pf 1
          have y2 := pf 2
          have y3 := pf 3
          have y4 := pf 4
          have v1 := tf 1
          have v2 := tf 2
          have v3 := tf 3
          clear pf tf
          clear m1 m2 m3 m4 m5 m6
          cases b1
          · go_wp2_with fail
            refine bodyPost_ret (v := .tuple #[Cel.v ⟨k, ⟨#[]⟩, n1, n2, 0⟩, .bool false]) ?_ rfl ⟨by rw [HU.out]; rfl, ?_⟩
            · rw [results_cell_tmp rfl]
              go_simp
              rfl
            · exact put5 ((hbl4.setCell (p := ⟨w.heap.size + 1, 2, none⟩) (Nat.le_succ _) _).setCell (p := ⟨w.heap.size + 1, 3, none⟩) (Nat.le_succ _) _) _ _ _ _ _
          · go_wp2_with fail
            refine bodyPost_ret (v := .tuple #[Cel.v ⟨k, ⟨#[]⟩, n1, n2, 0⟩, .bool b2]) ?_ rfl ⟨by rw [HU.out]; rfl, ?_⟩
            · rw [results_cell_tmp rfl]
              go_simp
              rfl
            · exact put5 ((hbl4.setCell (p := ⟨w.heap.size + 1, 2, none⟩) (Nat.le_succ _) _).setCell (p := ⟨w.heap.size + 1, 3, none⟩) (Nat.le_succ _) _) _ _ _ _ _
        · obtain ⟨vv, q, er3, hv3, he3, hvv⟩ := tt_form s.data.toList ((p : Int) + 1)
          have K3 := fun w => taketext_any s ((p : Int) + 1) w hs (by omega) (by omega)
          rw [hv3] at K3
          have KH3 := Lib.hid K3
          obtain ⟨b3, hbb3⟩ : ∃ b : Bool, Hid (b = (er3 == 0)) := ⟨_, rfl⟩
          have eb3 : (er3 == 0) = b3 := hbb3.out.symm
          have HU : Hid (uncellP true s.data.toList a = (⟨k, vv, 0, 0, 0⟩, b3)) := by
            show _ = _
            unfold uncellP
            rw [hT]
            simp only [if_true, htk, if_neg hkd, hk.out]
            rw [← eb3, he3, hvv]
            cases hx : fld.takeT s.data.toList ((p : Int) + 1) with
            | error e0 => rfl
            | ok r0 => obtain ⟨x0, x1⟩ := r0; rfl
          have hkd' : ((kd : Int) == 1) = false := by rw [beq_eq_false_iff_ne]; omega
          clear K K3 hT hv hv3 her hnn he3 hvv htk hkd
          go_enter Try.func35, Try.ntmps35
          go_wp2_with fail
          refine (T.out _).mono ?_
          rintro e w1 ⟨rfl, hB1⟩
          obtain ⟨o1, o2, hbl⟩ := two w hB1
          have o1' := set_other (b := w.heap.size + 1) (j := 0) o1 (by omega) (.string k)
          have o2' : (w1.setCell ⟨w.heap.size + 1, 0, none⟩ (.string k)).heap[w.heap.size + 1]? = some (.cells #[.string k, .string ⟨#[]⟩, .int .i64 0, .int .i64 0, .int .i64 0] 35 (0, 0)) := set_same (j := 0) o2 (.string k)
          have hbl' : Below w.heap.size w (w1.setCell ⟨w.heap.size + 1, 0, none⟩ (.string k)) := hbl.setCell (p := ⟨w.heap.size + 1, 0, none⟩) (Nat.le_succ _) _
          obtain ⟨⟨q0, q1, q2, q3, q4⟩, qf⟩ := five o2
          have r0 := qf 0
          clear qf
          go_wp2_with fail
          refine (KH.out _).mono ?_
          rintro e w2 ⟨rfl, hB2⟩
          have m1 := (hB2.block _ (bld_lt o1')).trans o1'
          have m2 := (hB2.block _ (bld_lt o2')).trans o2'
          have hbl2 := hbl'.trans (hB2.mono hbl'.size)
          clear o1' o2' o1 o2 q0 q1 q2 q3 q4 r0
          go_wp2_with fail
          refine (KH3.out _).mono ?_
          rintro e w3 ⟨rfl, hB3⟩
          have m3 := (hB3.block _ (bld_lt m1)).trans m1
          have m4 := (hB3.block _ (bld_lt m2)).trans m2
          have hbl3 := hbl2.trans (hB3.mono hbl2.size)
          obtain ⟨⟨p0, p1, p2, p3, p4⟩, pf⟩ := five m3
          obtain ⟨⟨t0, t1, t2, t3, t4⟩, tf⟩ := five m4
          have y0 := pf 0
          have y1 := pf 1
          have y2 := pf 2
          have y3 := pf 3
          have y4 := pf 4
          have v1 := tf 1
          clear pf tf
          clear m1 m2 m3 m4
          go_wp2_with fail
          refine bodyPost_ret (v := .tuple #[Cel.v ⟨k, vv, 0, 0, 0⟩, .bool b3]) ?_ rfl ⟨by rw [HU.out], ?_⟩
          · rw [results_cell_tmp rfl]
            go_simp
            rfl
          · exact put5 (hbl3.setCell (p := ⟨w.heap.size + 1, 1, none⟩) (Nat.le_succ _) _) _ _ _ _ _
      · have he' : (er == 0) = false := by simpa using he
        have HU : Hid (uncellP true s.data.toList a = (⟨k, ⟨#[]⟩, 0, 0, 0⟩, false)) := by
          show _ = _
          unfold uncellP
          rw [hT]
          cases hk1 : fld.take s.data.toList (p : Int) 1 with
          | error e0 => simp only [if_true, hk.out, hk1]
          | ok n0 =>
            rw [hk1] at her
            rw [he'] at her
            cases her
        clear K hT hv her hnn he
        go_enter Try.func35, Try.ntmps35
        go_wp2_with fail
        refine (T.out _).mono ?_
        rintro e w1 ⟨rfl, hB1⟩
        obtain ⟨o1, o2, hbl⟩ := two w hB1
        have o1' := set_other (b := w.heap.size + 1) (j := 0) o1 (by omega) (.string k)
        have o2' : (w1.setCell ⟨w.heap.size + 1, 0, none⟩ (.string k)).heap[w.heap.size + 1]? = some (.cells #[.string k, .string ⟨#[]⟩, .int .i64 0, .int .i64 0, .int .i64 0] 35 (0, 0)) := set_same (j := 0) o2 (.string k)
        have hbl' : Below w.heap.size w (w1.setCell ⟨w.heap.size + 1, 0, none⟩ (.string k)) := hbl.setCell (p := ⟨w.heap.size + 1, 0, none⟩) (Nat.le_succ _) _
        obtain ⟨⟨q0, q1, q2, q3, q4⟩, qf⟩ := five o2
        have r0 := qf 0
        clear qf
        go_wp2_with fail
        refine (KH.out _).mono ?_
        rintro e w2 ⟨rfl, hB2⟩
        have m1 := (hB2.block _ (bld_lt o1')).trans o1'
        have m2 := (hB2.block _ (bld_lt o2')).trans o2'
        have hbl2 := hbl'.trans (hB2.mono hbl'.size)
        obtain ⟨⟨p0, p1, p2, p3, p4⟩, pf⟩ := five m1
        obtain ⟨⟨t0, t1, t2, t3, t4⟩, _⟩ := five m2
        have y0 := pf 0
        have y1 := pf 1
        have y2 := pf 2
        have y3 := pf 3
        have y4 := pf 4
        clear pf o1' o2' m1 m2 o1 o2 q0 q1 q2 q3 q4 r0
        go_wp2_with fail
        refine bodyPost_ret (v := .tuple #[Cel.v ⟨k, ⟨#[]⟩, 0, 0, 0⟩, .bool false]) ?_ rfl ⟨by rw [HU.out], ?_⟩
        · rw [results_cell_tmp rfl]
          go_simp
          rfl
        · exact put5 hbl2 _ _ _ _ _
end nod
end Go.Proofs.Ytkeheaempbmmaaa
