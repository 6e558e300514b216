/- The walk of pair. -/
import Derived.Test.YtifplgnabkkbjaaDoorNameW
import Derived.Test.YtifplgnabkkbjaaDoorTyW
import Derived.Test.YtifplgnabkkbjaaDoorDec2
namespace Go.Proofs.YtifplgnabkkbjaaDoor
open Go.RowKit
namespace ldw
open ldp
set_option linter.unusedVariables false
set_option linter.unusedSimpArgs false
/-- what a pair's reader leaves -/
def PairE (o : Option (List UInt8 × List UInt8)) (w : World) (e : Ending) (w' : World) : Prop :=
  Below w.heap.size w w' ∧ match o with
    | none => ∃ t v : ByteArray, e = .returned (.tuple #[.agg #[.string t, .string v], .bool false])
    | some p => e = .returned (.tuple #[.agg #[.string ⟨p.1.toArray⟩, .string ⟨p.2.toArray⟩], .bool true])
theorem pairE_none {o : Option (List UInt8 × List UInt8)} {w w' : World} {t v : ByteArray} (h : o = none) (hb : Below w.heap.size w w') : PairE o w (.returned (.tuple #[.agg #[.string t, .string v], .bool false])) w' := by
  subst h
  exact ⟨hb, t, v, rfl⟩
theorem pairE_some {o : Option (List UInt8 × List UInt8)} {w w' : World} {t v : ByteArray} (h : o = some (t.data.toList, v.data.toList)) (hb : Below w.heap.size w w') : PairE o w (.returned (.tuple #[.agg #[.string t, .string v], .bool true])) w' := by
  subst h
  exact ⟨hb, rfl⟩
def PC (w : World) (p : Nat) : Prop := ∃ x y : ByteArray, w.heap[p]? = some (.cells #[.string x, .string y] 33 (0, 0))
theorem pc_cells {w : World} {p : Nat} (h : PC w p) : (∃ x, w.cell? ⟨p, 0, none⟩ = some (.string x)) ∧ (∃ y, w.cell? ⟨p, 1, none⟩ = some (.string y)) ∧ w.frozen? ⟨p, 0, none⟩ = false ∧ w.frozen? ⟨p, 1, none⟩ = false := by
  obtain ⟨x, y, h⟩ := h
  exact ⟨⟨x, by rw [Lib.cell_of_heap h]; rfl⟩, ⟨y, by rw [Lib.cell_of_heap h]; rfl⟩, Lib.frozen_of_heap h 0, Lib.frozen_of_heap h 1⟩
theorem pc_below {w w' : World} {p : Nat} (h : PC w p) (hb : Below w.heap.size w w') : PC w' p := by
  obtain ⟨x, y, h⟩ := h
  exact ⟨x, y, (hb.block p (bld.lt_of_heap h)).trans h⟩
theorem pc_new (w : World) : PC (w.alloc (.cells #[.string ByteArray.empty, .string ByteArray.empty] 33)) w.heap.size := ⟨_, _, heap_alloc_new w _⟩
theorem pc_store {w : World} {p : Nat} (h : PC w p) (a b : ByteArray) : ((w.setCell ⟨p, 0, none⟩ (.string a)).setCell ⟨p, 1, none⟩ (.string b)).cell? ⟨p, 0, none⟩ = some (.string a) ∧ ((w.setCell ⟨p, 0, none⟩ (.string a)).setCell ⟨p, 1, none⟩ (.string b)).cell? ⟨p, 1, none⟩ = some (.string b) := by
  obtain ⟨⟨x, h0⟩, ⟨y, h1⟩, _, _⟩ := pc_cells h
  have k0 := World.cell?_setCell_same w ⟨p, 0, none⟩ (.string a) h0
  have k1 : (w.setCell ⟨p, 0, none⟩ (.string a)).cell? ⟨p, 1, none⟩ = some (.string y) := by rw [World.cell?_setCell_other _ _ _ _ (by intro hh; injection hh with _ h _; cases h), h1]
  refine ⟨?_, World.cell?_setCell_same _ _ _ k1⟩
  rw [World.cell?_setCell_other _ _ _ _ (by intro hh; injection hh with _ h _; cases h), k0]
theorem below_store {B : Nat} {w w' : World} (h : Below B w w') {p : Nat} (hp : B ≤ p) (a b : Value) : Below B w ((w'.setCell ⟨p, 0, none⟩ a).setCell ⟨p, 1, none⟩ b) :=
  (h.setCell (p := ⟨p, 0, none⟩) hp a).setCell (p := ⟨p, 1, none⟩) hp b
theorem pre_one (l : List UInt8) (c : UInt8) : Lib.hasPrefix l [c] = decide (l.head? = some c) := by
  unfold Lib.hasPrefix
  cases l with
  | nil => simp [List.isPrefixOf]
  | cons d t =>
    simp only [List.isPrefixOf, Bool.and_true, List.head?_cons, Option.some.injEq]
    rw [Bool.eq_iff_iff, beq_iff_eq, decide_eq_true_iff]
    exact eq_comm
set_option maxRecDepth 20000 in
set_option maxHeartbeats 4000000 in
theorem pair_any (s : ByteArray) (w : World) (hs : s.size ≤ 20000) : Calls Tryd.prog 11 #[.string s] w (PairE (pairL s.data.toList) w) := by
  by_cases hm : (58 : UInt8) ∈ s.data.toList
  · obtain ⟨A, R, hAR, hA⟩ := splitL hm
    have hsz : s.size = A.length + R.length + 1 := by rw [← kt.size_len, hAR]; simp; omega
    have HP := Lib.hid (pairL_at (R := R) hA)
    rw [← hAR] at HP
    obtain ⟨a, ha⟩ : ∃ a : ByteArray, Hid (a = ⟨A.toArray⟩) := ⟨_, rfl⟩
    obtain ⟨r, hr⟩ : ∃ a : ByteArray, Hid (a = ⟨R.toArray⟩) := ⟨_, rfl⟩
    have HC : Hid (∀ w, Calls Tryd.prog 16 #[.string s, .string ⟨#[58]⟩] w fun e w' => e = .returned (.tuple #[.string a, .string r, .bool true]) ∧ Below w.heap.size w w') := by
      intro w
      rw [ha.out, hr.out]
      exact cut_hit s 58 A R w (by omega) hAR hA
    have hae : A = a.data.toList := by rw [ha.out]
    have hre : R = r.data.toList := by rw [hr.out]
    have has : a.size ≤ 20000 := by rw [← kt.size_len, ← hae]; omega
    have hrs : r.size ≤ 20000 := by rw [← kt.size_len, ← hre]; omega
    rw [hae, hre] at HP
    clear hAR hA hsz hm ha hr hae hre
    clear A R
    have HT : Hid (∀ w, Calls Tryd.prog 21 #[.string a] w fun e w' => e = .returned (.bool (typeOK a.data.toList)) ∧ w = w') := fun w => rightType_any a w (by omega)
    go_enter Tryd.func11, Tryd.ntmps11
    go_wp2_with fail
    refine (HC.out _).mono ?_
    rintro e w1 ⟨rfl, hB1⟩
    have HPC1 := Lib.hid (pc_below (pc_new w) hB1)
    have HB1 : Hid (Below w.heap.size w w1) := ((Below.refl _ w).alloc (Nat.le_refl _) _).trans (hB1.mono (by simp))
    have hw1 : w.heap.size < w1.heap.size := by have := hB1.size; simp at this; omega
    clear hB1
    by_cases hty : typeOK a.data.toList = true
    · rw [if_pos hty] at HP
      have HT1 : Hid (∀ w, Calls Tryd.prog 21 #[.string a] w fun e w' => e = .returned (.bool true) ∧ w = w') := fun w => by rw [← hty]; exact HT.out w
      clear hty HT
      go_wp2_with fail
      refine (HT1.out _).mono ?_
      rintro e w2 ⟨rfl, rfl⟩
      have HCP : Hid (∀ w, Calls Tryd.prog 18 #[.string r, .string ⟨#[58]⟩] w fun e w' => e = .returned (.tuple #[.string ⟨(Lib.trimPrefix r.data.toList [58]).toArray⟩, .bool (decide (r.data.toList.head? = some 58))]) ∧ w = w') := by
        intro w
        refine (Tryd.strings_CutPrefix r ⟨#[58]⟩ w).mono ?_
        rintro e w' ⟨rfl, rfl⟩
        refine ⟨?_, rfl⟩
        rw [← pre_one]
      by_cases hco : r.data.toList.head? = some 58
      · rw [if_pos hco] at HP
        obtain ⟨q, hq⟩ : ∃ q : ByteArray, Hid (q = ⟨r.data.toList.tail.toArray⟩) := ⟨_, rfl⟩
        obtain ⟨v, hv⟩ : ∃ q : ByteArray, Hid (q = ⟨(r.data.toList.tail.dropWhile (· == 32)).toArray⟩) := ⟨_, rfl⟩
        have HCP1 : Hid (∀ w, Calls Tryd.prog 18 #[.string r, .string ⟨#[58]⟩] w fun e w' => e = .returned (.tuple #[.string q, .bool true]) ∧ w = w') := by
          intro w
          have h1 := HCP.out w
          have hd : decide (r.data.toList.head? = some 58) = true := decide_eq_true hco
          have hx : Lib.trimPrefix r.data.toList [58] = r.data.toList.tail := by
            unfold Lib.trimPrefix
            rw [pre_one, hd, if_pos rfl]
            simp
          rw [hd, hx, ← hq.out] at h1
          exact h1
        have HTL : Hid (∀ w, Calls Tryd.prog 23 #[.string q, .string ⟨#[32]⟩] w fun e w' => e = .returned (.string v) ∧ w = w') := by
          intro w
          refine (Tryd.strings_TrimLeft_one q 32 (by decide) w).mono ?_
          rintro e w' ⟨rfl, rfl⟩
          refine ⟨?_, rfl⟩
          rw [hv.out, hq.out]
          rfl
        have hvs : v.size ≤ 20000 := by
          have h1 : v.data.toList.length ≤ r.data.toList.length := by
            rw [hv.out]
            refine Nat.le_trans (List.dropWhile_sublist _).length_le ?_
            simp
          rw [kt.size_len, kt.size_len] at h1
          omega
        have hve : r.data.toList.tail.dropWhile (· == 32) = v.data.toList := by rw [hv.out]
        rw [hve] at HP
        clear hve hco HCP hq hv
        go_wp2_with fail
        refine (HCP1.out _).mono ?_
        rintro e w2 ⟨rfl, rfl⟩
        go_wp2_with fail
        refine (HTL.out _).mono ?_
        rintro e w2 ⟨rfl, rfl⟩
        go_wp2_with fail
        refine (decode_any v w1 hvs).mono ?_
        intro e w2 hE
        unfold DecRes at hE
        obtain ⟨rfl, hB2⟩ := hE
        have HPC2 := Lib.hid (pc_below HPC1.out hB2)
        have HB2 := Lib.hid (HB1.out.trans (hB2.mono (by omega)))
        clear hB2
        obtain ⟨⟨x0, c0⟩, ⟨y0, c1⟩, f0, f1⟩ := pc_cells HPC2.out
        cases hD : b64p.D v.data.toList with
        | none =>
          rw [hD] at HP
          rw [show b64p.uhV none = .tuple #[.string ⟨#[]⟩, .int .i64 4] from rfl]
          obtain ⟨e0, e1⟩ := pc_store HPC2.out a ⟨#[]⟩
          clear hD
          go_wp2_with fail
          (try simp only [Exit.inBlock, Exit.then])
          refine bodyPost_ret (v := .tuple #[.agg #[.string a, .string ⟨#[]⟩], .bool false]) (by rw [results_cell_tmp rfl]; go_simp) rfl ?_
          exact pairE_none HP.out (below_store HB2.out (Nat.le_refl _) _ _)
        | some b =>
          rw [hD] at HP
          obtain ⟨bb, hbb⟩ : ∃ q : ByteArray, Hid (q = ⟨b.toArray⟩) := ⟨_, rfl⟩
          rw [show b64p.uhV (some b) = .tuple #[.string bb, .int .i64 0] from by rw [hbb.out]; rfl]
          obtain ⟨e0, e1⟩ := pc_store HPC2.out a bb
          clear hD
          go_wp2_with fail
          (try simp only [Exit.inBlock, Exit.then])
          refine bodyPost_ret (v := .tuple #[.agg #[.string a, .string bb], .bool true]) (by rw [results_cell_tmp rfl]; go_simp) rfl ?_
          exact pairE_some (by rw [HP.out, hbb.out]; rfl) (below_store HB2.out (Nat.le_refl _) _ _)
      · rw [if_neg hco] at HP
        obtain ⟨v, hv⟩ : ∃ q : ByteArray, Hid (q = ⟨(r.data.toList.dropWhile (· == 32)).toArray⟩) := ⟨_, rfl⟩
        have HCP1 : Hid (∀ w, Calls Tryd.prog 18 #[.string r, .string ⟨#[58]⟩] w fun e w' => e = .returned (.tuple #[.string r, .bool false]) ∧ w = w') := by
          intro w
          have h1 := HCP.out w
          have hd : decide (r.data.toList.head? = some 58) = false := decide_eq_false hco
          have hx : Lib.trimPrefix r.data.toList [58] = r.data.toList := by
            unfold Lib.trimPrefix
            rw [pre_one, hd, if_neg (by simp)]
          rw [hd, hx] at h1
          exact h1
        have HTL : Hid (∀ w, Calls Tryd.prog 23 #[.string r, .string ⟨#[32]⟩] w fun e w' => e = .returned (.string v) ∧ w = w') := by
          intro w
          refine (Tryd.strings_TrimLeft_one r 32 (by decide) w).mono ?_
          rintro e w' ⟨rfl, rfl⟩
          refine ⟨?_, rfl⟩
          rw [hv.out]
          rfl
        have hvs : v.size ≤ 20000 := by
          have h1 : v.data.toList.length ≤ r.data.toList.length := by
            rw [hv.out]
            exact (List.dropWhile_sublist _).length_le
          rw [kt.size_len, kt.size_len] at h1
          omega
        have hve : r.data.toList.dropWhile (· == 32) = v.data.toList := by rw [hv.out]
        rw [hve] at HP
        have HPL : Hid (∀ w, Calls Tryd.prog 24 #[.string v] w fun e w' => e = .returned (.bool (plainOK v.data.toList)) ∧ w = w') := fun w => plain_any v w (by omega)
        obtain ⟨⟨x0, c0⟩, ⟨y0, c1⟩, f0, f1⟩ := pc_cells HPC1.out
        obtain ⟨e0, e1⟩ := pc_store HPC1.out a v
        obtain ⟨b, hb⟩ : ∃ b, Hid (plainOK v.data.toList = b) := ⟨_, rfl⟩
        have HPL1 : Hid (∀ w, Calls Tryd.prog 24 #[.string v] w fun e w' => e = .returned (.bool b) ∧ w = w') := by rw [← hb.out]; exact HPL.out
        rw [hb.out] at HP
        clear hve hco HCP hv HPL hb
        go_wp2_with fail
        refine (HCP1.out _).mono ?_
        rintro e w2 ⟨rfl, rfl⟩
        go_wp2_with fail
        refine (HTL.out _).mono ?_
        rintro e w2 ⟨rfl, rfl⟩
        go_wp2_with fail
        refine (HPL1.out _).mono ?_
        rintro e w2 ⟨rfl, rfl⟩
        go_wp2_with fail
        (try simp only [Exit.inBlock, Exit.then])
        refine bodyPost_ret (v := .tuple #[.agg #[.string a, .string v], .bool b]) (by rw [results_cell_tmp rfl]; go_simp) rfl ?_
        cases b with
        | true => exact pairE_some (by rw [HP.out]; rfl) (below_store HB1.out (Nat.le_refl _) _ _)
        | false => exact pairE_none (by rw [HP.out]; rfl) (below_store HB1.out (Nat.le_refl _) _ _)
    · rw [if_neg hty] at HP
      have HT1 : Hid (∀ w, Calls Tryd.prog 21 #[.string a] w fun e w' => e = .returned (.bool false) ∧ w = w') := fun w => by
        have h1 := HT.out w
        rw [show typeOK a.data.toList = false from by simpa using hty] at h1
        exact h1
      clear hty HT
      obtain ⟨⟨x0, c0⟩, ⟨y0, c1⟩, f0, f1⟩ := pc_cells HPC1.out
      obtain ⟨e0, e1⟩ := pc_store HPC1.out ⟨#[]⟩ ⟨#[]⟩
      go_wp2_with fail
      refine (HT1.out _).mono ?_
      rintro e w2 ⟨rfl, rfl⟩
      go_wp2_with fail
      (try simp only [Exit.inBlock, Exit.then])
      refine bodyPost_ret (v := .tuple #[.agg #[.string ⟨#[]⟩, .string ⟨#[]⟩], .bool false]) (by rw [results_cell_tmp rfl]; go_simp) rfl ?_
      exact pairE_none HP.out (below_store HB1.out (Nat.le_refl _) _ _)
  · have HP := Lib.hid (pairL_none hm)
    have HC : Hid (∀ w, Calls Tryd.prog 16 #[.string s, .string ⟨#[58]⟩] w fun e w' => e = .returned (.tuple #[.string s, .string ⟨#[]⟩, .bool false]) ∧ Below w.heap.size w w') := fun w => cut_miss s 58 w hm
    clear hm
    go_enter Tryd.func11, Tryd.ntmps11
    go_wp2_with fail
    refine (HC.out _).mono ?_
    rintro e w1 ⟨rfl, hB1⟩
    have HPC1 := Lib.hid (pc_below (pc_new w) hB1)
    have HB1 : Hid (Below w.heap.size w w1) := ((Below.refl _ w).alloc (Nat.le_refl _) _).trans (hB1.mono (by simp))
    clear hB1
    obtain ⟨⟨x0, c0⟩, ⟨y0, c1⟩, f0, f1⟩ := pc_cells HPC1.out
    obtain ⟨e0, e1⟩ := pc_store HPC1.out ⟨#[]⟩ ⟨#[]⟩
    go_wp2_with fail
    (try simp only [Exit.inBlock, Exit.then])
    refine bodyPost_ret (v := .tuple #[.agg #[.string ⟨#[]⟩, .string ⟨#[]⟩], .bool false]) (by rw [results_cell_tmp rfl]; go_simp) rfl ?_
    exact pairE_none HP.out (below_store HB1.out (Nat.le_refl _) _ _)
end ldw
end Go.Proofs.YtifplgnabkkbjaaDoor
