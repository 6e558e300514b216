/- The walk of slices.BinarySearchFunc by order; the plain law of the order. -/
import Derived.Test.YtcmpepojokmhnaaIns
import Derived.Shelf.Abstract
namespace Go.Proofs.Ytcmpepojokmhnaa
open Go.RowKit
namespace fre
set_option linter.unusedVariables false
theorem cmpI_cases (a b : Int) : (a < b ∧ cmpI a b = -1) ∨ (b < a ∧ cmpI a b = 1) ∨ (a = b ∧ cmpI a b = 0) := by
  unfold cmpI
  split
  · left; omega
  · split
    · right; left; omega
    · right; right; omega
/-- one stands ahead of the other -/
def ltF (a b : Fre) : Prop := a.txn < b.txn ∨ (a.txn = b.txn ∧ a.page < b.page)
instance (a b : Fre) : Decidable (ltF a b) := by unfold ltF; infer_instance
theorem ordF_cases (a b : Fre) : (ltF a b ∧ ordF a b = -1) ∨ (ltF b a ∧ ordF a b = 1) ∨ (a = b ∧ ordF a b = 0) := by
  obtain ⟨t, p⟩ := a
  obtain ⟨u, q⟩ := b
  unfold ltF ordF
  dsimp only
  rcases cmpI_cases t u with ⟨h, e⟩ | ⟨h, e⟩ | ⟨h, e⟩
  · rw [e, orI_no _ (by omega)]; left; exact ⟨Or.inl h, rfl⟩
  · rw [e, orI_no _ (by omega)]; right; left; exact ⟨Or.inl h, rfl⟩
  · rw [e, orI_yes]
    subst h
    rcases cmpI_cases p q with ⟨h, e⟩ | ⟨h, e⟩ | ⟨h, e⟩
    · rw [e]; left; exact ⟨Or.inr ⟨rfl, h⟩, rfl⟩
    · rw [e]; right; left; exact ⟨Or.inr ⟨rfl, h⟩, rfl⟩
    · rw [e]; right; right; exact ⟨by rw [h], rfl⟩
theorem ltF_trans {a b c : Fre} (h : ltF a b) (k : ltF b c) : ltF a c := by
  unfold ltF at *
  omega
theorem ltF_irrefl (a : Fre) : ¬ ltF a a := by unfold ltF; omega
/-- in order -/
def Asc (l : List Fre) : Prop := l.Pairwise ltF
theorem asc_get {l : List Fre} (h : Asc l) {i j : Nat} (hi : i < j) (hj : j < l.length) : ltF (l[i]'(by omega)) l[j] := List.pairwise_iff_getElem.1 h i j (by omega) hj hi
/-- a row of free pages lies at a slice -/
def Fres (w : World) (ao : Option Addr) (l : List Fre) : Prop := ∀ (i : Nat) (h : i < l.length), ∃ b o, ao = some ⟨b, o, none⟩ ∧ w.cell? ⟨b, o + i * 2, none⟩ = some (.int .i64 l[i].txn) ∧ w.cell? ⟨b, o + i * 2 + 1, none⟩ = some (.int .i64 l[i].page)
theorem fres_below {w w' : World} {ao : Option Addr} {l : List Fre} (h : Fres w ao l) (hb : Below w.heap.size w w') : Fres w' ao l := by
  intro i hi
  obtain ⟨b, o, e, h0, h1⟩ := h i hi
  have hlt : b < w.heap.size := World.block_lt_of_cell? w ⟨b, _, none⟩ h0
  exact ⟨b, o, e, (hb.cell hlt).trans h0, (hb.cell hlt).trans h1⟩
theorem seg_fres {w : World} {B : Nat} {v : Value} {l : List Fre} (h : kt.SegX w B 28 2 v l.length (l.flatMap Fre.cells)) : ∃ ao cap, v = .slice ao l.length cap ∧ l.length ≤ cap ∧ Fres w ao l := by
  obtain ⟨ao, cap, rfl, hc⟩ := kt.segX_slice h
  refine ⟨ao, cap, rfl, hc, fun i hi => ?_⟩
  obtain ⟨g, o, cap', hv, _, _, hcell⟩ := kt.segX_cell h (by omega)
  simp only [Value.slice.injEq] at hv
  obtain ⟨rfl, _, rfl⟩ := hv
  have hj : ∀ j, j < 2 → (l.flatMap Fre.cells)[i * 2 + j]? = (Fre.cells l[i])[j]? := fun j hj => kt.flat_get Fre.cells 2 (fun _ => rfl) l i j hi hj
  refine ⟨g, o, rfl, hcell _ _ (hj 0 (by omega)), ?_⟩
  rw [Nat.add_assoc]
  exact hcell _ _ (hj 1 (by omega))
/-- what BinarySearchFunc answers -/
def BinE (l : List Fre) (f : Fre) (e : Ending) : Prop := ∃ (k : Nat) (b : Bool), e = .returned (.tuple #[.int .i64 (k : Int), .bool b]) ∧ k ≤ l.length ∧ (∀ j (h : j < l.length), j < k → ltF l[j] f) ∧ (∀ j (h : j < l.length), k ≤ j → ¬ ltF l[j] f)
set_option maxHeartbeats 2000000 in
theorem bin_any (ao : Option Addr) (cap : Nat) (l : List Fre) (f : Fre) (w : World) (hl : Hid (Fres w ao l)) (ha : Hid (Asc l)) (hn : l.length ≤ 100000) :
    Calls Try.prog 29 #[.slice ao l.length cap, f.v, .func (.func 30) #[] #[]] w fun e w' => BinE l f e ∧ Below w.heap.size w w' := by
  have eg : ∀ args w, (callFunc 30 args).run Try.prog w = .ok (.enter 30 args) w := fun _ _ => rfl
  obtain ⟨t, p⟩ := f
  unfold Fre.v
  dsimp only
  have hB0 : Below w.heap.size w (w.alloc (.cells #[.int .i64 t, .int .i64 p] 28)) := (Below.refl _ _).alloc (Nat.le_refl _) _
  have d0 : (w.alloc (.cells #[.int .i64 t, .int .i64 p] 28)).heap[w.heap.size]? = some (.cells #[.int .i64 t, .int .i64 p] 28 (0, 0)) := heap_alloc_last w _
  have HB0 := Lib.hid hB0
  have D0 := Lib.hid d0
  clear hB0 d0
  go_enter Try.func29, Try.ntmps29
  go_wp2_with fail
  go_loopw [9, 10] (fun iv jv wr => ∃ (lo hi : Nat), iv = .int .i64 lo ∧ jv = .int .i64 hi ∧ lo ≤ hi ∧ hi ≤ l.length ∧ Hid (∀ j (h : j < l.length), j < lo → ltF l[j] ⟨t, p⟩) ∧ Hid (∀ j (h : j < l.length), hi ≤ j → ¬ ltF l[j] ⟨t, p⟩) ∧ Below w.heap.size w wr ∧ Hid (wr.heap[w.heap.size]? = some (.cells #[.int .i64 t, .int .i64 p] 28 (0, 0)))) (fun iv jv _ => (intOf jv).toNat - (intOf iv).toNat)
  case atStart => exact ⟨0, l.length, rfl, rfl, Nat.zero_le _, Nat.le_refl _, fun j h hj => by omega, fun j h hj => by omega, HB0.out, D0⟩
  case round =>
    obtain ⟨lo, hi, rfl, rfl, hlh, hin, I, J, hB, D⟩ := hrel
    have hsz := hB.size
    have x0 : wr.cell? ⟨w.heap.size, 0, none⟩ = some (.int .i64 t) := by rw [Lib.cell_of_heap D.out]; rfl
    have x1 : wr.cell? ⟨w.heap.size, 1, none⟩ = some (.int .i64 p) := by rw [Lib.cell_of_heap D.out]; rfl
    by_cases hlt : lo < hi
    · obtain ⟨m, hm⟩ : ∃ m : Nat, Hid (m = (lo + hi) / 2) := ⟨_, rfl⟩
      have hml : m < l.length := by rw [hm.out]; omega
      have hm1 : lo ≤ m := by rw [hm.out]; omega
      have hm2 : m < hi := by rw [hm.out]; omega
      have em : ((lo : Int) + (hi : Int)) / 2 = (m : Int) := by rw [hm.out]; omega
      have hlt' : (lo : Int) < (hi : Int) := by omega
      obtain ⟨b, o, hao, f0, f1⟩ := (fres_below hl.out hB) m hml
      obtain ⟨c, hc⟩ : ∃ c : Fre, Hid (c = l[m]'hml) := ⟨l[m]'hml, rfl⟩
      rw [← hc.out] at f0 f1
      subst hao
      have hlb : b < wr.heap.size := World.block_lt_of_cell? wr ⟨b, _, none⟩ f0
      have hlw : w.heap.size < wr.heap.size := World.block_lt_of_cell? wr ⟨w.heap.size, _, none⟩ x0
      have O := Lib.hid (fun w => order_any c ⟨t, p⟩ w)
      unfold Fre.v at O
      by_cases hq : ltF c ⟨t, p⟩
      · have e1 : ordF c ⟨t, p⟩ = -1 := by
          rcases ordF_cases c ⟨t, p⟩ with ⟨_, e⟩ | ⟨h, _⟩ | ⟨h, _⟩
          · exact e
          · exact absurd (ltF_trans hq h) (ltF_irrefl _)
          · rw [h] at hq; exact absurd hq (ltF_irrefl _)
        rw [e1] at O
        have I2 : Hid (∀ j (h : j < l.length), j < m + 1 → ltF l[j] ⟨t, p⟩) := fun j h hj => by
          by_cases e : j = m
          · subst e; rw [← hc.out]; exact hq
          · exact ltF_trans (asc_get ha.out (show j < m by omega) hml) (by rw [← hc.out]; exact hq)
        clear e1 hq
        go_wp2_with fail
        go_region_held3 (fun W => W.cell? ⟨b, o + m * 2, none⟩ = some (.int .i64 c.txn) ∧ W.cell? ⟨b, o + m * 2 + 1, none⟩ = some (.int .i64 c.page) ∧ W.cell? ⟨w.heap.size, 0, none⟩ = some (.int .i64 t) ∧ W.cell? ⟨w.heap.size, 1, none⟩ = some (.int .i64 p)) (first | exact ⟨f0, f1, x0, x1⟩ | exact ⟨(hBn.cell (p := ⟨b, o + m * 2, none⟩) hlb).trans f0, (hBn.cell (p := ⟨b, o + m * 2 + 1, none⟩) hlb).trans f1, (hBn.cell (p := ⟨w.heap.size, 0, none⟩) hlw).trans x0, (hBn.cell (p := ⟨w.heap.size, 1, none⟩) hlw).trans x1⟩)
          (first | (go_at_fn 30; refine (O.out _).mono ?_; rintro e w' ⟨rfl, hBn⟩))
        have HBn : Hid (Below wr.heap.size wr w') := (Below.refl wr.heap.size wr).drew.trans hBn
        go_wp2_with fail
        go_roundw
        case rel => exact ⟨m + 1, hi, by go_num, rfl, by omega, hin, I2, J, hB.trans (HBn.out.mono hsz), (HBn.out.block _ hlw).trans D.out⟩
        case measure => simp [intOf]; omega
      · have J2 : Hid (∀ j (h : j < l.length), m ≤ j → ¬ ltF l[j] ⟨t, p⟩) := fun j h hj hlt => by
          by_cases e : j = m
          · subst e; rw [← hc.out] at hlt; exact hq hlt
          · exact hq (by rw [hc.out]; exact ltF_trans (asc_get ha.out (show m < j by omega) h) hlt)
        obtain ⟨z, hz, hz0⟩ : ∃ z : Int, ordF c ⟨t, p⟩ = z ∧ 0 ≤ z := by
          rcases ordF_cases c ⟨t, p⟩ with ⟨h, _⟩ | ⟨_, e⟩ | ⟨_, e⟩
          · exact absurd h hq
          · exact ⟨1, e, by omega⟩
          · exact ⟨0, e, by omega⟩
        rw [hz] at O
        have hz' : ¬ z < 0 := by omega
        clear hz hq
        go_wp2_with fail
        go_region_held3 (fun W => W.cell? ⟨b, o + m * 2, none⟩ = some (.int .i64 c.txn) ∧ W.cell? ⟨b, o + m * 2 + 1, none⟩ = some (.int .i64 c.page) ∧ W.cell? ⟨w.heap.size, 0, none⟩ = some (.int .i64 t) ∧ W.cell? ⟨w.heap.size, 1, none⟩ = some (.int .i64 p)) (first | exact ⟨f0, f1, x0, x1⟩ | exact ⟨(hBn.cell (p := ⟨b, o + m * 2, none⟩) hlb).trans f0, (hBn.cell (p := ⟨b, o + m * 2 + 1, none⟩) hlb).trans f1, (hBn.cell (p := ⟨w.heap.size, 0, none⟩) hlw).trans x0, (hBn.cell (p := ⟨w.heap.size, 1, none⟩) hlw).trans x1⟩)
          (first | (go_at_fn 30; refine (O.out _).mono ?_; rintro e w' ⟨rfl, hBn⟩))
        have HBn : Hid (Below wr.heap.size wr w') := (Below.refl wr.heap.size wr).drew.trans hBn
        go_wp2_with fail
        go_roundw
        case rel => exact ⟨lo, m, rfl, by go_num, by omega, by omega, I, J2, hB.trans (HBn.out.mono hsz), (HBn.out.block _ hlw).trans D.out⟩
        case measure => simp [intOf]; omega
    · obtain rfl : hi = lo := by omega
      have hlt' : ¬ (hi : Int) < (hi : Int) := by omega
      by_cases hil : hi < l.length
      · have hil' : (hi : Int) < (l.length : Int) := by omega
        obtain ⟨b, o, hao, f0, f1⟩ := (fres_below hl.out hB) hi hil
        obtain ⟨c, hc⟩ : ∃ c : Fre, Hid (c = l[hi]'hil) := ⟨l[hi]'hil, rfl⟩
        rw [← hc.out] at f0 f1
        subst hao
        have hlb : b < wr.heap.size := World.block_lt_of_cell? wr ⟨b, _, none⟩ f0
        have hlw : w.heap.size < wr.heap.size := World.block_lt_of_cell? wr ⟨w.heap.size, _, none⟩ x0
        have O := Lib.hid (fun w => order_any c ⟨t, p⟩ w)
        unfold Fre.v at O
        generalize ordF c ⟨t, p⟩ = z at O
        go_wp2_with fail
        go_region_held3 (fun W => W.cell? ⟨b, o + hi * 2, none⟩ = some (.int .i64 c.txn) ∧ W.cell? ⟨b, o + hi * 2 + 1, none⟩ = some (.int .i64 c.page) ∧ W.cell? ⟨w.heap.size, 0, none⟩ = some (.int .i64 t) ∧ W.cell? ⟨w.heap.size, 1, none⟩ = some (.int .i64 p)) (first | exact ⟨f0, f1, x0, x1⟩ | exact ⟨(hBn.cell (p := ⟨b, o + hi * 2, none⟩) hlb).trans f0, (hBn.cell (p := ⟨b, o + hi * 2 + 1, none⟩) hlb).trans f1, (hBn.cell (p := ⟨w.heap.size, 0, none⟩) hlw).trans x0, (hBn.cell (p := ⟨w.heap.size, 1, none⟩) hlw).trans x1⟩)
          (first | (go_at_fn 30; refine (O.out _).mono ?_; rintro e w' ⟨rfl, hBn⟩))
        have HBn : Hid (Below wr.heap.size wr w') := (Below.refl wr.heap.size wr).drew.trans hBn
        go_wp2_with fail
        go_ret2
        exact ⟨⟨hi, _, rfl, hin, I.out, J.out⟩, hB.trans (HBn.out.mono hsz)⟩
      · have hil' : ¬ (hi : Int) < (l.length : Int) := by omega
        go_wp2_with fail
        go_region
        all_goals go_wp2_with fail
        all_goals go_ret2
        all_goals exact ⟨⟨hi, _, rfl, hin, I.out, J.out⟩, hB.drew⟩
end fre
end Go.Proofs.Ytcmpepojokmhnaa
