/- A free page; the walks of right, cmp.Compare, cmp.Or, order. -/
import Derived.Test.YtcmpepojokmhnaaKit
import Derived.Test.YtcmpepojokmhnaaRows
import Derived.Deep.RegionHeld3
import Derived.Deep.WholeRow
namespace Go.Proofs.Ytcmpepojokmhnaa
open Go.RowKit
namespace fre
set_option linter.unusedVariables false
theorem size1 (w : World) (o : Obj) : (w.alloc o).heap.size = w.heap.size + 1 := by
  show (w.heap.push o).size = _
  simp
structure Fre where
  txn : Int
  page : Int
deriving DecidableEq
def Fre.v (c : Fre) : Value := .agg #[.int .i64 c.txn, .int .i64 c.page]
def Fre.cells (c : Fre) : List Value := [.int .i64 c.txn, .int .i64 c.page]
/-- may one be -/
def okF (c : Fre) : Prop := 0 ≤ c.txn ∧ c.txn ≤ 1099511627776 ∧ 1 ≤ c.page ∧ c.page < 512
instance (c : Fre) : Decidable (okF c) := by unfold okF; infer_instance
/-- the order of two numbers -/
def cmpI (a b : Int) : Int := if a < b then -1 else if b < a then 1 else 0
/-- the first that is not nought -/
def orI (a b : Int) : Int := if a = 0 then b else a
def OrRel (i : Nat) (a b : Int) : Prop := (0 < i → a = 0) ∧ (1 < i → b = 0)
theorem orRel0 (a b : Int) : OrRel 0 a b := ⟨fun h => by omega, fun h => by omega⟩
theorem orRel1 (b : Int) : OrRel 1 0 b := ⟨fun _ => rfl, fun h => by omega⟩
theorem orRel2 : OrRel 2 0 0 := ⟨fun _ => rfl, fun _ => rfl⟩
theorem orI_no {a : Int} (b : Int) (h : ¬ a = 0) : orI a b = a := if_neg h
theorem orI_yes (b : Int) : orI 0 b = b := if_pos rfl
/-- the order of two free pages -/
def ordF (a b : Fre) : Int := orI (cmpI a.txn b.txn) (cmpI a.page b.page)
theorem right_any (c : Fre) (w : World) : Calls Try.prog 28 #[c.v] w fun e w' => e = .returned (.bool (decide (okF c))) ∧ Below w.heap.size w w' := by
  obtain ⟨t, p⟩ := c
  unfold Fre.v
  dsimp only
  obtain ⟨r, hr⟩ : ∃ r : Bool, Hid (r = decide (okF ⟨t, p⟩)) := ⟨_, rfl⟩
  rw [← hr.out]
  go_enter Try.func28, Try.ntmps28
  go_wp2_with fail
  all_goals go_ret
  all_goals refine ⟨kt.ret_bool ?_, (Below.refl _ _).alloc (Nat.le_refl _) _⟩
  all_goals (rw [hr.out]; unfold okF; simp_all)
  all_goals first | (intros; exfalso; omega) | (intros; omega) | (refine decide_eq_false ?_; rintro ⟨_, _, _⟩; omega)
theorem isNaN_any (x : Int) (w : World) : Calls Try.prog 45 #[.int .i64 x] w fun e w' => e = .returned (.bool false) ∧ w = w' := by
  have h : (x == x) = true := by simp
  go_enter Try.func45, Try.ntmps45
  go_wp2_with fail
  go_ret
  exact ⟨rfl, rfl⟩
theorem cmp_any (a b : Int) (w : World) : Calls Try.prog 41 #[.int .i64 a, .int .i64 b] w fun e w' => e = .returned (.int .i64 (cmpI a b)) ∧ w = w' := by
  have N := Lib.hid isNaN_any
  by_cases h1 : a < b
  · have hc : cmpI a b = -1 := by unfold cmpI; rw [if_pos h1]
    have HC := Lib.hid hc
    clear hc
    go_enter Try.func41, Try.ntmps41
    go_wp2_with (go_at_call 45; refine (N.out _ _).mono ?_; rintro e w1 ⟨rfl, rfl⟩)
    go_ret
    exact ⟨by rw [HC.out]; rfl, rfl⟩
  · by_cases h2 : b < a
    · have hc : cmpI a b = 1 := by unfold cmpI; rw [if_neg h1, if_pos h2]
      have HC := Lib.hid hc
      clear hc
      go_enter Try.func41, Try.ntmps41
      go_wp2_with (go_at_call 45; refine (N.out _ _).mono ?_; rintro e w1 ⟨rfl, rfl⟩)
      go_ret
      exact ⟨by rw [HC.out]; rfl, rfl⟩
    · have hc : cmpI a b = 0 := by unfold cmpI; rw [if_neg h1, if_neg h2]
      have HC := Lib.hid hc
      clear hc
      go_enter Try.func41, Try.ntmps41
      go_wp2_with (go_at_call 45; refine (N.out _ _).mono ?_; rintro e w1 ⟨rfl, rfl⟩)
      go_ret
      exact ⟨by rw [HC.out]; rfl, rfl⟩
theorem or_any (a b : Int) (g : Nat) (w : World) (h0 : w.cell? ⟨g, 0, none⟩ = some (.int .i64 a)) (h1 : w.cell? ⟨g, 1, none⟩ = some (.int .i64 b)) :
    Calls Try.prog 40 #[.slice (some ⟨g, 0, none⟩) 2 2] w fun e w' => e = .returned (.int .i64 (orI a b)) ∧ w = w' := by
  go_enter Try.func40, Try.ntmps40
  go_wp2_with fail
  go_loopw [8] (fun iv wr => ∃ i : Nat, i ≤ 2 ∧ iv = .int .i64 i ∧ OrRel i a b ∧ w = wr) (fun iv _ => 2 - (intOf iv).toNat)
  case atStart => exact ⟨0, by omega, rfl, orRel0 _ _, rfl⟩
  case round =>
    obtain ⟨i, hi, rfl, hz, rfl⟩ := hrel
    match i, hi with
    | 0, _ =>
      by_cases ha : a = 0
      · subst ha
        go_wp2_with fail
        go_roundw
        case rel => exact ⟨1, by omega, by go_num, orRel1 _, by trivial⟩
        case measure => simp [intOf]
      · have ha' : (a == 0) = false := by simpa using ha
        have HA := Lib.hid ha
        clear ha
        go_wp2_with fail
        go_ret
        exact ⟨by rw [orI_no _ HA.out]; rfl, rfl⟩
    | 1, _ =>
      have ha := hz.1 (by omega)
      subst ha
      by_cases hb : b = 0
      · subst hb
        go_wp2_with fail
        go_roundw
        case rel => exact ⟨2, by omega, by go_num, orRel2, by trivial⟩
        case measure => simp [intOf]
      · have hb' : (b == 0) = false := by simpa using hb
        have HB := Lib.hid hb
        clear hb
        go_wp2_with fail
        go_ret
        exact ⟨by rw [orI_yes]; rfl, rfl⟩
    | 2, _ =>
      have ha := hz.1 (by omega)
      have hb := hz.2 (by omega)
      subst ha hb
      go_wp2_with fail
      go_ret
      exact ⟨by rw [orI_yes]; rfl, rfl⟩
set_option maxHeartbeats 1000000 in
theorem order_any (x y : Fre) (w : World) : Calls Try.prog 30 #[x.v, y.v] w fun e w' => e = .returned (.int .i64 (ordF x y)) ∧ Below w.heap.size w w' := by
  obtain ⟨t, p⟩ := x
  obtain ⟨u, q⟩ := y
  unfold Fre.v ordF
  dsimp only
  have C := Lib.hid cmp_any
  have O := Lib.hid or_any
  have C1 := Lib.hid (fun w => cmp_any t u w)
  have C2 := Lib.hid (fun w => cmp_any p q w)
  generalize cmpI t u = a at C1 ⊢
  generalize cmpI p q = b at C2 ⊢
  have s1 := size1 w (.cells #[.int .i64 t, .int .i64 p] 28)
  have hB0 : Below w.heap.size w ((w.alloc (.cells #[.int .i64 t, .int .i64 p] 28)).alloc (.cells #[.int .i64 u, .int .i64 q] 28)) := ((Below.refl _ _).alloc (Nat.le_refl _) _).alloc (by omega) _
  have d0 : ((w.alloc (.cells #[.int .i64 t, .int .i64 p] 28)).alloc (.cells #[.int .i64 u, .int .i64 q] 28)).heap[w.heap.size]? = some (.cells #[.int .i64 t, .int .i64 p] 28 (0, 0)) := by rw [Below.heap_alloc _ _ _ (by omega)]; exact heap_alloc_last w _
  have d1 : ((w.alloc (.cells #[.int .i64 t, .int .i64 p] 28)).alloc (.cells #[.int .i64 u, .int .i64 q] 28)).heap[w.heap.size + 1]? = some (.cells #[.int .i64 u, .int .i64 q] 28 (0, 0)) := by rw [← s1]; exact heap_alloc_last _ _
  have HB0 := Lib.hid hB0
  have D0 := Lib.hid d0
  have D1 := Lib.hid d1
  clear hB0 d0 d1
  go_enter Try.func30, Try.ntmps30
  go_wp2_with fail
  have hB0 := HB0.out
  have d0 := D0.out
  have d1 := D1.out
  generalize (w.alloc (.cells #[.int .i64 t, .int .i64 p] 28)).alloc (.cells #[.int .i64 u, .int .i64 q] 28) = w0 at hB0 d0 d1 ⊢
  have x0 : w0.cell? ⟨w.heap.size, 0, none⟩ = some (.int .i64 t) := by rw [Lib.cell_of_heap d0]; rfl
  have x1 : w0.cell? ⟨w.heap.size, 1, none⟩ = some (.int .i64 p) := by rw [Lib.cell_of_heap d0]; rfl
  have y0 : w0.cell? ⟨w.heap.size + 1, 0, none⟩ = some (.int .i64 u) := by rw [Lib.cell_of_heap d1]; rfl
  have y1 : w0.cell? ⟨w.heap.size + 1, 1, none⟩ = some (.int .i64 q) := by rw [Lib.cell_of_heap d1]; rfl
  have hl0 : w.heap.size < w0.heap.size := World.block_lt_of_cell? w0 ⟨w.heap.size, _, none⟩ x0
  have hl1 : w.heap.size + 1 < w0.heap.size := World.block_lt_of_cell? w0 ⟨w.heap.size + 1, _, none⟩ y0
  clear HB0 D0 D1 d0 d1
  go_region_held3 (fun W => W.cell? ⟨w.heap.size, 0, none⟩ = some (.int .i64 t) ∧ W.cell? ⟨w.heap.size, 1, none⟩ = some (.int .i64 p) ∧ W.cell? ⟨w.heap.size + 1, 0, none⟩ = some (.int .i64 u) ∧ W.cell? ⟨w.heap.size + 1, 1, none⟩ = some (.int .i64 q)) (first | exact ⟨x0, x1, y0, y1⟩ | exact ⟨(((Below.refl _ _).alloc (Nat.le_refl _) _).drew.cell (p := ⟨w.heap.size, 0, none⟩) hl0).trans x0, (((Below.refl _ _).alloc (Nat.le_refl _) _).drew.cell (p := ⟨w.heap.size, 1, none⟩) hl0).trans x1, (((Below.refl _ _).alloc (Nat.le_refl _) _).drew.cell (p := ⟨w.heap.size + 1, 0, none⟩) hl1).trans y0, (((Below.refl _ _).alloc (Nat.le_refl _) _).drew.cell (p := ⟨w.heap.size + 1, 1, none⟩) hl1).trans y1⟩)
    (first | (go_at_call_of 41 (Value.int IntKind.i64 t); refine (C1.out _).mono ?_; rintro e w' ⟨rfl, rfl⟩) | (go_at_call_of 41 (Value.int IntKind.i64 p); refine (C2.out _).mono ?_; rintro e w' ⟨rfl, rfl⟩) | (go_at_call 40; refine (O.out a b _ _ (by show (World.alloc _ _).cell? _ = _; rw [World.cell?_alloc_new]; rfl) (by show (World.alloc _ _).cell? _ = _; rw [World.cell?_alloc_new]; rfl)).mono ?_; rintro e w' ⟨rfl, rfl⟩))
  go_wp2_with fail
  go_ret
  exact ⟨rfl, hB0.drew.alloc hB0.drew.size _⟩
end fre
end Go.Proofs.Ytcmpepojokmhnaa
