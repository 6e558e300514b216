/- The walks of the reference's list: Has, Add, Take. -/
import Derived.Test.YtcmpepojokmhnaaREnc
import Derived.Test.YtcmpepojokmhnaaAwake
namespace Go.Proofs.Ytcmpepojokmhnaa
open Go.RowKit
namespace fre
set_option linter.unusedVariables false
set_option linter.unusedSimpArgs false
/-- the reference's list at p: its pages m, its row v -/
def IsRef (w : World) (B p : Nat) (v : Value) (m : List Fre) : Prop := B ≤ p ∧ w.heap[p]? = some (.cells #[v] 41 (0, 0)) ∧ kt.SegX w B 28 2 v m.length (m.flatMap Fre.cells) ∧ v.ownBlock ≠ some p
theorem isRef_below {w w' : World} {B p : Nat} {v : Value} {m : List Fre} (h : IsRef w B p v m) (hb : Below w.heap.size w w') : IsRef w' B p v m :=
  ⟨h.1, (hb.block _ (kt.bld_lt h.2.1)).trans h.2.1, kt.segX_below h.2.2.1 hb, h.2.2.2⟩
theorem ref_cell {w : World} {B p : Nat} {v : Value} {m : List Fre} (h : IsRef w B p v m) : w.cell? ⟨p, 0, none⟩ = some v := by rw [Lib.cell_of_heap h.2.1]; rfl
/-- is a page there -/
def hasP (m : List Fre) (k : Int) : Bool := m.any fun f => f.page == k
set_option maxHeartbeats 1000000 in
theorem rhas_any {B p : Nat} {v : Value} {m : List Fre} (k : Int) (w : World) (h : Hid (IsRef w B p v m)) (hn : m.length ≤ 1000000) :
    Calls Try.prog 19 #[.pointer (some ⟨p, 0, none⟩), .int .i64 k] w fun e w' => e = .returned (.bool (hasP m k)) ∧ w = w' := by
  have hc := ref_cell h.out
  obtain ⟨ao, cap, rfl, _, hF⟩ := seg_fres h.out.2.2.1
  obtain ⟨r, hr⟩ : ∃ r : Bool, Hid (r = hasP m k) := ⟨_, rfl⟩
  rw [← hr.out]
  have HF := Lib.hid hF
  clear hF
  go_enter Try.func19, Try.ntmps19
  go_wp2_with fail
  go_loop [5] (fun iv => ∃ i : Nat, i ≤ m.length ∧ iv = .int .i64 i ∧ Hid (∀ j (hj : j < m.length), j < i → ¬ m[j].page = k)) (fun iv => m.length - (intOf iv).toNat)
  case atStart => exact ⟨0, Nat.zero_le _, rfl, fun j hj h => by omega⟩
  case round =>
    obtain ⟨i, hi, rfl, hA⟩ := hrel
    by_cases hil : i < m.length
    · have hil' : (i : Int) < (m.length : Int) := by omega
      obtain ⟨c, hcc⟩ : ∃ c : Fre, Hid (c = m[i]'hil) := ⟨m[i]'hil, rfl⟩
      obtain ⟨b, o, hao, f0, f1⟩ := HF.out i hil
      rw [← hcc.out] at f0 f1
      subst hao
      by_cases hp : c.page = k
      · have HR : Hid (r = true) := by
          show _ = _
          rw [hr.out]
          unfold hasP
          rw [List.any_eq_true]
          exact ⟨m[i], List.getElem_mem hil, by rw [← hcc.out, hp]; simp⟩
        have hp' : (c.page == k) = true := by simpa using hp
        clear hp
        go_wp2_with fail
        go_ret
        exact ⟨by rw [HR.out]; rfl, rfl⟩
      · have hp' : (c.page == k) = false := by simpa using hp
        have HA : Hid (∀ j (hj : j < m.length), j < i + 1 → ¬ m[j].page = k) := fun j hj h => by
          by_cases e : j = i
          · subst e; rw [← hcc.out]; exact hp
          · exact hA.out j hj (by omega)
        clear hp
        go_wp2_with fail
        go_round
        case rel => exact ⟨i + 1, by omega, by go_num, HA⟩
        case measure => simp [intOf]; omega
    · obtain rfl : i = m.length := by omega
      have hil' : ¬ (m.length : Int) < (m.length : Int) := by omega
      have HR : Hid (r = false) := by
        show _ = _
        rw [hr.out]
        unfold hasP
        rw [Bool.eq_false_iff]
        intro hh
        obtain ⟨x, hx, e⟩ := List.any_eq_true.1 hh
        obtain ⟨j, hj, rfl⟩ := List.mem_iff_getElem.1 hx
        exact hA.out j hj hj (by simpa using e)
      go_wp2_with fail
      go_ret
      exact ⟨by rw [HR.out]; rfl, rfl⟩
theorem seg_app {w : World} {B : Nat} {v : Value} {l : List Fre} (c : Fre) (h : kt.SegX w B 28 2 v l.length (l.flatMap Fre.cells)) (hn : l.length ≤ 1000000) (hb : B ≤ w.heap.size) :
    ∃ v' w1, (Builtin.append_ #[39, 39] 39 #[v, .slice (some ⟨w.heap.size, 0, none⟩) 1 1]).run Try.prog (w.alloc (.cells #[.int .i64 c.txn, .int .i64 c.page] 28)) = .ok v' w1 ∧ kt.SegX w1 B 28 2 v' (l ++ [c]).length ((l ++ [c]).flatMap Fre.cells) ∧ w.grownBy w1 v.ownBlock ∧ kt.SameOrNew w v v' := by
  have hal : Below w.heap.size w (w.alloc (.cells #[.int .i64 c.txn, .int .i64 c.page] 28)) := (Below.refl _ _).alloc (Nat.le_refl _) _
  obtain ⟨v', w1, hr, ho, hg, hs⟩ := kt.segX_append (P := Try.prog) (ty := 39) (B := B) Try.underlying39 infoF rfl (by omega) ⟨w.heap.size, 0, none⟩ 1 1 c.cells rfl (new_cells (heap_alloc_last w _)) (cells_one c) (kt.segX_below h hal) (by unfold maxLen; omega) (by omega) (Nat.le_trans hb hal.size)
  refine ⟨v', w1, hr, ?_, ⟨hg.os, hg.tape, hg.output, Nat.le_trans hal.size hg.size, fun k hk hne => (hg.block k (Nat.lt_of_lt_of_le hk hal.size) hne).trans (hal.block k hk)⟩, fun k hk => ?_⟩
  · rw [List.length_append, List.flatMap_append]
    simpa using ho
  · rcases hs k hk with e | e
    · exact Or.inl e
    · exact Or.inr (Nat.le_trans hal.size e)
/-- what Add makes of the reference's list -/
def raddP (m : List Fre) (f : Fre) : List Fre × Int := if okF f then (if hasP m f.page then (m, 8) else (m ++ [f], 0)) else (m, 1)
def RAddE (w : World) (B p : Nat) (v : Value) (m : List Fre) (f : Fre) (e : Ending) (w' : World) : Prop := e = .returned (.int .i64 (raddP m f).2) ∧ (∃ v', IsRef w' B p v' (raddP m f).1 ∧ kt.SameOrNew w v v') ∧ Touch w w' p v
theorem radd_end {B p : Nat} {v s' : Value} {m : List Fre} (f : Fre) {w w1 w2 : World} (h : IsRef w B p v m) (hB : Below w.heap.size w w1) (hR : IsRef w1 B p v m) (hA : raddP m f = (m ++ [f], 0)) (hg : w1.drew.grownBy w2 v.ownBlock)
    (hO : kt.SegX w2 B 28 2 s' (m ++ [f]).length ((m ++ [f]).flatMap Fre.cells)) (hS : kt.SameOrNew w1.drew v s') : RAddE w B p v m f (.returned (.int .i64 0)) (w2.setCell ⟨p, 0, none⟩ s') := by
  have hlp : p < w1.heap.size := kt.bld_lt hR.2.1
  have hp2 : w2.heap[p]? = some (.cells #[v] 41 (0, 0)) := (hg.block p hlp (fun e => hR.2.2.2 e.symm)).trans hR.2.1
  have hz : w1.drew.heap.size = w1.heap.size := rfl
  have hz2 := hB.size
  have hz3 := hg.size
  have hne : s'.ownBlock ≠ some p := fun e => by
    rcases hS p e with e' | e'
    · exact hR.2.2.2 e'
    · omega
  refine ⟨by rw [hA], ⟨s', ?_, fun k hk => ?_⟩, ?_⟩
  · rw [hA]
    exact ⟨h.1, set_same (j := 0) hp2 _, kt.segX_same hO (fun k hk => Below.heap_setCell _ _ _ _ (fun e => hne (by have e' : k = p := e; rw [← e']; exact hk))), hne⟩
  · rcases hS k hk with e' | e'
    · exact Or.inl e'
    · exact Or.inr (by omega)
  · exact ⟨hg.os.trans hB.os, hg.tape.trans hB.tape, hg.output.trans hB.output, by rw [World.size_setCell]; omega, fun j hj hjp hjv => (Below.heap_setCell _ _ _ _ hjp).trans ((hg.block j (by omega) (fun e => hjv e.symm)).trans (hB.block j hj))⟩
set_option maxRecDepth 20000 in
set_option maxHeartbeats 2000000 in
theorem radd_any {B p : Nat} {v : Value} {m : List Fre} (f : Fre) (w : World) (h : Hid (IsRef w B p v m)) (hn : m.length ≤ 900000) (hbase : B ≤ w.heap.size) :
    Calls Try.prog 15 #[.pointer (some ⟨p, 0, none⟩), f.v] w fun e w' => RAddE w B p v m f e w' := by
  have HB0 : Hid (Below w.heap.size w (w.alloc (.cells #[.int .i64 f.txn, .int .i64 f.page] 28))) := (Below.refl _ _).alloc (Nat.le_refl _) _
  have D0 : Hid ((w.alloc (.cells #[.int .i64 f.txn, .int .i64 f.page] 28)).heap[w.heap.size]? = some (.cells #[.int .i64 f.txn, .int .i64 f.page] 28 (0, 0))) := heap_alloc_last w _
  have R := Lib.hid (fun w => rright_any f w)
  unfold Fre.v at R ⊢
  by_cases hok : okF f
  · rw [decide_eq_true hok] at R
    have HOK := Lib.hid hok
    clear hok
    have HS := Lib.hid (fun (w' : World) (hb : IsRef w' B p v m) => rhas_any f.page w' (Lib.hid hb) (by omega))
    go_enter Try.func15, Try.ntmps15
    go_wp2_with fail
    refine (R.out _).mono ?_
    rintro e w1 ⟨rfl, hB1⟩
    have HBL : Hid (Below w.heap.size w w1) := HB0.out.trans (hB1.mono HB0.out.size)
    have hd1 := (hB1.block _ (kt.bld_lt D0.out)).trans D0.out
    have hR1 := isRef_below h.out HBL.out
    have y0 : w1.cell? ⟨w.heap.size, 0, none⟩ = some (.int .i64 f.txn) := by rw [Lib.cell_of_heap hd1]; rfl
    have y1 : w1.cell? ⟨w.heap.size, 1, none⟩ = some (.int .i64 f.page) := by rw [Lib.cell_of_heap hd1]; rfl
    have HR1 := Lib.hid hR1
    have HD1 := Lib.hid hd1
    clear hR1 hd1
    go_wp2_with fail
    refine (HS.out w1 HR1.out).mono ?_
    rintro e w1 ⟨rfl, rfl⟩
    cases hh : hasP m f.page with
    | true =>
      have HA : Hid (raddP m f = (m, 8)) := by show _ = _; unfold raddP; rw [if_pos HOK.out, if_pos hh]
      clear hh
      go_wp2_with fail
      go_ret
      exact ⟨by rw [HA.out]; rfl, ⟨v, by rw [HA.out]; exact HR1.out, fun k hk => Or.inl hk⟩, touch_below HBL.out p v⟩
    | false =>
      have HA : Hid (raddP m f = (m ++ [f], 0)) := by show _ = _; unfold raddP; rw [if_pos HOK.out, if_neg (by rw [hh]; simp)]
      clear hh
      obtain ⟨ao, cap, hv, _, _⟩ := seg_fres HR1.out.2.2.1
      have z0 := ref_cell HR1.out
      have hlp : p < w1.heap.size := kt.bld_lt HR1.out.2.1
      have hlw : w.heap.size < w1.heap.size := kt.bld_lt HD1.out
      have hszb := HBL.out.size
      obtain ⟨v', w2, hap, hO2, hg2, hs2⟩ := seg_app f (w := w1.drew) (kt.segX_below HR1.out.2.2.1 (Below.refl _ _).drew) (by omega) (Nat.le_trans hbase hszb)
      obtain ⟨ao', cap', hv', _, _⟩ := seg_fres hO2
      obtain ⟨n', hn'⟩ : ∃ n' : Nat, Hid ((m ++ [f]).length = n') := ⟨_, rfl⟩
      rw [hn'.out] at hv'
      subst hv'
      rw [hv] at z0 hap
      have hap' : (Builtin.append_ #[39, 39] 39 #[.slice ao m.length cap, .slice (some ⟨w1.heap.size, 0, none⟩) 1 1]).run Try.prog (w1.alloc (.cells #[.int .i64 f.txn, .int .i64 f.page] 28)).drew = .ok (.slice ao' n' cap') w2 := hap
      have z0a : (w1.alloc (.cells #[.int .i64 f.txn, .int .i64 f.page] 28)).cell? ⟨p, 0, none⟩ = some (.slice ao m.length cap) := (((Below.refl _ _).alloc (Nat.le_refl _) _).cell (p := ⟨p, 0, none⟩) hlp).trans z0
      have HV := Lib.hid hv
      have q0 : w2.cell? ⟨p, 0, none⟩ = some (.slice ao m.length cap) := by
        rw [Lib.cell_of_heap ((hg2.block p hlp (fun e => HR1.out.2.2.2 e.symm)).trans HR1.out.2.1), ← HV.out]
        rfl
      have qf : w2.frozen? ⟨p, 0, none⟩ = false := Lib.frozen_of_heap ((hg2.block p hlp (fun e => HR1.out.2.2.2 e.symm)).trans HR1.out.2.1) 0
      have HG2 := Lib.hid hg2
      have HO2 := Lib.hid hO2
      have HS2 := Lib.hid hs2
      have HAP := Lib.hid hap'
      clear hv hO2 hg2 hs2 hap hap'
      go_wp2_with fail
      first | (go_region_law (refine kt.step_append_run rfl _ _ 39 39 rfl _ _ (by simp [Act.eval, Act.put]) (by simp [Act.eval, Act.put]) _ _ HAP.out ?_)) | fail
      all_goals go_wp2_with fail
      all_goals go_ret
      all_goals exact radd_end f h.out HBL.out HR1.out HA.out HG2.out HO2.out HS2.out
  · have HA : Hid (raddP m f = (m, 1)) := by show _ = _; unfold raddP; rw [if_neg hok]
    rw [decide_eq_false hok] at R
    clear hok
    go_enter Try.func15, Try.ntmps15
    go_wp2_with fail
    refine (R.out _).mono ?_
    rintro e w1 ⟨rfl, hB1⟩
    have HBL : Hid (Below w.heap.size w w1) := HB0.out.trans (hB1.mono HB0.out.size)
    go_wp2_with fail
    go_ret
    exact ⟨by rw [HA.out]; rfl, ⟨v, by rw [HA.out]; exact isRef_below h.out HBL.out, fun k hk => Or.inl hk⟩, touch_below HBL.out p v⟩
end fre
end Go.Proofs.Ytcmpepojokmhnaa
