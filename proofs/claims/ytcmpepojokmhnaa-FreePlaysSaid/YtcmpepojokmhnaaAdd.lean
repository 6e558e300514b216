/- The walk of Add. -/
import Derived.Test.YtcmpepojokmhnaaNew
namespace Go.Proofs.Ytcmpepojokmhnaa
open Go.RowKit
namespace fre
set_option linter.unusedVariables false
/-- is a page here -/
def hereB (l : List Fre) (k : Nat) : Bool := l.any fun f => f.page == (k : Int)
/-- a list at p: its pages l, its row v -/
def IsList (w : World) (B p : Nat) (v : Value) (l : List Fre) : Prop :=
  B ≤ p ∧ w.heap[p]? = some (.cells (lcells v (hereB l)) 55 (0, 0)) ∧ kt.SegX w B 28 2 v l.length (l.flatMap Fre.cells) ∧ v.ownBlock ≠ some p
/-- nothing has turned but p and v's block -/
structure Touch (w w' : World) (p : Nat) (v : Value) : Prop where
  os : w'.os = w.os
  tape : w'.tape = w.tape
  output : w'.output = w.output
  size : w.heap.size ≤ w'.heap.size
  block : ∀ k, k < w.heap.size → k ≠ p → v.ownBlock ≠ some k → w'.heap[k]? = w.heap[k]?
theorem touch_below {w w' : World} (h : Below w.heap.size w w') (p : Nat) (v : Value) : Touch w w' p v := ⟨h.os, h.tape, h.output, h.size, fun k hk _ _ => h.block k hk⟩
theorem touch_Below {w w' : World} {p B : Nat} {v : Value} (h : Touch w w' p v) (hb : B ≤ w.heap.size) (hp : B ≤ p) (hv : ∀ k, v.ownBlock = some k → B ≤ k) : Below B w w' :=
  ⟨h.os, h.tape, h.output, h.size, fun k hk => h.block k (by omega) (by omega) (fun e => by have := hv k e; omega)⟩
theorem isList_below {w w' : World} {B p : Nat} {v : Value} {l : List Fre} (h : IsList w B p v l) (hb : Below w.heap.size w w') : IsList w' B p v l :=
  ⟨h.1, (hb.block _ (kt.bld_lt h.2.1)).trans h.2.1, kt.segX_below h.2.2.1 hb, h.2.2.2⟩
theorem lcN_get (n : Nat) (v : Value) (h : Nat → Bool) (k : Nat) (hk : k < n) : (lcN n v h)[1 + k]? = some (.bool (h k)) := by
  unfold lcN
  rw [Nat.add_comm, List.getElem?_cons_succ, List.getElem?_map, List.getElem?_range hk]
  rfl
theorem lcells_get (v : Value) (h : Nat → Bool) (k : Nat) (hk : k < 512) : (lcells v h)[1 + k]? = some (.bool (h k)) := by
  unfold lcells
  rw [List.getElem?_toArray]
  exact lcN_get 512 v h k hk
theorem lcells_zero (v : Value) (h : Nat → Bool) : (lcells v h)[0]? = some v := by
  unfold lcells
  rw [List.getElem?_toArray]
  rfl
theorem list_cell0 {w : World} {B p : Nat} {v : Value} {l : List Fre} (h : IsList w B p v l) : w.cell? ⟨p, 0, none⟩ = some v := by rw [Lib.cell_of_heap h.2.1]; exact lcells_zero _ _
theorem list_cellk {w : World} {B p : Nat} {v : Value} {l : List Fre} (h : IsList w B p v l) (k : Nat) (hk : k < 512) : w.cell? ⟨p, 1 + k, none⟩ = some (.bool (hereB l k)) := by rw [Lib.cell_of_heap h.2.1]; exact lcells_get _ _ _ hk
/-- put in its place -/
def insF : List Fre → Fre → List Fre
  | [], f => [f]
  | a :: r, f => if ltF a f then a :: insF r f else f :: a :: r
theorem insF_at : ∀ (l : List Fre) (f : Fre) (k : Nat), k ≤ l.length → (∀ j (h : j < l.length), j < k → ltF l[j] f) → (∀ j (h : j < l.length), k ≤ j → ¬ ltF l[j] f) → l.take k ++ [f] ++ l.drop k = insF l f
  | [], f, k, hk, _, _ => by simp [insF]
  | a :: r, f, 0, hk, h1, h2 => by
    have := h2 0 (by simp) (Nat.le_refl _)
    simp only [List.getElem_cons_zero] at this
    simp [insF, this]
  | a :: r, f, k + 1, hk, h1, h2 => by
    have h0 := h1 0 (by simp) (by omega)
    simp only [List.getElem_cons_zero] at h0
    have ih := insF_at r f k (by simpa using hk) (fun j h hj => by have := h1 (j + 1) (by simpa using h) (by omega); simpa using this) (fun j h hj => by have := h2 (j + 1) (by simpa using h) (by omega); simpa using this)
    simp only [insF, h0, if_true, List.take_succ_cons, List.drop_succ_cons]
    rw [← ih]
    simp
/-- what Add makes of a list, and what it answers -/
def addP (l : List Fre) (f : Fre) : List Fre × Int := if okF f then (if hereB l f.page.toNat then (l, 8) else (insF l f, 0)) else (l, 1)
def AddE (w : World) (B p : Nat) (v : Value) (l : List Fre) (f : Fre) (e : Ending) (w' : World) : Prop := e = .returned (.int .i64 (addP l f).2) ∧ (∃ v', IsList w' B p v' (addP l f).1 ∧ kt.SameOrNew w v v') ∧ Touch w w' p v
theorem set_same {w : World} {g j : Nat} {cs : Array Value} {t : TypeId} {fr : Nat × Nat} (h : w.heap[g]? = some (.cells cs t fr)) (v : Value) : (w.setCell ⟨g, j, none⟩ v).heap[g]? = some (.cells (cs.setIfInBounds j v) t fr) := by
  simp [World.setCell, Array.getElem?_modify, h]
theorem set_other {w : World} {g b j : Nat} {o : Obj} (h : w.heap[g]? = some o) (hne : g ≠ b) (v : Value) : (w.setCell ⟨b, j, none⟩ v).heap[g]? = some o := by
  rw [Below.heap_setCell _ _ _ _ hne]; exact h
theorem lcN_set0 (n : Nat) (v v' : Value) (h : Nat → Bool) : (lcN n v h).set 0 v' = lcN n v' h := rfl
theorem lcN_set (n : Nat) (v : Value) (h : Nat → Bool) (k : Nat) (b : Bool) (hk : k < n) : (lcN n v h).set (1 + k) (.bool b) = lcN n v fun j => if j = k then b else h j := by
  unfold lcN
  rw [Nat.add_comm, List.set_cons_succ]
  congr 1
  apply List.ext_getElem
  · simp
  · intro i h1 h2
    simp only [List.getElem_set, List.getElem_map, List.getElem_range]
    by_cases e : k = i
    · subst e; simp
    · rw [if_neg e, if_neg (fun h => e h.symm)]
theorem lcN_congr (n : Nat) (v : Value) {h k : Nat → Bool} (e : ∀ j, j < n → h j = k j) : lcN n v h = lcN n v k := by
  unfold lcN
  congr 1
  apply List.map_congr_left
  intro j hj
  rw [e j (by simpa using hj)]
theorem lcells_set0 (v v' : Value) (h : Nat → Bool) : (lcells v h).setIfInBounds 0 v' = lcells v' h := by
  unfold lcells
  rw [List.setIfInBounds_toArray, lcN_set0]
theorem lcells_setk (v : Value) (h : Nat → Bool) (k : Nat) (b : Bool) (hk : k < 512) : (lcells v h).setIfInBounds (1 + k) (.bool b) = lcells v (fun j => if j = k then b else h j) := by
  unfold lcells
  rw [List.setIfInBounds_toArray, lcN_set 512 v h k b hk]
theorem lcells_congr (v : Value) {h k : Nat → Bool} (e : ∀ j, j < 512 → h j = k j) : lcells v h = lcells v k := by
  unfold lcells
  rw [lcN_congr 512 v e]
theorem mem_insF {l : List Fre} {f x : Fre} : x ∈ insF l f ↔ x = f ∨ x ∈ l := by
  induction l with
  | nil => simp [insF]
  | cons a r ih =>
    unfold insF
    split
    · simp only [List.mem_cons, ih]
      constructor
      · rintro (h | h | h) <;> simp [h]
      · rintro (h | h | h) <;> simp [h]
    · simp
theorem hereB_iff (l : List Fre) (k : Nat) : hereB l k = true ↔ ∃ f ∈ l, f.page = (k : Int) := by
  unfold hereB
  rw [List.any_eq_true]
  simp
theorem hereB_ins (l : List Fre) (f : Fre) (g : Nat) (hg : f.page = (g : Int)) (j : Nat) : hereB (insF l f) j = if j = g then true else hereB l j := by
  rw [Bool.eq_iff_iff]
  by_cases e : j = g
  · rw [if_pos e, hereB_iff]
    exact ⟨fun _ => rfl, fun _ => ⟨f, mem_insF.2 (Or.inl rfl), by rw [hg, e]⟩⟩
  · rw [if_neg e, hereB_iff, hereB_iff]
    constructor
    · rintro ⟨x, hx, hp⟩
      rcases mem_insF.1 hx with rfl | hx
      · rw [hg] at hp; omega
      · exact ⟨x, hx, hp⟩
    · rintro ⟨x, hx, hp⟩
      exact ⟨x, mem_insF.2 (Or.inr hx), hp⟩
/-- what Insert has made of the row -/
structure InsR (w w1 W' : World) (p : Nat) (v v' : Value) (B : Nat) (l : List Fre) (f : Fre) : Prop where
  seg : kt.SegX W' B 28 2 v' (insF l f).length ((insF l f).flatMap Fre.cells)
  new : kt.SameOrNew w v v'
  touch : Touch w W' p v
  here : W'.heap[p]? = some (.cells (lcells v (hereB l)) 55 (0, 0))
  ne : v'.ownBlock ≠ some p
  keep : ∀ k, k < w1.heap.size → v.ownBlock ≠ some k → W'.heap[k]? = w1.heap[k]?
def InsQ (w w1 : World) (p : Nat) (v : Value) (B : Nat) (l : List Fre) (f : Fre) (e : Ending) (W' : World) : Prop :=
  ∃ (ao' : Option Addr) (n' cap' : Nat), e = .returned (.slice ao' n' cap') ∧ Hid (InsR w w1 W' p v (.slice ao' n' cap') B l f) ∧ W'.cell? ⟨p, 0, none⟩ = some v ∧ W'.frozen? ⟨p, 0, none⟩ = false
theorem insF_len (l : List Fre) (f : Fre) : (insF l f).length = l.length + 1 := by
  induction l with
  | nil => rfl
  | cons a r ih =>
    unfold insF
    split
    · simp [ih]
    · simp
theorem flat_take (l : List Fre) (k : Nat) : (l.flatMap Fre.cells).take (k * 2) = (l.take k).flatMap Fre.cells := by
  by_cases h : k ≤ l.length
  · conv => lhs; rw [← List.take_append_drop k l, List.flatMap_append]
    exact List.take_left' (by rw [kt.flat_len Fre.cells 2 (fun _ => rfl), List.length_take]; congr 1; omega)
  · rw [List.take_of_length_le (by omega : l.length ≤ k), List.take_of_length_le (by rw [kt.flat_len Fre.cells 2 (fun _ => rfl)]; omega)]
theorem flat_drop (l : List Fre) (k : Nat) : (l.flatMap Fre.cells).drop (k * 2) = (l.drop k).flatMap Fre.cells := by
  by_cases h : k ≤ l.length
  · conv => lhs; rw [← List.take_append_drop k l, List.flatMap_append]
    exact List.drop_left' (by rw [kt.flat_len Fre.cells 2 (fun _ => rfl), List.length_take]; congr 1; omega)
  · rw [List.drop_of_length_le (by omega : l.length ≤ k), List.drop_of_length_le (by rw [kt.flat_len Fre.cells 2 (fun _ => rfl)]; omega)]
    rfl
theorem flat_one (l : List Fre) : ∀ u ∈ l.flatMap Fre.cells, u.oneCell' = true := by
  intro u hu
  obtain ⟨c, _, hc⟩ := List.mem_flatMap.1 hu
  exact cells_one c u hc
theorem ins_q {B p k : Nat} {v : Value} {l : List Fre} (f : Fre) (g : Nat) (w w1 W : World) (hL : IsList w1 B p v l) (hB1 : Below w.heap.size w w1) (hg : f.page = (g : Int)) (hbase : B ≤ w.heap.size) (hW : Below w1.heap.size w1 W)
    (hvb : W.heap[w1.heap.size]? = some (.cells #[.int .i64 f.txn, .int .i64 (g : Int)] 28 (0, 0))) (hk0 : k ≤ l.length) (hk1 : ∀ j (h : j < l.length), j < k → ltF l[j] f) (hk2 : ∀ j (h : j < l.length), k ≤ j → ¬ ltF l[j] f) (hn : l.length ≤ 90000) {ao : Option Addr} {cap : Nat} (hv : v = .slice ao l.length cap) :
    Calls Try.prog 31 #[.slice ao l.length cap, .int .i64 (k : Int), .slice (some ⟨w1.heap.size, 0, none⟩) 1 1] W (InsQ w w1 p (.slice ao l.length cap) B l f) := by
  rw [← hg] at hvb
  have hs := kt.segX_below hL.2.2.1 hW
  have hsz := hW.size
  have hsz1 := hB1.size
  have I := ins_any k f w1.heap.size W hs (flat_one l) hk0 (by omega) hvb (fun h => by have := (kt.segX_lt hL.2.2.1 _ h).2; omega) (by omega)
  rw [flat_take, flat_drop] at I
  have e : (l.take k).flatMap Fre.cells ++ f.cells ++ (l.drop k).flatMap Fre.cells = (insF l f).flatMap Fre.cells := by
    rw [← insF_at l f k hk0 hk1 hk2]
    simp [List.flatMap_append]
  rw [e] at I
  rw [← hv]
  refine I.mono ?_
  rintro e W' ⟨⟨v', rfl, hS, hN⟩, hG⟩
  have hpl := kt.bld_lt hL.2.1
  have hP : W'.heap[p]? = some (.cells (lcells v (hereB l)) 55 (0, 0)) := by
    rw [hG.block p (by omega) (fun h => hL.2.2.2 h.symm), hW.block p hpl]
    exact hL.2.1
  obtain ⟨ao', cap', rfl, _⟩ := kt.segX_slice hS
  refine ⟨ao', _, cap', rfl, ⟨?_, fun j hj => ?_, ⟨?_, ?_, ?_, ?_, ?_⟩, hP, fun h => ?_, fun j hj hjv => ?_⟩, ?_, Lib.frozen_of_heap hP 0⟩
  · rw [insF_len]; exact hS
  · rcases hN j hj with h | h
    · exact Or.inl h
    · exact Or.inr (by omega)
  · rw [hG.os, hW.os, hB1.os]
  · rw [hG.tape, hW.tape, hB1.tape]
  · rw [hG.output, hW.output, hB1.output]
  · have := hG.size; omega
  · intro j hj hjp hjv
    rw [hG.block j (by omega) (fun h => hjv h.symm), hW.block j (by omega), hB1.block j hj]
  · rcases hN p h with h | h
    · exact hL.2.2.2 h
    · omega
  · rw [hG.block j (by omega) (fun h => hjv h.symm), hW.block j hj]
  · rw [Lib.cell_of_heap hP]; exact lcells_zero _ _
set_option maxHeartbeats 2000000 in
theorem add_any {B p : Nat} {v : Value} {l : List Fre} (f : Fre) (w : World) (hL : Hid (IsList w B p v l)) (ha : Hid (Asc l)) (hn : l.length ≤ 90000) (hbase : B ≤ w.heap.size) :
    Calls Try.prog 11 #[.pointer (some ⟨p, 0, none⟩), f.v] w fun e w' => AddE w B p v l f e w' := by
  have hB0 : Below w.heap.size w (w.alloc (.cells #[.int .i64 f.txn, .int .i64 f.page] 28)) := (Below.refl _ _).alloc (Nat.le_refl _) _
  have d0 : (w.alloc (.cells #[.int .i64 f.txn, .int .i64 f.page] 28)).heap[w.heap.size]? = some (.cells #[.int .i64 f.txn, .int .i64 f.page] 28 (0, 0)) := heap_alloc_last w _
  have HB0 := Lib.hid hB0
  have D0 := Lib.hid d0
  have R := Lib.hid (fun w => right_any f w)
  unfold Fre.v at R ⊢
  clear hB0 d0
  by_cases hok : okF f
  · rw [decide_eq_true hok] at R
    obtain ⟨g, hg⟩ := Int.eq_ofNat_of_zero_le (show 0 ≤ f.page by have := hok.2.2.1; omega)
    have hg512 : g < 512 := by have := hok.2.2.2; omega
    have HOK := Lib.hid hok
    clear hok
    have hgt : f.page.toNat = g := by omega
    by_cases hh : hereB l g = true
    · have HA : Hid (addP l f = (l, 8)) := by show _ = _; unfold addP; rw [if_pos HOK.out, hgt, if_pos hh]
      rw [hg] at R HB0 D0 ⊢
      clear hg hgt
      go_enter Try.func11, Try.ntmps11
      go_wp2_with fail
      refine (R.out _).mono ?_
      rintro e w1 ⟨rfl, hB1⟩
      have hbl : Below w.heap.size w w1 := HB0.out.trans (hB1.mono HB0.out.size)
      have d1 := (hB1.block _ (kt.bld_lt D0.out)).trans D0.out
      have y1 : w1.cell? ⟨w.heap.size, 1, none⟩ = some (.int .i64 (g : Int)) := by rw [Lib.cell_of_heap d1]; rfl
      have z1 := list_cellk (isList_below hL.out hbl) g hg512
      rw [hh] at z1
      have HBL := Lib.hid hbl
      clear d1 hbl hh
      go_wp2_with fail
      go_region
      all_goals go_wp2_with fail
      all_goals go_ret
      all_goals exact ⟨by rw [HA.out]; rfl, ⟨v, by rw [HA.out]; exact isList_below hL.out HBL.out.drew, fun k hk => Or.inl hk⟩, touch_below HBL.out.drew p v⟩
    · have hh' : hereB l g = false := by simpa using hh
      have HA : Hid (addP l f = (insF l f, 0)) := by show _ = _; unfold addP; rw [if_pos HOK.out, hgt, if_neg hh]
      rw [hg] at R HB0 D0 ⊢
      have BN := Lib.hid (fun (w' : World) (ao : Option Addr) (cap : Nat) (h : Fres w' ao l) => bin_any ao cap l f w' (Lib.hid h) ha (by omega))
      unfold Fre.v at BN
      rw [hg] at BN
      have HG := Lib.hid hg
      clear hg hgt hh
      go_enter Try.func11, Try.ntmps11
      go_wp2_with fail
      refine (R.out _).mono ?_
      rintro e w1 ⟨rfl, hB1⟩
      have hbl : Below w.heap.size w w1 := HB0.out.trans (hB1.mono HB0.out.size)
      have d1 := (hB1.block _ (kt.bld_lt D0.out)).trans D0.out
      have y0 : w1.cell? ⟨w.heap.size, 0, none⟩ = some (.int .i64 f.txn) := by rw [Lib.cell_of_heap d1]; rfl
      have y1 : w1.cell? ⟨w.heap.size, 1, none⟩ = some (.int .i64 (g : Int)) := by rw [Lib.cell_of_heap d1]; rfl
      have hL1 := isList_below hL.out hbl
      have z0 := list_cell0 hL1
      have z1 := list_cellk hL1 g hg512
      rw [hh'] at z1
      obtain ⟨ao, cap, hv, hlc, hF⟩ := seg_fres hL1.2.2.1
      have hlp : p < w1.heap.size := kt.bld_lt hL1.2.1
      have hlw : w.heap.size < w1.heap.size := kt.bld_lt d1
      rw [hv] at z0
      have HBL := Lib.hid hbl
      have HD1 := Lib.hid d1
      have HL1 := Lib.hid hL1
      have HF := Lib.hid hF
      have HV := Lib.hid hv
      clear d1 hbl hh' hL1 hF hv
      go_wp2_with fail
      go_region
      go_wp2_with fail
      go_region_held3 (fun W => W.cell? ⟨p, 0, none⟩ = some (.slice ao l.length cap) ∧ W.cell? ⟨w.heap.size, 0, none⟩ = some (.int .i64 f.txn) ∧ W.cell? ⟨w.heap.size, 1, none⟩ = some (.int .i64 (g : Int))) (first | exact ⟨z0, y0, y1⟩ | exact ⟨(hBn.cell (p := ⟨p, 0, none⟩) hlp).trans z0, (hBn.cell (p := ⟨w.heap.size, 0, none⟩) hlw).trans y0, (hBn.cell (p := ⟨w.heap.size, 1, none⟩) hlw).trans y1⟩)
        (first | (go_at_call 29; refine (BN.out _ _ _ (fres_below HF.out ((Below.refl w1.heap.size w1).drew.drew))).mono ?_; rintro e w' ⟨⟨k, b, rfl, hk0, hk1, hk2⟩, hBn⟩))
      have hB2 : Below w1.heap.size w1 w' := (Below.refl w1.heap.size w1).drew.drew.trans hBn
      have hL2 := isList_below HL1.out hB2
      have d2 := (hB2.block _ hlw).trans HD1.out
      have HB2 : Hid (Below w.heap.size w w') := HBL.out.trans (hB2.mono HBL.out.size)
      have HK1 := Lib.hid hk1
      have HK2 := Lib.hid hk2
      clear hk1 hk2 hBn hB2 z0 z1 y0 y1
      have z0 := list_cell0 hL2
      rw [HV.out] at z0
      have y0 : w'.cell? ⟨w.heap.size, 0, none⟩ = some (.int .i64 f.txn) := by rw [Lib.cell_of_heap d2]; rfl
      have y1 : w'.cell? ⟨w.heap.size, 1, none⟩ = some (.int .i64 (g : Int)) := by rw [Lib.cell_of_heap d2]; rfl
      have HL2 := Lib.hid hL2
      have HD2 := Lib.hid d2
      have INS : ∀ (W : World), Hid (Below w'.heap.size w' W) → Hid (W.heap[w'.heap.size]? = some (.cells #[.int .i64 f.txn, .int .i64 (g : Int)] 28 (0, 0))) →
          Calls Try.prog 31 #[.slice ao l.length cap, .int .i64 (k : Int), .slice (some ⟨w'.heap.size, 0, none⟩) 1 1] W (InsQ w w' p (.slice ao l.length cap) B l f) :=
        fun W hW hvb => ins_q f g w w' W HL2.out HB2.out HG.out hbase hW.out hvb.out hk0 HK1.out HK2.out hn HV.out
      have IH := Lib.hid INS
      have z0a : (w'.alloc (.cells #[.int .i64 f.txn, .int .i64 (g : Int)] 28)).cell? ⟨p, 0, none⟩ = some (.slice ao l.length cap) := (((Below.refl _ _).alloc (Nat.le_refl _) _).cell (p := ⟨p, 0, none⟩) (kt.bld_lt HL2.out.2.1)).trans z0
      clear hL2 d2 INS HK1 HK2
      go_wp2_with fail
      go_region_with (go_at_call 31; refine (IH.out _ (((Below.refl _ _).alloc (Nat.le_refl _) _).drew) (show (World.alloc w' _).heap[_]? = _ from heap_alloc_last w' _)).mono ?_; rintro e w2 ⟨ao', n', cap', rfl, hQ, q0, qf⟩)
      all_goals go_wp2_with fail
      all_goals
        have hW0 : (w2.setCell ⟨p, 0, none⟩ (.slice ao' n' cap')).heap[p]? = some (.cells (lcells (.slice ao' n' cap') (hereB l)) 55 (0, 0)) := by
          rw [← lcells_set0 (.slice ao l.length cap) (.slice ao' n' cap') (hereB l)]
          exact set_same (j := 0) hQ.out.here _
        have hD3 : (w2.setCell ⟨p, 0, none⟩ (.slice ao' n' cap')).heap[w.heap.size]? = some (.cells #[.int .i64 f.txn, .int .i64 (g : Int)] 28 (0, 0)) := by
          refine set_other ((hQ.out.keep _ (kt.bld_lt HD2.out) (fun h => by have := (kt.segX_lt hL.out.2.2.1 _ (by rw [HV.out]; exact h)).2; omega)).trans HD2.out) ?_ _
          have := kt.bld_lt hL.out.2.1
          omega
        have hT3 : Touch w (w2.setCell ⟨p, 0, none⟩ (.slice ao' n' cap')) p (.slice ao l.length cap) :=
          ⟨hQ.out.touch.os, hQ.out.touch.tape, hQ.out.touch.output, by rw [World.size_setCell]; exact hQ.out.touch.size, fun j hj hjp hjv => by rw [Below.heap_setCell _ _ _ _ hjp]; exact hQ.out.touch.block j hj hjp hjv⟩
        have hS3 : kt.SegX (w2.setCell ⟨p, 0, none⟩ (.slice ao' n' cap')) B 28 2 (.slice ao' n' cap') (insF l f).length ((insF l f).flatMap Fre.cells) :=
          kt.segX_same hQ.out.seg fun j hj => Below.heap_setCell _ _ _ _ (fun e => hQ.out.ne (by have e' : j = p := e; rw [← e']; exact hj))
        generalize w2.setCell ⟨p, 0, none⟩ (.slice ao' n' cap') = W3 at hW0 hD3 hT3 hS3 ⊢
        have u1 : W3.cell? ⟨w.heap.size, 1, none⟩ = some (.int .i64 (g : Int)) := by rw [Lib.cell_of_heap hD3]; rfl
        have u2 : W3.cell? ⟨p, 1 + g, none⟩ = some (.bool (hereB l g)) := by rw [Lib.cell_of_heap hW0]; exact lcells_get _ _ _ hg512
        have u3 : W3.frozen? ⟨p, 1 + g, none⟩ = false := Lib.frozen_of_heap hW0 _
        have HW0 := Lib.hid hW0
        have HT3 := Lib.hid hT3
        have HS3 := Lib.hid hS3
        clear hW0 hT3 hS3 hD3
        go_region
        all_goals go_wp2_with fail
        all_goals go_ret
        have hP : (W3.setCell ⟨p, 1 + g, none⟩ (.bool true)).heap[p]? = some (.cells (lcells (.slice ao' n' cap') (hereB (insF l f))) 55 (0, 0)) := by
          rw [lcells_congr (.slice ao' n' cap') (fun j _ => hereB_ins l f g HG.out j), ← lcells_setk _ _ _ _ hg512]
          exact set_same (j := 1 + g) HW0.out _
        have hT4 : Touch w (W3.setCell ⟨p, 1 + g, none⟩ (.bool true)).drew p v :=
          ⟨HT3.out.os, HT3.out.tape, HT3.out.output, (by show _ ≤ (World.setCell _ _ _).heap.size; rw [World.size_setCell]; exact HT3.out.size), fun j hj hjp hjv => (Below.heap_setCell _ _ _ _ hjp).trans (HT3.out.block j hj hjp (by rw [← HV.out]; exact hjv))⟩
        have hS4 : kt.SegX (W3.setCell ⟨p, 1 + g, none⟩ (.bool true)).drew B 28 2 (.slice ao' n' cap') (insF l f).length ((insF l f).flatMap Fre.cells) :=
          kt.segX_same HS3.out fun j hj => Below.heap_setCell _ _ _ _ (fun e => hQ.out.ne (by have e' : j = p := e; rw [← e']; exact hj))
        exact ⟨by rw [HA.out]; rfl, ⟨.slice ao' n' cap', by rw [HA.out]; exact ⟨hL.out.1, hP, hS4, hQ.out.ne⟩, fun j hj => by rw [HV.out]; exact hQ.out.new j hj⟩, hT4⟩
  · have HA : Hid (addP l f = (l, 1)) := by show _ = _; unfold addP; rw [if_neg hok]
    rw [decide_eq_false hok] at R
    clear hok
    go_enter Try.func11, Try.ntmps11
    go_wp2_with fail
    refine (R.out _).mono ?_
    rintro e w1 ⟨rfl, hB1⟩
    have HBL : Hid (Below w.heap.size w w1) := HB0.out.trans (hB1.mono HB0.out.size)
    go_wp2_with fail
    go_ret
    exact ⟨by rw [HA.out]; rfl, ⟨v, by rw [HA.out]; exact isList_below hL.out HBL.out, fun k hk => Or.inl hk⟩, touch_below HBL.out p v⟩
end fre
end Go.Proofs.Ytcmpepojokmhnaa
