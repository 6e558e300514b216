/- Acts that came in, opened; a row of 512 integers. -/
import Derived.Test.YtcmpepojokmhnaaAwake
import Derived.Test.YtcmpepojokmhnaaOpenS
namespace Go.Proofs.Ytcmpepojokmhnaa
open Go.RowKit Go.ChangeShapes Go.WideShapes Go.Deep
namespace fre
set_option linter.unusedVariables false
structure Act where
  kind : Int
  f : Fre
  n : Int
/-- a row of acts lies at a slice -/
def Acts (w : World) (ao : Option Addr) (l : List Act) : Prop := ∀ (i : Nat) (h : i < l.length), ∃ b o, ao = some ⟨b, o, none⟩ ∧
  w.cell? ⟨b, o + i * 4, none⟩ = some (.int .i64 l[i].kind) ∧ w.cell? ⟨b, o + i * 4 + 1, none⟩ = some (.int .i64 l[i].f.txn) ∧ w.cell? ⟨b, o + i * 4 + 1 + 1, none⟩ = some (.int .i64 l[i].f.page) ∧ w.cell? ⟨b, o + i * 4 + 3, none⟩ = some (.int .i64 l[i].n)
theorem acts_below {w w' : World} {ao : Option Addr} {l : List Act} (h : Acts w ao l) (hb : Below w.heap.size w w') : Acts w' ao l := by
  intro i hi
  obtain ⟨b, o, e, h0, h1, h2, h3⟩ := h i hi
  have hlt : b < w.heap.size := World.block_lt_of_cell? w ⟨b, _, none⟩ h0
  exact ⟨b, o, e, (hb.cell hlt).trans h0, (hb.cell hlt).trans h1, (hb.cell hlt).trans h2, (hb.cell hlt).trans h3⟩
theorem list4 {cs : List Value} (h : cs.length = 4) : ∃ a b c d, cs = [a, b, c, d] := by
  match cs, h with
  | [a, b, c, d], _ => exact ⟨a, b, c, d, rfl⟩
theorem acts_of {H : Type} {enc : TypeId × Value → H} {w : World} {base : Nat} {sp : Nat → Bool} {held : Bool} {d : DataW H} {p : List MemPlace} {ao : Option Addr} {len cap : Nat}
    (h : ∃ fuel, DataW.trod enc Try.prog w base sp held fuel 22 [.slice ao len cap] = some (d, p)) : ∃ l : List Act, len = l.length ∧ Acts w ao l ∧ len ≤ 9223372036854775807 := by
  obtain ⟨fuel, h⟩ := h
  rcases open_slice Try.underlying22 h with ⟨hcs, _⟩ | ⟨a, len', cap', m, n, D, Pl, hcs, _, hlc, hcm, hm, _, hf⟩
  · simp at hcs
    obtain ⟨rfl, rfl, rfl⟩ := hcs
    exact ⟨[], rfl, fun i hi => by simp at hi, by omega⟩
  · simp at hcs
    obtain ⟨rfl, rfl, rfl⟩ := hcs
    have hlm : len ≤ m := by rw [hm]; split <;> omega
    have hlmax : len ≤ 9223372036854775807 := by unfold maxLen at hcm; omega
    have c4 : Try.prog.cellsOf 30 = 4 := by kernel_rfl
    have c2 : Try.prog.cellsOf 28 = 2 := by kernel_rfl
    have c1 : Try.prog.cellsOf 3 = 1 := by kernel_rfl
    have each : ∀ i, i < m → ∃ k t q x, w.cell? (a.add (i * 4)) = some (.int .i64 k) ∧ w.cell? ((a.add (i * 4)).add 1) = some (.int .i64 t) ∧ w.cell? ((a.add (i * 4)).add 2) = some (.int .i64 q) ∧ w.cell? ((a.add (i * 4)).add 3) = some (.int .i64 x) := by
      intro i hi
      obtain ⟨cs', hc, ht⟩ := hf i hi
      rw [c4] at hc
      obtain ⟨_, hcl, hat⟩ := World.cells?_some hc
      obtain ⟨v0, v1, v2, v3, rfl⟩ := list4 hcl
      obtain ⟨xs, n1, _, _, _, hxl, hg⟩ := DataW.trod_struct Try.underlying30 ht
      have g0 : DataW.trod enc Try.prog w base sp held n1 3 (([v0, v1, v2, v3].drop 0).take (Try.prog.cellsOf 3)) = xs[0]? := hg 0 _ rfl
      have g1 : DataW.trod enc Try.prog w base sp held n1 28 (([v0, v1, v2, v3].drop 1).take (Try.prog.cellsOf 28)) = xs[1]? := hg 1 _ rfl
      have g2 : DataW.trod enc Try.prog w base sp held n1 3 (([v0, v1, v2, v3].drop 3).take (Try.prog.cellsOf 3)) = xs[2]? := hg 2 _ rfl
      match xs, hxl with
      | [y0, y1, y2], _ =>
        rw [c1] at g0 g2
        rw [c2] at g1
        change DataW.trod enc Try.prog w base sp held n1 3 [v0] = some y0 at g0
        change DataW.trod enc Try.prog w base sp held n1 28 [v1, v2] = some y1 at g1
        change DataW.trod enc Try.prog w base sp held n1 3 [v3] = some y2 at g2
        obtain ⟨k, e0, _⟩ := DataW.trod_int Try.underlying3 g0
        obtain ⟨x, e3, _⟩ := DataW.trod_int Try.underlying3 g2
        obtain ⟨zs, n2, _, _, _, hzl, hz⟩ := DataW.trod_struct Try.underlying28 g1
        have z0 : DataW.trod enc Try.prog w base sp held n2 3 (([v1, v2].drop 0).take (Try.prog.cellsOf 3)) = zs[0]? := hz 0 _ rfl
        have z1 : DataW.trod enc Try.prog w base sp held n2 3 (([v1, v2].drop 1).take (Try.prog.cellsOf 3)) = zs[1]? := hz 1 _ rfl
        match zs, hzl with
        | [u0, u1], _ =>
          rw [c1] at z0 z1
          change DataW.trod enc Try.prog w base sp held n2 3 [v1] = some u0 at z0
          change DataW.trod enc Try.prog w base sp held n2 3 [v2] = some u1 at z1
          obtain ⟨t, e1, _⟩ := DataW.trod_int Try.underlying3 z0
          obtain ⟨q, e2, _⟩ := DataW.trod_int Try.underlying3 z1
          simp only [List.cons.injEq, and_true] at e0 e1 e2 e3
          subst e0 e1 e2 e3
          have a0 : w.cell? ((a.add (i * 4)).add 0) = _ := @hat 0 (by omega)
          have a1 : w.cell? ((a.add (i * 4)).add 1) = _ := @hat 1 (by omega)
          have a2 : w.cell? ((a.add (i * 4)).add 2) = _ := @hat 2 (by omega)
          have a3 : w.cell? ((a.add (i * 4)).add 3) = _ := @hat 3 (by omega)
          rw [show (a.add (i * 4)).add 0 = a.add (i * 4) by unfold Addr.add; rfl] at a0
          exact ⟨k, t, q, x, a0, a1, a2, a3⟩
    have key : ∀ i, i < len → ∃ c : Act, ∃ b o, some a = some ⟨b, o, none⟩ ∧ w.cell? ⟨b, o + i * 4, none⟩ = some (.int .i64 c.kind) ∧ w.cell? ⟨b, o + i * 4 + 1, none⟩ = some (.int .i64 c.f.txn) ∧ w.cell? ⟨b, o + i * 4 + 1 + 1, none⟩ = some (.int .i64 c.f.page) ∧ w.cell? ⟨b, o + i * 4 + 3, none⟩ = some (.int .i64 c.n) := by
      intro i hi
      have hcell : ∃ b o, a = ⟨b, o, none⟩ := by
        obtain ⟨k, _, _, _, hc, _⟩ := each 0 (by omega)
        obtain ⟨b, o, s⟩ := a
        rw [show (⟨b, o, s⟩ : Addr).add (0 * 4) = ⟨b, o, s⟩ by unfold Addr.add; rfl] at hc
        obtain rfl := opn.cell_spot hc
        exact ⟨b, o, rfl⟩
      obtain ⟨k, t, q, x, h0, h1, h2, h3⟩ := each i (by omega)
      obtain ⟨b, o', rfl⟩ := hcell
      rw [Addr.add_mid] at h0 h1 h2 h3
      rw [Addr.add_mid] at h1 h2 h3
      exact ⟨⟨k, ⟨t, q⟩, x⟩, b, o', rfl, h0, h1, h2, h3⟩
    obtain ⟨l, hl, hq⟩ := opn.list_of len key
    exact ⟨l, hl.symm, hq, hlmax⟩
/-- so many integers -/
def icN (n : Nat) (f : Nat → Int) : List Value := (List.range n).map fun k => Value.int .i64 (f k)
theorem icN_get (n : Nat) (f : Nat → Int) (k : Nat) (hk : k < n) : (icN n f)[k]? = some (.int .i64 (f k)) := by
  unfold icN
  rw [List.getElem?_map, List.getElem?_range hk]
  rfl
theorem icN_set (n : Nat) (f : Nat → Int) (k : Nat) (b : Int) (hk : k < n) : (icN n f).set k (.int .i64 b) = icN n fun j => if j = k then b else f j := by
  unfold icN
  apply List.ext_getElem
  · simp
  · intro i h1 h2
    simp only [List.getElem_set, List.getElem_map, List.getElem_range]
    by_cases e : k = i
    · subst e; simp
    · rw [if_neg e, if_neg (fun h => e h.symm)]
theorem icN_congr (n : Nat) {h k : Nat → Int} (e : ∀ j, j < n → h j = k j) : icN n h = icN n k := by
  unfold icN
  apply List.map_congr_left
  intro j hj
  rw [e j (by simpa using hj)]
/-- 512 integers at block q -/
def Ints (w : World) (q : Nat) (f : Nat → Int) : Prop := w.heap[q]? = some (.cells (icN 512 f).toArray 3 (0, 0))
theorem ints_cell {w : World} {q : Nat} {f : Nat → Int} (h : Ints w q f) (k : Nat) (hk : k < 512) : w.cell? ⟨q, k, none⟩ = some (.int .i64 (f k)) ∧ w.frozen? ⟨q, k, none⟩ = false := by
  refine ⟨?_, Lib.frozen_of_heap h _⟩
  rw [Lib.cell_of_heap h, List.getElem?_toArray]
  exact icN_get 512 f k hk
theorem ints_set {w : World} {q : Nat} {f : Nat → Int} (h : Ints w q f) (k : Nat) (hk : k < 512) (b : Int) : Ints (w.setCell ⟨q, k, none⟩ (.int .i64 b)) q fun j => if j = k then b else f j := by
  have := set_same (j := k) h (.int .i64 b)
  rw [List.setIfInBounds_toArray, icN_set 512 f k b hk] at this
  exact this
theorem infoInt : (Try.prog.info? 3).map (fun i => (i.zero, i.size, i.bytes)) = some (some (.int .i64 0), 1, 8) := by kernel_rfl
theorem make512 (w : World) : ∃ W1, (Instr.makeSlice 26 (.int .i64 512) (.int .i64 512)).run Try.prog w = .ok (.slice (some ⟨w.heap.size, 0, none⟩) 512 512) W1 ∧ Ints W1 w.heap.size (fun _ => 0) ∧ Below w.heap.size w W1 := by
  obtain ⟨i0, hi, hz0, hz1, hz2⟩ := info_parts infoInt
  obtain ⟨w', hrun, hown, hgr⟩ := run_make_full (P := Try.prog) w w.heap.size 26 3 i0 (.int .i64 0) 1 Try.underlying26 hi hz0 hz1 .i64 .i64 512 (by rw [hz2]; omega) (by unfold maxLen; omega) (Nat.le_refl _)
  refine ⟨w', hrun, ?_, (Below.refl _ w).grown hgr (Nat.le_refl _) (fun k hk => by cases hk)⟩
  rcases hown.2 with ⟨h, _⟩ | ⟨g, cap, cur, hv, _, hg, h1, h2, h3, h4⟩
  · cases h
  · simp only [Value.slice.injEq, Option.some.injEq, Addr.mk.injEq] at hv
    obtain ⟨⟨rfl, _, _⟩, _, rfl⟩ := hv
    have hl : cur.toList.length = 512 := by rw [Array.length_toList]; omega
    have h5 : cur.toList = cur.toList.take (512 * 1) := (List.take_of_length_le (by omega)).symm
    have e : cur = (icN 512 fun _ => 0).toArray := by
      apply Array.toList_inj.1
      rw [List.toList_toArray]
      apply List.ext_getElem?
      intro j
      by_cases hj : j < 512
      · rw [icN_get 512 _ j hj, h5, h4]
        have hv : ∀ m : Nat, (Value.int IntKind.i64 0).cells[m % (Value.int IntKind.i64 0).cells.size]! = Value.int IntKind.i64 0 := by
          intro m
          rw [show (Value.int IntKind.i64 0).cells.size = 1 from rfl, Nat.mod_one]; rfl
        simp [madeCells, hv, hj]
      · rw [List.getElem?_eq_none (by omega), List.getElem?_eq_none (by unfold icN; rw [List.length_map, List.length_range]; omega)]
    unfold Ints
    rw [hg, e]
end fre
end Go.Proofs.Ytcmpepojokmhnaa
