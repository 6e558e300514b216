/- A name that is being built: a row of rows of pairs that the call owns. -/
import Derived.Test.YtjjbmhndakmkbaaGreatDoorRightW
import Derived.Test.YtjjbmhndakmkbaaGreatDoorSegS
namespace Go.Proofs.YtjjbmhndakmkbaaGreatDoor
open Go.RowKit
namespace dnw
set_option linter.unusedVariables false
set_option linter.unusedSimpArgs false
def acell (x : Av) : List Value := [.string x.t, .string x.v]
def acells (l : List Av) : List Value := l.flatMap acell
theorem acells_append (a b : List Av) : acells (a ++ b) = acells a ++ acells b := List.flatMap_append ..
theorem infoAva : (Tryz.prog.info? 40).map (fun i => (i.zero, i.size, i.bytes)) = some (some (.agg #[.string ByteArray.empty, .string ByteArray.empty]), 2, 32) := by kernel_rfl
theorem infoRow : (Tryz.prog.info? 35).map (fun i => (i.zero, i.size, i.bytes)) = some (some (.slice none 0 0), 1, 24) := by kernel_rfl
/-- a row of pairs that the call owns -/
def OwnA (w : World) (B : Nat) (v : Value) (l : List Av) : Prop := kt.SegX w B 40 2 v l.length (acells l)
theorem ownA_nil (w : World) (B : Nat) : OwnA w B (.slice none 0 0) [] := kt.segX_nil _ _ _ _
theorem ownA_same {w w' : World} {B : Nat} {v : Value} {l : List Av} (h : OwnA w B v l) (hb : ∀ k, v.ownBlock = some k → w'.heap[k]? = w.heap[k]?) : OwnA w' B v l := kt.segX_same h hb
theorem ownA_lt {w : World} {B : Nat} {v : Value} {l : List Av} (h : OwnA w B v l) : ∀ k, v.ownBlock = some k → B ≤ k ∧ k < w.heap.size := kt.segX_lt h
theorem ownA_form {w : World} {B : Nat} {v : Value} {l : List Av} (h : OwnA w B v l) : ∃ ao cap, v = .slice ao l.length cap ∧ l.length ≤ cap := kt.segX_slice h
theorem ownA_avas {w : World} {B cap : Nat} {ao : Option Addr} {l : List Av} (h : OwnA w B (.slice ao l.length cap) l) : Avas w ao l := by
  intro i hi
  obtain ⟨g, o, cap', hv, _, _, hc⟩ := kt.segX_cell h (by omega)
  simp only [Value.slice.injEq] at hv
  obtain ⟨rfl, _, _⟩ := hv
  have h0 := kt.flat_get acell 2 (fun _ => rfl) l i 0 hi (by omega)
  have h1 := kt.flat_get acell 2 (fun _ => rfl) l i 1 hi (by omega)
  refine ⟨g, o, rfl, ?_, ?_⟩
  · exact hc _ _ h0
  · rw [Nat.add_assoc]; exact hc _ _ h1
/-- a name being built: the outer row vn, the row at hand vl, the rows laid already -/
structure Nest (w : World) (B : Nat) (vn vl : Value) (ns : List (List Av)) (cur : List Av) (vals : List Value) : Prop where
  outer : kt.SegX w B 35 1 vn vals.length vals
  len : vals.length = ns.length
  inner : ∀ j (h : j < vals.length) (h' : j < ns.length), OwnA w B vals[j] ns[j] ∧ ∀ k, vals[j].ownBlock = some k → vn.ownBlock ≠ some k ∧ vl.ownBlock ≠ some k
  cur : OwnA w B vl cur
  apart : ∀ k, vl.ownBlock = some k → vn.ownBlock ≠ some k
theorem nest_nil (w : World) (B : Nat) : Nest w B (.slice none 0 0) (.slice none 0 0) [] [] [] :=
  ⟨kt.segX_nil _ _ _ _, rfl, fun j h _ => by simp at h, ownA_nil _ _, fun k h => by simp [Value.ownBlock] at h⟩
/-- where no block of the call's own turns, it stands -/
theorem nest_same {w w' : World} {B : Nat} {vn vl : Value} {ns : List (List Av)} {cur : List Av} {vals : List Value} (h : Nest w B vn vl ns cur vals) (hb : ∀ k, B ≤ k → k < w.heap.size → w'.heap[k]? = w.heap[k]?) : Nest w' B vn vl ns cur vals := by
  refine ⟨kt.segX_same h.outer fun k hk => ?_, h.len, fun j h1 h2 => ⟨ownA_same (h.inner j h1 h2).1 fun k hk => ?_, (h.inner j h1 h2).2⟩, ownA_same h.cur fun k hk => ?_, h.apart⟩
  · have := kt.segX_lt h.outer k hk; exact hb k this.1 this.2
  · have := ownA_lt (h.inner j h1 h2).1 k hk; exact hb k this.1 this.2
  · have := ownA_lt h.cur k hk; exact hb k this.1 this.2
theorem nest_gr {w w' : World} {B b : Nat} {vn vl : Value} {ns : List (List Av)} {cur : List Av} {vals : List Value} (h : Nest w B vn vl ns cur vals) (hb : b < B) (hg : w.grownBy w' (some b)) : Nest w' B vn vl ns cur vals :=
  nest_same h fun k hk hlt => hg.block k hlt (by intro e; cases e; omega)
theorem nest_below {w w' : World} {B : Nat} {vn vl : Value} {ns : List (List Av)} {cur : List Av} {vals : List Value} (h : Nest w B vn vl ns cur vals) (hb : Below w.heap.size w w') : Nest w' B vn vl ns cur vals :=
  nest_same h fun k _ hlt => hb.block k hlt
theorem below_of_gr {w w1 : World} {B : Nat} {v : Value} (hg : w.grownBy w1 v.ownBlock) (hB : B ≤ w.heap.size) (hv : ∀ k, v.ownBlock = some k → B ≤ k) : Below B w w1 := (Below.refl B w).grown hg hB hv
/-- a pair laid behind the row at hand -/
theorem nest_app {w : World} {B : Nat} {vn vl : Value} {ns : List (List Av)} {cur : List Av} {vals : List Value} (x : Av) (h : Nest w B vn vl ns cur vals) (hl : cur.length ≤ 1000000) (hB : B ≤ w.heap.size) :
    ∃ vl' w1, (Builtin.append_ #[35, 35] 35 #[vl, .slice (some ⟨w.heap.size, 0, none⟩) 1 1]).run Tryz.prog (w.alloc (.cells #[.string x.t, .string x.v] 40)) = .ok vl' w1 ∧ Nest w1 B vn vl' ns (cur ++ [x]) vals ∧ Below B w w1 := by
  have hn := nest_below h (w' := w.alloc (.cells #[.string x.t, .string x.v] 40)) ((Below.refl _ _).alloc (Nat.le_refl _) _)
  obtain ⟨vl', w1, h1, h2, h3, h4⟩ := kt.segX_append (P := Tryz.prog) (t := 35) (ty := 35) Tryz.underlying35 infoAva rfl (by omega) ⟨w.heap.size, 0, none⟩ 1 1 (acell x) rfl (fun j u hj => by
      rw [kt.addr_add, World.cell?_alloc_new]
      simpa [acell] using hj) (by intro u hu; simp [acell] at hu; rcases hu with rfl | rfl <;> rfl) hn.cur (by unfold maxLen; omega) (by omega) (by simp; omega)
  have hne : ∀ (v : Value), (∀ k, v.ownBlock = some k → vl.ownBlock ≠ some k) → ∀ k, v.ownBlock = some k → k < (w.alloc (.cells #[.string x.t, .string x.v] 40)).heap.size → w1.heap[k]? = (w.alloc (.cells #[.string x.t, .string x.v] 40)).heap[k]? := by
    intro v hv k hk hlt
    exact h3.block k hlt (fun e => hv k hk e.symm)
  have hnew : ∀ k, k < (w.alloc (.cells #[.string x.t, .string x.v] 40)).heap.size → vl.ownBlock ≠ some k → vl'.ownBlock ≠ some k := by
    intro k hlt hk e
    rcases h4 k e with e2 | e2
    · exact hk e2
    · omega
  refine ⟨vl', w1, h1, ⟨kt.segX_same hn.outer fun k hk => ?_, hn.len, fun j a b => ?_, ?_, ?_⟩, ?_⟩
  · have hlt := (kt.segX_lt hn.outer k hk).2
    exact hne vn (fun k hk e => hn.apart k e hk) k hk hlt
  · obtain ⟨i1, i2⟩ := hn.inner j a b
    refine ⟨ownA_same i1 fun k hk => hne _ (fun k hk => (i2 k hk).2) k hk (ownA_lt i1 k hk).2, fun k hk => ⟨(i2 k hk).1, hnew k (ownA_lt i1 k hk).2 (i2 k hk).2⟩⟩
  · unfold OwnA
    rw [List.length_append, acells_append]
    have e : acells [x] = acell x := by simp [acells]
    rw [e]
    exact h2
  · intro k hk e
    have hlt := (kt.segX_lt hn.outer k e).2
    exact hnew k hlt (fun e2 => hn.apart k e2 e) hk
  · refine ((Below.refl B w).alloc hB _).trans (below_of_gr h3 (by simp; omega) (fun k hk => (ownA_lt hn.cur k hk).1))
/-- the row at hand laid behind the outer one -/
theorem nest_push {w : World} {B : Nat} {vn vl : Value} {ns : List (List Av)} {cur : List Av} {vals : List Value} (h : Nest w B vn vl ns cur vals) (hl : vals.length ≤ 1000000) (hB : B ≤ w.heap.size) :
    ∃ vn' w1, (Builtin.append_ #[22, 22] 22 #[vn, .slice (some ⟨w.heap.size, 0, none⟩) 1 1]).run Tryz.prog (w.alloc (.cells #[vl] 35)) = .ok vn' w1 ∧ Nest w1 B vn' (.slice none 0 0) (ns ++ [cur]) [] (vals ++ [vl]) ∧ Below B w w1 := by
  have hn := nest_below h (w' := w.alloc (.cells #[vl] 35)) ((Below.refl _ _).alloc (Nat.le_refl _) _)
  obtain ⟨ao, cap, hvl, _⟩ := ownA_form h.cur
  obtain ⟨vn', w1, h1, h2, h3, h4⟩ := kt.segX_append (P := Tryz.prog) (t := 22) (ty := 22) Tryz.underlying22 infoRow rfl (by omega) ⟨w.heap.size, 0, none⟩ 1 1 [vl] rfl (fun j u hj => by
      rw [kt.addr_add, World.cell?_alloc_new]
      simpa using hj) (by intro u hu; simp at hu; subst hu; rw [hvl]; rfl) hn.outer (by unfold maxLen; omega) (by omega) (by simp; omega)
  have hne : ∀ (v : Value), (∀ k, v.ownBlock = some k → vn.ownBlock ≠ some k) → ∀ k, v.ownBlock = some k → k < (w.alloc (.cells #[vl] 35)).heap.size → w1.heap[k]? = (w.alloc (.cells #[vl] 35)).heap[k]? := by
    intro v hv k hk hlt
    exact h3.block k hlt (fun e => hv k hk e.symm)
  have hnew : ∀ k, k < (w.alloc (.cells #[vl] 35)).heap.size → vn.ownBlock ≠ some k → vn'.ownBlock ≠ some k := by
    intro k hlt hk e
    rcases h4 k e with e2 | e2
    · exact hk e2
    · omega
  have hnil : ∀ k, (Value.slice none 0 0).ownBlock ≠ some k := fun k e => by simp [Value.ownBlock] at e
  refine ⟨vn', w1, h1, ⟨?_, by simp [h.len], fun j a b => ?_, ownA_nil _ _, fun k hk => absurd hk (hnil k)⟩, ?_⟩
  · rw [List.length_append]; exact h2
  · by_cases e : j < vals.length
    · rw [List.getElem_append_left e, List.getElem_append_left (by rw [← h.len]; exact e)]
      obtain ⟨i1, i2⟩ := hn.inner j e (by rw [← h.len]; exact e)
      exact ⟨ownA_same i1 fun k hk => hne _ (fun k hk => (i2 k hk).1) k hk (ownA_lt i1 k hk).2, fun k hk => ⟨hnew k (ownA_lt i1 k hk).2 (i2 k hk).1, hnil k⟩⟩
    · have ej : j = vals.length := by simp at a; omega
      subst ej
      rw [List.getElem_append_right (Nat.le_refl _), List.getElem_append_right (by rw [h.len]; exact Nat.le_refl _)]
      simp only [Nat.sub_self, h.len, List.getElem_cons_zero]
      exact ⟨ownA_same hn.cur fun k hk => hne _ hn.apart k hk (ownA_lt hn.cur k hk).2, fun k hk => ⟨hnew k (ownA_lt hn.cur k hk).2 (hn.apart k hk), hnil k⟩⟩
  · refine ((Below.refl B w).alloc hB _).trans (below_of_gr h3 (by simp; omega) (fun k hk => (kt.segX_lt hn.outer k hk).1))
theorem nest_form {w : World} {B : Nat} {vn vl : Value} {ns : List (List Av)} {cur : List Av} {vals : List Value} (h : Nest w B vn vl ns cur vals) : (∃ ao cap, vn = .slice ao ns.length cap ∧ ns.length ≤ cap) ∧ (∃ ao cap, vl = .slice ao cur.length cap ∧ cur.length ≤ cap) := by
  refine ⟨?_, ownA_form h.cur⟩
  have := kt.segX_slice h.outer
  rw [h.len] at this
  exact this
theorem nest_rdns {w : World} {B cap : Nat} {ao : Option Addr} {vl : Value} {ns : List (List Av)} {cur : List Av} {vals : List Value} (h : Nest w B (.slice ao ns.length cap) vl ns cur vals) : Rdns w ao ns := by
  intro i hi
  have hi' : i < vals.length := by rw [h.len]; exact hi
  obtain ⟨g, o, cap', hv, _, _, hc⟩ := kt.segX_cell h.outer (by omega)
  simp only [Value.slice.injEq] at hv
  obtain ⟨rfl, _, _⟩ := hv
  obtain ⟨i1, _⟩ := h.inner i hi' hi
  obtain ⟨ao', cap2, hf, hcap⟩ := ownA_form i1
  rw [hf] at i1
  refine ⟨g, o, ao', cap2, rfl, ?_, hcap, ownA_avas i1⟩
  rw [← hf]
  exact hc i vals[i] (List.getElem?_eq_getElem hi')
end dnw
end Go.Proofs.YtjjbmhndakmkbaaGreatDoor
