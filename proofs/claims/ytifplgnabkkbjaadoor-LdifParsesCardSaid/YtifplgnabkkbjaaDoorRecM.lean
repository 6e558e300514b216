/- Records in memory: a row of names with rows of pairs that the call owns. -/
import Derived.Test.YtifplgnabkkbjaaDoorRowM
namespace Go.Proofs.YtifplgnabkkbjaaDoor
open Go.RowKit
namespace ldw
open ldp
set_option linter.unusedVariables false
set_option linter.unusedSimpArgs false
abbrev Pr := List UInt8 × List UInt8
def pcell (x : Pr) : List Value := [.string (bs x.1), .string (bs x.2)]
theorem infoAva : (Tryd.prog.info? 33).map (fun i => (i.zero, i.size, i.bytes)) = some (some (.agg #[.string ByteArray.empty, .string ByteArray.empty]), 2, 32) := by kernel_rfl
theorem infoRec : (Tryd.prog.info? 31).map (fun i => (i.zero, i.size, i.bytes)) = some (some (.agg #[.string ByteArray.empty, .slice none 0 0]), 2, 40) := by kernel_rfl
/-- a row of pairs that the call owns -/
def OwnP (w : World) (B : Nat) (v : Value) (l : List Pr) : Prop := kt.SegX w B 33 2 v l.length (l.flatMap pcell)
theorem ownP_nil (w : World) (B : Nat) : OwnP w B (.slice none 0 0) [] := kt.segX_nil _ _ _ _
theorem ownP_lt {w : World} {B : Nat} {v : Value} {l : List Pr} (h : OwnP w B v l) : ∀ k, v.ownBlock = some k → B ≤ k ∧ k < w.heap.size := kt.segX_lt h
/-- a record with the value of its pairs -/
abbrev RV := Rec × Value
def qcell (x : RV) : List Value := [.string (bs x.1.name), x.2]
/-- records that the call owns -/
structure Recs (w : World) (B : Nat) (v : Value) (l : List RV) : Prop where
  outer : kt.SegX w B 31 2 v l.length (l.flatMap qcell)
  inner : ∀ j (h : j < l.length), OwnP w B l[j].2 l[j].1.pairs ∧ ∀ k, l[j].2.ownBlock = some k → v.ownBlock ≠ some k
  apart : ∀ i j (h : i < l.length) (h' : j < l.length), i ≠ j → ∀ k, l[i].2.ownBlock = some k → l[j].2.ownBlock ≠ some k
theorem recs_nil (w : World) (B : Nat) : Recs w B (.slice none 0 0) [] := ⟨kt.segX_nil _ _ _ _, fun j h => by simp at h, fun i j h => by simp at h⟩
theorem recs_made (w : World) : Recs (w.alloc (.cells #[] 31)) w.heap.size (.slice (some ⟨w.heap.size, 0, none⟩) 0 0) [] :=
  ⟨kt.segX_of_row (World.ownsRow_made w #[] 0 (Nat.le_refl _) (by unfold maxLen; omega) rfl), fun j h => by simp at h, fun i j h => by simp at h⟩
theorem recs_same {w w' : World} {B : Nat} {v : Value} {l : List RV} (h : Recs w B v l) (hb : ∀ k, B ≤ k → k < w.heap.size → w'.heap[k]? = w.heap[k]?) : Recs w' B v l := by
  refine ⟨kt.segX_same h.outer fun k hk => ?_, fun j h1 => ⟨kt.segX_same (h.inner j h1).1 fun k hk => ?_, (h.inner j h1).2⟩, h.apart⟩
  · have := kt.segX_lt h.outer k hk; exact hb k this.1 this.2
  · have := ownP_lt (h.inner j h1).1 k hk; exact hb k this.1 this.2
theorem recs_below {w w' : World} {B : Nat} {v : Value} {l : List RV} (h : Recs w B v l) (hb : Below w.heap.size w w') : Recs w' B v l :=
  recs_same h fun k _ hlt => hb.block k hlt
theorem recs_form {w : World} {B : Nat} {v : Value} {l : List RV} (h : Recs w B v l) : ∃ ao n cap, v = .slice ao n cap ∧ Hid (n = l.length) ∧ n ≤ cap := by
  obtain ⟨ao, cap, hv, hc⟩ := kt.segX_slice h.outer
  exact ⟨ao, _, cap, hv, rfl, hc⟩
/-- a record laid behind -/
theorem recs_push {w : World} {B : Nat} {v : Value} {l : List RV} (name : List UInt8) (t : ByteArray) (ht : bs name = t) (h : Recs w B v l) (hl : l.length ≤ 1000000) (hB : B ≤ w.heap.size) :
    ∃ ao n cap w1, (Builtin.append_ #[23, 23] 23 #[v, .slice (some ⟨w.heap.size, 0, none⟩) 1 1]).run Tryd.prog (w.alloc (.cells #[.string t, .slice none 0 0] 31)) = .ok (.slice ao n cap) w1 ∧ Recs w1 B (.slice ao n cap) (l ++ [(⟨name, []⟩, .slice none 0 0)]) ∧ Below B w w1 := by
  subst ht
  have hn := recs_below h (w' := w.alloc (.cells #[.string (bs name), .slice none 0 0] 31)) ((Below.refl _ _).alloc (Nat.le_refl _) _)
  obtain ⟨v', w1, h1, h2, h3, h4⟩ := kt.segX_append (P := Tryd.prog) (t := 23) (ty := 23) Tryd.underlying23 infoRec rfl (by omega) ⟨w.heap.size, 0, none⟩ 1 1 (qcell (⟨name, []⟩, .slice none 0 0)) rfl (fun j u hj => by
      rw [kt.addr_add, World.cell?_alloc_new]
      simpa [qcell] using hj) (by intro u hu; simp [qcell] at hu; rcases hu with rfl | rfl <;> rfl) hn.outer (by unfold maxLen; omega) (by omega) (by simp; omega)
  obtain ⟨ao, cap, rfl, _⟩ := kt.segX_slice h2
  have hne : ∀ (u : Value), (∀ k, u.ownBlock = some k → v.ownBlock ≠ some k) → ∀ k, u.ownBlock = some k → k < (w.alloc (.cells #[.string (bs name), .slice none 0 0] 31)).heap.size → w1.heap[k]? = (w.alloc (.cells #[.string (bs name), .slice none 0 0] 31)).heap[k]? := by
    intro u hu k hk hlt
    exact h3.block k hlt (fun e => hu k hk e.symm)
  have hnil : ∀ k, (Value.slice none 0 0).ownBlock ≠ some k := fun k e => by simp [Value.ownBlock] at e
  refine ⟨ao, _, cap, w1, h1, ⟨?_, fun j a => ?_, fun i j a b hij k hk => ?_⟩, ((Below.refl B w).alloc hB _).trans ((Below.refl B _).grown h3 (by simp; omega) (fun k hk => (kt.segX_lt hn.outer k hk).1))⟩
  · rw [List.length_append, List.flatMap_append]
    simpa using h2
  · by_cases e : j < l.length
    · rw [List.getElem_append_left e]
      obtain ⟨i1, i2⟩ := hn.inner j e
      refine ⟨kt.segX_same i1 fun k hk => hne _ i2 k hk (ownP_lt i1 k hk).2, fun k hk e2 => ?_⟩
      rcases h4 k e2 with e3 | e3
      · exact i2 k hk e3
      · have := (ownP_lt i1 k hk).2; omega
    · have ej : j = l.length := by simp at a; omega
      subst ej
      rw [List.getElem_append_right (Nat.le_refl _)]
      simp only [Nat.sub_self, List.getElem_cons_zero]
      exact ⟨ownP_nil _ _, fun k hk => absurd hk (hnil k)⟩
  · by_cases ei : i < l.length
    · rw [List.getElem_append_left ei] at hk
      by_cases ej : j < l.length
      · rw [List.getElem_append_left ej]
        exact hn.apart i j ei ej hij k hk
      · rw [List.getElem_append_right (by omega)]
        have : j - l.length = 0 := by simp at b; omega
        simp only [this, List.getElem_cons_zero]
        exact hnil k
    · rw [List.getElem_append_right (by omega)] at hk
      have : i - l.length = 0 := by simp at a; omega
      simp only [this, List.getElem_cons_zero] at hk
      exact absurd hk (hnil k)
/-- the last record: where its pairs' value lies; a pair laid behind them, and the value stored -/
theorem recs_add {w : World} {B n cap : Nat} {ao : Option Addr} {l : List RV} {x : RV} (p : Pr) (t u : ByteArray) (ht : bs p.1 = t) (hu : bs p.2 = u) (h : Recs w B (.slice ao n cap) (l ++ [x])) (hn : n = l.length + 1) (hl : x.1.pairs.length ≤ 1000000) (hB : B ≤ w.heap.size) :
    ∃ g o, ao = some ⟨g, o, none⟩ ∧ B ≤ g ∧ g < w.heap.size ∧ w.cell? ⟨g, o + l.length * 2 + 1, none⟩ = some x.2 ∧ ∃ v' w1, (Builtin.append_ #[29, 29] 29 #[x.2, .slice (some ⟨w.heap.size, 0, none⟩) 1 1]).run Tryd.prog (w.alloc (.cells #[.string t, .string u] 33)) = .ok v' w1 ∧ Below B w w1 ∧ (∃ y, w1.cell? ⟨g, o + l.length * 2 + 1, none⟩ = some y) ∧ w1.frozen? ⟨g, o + l.length * 2 + 1, none⟩ = false ∧
      (∃ a m c, v' = .slice a m c) ∧ Recs (w1.setCell ⟨g, o + l.length * 2 + 1, none⟩ v') B (.slice ao n cap) (l ++ [(⟨x.1.name, x.1.pairs ++ [p]⟩, v')]) := by
  subst ht hu
  subst hn
  have hB2 := (Below.refl w.heap.size w).alloc (Nat.le_refl _) (.cells #[.string (bs p.1), .string (bs p.2)] 33)
  have hw := recs_below h hB2
  have hlen : (l ++ [x]).length = l.length + 1 := by simp
  have ho := hw.outer
  rw [hlen] at ho
  obtain ⟨g, o, rfl⟩ := kt.segX_addr ho (by omega)
  obtain ⟨hBg, hglt, hc, hf⟩ := kt.segX_at ho
  have ho0 := h.outer
  rw [hlen] at ho0
  obtain ⟨_, hglt0, hc0, _⟩ := kt.segX_at ho0
  have hfl : (l.flatMap qcell).length = l.length * 2 := kt.flat_len qcell 2 (fun _ => rfl) l
  have hx : ((l ++ [x]).flatMap qcell)[l.length * 2 + 1]? = some x.2 := by
    rw [List.flatMap_append, List.getElem?_append_right (by omega), hfl, show l.length * 2 + 1 - l.length * 2 = 1 from by omega]
    simp [qcell]
  obtain ⟨i1, i2⟩ := hw.inner l.length (by rw [hlen]; omega)
  simp only [List.getElem_append_right (Nat.le_refl _), Nat.sub_self, List.getElem_cons_zero] at i1 i2
  obtain ⟨v', w1, h1, h2, h3, h4⟩ := kt.segX_append (P := Tryd.prog) (t := 29) (ty := 29) Tryd.underlying29 infoAva rfl (by omega) ⟨w.heap.size, 0, none⟩ 1 1 (pcell p) rfl (fun j u hj => by
      rw [kt.addr_add, World.cell?_alloc_new]
      simpa [pcell] using hj) (by intro u hu; simp [pcell] at hu; rcases hu with rfl | rfl <;> rfl) i1 (by unfold maxLen; omega) (by omega) (by simp; omega)
  obtain ⟨a2, c2, hv2, _⟩ := kt.segX_slice h2
  -- the outer row stands
  have hnb : ∀ k, (Value.slice (some ⟨g, o, none⟩) (l.length + 1) cap).ownBlock = some k → x.2.ownBlock ≠ some k := fun k hk e => i2 k e hk
  have ho1 : kt.SegX w1 B 31 2 (.slice (some ⟨g, o, none⟩) (l.length + 1) cap) (l.length + 1) ((l ++ [x]).flatMap qcell) :=
    kt.segX_same ho fun k hk => h3.block k (kt.segX_lt ho k hk).2 (fun e => hnb k hk e.symm)
  obtain ⟨_, _, hc1, hf1⟩ := kt.segX_at ho1
  have hset := kt.segX_set ho1 (l.length * 2 + 1) (by rw [List.flatMap_append, List.length_append, hfl]; simp [qcell]) v'
  have e : ((l ++ [x]).flatMap qcell).set (l.length * 2 + 1) v' = (l ++ [((⟨x.1.name, x.1.pairs ++ [p]⟩ : Rec), v')]).flatMap qcell := by
    rw [List.flatMap_append, List.flatMap_append, List.set_append_right _ _ (by omega), hfl, show l.length * 2 + 1 - l.length * 2 = 1 from by omega]
    simp [qcell]
  have hBw1 : Below B w w1 := ((Below.refl B w).alloc hB _).trans ((Below.refl B _).grown h3 (by simp; omega) (fun k hk => (ownP_lt i1 k hk).1))
  refine ⟨g, o, rfl, hBg, hglt0, ?_, v', w1, h1, hBw1, ⟨x.2, ?_⟩, hf1 _, ⟨a2, _, c2, hv2⟩, ⟨?_, fun j hj => ?_, fun i j hi hj hij k hk => ?_⟩⟩
  · rw [Nat.add_assoc]; exact hc0 _ _ hx
  · rw [Nat.add_assoc]; exact hc1 _ _ hx
  · rw [List.length_append, ← e, Nat.add_assoc]
    exact hset.1
  · have hv1 : ∀ k, v'.ownBlock = some k → (Value.slice (some ⟨g, o, none⟩) (l.length + 1) cap).ownBlock ≠ some k := by
      intro k hk e2
      rcases h4 k hk with e3 | e3
      · exact i2 k e3 e2
      · have : k < _ := (kt.segX_lt ho k e2).2
        omega
    have hst : ∀ k, k ≠ g → (w1.setCell ⟨g, o + l.length * 2 + 1, none⟩ v').heap[k]? = w1.heap[k]? := fun k hk => Below.heap_setCell _ _ _ _ hk
    by_cases ej : j < l.length
    · rw [List.getElem_append_left ej]
      obtain ⟨k1, k2⟩ := hw.inner j (by rw [hlen]; omega)
      rw [List.getElem_append_left ej] at k1 k2
      refine ⟨kt.segX_same k1 fun k hk => ?_, k2⟩
      have hkg : k ≠ g := fun e2 => k2 k hk (by subst e2; rfl)
      rw [hst k hkg]
      refine h3.block k (ownP_lt k1 k hk).2 (fun e2 => ?_)
      have := hw.apart j l.length (by rw [hlen]; omega) (by rw [hlen]; omega) (by omega) k (by rw [List.getElem_append_left ej]; exact hk)
      rw [List.getElem_append_right (Nat.le_refl _)] at this
      simp only [Nat.sub_self, List.getElem_cons_zero] at this
      exact this e2.symm
    · have ej2 : j = l.length := by simp at hj; omega
      subst ej2
      rw [List.getElem_append_right (Nat.le_refl _)]
      simp only [Nat.sub_self, List.getElem_cons_zero]
      refine ⟨?_, hv1⟩
      have h2' : OwnP w1 B v' (x.1.pairs ++ [p]) := by
        unfold OwnP
        rw [List.length_append, List.flatMap_append]
        simpa using h2
      refine kt.segX_same h2' fun k hk => hst k (fun e2 => hv1 k hk (by subst e2; rfl))
  · have hlast : ∀ m, m < l.length → ∀ k, (l ++ [x])[m]?.map (·.2.ownBlock) = some (some k) → v'.ownBlock ≠ some k := by
      intro m hm k hk e2
      have hm2 : (l ++ [x])[m]'(by rw [hlen]; omega) = l[m] := List.getElem_append_left hm
      rw [List.getElem?_eq_getElem (by rw [hlen]; omega), hm2] at hk
      simp only [Option.map_some, Option.some.injEq] at hk
      obtain ⟨k1, k2⟩ := hw.inner m (by rw [hlen]; omega)
      rw [hm2] at k1 k2
      rcases h4 k e2 with e3 | e3
      · have := hw.apart m l.length (by rw [hlen]; omega) (by rw [hlen]; omega) (by omega) k (by rw [hm2]; exact hk)
        rw [List.getElem_append_right (Nat.le_refl _)] at this
        simp only [Nat.sub_self, List.getElem_cons_zero] at this
        exact this e3
      · have := (ownP_lt k1 k hk).2
        omega
    by_cases ei : i < l.length
    · rw [List.getElem_append_left ei] at hk
      by_cases ej : j < l.length
      · rw [List.getElem_append_left ej]
        have := hw.apart i j (by rw [hlen]; omega) (by rw [hlen]; omega) hij k (by rw [List.getElem_append_left ei]; exact hk)
        rw [List.getElem_append_left ej] at this
        exact this
      · rw [List.getElem_append_right (by omega)]
        have : j - l.length = 0 := by simp at hj; omega
        simp only [this, List.getElem_cons_zero]
        refine hlast i ei k ?_
        rw [List.getElem?_eq_getElem (by rw [hlen]; omega), List.getElem_append_left ei]
        simp [hk]
    · have ei2 : i - l.length = 0 := by simp at hi; omega
      have hjl : j < l.length := by simp at hi hj; omega
      rw [List.getElem_append_right (by omega)] at hk
      simp only [ei2, List.getElem_cons_zero] at hk
      rw [List.getElem_append_left hjl]
      intro e2
      refine hlast j hjl k ?_ hk
      rw [List.getElem?_eq_getElem (by rw [hlen]; omega), List.getElem_append_left hjl]
      simp [e2]
/-- any record's name and pairs -/
theorem recs_at {w : World} {B n cap : Nat} {ao : Option Addr} {l : List RV} (h : Recs w B (.slice ao n cap) l) (i : Nat) (hi : i < l.length) :
    ∃ g o, ao = some ⟨g, o, none⟩ ∧ w.cell? ⟨g, o + i * 2, none⟩ = some (.string (bs l[i].1.name)) ∧ w.cell? ⟨g, o + i * 2 + 1, none⟩ = some l[i].2 ∧
      ∃ a m c, l[i].2 = .slice a m c ∧ m = l[i].1.pairs.length ∧ ∀ j (hj : j < l[i].1.pairs.length), ∃ g' o', a = some ⟨g', o', none⟩ ∧ w.cell? ⟨g', o' + j * 2, none⟩ = some (.string (bs l[i].1.pairs[j].1)) ∧ w.cell? ⟨g', o' + j * 2 + 1, none⟩ = some (.string (bs l[i].1.pairs[j].2)) := by
  have h1 := h.outer
  obtain ⟨ao', cap', hv, _⟩ := kt.segX_slice h1
  simp only [Value.slice.injEq] at hv
  obtain ⟨rfl, rfl, rfl⟩ := hv
  obtain ⟨g, o, rfl⟩ := kt.segX_addr h1 (by omega)
  obtain ⟨hB, hlt, hc, hf⟩ := kt.segX_at h1
  have f0 := kt.flat_get qcell 2 (fun _ => rfl) l i 0 hi (by omega)
  have f1 := kt.flat_get qcell 2 (fun _ => rfl) l i 1 hi (by omega)
  refine ⟨g, o, rfl, hc _ _ f0, by rw [Nat.add_assoc]; exact hc _ _ f1, ?_⟩
  have h2 := (h.inner i hi).1
  obtain ⟨a, c, hv2, _⟩ := kt.segX_slice h2
  refine ⟨a, _, c, hv2, rfl, fun j hj => ?_⟩
  have h3 := h2
  unfold OwnP at h3
  rw [hv2] at h3
  obtain ⟨g', o', rfl⟩ := kt.segX_addr h3 (by omega)
  obtain ⟨_, _, hc', _⟩ := kt.segX_at h3
  have k0 := kt.flat_get pcell 2 (fun _ => rfl) l[i].1.pairs j 0 hj (by omega)
  have k1 := kt.flat_get pcell 2 (fun _ => rfl) l[i].1.pairs j 1 hj (by omega)
  exact ⟨g', o', rfl, hc' _ _ k0, by rw [Nat.add_assoc]; exact hc' _ _ k1⟩
end ldw
end Go.Proofs.YtifplgnabkkbjaaDoor
