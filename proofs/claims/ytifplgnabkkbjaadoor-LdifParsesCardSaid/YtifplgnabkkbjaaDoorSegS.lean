/- Small laws of no program: a row of many-celled elements that a call owns, from a place of its block on: appended to, inserted into, cut. -/
import Derived.Test.YtifplgnabkkbjaaDoorRowS
import Derived.Laws.CopyRow
import Derived.Lib.AppendZerosOnto
import Derived.Lib.Overlaps
namespace Go.Proofs.YtifplgnabkkbjaaDoor
open Go.RowKit
namespace kt
set_option linter.unusedVariables false
/-- v is n elements of type e (sz cells each), the cells xs, in a block of the call's own -/
def SegX (w : World) (B : Nat) (e : TypeId) (sz : Nat) (v : Value) (n : Nat) (xs : List Value) : Prop :=
  xs.length = n * sz ∧ ((v = .slice none 0 0 ∧ n = 0) ∨
    ∃ (g o cap : Nat) (pre post : List Value), v = .slice (some ⟨g, o, none⟩) n cap ∧ B ≤ g ∧ w.heap[g]? = some (.cells (pre ++ xs ++ post).toArray e (0, 0)) ∧ pre.length = o ∧ n ≤ cap ∧ cap ≤ maxLen ∧ (cap - n) * sz ≤ post.length)
theorem segX_nil (w : World) (B : Nat) (e : TypeId) (sz : Nat) : SegX w B e sz (.slice none 0 0) 0 [] := ⟨by simp, Or.inl ⟨rfl, rfl⟩⟩
theorem segX_of_row {w : World} {B : Nat} {e : TypeId} {sz : Nat} {v : Value} {n : Nat} {xs : List Value} (h : w.ownsRow B e sz v n xs) : SegX w B e sz v n xs := by
  refine ⟨h.1, ?_⟩
  rcases h.2 with h0 | ⟨g, cap, cur, rfl, hb, hg, hc, hm, hs, ht⟩
  · exact Or.inl h0
  · refine Or.inr ⟨g, 0, cap, [], cur.toList.drop (n * sz), rfl, hb, ?_, rfl, hc, hm, ?_⟩
    · rw [hg, ← ht]; simp
    · rw [List.length_drop, Array.length_toList, hs, Nat.sub_mul]; omega
theorem segX_slice {w : World} {B n : Nat} {e : TypeId} {sz : Nat} {v : Value} {xs : List Value} (h : SegX w B e sz v n xs) : ∃ ao cap, v = .slice ao n cap ∧ n ≤ cap := by
  rcases h.2 with ⟨rfl, rfl⟩ | ⟨g, o, cap, pre, post, rfl, _, _, _, hc, _⟩
  · exact ⟨none, 0, rfl, Nat.le_refl _⟩
  · exact ⟨_, cap, rfl, hc⟩
theorem segX_same {w w' : World} {B n : Nat} {e : TypeId} {sz : Nat} {v : Value} {xs : List Value} (h : SegX w B e sz v n xs) (hb : ∀ k, v.ownBlock = some k → w'.heap[k]? = w.heap[k]?) : SegX w' B e sz v n xs := by
  refine ⟨h.1, ?_⟩
  rcases h.2 with h0 | ⟨g, o, cap, pre, post, rfl, hB, hg, hr⟩
  · exact Or.inl h0
  · exact Or.inr ⟨g, o, cap, pre, post, rfl, hB, (hb g rfl).trans hg, hr⟩
theorem bld_lt {w : World} {b : Nat} {o : Obj} (h : w.heap[b]? = some o) : b < w.heap.size := by
  rcases Nat.lt_or_ge b w.heap.size with h' | h'
  · exact h'
  · simp [Array.getElem?_eq_none h'] at h
theorem segX_lt {w : World} {B n : Nat} {e : TypeId} {sz : Nat} {v : Value} {xs : List Value} (h : SegX w B e sz v n xs) : ∀ k, v.ownBlock = some k → B ≤ k ∧ k < w.heap.size := by
  intro k hk
  rcases h.2 with ⟨rfl, _⟩ | ⟨g, o, cap, pre, post, rfl, hB, hg, _⟩
  · cases hk
  · cases hk; exact ⟨hB, bld_lt hg⟩
theorem segX_below {w w' : World} {B n : Nat} {e : TypeId} {sz : Nat} {v : Value} {xs : List Value} (h : SegX w B e sz v n xs) (hb : Below w.heap.size w w') : SegX w' B e sz v n xs :=
  segX_same h fun k hk => hb.block k (segX_lt h k hk).2
theorem segX_mono {w : World} {B C n : Nat} {e : TypeId} {sz : Nat} {v : Value} {xs : List Value} (h : SegX w B e sz v n xs) (hc : C ≤ B) : SegX w C e sz v n xs := by
  refine ⟨h.1, ?_⟩
  rcases h.2 with h0 | ⟨g, o, cap, pre, post, rfl, hB, hr⟩
  · exact Or.inl h0
  · exact Or.inr ⟨g, o, cap, pre, post, rfl, Nat.le_trans hc hB, hr⟩
/-- v' lies where v lay, or in a new block -/
def SameOrNew (w : World) (v v' : Value) : Prop := ∀ k, v'.ownBlock = some k → v.ownBlock = some k ∨ w.heap.size ≤ k
/-- the cells, where there are any -/
theorem segX_cell {w : World} {B n : Nat} {e : TypeId} {sz : Nat} {v : Value} {xs : List Value} (h : SegX w B e sz v n xs) (hn : 0 < n) : ∃ g o cap, v = .slice (some ⟨g, o, none⟩) n cap ∧ B ≤ g ∧ n ≤ cap ∧ (∀ (j : Nat) (x : Value), xs[j]? = some x → w.cell? ⟨g, o + j, none⟩ = some x) := by
  rcases h.2 with ⟨_, h0⟩ | ⟨g, o, cap, pre, post, rfl, hB, hg, hp, hc, _⟩
  · omega
  · refine ⟨g, o, cap, rfl, hB, hc, fun j x hx => ?_⟩
    have hj := (List.getElem?_eq_some_iff.1 hx).1
    rw [Lib.cell_of_heap hg]
    simp only [List.getElem?_toArray]
    rw [List.append_assoc, List.getElem?_append_right (by omega), show o + j - pre.length = j by omega, List.getElem?_append_left hj]
    exact hx
theorem run_append_room_at {P : Program} {w : World} (t ty e : TypeId) (i : TypeInfo) (ht : P.underlying t = some (.slice e)) (hi : P.info? e = some i)
    (g o sLen sCap : Nat) (cur : Array Value) (hg : w.heap[g]? = some (.cells cur e (0, 0)))
    (a : Addr) (m c : Nat) (news : List Value) (hl : news.length = m * i.size) (hnews : ∀ j u, news[j]? = some u → w.cell? (a.add j) = some u) (h1 : ∀ u ∈ news, u.oneCell' = true)
    (hroom : sLen + m ≤ sCap) (hfit : o + sLen * i.size + news.length ≤ cur.size) :
    (Builtin.append_ #[t, t] ty #[.slice (some ⟨g, o, none⟩) sLen sCap, .slice (some a) m c]).run P w =
      .ok (.slice (some ⟨g, o, none⟩) (sLen + m) sCap) (w.setRow g (cur.toList.take (o + sLen * i.size) ++ news ++ cur.toList.drop (o + sLen * i.size + news.length)).toArray) := by
  have hf := run_firstCells_some (P := P) w i.size m a m c news hl hnews
  have hst := run_storeCells_at P g (o + sLen * i.size) e news 0 cur w hg (by simpa using hfit) h1
  simp only [Nat.add_zero] at hst
  have ha : (⟨g, o, none⟩ : Addr).add (sLen * i.size) = ⟨g, o + sLen * i.size, none⟩ := by rw [Addr.add_mid]
  simp [Builtin.append_, run_underlying ht, sizeOf, typeInfo, hi, Builtin.lenOf, hroom, hf, ha, hst]
/-- 'copy(d, s)': all is read before anything is written -/
theorem run_copy_at {P : Program} (w : World) (dT sT ty elem : TypeId) (sz : Nat) (g o dLen dCap : Nat) (a : Addr) (sLen sCap : Nat) (cur : Array Value) (t : TypeId) (cs : List Value)
    (hu : P.underlying dT = some (.slice elem)) (hs : (P.info? elem).map (·.size) = some sz)
    (hg : w.heap[g]? = some (.cells cur t (0, 0))) (n : Nat) (hn : n = Nat.min sLen dLen) (hcs : cs.length = n * sz)
    (hsrc : ∀ j v, cs[j]? = some v → w.cell? (a.add j) = some v) (hfit : o + cs.length ≤ cur.size) (h1 : ∀ v ∈ cs, v.oneCell' = true) :
    (Builtin.copy_ #[dT, sT] ty #[.slice (some ⟨g, o, none⟩) dLen dCap, .slice (some a) sLen sCap]).run P w =
      .ok (goInt n) (w.setRow g (cur.toList.take o ++ cs ++ cur.toList.drop (o + cs.length)).toArray) := by
  have hl := run_loadCells_list (P := P) w a cs hsrc
  have hst := run_storeCells_at P g o t cs 0 cur w hg (by simpa using hfit) h1
  cases hq : P.info? elem with
  | none => simp [hq] at hs
  | some i =>
    have hi : i.size = sz := by simpa [hq] using hs
    rw [hcs] at hl
    simp [Builtin.copy_, run_underlying hu, Builtin.lenOf, Builtin.firstCells, sizeOf, typeInfo, hq, hi, ← hn, hl, hst]
theorem grown_trans {w w1 w2 : World} {k : Option Nat} (h : w.grownBy w1 k) (h2 : w1.grownBy w2 k) : w.grownBy w2 k :=
  ⟨h2.os.trans h.os, h2.tape.trans h.tape, h2.output.trans h.output, Nat.le_trans h.size h2.size, fun j hj hne => (h2.block j (Nat.lt_of_lt_of_le hj h.size) hne).trans (h.block j hj hne)⟩
theorem grown_row (w : World) (g : Nat) (cs : Array Value) : w.grownBy (w.setRow g cs) (some g) :=
  ⟨rfl, rfl, rfl, by simp, fun j hj hne => setRow_other w g j cs (fun h => hne (by rw [h]))⟩
/-- 'append(v, news...)' -/
theorem segX_append {P : Program} {t e ty : TypeId} {z : Value} {sz bytes : Nat} (ht : P.underlying t = some (.slice e)) (hinfo : (P.info? e).map (fun i => (i.zero, i.size, i.bytes)) = some (some z, sz, bytes)) (hzs : z.cells.size = sz) (hsz : 0 < sz)
    {w : World} {B : Nat} {v : Value} {n : Nat} {xs : List Value} (ad : Addr) (m c : Nat) (news : List Value) (hl : news.length = m * sz) (hnews : ∀ j u, news[j]? = some u → w.cell? (ad.add j) = some u) (h1 : ∀ u ∈ news, u.oneCell' = true)
    (hown : SegX w B e sz v n xs) (h63 : n + m ≤ maxLen) (hb : (n + m) * bytes ≤ 140737488355328) (hbase : B ≤ w.heap.size) :
    ∃ v' w1, (Builtin.append_ #[t, t] ty #[v, .slice (some ad) m c]).run P w = .ok v' w1 ∧ SegX w1 B e sz v' (n + m) (xs ++ news) ∧ w.grownBy w1 v.ownBlock ∧ SameOrNew w v v' := by
  rcases hown.2 with ⟨rfl, rfl⟩ | ⟨g, o, cap, pre, post, rfl, hB, hg, hp, hc, hm, hpost⟩
  · have h0 : xs = [] := List.eq_nil_of_length_eq_zero (by simpa using hown.1)
    subst h0
    obtain ⟨i0, hi, hz0, hz1, hz2⟩ := info_parts hinfo
    obtain ⟨v', w1, hr, ho, hgr, _⟩ := run_append_own (P := P) w w.heap.size t ty e i0 z sz bytes ht hi hz0 hz1 hz2 hzs hsz (.slice none 0 0) 0 [] (row_nil _ _ _ _) ad m c news hl hnews h1 h63 hb (Nat.le_refl _)
    exact ⟨v', w1, hr, segX_mono (segX_of_row ho) hbase, hgr, fun k hk => Or.inr (segX_lt (segX_of_row ho) k hk).1⟩
  · obtain ⟨i0, hi, hz0, hz1, hz2⟩ := info_parts hinfo
    subst hz1 hz2
    by_cases hroom : n + m ≤ cap
    · have hfit : m * i0.size ≤ post.length := by
        refine Nat.le_trans (Nat.mul_le_mul_right _ ?_) hpost
        omega
      have hxl := hown.1
      have hr := run_append_room_at (P := P) (w := w) t ty e i0 ht hi g o n cap _ hg ad m c news hl hnews h1 hroom (by simp; omega)
      refine ⟨_, _, hr, ⟨by rw [List.length_append, hown.1, hl, Nat.add_mul], Or.inr ⟨g, o, cap, pre, post.drop (m * i0.size), rfl, hB, ?_, hp, hroom, hm, ?_⟩⟩, grown_row _ _ _, fun k hk => Or.inl hk⟩
      · rw [setRow_heap w g _ _ e _ hg]
        congr 3
        have e1 : (pre ++ xs ++ post).take (o + n * i0.size) = pre ++ xs := by
          rw [List.take_append_of_le_length (by rw [List.length_append]; omega), List.take_of_length_le (by rw [List.length_append]; omega)]
        have e2 : (pre ++ xs ++ post).drop (o + n * i0.size + news.length) = post.drop (m * i0.size) := by
          rw [List.drop_append, List.drop_of_length_le (by rw [List.length_append]; omega), List.nil_append]
          congr 1
          rw [List.length_append]
          omega
        rw [e1, e2]
        simp
      · rw [List.length_drop, Nat.sub_mul]
        rw [Nat.sub_mul] at hpost
        rw [Nat.add_mul]
        omega
    · have holds : ∀ j u, xs[j]? = some u → w.cell? ((⟨g, o, none⟩ : Addr).add j) = some u := by
        intro j u hj
        have hj' := (List.getElem?_eq_some_iff.1 hj).1
        rw [Addr.add_mid, Lib.cell_of_heap hg]
        simp only [List.getElem?_toArray]
        rw [List.append_assoc, List.getElem?_append_right (by omega), show o + j - pre.length = j by omega, List.getElem?_append_left hj']
        exact hj
      have hr := run_append_grow (P := P) w t ty e i0 z ht hi hz0 ⟨g, o, none⟩ n cap xs hown.1 holds ad m c news hl hnews (by omega) (by unfold maxLen at h63; omega) (growslice_fits (by omega) hb)
      have hge := grownCap_ge w (n + m) cap e
      refine ⟨_, _, hr, ⟨by rw [List.length_append, hown.1, hl, Nat.add_mul], Or.inr ⟨w.heap.size, 0, _, [], (Builtin.zeroCells z.cells (grownCap w (n + m) cap e - (n + m))).toList, rfl, hbase, ?_, rfl, hge, grownCap_le_maxLen w (n + m) cap e h63, ?_⟩⟩, ⟨rfl, rfl, rfl, by simp, fun k hk _ => Below.heap_alloc w.drew _ _ hk⟩, fun k hk => Or.inr (by cases hk; exact Nat.le_refl _)⟩
      · refine (heap_alloc_new w.drew _).trans ?_
        congr 3
        simp
      · rw [Array.length_toList, size_zeroCells, hzs]
        exact Nat.le_refl _
/-- v[1:] -/
theorem segX_tail {w : World} {B n : Nat} {e : TypeId} {sz : Nat} {g o cap : Nat} {xs : List Value} (h : SegX w B e sz (.slice (some ⟨g, o, none⟩) (n + 1) cap) (n + 1) xs) :
    SegX w B e sz (.slice (some ⟨g, if cap = 1 then o else o + sz, none⟩) n (cap - 1)) n (xs.drop sz) := by
  have hxl := h.1
  refine ⟨by rw [List.length_drop, hxl, Nat.add_mul]; omega, ?_⟩
  rcases h.2 with ⟨h0, _⟩ | ⟨g', o', cap', pre, post, hv, hB, hg, hp, hc, hm, hpost⟩
  · cases h0
  · simp only [Value.slice.injEq, Option.some.injEq, Addr.mk.injEq] at hv
    obtain ⟨⟨rfl, rfl, _⟩, _, rfl⟩ := hv
    by_cases hc1 : cap = 1
    · subst hc1
      obtain rfl : n = 0 := by omega
      rw [if_pos rfl]
      refine Or.inr ⟨g, o, 0, pre, xs ++ post, rfl, hB, ?_, hp, Nat.le_refl _, by omega, by simp⟩
      rw [hg, List.drop_of_length_le (by omega)]
      simp
    · rw [if_neg hc1]
      refine Or.inr ⟨g, o + sz, cap - 1, pre ++ xs.take sz, post, rfl, hB, ?_, ?_, by omega, by omega, ?_⟩
      · rw [hg]
        congr 3
        rw [List.append_assoc pre (xs.take sz), List.take_append_drop]
      · rw [List.length_append, List.length_take, hxl, Nat.add_mul]
        omega
      · have : cap - 1 - n = cap - (n + 1) := by omega
        rw [this]
        exact hpost
/-- a copy whose run is known, in the walk -/
theorem wpList_copy_known {P : Program} (w : World) {ops : Array Oper} {rest : List Oper} {o : Oper} {a : Act} {Q : Exit → Act → World → Prop} (hgd : o.guard = none) (d s : Operand) (t t' : TypeId)
    (ho : o.op = .call { callee := .builtin .copy, args := #[d, s], argTypes := #[t, t'] }) (v u : Value) (hd : a.eval d = v) (hs : a.eval s = u) {v' : Value} {w' : World}
    (hr : (Builtin.copy_ #[t, t'] o.type #[v, u]).run P w = .ok v' w') (h : wpList P ops Q rest (a.put o.dst v') w') : wpList P ops Q (o :: rest) a w :=
  wpList_plain hgd fun _ hK => by
    unfold Oper.wp execOp
    simp only [ho, resolve, invoke, builtin, Sem.run_bind, Sem.run_pure, Result.andThen_ok, List.map_toArray, List.map_cons, List.map_nil, hd, hs, hr]
    exact hK _ _ h
/-- the same, at a step of a region that draws its order -/
theorem step_copy_known {P : Program} {w : World} {ops : Array Oper} {o : Oper} {a : Act} {K : Act → World → Prop} {Q : Exit → Act → World → Prop} {E : Prop} (hgd : o.guard = none) (d s : Operand) (t t' : TypeId)
    (ho : o.op = .call { callee := .builtin .copy, args := #[d, s], argTypes := #[t, t'] }) (v u : Value) (hd : a.eval d = v) (hs : a.eval s = u) {v' : Value} {w' : World}
    (hr : (Builtin.copy_ #[t, t'] o.type #[v, u]).run P w = .ok v' w') (h : K (a.put o.dst v') w') :
    if Region.wanted o (yielded ops a.tmps) = true then Oper.wp P o a w K Q else E := by
  have hw : Region.wanted o (yielded ops a.tmps) = true := by simp [Region.wanted, hgd]
  rw [if_pos hw]
  unfold Oper.wp execOp
  simp only [ho, resolve, invoke, builtin, Sem.run_bind, Sem.run_pure, Result.andThen_ok, List.map_toArray, List.map_cons, List.map_nil, hd, hs, hr]
  exact h
end kt
end Go.Proofs.YtifplgnabkkbjaaDoor
