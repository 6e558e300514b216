/- Small laws of no program: a row of many-celled elements that a call owns and appends to. -/
import Derived.Test.YtifplgnabkkbjaaDoorKit
namespace Go.Proofs.YtifplgnabkkbjaaDoor
open Go.RowKit
namespace kt
/-- 'append(v, x)' where v owns its row, an element of sz cells: the run. -/
theorem appS {P : Program} {t e ty : TypeId} {z : Value} {sz bytes : Nat} (ht : P.underlying t = some (.slice e)) (hinfo : (P.info? e).map (fun i => (i.zero, i.size, i.bytes)) = some (some z, sz, bytes)) (hzs : z.cells.size = sz) (hsz : 0 < sz)
    {w : World} {B n : Nat} {v : Value} {xs : List Value} (news : List Value) (hl : news.length = sz) (h1 : ∀ u ∈ news, u.oneCell' = true) (hown : w.ownsRow B e sz v n xs) (h63 : n + 1 ≤ maxLen) (hb : (n + 1) * bytes ≤ 140737488355328) (hbase : B ≤ w.heap.size) :
    ∃ v' w1, (Builtin.append_ #[t, t] ty #[v, .slice (some ⟨w.heap.size, 0, none⟩) 1 1]).run P (w.alloc (.cells news.toArray e)) = .ok v' w1 ∧ w1.ownsRow B e sz v' (n + 1) (xs ++ news) ∧ w.grownBy w1 v.ownBlock ∧ Below B w w1 := by
  obtain ⟨i0, hi, hz0, hz1, hz2⟩ := info_parts hinfo
  obtain ⟨v', w1, hrun, hown', hgr, _⟩ := run_append_own (P := P) (w.alloc (.cells news.toArray e)) B t ty e i0 z sz bytes ht hi hz0 hz1 hz2 hzs hsz v n xs (hown.alloc _) ⟨w.heap.size, 0, none⟩ 1 1 news (by omega)
    (fun j u hj => by
      rw [kt.addr_add, World.cell?_alloc_new]
      simpa using hj) h1 h63 hb (by simp; omega)
  have hlt : ∀ k, v.ownBlock = some k → B ≤ k ∧ k < w.heap.size := hown.lt
  have hg : w.grownBy w1 v.ownBlock := by
    refine ⟨hgr.os, hgr.tape, hgr.output, ?_, ?_⟩
    · have := hgr.size; simp at this; omega
    · intro k hk hne
      rw [hgr.block k (by simp; omega) hne]
      exact Below.heap_alloc _ _ _ hk
  exact ⟨v', w1, hrun, hown', hg, (Below.refl B w).grown hg hbase (fun k hk => (hlt k hk).1)⟩
theorem row_nil (w : World) (B : Nat) (e : TypeId) (sz : Nat) : w.ownsRow B e sz (.slice none 0 0) 0 [] := ⟨by simp, Or.inl ⟨rfl, rfl⟩⟩
/-- the value of an owned row is a slice -/
theorem rowS_slice {w : World} {B n : Nat} {e : TypeId} {sz : Nat} {v : Value} {xs : List Value} (h : w.ownsRow B e sz v n xs) : ∃ ao cap, v = .slice ao n cap ∧ n ≤ cap := by
  rcases h.2 with ⟨rfl, h0⟩ | ⟨g, cap, cur, rfl, _, _, hc, _, _⟩
  · subst h0
    exact ⟨none, 0, rfl, Nat.le_refl _⟩
  · exact ⟨_, cap, rfl, hc⟩
/-- an owned row that is not empty has an address, and its cells lie there -/
theorem rowS_some {w : World} {B : Nat} {e : TypeId} {sz : Nat} {ao : Option Addr} {cap n : Nat} {xs : List Value} (h : w.ownsRow B e sz (.slice ao n cap) n xs) (hne : 0 < n) :
    ∃ g, ao = some ⟨g, 0, none⟩ ∧ (∀ (j : Nat) (x : Value), xs[j]? = some x → w.cell? ⟨g, j, none⟩ = some x) ∧ B ≤ g := by
  rcases h.2 with ⟨_, h0⟩ | ⟨g, cap', cur, hv, hBg, _⟩
  · omega
  · simp only [Value.slice.injEq] at hv
    obtain ⟨rfl, _, rfl⟩ := hv
    refine ⟨g, rfl, fun j x hx => ?_, hBg⟩
    have := h.cells (g := g) rfl j x hx
    rwa [kt.addr_add] at this
/-- an owned row stands where nothing below the heap's size has turned -/
theorem rowS_below {w w' : World} {B : Nat} {e : TypeId} {sz : Nat} {v : Value} {n : Nat} {xs : List Value} (h : w.ownsRow B e sz v n xs) (hb : Below w.heap.size w w') : w'.ownsRow B e sz v n xs := by
  refine ⟨h.1, ?_⟩
  rcases h.2 with h0 | ⟨g, cap, cur, hv, hBg, hg, h1, h2, h3, h4⟩
  · exact Or.inl h0
  · refine Or.inr ⟨g, cap, cur, hv, hBg, ?_, h1, h2, h3, h4⟩
    rw [hb.block g (Nat.lt_of_not_le fun hge => by simp [Array.getElem?_eq_none hge] at hg)]
    exact hg
theorem flat_get {α : Type} (f : α → List Value) (sz : Nat) (hf : ∀ a, (f a).length = sz) : ∀ (l : List α) (i j : Nat) (hi : i < l.length) (_ : j < sz), (l.flatMap f)[i * sz + j]? = (f l[i])[j]? := by
  intro l
  induction l with
  | nil => intro i j hi; simp at hi
  | cons c r ih =>
    intro i j hi hj
    rw [List.flatMap_cons]
    match i, hi with
    | 0, _ =>
      rw [List.getElem?_append_left (by rw [hf]; omega)]
      simp
    | k + 1, hi =>
      rw [List.getElem?_append_right (by rw [hf, Nat.add_mul]; omega), hf]
      have e : (k + 1) * sz + j - sz = k * sz + j := by rw [Nat.add_mul]; omega
      rw [e, ih k j (by simpa using hi) hj]
      simp
theorem flat_len {α : Type} (f : α → List Value) (sz : Nat) (hf : ∀ a, (f a).length = sz) (l : List α) : (l.flatMap f).length = l.length * sz := by
  induction l with
  | nil => simp
  | cons c r ih => rw [List.flatMap_cons, List.length_append, hf, ih, List.length_cons, Nat.add_mul]; omega
end kt
end Go.Proofs.YtifplgnabkkbjaaDoor
