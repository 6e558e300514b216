/- FreePlays' plain laws; two lists kept apart. -/
import Derived.Test.YtcmpepojokmhnaaCopyW
import Derived.Test.YtcmpepojokmhnaaOnce
namespace Go.Proofs.Ytcmpepojokmhnaa
open Go.RowKit
namespace fre
set_option linter.unusedVariables false
set_option linter.unusedSimpArgs false
theorem hasP_perm {m l : List Fre} (h : m.Perm l) (k : Int) : hasP l k = hasP m k := by
  unfold hasP
  rw [Bool.eq_iff_iff, List.any_eq_true, List.any_eq_true]
  constructor
  · rintro ⟨x, hx, e⟩; exact ⟨x, h.mem_iff.2 hx, e⟩
  · rintro ⟨x, hx, e⟩; exact ⟨x, h.mem_iff.1 hx, e⟩
theorem add_law {l m : List Fre} (c : Fre) (hp : m.Perm l) : (raddP m c).2 = (addP l c).2 ∧ (raddP m c).1.Perm (addP l c).1 := by
  unfold raddP addP
  by_cases hok : okF c
  · rw [if_pos hok, if_pos hok]
    have hg : (c.page.toNat : Int) = c.page := by have := hok.2.2.1; omega
    have e : hereB l c.page.toNat = hasP m c.page := by
      rw [← hasP_perm hp]
      unfold hereB hasP
      rw [hg]
    rw [e]
    by_cases hh : hasP m c.page = true
    · rw [if_pos hh, if_pos hh]
      exact ⟨rfl, hp⟩
    · rw [if_neg hh, if_neg hh]
      exact ⟨rfl, (List.perm_append_singleton c m).trans ((List.Perm.cons c hp).trans (insF_perm l c).symm)⟩
  · rw [if_neg hok, if_neg hok]
    exact ⟨rfl, hp⟩
theorem cons_erase : ∀ (m : List Fre) (g : Nat) (hg : g < m.length), (m[g] :: m.eraseIdx g).Perm m
  | a :: r, 0, _ => List.Perm.refl _
  | a :: r, g + 1, hg => by
    have ih := cons_erase r g (by simpa using hg)
    simp only [List.getElem_cons_succ, List.eraseIdx_cons_succ]
    exact (List.Perm.swap a _ _).trans (List.Perm.cons a ih)
theorem take_law {l m m' : List Fre} {u pg : Int} {ok : Bool} (ho : OkL l) (hp : m.Perm l) (h : RTake m u m' pg ok) : (takeP l u).2 = (pg, ok) ∧ m'.Perm (takeP l u).1 := by
  unfold takeP
  cases l with
  | nil =>
    have hm : m = [] := hp.eq_nil
    subst hm
    rcases h with ⟨rfl, rfl, rfl, _⟩ | ⟨_, g, hg, _⟩
    · exact ⟨rfl, List.Perm.refl _⟩
    · simp at hg
  | cons a r =>
    dsimp only
    have hall : ∀ x ∈ r, ltF a x := (List.pairwise_cons.1 ho.1).1
    by_cases hu : u < a.txn
    · rw [if_pos hu]
      rcases h with ⟨rfl, rfl, rfl, _⟩ | ⟨_, g, hg, _, _, h4, _⟩
      · exact ⟨rfl, hp⟩
      · rcases List.mem_cons.1 (hp.mem_iff.1 (List.getElem_mem hg)) with e | e
        · rw [e] at h4; omega
        · have := hall _ e
          unfold ltF at this
          omega
    · rw [if_neg hu]
      rcases h with ⟨_, _, _, h4⟩ | ⟨rfl, g, hg, rfl, rfl, h4, h5⟩
      · exact absurd (by omega) (h4 a (hp.mem_iff.2 (by simp)))
      · have hna := h5 a (hp.mem_iff.2 (by simp)) (by omega)
        have e : m[g] = a := by
          rcases List.mem_cons.1 (hp.mem_iff.1 (List.getElem_mem hg)) with e | e
          · exact e
          · exact absurd (hall _ e) hna
        refine ⟨by rw [e], ?_⟩
        have h1 : (m[g] :: m.eraseIdx g).Perm m := cons_erase m g hg
        have h2 := h1.trans hp
        rw [e] at h2
        exact (List.perm_cons a).1 h2
theorem okL_nodup {l : List Fre} (h : OkL l) : l.Nodup := h.1.imp fun hab e => by subst e; exact ltF_irrefl _ hab
theorem sort_law {s m l : List Fre} (h1 : s.Perm m) (h2 : m.Perm l) (ha : Asc s) (hl : OkL l) : l = s :=
  List.Perm.eq_of_pairwise (le := ltF) (fun a b _ _ hab hba => absurd (ltF_tr hab hba) (ltF_irrefl a)) hl.1 ha (h1.trans h2).symm
/-- the two lists lie apart -/
def Apart (p : Nat) (v : Value) (q : Nat) (s : Value) : Prop := p ≠ q ∧ v.ownBlock ≠ some q ∧ s.ownBlock ≠ some p ∧ ∀ k, v.ownBlock = some k → s.ownBlock ≠ some k
theorem ref_touch {w w' : World} {B p q : Nat} {v s : Value} {m : List Fre} (h : IsRef w B q s m) (ht : Touch w w' p v) (ha : Apart p v q s) : IsRef w' B q s m := by
  refine ⟨h.1, (ht.block q (kt.bld_lt h.2.1) (fun e => ha.1 e.symm) ha.2.1).trans h.2.1, kt.segX_same h.2.2.1 (fun k hk => ht.block k (kt.segX_lt h.2.2.1 k hk).2 (fun e => ha.2.2.1 (by rw [← e]; exact hk)) (fun e => ha.2.2.2 k e hk)), h.2.2.2⟩
theorem own_touchR {W w w' : World} {B p q : Nat} {v s : Value} {l m : List Fre} (h : Own W w B p v l) (hr : IsRef w B q s m) (ht : Touch w w' q s) (ha : Apart p v q s) : Own W w' B p v l :=
  ⟨⟨h.1.1, (ht.block p (kt.bld_lt h.1.2.1) ha.1 ha.2.2.1).trans h.1.2.1, kt.segX_same h.1.2.2.1 (fun k hk => ht.block k (kt.segX_lt h.1.2.2.1 k hk).2 (fun e => ha.2.1 (by rw [← e]; exact hk)) (fun e => ha.2.2.2 k hk e)), h.1.2.2.2⟩,
    h.2.1, h.2.2.1.trans (touch_Below ht h.2.2.2 hr.1 (fun k hk => (kt.segX_lt hr.2.2.1 k hk).1)), Nat.le_trans h.2.2.2 ht.size⟩
theorem apart_x {w : World} {B p q : Nat} {v v' s : Value} {m : List Fre} (ha : Apart p v q s) (hs : kt.SameOrNew w v v') (hr : IsRef w B q s m) : Apart p v' q s := by
  have hq := kt.bld_lt hr.2.1
  refine ⟨ha.1, fun e => ?_, ha.2.2.1, fun k hk hk2 => ?_⟩
  · rcases hs _ e with e' | e'
    · exact ha.2.1 e'
    · omega
  · rcases hs _ hk with e' | e'
    · exact ha.2.2.2 k e' hk2
    · have := (kt.segX_lt hr.2.2.1 k hk2).2; omega
theorem apart_r {W w : World} {B p q : Nat} {v s s' : Value} {l : List Fre} (ha : Apart p v q s) (hs : kt.SameOrNew w s s') (ho : Own W w B p v l) : Apart p v q s' := by
  have hp := kt.bld_lt ho.1.2.1
  refine ⟨ha.1, ha.2.1, fun e => ?_, fun k hk hk2 => ?_⟩
  · rcases hs _ e with e' | e'
    · exact ha.2.2.1 e'
    · omega
  · rcases hs _ hk2 with e' | e'
    · exact ha.2.2.2 k hk e'
    · have := (kt.segX_lt ho.1.2.2.1 k hk).2; omega
/-- what Copy gives lies apart from the reference's list, and stays when the old one is touched -/
theorem copy_law {W w w1 w2 : World} {B p q p' : Nat} {v s v' : Value} {l l' m : List Fre} (h : Own W w B p v l) (hr : IsRef w B q s m) (ha : Apart p v q s) (hc : IsList w1 w.heap.size p' v' l) (hb : Below w.heap.size w w1) (hO2 : ∃ v2, Own W w2 B p v2 l') (ht : Touch w1 w2 p v) :
    Own W w2 B p' v' l ∧ IsRef w2 B q s m ∧ Apart p' v' q s := by
  obtain ⟨v2, h2⟩ := hO2
  have hlp := kt.bld_lt h.1.2.1
  have hlq := kt.bld_lt hr.2.1
  have hp' := hc.1
  have hne : p' ≠ p := by omega
  have hv : ∀ k, v.ownBlock = some k → k < w.heap.size := fun k hk => (kt.segX_lt h.1.2.2.1 k hk).2
  have hv' : ∀ k, v'.ownBlock = some k → w.heap.size ≤ k := fun k hk => (kt.segX_lt hc.2.2.1 k hk).1
  refine ⟨⟨⟨Nat.le_trans h.2.2.2 hc.1, (ht.block p' (kt.bld_lt hc.2.1) hne (fun e => by have := hv _ e; omega)).trans hc.2.1, ?_, hc.2.2.2⟩, h.2.1, h2.2.2.1, h2.2.2.2⟩, ref_touch (isRef_below hr hb) ht ha, ⟨by omega, fun e => ?_, fun e => ?_, fun k hk hk2 => ?_⟩⟩
  · exact kt.segX_mono (kt.segX_same hc.2.2.1 (fun k hk => ht.block k (kt.segX_lt hc.2.2.1 k hk).2 (fun e => by have := hv' k hk; omega) (fun e => by have := hv k e; have := hv' k hk; omega))) h.2.2.2
  · have := hv' _ e; omega
  · have := (kt.segX_lt hr.2.2.1 _ e).2; omega
  · have := hv' k hk; have := (kt.segX_lt hr.2.2.1 k hk2).2; omega
theorem ref_new (W w : World) (B : Nat) (hb : B ≤ w.heap.size) : IsRef (w.alloc (.cells #[.slice none 0 0] 41)) B w.heap.size (.slice none 0 0) [] :=
  ⟨hb, heap_alloc_last w _, kt.segX_nil _ _ _ _, (by intro h; cases h)⟩
end fre
end Go.Proofs.Ytcmpepojokmhnaa
