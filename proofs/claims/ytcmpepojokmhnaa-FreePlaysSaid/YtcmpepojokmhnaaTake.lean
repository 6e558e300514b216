/- The walk of Take. -/
import Derived.Test.YtcmpepojokmhnaaAdd
namespace Go.Proofs.Ytcmpepojokmhnaa
open Go.RowKit
namespace fre
set_option linter.unusedVariables false
/-- a list as it may be -/
def OkL (l : List Fre) : Prop := Asc l ∧ (∀ f ∈ l, okF f) ∧ (l.map Fre.page).Nodup
theorem okL_tail {a : Fre} {r : List Fre} (h : OkL (a :: r)) : OkL r := ⟨(List.pairwise_cons.1 h.1).2, fun f hf => h.2.1 f (by simp [hf]), (List.nodup_cons.1 (by simpa using h.2.2)).2⟩
theorem asc_insF {l : List Fre} {f : Fre} (h : Asc l) (hne : f ∉ l) : Asc (insF l f) := by
  induction l with
  | nil => exact List.pairwise_singleton _ _
  | cons a r ih =>
    obtain ⟨h1, h2⟩ := List.pairwise_cons.1 h
    unfold insF
    split
    · rename_i hlt
      refine List.pairwise_cons.2 ⟨fun x hx => ?_, ih h2 (fun hx => hne (by simp [hx]))⟩
      rcases mem_insF.1 hx with rfl | hx
      · exact hlt
      · exact h1 x hx
    · rename_i hlt
      have hfa : ltF f a := by
        rcases ordF_cases f a with ⟨h, _⟩ | ⟨h, _⟩ | ⟨h, _⟩
        · exact h
        · exact absurd h hlt
        · exact absurd (by rw [h]; simp) hne
      refine List.pairwise_cons.2 ⟨fun x hx => ?_, h⟩
      rcases List.mem_cons.1 hx with rfl | hx
      · exact hfa
      · exact ltF_trans hfa (h1 x hx)
theorem insF_perm (l : List Fre) (f : Fre) : (insF l f).Perm (f :: l) := by
  induction l with
  | nil => exact List.Perm.refl _
  | cons a r ih =>
    unfold insF
    split
    · exact (List.Perm.cons a ih).trans (List.Perm.swap f a r)
    · exact List.Perm.refl _
theorem okL_add {l : List Fre} (f : Fre) (h : OkL l) : OkL (addP l f).1 := by
  unfold addP
  split
  · rename_i hok
    split
    · exact h
    · rename_i hh
      have hg : f.page = (f.page.toNat : Int) := by have := hok.2.2.1; omega
      have hnp : ∀ x ∈ l, x.page ≠ f.page := fun x hx e => hh ((hereB_iff l _).2 ⟨x, hx, by rw [e]; exact hg⟩)
      refine ⟨asc_insF h.1 (fun hx => hnp f hx rfl), fun x hx => ?_, ?_⟩
      · rcases mem_insF.1 hx with rfl | hx
        · exact hok
        · exact h.2.1 x hx
      · rw [((insF_perm l f).map Fre.page).nodup_iff, List.map_cons, List.nodup_cons]
        refine ⟨fun hx => ?_, h.2.2⟩
        obtain ⟨x, hx, e⟩ := List.mem_map.1 hx
        exact hnp x hx e
  · exact h
/-- what Take makes of a list, and what it answers -/
def takeP (l : List Fre) (upto : Int) : List Fre × Int × Bool := match l with
  | [] => ([], 0, false)
  | a :: r => if upto < a.txn then (a :: r, 0, false) else (r, a.page, true)
theorem okL_take {l : List Fre} (u : Int) (h : OkL l) : OkL (takeP l u).1 := by
  unfold takeP
  split
  · exact h
  · split
    · exact h
    · exact okL_tail h
theorem hereB_tail {a : Fre} {r : List Fre} (h : OkL (a :: r)) (g : Nat) (hg : a.page = (g : Int)) (j : Nat) : hereB r j = if j = g then false else hereB (a :: r) j := by
  have hn := (List.nodup_cons.1 (by simpa using h.2.2 : (a.page :: r.map Fre.page).Nodup)).1
  rw [Bool.eq_iff_iff]
  by_cases e : j = g
  · rw [if_pos e, hereB_iff]
    constructor
    · rintro ⟨x, hx, hp⟩
      exact absurd (List.mem_map.2 ⟨x, hx, by rw [hp, hg, e]⟩) hn
    · intro h; cases h
  · rw [if_neg e, hereB_iff, hereB_iff]
    constructor
    · rintro ⟨x, hx, hp⟩; exact ⟨x, by simp [hx], hp⟩
    · rintro ⟨x, hx, hp⟩
      rcases List.mem_cons.1 hx with rfl | hx
      · rw [hg] at hp; omega
      · exact ⟨x, hx, hp⟩
def TakeE (w : World) (B p : Nat) (v : Value) (l : List Fre) (u : Int) (e : Ending) (w' : World) : Prop := e = .returned (.tuple #[.int .i64 (takeP l u).2.1, .bool (takeP l u).2.2]) ∧ (∃ v', IsList w' B p v' (takeP l u).1 ∧ kt.SameOrNew w v v') ∧ Touch w w' p v
theorem touch_refl (w : World) (p : Nat) (v : Value) : Touch w w p v := ⟨rfl, rfl, rfl, Nat.le_refl _, fun _ _ _ _ => rfl⟩
theorem take_end {B p : Nat} {v : Value} {a : Fre} {r : List Fre} {w : World} (hL : IsList w B p v (a :: r)) (ha : OkL (a :: r)) (g : Nat) (hg : a.page = (g : Int)) (hg512 : g < 512) (s' : Value) (hs : kt.SegX w B 28 2 s' r.length (r.flatMap Fre.cells)) (ho : v.ownBlock = s'.ownBlock) :
    IsList ((w.setCell ⟨p, 0, none⟩ s').setCell ⟨p, 1 + g, none⟩ (.bool false)) B p s' r ∧ Touch w ((w.setCell ⟨p, 0, none⟩ s').setCell ⟨p, 1 + g, none⟩ (.bool false)) p v := by
  have hne : s'.ownBlock ≠ some p := by rw [← ho]; exact hL.2.2.2
  refine ⟨⟨hL.1, ?_, ?_, hne⟩, ⟨rfl, rfl, rfl, by rw [World.size_setCell, World.size_setCell]; exact Nat.le_refl _, fun j hj hjp hjv => by rw [Below.heap_setCell _ _ _ _ hjp, Below.heap_setCell _ _ _ _ hjp]⟩⟩
  · rw [lcells_congr s' (fun j _ => hereB_tail ha g hg j), ← lcells_setk _ _ _ _ hg512]
    refine set_same (j := 1 + g) ?_ _
    rw [← lcells_set0 v s']
    exact set_same (j := 0) hL.2.1 _
  · refine kt.segX_same hs fun j hj => ?_
    have hjp : j ≠ p := fun e => hne (by rw [← e]; exact hj)
    rw [Below.heap_setCell _ _ _ _ hjp, Below.heap_setCell _ _ _ _ hjp]
set_option maxHeartbeats 2000000 in
theorem take_any {B p : Nat} {v : Value} {l : List Fre} (u : Int) (w : World) (hL : Hid (IsList w B p v l)) (ha : Hid (OkL l)) :
    Calls Try.prog 12 #[.pointer (some ⟨p, 0, none⟩), .int .i64 u] w fun e w' => TakeE w B p v l u e w' := by
  obtain ⟨ao, cap, hv, hlc, hF⟩ := seg_fres hL.out.2.2.1
  have z0 := list_cell0 hL.out
  rw [hv] at z0
  have HV := Lib.hid hv
  clear hv
  cases l with
  | nil =>
    have HA : Hid (takeP [] u = ([], 0, false)) := rfl
    simp only [List.length_nil] at z0
    have z0' : w.cell? ⟨p, 0, none⟩ = some (.slice ao 0 cap) := z0
    clear z0 hF
    go_enter Try.func12, Try.ntmps12
    go_wp2_with fail
    go_ret2
    exact ⟨by rw [HA.out]; rfl, ⟨v, by rw [HA.out]; exact hL.out, fun k hk => Or.inl hk⟩, touch_refl _ _ _⟩
  | cons a r =>
    obtain ⟨b, o, hao, f0, f1⟩ := hF 0 (by simp)
    simp only [List.getElem_cons_zero, Nat.zero_mul, Nat.add_zero] at f0 f1
    subst hao
    simp only [List.length_cons] at z0 HV hlc
    have hzl : ((r.length : Int) + 1 == 0) = false := by rw [beq_eq_false_iff_ne]; omega
    by_cases hu : u < a.txn
    · have HA : Hid (takeP (a :: r) u = (a :: r, 0, false)) := by show _ = _; unfold takeP; simp only [hu, if_true]
      clear hF
      go_enter Try.func12, Try.ntmps12
      go_wp2_with fail
      go_ret2
      exact ⟨by rw [HA.out]; rfl, ⟨v, by rw [HA.out]; exact hL.out, fun k hk => Or.inl hk⟩, touch_refl _ _ _⟩
    · have HA : Hid (takeP (a :: r) u = (r, a.page, true)) := by show _ = _; unfold takeP; simp only [hu, if_false]
      have hok := ha.out.2.1 a (by simp)
      obtain ⟨g, hg⟩ := Int.eq_ofNat_of_zero_le (show 0 ≤ a.page by have := hok.2.2.1; omega)
      have hg512 : g < 512 := by have := hok.2.2.2; omega
      rw [hg] at f1
      have HG := Lib.hid hg
      have hfz : w.frozen? ⟨p, 0, none⟩ = false := Lib.frozen_of_heap hL.out.2.1 0
      have hck : w.cell? ⟨p, 1 + g, none⟩ = some (.bool (hereB (a :: r) g)) := list_cellk hL.out g hg512
      have hfk : w.frozen? ⟨p, 1 + g, none⟩ = false := Lib.frozen_of_heap hL.out.2.1 _
      have hST := kt.segX_tail (n := r.length) (xs := (a :: r).flatMap Fre.cells) (by rw [← HV.out]; exact hL.out.2.2.1)
      have hdr : ((a :: r).flatMap Fre.cells).drop 2 = r.flatMap Fre.cells := rfl
      rw [hdr] at hST
      by_cases hc1 : cap = 1
      · rw [if_pos hc1] at hST
        have HST := Lib.hid hST
        subst hc1
        clear hF hok hg hST
        go_enter Try.func12, Try.ntmps12
        go_wp2_with fail
        go_ret2
        have hr0 : r.length = 0 := by omega
        obtain ⟨h1, h2⟩ := take_end hL.out ha.out g HG.out hg512 (.slice (some ⟨b, o, none⟩) 0 0) (by have h := HST.out; rw [hr0] at h ⊢; exact h) (by rw [HV.out]; rfl)
        exact ⟨by rw [HA.out, HG.out]; rfl, ⟨_, by rw [HA.out]; exact h1, fun k hk => Or.inl (by rw [HV.out]; exact hk)⟩, h2⟩
      · rw [if_neg hc1] at hST
        have HST := Lib.hid hST
        clear hF hok hg hST
        go_enter Try.func12, Try.ntmps12
        go_wp2_with fail
        go_ret2
        obtain ⟨h1, h2⟩ := take_end hL.out ha.out g HG.out hg512 _ HST.out (by rw [HV.out]; rfl)
        exact ⟨by rw [HA.out, HG.out]; rfl, ⟨_, by rw [HA.out]; exact h1, fun k hk => Or.inl (by rw [HV.out]; exact hk)⟩, h2⟩
end fre
end Go.Proofs.Ytcmpepojokmhnaa
