/- The walk of Copy. -/
import Derived.Test.YtcmpepojokmhnaaCopy
namespace Go.Proofs.Ytcmpepojokmhnaa
open Go.RowKit
namespace fre
set_option linter.unusedVariables false
set_option linter.unusedSimpArgs false
def CopyE (w : World) (l : List Fre) (e : Ending) (w' : World) : Prop := ∃ q v', e = .returned (.pointer (some ⟨q, 0, none⟩)) ∧ IsList w' w.heap.size q v' l
theorem list_range {w : World} {B p : Nat} {v : Value} {l : List Fre} (h : IsList w B p v l) : w.rangeAt p 1 (hcN 512 (hereB l)) := by
  intro j u hj
  have hjl := (List.getElem?_eq_some_iff.1 hj).1
  have hj5 : j < 512 := by unfold hcN at hjl; simpa using hjl
  rw [hcN_get 512 _ j hj5] at hj
  rw [list_cellk h j hj5, hj]
theorem range_below {w w' : World} {p o : Nat} {cs : List Value} (h : w.rangeAt p o cs) (hb : Below w.heap.size w w') (hp : p < w.heap.size) : w'.rangeAt p o cs := fun j u hj => (hb.cell (p := ⟨p, o + j, none⟩) hp).trans (h j u hj)
theorem range_alloc {w : World} {p o : Nat} {cs : List Value} (h : w.rangeAt p o cs) (hp : p < w.heap.size) (x : Obj) : (w.alloc x).rangeAt p o cs := range_below h ((Below.refl _ _).alloc (Nat.le_refl _) _) hp
theorem copy_end {w w1 : World} {l : List Fre} {v' : Value} (hO : OwnF w1 w.heap.size v' l) (hB : Below w.heap.size w w1) : IsList (w1.alloc (.cells (lcells v' (hereB l)) 55)) w.heap.size w1.heap.size v' l :=
  ⟨hB.size, heap_alloc_last w1 _, kt.segX_below (kt.segX_of_row hO) ((Below.refl _ _).alloc (Nat.le_refl _) _), fun e => by have := (kt.segX_lt (kt.segX_of_row hO) _ e).2; omega⟩
set_option maxRecDepth 20000 in
set_option maxHeartbeats 2000000 in
theorem copy_any {B p : Nat} {v : Value} {l : List Fre} (w : World) (h : Hid (IsList w B p v l)) (hn : l.length ≤ 900000) :
    Calls Try.prog 17 #[.pointer (some ⟨p, 0, none⟩)] w fun e w' => CopyE w l e w' ∧ Below w.heap.size w w' := by
  have z0 := list_cell0 h.out
  have C := Lib.hid (fun (w1 : World) (hb : Below w.heap.size w w1) => clone_any w1 (Lib.hid (kt.segX_below h.out.2.2.1 hb)) hn)
  have hlp : p < w.heap.size := kt.bld_lt h.out.2.1
  have r0 := list_range h.out
  obtain ⟨ao, cap, rfl, _, _⟩ := seg_fres h.out.2.2.1
  have BC := Lib.hid (fun (ao : Option Addr) (n cap : Nat) => built_copy ao n cap (hereB l))
  have CE := Lib.hid (fun (w1 : World) (v' : Value) => copy_end (w := w) (w1 := w1) (l := l) (v' := v'))
  generalize hereB l = hb at r0 BC CE
  obtain ⟨hc, hhc⟩ : ∃ hc : Array Value, Hid (hc = (hcN 512 hb).toArray) := ⟨_, rfl⟩
  have BC2 : Hid (∀ (ao : Option Addr) (n cap : Nat) w, (Instr.build 55 #[(0, .slice ao n cap), (1, .agg hc)]).run Try.prog w = .ok (.agg (lcells (.slice ao n cap) hb)) w) := by
    intro ao n cap w
    rw [hhc.out]
    exact BC.out ao n cap w
  go_enter Try.func17, Try.ntmps17
  go_wp2_with fail
  refine wp_region_held_drew (S := fun W => W.cell? ⟨p, 0, none⟩ = some (.slice ao l.length cap) ∧ W.rangeAt p 1 (hcN 512 hb)) (by kernel_rfl) (⟨z0, r0⟩) (fun hHeld => ?_)
  refine wpAnyH_take (i := 0) (oi := ⟨some 5, _, _, _, _, _⟩) (v := ?_) rfl (by kernel_rfl) (by kernel_rfl) (by kernel_rfl) (fun _ _ _ h => h) (Or.inl ⟨by rfl, ?_⟩) (by assumption) ?_
  rotate_left 1
  · intro w hSw; (try dsimp only at hSw); go_simp; all_goals with_reducible rfl
  try simp only [Act.put, List.setIfInBounds_toArray, List.set_cons_zero, List.set_cons_succ]
  refine wpAnyH_take (i := 1) (oi := ⟨some 6, _, _, _, _, _⟩) (v := ?_) rfl (by kernel_rfl) (by kernel_rfl) (by kernel_rfl) (fun _ _ _ h => h) (Or.inl ⟨by rfl, ?_⟩) (by assumption) ?_
  rotate_left 1
  · intro w hSw; (try dsimp only at hSw); go_simp; all_goals with_reducible rfl
  try simp only [Act.put, List.setIfInBounds_toArray, List.set_cons_zero, List.set_cons_succ]
  refine wpAnyH_take (i := 2) (oi := ⟨some 7, _, _, _, _, _⟩) (v := ?_) rfl (by kernel_rfl) (by kernel_rfl) (by kernel_rfl) (fun _ _ _ h => h) (Or.inl ⟨by rfl, ?_⟩) (by assumption) ?_
  rotate_left 1
  · intro w hSw; (try dsimp only at hSw); go_simp; all_goals with_reducible rfl
  try simp only [Act.put, List.setIfInBounds_toArray, List.set_cons_zero, List.set_cons_succ]
  refine wpAnyH_take (i := 3) (oi := ⟨some 8, _, _, _, _, _⟩) (v := ?_) rfl (by kernel_rfl) (by kernel_rfl) (by kernel_rfl) (fun _ _ _ h => h) (Or.inl ⟨by rfl, ?_⟩) (by assumption) ?_
  rotate_left 1
  · intro w hSw; (try dsimp only at hSw); go_simp; all_goals with_reducible rfl
  try simp only [Act.put, List.setIfInBounds_toArray, List.set_cons_zero, List.set_cons_succ]
  refine wpAnyH_take (i := 5) (oi := ⟨some 10, _, _, _, _, _⟩) (v := ?_) rfl (by kernel_rfl) (by kernel_rfl) (by kernel_rfl) (fun _ _ _ h => h) (Or.inl ⟨by rfl, ?_⟩) (by assumption) ?_
  rotate_left 1
  · intro w hSw; (try dsimp only at hSw); go_simp; all_goals with_reducible rfl
  try simp only [Act.put, List.setIfInBounds_toArray, List.set_cons_zero, List.set_cons_succ]
  refine wpAnyH_take (i := 6) (oi := ⟨some 11, _, _, _, _, _⟩) (v := ?_) rfl (by kernel_rfl) (by kernel_rfl) (by kernel_rfl) (fun _ _ _ h => h) (Or.inl ⟨by rfl, ?_⟩) (by assumption) ?_
  rotate_left 1
  · intro w hSw; (try dsimp only at hSw); go_simp; all_goals with_reducible rfl
  try simp only [Act.put, List.setIfInBounds_toArray, List.set_cons_zero, List.set_cons_succ]
  refine wpAnyH_take (i := 7) (oi := ⟨some 12, _, _, _, _, _⟩) (v := ?_) rfl (by kernel_rfl) (by kernel_rfl) (by kernel_rfl) (fun _ _ _ h => h) (Or.inl ⟨by rfl, ?_⟩) (by assumption) ?_
  rotate_left 1
  · intro w hSw; (try dsimp only at hSw); go_simp; all_goals with_reducible rfl
  try simp only [Act.put, List.setIfInBounds_toArray, List.set_cons_zero, List.set_cons_succ]
  refine wpAnyH_take (i := 8) (oi := ⟨some 13, _, _, _, _, _⟩) (v := .agg hc) rfl (by kernel_rfl) (by kernel_rfl) (by kernel_rfl) (fun _ _ _ h => h) (by rw [hhc.out]; exact yieldsIf_load_mid (by rfl) _ _ rfl p 1 (by simp [Act.eval]) _ _ (fun w h => h.2) Try.underlying53 rfl (by kernel_rfl)) (by assumption) ?_
  try simp only [Act.put, List.setIfInBounds_toArray, List.set_cons_zero, List.set_cons_succ]
  refine wpAnyH_ready (rs := [4]) (by kernel_rfl) (by simp) ?_
  refine AllReadyH.cons (o := ⟨some 9, _, _, _, _, _⟩) rfl (fun K hK => ?_) AllReadyH.nil
  go_simp
  go_at_call 34; refine (C.out _ (Below.refl _ _).drew).mono ?_; rintro e w1 ⟨⟨v', rfl, hO⟩, hBn⟩; obtain ⟨ao2, cap2, hv2, _⟩ := ownF_slice hO; subst hv2; have HO := Lib.hid hO; clear hO; obtain ⟨cc, hcc⟩ : ∃ cc : Array Value, Hid (cc = lcells (.slice ao2 l.length cap2) hb) := ⟨_, rfl⟩; have HBD := BC2.out ao2 l.length cap2; rw [← hcc.out] at HBD; have HBD := Lib.hid HBD
  refine hK.out _ _ (⟨(hBn.cell (p := ⟨p, 0, none⟩) hlp).trans z0, range_below (w := w.drew) r0 hBn hlp⟩) (fun hHeld => ?_)
  clear hK
  try simp only [Act.put, List.setIfInBounds_toArray, List.set_cons_zero, List.set_cons_succ]
  refine wpAnyH_take (i := 9) (oi := ⟨some 14, _, _, _, _, _⟩) (v := .agg cc) rfl (by kernel_rfl) (by kernel_rfl) (by kernel_rfl) (fun _ _ _ h => h) (yieldsIf_build2 (by rfl) _ _ _ _ _ rfl _ _ (by simp [Act.eval]) (by simp [Act.eval]) cc HBD.out) (by assumption) ?_
  try simp only [Act.put, List.setIfInBounds_toArray, List.set_cons_zero, List.set_cons_succ]
  refine wpAnyH_ready (rs := [10]) (by kernel_rfl) (by simp) ?_
  refine AllReadyH.cons (o := ⟨some 15, _, _, _, _, _⟩) rfl (fun K hK => ?_) AllReadyH.nil
  go_simp
  skip
  refine hK.out _ _ (⟨(((Below.refl _ _).alloc (Nat.le_refl _) _).cell (p := ⟨p, 0, none⟩) (Nat.lt_of_lt_of_le hlp hBn.size)).trans ((hBn.cell (p := ⟨p, 0, none⟩) hlp).trans z0), range_alloc (range_below (w := w.drew) r0 hBn hlp) (Nat.lt_of_lt_of_le hlp hBn.size) _⟩) (fun hHeld => ?_)
  clear hK
  try simp only [Act.put, List.setIfInBounds_toArray, List.set_cons_zero, List.set_cons_succ]
  refine wpAnyH_take (i := 11) (oi := ⟨some 2, _, _, _, _, _⟩) (v := ?_) rfl (by kernel_rfl) (by kernel_rfl) (by kernel_rfl) (fun _ _ _ h => h) (Or.inl ⟨by rfl, ?_⟩) (by assumption) ?_
  rotate_left 1
  · intro w hSw; (try dsimp only at hSw); go_simp; all_goals with_reducible rfl
  try simp only [Act.put, List.setIfInBounds_toArray, List.set_cons_zero, List.set_cons_succ]
  refine wpAnyH_done (by kernel_rfl) ?_ _
  go_wp2_with fail
  go_ret
  have hB := ((Below.refl w.heap.size w).drew).trans hBn
  have := CE.out _ _ HO.out hB
  rw [← hcc.out] at this
  exact ⟨⟨_, _, rfl, this⟩, hB.alloc hB.size _⟩
end fre
end Go.Proofs.Ytcmpepojokmhnaa
