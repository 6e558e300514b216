/- The walks of the list's Has, Count, All, Copy, and of slices.Clone at free pages. -/
import Derived.Test.YtcmpepojokmhnaaSort
import Derived.OrdersHeld
import Derived.Deep.MidRow
namespace Go.Proofs.Ytcmpepojokmhnaa
open Go.RowKit
namespace fre
set_option linter.unusedVariables false
set_option linter.unusedSimpArgs false
theorem seg_cells {w : World} {B : Nat} {v : Value} {l : List Fre} (h : kt.SegX w B 28 2 v l.length (l.flatMap Fre.cells)) : (v = .slice none 0 0 ∧ l = []) ∨ ∃ g o cap, v = .slice (some ⟨g, o, none⟩) l.length cap ∧ ∀ j u, (l.flatMap Fre.cells)[j]? = some u → w.cell? ⟨g, o + j, none⟩ = some u := by
  rcases h.2 with ⟨rfl, h0⟩ | ⟨g, o, cap, pre, post, rfl, hB, hg, hp, hc, _⟩
  · exact Or.inl ⟨rfl, List.eq_nil_of_length_eq_zero h0⟩
  · refine Or.inr ⟨g, o, cap, rfl, fun j u hj => ?_⟩
    have hjl := (List.getElem?_eq_some_iff.1 hj).1
    rw [Lib.cell_of_heap hg, List.getElem?_toArray, List.append_assoc, List.getElem?_append_right (by omega), show o + j - pre.length = j by omega, List.getElem?_append_left hjl]
    exact hj
theorem eqNil (w : World) : (Go.binOp .eql 39 (.slice none 0 0) (.slice none 0 0)).run Try.prog w = .ok (.bool true) w := by kernel_rfl
theorem eqSome (a : Addr) (n c : Nat) (w : World) : (Go.binOp .eql 39 (.slice (some a) n c) (.slice none 0 0)).run Try.prog w = .ok (.bool false) w := by kernel_rfl
def CloneE (w : World) (l : List Fre) (e : Ending) (w' : World) : Prop := ∃ v', e = .returned v' ∧ OwnF w' w.heap.size v' l
set_option maxHeartbeats 1000000 in
theorem clone_any {B : Nat} {v : Value} {l : List Fre} (w : World) (h : Hid (kt.SegX w B 28 2 v l.length (l.flatMap Fre.cells))) (hn : l.length ≤ 900000) :
    Calls Try.prog 34 #[v] w fun e w' => CloneE w l e w' ∧ Below w.heap.size w w' := by
  rcases seg_cells h.out with ⟨rfl, rfl⟩ | ⟨g, o, cap, rfl, hc⟩
  · have HE := eqNil
    go_enter Try.func34, Try.ntmps34
    go_wp2_with fail
    go_ret
    exact ⟨⟨_, rfl, kt.row_nil _ _ _ _⟩, Below.refl _ _⟩
  · have hB0 : Below w.heap.size w (w.alloc (.cells #[] 28)) := (Below.refl _ _).alloc (Nat.le_refl _) _
    have h0 : OwnF (w.alloc (.cells #[] 28)) w.heap.size (.slice (some ⟨w.heap.size, 0, none⟩) 0 0) [] := World.ownsRow_made w #[] 0 (Nat.le_refl _) (by unfold maxLen; omega) rfl
    obtain ⟨v1, w1, r1, o1, b1⟩ := ownF_apps l ⟨g, o, none⟩ cap (fun j u hj => by
      rw [Lib.addr_add]
      exact (hB0.cell (p := ⟨g, o + j, none⟩) (World.block_lt_of_cell? w ⟨g, _, none⟩ (hc j u hj))).trans (hc j u hj)) h0 (by simp; omega) hB0.size
    have O1 := Lib.hid o1
    have HB : Hid (Below w.heap.size w w1) := hB0.trans b1
    clear hB0 h0 o1 b1 hc
    have HE := eqSome ⟨g, o, none⟩ l.length cap
    go_enter Try.func34, Try.ntmps34
    go_wp2_with (at_builtin; refine Lib.wpList_append_run _ rfl _ _ _ _ rfl _ _ rfl rfl _ _ r1 ?_)
    go_ret
    exact ⟨⟨_, rfl, O1.out⟩, HB.out⟩
theorem all_any {B p : Nat} {v : Value} {l : List Fre} (w : World) (h : Hid (IsList w B p v l)) (hn : l.length ≤ 900000) :
    Calls Try.prog 22 #[.pointer (some ⟨p, 0, none⟩)] w fun e w' => CloneE w l e w' ∧ Below w.heap.size w w' := by
  have z0 := list_cell0 h.out
  have C := Lib.hid (clone_any w (Lib.hid h.out.2.2.1) hn)
  obtain ⟨ao, cap, rfl, _, _⟩ := seg_fres h.out.2.2.1
  go_enter Try.func22, Try.ntmps22
  go_wp2_with fail
  refine C.out.mono ?_
  rintro e w' ⟨⟨v', rfl, hO⟩, hB⟩
  have HO := Lib.hid hO
  clear hO
  go_wp2_with fail
  go_ret
  exact ⟨⟨_, rfl, HO.out⟩, hB⟩
theorem count_any {B p : Nat} {v : Value} {l : List Fre} (w : World) (h : Hid (IsList w B p v l)) :
    Calls Try.prog 20 #[.pointer (some ⟨p, 0, none⟩)] w fun e w' => e = .returned (.int .i64 (l.length : Int)) ∧ w = w' := by
  have z0 := list_cell0 h.out
  obtain ⟨ao, cap, rfl, _, _⟩ := seg_fres h.out.2.2.1
  go_enter Try.func20, Try.ntmps20
  go_wp2_with fail
  go_ret
  exact ⟨rfl, rfl⟩
theorem hasP_here {l : List Fre} (h : OkL l) (g : Nat) : hasP l (g : Int) = hereB l g := by
  rw [Bool.eq_iff_iff, hereB_iff]
  unfold hasP
  rw [List.any_eq_true]
  simp
theorem hasP_out {l : List Fre} {k : Int} (h : OkL l) (hk : k < 0 ∨ 512 ≤ k) : hasP l k = false := by
  rw [Bool.eq_false_iff]
  intro hh
  obtain ⟨x, hx, e⟩ := List.any_eq_true.1 hh
  have e' : x.page = k := by simpa using e
  have := h.2.1 x hx
  have h1 := this.2.2.1
  have h2 := this.2.2.2
  omega
theorem has_any {B p : Nat} {v : Value} {l : List Fre} (k : Int) (w : World) (h : Hid (IsList w B p v l)) (ha : Hid (OkL l)) :
    Calls Try.prog 18 #[.pointer (some ⟨p, 0, none⟩), .int .i64 k] w fun e w' => e = .returned (.bool (hasP l k)) ∧ w = w' := by
  by_cases h0 : k < 0
  · rw [hasP_out ha.out (Or.inl h0)]
    have h0' : ¬ 0 ≤ k := by omega
    go_enter Try.func18, Try.ntmps18
    go_wp2_with fail
    go_ret
    exact ⟨rfl, rfl⟩
  · by_cases h5 : 512 ≤ k
    · rw [hasP_out ha.out (Or.inr h5)]
      have h0' : 0 ≤ k := by omega
      have h5' : ¬ k < 512 := by omega
      go_enter Try.func18, Try.ntmps18
      go_wp2_with fail
      go_ret
      exact ⟨rfl, rfl⟩
    · obtain ⟨g, rfl⟩ := Int.eq_ofNat_of_zero_le (show 0 ≤ k by omega)
      have hg512 : g < 512 := by omega
      have hgi0 : (0 : Int) ≤ (g : Int) := by omega
      have hgi1 : (g : Int) < 512 := by omega
      rw [hasP_here ha.out]
      have hck : w.cell? ⟨p, 1 + g, none⟩ = some (.bool (hereB l g)) := list_cellk h.out g hg512
      generalize hereB l g = r at hck ⊢
      clear h0 h5
      go_enter Try.func18, Try.ntmps18
      go_wp2_with fail
      go_ret
      exact ⟨rfl, rfl⟩
end fre
end Go.Proofs.Ytcmpepojokmhnaa
