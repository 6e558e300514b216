/- The walks of the scanner of a name's text: blanks, a type in small letters, what stands behind a \. -/
import Derived.Test.YtjjbmhndakmkbaaGreatDoorDnP
import Derived.Test.YtjjbmhndakmkbaaGreatDoorUnhexW
import Derived.Test.YtjjbmhndakmkbaaGreatDoorSegS
import Derived.Test.YtjjbmhndakmkbaaGreatDoorShelf
import Derived.Test.YtjjbmhndakmkbaaGreatDoorRows
namespace Go.Proofs.YtjjbmhndakmkbaaGreatDoor
open Go.RowKit
namespace dnw
open dnp
set_option linter.unusedVariables false
set_option linter.unusedSimpArgs false
/-- the scanner in block b goes through s and stands at i -/
def Sc (w : World) (b : Nat) (s : ByteArray) (i : Nat) : Prop := w.heap[b]? = some (.cells #[.string s, .int .i64 (i : Int)] 48 (0, 0))
theorem set_same {w : World} {g j : Nat} {cs : Array Value} {t : TypeId} {fr : Nat × Nat} (h : w.heap[g]? = some (.cells cs t fr)) (v : Value) : (w.setCell ⟨g, j, none⟩ v).heap[g]? = some (.cells (cs.setIfInBounds j v) t fr) := by
  simp [World.setCell, Array.getElem?_modify, h]
theorem sc_set {w : World} {b i : Nat} {s : ByteArray} (h : Sc w b s i) (n j : Nat) : Sc ((w.drewN n).setCell ⟨b, 1, none⟩ (.int .i64 (j : Int))) b s j := by
  have h' : (w.drewN n).heap[b]? = some (.cells #[.string s, .int .i64 (i : Int)] 48 (0, 0)) := h
  exact set_same (j := 1) h' _
theorem sc_set0 {w : World} {b i : Nat} {s : ByteArray} (h : Sc w b s i) (j : Nat) : Sc (w.setCell ⟨b, 1, none⟩ (.int .i64 (j : Int))) b s j := set_same (j := 1) h _
theorem sc_inc {w : World} {b i : Nat} {s : ByteArray} (h : Sc w b s i) (n : Nat) : Sc ((w.drewN n).setCell ⟨b, 1, none⟩ (.int .i64 ((i : Int) + 1))) b s (i + 1) := sc_set h n (i + 1)
theorem sc_cells {w : World} {b i : Nat} {s : ByteArray} (h : Sc w b s i) : w.cell? ⟨b, 0, none⟩ = some (.string s) ∧ w.cell? ⟨b, 1, none⟩ = some (.int .i64 (i : Int)) ∧ w.frozen? ⟨b, 1, none⟩ = false ∧ b < w.heap.size := by
  refine ⟨?_, ?_, Lib.frozen_of_heap h 1, kt.bld_lt h⟩
  · rw [Lib.cell_of_heap h]; rfl
  · rw [Lib.cell_of_heap h]; rfl
theorem sc_drewN {w : World} {b i : Nat} {s : ByteArray} (h : Sc w b s i) (n : Nat) : Sc (w.drewN n) b s i := h
theorem sc_below {w w' : World} {b i : Nat} {s : ByteArray} (h : Sc w b s i) (hb : Below w.heap.size w w') : Sc w' b s i := (hb.block b (kt.bld_lt h)).trans h
theorem gr_refl (w : World) (k : Option Nat) : w.grownBy w k := ⟨rfl, rfl, rfl, Nat.le_refl _, fun _ _ _ => rfl⟩
theorem gr_set {w w' : World} {b : Nat} (h : w.grownBy w' (some b)) (n : Nat) (v : Value) : w.grownBy ((w'.drewN n).setCell ⟨b, 1, none⟩ v) (some b) :=
  ⟨h.os, h.tape, h.output, by rw [World.size_setCell]; exact h.size, fun k hk hne => (Below.heap_setCell _ _ _ _ (fun e => hne (by have e' : k = b := e; rw [e']))).trans (h.block k hk hne)⟩
theorem gr_drewN {w w' : World} {k : Option Nat} (h : w.grownBy w' k) (n : Nat) : w.grownBy (w'.drewN n) k := ⟨h.os, h.tape, h.output, h.size, h.block⟩
theorem gr_below {w w' : World} (k : Option Nat) (hb : Below w.heap.size w w') : w.grownBy w' k := ⟨hb.os, hb.tape, hb.output, hb.size, fun j hj _ => hb.block j hj⟩
theorem drop_cons (s : ByteArray) (i : Nat) (h : i < s.size) : s.data.toList.drop i = s[i] :: s.data.toList.drop (i + 1) := by
  have h' : i < s.data.toList.length := by simpa using h
  rw [List.drop_eq_getElem_cons h']; rfl
theorem drop_end (s : ByteArray) : s.data.toList.drop s.size = [] := List.drop_of_length_le (by simp)
/-- where the scanner in block b stands -/
def posOf (w : World) (b : Nat) : Nat := match w.heap[b]? with
  | some (.cells cs _ _) => (intOf (cs.getD 1 undef)).toNat
  | _ => 0
theorem posOf_sc {w : World} {b i : Nat} {s : ByteArray} (h : Sc w b s i) : posOf w b = i := by
  unfold posOf
  rw [h]
  simp [intOf]
/-- what blanks leaves -/
def BlanksE (b : Nat) (s : ByteArray) (i : Nat) (w : World) (e : Ending) (w' : World) : Prop :=
  e = .returned (.tuple #[]) ∧ ∃ j, i ≤ j ∧ j ≤ s.size ∧ s.data.toList.drop j = (s.data.toList.drop i).dropWhile (· = 32) ∧ Sc w' b s j ∧ w.grownBy w' (some b)
set_option maxRecDepth 20000 in
set_option maxHeartbeats 2000000 in
theorem blanks_any (b : Nat) (s : ByteArray) (i : Nat) (w : World) (hS : Hid (Sc w b s i)) (hi : i ≤ s.size) (hs : s.size ≤ 100000) :
    Calls Tryz.prog 26 #[.pointer (some ⟨b, 0, none⟩)] w fun e w' => BlanksE b s i w e w' := by
  go_enter Tryz.func26, Tryz.ntmps26
  go_wp2_with fail
  go_loopw [] (fun wr => ∃ j, i ≤ j ∧ j ≤ s.size ∧ Hid ((s.data.toList.drop j).dropWhile (· = 32) = (s.data.toList.drop i).dropWhile (· = 32)) ∧ Hid (Sc wr b s j) ∧ w.grownBy wr (some b)) (fun wr => s.size - posOf wr b)
  case atStart => exact ⟨i, Nat.le_refl _, hi, rfl, hS, gr_refl _ _⟩
  case round =>
    obtain ⟨j, hij, hj, hD, hC, hG⟩ := hrel
    obtain ⟨c0, c1, f1, hb⟩ := sc_cells hC.out
    by_cases hlt : j < s.size
    · have hlt' : (j : Int) < (s.size : Int) := by omega
      have hdc := drop_cons s j hlt
      by_cases h32 : ((s[j]'hlt).toNat : Int) = 32
      · have hD2 : Hid ((s.data.toList.drop (j + 1)).dropWhile (· = 32) = (s.data.toList.drop i).dropWhile (· = 32)) := by
          show _ = _
          rw [← hD.out, hdc, List.dropWhile_cons, if_pos (by
            have : s[j] = 32 := UInt8.toNat_inj.1 (by show _ = 32; omega)
            simp [this])]
        clear hdc
        go_wp2_with fail
        go_quiet (fail)
        go_wp2_with fail
        go_roundw
        case rel => exact ⟨j + 1, by omega, by omega, hD2, sc_set hC.out nq (j + 1), gr_set hG nq _⟩
        case measure => rw [posOf_sc hC.out, posOf_sc (sc_inc hC.out nq)]; omega
      · have hD2 : Hid (s.data.toList.drop j = (s.data.toList.drop i).dropWhile (· = 32)) := by
          show _ = _
          rw [← hD.out, hdc, List.dropWhile_cons, if_neg (by
            intro e
            have : s[j] = 32 := by simpa using e
            rw [this] at h32
            exact h32 rfl)]
        have h1 : (((s[j]'hlt).toNat : Int) == 32) = false := by rw [beq_eq_false_iff_ne]; exact h32
        clear hdc
        go_wp2_with fail
        go_quiet (fail)
        go_wp2_with fail
        go_end0
        exact ⟨rfl, j, hij, hj, hD2.out, sc_drewN hC.out nq, gr_drewN hG nq⟩
    · obtain rfl : j = s.size := by omega
      have hD2 : Hid (s.data.toList.drop s.size = (s.data.toList.drop i).dropWhile (· = 32)) := by
        show _ = _
        rw [← hD.out, drop_end]; rfl
      go_wp2_with fail
      go_quiet (fail)
      go_wp2_with fail
      go_end0
      exact ⟨rfl, _, hij, hj, hD2.out, sc_drewN hC.out nq, gr_drewN hG nq⟩
end dnw
end Go.Proofs.YtjjbmhndakmkbaaGreatDoor
