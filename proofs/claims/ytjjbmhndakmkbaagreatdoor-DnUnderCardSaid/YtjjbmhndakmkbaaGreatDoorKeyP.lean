/- The keys of names: plain laws. -/
import Derived.Test.YtjjbmhndakmkbaaGreatDoorPrintQ
import Derived.Test.YtjjbmhndakmkbaaGreatDoorTupP
namespace Go.Proofs.YtjjbmhndakmkbaaGreatDoor
namespace dnw
open dnp
set_option linter.unusedVariables false
set_option linter.unusedSimpArgs false
/-- a value made ready -/
def rv (v : List UInt8) : List UInt8 := (prp.readyO v true).getD []
theorem rv_ok {v : List UInt8} (h : valOK v = true) : prp.readyO v true = some (rv v) := by
  unfold valOK at h
  unfold rv
  cases hr : prp.readyO v true with
  | none => rw [hr] at h; simp at h
  | some t => rfl
def partB (a : Av) : ByteArray := (tup.out [a.t, ⟨(rv a.v.data.toList).toArray⟩]).1
theorem partB_len (a : Av) : (partB a).size ≤ 4096 := by
  unfold partB tup.out
  rw [if_neg (by simp)]
  split
  · exact Nat.zero_le _
  · rename_i h
    rw [← kt.size_len]
    show (tup.bytes _).length ≤ _
    omega
def sortL (l : List (List UInt8)) : List (List UInt8) := l.mergeSort fun x y => decide (x ≤ y)
theorem sortL_sorted (l : List (List UInt8)) : (sortL l).Pairwise (fun x y => x ≤ y) := by
  have h := List.pairwise_mergeSort (le := fun x y : List UInt8 => decide (x ≤ y)) (fun a b c h1 h2 => by
    simp only [decide_eq_true_eq] at h1 h2 ⊢
    exact List.le_trans h1 h2) (fun a b => by
    simp only [Bool.or_eq_true, decide_eq_true_eq]
    exact List.le_total a b) l
  exact h.imp (fun h => by simpa using h)
theorem sorted_eq {a b : List (List UInt8)} (ha : a.Pairwise (fun x y => x ≤ y)) (hb : b.Pairwise (fun x y => x ≤ y)) (h : a.Perm b) : a = b :=
  List.Perm.eq_of_pairwise (le := fun x y => x ≤ y) (fun x y _ _ h1 h2 => List.le_antisymm h1 h2) ha hb h
theorem sortL_perm {a b : List (List UInt8)} (h : a.Perm b) : sortL a = sortL b :=
  sorted_eq (sortL_sorted a) (sortL_sorted b) (((List.mergeSort_perm a _).trans h).trans (List.mergeSort_perm b _).symm)
def partsL (l : List Av) : List (List UInt8) := l.map fun a => (partB a).data.toList
/-- a relative name's key -/
def keyL (l : List Av) : List UInt8 := (sortL (partsL l)).flatten
theorem keyL_perm {a b : List Av} (h : a.Perm b) : keyL a = keyL b := by
  unfold keyL partsL
  rw [sortL_perm (h.map _)]
theorem join_flat (xs : List (List UInt8)) : Lib.join xs [] = xs.flatten := by
  cases xs with
  | nil => rfl
  | cons x r =>
    rw [Lib.join_cons, Lib.joinTail, List.flatten_cons]
    congr 2
    simp
theorem flatten_len_le (k : Nat) : ∀ l : List (List UInt8), (∀ x ∈ l, x.length ≤ k) → l.flatten.length ≤ l.length * k
  | [], _ => by simp
  | x :: l, h => by
    have h1 := h x (by simp)
    have h2 := flatten_len_le k l (fun y hy => h y (by simp [hy]))
    rw [List.flatten_cons, List.length_append, List.length_cons, Nat.add_mul]
    omega
theorem keyL_len (l : List Av) : (keyL l).length ≤ l.length * 4096 := by
  have h := flatten_len_le 4096 (sortL (partsL l)) (fun x hx => by
    have := (List.mergeSort_perm (partsL l) _).mem_iff.1 hx
    unfold partsL at this
    obtain ⟨a, _, rfl⟩ := List.mem_map.1 this
    rw [kt.size_len]
    exact partB_len a)
  have h2 : (sortL (partsL l)).length = l.length := by unfold sortL partsL; simp
  rw [h2] at h
  exact h
/-- a name's keys, the topmost first -/
def keysL (n : List (List Av)) : List (List UInt8) := n.reverse.map keyL
def keysB (n : List (List Av)) : List ByteArray := n.reverse.map fun l => ⟨(keyL l).toArray⟩
def underR (n b : List (List Av)) : Bool := nameOK n && nameOK b && decide (b.length ≤ n.length) && decide ((keysB n).take b.length = keysB b)
def sameR (n b : List (List Av)) : Bool := decide (n.length = b.length) && underR n b
theorem keysB_len (n : List (List Av)) : (keysB n).length = n.length := by simp [keysB]
end dnw
end Go.Proofs.YtjjbmhndakmkbaaGreatDoor
