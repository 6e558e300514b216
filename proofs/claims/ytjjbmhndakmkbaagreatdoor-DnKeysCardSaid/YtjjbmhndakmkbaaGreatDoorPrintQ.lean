/- What a name that may be has: plain laws. -/
import Derived.Test.YtjjbmhndakmkbaaGreatDoorPrintP
namespace Go.Proofs.YtjjbmhndakmkbaaGreatDoor
namespace dnw
open dnp
set_option linter.unusedVariables false
set_option linter.unusedSimpArgs false
theorem rdnOK_facts {l : List Av} (h : rdnOK l = true) : 1 ≤ l.length ∧ l.length ≤ 4 ∧ ∀ i (hi : i < l.length), pairB l i l[i] = true := by
  unfold rdnOK at h
  simp only [Bool.and_eq_true, decide_eq_true_eq] at h
  refine ⟨h.1.1, h.1.2, fun i hi => ?_⟩
  have := List.all_eq_true.1 h.2 i (List.mem_range.2 hi)
  rw [List.getElem?_eq_getElem hi] at this
  exact this
theorem rdnOK_av {l : List Av} (h : rdnOK l = true) : ∀ x ∈ l, typeOK x.t.data.toList = true ∧ valOK x.v.data.toList = true := by
  intro x hx
  obtain ⟨i, hi, rfl⟩ := List.mem_iff_getElem.1 hx
  have := (rdnOK_facts h).2.2 i hi
  unfold pairB at this
  simp only [Bool.and_eq_true] at this
  exact ⟨this.1.2, this.2⟩
theorem nameOK_facts {n : List (List Av)} (h : nameOK n = true) : n.length ≤ 12 ∧ ∀ l ∈ n, rdnOK l = true := by
  unfold nameOK at h
  simp only [Bool.and_eq_true, decide_eq_true_eq] at h
  exact ⟨h.1, fun l hl => List.all_eq_true.1 h.2 l hl⟩
theorem valOK_le {v : List UInt8} (h : valOK v = true) : v.length ≤ 255 := by
  unfold valOK at h
  simp only [Bool.and_eq_true, decide_eq_true_eq] at h
  exact h.1
theorem typeOK_le {t : List UInt8} (h : typeOK t = true) : t.length ≤ 32 := by
  unfold typeOK at h
  simp only [Bool.and_eq_true, decide_eq_true_eq] at h
  exact h.1.2
theorem low_type : ∀ c : UInt8, typeCh c = true → low c = c := by
  have all : ∀ m : Fin 256, (!typeCh (UInt8.ofNat m.val) || decide (low (UInt8.ofNat m.val) = UInt8.ofNat m.val)) = true := by decide +kernel
  intro c h
  have := all ⟨c.toNat, c.toNat_lt⟩
  simp only [UInt8.ofNat_toNat, h, Bool.not_true, Bool.false_or, decide_eq_true_eq] at this
  exact this
theorem lowL_type {t : List UInt8} (h : typeOK t = true) : lowL t = t := by
  unfold typeOK at h
  simp only [Bool.and_eq_true] at h
  unfold lowL
  conv => rhs; rw [← List.map_id t]
  apply List.map_congr_left
  intro c hc
  exact low_type c (List.all_eq_true.1 h.2 c hc)
theorem tyAs_id {a : Av} (h : typeOK a.t.data.toList = true) : TyAs id a := ⟨lowL_type h, h⟩
/-- a pair's text, as it is printed -/
def ptx (a : Av) : List UInt8 := a.t.data.toList ++ 61 :: textL a.v.data.toList
theorem pt_id (a : Av) : pt id [] a = ptx a := rfl
def rdnX (l : List Av) : List UInt8 := Lib.join (l.map ptx) [43]
def nameX (n : List (List Av)) : List UInt8 := Lib.join (n.map rdnX) [44]
theorem rdnX_cons (a : Av) (r : List Av) : rdnX (a :: r) = ptx a ++ r.flatMap fun a => 43 :: ptx a := by
  unfold rdnX
  rw [List.map_cons, Lib.join_cons, Lib.joinTail, List.map_map, List.flatMap_def]
  rfl
theorem nameX_cons (l : List Av) (m : List (List Av)) : nameX (l :: m) = rdnX l ++ m.flatMap fun l => 44 :: rdnX l := by
  unfold nameX
  rw [List.map_cons, Lib.join_cons, Lib.joinTail, List.map_map, List.flatMap_def]
  rfl
theorem rdnT_id (l : List Av) : rdnT id [] l = rdnX l := by
  cases l with
  | nil => rfl
  | cons a r => rw [rdnX_cons]; rfl
theorem nameT_id (n : List (List Av)) : nameT id [] 44 n = nameX n := by
  cases n with
  | nil => rfl
  | cons l m =>
    rw [nameX_cons]
    show rdnT id [] l ++ m.flatMap (fun l => 44 :: rdnT id [] l) = _
    rw [rdnT_id]
    congr 2
    funext l
    rw [rdnT_id]
/-- what Print answers -/
def printR (n : List (List Av)) : List UInt8 × Nat := if nameOK n = true then (if 1000 < (nameX n).length then ([], 5) else (nameX n, 0)) else ([], 4)
theorem parse_print (n : List (List Av)) (h : nameOK n = true) : parseR (nameX n) = some n := by
  rw [← nameT_id]
  refine parse_text (by simp) (by decide) (by decide) n h fun l hl => ?_
  have hr := (nameOK_facts h).2 l hl
  refine ⟨?_, fun x hx => tyAs_id (rdnOK_av hr x hx).1⟩
  rintro rfl
  have := (rdnOK_facts hr).1
  simp at this
theorem ptx_len {a : Av} (h1 : typeOK a.t.data.toList = true) (h2 : valOK a.v.data.toList = true) : (ptx a).length ≤ 798 := by
  have := typeOK_le h1
  have := valOK_le h2
  have := textF_len true a.v.data.toList
  unfold ptx textL
  rw [List.length_append, List.length_cons]
  omega
theorem flat_len_le {α : Type} (f : α → List UInt8) (k : Nat) : ∀ l : List α, (∀ x ∈ l, (f x).length ≤ k) → (l.flatMap f).length ≤ l.length * k
  | [], _ => by simp
  | x :: l, h => by
    have h1 := h x (by simp)
    have h2 := flat_len_le f k l (fun y hy => h y (by simp [hy]))
    rw [List.flatMap_cons, List.length_append, List.length_cons, Nat.add_mul]
    omega
theorem rdnX_len {l : List Av} (h : rdnOK l = true) : (rdnX l).length ≤ 4000 := by
  have hx := rdnOK_av h
  have h4 := (rdnOK_facts h).2.1
  cases l with
  | nil => simp [rdnX, Lib.join, List.intercalate]
  | cons a r =>
    rw [rdnX_cons, List.length_append]
    have h1 := ptx_len (hx a (by simp)).1 (hx a (by simp)).2
    have h2 := flat_len_le (fun a => 43 :: ptx a) 799 r (fun x hx' => by
      have := ptx_len (hx x (by simp [hx'])).1 (hx x (by simp [hx'])).2
      simp only [List.length_cons]; omega)
    simp only [List.length_cons] at h4
    have : r.length * 799 ≤ 3 * 799 := Nat.mul_le_mul_right _ (by omega)
    omega
theorem nameX_len {n : List (List Av)} (h : nameOK n = true) : (nameX n).length ≤ 60000 := by
  obtain ⟨h12, hx⟩ := nameOK_facts h
  cases n with
  | nil => simp [nameX, Lib.join, List.intercalate]
  | cons l m =>
    rw [nameX_cons, List.length_append]
    have h1 := rdnX_len (hx l (by simp))
    have h2 := flat_len_le (fun l => 44 :: rdnX l) 4001 m (fun x hx' => by
      have := rdnX_len (hx x (by simp [hx']))
      simp only [List.length_cons]; omega)
    simp only [List.length_cons] at h12
    have : m.length * 4001 ≤ 12 * 4001 := Nat.mul_le_mul_right _ (by omega)
    omega
end dnw
end Go.Proofs.YtjjbmhndakmkbaaGreatDoor
