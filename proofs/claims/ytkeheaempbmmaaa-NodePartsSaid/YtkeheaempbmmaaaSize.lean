/- The walks of size, Long: a cell's length. -/
import Derived.Test.YtkeheaempbmmaaaCel
namespace Go.Proofs.Ytkeheaempbmmaaa
open Go.RowKit
namespace nod
/-- a cell's length, without its slot -/
def len (leaf : Bool) (c : Cel) : Nat := 2 + c.key.size + if leaf then (if 0 < c.over then 9 else 3 + c.val.size) else 4
set_option maxHeartbeats 1000000 in
theorem size_any (leaf : Bool) (c : Cel) (w : World) (hk : c.key.size ≤ 1000000) (hv : c.val.size ≤ 1000000) : Calls Try.prog 37 #[.bool leaf, c.v] w fun e w' => e = .returned (.int .i64 ((2 + len leaf c : Nat) : Int)) ∧ Below w.heap.size w w' := by
  obtain ⟨key, val, over, size, child⟩ := c
  unfold Cel.v
  dsimp only at hk hv ⊢
  obtain ⟨r, hr⟩ : ∃ r : Nat, Hid (r = 2 + len leaf ⟨key, val, over, size, child⟩) := ⟨_, rfl⟩
  rw [← hr.out]
  cases leaf with
  | true =>
    by_cases h : 0 < over
    · go_enter Try.func37, Try.ntmps37
      go_wp2_with fail
      go_ret
      refine ⟨kt.ret_int ?_, (Below.refl _ _).alloc (Nat.le_refl _) _⟩
      rw [hr.out]
      simp only [len, ↓reduceIte, h]
      omega
    · go_enter Try.func37, Try.ntmps37
      go_wp2_with fail
      go_ret
      refine ⟨kt.ret_int ?_, (Below.refl _ _).alloc (Nat.le_refl _) _⟩
      rw [hr.out]
      have h' : ¬ 0 < over := by omega
      simp only [len, ↓reduceIte, h']
      omega
  | false =>
    go_enter Try.func37, Try.ntmps37
    go_wp2_with fail
    go_ret
    refine ⟨kt.ret_int ?_, (Below.refl _ _).alloc (Nat.le_refl _) _⟩
    rw [hr.out]
    simp [len]
    omega
set_option maxHeartbeats 1000000 in
theorem long_any (leaf : Bool) (c : Cel) (w : World) (hk : c.key.size ≤ 1000000) (hv : c.val.size ≤ 1000000) : Calls Try.prog 39 #[.bool leaf, c.v] w fun e w' => e = .returned (.int .i64 ((len leaf c : Nat) : Int)) ∧ Below w.heap.size w w' := by
  obtain ⟨key, val, over, size, child⟩ := c
  unfold Cel.v
  dsimp only at hk hv ⊢
  obtain ⟨r, hr⟩ : ∃ r : Nat, Hid (r = len leaf ⟨key, val, over, size, child⟩) := ⟨_, rfl⟩
  rw [← hr.out]
  cases leaf with
  | true =>
    by_cases h : 0 < over
    · go_enter Try.func39, Try.ntmps39
      go_wp2_with fail
      go_ret
      refine ⟨kt.ret_int ?_, (Below.refl _ _).alloc (Nat.le_refl _) _⟩
      rw [hr.out]
      simp [len, h]
    · go_enter Try.func39, Try.ntmps39
      go_wp2_with fail
      go_ret
      refine ⟨kt.ret_int ?_, (Below.refl _ _).alloc (Nat.le_refl _) _⟩
      rw [hr.out]
      have h' : ¬ 0 < over := by omega
      simp only [len, ↓reduceIte, h']
      omega
  | false =>
    go_enter Try.func39, Try.ntmps39
    go_wp2_with fail
    go_ret
    refine ⟨kt.ret_int ?_, (Below.refl _ _).alloc (Nat.le_refl _) _⟩
    rw [hr.out]
    simp [len]
/-- a row of cells lies at a slice -/
def Cels (w : World) (ao : Option Addr) (l : List Cel) : Prop := ∀ (i : Nat) (h : i < l.length), ∃ b o, ao = some ⟨b, o, none⟩ ∧
  w.cell? ⟨b, o + i * 5, none⟩ = some (.string l[i].key) ∧ w.cell? ⟨b, o + i * 5 + 1, none⟩ = some (.string l[i].val) ∧ w.cell? ⟨b, o + i * 5 + 2, none⟩ = some (.int .i64 l[i].over) ∧
  w.cell? ⟨b, o + i * 5 + 3, none⟩ = some (.int .i64 l[i].size) ∧ w.cell? ⟨b, o + i * 5 + 4, none⟩ = some (.int .i64 l[i].child)
theorem cels_below {w w' : World} {ao : Option Addr} {l : List Cel} (h : Cels w ao l) (hb : Below w.heap.size w w') : Cels w' ao l := by
  intro i hi
  obtain ⟨b, o, e, h0, h1, h2, h3, h4⟩ := h i hi
  have hlt : b < w.heap.size := World.block_lt_of_cell? w ⟨b, _, none⟩ h0
  exact ⟨b, o, e, (hb.cell hlt).trans h0, (hb.cell hlt).trans h1, (hb.cell hlt).trans h2, (hb.cell hlt).trans h3, (hb.cell hlt).trans h4⟩
theorem size1 (w : World) (o : Obj) : (w.alloc o).heap.size = w.heap.size + 1 := by
  show (w.heap.push o).size = _
  simp
/-- cells' lengths, slots and count with them -/
def sum (leaf : Bool) : List Cel → Nat
  | [] => 2
  | c :: r => 2 + len leaf c + sum leaf r
theorem sum_take (leaf : Bool) (l : List Cel) (i : Nat) (h : i < l.length) : sum leaf (l.take (i + 1)) = sum leaf (l.take i) + 2 + len leaf l[i] := by
  have h2 : ∀ (a : List Cel) (c : Cel), sum leaf (a ++ [c]) = sum leaf a + 2 + len leaf c := by
    intro a c
    induction a with
    | nil => simp [sum]; omega
    | cons d r ih => simp [sum, ih]; omega
  rw [List.take_succ_eq_append_getElem h, h2]
theorem sum_bound (leaf : Bool) (l : List Cel) (h : ∀ c ∈ l, c.key.size ≤ 1000000 ∧ c.val.size ≤ 1000000) : sum leaf l ≤ 2 + 3000000 * l.length := by
  induction l with
  | nil => simp [sum]
  | cons c r ih =>
    have h1 := h c (by simp)
    have h2 := ih (fun d hd => h d (by simp [hd]))
    have h3 : len leaf c ≤ 2000014 := by
      unfold len
      cases leaf
      · simp; omega
      · simp
        split <;> omega
    simp only [sum, List.length_cons]
    omega
set_option maxHeartbeats 1000000 in
theorem sum_any (leaf : Bool) (ao : Option Addr) (cap : Nat) (l : List Cel) (w : World) (hl : Hid (Cels w ao l)) (hs : Hid (∀ c ∈ l, c.key.size ≤ 1000000 ∧ c.val.size ≤ 1000000)) (hn : l.length ≤ 1000000) :
    Calls Try.prog 23 #[.bool leaf, .slice ao l.length cap] w fun e w' => e = .returned (.int .i64 ((sum leaf l : Nat) : Int)) ∧ Below w.heap.size w w' := by
  go_enter Try.func23, Try.ntmps23
  go_wp2_with fail
  go_loopw [5, 10] (fun nv iv wr => ∃ (i N : Nat), i ≤ l.length ∧ iv = .int .i64 i ∧ nv = .int .i64 N ∧ Hid (N = sum leaf (l.take i)) ∧ Below w.heap.size w wr) (fun _ iv _ => l.length - (intOf iv).toNat)
  case atStart => exact ⟨0, 2, Nat.zero_le _, rfl, rfl, by show _ = _; simp [sum], Below.refl _ _⟩
  case round =>
    obtain ⟨i, N, hi, rfl, rfl, hN, hB⟩ := hrel
    have hsz := hB.size
    by_cases hil : i < l.length
    · have hil' : (i : Int) < (l.length : Int) := by omega
      obtain ⟨c, hc⟩ : ∃ c : Cel, Hid (c = l[i]'hil) := ⟨l[i]'hil, rfl⟩
      obtain ⟨b, o, hao, f0, f1, f2, f3, f4⟩ := (cels_below hl.out hB) i hil
      rw [← hc.out] at f0 f1 f2 f3 f4
      subst hao
      go_wp2_with fail
      have hcb := hs.out c (by rw [hc.out]; exact List.getElem_mem hil)
      have S := Lib.hid (size_any leaf c (wr.alloc (.cells #[.string c.key, .string c.val, .int .i64 c.over, .int .i64 c.size, .int .i64 c.child] 35)) hcb.1 hcb.2)
      have hst := sum_take leaf l i hil
      rw [← hc.out, ← hN.out] at hst
      have hbd := sum_bound leaf (l.take (i + 1)) (fun d hd => hs.out d (List.mem_of_mem_take hd))
      obtain ⟨M, hM⟩ : ∃ M : Nat, Hid (M = sum leaf (l.take (i + 1))) := ⟨_, rfl⟩
      rw [← hM.out] at hst hbd
      obtain ⟨q, hq⟩ : ∃ q : Nat, Hid (q = 2 + len leaf c) := ⟨_, rfl⟩
      rw [← hq.out] at S
      have hst2 : M = N + q := by rw [hq.out]; omega
      rw [List.length_take] at hbd
      have hMb : M ≤ 4000000000000 := by omega
      clear hst hbd
      unfold Cel.v at S
      go_wp2_with fail
      refine S.out.mono ?_
      rintro e w1 ⟨rfl, hB1⟩
      go_wp2_with fail
      go_roundw
      case rel => exact ⟨i + 1, M, by omega, by go_num, by rw [hst2]; go_num, hM, (hB.alloc hsz _).trans (hB1.mono (by rw [size1]; omega))⟩
      case measure => simp [intOf]; omega
    · obtain rfl : i = l.length := by omega
      have hil' : ¬ (l.length : Int) < (l.length : Int) := by omega
      have hN2 := hN.out
      rw [List.take_of_length_le (Nat.le_refl _)] at hN2
      have HN := Lib.hid hN2
      clear hN2 hN
      go_wp2_with fail
      go_ret
      exact ⟨by rw [← HN.out]; rfl, hB⟩
end nod
end Go.Proofs.Ytkeheaempbmmaaa
