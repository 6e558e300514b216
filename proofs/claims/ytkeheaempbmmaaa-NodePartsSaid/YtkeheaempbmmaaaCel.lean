/- A cell of a node; the walks that look at one cell. -/
import Derived.Test.YtkeheaempbmmaaaKit
import Derived.Test.YtkeheaempbmmaaaRows
import Derived.Deep.QuietTactic
import Derived.BigQuiet
namespace Go.Proofs.Ytkeheaempbmmaaa
open Go.RowKit
namespace nod
structure Cel where
  key : ByteArray
  val : ByteArray
  over : Int
  size : Int
  child : Int
deriving DecidableEq
def Cel.v (c : Cel) : Value := .agg #[.string c.key, .string c.val, .int .i64 c.over, .int .i64 c.size, .int .i64 c.child]
/-- may it be a branch's -/
def okBranch (c : Cel) : Prop := c.key.size ≤ 120 ∧ 1 ≤ c.child ∧ c.child < 512 ∧ c.val.toList = [] ∧ c.over = 0 ∧ c.size = 0
/-- may it be a leaf's -/
def okLeaf (c : Cel) : Prop := ¬ c.key.toList = [] ∧ c.key.size ≤ 120 ∧ c.child = 0 ∧ if c.over = 0 then c.size = 0 ∧ c.val.size ≤ 96 else c.val.toList = [] ∧ 1 ≤ c.over ∧ c.over < 512 ∧ 96 < c.size ∧ c.size ≤ 4000
instance (c : Cel) : Decidable (okBranch c) := by unfold okBranch; infer_instance
instance (c : Cel) : Decidable (okLeaf c) := by unfold okLeaf; infer_instance
/-- may it be one -/
def ok (leaf : Bool) (c : Cel) : Bool := if leaf then decide (okLeaf c) else decide (okBranch c)
theorem toList_nil {a : ByteArray} : a.toList = [] ↔ a.size = 0 := by
  rw [Lib.toList_data]
  constructor
  · intro h; rw [← kt.size_len, h]; rfl
  · intro h; exact List.eq_nil_of_length_eq_zero (by rw [kt.size_len]; exact h)
theorem isEmpty_nil {a : ByteArray} : a.toList.isEmpty = decide (a.toList = []) := by
  cases a.toList <;> simp
set_option maxHeartbeats 1000000 in
theorem rightBranch_any (c : Cel) (w : World) : Calls Try.prog 29 #[c.v] w fun e w' => e = .returned (.bool (decide (okBranch c))) ∧ Below w.heap.size w w' := by
  obtain ⟨key, val, over, size, child⟩ := c
  unfold Cel.v
  dsimp only
  obtain ⟨r, hr⟩ : ∃ r : Bool, Hid (r = decide (okBranch ⟨key, val, over, size, child⟩)) := ⟨_, rfl⟩
  rw [← hr.out]
  go_enter Try.func29, Try.ntmps29
  go_wp2_with fail
  all_goals go_ret
  all_goals refine ⟨kt.ret_bool ?_, (Below.refl _ _).alloc (Nat.le_refl _) _⟩
  all_goals (rw [hr.out]; unfold okBranch; simp_all)
  all_goals first | (intros; exfalso; omega) | (intros; omega) | (refine decide_eq_false ?_; rintro ⟨_, _, _⟩; omega) | (rw [Bool.eq_iff_iff]; simp; omega)
set_option maxHeartbeats 1000000 in
theorem rightLeaf_any (c : Cel) (w : World) : Calls Try.prog 30 #[c.v] w fun e w' => e = .returned (.bool (decide (okLeaf c))) ∧ Below w.heap.size w w' := by
  obtain ⟨key, val, over, size, child⟩ := c
  unfold Cel.v
  dsimp only
  obtain ⟨r, hr⟩ : ∃ r : Bool, Hid (r = decide (okLeaf ⟨key, val, over, size, child⟩)) := ⟨_, rfl⟩
  rw [← hr.out]
  go_enter Try.func30, Try.ntmps30
  go_wp2_with fail
  all_goals go_ret
  all_goals refine ⟨kt.ret_bool ?_, (Below.refl _ _).alloc (Nat.le_refl _) _⟩
  all_goals (rw [hr.out]; unfold okLeaf; simp_all [isEmpty_nil])
  all_goals first | (intros; exfalso; omega) | (intros; omega) | (refine decide_eq_false ?_; rintro ⟨_, _, _⟩; omega) | (rw [Bool.eq_iff_iff]; simp; omega)
set_option maxHeartbeats 2000000 in
theorem rcell_any (leaf : Bool) (c : Cel) (w : World) : Calls Try.prog 31 #[.bool leaf, c.v] w fun e w' => e = .returned (.bool (ok leaf c)) ∧ Below w.heap.size w w' := by
  obtain ⟨key, val, over, size, child⟩ := c
  unfold Cel.v
  dsimp only
  obtain ⟨r, hr⟩ : ∃ r : Bool, Hid (r = ok leaf ⟨key, val, over, size, child⟩) := ⟨_, rfl⟩
  rw [← hr.out]
  have hk : key.toList = [] ↔ key.size = 0 := toList_nil
  have HK := Lib.hid hk
  clear hk
  cases leaf with
  | true =>
    go_enter Try.func31, Try.ntmps31
    go_wp2_with fail
    all_goals go_ret
    all_goals refine ⟨kt.ret_bool ?_, (Below.refl _ _).alloc (Nat.le_refl _) _⟩
    all_goals (have hk := HK.out; rw [hr.out]; unfold ok okLeaf; simp_all)
    all_goals first | (intros; exfalso; omega) | (intros; omega) | (refine decide_eq_false ?_; rintro ⟨_, _, _⟩; omega) | (rw [Bool.eq_iff_iff]; simp; omega)
  | false =>
    go_enter Try.func31, Try.ntmps31
    go_wp2_with fail
    all_goals go_ret
    all_goals refine ⟨kt.ret_bool ?_, (Below.refl _ _).alloc (Nat.le_refl _) _⟩
    all_goals (have hk := HK.out; rw [hr.out]; unfold ok okBranch; simp_all)
    all_goals first | (intros; exfalso; omega) | (intros; omega) | (refine decide_eq_false ?_; rintro ⟨_, _, _⟩; omega) | (rw [Bool.eq_iff_iff]; simp; omega)
end nod
end Go.Proofs.Ytkeheaempbmmaaa
