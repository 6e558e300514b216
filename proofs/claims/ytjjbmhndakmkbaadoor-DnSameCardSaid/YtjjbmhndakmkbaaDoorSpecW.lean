/- The walk of the reference's Special; rows of signs. -/
import Derived.Test.YtjjbmhndakmkbaaDoorParseW
namespace Go.Proofs.YtjjbmhndakmkbaaDoor
open Go.RowKit
namespace dnw
open dnp
set_option linter.unusedVariables false
set_option linter.unusedSimpArgs false
theorem u8_special (c : UInt8) : special c = decide ((c.toNat : Int) = 34 ∨ (c.toNat : Int) = 43 ∨ (c.toNat : Int) = 44 ∨ (c.toNat : Int) = 59 ∨ (c.toNat : Int) = 60 ∨ (c.toNat : Int) = 61 ∨ (c.toNat : Int) = 62 ∨ (c.toNat : Int) = 92) := by
  have all : ∀ m : Fin 256, special (UInt8.ofNat m.val) = decide ((m.val : Int) = 34 ∨ (m.val : Int) = 43 ∨ (m.val : Int) = 44 ∨ (m.val : Int) = 59 ∨ (m.val : Int) = 60 ∨ (m.val : Int) = 61 ∨ (m.val : Int) = 62 ∨ (m.val : Int) = 92) := by decide +kernel
  have h := all ⟨c.toNat, c.toNat_lt⟩
  simp only [UInt8.ofNat_toNat] at h
  exact h
set_option maxHeartbeats 2000000 in
theorem special_any (c : UInt8) (w : World) : Calls Tryd.prog 31 #[.int .u8 (c.toNat : Int)] w fun e w' => e = .returned (.bool (special c)) ∧ w = w' := by
  rw [u8_special]
  generalize (c.toNat : Int) = r
  go_enter Tryd.func31, Tryd.ntmps31
  go_wp2
  all_goals
    go_ret
    refine ⟨kt.ret_bool ?_, rfl⟩
    (try simp only [beq_iff_eq, beq_eq_false_iff_ne, ne_eq, bne_iff_ne] at *)
    first
      | exact (decide_eq_true (by omega)).symm
      | exact (decide_eq_false (by omega)).symm
      | (rw [Bool.eq_iff_iff]; simp only [Bool.or_eq_true, decide_eq_true_eq, beq_iff_eq]; omega)
def scell (x : Sg) : List Value := [.int .u8 (x.1.toNat : Int), .bool x.2]
def scells (l : List Sg) : List Value := l.flatMap scell
/-- a row of signs that the call owns -/
def OwnS (w : World) (B : Nat) (v : Value) (l : List Sg) : Prop := kt.SegX w B 48 2 v l.length (scells l)
/-- where signs lie -/
def Sgs (w : World) (ao : Option Addr) (l : List Sg) : Prop := ∀ i (hi : i < l.length), ∃ b o, ao = some ⟨b, o, none⟩ ∧ w.cell? ⟨b, o + i * 2, none⟩ = some (.int .u8 (l[i].1.toNat : Int)) ∧ w.cell? ⟨b, o + i * 2 + 1, none⟩ = some (.bool l[i].2)
theorem sgs_below {w w' : World} {ao : Option Addr} {l : List Sg} (h : Sgs w ao l) (hb : Below w.heap.size w w') : Sgs w' ao l := by
  intro i hi
  obtain ⟨b, o, h1, h2, h3⟩ := h i hi
  exact ⟨b, o, h1, (hb.cell (World.block_lt_of_cell? w _ h2)).trans h2, (hb.cell (World.block_lt_of_cell? w _ h3)).trans h3⟩
theorem ownS_sgs {w : World} {B cap : Nat} {ao : Option Addr} {l : List Sg} (h : OwnS w B (.slice ao l.length cap) l) : Sgs w ao l := by
  intro i hi
  obtain ⟨g, o, cap', hv, _, _, hc⟩ := kt.segX_cell h (by omega)
  simp only [Value.slice.injEq] at hv
  obtain ⟨rfl, _, _⟩ := hv
  have h0 := kt.flat_get scell 2 (fun _ => rfl) l i 0 hi (by omega)
  have h1 := kt.flat_get scell 2 (fun _ => rfl) l i 1 hi (by omega)
  refine ⟨g, o, rfl, ?_, ?_⟩
  · exact hc _ _ h0
  · rw [Nat.add_assoc]; exact hc _ _ h1
theorem scells_append (a b : List Sg) : scells (a ++ b) = scells a ++ scells b := List.flatMap_append ..
theorem infoSign : (Tryd.prog.info? 48).map (fun i => (i.zero, i.size, i.bytes)) = some (some (.agg #[.int .u8 0, .bool false]), 2, 2) := by kernel_rfl
theorem ownS_below {w w' : World} {B : Nat} {v : Value} {l : List Sg} (h : OwnS w B v l) (hb : Below w.heap.size w w') : OwnS w' B v l := kt.segX_below h hb
/-- a sign laid behind -/
theorem ownS_app {w : World} {B : Nat} {v : Value} {l : List Sg} (x : Sg) (h : OwnS w B v l) (hl : l.length ≤ 1000000) (hB : B ≤ w.heap.size) :
    ∃ v' w1, (Builtin.append_ #[43, 43] 43 #[v, .slice (some ⟨w.heap.size, 0, none⟩) 1 1]).run Tryd.prog (w.alloc (.cells #[.int .u8 (x.1.toNat : Int), .bool x.2] 48)) = .ok v' w1 ∧ OwnS w1 B v' (l ++ [x]) ∧ Below B w w1 := by
  have hn := ownS_below h (w' := w.alloc (.cells #[.int .u8 (x.1.toNat : Int), .bool x.2] 48)) ((Below.refl _ _).alloc (Nat.le_refl _) _)
  obtain ⟨v', w1, h1, h2, h3, _⟩ := kt.segX_append (P := Tryd.prog) (t := 43) (ty := 43) Tryd.underlying43 infoSign rfl (by omega) ⟨w.heap.size, 0, none⟩ 1 1 (scell x) rfl (fun j u hj => by
      rw [kt.addr_add, World.cell?_alloc_new]
      simpa [scell] using hj) (by intro u hu; simp [scell] at hu; rcases hu with rfl | rfl <;> rfl) hn (by unfold maxLen; omega) (by omega) (by simp; omega)
  refine ⟨v', w1, h1, ?_, ((Below.refl B w).alloc hB _).trans (below_of_gr h3 (by simp; omega) (fun k hk => (kt.segX_lt hn k hk).1))⟩
  unfold OwnS
  rw [List.length_append, scells_append]
  have e : scells [x] = scell x := by simp [scells]
  rw [e]
  exact h2
end dnw
end Go.Proofs.YtjjbmhndakmkbaaDoor
