/- The walk of the reference's Small (rollbookref16): capital letters made small, byte by byte. -/
import Derived.Test.YtifplgnabkkbjaaDoorKit
import Derived.Test.YtifplgnabkkbjaaDoorRows
namespace Go.Proofs.YtifplgnabkkbjaaDoor
open Go.RowKit
namespace sml
set_option linter.unusedVariables false
set_option linter.unusedSimpArgs false
def low (c : UInt8) : UInt8 := if 65 ≤ c.toNat ∧ c.toNat ≤ 90 then UInt8.ofNat (c.toNat + 32) else c
def lowL (l : List UInt8) : List UInt8 := l.map low
theorem low_nat (c : UInt8) : ((low c).toNat : Int) = if 65 ≤ (c.toNat : Int) ∧ (c.toNat : Int) ≤ 90 then (c.toNat : Int) + 32 else (c.toNat : Int) := by
  unfold low
  by_cases h : 65 ≤ c.toNat ∧ c.toNat ≤ 90
  · rw [if_pos h, if_pos (by omega), UInt8.toNat_ofNat']; omega
  · rw [if_neg h, if_neg (by omega)]
theorem infoByte : (Tryd.prog.info? 5).map (fun i => (i.zero, i.size, i.bytes)) = some (some (.int .u8 0), 1, 1) := by kernel_rfl
theorem emptyRow (w : World) (e : TypeId) : (w.alloc (.cells #[] e)).ownsRow w.heap.size e 1 (.slice (some ⟨w.heap.size, 0, none⟩) 0 0) ([] : List Value).length [] :=
  World.ownsRow_made w #[] 0 (Nat.le_refl _) (by unfold maxLen; omega) rfl
set_option maxRecDepth 20000 in
set_option maxHeartbeats 4000000 in
theorem small_any (s : ByteArray) (w : World) (hs : s.size ≤ 10000000) :
    Calls Tryd.prog 28 #[.string s] w fun e w' => e = .returned (.string ⟨(lowL s.data.toList).toArray⟩) ∧ Below w.heap.size w w' := by
  go_enter Tryd.func28, Tryd.ntmps28
  go_wp2_with fail
  go_loopw [3, 4, 5] (fun bv iv _ wr => ∃ k : Nat, k ≤ s.size ∧ iv = .int .i64 (k : Int) ∧ Hid (wr.ownsRow w.heap.size 5 1 bv (Lib.byteCells (lowL (s.data.toList.take k))).length (Lib.byteCells (lowL (s.data.toList.take k)))) ∧ Below w.heap.size w wr) (fun _ iv _ _ => s.size - (intOf iv).toNat)
  case atStart => exact ⟨0, Nat.zero_le _, rfl, emptyRow w _, (Below.refl _ _).alloc (Nat.le_refl _) _⟩
  case round =>
    obtain ⟨k, hk, rfl, hO, hB⟩ := hrel
    have hsz := hB.size
    by_cases hlt : k < s.size
    · have hlt' : (k : Int) < (s.size : Int) := by omega
      have HT := kt.take_snoc s k hlt
      obtain ⟨c, hc⟩ : ∃ c, s[k]'hlt = c := ⟨_, rfl⟩
      rw [hc] at HT
      have hcn := c.toNat_lt
      have hlen : (Lib.byteCells (lowL (s.data.toList.take k))).length ≤ k := by rw [Lib.byteCells_length]; unfold lowL; rw [List.length_map]; exact List.length_take_le _ _
      obtain ⟨v', w1, hap, hO1, hg1, hB1⟩ := kt.app1 (P := Tryd.prog) (ty := 56) (w := wr) Tryd.underlying56 infoByte rfl (.int .u8 ((low c).toNat : Int)) rfl hO.out (by unfold maxLen; omega) (by omega) hsz
      have HO1 : Hid (w1.ownsRow w.heap.size 5 1 v' (Lib.byteCells (lowL (s.data.toList.take (k + 1)))).length (Lib.byteCells (lowL (s.data.toList.take (k + 1))))) := by
        show World.ownsRow _ _ _ _ _ _ _
        rw [HT]
        unfold lowL at hO1 ⊢
        rw [List.map_append, Lib.byteCells_append]
        exact hO1
      have HB1 := Lib.hid (hB.trans hB1)
      clear HT hO1 hg1 hB1 hlen
      have hlow := low_nat c
      by_cases hup : 65 ≤ (c.toNat : Int) ∧ (c.toNat : Int) ≤ 90
      · rw [if_pos hup] at hlow
        rw [hlow] at hap
        obtain ⟨u1, u2⟩ := hup
        have r1 : IntKind.u8.wrap ((c.toNat : Int) + 32) = (c.toNat : Int) + 32 := IntWalk.u8_in _ (by omega)
        clear hlow
        go_wp2_with (at_builtin; refine Lib.wpList_append_run _ rfl _ _ _ _ rfl _ _ rfl rfl _ _ hap ?_)
        go_roundw
        case rel => exact ⟨k + 1, by omega, by go_num, HO1, HB1.out⟩
        case measure => simp [intOf]; omega
      · rw [if_neg hup] at hlow
        rw [hlow] at hap
        clear hlow
        by_cases h65 : 65 ≤ (c.toNat : Int)
        · have h90 : decide ((c.toNat : Int) ≤ 90) = false := by rw [decide_eq_false_iff_not]; omega
          clear hup
          go_wp2_with (at_builtin; refine Lib.wpList_append_run _ rfl _ _ _ _ rfl _ _ rfl rfl _ _ hap ?_)
          go_roundw
          case rel => exact ⟨k + 1, by omega, by go_num, HO1, HB1.out⟩
          case measure => simp [intOf]; omega
        · clear hup
          go_wp2_with (at_builtin; refine Lib.wpList_append_run _ rfl _ _ _ _ rfl _ _ rfl rfl _ _ hap ?_)
          go_roundw
          case rel => exact ⟨k + 1, by omega, by go_num, HO1, HB1.out⟩
          case measure => simp [intOf]; omega
    · obtain rfl : k = s.size := by omega
      have hO2 := hO.out
      rw [List.take_of_length_le (by simp)] at hO2
      have hst := kt.str_of_row (P := Tryd.prog) (dst := 9) Tryd.underlying56 Tryd.underlying5 Tryd.underlying9 hO2
      clear hO2
      go_wp2_with fail
      go_ret
      exact ⟨rfl, hB⟩
end sml
end Go.Proofs.YtifplgnabkkbjaaDoor
