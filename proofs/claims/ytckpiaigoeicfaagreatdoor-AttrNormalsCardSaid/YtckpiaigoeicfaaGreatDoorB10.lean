/- One text out of several: SynW, LawN. -/
import Derived.Test.YtckpiaigoeicfaaGreatDoorB9
/-! SynW -/
namespace Go.Proofs.YtckpiaigoeicfaaGreatDoor
open Go.RowKit
namespace atw
open atp
set_option linter.unusedVariables false
set_option linter.unusedSimpArgs false
def synL (n : List UInt8) : Int := match findS n with
  | some t => t.syn
  | none => 0
theorem bs_lit (n m : List UInt8) : ((bs n).toList == m) = decide (n = m) := by rw [Lib.toList_data, bs_data, Bool.eq_iff_iff, beq_iff_eq, decide_eq_true_iff]
theorem str_no {s : ByteArray} {m : List UInt8} (h : s.data.toList ≠ m) : (s.toList == m) = false := by rw [Lib.toList_data]; simpa using h
theorem str_is {s : ByteArray} {m : List UInt8} (h : s.data.toList = m) : (s.toList == m) = true := by rw [Lib.toList_data, h]; simp
set_option maxRecDepth 20000 in
set_option maxHeartbeats 4000000 in
theorem syn_0 (s : ByteArray) (w : World) (h : s.data.toList = [99, 110]) : Calls Tryz.prog 49 #[.string s] w fun e w' => e = .returned (.int .i64 1) ∧ w = w' := by
  have f0 := str_is h
  have f1 : (s.toList == [100, 99]) = false := str_no (by rw [h]; decide)
  have f2 : (s.toList == [100, 101, 115, 99, 114, 105, 112, 116, 105, 111, 110]) = false := str_no (by rw [h]; decide)
  have f3 : (s.toList == [101, 110, 97, 98, 108, 101, 100]) = false := str_no (by rw [h]; decide)
  have f4 : (s.toList == [108]) = false := str_no (by rw [h]; decide)
  have f5 : (s.toList == [108, 105, 109, 105, 116]) = false := str_no (by rw [h]; decide)
  have f6 : (s.toList == [109, 97, 105, 108]) = false := str_no (by rw [h]; decide)
  have f7 : (s.toList == [109, 101, 109, 98, 101, 114]) = false := str_no (by rw [h]; decide)
  have f8 : (s.toList == [111]) = false := str_no (by rw [h]; decide)
  have f9 : (s.toList == [111, 98, 106, 101, 99, 116, 99, 108, 97, 115, 115]) = false := str_no (by rw [h]; decide)
  have f10 : (s.toList == [111, 117]) = false := str_no (by rw [h]; decide)
  have f11 : (s.toList == [112, 104, 111, 116, 111]) = false := str_no (by rw [h]; decide)
  have f12 : (s.toList == [115, 101, 101, 97, 108, 115, 111]) = false := str_no (by rw [h]; decide)
  have f13 : (s.toList == [115, 101, 114, 105, 97, 108, 110, 117, 109, 98, 101, 114]) = false := str_no (by rw [h]; decide)
  have f14 : (s.toList == [115, 110]) = false := str_no (by rw [h]; decide)
  have f15 : (s.toList == [116, 101, 108, 101, 112, 104, 111, 110, 101, 110, 117, 109, 98, 101, 114]) = false := str_no (by rw [h]; decide)
  have f16 : (s.toList == [116, 105, 116, 108, 101]) = false := str_no (by rw [h]; decide)
  have f17 : (s.toList == [117, 105, 100]) = false := str_no (by rw [h]; decide)
  have f18 : (s.toList == [117, 105, 100, 110, 117, 109, 98, 101, 114]) = false := str_no (by rw [h]; decide)
  have f19 : (s.toList == [117, 115, 101, 114, 112, 97, 115, 115, 119, 111, 114, 100]) = false := str_no (by rw [h]; decide)
  clear h
  go_enter Tryz.func49, Tryz.ntmps49
  go_wp2_with fail
  go_ret
  exact ⟨rfl, rfl⟩
set_option maxRecDepth 20000 in
set_option maxHeartbeats 4000000 in
theorem syn_1 (s : ByteArray) (w : World) (h : s.data.toList = [100, 99]) : Calls Tryz.prog 49 #[.string s] w fun e w' => e = .returned (.int .i64 1) ∧ w = w' := by
  have f0 : (s.toList == [99, 110]) = false := str_no (by rw [h]; decide)
  have f1 := str_is h
  have f2 : (s.toList == [100, 101, 115, 99, 114, 105, 112, 116, 105, 111, 110]) = false := str_no (by rw [h]; decide)
  have f3 : (s.toList == [101, 110, 97, 98, 108, 101, 100]) = false := str_no (by rw [h]; decide)
  have f4 : (s.toList == [108]) = false := str_no (by rw [h]; decide)
  have f5 : (s.toList == [108, 105, 109, 105, 116]) = false := str_no (by rw [h]; decide)
  have f6 : (s.toList == [109, 97, 105, 108]) = false := str_no (by rw [h]; decide)
  have f7 : (s.toList == [109, 101, 109, 98, 101, 114]) = false := str_no (by rw [h]; decide)
  have f8 : (s.toList == [111]) = false := str_no (by rw [h]; decide)
  have f9 : (s.toList == [111, 98, 106, 101, 99, 116, 99, 108, 97, 115, 115]) = false := str_no (by rw [h]; decide)
  have f10 : (s.toList == [111, 117]) = false := str_no (by rw [h]; decide)
  have f11 : (s.toList == [112, 104, 111, 116, 111]) = false := str_no (by rw [h]; decide)
  have f12 : (s.toList == [115, 101, 101, 97, 108, 115, 111]) = false := str_no (by rw [h]; decide)
  have f13 : (s.toList == [115, 101, 114, 105, 97, 108, 110, 117, 109, 98, 101, 114]) = false := str_no (by rw [h]; decide)
  have f14 : (s.toList == [115, 110]) = false := str_no (by rw [h]; decide)
  have f15 : (s.toList == [116, 101, 108, 101, 112, 104, 111, 110, 101, 110, 117, 109, 98, 101, 114]) = false := str_no (by rw [h]; decide)
  have f16 : (s.toList == [116, 105, 116, 108, 101]) = false := str_no (by rw [h]; decide)
  have f17 : (s.toList == [117, 105, 100]) = false := str_no (by rw [h]; decide)
  have f18 : (s.toList == [117, 105, 100, 110, 117, 109, 98, 101, 114]) = false := str_no (by rw [h]; decide)
  have f19 : (s.toList == [117, 115, 101, 114, 112, 97, 115, 115, 119, 111, 114, 100]) = false := str_no (by rw [h]; decide)
  clear h
  go_enter Tryz.func49, Tryz.ntmps49
  go_wp2_with fail
  go_ret
  exact ⟨rfl, rfl⟩
set_option maxRecDepth 20000 in
set_option maxHeartbeats 4000000 in
theorem syn_2 (s : ByteArray) (w : World) (h : s.data.toList = [100, 101, 115, 99, 114, 105, 112, 116, 105, 111, 110]) : Calls Tryz.prog 49 #[.string s] w fun e w' => e = .returned (.int .i64 1) ∧ w = w' := by
  have f0 : (s.toList == [99, 110]) = false := str_no (by rw [h]; decide)
  have f1 : (s.toList == [100, 99]) = false := str_no (by rw [h]; decide)
  have f2 := str_is h
  have f3 : (s.toList == [101, 110, 97, 98, 108, 101, 100]) = false := str_no (by rw [h]; decide)
  have f4 : (s.toList == [108]) = false := str_no (by rw [h]; decide)
  have f5 : (s.toList == [108, 105, 109, 105, 116]) = false := str_no (by rw [h]; decide)
  have f6 : (s.toList == [109, 97, 105, 108]) = false := str_no (by rw [h]; decide)
  have f7 : (s.toList == [109, 101, 109, 98, 101, 114]) = false := str_no (by rw [h]; decide)
  have f8 : (s.toList == [111]) = false := str_no (by rw [h]; decide)
  have f9 : (s.toList == [111, 98, 106, 101, 99, 116, 99, 108, 97, 115, 115]) = false := str_no (by rw [h]; decide)
  have f10 : (s.toList == [111, 117]) = false := str_no (by rw [h]; decide)
  have f11 : (s.toList == [112, 104, 111, 116, 111]) = false := str_no (by rw [h]; decide)
  have f12 : (s.toList == [115, 101, 101, 97, 108, 115, 111]) = false := str_no (by rw [h]; decide)
  have f13 : (s.toList == [115, 101, 114, 105, 97, 108, 110, 117, 109, 98, 101, 114]) = false := str_no (by rw [h]; decide)
  have f14 : (s.toList == [115, 110]) = false := str_no (by rw [h]; decide)
  have f15 : (s.toList == [116, 101, 108, 101, 112, 104, 111, 110, 101, 110, 117, 109, 98, 101, 114]) = false := str_no (by rw [h]; decide)
  have f16 : (s.toList == [116, 105, 116, 108, 101]) = false := str_no (by rw [h]; decide)
  have f17 : (s.toList == [117, 105, 100]) = false := str_no (by rw [h]; decide)
  have f18 : (s.toList == [117, 105, 100, 110, 117, 109, 98, 101, 114]) = false := str_no (by rw [h]; decide)
  have f19 : (s.toList == [117, 115, 101, 114, 112, 97, 115, 115, 119, 111, 114, 100]) = false := str_no (by rw [h]; decide)
  clear h
  go_enter Tryz.func49, Tryz.ntmps49
  go_wp2_with fail
  go_ret
  exact ⟨rfl, rfl⟩
set_option maxRecDepth 20000 in
set_option maxHeartbeats 4000000 in
theorem syn_3 (s : ByteArray) (w : World) (h : s.data.toList = [101, 110, 97, 98, 108, 101, 100]) : Calls Tryz.prog 49 #[.string s] w fun e w' => e = .returned (.int .i64 5) ∧ w = w' := by
  have f0 : (s.toList == [99, 110]) = false := str_no (by rw [h]; decide)
  have f1 : (s.toList == [100, 99]) = false := str_no (by rw [h]; decide)
  have f2 : (s.toList == [100, 101, 115, 99, 114, 105, 112, 116, 105, 111, 110]) = false := str_no (by rw [h]; decide)
  have f3 := str_is h
  have f4 : (s.toList == [108]) = false := str_no (by rw [h]; decide)
  have f5 : (s.toList == [108, 105, 109, 105, 116]) = false := str_no (by rw [h]; decide)
  have f6 : (s.toList == [109, 97, 105, 108]) = false := str_no (by rw [h]; decide)
  have f7 : (s.toList == [109, 101, 109, 98, 101, 114]) = false := str_no (by rw [h]; decide)
  have f8 : (s.toList == [111]) = false := str_no (by rw [h]; decide)
  have f9 : (s.toList == [111, 98, 106, 101, 99, 116, 99, 108, 97, 115, 115]) = false := str_no (by rw [h]; decide)
  have f10 : (s.toList == [111, 117]) = false := str_no (by rw [h]; decide)
  have f11 : (s.toList == [112, 104, 111, 116, 111]) = false := str_no (by rw [h]; decide)
  have f12 : (s.toList == [115, 101, 101, 97, 108, 115, 111]) = false := str_no (by rw [h]; decide)
  have f13 : (s.toList == [115, 101, 114, 105, 97, 108, 110, 117, 109, 98, 101, 114]) = false := str_no (by rw [h]; decide)
  have f14 : (s.toList == [115, 110]) = false := str_no (by rw [h]; decide)
  have f15 : (s.toList == [116, 101, 108, 101, 112, 104, 111, 110, 101, 110, 117, 109, 98, 101, 114]) = false := str_no (by rw [h]; decide)
  have f16 : (s.toList == [116, 105, 116, 108, 101]) = false := str_no (by rw [h]; decide)
  have f17 : (s.toList == [117, 105, 100]) = false := str_no (by rw [h]; decide)
  have f18 : (s.toList == [117, 105, 100, 110, 117, 109, 98, 101, 114]) = false := str_no (by rw [h]; decide)
  have f19 : (s.toList == [117, 115, 101, 114, 112, 97, 115, 115, 119, 111, 114, 100]) = false := str_no (by rw [h]; decide)
  clear h
  go_enter Tryz.func49, Tryz.ntmps49
  go_wp2_with fail
  go_ret
  exact ⟨rfl, rfl⟩
set_option maxRecDepth 20000 in
set_option maxHeartbeats 4000000 in
theorem syn_4 (s : ByteArray) (w : World) (h : s.data.toList = [108]) : Calls Tryz.prog 49 #[.string s] w fun e w' => e = .returned (.int .i64 1) ∧ w = w' := by
  have f0 : (s.toList == [99, 110]) = false := str_no (by rw [h]; decide)
  have f1 : (s.toList == [100, 99]) = false := str_no (by rw [h]; decide)
  have f2 : (s.toList == [100, 101, 115, 99, 114, 105, 112, 116, 105, 111, 110]) = false := str_no (by rw [h]; decide)
  have f3 : (s.toList == [101, 110, 97, 98, 108, 101, 100]) = false := str_no (by rw [h]; decide)
  have f4 := str_is h
  have f5 : (s.toList == [108, 105, 109, 105, 116]) = false := str_no (by rw [h]; decide)
  have f6 : (s.toList == [109, 97, 105, 108]) = false := str_no (by rw [h]; decide)
  have f7 : (s.toList == [109, 101, 109, 98, 101, 114]) = false := str_no (by rw [h]; decide)
  have f8 : (s.toList == [111]) = false := str_no (by rw [h]; decide)
  have f9 : (s.toList == [111, 98, 106, 101, 99, 116, 99, 108, 97, 115, 115]) = false := str_no (by rw [h]; decide)
  have f10 : (s.toList == [111, 117]) = false := str_no (by rw [h]; decide)
  have f11 : (s.toList == [112, 104, 111, 116, 111]) = false := str_no (by rw [h]; decide)
  have f12 : (s.toList == [115, 101, 101, 97, 108, 115, 111]) = false := str_no (by rw [h]; decide)
  have f13 : (s.toList == [115, 101, 114, 105, 97, 108, 110, 117, 109, 98, 101, 114]) = false := str_no (by rw [h]; decide)
  have f14 : (s.toList == [115, 110]) = false := str_no (by rw [h]; decide)
  have f15 : (s.toList == [116, 101, 108, 101, 112, 104, 111, 110, 101, 110, 117, 109, 98, 101, 114]) = false := str_no (by rw [h]; decide)
  have f16 : (s.toList == [116, 105, 116, 108, 101]) = false := str_no (by rw [h]; decide)
  have f17 : (s.toList == [117, 105, 100]) = false := str_no (by rw [h]; decide)
  have f18 : (s.toList == [117, 105, 100, 110, 117, 109, 98, 101, 114]) = false := str_no (by rw [h]; decide)
  have f19 : (s.toList == [117, 115, 101, 114, 112, 97, 115, 115, 119, 111, 114, 100]) = false := str_no (by rw [h]; decide)
  clear h
  go_enter Tryz.func49, Tryz.ntmps49
  go_wp2_with fail
  go_ret
  exact ⟨rfl, rfl⟩
set_option maxRecDepth 20000 in
set_option maxHeartbeats 4000000 in
theorem syn_5 (s : ByteArray) (w : World) (h : s.data.toList = [108, 105, 109, 105, 116]) : Calls Tryz.prog 49 #[.string s] w fun e w' => e = .returned (.int .i64 4) ∧ w = w' := by
  have f0 : (s.toList == [99, 110]) = false := str_no (by rw [h]; decide)
  have f1 : (s.toList == [100, 99]) = false := str_no (by rw [h]; decide)
  have f2 : (s.toList == [100, 101, 115, 99, 114, 105, 112, 116, 105, 111, 110]) = false := str_no (by rw [h]; decide)
  have f3 : (s.toList == [101, 110, 97, 98, 108, 101, 100]) = false := str_no (by rw [h]; decide)
  have f4 : (s.toList == [108]) = false := str_no (by rw [h]; decide)
  have f5 := str_is h
  have f6 : (s.toList == [109, 97, 105, 108]) = false := str_no (by rw [h]; decide)
  have f7 : (s.toList == [109, 101, 109, 98, 101, 114]) = false := str_no (by rw [h]; decide)
  have f8 : (s.toList == [111]) = false := str_no (by rw [h]; decide)
  have f9 : (s.toList == [111, 98, 106, 101, 99, 116, 99, 108, 97, 115, 115]) = false := str_no (by rw [h]; decide)
  have f10 : (s.toList == [111, 117]) = false := str_no (by rw [h]; decide)
  have f11 : (s.toList == [112, 104, 111, 116, 111]) = false := str_no (by rw [h]; decide)
  have f12 : (s.toList == [115, 101, 101, 97, 108, 115, 111]) = false := str_no (by rw [h]; decide)
  have f13 : (s.toList == [115, 101, 114, 105, 97, 108, 110, 117, 109, 98, 101, 114]) = false := str_no (by rw [h]; decide)
  have f14 : (s.toList == [115, 110]) = false := str_no (by rw [h]; decide)
  have f15 : (s.toList == [116, 101, 108, 101, 112, 104, 111, 110, 101, 110, 117, 109, 98, 101, 114]) = false := str_no (by rw [h]; decide)
  have f16 : (s.toList == [116, 105, 116, 108, 101]) = false := str_no (by rw [h]; decide)
  have f17 : (s.toList == [117, 105, 100]) = false := str_no (by rw [h]; decide)
  have f18 : (s.toList == [117, 105, 100, 110, 117, 109, 98, 101, 114]) = false := str_no (by rw [h]; decide)
  have f19 : (s.toList == [117, 115, 101, 114, 112, 97, 115, 115, 119, 111, 114, 100]) = false := str_no (by rw [h]; decide)
  clear h
  go_enter Tryz.func49, Tryz.ntmps49
  go_wp2_with fail
  go_ret
  exact ⟨rfl, rfl⟩
set_option maxRecDepth 20000 in
set_option maxHeartbeats 4000000 in
theorem syn_6 (s : ByteArray) (w : World) (h : s.data.toList = [109, 97, 105, 108]) : Calls Tryz.prog 49 #[.string s] w fun e w' => e = .returned (.int .i64 1) ∧ w = w' := by
  have f0 : (s.toList == [99, 110]) = false := str_no (by rw [h]; decide)
  have f1 : (s.toList == [100, 99]) = false := str_no (by rw [h]; decide)
  have f2 : (s.toList == [100, 101, 115, 99, 114, 105, 112, 116, 105, 111, 110]) = false := str_no (by rw [h]; decide)
  have f3 : (s.toList == [101, 110, 97, 98, 108, 101, 100]) = false := str_no (by rw [h]; decide)
  have f4 : (s.toList == [108]) = false := str_no (by rw [h]; decide)
  have f5 : (s.toList == [108, 105, 109, 105, 116]) = false := str_no (by rw [h]; decide)
  have f6 := str_is h
  have f7 : (s.toList == [109, 101, 109, 98, 101, 114]) = false := str_no (by rw [h]; decide)
  have f8 : (s.toList == [111]) = false := str_no (by rw [h]; decide)
  have f9 : (s.toList == [111, 98, 106, 101, 99, 116, 99, 108, 97, 115, 115]) = false := str_no (by rw [h]; decide)
  have f10 : (s.toList == [111, 117]) = false := str_no (by rw [h]; decide)
  have f11 : (s.toList == [112, 104, 111, 116, 111]) = false := str_no (by rw [h]; decide)
  have f12 : (s.toList == [115, 101, 101, 97, 108, 115, 111]) = false := str_no (by rw [h]; decide)
  have f13 : (s.toList == [115, 101, 114, 105, 97, 108, 110, 117, 109, 98, 101, 114]) = false := str_no (by rw [h]; decide)
  have f14 : (s.toList == [115, 110]) = false := str_no (by rw [h]; decide)
  have f15 : (s.toList == [116, 101, 108, 101, 112, 104, 111, 110, 101, 110, 117, 109, 98, 101, 114]) = false := str_no (by rw [h]; decide)
  have f16 : (s.toList == [116, 105, 116, 108, 101]) = false := str_no (by rw [h]; decide)
  have f17 : (s.toList == [117, 105, 100]) = false := str_no (by rw [h]; decide)
  have f18 : (s.toList == [117, 105, 100, 110, 117, 109, 98, 101, 114]) = false := str_no (by rw [h]; decide)
  have f19 : (s.toList == [117, 115, 101, 114, 112, 97, 115, 115, 119, 111, 114, 100]) = false := str_no (by rw [h]; decide)
  clear h
  go_enter Tryz.func49, Tryz.ntmps49
  go_wp2_with fail
  go_ret
  exact ⟨rfl, rfl⟩
set_option maxRecDepth 20000 in
set_option maxHeartbeats 4000000 in
theorem syn_7 (s : ByteArray) (w : World) (h : s.data.toList = [109, 101, 109, 98, 101, 114]) : Calls Tryz.prog 49 #[.string s] w fun e w' => e = .returned (.int .i64 6) ∧ w = w' := by
  have f0 : (s.toList == [99, 110]) = false := str_no (by rw [h]; decide)
  have f1 : (s.toList == [100, 99]) = false := str_no (by rw [h]; decide)
  have f2 : (s.toList == [100, 101, 115, 99, 114, 105, 112, 116, 105, 111, 110]) = false := str_no (by rw [h]; decide)
  have f3 : (s.toList == [101, 110, 97, 98, 108, 101, 100]) = false := str_no (by rw [h]; decide)
  have f4 : (s.toList == [108]) = false := str_no (by rw [h]; decide)
  have f5 : (s.toList == [108, 105, 109, 105, 116]) = false := str_no (by rw [h]; decide)
  have f6 : (s.toList == [109, 97, 105, 108]) = false := str_no (by rw [h]; decide)
  have f7 := str_is h
  have f8 : (s.toList == [111]) = false := str_no (by rw [h]; decide)
  have f9 : (s.toList == [111, 98, 106, 101, 99, 116, 99, 108, 97, 115, 115]) = false := str_no (by rw [h]; decide)
  have f10 : (s.toList == [111, 117]) = false := str_no (by rw [h]; decide)
  have f11 : (s.toList == [112, 104, 111, 116, 111]) = false := str_no (by rw [h]; decide)
  have f12 : (s.toList == [115, 101, 101, 97, 108, 115, 111]) = false := str_no (by rw [h]; decide)
  have f13 : (s.toList == [115, 101, 114, 105, 97, 108, 110, 117, 109, 98, 101, 114]) = false := str_no (by rw [h]; decide)
  have f14 : (s.toList == [115, 110]) = false := str_no (by rw [h]; decide)
  have f15 : (s.toList == [116, 101, 108, 101, 112, 104, 111, 110, 101, 110, 117, 109, 98, 101, 114]) = false := str_no (by rw [h]; decide)
  have f16 : (s.toList == [116, 105, 116, 108, 101]) = false := str_no (by rw [h]; decide)
  have f17 : (s.toList == [117, 105, 100]) = false := str_no (by rw [h]; decide)
  have f18 : (s.toList == [117, 105, 100, 110, 117, 109, 98, 101, 114]) = false := str_no (by rw [h]; decide)
  have f19 : (s.toList == [117, 115, 101, 114, 112, 97, 115, 115, 119, 111, 114, 100]) = false := str_no (by rw [h]; decide)
  clear h
  go_enter Tryz.func49, Tryz.ntmps49
  go_wp2_with fail
  go_ret
  exact ⟨rfl, rfl⟩
set_option maxRecDepth 20000 in
set_option maxHeartbeats 4000000 in
theorem syn_8 (s : ByteArray) (w : World) (h : s.data.toList = [111]) : Calls Tryz.prog 49 #[.string s] w fun e w' => e = .returned (.int .i64 1) ∧ w = w' := by
  have f0 : (s.toList == [99, 110]) = false := str_no (by rw [h]; decide)
  have f1 : (s.toList == [100, 99]) = false := str_no (by rw [h]; decide)
  have f2 : (s.toList == [100, 101, 115, 99, 114, 105, 112, 116, 105, 111, 110]) = false := str_no (by rw [h]; decide)
  have f3 : (s.toList == [101, 110, 97, 98, 108, 101, 100]) = false := str_no (by rw [h]; decide)
  have f4 : (s.toList == [108]) = false := str_no (by rw [h]; decide)
  have f5 : (s.toList == [108, 105, 109, 105, 116]) = false := str_no (by rw [h]; decide)
  have f6 : (s.toList == [109, 97, 105, 108]) = false := str_no (by rw [h]; decide)
  have f7 : (s.toList == [109, 101, 109, 98, 101, 114]) = false := str_no (by rw [h]; decide)
  have f8 := str_is h
  have f9 : (s.toList == [111, 98, 106, 101, 99, 116, 99, 108, 97, 115, 115]) = false := str_no (by rw [h]; decide)
  have f10 : (s.toList == [111, 117]) = false := str_no (by rw [h]; decide)
  have f11 : (s.toList == [112, 104, 111, 116, 111]) = false := str_no (by rw [h]; decide)
  have f12 : (s.toList == [115, 101, 101, 97, 108, 115, 111]) = false := str_no (by rw [h]; decide)
  have f13 : (s.toList == [115, 101, 114, 105, 97, 108, 110, 117, 109, 98, 101, 114]) = false := str_no (by rw [h]; decide)
  have f14 : (s.toList == [115, 110]) = false := str_no (by rw [h]; decide)
  have f15 : (s.toList == [116, 101, 108, 101, 112, 104, 111, 110, 101, 110, 117, 109, 98, 101, 114]) = false := str_no (by rw [h]; decide)
  have f16 : (s.toList == [116, 105, 116, 108, 101]) = false := str_no (by rw [h]; decide)
  have f17 : (s.toList == [117, 105, 100]) = false := str_no (by rw [h]; decide)
  have f18 : (s.toList == [117, 105, 100, 110, 117, 109, 98, 101, 114]) = false := str_no (by rw [h]; decide)
  have f19 : (s.toList == [117, 115, 101, 114, 112, 97, 115, 115, 119, 111, 114, 100]) = false := str_no (by rw [h]; decide)
  clear h
  go_enter Tryz.func49, Tryz.ntmps49
  go_wp2_with fail
  go_ret
  exact ⟨rfl, rfl⟩
set_option maxRecDepth 20000 in
set_option maxHeartbeats 4000000 in
theorem syn_9 (s : ByteArray) (w : World) (h : s.data.toList = [111, 98, 106, 101, 99, 116, 99, 108, 97, 115, 115]) : Calls Tryz.prog 49 #[.string s] w fun e w' => e = .returned (.int .i64 1) ∧ w = w' := by
  have f0 : (s.toList == [99, 110]) = false := str_no (by rw [h]; decide)
  have f1 : (s.toList == [100, 99]) = false := str_no (by rw [h]; decide)
  have f2 : (s.toList == [100, 101, 115, 99, 114, 105, 112, 116, 105, 111, 110]) = false := str_no (by rw [h]; decide)
  have f3 : (s.toList == [101, 110, 97, 98, 108, 101, 100]) = false := str_no (by rw [h]; decide)
  have f4 : (s.toList == [108]) = false := str_no (by rw [h]; decide)
  have f5 : (s.toList == [108, 105, 109, 105, 116]) = false := str_no (by rw [h]; decide)
  have f6 : (s.toList == [109, 97, 105, 108]) = false := str_no (by rw [h]; decide)
  have f7 : (s.toList == [109, 101, 109, 98, 101, 114]) = false := str_no (by rw [h]; decide)
  have f8 : (s.toList == [111]) = false := str_no (by rw [h]; decide)
  have f9 := str_is h
  have f10 : (s.toList == [111, 117]) = false := str_no (by rw [h]; decide)
  have f11 : (s.toList == [112, 104, 111, 116, 111]) = false := str_no (by rw [h]; decide)
  have f12 : (s.toList == [115, 101, 101, 97, 108, 115, 111]) = false := str_no (by rw [h]; decide)
  have f13 : (s.toList == [115, 101, 114, 105, 97, 108, 110, 117, 109, 98, 101, 114]) = false := str_no (by rw [h]; decide)
  have f14 : (s.toList == [115, 110]) = false := str_no (by rw [h]; decide)
  have f15 : (s.toList == [116, 101, 108, 101, 112, 104, 111, 110, 101, 110, 117, 109, 98, 101, 114]) = false := str_no (by rw [h]; decide)
  have f16 : (s.toList == [116, 105, 116, 108, 101]) = false := str_no (by rw [h]; decide)
  have f17 : (s.toList == [117, 105, 100]) = false := str_no (by rw [h]; decide)
  have f18 : (s.toList == [117, 105, 100, 110, 117, 109, 98, 101, 114]) = false := str_no (by rw [h]; decide)
  have f19 : (s.toList == [117, 115, 101, 114, 112, 97, 115, 115, 119, 111, 114, 100]) = false := str_no (by rw [h]; decide)
  clear h
  go_enter Tryz.func49, Tryz.ntmps49
  go_wp2_with fail
  go_ret
  exact ⟨rfl, rfl⟩
set_option maxRecDepth 20000 in
set_option maxHeartbeats 4000000 in
theorem syn_10 (s : ByteArray) (w : World) (h : s.data.toList = [111, 117]) : Calls Tryz.prog 49 #[.string s] w fun e w' => e = .returned (.int .i64 1) ∧ w = w' := by
  have f0 : (s.toList == [99, 110]) = false := str_no (by rw [h]; decide)
  have f1 : (s.toList == [100, 99]) = false := str_no (by rw [h]; decide)
  have f2 : (s.toList == [100, 101, 115, 99, 114, 105, 112, 116, 105, 111, 110]) = false := str_no (by rw [h]; decide)
  have f3 : (s.toList == [101, 110, 97, 98, 108, 101, 100]) = false := str_no (by rw [h]; decide)
  have f4 : (s.toList == [108]) = false := str_no (by rw [h]; decide)
  have f5 : (s.toList == [108, 105, 109, 105, 116]) = false := str_no (by rw [h]; decide)
  have f6 : (s.toList == [109, 97, 105, 108]) = false := str_no (by rw [h]; decide)
  have f7 : (s.toList == [109, 101, 109, 98, 101, 114]) = false := str_no (by rw [h]; decide)
  have f8 : (s.toList == [111]) = false := str_no (by rw [h]; decide)
  have f9 : (s.toList == [111, 98, 106, 101, 99, 116, 99, 108, 97, 115, 115]) = false := str_no (by rw [h]; decide)
  have f10 := str_is h
  have f11 : (s.toList == [112, 104, 111, 116, 111]) = false := str_no (by rw [h]; decide)
  have f12 : (s.toList == [115, 101, 101, 97, 108, 115, 111]) = false := str_no (by rw [h]; decide)
  have f13 : (s.toList == [115, 101, 114, 105, 97, 108, 110, 117, 109, 98, 101, 114]) = false := str_no (by rw [h]; decide)
  have f14 : (s.toList == [115, 110]) = false := str_no (by rw [h]; decide)
  have f15 : (s.toList == [116, 101, 108, 101, 112, 104, 111, 110, 101, 110, 117, 109, 98, 101, 114]) = false := str_no (by rw [h]; decide)
  have f16 : (s.toList == [116, 105, 116, 108, 101]) = false := str_no (by rw [h]; decide)
  have f17 : (s.toList == [117, 105, 100]) = false := str_no (by rw [h]; decide)
  have f18 : (s.toList == [117, 105, 100, 110, 117, 109, 98, 101, 114]) = false := str_no (by rw [h]; decide)
  have f19 : (s.toList == [117, 115, 101, 114, 112, 97, 115, 115, 119, 111, 114, 100]) = false := str_no (by rw [h]; decide)
  clear h
  go_enter Tryz.func49, Tryz.ntmps49
  go_wp2_with fail
  go_ret
  exact ⟨rfl, rfl⟩
set_option maxRecDepth 20000 in
set_option maxHeartbeats 4000000 in
theorem syn_11 (s : ByteArray) (w : World) (h : s.data.toList = [112, 104, 111, 116, 111]) : Calls Tryz.prog 49 #[.string s] w fun e w' => e = .returned (.int .i64 3) ∧ w = w' := by
  have f0 : (s.toList == [99, 110]) = false := str_no (by rw [h]; decide)
  have f1 : (s.toList == [100, 99]) = false := str_no (by rw [h]; decide)
  have f2 : (s.toList == [100, 101, 115, 99, 114, 105, 112, 116, 105, 111, 110]) = false := str_no (by rw [h]; decide)
  have f3 : (s.toList == [101, 110, 97, 98, 108, 101, 100]) = false := str_no (by rw [h]; decide)
  have f4 : (s.toList == [108]) = false := str_no (by rw [h]; decide)
  have f5 : (s.toList == [108, 105, 109, 105, 116]) = false := str_no (by rw [h]; decide)
  have f6 : (s.toList == [109, 97, 105, 108]) = false := str_no (by rw [h]; decide)
  have f7 : (s.toList == [109, 101, 109, 98, 101, 114]) = false := str_no (by rw [h]; decide)
  have f8 : (s.toList == [111]) = false := str_no (by rw [h]; decide)
  have f9 : (s.toList == [111, 98, 106, 101, 99, 116, 99, 108, 97, 115, 115]) = false := str_no (by rw [h]; decide)
  have f10 : (s.toList == [111, 117]) = false := str_no (by rw [h]; decide)
  have f11 := str_is h
  have f12 : (s.toList == [115, 101, 101, 97, 108, 115, 111]) = false := str_no (by rw [h]; decide)
  have f13 : (s.toList == [115, 101, 114, 105, 97, 108, 110, 117, 109, 98, 101, 114]) = false := str_no (by rw [h]; decide)
  have f14 : (s.toList == [115, 110]) = false := str_no (by rw [h]; decide)
  have f15 : (s.toList == [116, 101, 108, 101, 112, 104, 111, 110, 101, 110, 117, 109, 98, 101, 114]) = false := str_no (by rw [h]; decide)
  have f16 : (s.toList == [116, 105, 116, 108, 101]) = false := str_no (by rw [h]; decide)
  have f17 : (s.toList == [117, 105, 100]) = false := str_no (by rw [h]; decide)
  have f18 : (s.toList == [117, 105, 100, 110, 117, 109, 98, 101, 114]) = false := str_no (by rw [h]; decide)
  have f19 : (s.toList == [117, 115, 101, 114, 112, 97, 115, 115, 119, 111, 114, 100]) = false := str_no (by rw [h]; decide)
  clear h
  go_enter Tryz.func49, Tryz.ntmps49
  go_wp2_with fail
  go_ret
  exact ⟨rfl, rfl⟩
set_option maxRecDepth 20000 in
set_option maxHeartbeats 4000000 in
theorem syn_12 (s : ByteArray) (w : World) (h : s.data.toList = [115, 101, 101, 97, 108, 115, 111]) : Calls Tryz.prog 49 #[.string s] w fun e w' => e = .returned (.int .i64 6) ∧ w = w' := by
  have f0 : (s.toList == [99, 110]) = false := str_no (by rw [h]; decide)
  have f1 : (s.toList == [100, 99]) = false := str_no (by rw [h]; decide)
  have f2 : (s.toList == [100, 101, 115, 99, 114, 105, 112, 116, 105, 111, 110]) = false := str_no (by rw [h]; decide)
  have f3 : (s.toList == [101, 110, 97, 98, 108, 101, 100]) = false := str_no (by rw [h]; decide)
  have f4 : (s.toList == [108]) = false := str_no (by rw [h]; decide)
  have f5 : (s.toList == [108, 105, 109, 105, 116]) = false := str_no (by rw [h]; decide)
  have f6 : (s.toList == [109, 97, 105, 108]) = false := str_no (by rw [h]; decide)
  have f7 : (s.toList == [109, 101, 109, 98, 101, 114]) = false := str_no (by rw [h]; decide)
  have f8 : (s.toList == [111]) = false := str_no (by rw [h]; decide)
  have f9 : (s.toList == [111, 98, 106, 101, 99, 116, 99, 108, 97, 115, 115]) = false := str_no (by rw [h]; decide)
  have f10 : (s.toList == [111, 117]) = false := str_no (by rw [h]; decide)
  have f11 : (s.toList == [112, 104, 111, 116, 111]) = false := str_no (by rw [h]; decide)
  have f12 := str_is h
  have f13 : (s.toList == [115, 101, 114, 105, 97, 108, 110, 117, 109, 98, 101, 114]) = false := str_no (by rw [h]; decide)
  have f14 : (s.toList == [115, 110]) = false := str_no (by rw [h]; decide)
  have f15 : (s.toList == [116, 101, 108, 101, 112, 104, 111, 110, 101, 110, 117, 109, 98, 101, 114]) = false := str_no (by rw [h]; decide)
  have f16 : (s.toList == [116, 105, 116, 108, 101]) = false := str_no (by rw [h]; decide)
  have f17 : (s.toList == [117, 105, 100]) = false := str_no (by rw [h]; decide)
  have f18 : (s.toList == [117, 105, 100, 110, 117, 109, 98, 101, 114]) = false := str_no (by rw [h]; decide)
  have f19 : (s.toList == [117, 115, 101, 114, 112, 97, 115, 115, 119, 111, 114, 100]) = false := str_no (by rw [h]; decide)
  clear h
  go_enter Tryz.func49, Tryz.ntmps49
  go_wp2_with fail
  go_ret
  exact ⟨rfl, rfl⟩
set_option maxRecDepth 20000 in
set_option maxHeartbeats 4000000 in
theorem syn_13 (s : ByteArray) (w : World) (h : s.data.toList = [115, 101, 114, 105, 97, 108, 110, 117, 109, 98, 101, 114]) : Calls Tryz.prog 49 #[.string s] w fun e w' => e = .returned (.int .i64 2) ∧ w = w' := by
  have f0 : (s.toList == [99, 110]) = false := str_no (by rw [h]; decide)
  have f1 : (s.toList == [100, 99]) = false := str_no (by rw [h]; decide)
  have f2 : (s.toList == [100, 101, 115, 99, 114, 105, 112, 116, 105, 111, 110]) = false := str_no (by rw [h]; decide)
  have f3 : (s.toList == [101, 110, 97, 98, 108, 101, 100]) = false := str_no (by rw [h]; decide)
  have f4 : (s.toList == [108]) = false := str_no (by rw [h]; decide)
  have f5 : (s.toList == [108, 105, 109, 105, 116]) = false := str_no (by rw [h]; decide)
  have f6 : (s.toList == [109, 97, 105, 108]) = false := str_no (by rw [h]; decide)
  have f7 : (s.toList == [109, 101, 109, 98, 101, 114]) = false := str_no (by rw [h]; decide)
  have f8 : (s.toList == [111]) = false := str_no (by rw [h]; decide)
  have f9 : (s.toList == [111, 98, 106, 101, 99, 116, 99, 108, 97, 115, 115]) = false := str_no (by rw [h]; decide)
  have f10 : (s.toList == [111, 117]) = false := str_no (by rw [h]; decide)
  have f11 : (s.toList == [112, 104, 111, 116, 111]) = false := str_no (by rw [h]; decide)
  have f12 : (s.toList == [115, 101, 101, 97, 108, 115, 111]) = false := str_no (by rw [h]; decide)
  have f13 := str_is h
  have f14 : (s.toList == [115, 110]) = false := str_no (by rw [h]; decide)
  have f15 : (s.toList == [116, 101, 108, 101, 112, 104, 111, 110, 101, 110, 117, 109, 98, 101, 114]) = false := str_no (by rw [h]; decide)
  have f16 : (s.toList == [116, 105, 116, 108, 101]) = false := str_no (by rw [h]; decide)
  have f17 : (s.toList == [117, 105, 100]) = false := str_no (by rw [h]; decide)
  have f18 : (s.toList == [117, 105, 100, 110, 117, 109, 98, 101, 114]) = false := str_no (by rw [h]; decide)
  have f19 : (s.toList == [117, 115, 101, 114, 112, 97, 115, 115, 119, 111, 114, 100]) = false := str_no (by rw [h]; decide)
  clear h
  go_enter Tryz.func49, Tryz.ntmps49
  go_wp2_with fail
  go_ret
  exact ⟨rfl, rfl⟩
set_option maxRecDepth 20000 in
set_option maxHeartbeats 4000000 in
theorem syn_14 (s : ByteArray) (w : World) (h : s.data.toList = [115, 110]) : Calls Tryz.prog 49 #[.string s] w fun e w' => e = .returned (.int .i64 1) ∧ w = w' := by
  have f0 : (s.toList == [99, 110]) = false := str_no (by rw [h]; decide)
  have f1 : (s.toList == [100, 99]) = false := str_no (by rw [h]; decide)
  have f2 : (s.toList == [100, 101, 115, 99, 114, 105, 112, 116, 105, 111, 110]) = false := str_no (by rw [h]; decide)
  have f3 : (s.toList == [101, 110, 97, 98, 108, 101, 100]) = false := str_no (by rw [h]; decide)
  have f4 : (s.toList == [108]) = false := str_no (by rw [h]; decide)
  have f5 : (s.toList == [108, 105, 109, 105, 116]) = false := str_no (by rw [h]; decide)
  have f6 : (s.toList == [109, 97, 105, 108]) = false := str_no (by rw [h]; decide)
  have f7 : (s.toList == [109, 101, 109, 98, 101, 114]) = false := str_no (by rw [h]; decide)
  have f8 : (s.toList == [111]) = false := str_no (by rw [h]; decide)
  have f9 : (s.toList == [111, 98, 106, 101, 99, 116, 99, 108, 97, 115, 115]) = false := str_no (by rw [h]; decide)
  have f10 : (s.toList == [111, 117]) = false := str_no (by rw [h]; decide)
  have f11 : (s.toList == [112, 104, 111, 116, 111]) = false := str_no (by rw [h]; decide)
  have f12 : (s.toList == [115, 101, 101, 97, 108, 115, 111]) = false := str_no (by rw [h]; decide)
  have f13 : (s.toList == [115, 101, 114, 105, 97, 108, 110, 117, 109, 98, 101, 114]) = false := str_no (by rw [h]; decide)
  have f14 := str_is h
  have f15 : (s.toList == [116, 101, 108, 101, 112, 104, 111, 110, 101, 110, 117, 109, 98, 101, 114]) = false := str_no (by rw [h]; decide)
  have f16 : (s.toList == [116, 105, 116, 108, 101]) = false := str_no (by rw [h]; decide)
  have f17 : (s.toList == [117, 105, 100]) = false := str_no (by rw [h]; decide)
  have f18 : (s.toList == [117, 105, 100, 110, 117, 109, 98, 101, 114]) = false := str_no (by rw [h]; decide)
  have f19 : (s.toList == [117, 115, 101, 114, 112, 97, 115, 115, 119, 111, 114, 100]) = false := str_no (by rw [h]; decide)
  clear h
  go_enter Tryz.func49, Tryz.ntmps49
  go_wp2_with fail
  go_ret
  exact ⟨rfl, rfl⟩
set_option maxRecDepth 20000 in
set_option maxHeartbeats 4000000 in
theorem syn_15 (s : ByteArray) (w : World) (h : s.data.toList = [116, 101, 108, 101, 112, 104, 111, 110, 101, 110, 117, 109, 98, 101, 114]) : Calls Tryz.prog 49 #[.string s] w fun e w' => e = .returned (.int .i64 7) ∧ w = w' := by
  have f0 : (s.toList == [99, 110]) = false := str_no (by rw [h]; decide)
  have f1 : (s.toList == [100, 99]) = false := str_no (by rw [h]; decide)
  have f2 : (s.toList == [100, 101, 115, 99, 114, 105, 112, 116, 105, 111, 110]) = false := str_no (by rw [h]; decide)
  have f3 : (s.toList == [101, 110, 97, 98, 108, 101, 100]) = false := str_no (by rw [h]; decide)
  have f4 : (s.toList == [108]) = false := str_no (by rw [h]; decide)
  have f5 : (s.toList == [108, 105, 109, 105, 116]) = false := str_no (by rw [h]; decide)
  have f6 : (s.toList == [109, 97, 105, 108]) = false := str_no (by rw [h]; decide)
  have f7 : (s.toList == [109, 101, 109, 98, 101, 114]) = false := str_no (by rw [h]; decide)
  have f8 : (s.toList == [111]) = false := str_no (by rw [h]; decide)
  have f9 : (s.toList == [111, 98, 106, 101, 99, 116, 99, 108, 97, 115, 115]) = false := str_no (by rw [h]; decide)
  have f10 : (s.toList == [111, 117]) = false := str_no (by rw [h]; decide)
  have f11 : (s.toList == [112, 104, 111, 116, 111]) = false := str_no (by rw [h]; decide)
  have f12 : (s.toList == [115, 101, 101, 97, 108, 115, 111]) = false := str_no (by rw [h]; decide)
  have f13 : (s.toList == [115, 101, 114, 105, 97, 108, 110, 117, 109, 98, 101, 114]) = false := str_no (by rw [h]; decide)
  have f14 : (s.toList == [115, 110]) = false := str_no (by rw [h]; decide)
  have f15 := str_is h
  have f16 : (s.toList == [116, 105, 116, 108, 101]) = false := str_no (by rw [h]; decide)
  have f17 : (s.toList == [117, 105, 100]) = false := str_no (by rw [h]; decide)
  have f18 : (s.toList == [117, 105, 100, 110, 117, 109, 98, 101, 114]) = false := str_no (by rw [h]; decide)
  have f19 : (s.toList == [117, 115, 101, 114, 112, 97, 115, 115, 119, 111, 114, 100]) = false := str_no (by rw [h]; decide)
  clear h
  go_enter Tryz.func49, Tryz.ntmps49
  go_wp2_with fail
  go_ret
  exact ⟨rfl, rfl⟩
set_option maxRecDepth 20000 in
set_option maxHeartbeats 4000000 in
theorem syn_16 (s : ByteArray) (w : World) (h : s.data.toList = [116, 105, 116, 108, 101]) : Calls Tryz.prog 49 #[.string s] w fun e w' => e = .returned (.int .i64 1) ∧ w = w' := by
  have f0 : (s.toList == [99, 110]) = false := str_no (by rw [h]; decide)
  have f1 : (s.toList == [100, 99]) = false := str_no (by rw [h]; decide)
  have f2 : (s.toList == [100, 101, 115, 99, 114, 105, 112, 116, 105, 111, 110]) = false := str_no (by rw [h]; decide)
  have f3 : (s.toList == [101, 110, 97, 98, 108, 101, 100]) = false := str_no (by rw [h]; decide)
  have f4 : (s.toList == [108]) = false := str_no (by rw [h]; decide)
  have f5 : (s.toList == [108, 105, 109, 105, 116]) = false := str_no (by rw [h]; decide)
  have f6 : (s.toList == [109, 97, 105, 108]) = false := str_no (by rw [h]; decide)
  have f7 : (s.toList == [109, 101, 109, 98, 101, 114]) = false := str_no (by rw [h]; decide)
  have f8 : (s.toList == [111]) = false := str_no (by rw [h]; decide)
  have f9 : (s.toList == [111, 98, 106, 101, 99, 116, 99, 108, 97, 115, 115]) = false := str_no (by rw [h]; decide)
  have f10 : (s.toList == [111, 117]) = false := str_no (by rw [h]; decide)
  have f11 : (s.toList == [112, 104, 111, 116, 111]) = false := str_no (by rw [h]; decide)
  have f12 : (s.toList == [115, 101, 101, 97, 108, 115, 111]) = false := str_no (by rw [h]; decide)
  have f13 : (s.toList == [115, 101, 114, 105, 97, 108, 110, 117, 109, 98, 101, 114]) = false := str_no (by rw [h]; decide)
  have f14 : (s.toList == [115, 110]) = false := str_no (by rw [h]; decide)
  have f15 : (s.toList == [116, 101, 108, 101, 112, 104, 111, 110, 101, 110, 117, 109, 98, 101, 114]) = false := str_no (by rw [h]; decide)
  have f16 := str_is h
  have f17 : (s.toList == [117, 105, 100]) = false := str_no (by rw [h]; decide)
  have f18 : (s.toList == [117, 105, 100, 110, 117, 109, 98, 101, 114]) = false := str_no (by rw [h]; decide)
  have f19 : (s.toList == [117, 115, 101, 114, 112, 97, 115, 115, 119, 111, 114, 100]) = false := str_no (by rw [h]; decide)
  clear h
  go_enter Tryz.func49, Tryz.ntmps49
  go_wp2_with fail
  go_ret
  exact ⟨rfl, rfl⟩
set_option maxRecDepth 20000 in
set_option maxHeartbeats 4000000 in
theorem syn_17 (s : ByteArray) (w : World) (h : s.data.toList = [117, 105, 100]) : Calls Tryz.prog 49 #[.string s] w fun e w' => e = .returned (.int .i64 1) ∧ w = w' := by
  have f0 : (s.toList == [99, 110]) = false := str_no (by rw [h]; decide)
  have f1 : (s.toList == [100, 99]) = false := str_no (by rw [h]; decide)
  have f2 : (s.toList == [100, 101, 115, 99, 114, 105, 112, 116, 105, 111, 110]) = false := str_no (by rw [h]; decide)
  have f3 : (s.toList == [101, 110, 97, 98, 108, 101, 100]) = false := str_no (by rw [h]; decide)
  have f4 : (s.toList == [108]) = false := str_no (by rw [h]; decide)
  have f5 : (s.toList == [108, 105, 109, 105, 116]) = false := str_no (by rw [h]; decide)
  have f6 : (s.toList == [109, 97, 105, 108]) = false := str_no (by rw [h]; decide)
  have f7 : (s.toList == [109, 101, 109, 98, 101, 114]) = false := str_no (by rw [h]; decide)
  have f8 : (s.toList == [111]) = false := str_no (by rw [h]; decide)
  have f9 : (s.toList == [111, 98, 106, 101, 99, 116, 99, 108, 97, 115, 115]) = false := str_no (by rw [h]; decide)
  have f10 : (s.toList == [111, 117]) = false := str_no (by rw [h]; decide)
  have f11 : (s.toList == [112, 104, 111, 116, 111]) = false := str_no (by rw [h]; decide)
  have f12 : (s.toList == [115, 101, 101, 97, 108, 115, 111]) = false := str_no (by rw [h]; decide)
  have f13 : (s.toList == [115, 101, 114, 105, 97, 108, 110, 117, 109, 98, 101, 114]) = false := str_no (by rw [h]; decide)
  have f14 : (s.toList == [115, 110]) = false := str_no (by rw [h]; decide)
  have f15 : (s.toList == [116, 101, 108, 101, 112, 104, 111, 110, 101, 110, 117, 109, 98, 101, 114]) = false := str_no (by rw [h]; decide)
  have f16 : (s.toList == [116, 105, 116, 108, 101]) = false := str_no (by rw [h]; decide)
  have f17 := str_is h
  have f18 : (s.toList == [117, 105, 100, 110, 117, 109, 98, 101, 114]) = false := str_no (by rw [h]; decide)
  have f19 : (s.toList == [117, 115, 101, 114, 112, 97, 115, 115, 119, 111, 114, 100]) = false := str_no (by rw [h]; decide)
  clear h
  go_enter Tryz.func49, Tryz.ntmps49
  go_wp2_with fail
  go_ret
  exact ⟨rfl, rfl⟩
set_option maxRecDepth 20000 in
set_option maxHeartbeats 4000000 in
theorem syn_18 (s : ByteArray) (w : World) (h : s.data.toList = [117, 105, 100, 110, 117, 109, 98, 101, 114]) : Calls Tryz.prog 49 #[.string s] w fun e w' => e = .returned (.int .i64 4) ∧ w = w' := by
  have f0 : (s.toList == [99, 110]) = false := str_no (by rw [h]; decide)
  have f1 : (s.toList == [100, 99]) = false := str_no (by rw [h]; decide)
  have f2 : (s.toList == [100, 101, 115, 99, 114, 105, 112, 116, 105, 111, 110]) = false := str_no (by rw [h]; decide)
  have f3 : (s.toList == [101, 110, 97, 98, 108, 101, 100]) = false := str_no (by rw [h]; decide)
  have f4 : (s.toList == [108]) = false := str_no (by rw [h]; decide)
  have f5 : (s.toList == [108, 105, 109, 105, 116]) = false := str_no (by rw [h]; decide)
  have f6 : (s.toList == [109, 97, 105, 108]) = false := str_no (by rw [h]; decide)
  have f7 : (s.toList == [109, 101, 109, 98, 101, 114]) = false := str_no (by rw [h]; decide)
  have f8 : (s.toList == [111]) = false := str_no (by rw [h]; decide)
  have f9 : (s.toList == [111, 98, 106, 101, 99, 116, 99, 108, 97, 115, 115]) = false := str_no (by rw [h]; decide)
  have f10 : (s.toList == [111, 117]) = false := str_no (by rw [h]; decide)
  have f11 : (s.toList == [112, 104, 111, 116, 111]) = false := str_no (by rw [h]; decide)
  have f12 : (s.toList == [115, 101, 101, 97, 108, 115, 111]) = false := str_no (by rw [h]; decide)
  have f13 : (s.toList == [115, 101, 114, 105, 97, 108, 110, 117, 109, 98, 101, 114]) = false := str_no (by rw [h]; decide)
  have f14 : (s.toList == [115, 110]) = false := str_no (by rw [h]; decide)
  have f15 : (s.toList == [116, 101, 108, 101, 112, 104, 111, 110, 101, 110, 117, 109, 98, 101, 114]) = false := str_no (by rw [h]; decide)
  have f16 : (s.toList == [116, 105, 116, 108, 101]) = false := str_no (by rw [h]; decide)
  have f17 : (s.toList == [117, 105, 100]) = false := str_no (by rw [h]; decide)
  have f18 := str_is h
  have f19 : (s.toList == [117, 115, 101, 114, 112, 97, 115, 115, 119, 111, 114, 100]) = false := str_no (by rw [h]; decide)
  clear h
  go_enter Tryz.func49, Tryz.ntmps49
  go_wp2_with fail
  go_ret
  exact ⟨rfl, rfl⟩
set_option maxRecDepth 20000 in
set_option maxHeartbeats 4000000 in
theorem syn_19 (s : ByteArray) (w : World) (h : s.data.toList = [117, 115, 101, 114, 112, 97, 115, 115, 119, 111, 114, 100]) : Calls Tryz.prog 49 #[.string s] w fun e w' => e = .returned (.int .i64 3) ∧ w = w' := by
  have f0 : (s.toList == [99, 110]) = false := str_no (by rw [h]; decide)
  have f1 : (s.toList == [100, 99]) = false := str_no (by rw [h]; decide)
  have f2 : (s.toList == [100, 101, 115, 99, 114, 105, 112, 116, 105, 111, 110]) = false := str_no (by rw [h]; decide)
  have f3 : (s.toList == [101, 110, 97, 98, 108, 101, 100]) = false := str_no (by rw [h]; decide)
  have f4 : (s.toList == [108]) = false := str_no (by rw [h]; decide)
  have f5 : (s.toList == [108, 105, 109, 105, 116]) = false := str_no (by rw [h]; decide)
  have f6 : (s.toList == [109, 97, 105, 108]) = false := str_no (by rw [h]; decide)
  have f7 : (s.toList == [109, 101, 109, 98, 101, 114]) = false := str_no (by rw [h]; decide)
  have f8 : (s.toList == [111]) = false := str_no (by rw [h]; decide)
  have f9 : (s.toList == [111, 98, 106, 101, 99, 116, 99, 108, 97, 115, 115]) = false := str_no (by rw [h]; decide)
  have f10 : (s.toList == [111, 117]) = false := str_no (by rw [h]; decide)
  have f11 : (s.toList == [112, 104, 111, 116, 111]) = false := str_no (by rw [h]; decide)
  have f12 : (s.toList == [115, 101, 101, 97, 108, 115, 111]) = false := str_no (by rw [h]; decide)
  have f13 : (s.toList == [115, 101, 114, 105, 97, 108, 110, 117, 109, 98, 101, 114]) = false := str_no (by rw [h]; decide)
  have f14 : (s.toList == [115, 110]) = false := str_no (by rw [h]; decide)
  have f15 : (s.toList == [116, 101, 108, 101, 112, 104, 111, 110, 101, 110, 117, 109, 98, 101, 114]) = false := str_no (by rw [h]; decide)
  have f16 : (s.toList == [116, 105, 116, 108, 101]) = false := str_no (by rw [h]; decide)
  have f17 : (s.toList == [117, 105, 100]) = false := str_no (by rw [h]; decide)
  have f18 : (s.toList == [117, 105, 100, 110, 117, 109, 98, 101, 114]) = false := str_no (by rw [h]; decide)
  have f19 := str_is h
  clear h
  go_enter Tryz.func49, Tryz.ntmps49
  go_wp2_with fail
  go_ret
  exact ⟨rfl, rfl⟩
set_option maxRecDepth 20000 in
set_option maxHeartbeats 4000000 in
theorem syn_none (s : ByteArray) (w : World) (h : ∀ t ∈ tys, t.name ≠ s.data.toList) : Calls Tryz.prog 49 #[.string s] w fun e w' => e = .returned (.int .i64 0) ∧ w = w' := by
  have f0 : (s.toList == [99, 110]) = false := str_no (fun e => h (tys[0]'(by decide)) (List.getElem_mem _) e.symm)
  have f1 : (s.toList == [100, 99]) = false := str_no (fun e => h (tys[1]'(by decide)) (List.getElem_mem _) e.symm)
  have f2 : (s.toList == [100, 101, 115, 99, 114, 105, 112, 116, 105, 111, 110]) = false := str_no (fun e => h (tys[2]'(by decide)) (List.getElem_mem _) e.symm)
  have f3 : (s.toList == [101, 110, 97, 98, 108, 101, 100]) = false := str_no (fun e => h (tys[3]'(by decide)) (List.getElem_mem _) e.symm)
  have f4 : (s.toList == [108]) = false := str_no (fun e => h (tys[4]'(by decide)) (List.getElem_mem _) e.symm)
  have f5 : (s.toList == [108, 105, 109, 105, 116]) = false := str_no (fun e => h (tys[5]'(by decide)) (List.getElem_mem _) e.symm)
  have f6 : (s.toList == [109, 97, 105, 108]) = false := str_no (fun e => h (tys[6]'(by decide)) (List.getElem_mem _) e.symm)
  have f7 : (s.toList == [109, 101, 109, 98, 101, 114]) = false := str_no (fun e => h (tys[7]'(by decide)) (List.getElem_mem _) e.symm)
  have f8 : (s.toList == [111]) = false := str_no (fun e => h (tys[8]'(by decide)) (List.getElem_mem _) e.symm)
  have f9 : (s.toList == [111, 98, 106, 101, 99, 116, 99, 108, 97, 115, 115]) = false := str_no (fun e => h (tys[9]'(by decide)) (List.getElem_mem _) e.symm)
  have f10 : (s.toList == [111, 117]) = false := str_no (fun e => h (tys[10]'(by decide)) (List.getElem_mem _) e.symm)
  have f11 : (s.toList == [112, 104, 111, 116, 111]) = false := str_no (fun e => h (tys[11]'(by decide)) (List.getElem_mem _) e.symm)
  have f12 : (s.toList == [115, 101, 101, 97, 108, 115, 111]) = false := str_no (fun e => h (tys[12]'(by decide)) (List.getElem_mem _) e.symm)
  have f13 : (s.toList == [115, 101, 114, 105, 97, 108, 110, 117, 109, 98, 101, 114]) = false := str_no (fun e => h (tys[13]'(by decide)) (List.getElem_mem _) e.symm)
  have f14 : (s.toList == [115, 110]) = false := str_no (fun e => h (tys[14]'(by decide)) (List.getElem_mem _) e.symm)
  have f15 : (s.toList == [116, 101, 108, 101, 112, 104, 111, 110, 101, 110, 117, 109, 98, 101, 114]) = false := str_no (fun e => h (tys[15]'(by decide)) (List.getElem_mem _) e.symm)
  have f16 : (s.toList == [116, 105, 116, 108, 101]) = false := str_no (fun e => h (tys[16]'(by decide)) (List.getElem_mem _) e.symm)
  have f17 : (s.toList == [117, 105, 100]) = false := str_no (fun e => h (tys[17]'(by decide)) (List.getElem_mem _) e.symm)
  have f18 : (s.toList == [117, 105, 100, 110, 117, 109, 98, 101, 114]) = false := str_no (fun e => h (tys[18]'(by decide)) (List.getElem_mem _) e.symm)
  have f19 : (s.toList == [117, 115, 101, 114, 112, 97, 115, 115, 119, 111, 114, 100]) = false := str_no (fun e => h (tys[19]'(by decide)) (List.getElem_mem _) e.symm)
  clear h
  go_enter Tryz.func49, Tryz.ntmps49
  go_wp2_with fail
  go_ret
  exact ⟨rfl, rfl⟩
theorem syntax_any (s : ByteArray) (w : World) : Calls Tryz.prog 49 #[.string s] w fun e w' => e = .returned (.int .i64 (synL s.data.toList)) ∧ w = w' := by
  unfold synL
  cases hf : findS s.data.toList with
  | none => exact syn_none s w (findS_none hf)
  | some t =>
    obtain ⟨ht, hn⟩ := findS_some hf
    obtain ⟨i, hi, rfl⟩ := List.mem_iff_getElem.1 ht
    clear hf ht
    match i, hi, hn with
    | 0, _, hn => exact syn_0 s w hn.symm
    | 1, _, hn => exact syn_1 s w hn.symm
    | 2, _, hn => exact syn_2 s w hn.symm
    | 3, _, hn => exact syn_3 s w hn.symm
    | 4, _, hn => exact syn_4 s w hn.symm
    | 5, _, hn => exact syn_5 s w hn.symm
    | 6, _, hn => exact syn_6 s w hn.symm
    | 7, _, hn => exact syn_7 s w hn.symm
    | 8, _, hn => exact syn_8 s w hn.symm
    | 9, _, hn => exact syn_9 s w hn.symm
    | 10, _, hn => exact syn_10 s w hn.symm
    | 11, _, hn => exact syn_11 s w hn.symm
    | 12, _, hn => exact syn_12 s w hn.symm
    | 13, _, hn => exact syn_13 s w hn.symm
    | 14, _, hn => exact syn_14 s w hn.symm
    | 15, _, hn => exact syn_15 s w hn.symm
    | 16, _, hn => exact syn_16 s w hn.symm
    | 17, _, hn => exact syn_17 s w hn.symm
    | 18, _, hn => exact syn_18 s w hn.symm
    | 19, _, hn => exact syn_19 s w hn.symm
    | n + 20, h, _ => exact absurd h (by rw [tys_len]; omega)
theorem single_eq (n : List UInt8) (t : Ty) (h : findS n = some t) : t.single = (decide (n = [117, 105, 100, 110, 117, 109, 98, 101, 114]) || decide (n = [101, 110, 97, 98, 108, 101, 100])) := by
  obtain ⟨ht, rfl⟩ := findS_some h
  have all : ∀ t ∈ tys, t.single = (decide (t.name = [117, 105, 100, 110, 117, 109, 98, 101, 114]) || decide (t.name = [101, 110, 97, 98, 108, 101, 100])) := by decide
  exact all t ht
theorem syn_pos (t : Ty) (h : t ∈ tys) : 1 ≤ t.syn ∧ t.syn ≤ 7 := by
  have all : ∀ t ∈ tys, 1 ≤ t.syn ∧ t.syn ≤ 7 := by decide
  exact all t h
set_option maxRecDepth 20000 in
set_option maxHeartbeats 4000000 in
theorem rfind_any (s : ByteArray) (w : World) (hs : s.size ≤ 10000000) :
    Calls Tryz.prog 22 #[.string s] w fun e w' => e = .returned (resT (findS (sml.lowL s.data.toList))) ∧ Below w.heap.size w w' := by
  obtain ⟨n, hn⟩ : ∃ n, n = sml.lowL s.data.toList := ⟨_, rfl⟩
  have HL : Hid (∀ w, Calls Tryz.prog 48 #[.string s] w fun e w' => e = .returned (.string (bs n)) ∧ Below w.heap.size w w') := fun w => by rw [hn]; exact sml.small_any s w hs
  rw [← hn]
  clear hn
  have HPC0 := Lib.hid (ac_new w ByteArray.empty 0 false)
  have HSY : Hid (∀ w, Calls Tryz.prog 49 #[.string (bs n)] w fun e w' => e = .returned (.int .i64 (synL n)) ∧ w = w') := fun w => syntax_any (bs n) w
  cases hf : findS n with
  | none =>
    have hsy : synL n = 0 := by unfold synL; rw [hf]
    rw [hsy] at HSY
    clear hsy hf
    go_enter Tryz.func22, Tryz.ntmps22
    go_wp2_with fail
    refine (HL.out _).mono ?_
    rintro e w1 ⟨rfl, hB1⟩
    have HPC1 := Lib.hid (ac_below HPC0.out hB1)
    have HB1 : Hid (Below w.heap.size w w1) := ((Below.refl _ w).alloc (Nat.le_refl _) _).trans (hB1.mono (by simp))
    clear hB1
    obtain ⟨⟨x0, c0⟩, ⟨y0, c1⟩, ⟨z0, c2⟩, f0, f1, f2⟩ := ac_cells HPC1.out
    obtain ⟨e0, e1, e2⟩ := ac_store HPC1.out (.string ⟨#[]⟩) (.int .i64 0) (.bool false)
    go_wp2_with fail
    refine (HSY.out _).mono ?_
    rintro e w2 ⟨rfl, rfl⟩
    go_wp2_with fail
    (try simp only [Exit.inBlock, Exit.then])
    refine bodyPost_ret (v := .tuple #[.agg #[.string ⟨#[]⟩, .int .i64 0, .bool false], .bool false]) (by rw [results_cell_tmp rfl]; go_simp) rfl ?_
    exact ⟨rfl, below_put3 HB1.out (Nat.le_refl _) _ _ _⟩
  | some t =>
    have hsy : synL n = t.syn := by unfold synL; rw [hf]
    rw [hsy] at HSY
    have hsg := single_eq n t hf
    obtain ⟨ht, hname⟩ := findS_some hf
    have hp := syn_pos t ht
    have q0 : (t.syn == 0) = false := by rw [beq_eq_false_iff_ne]; omega
    have g1 : ((bs n).toList == [117, 105, 100, 110, 117, 109, 98, 101, 114]) = decide (n = [117, 105, 100, 110, 117, 109, 98, 101, 114]) := bs_lit n _
    have g2 : ((bs n).toList == [101, 110, 97, 98, 108, 101, 100]) = decide (n = [101, 110, 97, 98, 108, 101, 100]) := bs_lit n _
    rw [← g1, ← g2] at hsg
    have hpart : ((bs n).toList == [117, 105, 100, 110, 117, 109, 98, 101, 114]) = true ∨ ((bs n).toList == [117, 105, 100, 110, 117, 109, 98, 101, 114]) = false := by cases ((bs n).toList == [117, 105, 100, 110, 117, 109, 98, 101, 114]) <;> simp
    subst hname
    obtain ⟨sg, hsg2⟩ : ∃ sg, t.single = sg := ⟨_, rfl⟩
    obtain ⟨sy, hsy2⟩ : ∃ sg, t.syn = sg := ⟨_, rfl⟩
    have HRES : Hid (resT (some t) = .tuple #[.agg #[.string (bs t.name), .int .i64 sy, .bool sg], .bool true]) := by rw [← hsg2, ← hsy2]; exact rfl
    rw [hsg2] at hsg
    rw [hsy2] at HSY q0
    clear hsy hf g1 g2 ht hp hsg2 hsy2
    rcases hpart with p1 | p1
    · rw [p1] at hsg
      simp only [Bool.true_or] at hsg
      subst hsg
      go_enter Tryz.func22, Tryz.ntmps22
      go_wp2_with fail
      refine (HL.out _).mono ?_
      rintro e w1 ⟨rfl, hB1⟩
      have HPC1 := Lib.hid (ac_below HPC0.out hB1)
      have HB1 : Hid (Below w.heap.size w w1) := ((Below.refl _ w).alloc (Nat.le_refl _) _).trans (hB1.mono (by simp))
      clear hB1
      obtain ⟨⟨x0, c0⟩, ⟨y0, c1⟩, ⟨z0, c2⟩, f0, f1, f2⟩ := ac_cells HPC1.out
      go_wp2_with fail
      refine (HSY.out _).mono ?_
      rintro e w2 ⟨rfl, rfl⟩
      obtain ⟨e0, e1, e2⟩ := ac_store HPC1.out (.string (bs t.name)) (.int .i64 sy) (.bool true)
      go_wp2_with fail
      (try simp only [Exit.inBlock, Exit.then])
      refine bodyPost_ret (v := .tuple #[.agg #[.string (bs t.name), .int .i64 sy, .bool true], .bool true]) (by rw [results_cell_tmp rfl]; go_simp) rfl ?_
      exact ⟨by rw [HRES.out], below_put3 HB1.out (Nat.le_refl _) _ _ _⟩
    · rw [p1] at hsg
      simp only [Bool.false_or] at hsg
      have p2 := hsg.symm
      clear hsg
      go_enter Tryz.func22, Tryz.ntmps22
      go_wp2_with fail
      refine (HL.out _).mono ?_
      rintro e w1 ⟨rfl, hB1⟩
      have HPC1 := Lib.hid (ac_below HPC0.out hB1)
      have HB1 : Hid (Below w.heap.size w w1) := ((Below.refl _ w).alloc (Nat.le_refl _) _).trans (hB1.mono (by simp))
      clear hB1
      obtain ⟨⟨x0, c0⟩, ⟨y0, c1⟩, ⟨z0, c2⟩, f0, f1, f2⟩ := ac_cells HPC1.out
      go_wp2_with fail
      refine (HSY.out _).mono ?_
      rintro e w2 ⟨rfl, rfl⟩
      obtain ⟨e0, e1, e2⟩ := ac_store HPC1.out (.string (bs t.name)) (.int .i64 sy) (.bool sg)
      go_wp2_with fail
      (try simp only [Exit.inBlock, Exit.then])
      refine bodyPost_ret (v := .tuple #[.agg #[.string (bs t.name), .int .i64 sy, .bool sg], .bool true]) (by rw [results_cell_tmp rfl]; go_simp) rfl ?_
      exact ⟨by rw [HRES.out], below_put3 HB1.out (Nat.le_refl _) _ _ _⟩
end atw
end Go.Proofs.YtckpiaigoeicfaaGreatDoor
/-! LawN -/
namespace Go.Proofs.YtckpiaigoeicfaaGreatDoor
open Go.RowKit
namespace atw
open atp tupw prw
set_option linter.unusedVariables false
set_option linter.unusedSimpArgs false
set_option maxRecDepth 20000 in
set_option maxHeartbeats 4000000 in
theorem normals_law (nm : ByteArray) (syn : Int) (sg : Bool) (s : ByteArray) (w : World) (hs : s.size ≤ 140737488351232) (hE : Hid (prw.Env w)) (hT : Hid (dnw.Tabs w)) (hY : Hid (TyEnv w)) :
    Calls Tryz.prog 6 #[.agg #[.string nm, .int .i64 syn, .bool sg], .string s] w fun e w' => e = .returned (.bool true) ∧ Below w.heap.size w w' := by
  obtain ⟨W0, hW0⟩ : ∃ W, w.alloc (.cells #[.string nm, .int .i64 syn, .bool sg] 23) = W := ⟨_, rfl⟩
  have hB0 : Below w.heap.size w W0 := by rw [← hW0]; exact (Below.refl _ _).alloc (Nat.le_refl _) _
  have HB0 := Lib.hid hB0
  have hw0 : w.heap.size ≤ W0.heap.size := hB0.size
  have HTB0 : Hid (TB W0 w.heap.size nm syn sg) := by rw [← hW0]; exact tb_new w nm syn sg
  have HAW := Lib.hid (awake_any W0 (Lib.hid (prw.env_below hE.out hB0)) (Lib.hid (dnw.tabs_below hT.out hB0)) (Lib.hid (tyEnv_below hY.out hB0)))
  obtain ⟨nl, hnl⟩ : ∃ u, normL syn s.data.toList = u := ⟨_, rfl⟩
  have HN0 : ∀ w, prw.Env w → dnw.Tabs w → Calls Tryz.prog 19 #[.agg #[.string nm, .int .i64 syn, .bool sg], .string s] w fun e w' => e = .returned (normV (normL syn s.data.toList)) ∧ Below w.heap.size w w' := fun w h1 h2 => normal_any nm syn sg s w hs (Lib.hid h1) (Lib.hid h2)
  have HR0 : ∀ w, Calls Tryz.prog 20 #[.agg #[.string nm, .int .i64 syn, .bool sg], .string s] w fun e w' => e = .returned (normV (normL syn s.data.toList)) ∧ Below w.heap.size w w' := fun w => rnormal_any nm syn sg s w hs
  have HC0 : ∀ w, prw.Env w → dnw.Tabs w → Calls Tryz.prog 21 #[.agg #[.string nm, .int .i64 syn, .bool sg], .string s] w fun e w' => e = .returned (.int .i64 (normL syn s.data.toList).2) ∧ Below w.heap.size w w' := fun w h1 h2 => check_any nm syn sg s w hs (Lib.hid h1) (Lib.hid h2)
  rw [hnl] at HN0 HR0 HC0
  obtain ⟨u, er⟩ := nl
  have HN : Hid (∀ w, prw.Env w → dnw.Tabs w → Calls Tryz.prog 19 #[.agg #[.string nm, .int .i64 syn, .bool sg], .string s] w fun e w' => e = .returned (.tuple #[.string (bs u), .int .i64 er]) ∧ Below w.heap.size w w') := HN0
  have HR : Hid (∀ w, Calls Tryz.prog 20 #[.agg #[.string nm, .int .i64 syn, .bool sg], .string s] w fun e w' => e = .returned (.tuple #[.string (bs u), .int .i64 er]) ∧ Below w.heap.size w w') := HR0
  have HC : Hid (∀ w, prw.Env w → dnw.Tabs w → Calls Tryz.prog 21 #[.agg #[.string nm, .int .i64 syn, .bool sg], .string s] w fun e w' => e = .returned (.int .i64 er) ∧ Below w.heap.size w w') := HC0
  clear HN0 HR0 HC0 hnl hB0
  have qb : ((bs u).toList == (bs u).toList) = true := by simp
  have qe : (er == er) = true := by simp
  generalize bs u = x at HN HR qb
  by_cases hl : 2000 < s.size
  · have hlI : (2000 : Int) < (s.size : Int) := by omega
    clear hl
    go_enter Tryz.func6, Tryz.ntmps6
    go_wp2_with fail
    refine (HAW.out).mono ?_
    rintro e w1 ⟨rfl, hB1⟩
    have HB1 := Lib.hid (HB0.out.trans (hB1.mono hw0))
    clear hB1 hW0
    go_wp2_with fail
    go_ret
    exact ⟨rfl, HB1.out⟩
  · have hlI : decide ((2000 : Int) < (s.size : Int)) = false := by rw [decide_eq_false_iff_not]; omega
    clear hl
    go_enter Tryz.func6, Tryz.ntmps6
    go_wp2_with fail
    refine (HAW.out).mono ?_
    rintro e w1 ⟨rfl, hB1⟩
    have HB1 := Lib.hid (HB0.out.trans (hB1.mono hw0))
    have HT1 := Lib.hid (tb_below HTB0.out hB1)
    obtain ⟨k0, k1, k2⟩ := tb_cells HT1.out
    clear hB1 hW0
    go_wp2_with fail
    refine (HN.out _ (prw.env_below hE.out HB1.out) (dnw.tabs_below hT.out HB1.out)).mono ?_
    rintro e w2 ⟨rfl, hB2⟩
    have HB2 := Lib.hid (HB1.out.trans (hB2.mono HB1.out.size))
    have HT2 := Lib.hid (tb_below HT1.out hB2)
    obtain ⟨m0, m1, m2⟩ := tb_cells HT2.out
    clear hB2 k0 k1 k2
    go_wp2_with fail
    refine (HR.out _).mono ?_
    rintro e w3 ⟨rfl, hB3⟩
    have HB3 := Lib.hid (HB2.out.trans (hB3.mono HB2.out.size))
    have HT3 := Lib.hid (tb_below HT2.out hB3)
    obtain ⟨n0, n1, n2⟩ := tb_cells HT3.out
    clear hB3 m0 m1 m2
    go_wp2_with fail
    refine (HC.out _ (prw.env_below hE.out HB3.out) (dnw.tabs_below hT.out HB3.out)).mono ?_
    rintro e w4 ⟨rfl, hB4⟩
    have HB4 := Lib.hid (HB3.out.trans (hB4.mono HB3.out.size))
    clear hB4 n0 n1 n2
    go_wp2_with fail
    go_ret
    exact ⟨rfl, HB4.out⟩
end atw
end Go.Proofs.YtckpiaigoeicfaaGreatDoor
