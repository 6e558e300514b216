/- The walk of count: how many cells bytes tell. -/
import Derived.Test.YtkeheaempbmmaaaUncell
namespace Go.Proofs.Ytkeheaempbmmaaa
open Go.RowKit
namespace nod
open fldw
/-- what count answers -/
def cntP (s : List UInt8) : Nat := match fld.take s 0 2 with
  | .error _ => 0
  | .ok n => if s.length / 2 < n + 1 then 0 else n
set_option maxHeartbeats 1000000 in
theorem cnt_any (s : ByteArray) (w : World) (hs : s.size ≤ 1000000) :
    Calls Try.prog 19 #[.string s] w fun e w' => e = .returned (.int .i64 (cntP s.data.toList : Int)) ∧ Below w.heap.size w w' := by
  obtain ⟨n, er, hv, hnn, her, hnb⟩ := take_form s.data.toList 0 2 (by omega)
  have K := fun w => take_any s 0 2 w hs (by omega) (by omega) (by omega) (by omega)
  rw [hv] at K
  have KH := Lib.hid K
  obtain ⟨r, hr⟩ : ∃ r : Nat, Hid (r = cntP s.data.toList) := ⟨_, rfl⟩
  rw [← hr.out]
  have wn : IntKind.i64.wrap (n : Int) = (n : Int) := kt.wrap_i64_nat _ (by omega)
  by_cases he : er = 0
  · subst he
    have htk : fld.take s.data.toList 0 2 = .ok n := by
      cases hk1 : fld.take s.data.toList 0 2 with
      | error e0 => rw [hk1] at her; cases her
      | ok n0 => rw [hk1] at hnn; rw [hnn]; rfl
    have hc : r = if s.size / 2 < n + 1 then 0 else n := by
      rw [hr.out]
      unfold cntP
      rw [htk]
      simp only [kt.size_len]
    by_cases hb : s.size / 2 < n + 1
    · rw [if_pos hb] at hc
      subst hc
      have hb' : (s.size : Int) / 2 - 1 < (n : Int) := by omega
      clear K hv her hnn htk hb
      go_enter Try.func19, Try.ntmps19
      go_wp2_with fail
      refine (KH.out _).mono ?_
      rintro e w1 ⟨rfl, hB1⟩
      go_wp2_with fail
      go_ret
      exact ⟨rfl, hB1⟩
    · rw [if_neg hb] at hc
      subst hc
      have hb' : ¬ (s.size : Int) / 2 - 1 < (r : Int) := by omega
      clear K hv her hnn htk hb
      go_enter Try.func19, Try.ntmps19
      go_wp2_with fail
      refine (KH.out _).mono ?_
      rintro e w1 ⟨rfl, hB1⟩
      go_wp2_with fail
      go_ret
      exact ⟨rfl, hB1⟩
  · have he' : (er == 0) = false := by simpa using he
    have hc : r = 0 := by
      rw [hr.out]
      unfold cntP
      cases hk1 : fld.take s.data.toList 0 2 with
      | error e0 => rfl
      | ok n0 =>
        rw [hk1, he'] at her
        cases her
    subst hc
    clear K hv her hnn
    have he2 : (er != 0) = true := by simpa using he
    go_enter Try.func19, Try.ntmps19
    go_wp2_with fail
    refine (KH.out _).mono ?_
    rintro e w1 ⟨rfl, hB1⟩
    go_wp2_with fail
    go_ret
    exact ⟨rfl, hB1⟩
end nod
end Go.Proofs.Ytkeheaempbmmaaa
