/- The walk of the statement FieldParts. -/
import Derived.Test.YthbofgfdgpidcaaDoorPartR
import Derived.Test.YthbofgfdgpidcaaDoorAwake
namespace Go.Proofs.YthbofgfdgpidcaaDoor
open Go.RowKit
namespace prt
open tupw
theorem strs_nil (w : World) : Strs w none [] := fun i hi => by simp at hi
set_option maxHeartbeats 1000000 in
theorem fparts_any (s : ByteArray) (w : World) (hE : Hid (trm.Env w)) (hs0 : s.size ≤ 140737488351232) :
    Calls Tryd.prog 6 #[.string s] w fun e w' => e = .returned (.bool true) ∧ Below w.heap.size w w' := by
  go_enter Tryd.func6, Tryd.ntmps6
  go_wp2_with fail
  refine (awk.awake_true w hE).mono ?_
  rintro e w1 ⟨rfl, hB1⟩
  have hs1 := hB1.size
  by_cases hs : 9000 < s.size
  · have hs' : 9000 < (s.size : Int) := by omega
    go_wp2_with fail
    go_ret
    exact ⟨rfl, hB1⟩
  · have hs' : ¬ 9000 < (s.size : Int) := by omega
    go_wp2_with fail
    refine (parts_any s w1 (by omega) (Lib.hid (trm.env_below hE.out hB1))).mono ?_
    rintro e w2 ⟨v, rfl, hA, hB2⟩
    have hs2 := hB2.size
    have R := Lib.hid (rparts_any s w2 hs0)
    rw [← tup.parts_rparts] at R
    cases hp : tup.parts s.data.toList with
    | none =>
      rw [hp] at hA R
      have hA' : v = .tuple #[.slice none 0 0, .int .i64 4] := hA
      subst hA'
      clear hp
      go_wp2_with fail
      refine R.out.mono ?_
      rintro e w3 ⟨v2, rfl, hA2, hB3⟩
      have hA2' : v2 = .tuple #[.slice none 0 0, .int .i64 4] := hA2
      subst hA2'
      have S := Lib.hid (same.same_any none none 0 0 [] [] w3 (strs_nil _) (strs_nil _) (by simp))
      go_wp2_with fail
      refine S.out.mono ?_
      rintro e w4 ⟨rfl, hB4⟩
      go_wp2_with fail
      go_ret
      exact ⟨rfl, ((hB1.trans (hB2.mono hs1)).trans (hB3.mono (by omega))).trans (hB4.mono (by have := hB3.size; omega))⟩
    | some l =>
      rw [hp] at hA R
      obtain ⟨sv, rfl, hO⟩ := hA
      have hl16 : l.length ≤ 16 := ((tup.parts_some _ _).1 hp).2.1
      clear hp
      go_wp2_with fail
      refine R.out.mono ?_
      rintro e w3 ⟨v2, rfl, ⟨sv2, rfl, hO2⟩, hB3⟩
      obtain ⟨a1, c1, rfl, hS1⟩ := own_strs (own_below hO hB3)
      obtain ⟨a2, c2, rfl, hS2⟩ := own_strs hO2
      have S := Lib.hid (same.same_any a1 a2 c1 c2 l l w3 hS1 hS2 (by omega))
      rw [show decide (l = l) = true from decide_eq_true rfl] at S
      clear hO hO2 hS1 hS2
      go_wp2_with fail
      refine S.out.mono ?_
      rintro e w4 ⟨rfl, hB4⟩
      go_wp2_with fail
      go_ret
      exact ⟨rfl, ((hB1.trans (hB2.mono hs1)).trans (hB3.mono (by omega))).trans (hB4.mono (by have := hB3.size; omega))⟩
end prt
end Go.Proofs.YthbofgfdgpidcaaDoor
