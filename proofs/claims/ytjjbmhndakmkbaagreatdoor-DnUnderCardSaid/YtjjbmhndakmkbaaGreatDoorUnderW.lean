/- The walks of dn.Under and Same. -/
import Derived.Test.YtjjbmhndakmkbaaGreatDoorKeysW
namespace Go.Proofs.YtjjbmhndakmkbaaGreatDoor
open Go.RowKit
namespace dnw
open dnp
set_option linter.unusedVariables false
set_option linter.unusedSimpArgs false
theorem eqT {w : World} {a1 a2 : Option Addr} {c d p : Nat} {xs ys : List ByteArray} (h1 : tupw.Strs w a1 xs) (h2 : tupw.Strs w a2 ys) (hp : p ≤ xs.length) (hy : ys.length = p) (hb : p ≤ 1000) :
    Calls Tryz.prog 19 #[.slice a1 p c, .slice a2 p d] w fun e w' => e = .returned (.bool (decide (xs.take p = ys))) ∧ Below w.heap.size w w' := by
  by_cases h0 : p = 0
  · subst h0
    have hys : ys = [] := List.eq_nil_of_length_eq_zero hy
    subst hys
    refine (Tryz.slices_Equal_string_empty a1 a2 c 0 d w (by omega)).mono ?_
    rintro e w' ⟨rfl, h⟩
    have h : w' = w := by first | exact h | exact h.symm
    subst h
    exact ⟨kt.ret_bool (by simp), Below.refl _ _⟩
  · obtain ⟨b1, o1, e1, _⟩ := h1 0 (by omega)
    obtain ⟨b2, o2, e2, _⟩ := h2 0 (by omega)
    subst e1 e2
    have k1 : ∀ j, j < xs.length → w.cell? ⟨b1, o1 + j, none⟩ = some (.string (xs.getD j ByteArray.empty)) := by
      intro j hj
      obtain ⟨b, o, e, hc⟩ := h1 j hj
      cases e
      rw [hc]
      simp [List.getD, List.getElem?_eq_getElem hj]
    have k2 : ∀ j, j < ys.length → w.cell? ⟨b2, o2 + j, none⟩ = some (.string (ys.getD j ByteArray.empty)) := by
      intro j hj
      obtain ⟨b, o, e, hc⟩ := h2 j hj
      cases e
      rw [hc]
      simp [List.getD, List.getElem?_eq_getElem hj]
    refine (Tryz.slices_Equal_string b1 o1 p c b2 o2 p d xs ys w hp (by omega) (by omega) (by omega) k1 k2).mono ?_
    rintro e w' ⟨rfl, q, rfl⟩
    refine ⟨kt.ret_bool ?_, (show Below w.heap.size w (w.drewN q) from ⟨rfl, rfl, rfl, Nat.le_refl _, fun k _ => rfl⟩)⟩
    rw [List.take_of_length_le (l := ys) (by omega)]
set_option maxRecDepth 20000 in
set_option maxHeartbeats 4000000 in
theorem under_any (ao bo : Option Addr) (ca cb : Nat) (n b : List (List Av)) (w : World) (hA : Hid (Rdns w ao n)) (hB : Hid (Rdns w bo b)) (hE : Hid (prw.Env w)) (hT : Hid (Tabs w)) (hS : Hid (∀ l ∈ n, l.length ≤ 4 → Smalls l)) (hSb : Hid (∀ l ∈ b, l.length ≤ 4 → Smalls l)) :
    Calls Tryz.prog 8 #[.slice ao n.length ca, .slice bo b.length cb] w fun e w' => e = .returned (.bool (underR n b)) ∧ Below w.heap.size w w' := by
  have CK := keys_any ao ca n w hA hE hT hS
  have CKb : Hid (∀ W, Below w.heap.size w W → Calls Tryz.prog 9 #[.slice bo b.length cb] W fun e w' => KeysE b W e w') := fun W hb => keys_any bo cb b W (Lib.hid (rdns_below hB.out hb)) (Lib.hid (prw.env_below hE.out hb)) (Lib.hid (tabs_below hT.out hb)) hSb
  obtain ⟨m, hm⟩ : ∃ m, m = n.length := ⟨_, rfl⟩
  obtain ⟨p, hp⟩ : ∃ p, p = b.length := ⟨_, rfl⟩
  have HM := Lib.hid hm
  have HP := Lib.hid hp
  rw [← hm] at CK ⊢
  rw [← hp] at CKb ⊢
  have HB2 : Hid (∀ W, Below w.heap.size w W → nameOK b = false → Calls Tryz.prog 9 #[.slice bo p cb] W fun e w' => Below W.heap.size W w' ∧ e = .returned (.tuple #[.slice none 0 0, .int .i64 4])) := by
    intro W hb h
    refine (CKb.out W hb).mono fun e w' h2 => ?_
    unfold KeysE at h2
    rw [if_neg (by rw [h]; simp)] at h2
    exact h2
  have HB3 : Hid (∀ W, Below w.heap.size w W → nameOK b = true → Calls Tryz.prog 9 #[.slice bo p cb] W fun e w' => Below W.heap.size W w' ∧ ∃ ao cap, e = .returned (.tuple #[.slice ao p cap, .int .i64 0]) ∧ tupw.Strs w' ao (keysB b)) := by
    intro W hb h
    refine (CKb.out W hb).mono fun e w' h2 => ?_
    unfold KeysE at h2
    rw [if_pos h, ← hp] at h2
    obtain ⟨h3, ao, cap, h4, _, h5⟩ := h2
    exact ⟨h3, ao, cap, h4, h5⟩
  cases hok : nameOK n with
  | false =>
    have HC : Hid (Calls Tryz.prog 9 #[.slice ao m ca] w fun e w' => Below w.heap.size w w' ∧ e = .returned (.tuple #[.slice none 0 0, .int .i64 4])) := by
      refine CK.mono fun e w' h2 => ?_
      unfold KeysE at h2
      rw [if_neg (by rw [hok]; simp)] at h2
      exact h2
    have HU : Hid (false = underR n b) := by show _ = _; unfold underR; rw [hok]; rfl
    clear CK CKb hok hm hp
    cases hob : nameOK b with
    | false =>
      have HD := Lib.hid (fun W hb => HB2.out W hb hob)
      clear hob HB2 HB3
      go_enter Tryz.func8, Tryz.ntmps8
      go_wp2_with fail
      refine HC.out.mono ?_
      rintro e w1 ⟨hB1, rfl⟩
      have HD2 := Lib.hid (HD.out w1 hB1)
      go_wp2_with fail
      refine HD2.out.mono ?_
      rintro e w2 ⟨hB2, rfl⟩
      go_wp2_with fail
      go_ret
      exact ⟨kt.ret_bool HU.out, hB1.trans (hB2.mono hB1.size)⟩
    | true =>
      have HD := Lib.hid (fun W hb => HB3.out W hb hob)
      clear hob HB2 HB3
      go_enter Tryz.func8, Tryz.ntmps8
      go_wp2_with fail
      refine HC.out.mono ?_
      rintro e w1 ⟨hB1, rfl⟩
      have HD2 := Lib.hid (HD.out w1 hB1)
      go_wp2_with fail
      refine HD2.out.mono ?_
      rintro e w2 ⟨hB2, bo2, cb2, rfl, _⟩
      go_wp2_with fail
      go_ret
      exact ⟨kt.ret_bool HU.out, hB1.trans (hB2.mono hB1.size)⟩
  | true =>
    have HC : Hid (Calls Tryz.prog 9 #[.slice ao m ca] w fun e w' => Below w.heap.size w w' ∧ ∃ ao cap, e = .returned (.tuple #[.slice ao m cap, .int .i64 0]) ∧ m ≤ cap ∧ tupw.Strs w' ao (keysB n)) := by
      refine CK.mono fun e w' h2 => ?_
      unfold KeysE at h2
      rw [if_pos hok, ← hm] at h2
      exact h2
    cases hob : nameOK b with
    | false =>
      have HU : Hid (false = underR n b) := by show _ = _; unfold underR; rw [hok, hob]; rfl
      have HD := Lib.hid (fun W hb => HB2.out W hb hob)
      clear hob HB2 HB3 CK CKb hok hm hp
      go_enter Tryz.func8, Tryz.ntmps8
      go_wp2_with fail
      refine HC.out.mono ?_
      rintro e w1 ⟨hB1, ao2, ca2, rfl, hmc, hS1⟩
      have HD2 := Lib.hid (HD.out w1 hB1)
      clear hS1
      go_wp2_with fail
      refine HD2.out.mono ?_
      rintro e w2 ⟨hB2, rfl⟩
      go_wp2_with fail
      go_ret
      exact ⟨kt.ret_bool HU.out, hB1.trans (hB2.mono hB1.size)⟩
    | true =>
      have HD := Lib.hid (fun W hb => HB3.out W hb hob)
      have hm12 : m ≤ 12 := by rw [hm]; exact (nameOK_facts hok).1
      have hp12 : p ≤ 12 := by rw [hp]; exact (nameOK_facts hob).1
      by_cases hpm : p ≤ m
      · have hpm' : (p : Int) ≤ (m : Int) := by omega
        have HU : Hid (decide ((keysB n).take p = keysB b) = underR n b) := by
          show _ = _
          unfold underR
          rw [hok, hob, ← hp, ← hm, decide_eq_true hpm]; rfl
        have hnl : p ≤ (keysB n).length := by rw [keysB_len, ← hm]; exact hpm
        have hbl : (keysB b).length = p := by rw [keysB_len, ← hp]
        have HEQ : Hid (∀ W a1 c a2 d, tupw.Strs W a1 (keysB n) → tupw.Strs W a2 (keysB b) → Calls Tryz.prog 19 #[.slice a1 p c, .slice a2 p d] W fun e w' => e = .returned (.bool (underR n b)) ∧ Below W.heap.size W w') := by
          intro W a1 c a2 d h1 h2
          have := eqT (c := c) (d := d) h1 h2 hnl hbl (by omega)
          rw [HU.out] at this
          exact this
        clear hob HB2 HB3 CK CKb hok hm hp hnl hbl
        go_enter Tryz.func8, Tryz.ntmps8
        go_wp2_with fail
        refine HC.out.mono ?_
        rintro e w1 ⟨hB1, ao2, ca2, rfl, hmc, hS1⟩
        have HD2 := Lib.hid (HD.out w1 hB1)
        have HS1 := Lib.hid hS1
        have hpc : (p : Int) ≤ (ca2 : Int) := by omega
        clear hS1
        go_wp2_with fail
        refine HD2.out.mono ?_
        rintro e w2 ⟨hB2, bo2, cb2, rfl, hS2⟩
        have HS1' := Lib.hid (tupw.strs_below HS1.out hB2)
        have HS2 := Lib.hid hS2
        have HBW := Lib.hid (hB1.trans (hB2.mono hB1.size))
        clear hS2 hB1 hB2
        go_wp2_with fail
        refine (HEQ.out _ _ _ _ _ HS1'.out HS2.out).mono ?_
        rintro e w3 ⟨rfl, hB3⟩
        go_wp2_with fail
        go_ret
        exact ⟨rfl, HBW.out.trans (hB3.mono HBW.out.size)⟩
      · have hpm' : ¬ (p : Int) ≤ (m : Int) := by omega
        have HU : Hid (false = underR n b) := by
          show _ = _
          unfold underR
          rw [hok, hob, ← hp, ← hm, decide_eq_false hpm]; rfl
        clear hob HB2 HB3 CK CKb hok hm hp
        go_enter Tryz.func8, Tryz.ntmps8
        go_wp2_with fail
        refine HC.out.mono ?_
        rintro e w1 ⟨hB1, ao2, ca2, rfl, hmc, hS1⟩
        have HD2 := Lib.hid (HD.out w1 hB1)
        clear hS1
        go_wp2_with fail
        refine HD2.out.mono ?_
        rintro e w2 ⟨hB2, bo2, cb2, rfl, _⟩
        go_wp2_with fail
        go_ret
        exact ⟨kt.ret_bool HU.out, hB1.trans (hB2.mono hB1.size)⟩
set_option maxRecDepth 20000 in
theorem same_any (ao bo : Option Addr) (ca cb : Nat) (n b : List (List Av)) (w : World) (hA : Hid (Rdns w ao n)) (hB : Hid (Rdns w bo b)) (hE : Hid (prw.Env w)) (hT : Hid (Tabs w)) (hS : Hid (∀ l ∈ n, l.length ≤ 4 → Smalls l)) (hSb : Hid (∀ l ∈ b, l.length ≤ 4 → Smalls l)) :
    Calls Tryz.prog 13 #[.slice ao n.length ca, .slice bo b.length cb] w fun e w' => e = .returned (.bool (sameR n b)) ∧ Below w.heap.size w w' := by
  have CU := under_any ao bo ca cb n b w hA hB hE hT hS hSb
  obtain ⟨m, hm⟩ : ∃ m, m = n.length := ⟨_, rfl⟩
  obtain ⟨p, hp⟩ : ∃ p, p = b.length := ⟨_, rfl⟩
  have hU : sameR n b = (decide (m = p) && underR n b) := by unfold sameR; rw [← hm, ← hp]
  rw [← hm, ← hp] at CU ⊢
  generalize underR n b = u at CU hU
  rw [hU]
  have HC := Lib.hid CU
  clear hm hp hU CU
  by_cases h : m = p
  · subst h
    have HR : Hid (u = (decide (m = m) && u)) := by show _ = _; simp
    have q : ((m : Int) == (m : Int)) = true := by rw [beq_iff_eq]
    go_enter Tryz.func13, Tryz.ntmps13
    go_wp2_with fail
    refine HC.out.mono ?_
    rintro e w1 ⟨rfl, hB1⟩
    go_wp2_with fail
    go_ret
    exact ⟨kt.ret_bool HR.out, hB1⟩
  · have HR : Hid (false = (decide (m = p) && u)) := by show _ = _; rw [decide_eq_false h]; rfl
    have q : ((m : Int) == (p : Int)) = false := by rw [beq_eq_false_iff_ne]; omega
    clear h
    go_enter Tryz.func13, Tryz.ntmps13
    go_wp2_with fail
    go_ret
    exact ⟨kt.ret_bool HR.out, Below.refl _ _⟩
end dnw
end Go.Proofs.YtjjbmhndakmkbaaGreatDoor
