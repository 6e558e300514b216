/- The walk of the statement FieldOrder. -/
import Derived.Test.YthbofgfdgpidcaaDoorOrdW
namespace Go.Proofs.YthbofgfdgpidcaaDoor
open Go.RowKit
namespace ordl
open tupw prt ord tupr ordw
theorem strs_take {w : World} {ao : Option Addr} {l : List ByteArray} (h : Strs w ao l) (n : Nat) : Strs w ao (l.take n) := by
  intro i hi
  have hi' : i < l.length := by simp at hi; omega
  obtain ⟨b, o, e, hc⟩ := h i hi'
  refine ⟨b, o, e, ?_⟩
  rw [List.getElem_take]
  exact hc
set_option maxHeartbeats 2000000 in
theorem order_any (a1 a2 : Option Addr) (c1 c2 : Nat) (a b : List ByteArray) (w : World) (hE : Hid (trm.Env w)) (h1 : Hid (Strs w a1 a)) (h2 : Hid (Strs w a2 b)) (hm1 : Hid (∀ p ∈ a, p.size ≤ maxLen)) (hm2 : Hid (∀ p ∈ b, p.size ≤ maxLen)) (hx1 : a.length ≤ maxLen) (hx2 : b.length ≤ maxLen) (hc2 : b.length ≤ c2) :
    Calls Tryd.prog 4 #[.slice a1 a.length c1, .slice a2 b.length c2] w fun e w' => e = .returned (.bool true) ∧ Below w.heap.size w w' := by
  go_enter Tryd.func4, Tryd.ntmps4
  go_wp2_with fail
  refine (awk.awake_true w hE).mono ?_
  rintro e w1 ⟨rfl, hB1⟩
  go_wp2_with fail
  refine (long_any a1 c1 a w1 (Lib.hid (strs_below h1.out hB1)) hm1 hx1).mono ?_
  rintro e w2 ⟨⟨la, rfl, hla⟩, hB2'⟩
  have hB2 := hB1.trans (hB2'.mono hB1.size)
  have hla' := Lib.hid hla
  clear hla hB2'
  cases la with
  | true =>
    go_wp2_with fail
    go_ret
    exact ⟨rfl, hB2⟩
  | false =>
    obtain ⟨ha40, ha9⟩ := hla'.out rfl
    have HA9 := Lib.hid ha9
    clear ha9
    go_wp2_with fail
    refine (long_any a2 c2 b w2 (Lib.hid (strs_below h2.out hB2)) hm2 hx2).mono ?_
    rintro e w3 ⟨⟨lb, rfl, hlb⟩, hB3'⟩
    have hB3 := hB2.trans (hB3'.mono hB2.size)
    have hlb' := Lib.hid hlb
    clear hlb hB3'
    cases lb with
    | true =>
      go_wp2_with fail
      go_ret
      exact ⟨rfl, hB3⟩
    | false =>
      obtain ⟨hb40, hb9⟩ := hlb'.out rfl
      have HB9 := Lib.hid hb9
      clear hb9
      have C1 : Hid (∀ w', Below w.heap.size w w' → Calls Tryd.prog 14 #[.slice a1 a.length c1, .slice a2 b.length c2] w' fun e w'' => e = .returned (.int .i64 (cmpL a b)) ∧ ∃ n, w'' = w'.drewN n) :=
        fun w' h => compare_any a1 a2 c1 c2 a b w' (Lib.hid (strs_below h1.out h)) (Lib.hid (strs_below h2.out h)) (by omega) (by omega)
      have C2 : Hid (∀ w', Below w.heap.size w w' → Calls Tryd.prog 15 #[.slice a1 a.length c1, .slice a2 b.length c2] w' fun e w'' => e = .returned (.int .i64 (cmpL a b)) ∧ ∃ n, w'' = w'.drewN n) :=
        fun w' h => rcompare_any a1 a2 c1 c2 a b w' (Lib.hid (strs_below h1.out h)) (Lib.hid (strs_below h2.out h)) (Lib.hid (fun p hp => Nat.le_trans (HA9.out p hp) (by omega))) (by omega)
      have C3 : Hid (∀ w', Below w.heap.size w w' → Calls Tryd.prog 14 #[.slice a2 b.length c2, .slice a1 a.length c1] w' fun e w'' => e = .returned (.int .i64 (- cmpL a b)) ∧ ∃ n, w'' = w'.drewN n) := by
        intro w' h
        rw [← cmpL_neg]
        exact compare_any a2 a1 c2 c1 b a w' (Lib.hid (strs_below h2.out h)) (Lib.hid (strs_below h1.out h)) (by omega) (by omega)
      have T1 := Lib.hid (fun w' (h : Below w.heap.size w w') => tuple_any a1 c1 a w' (Lib.hid (trm.env_below hE.out h)) (Lib.hid (strs_below h1.out h)))
      have T2 := Lib.hid (fun w' (h : Below w.heap.size w w') => tuple_any a2 c2 b w' (Lib.hid (trm.env_below hE.out h)) (Lib.hid (strs_below h2.out h)))
      unfold tupV at T1 T2
      have h3 := cmpL_three a b
      obtain ⟨n, hn⟩ : ∃ n : Int, Hid (n = cmpL a b) := ⟨_, rfl⟩
      rw [← hn.out] at C1 C2 C3 h3
      have hn0 : n = -1 ∨ n = 0 ∨ n = 1 := h3
      have en : IntKind.i64.wrap (-n) = -n := by rcases hn0 with rfl | rfl | rfl <;> rfl
      have en2 : IntKind.i64.wrap (- -n) = n := by rcases hn0 with rfl | rfl | rfl <;> rfl
      clear h3
      go_wp2_with fail
      refine (C1.out w3 hB3).mono ?_
      rintro e w4 ⟨rfl, n4, hw4⟩
      have hB4 : Below w.heap.size w w4 := by rw [hw4]; exact same.below_drewN hB3 n4
      clear hw4
      go_wp2_with fail
      refine (C2.out _ hB4).mono ?_
      rintro e w5 ⟨rfl, n5, hw5⟩
      have hB5 : Below w.heap.size w w5 := by rw [hw5]; exact same.below_drewN hB4 n5
      clear hw5
      go_wp2_with fail
      refine (C3.out _ hB5).mono ?_
      rintro e w6 ⟨rfl, n6, hw6⟩
      have hB6 : Below w.heap.size w w6 := by rw [hw6]; exact same.below_drewN hB5 n6
      clear hw6
      obtain ⟨X, ea, hX⟩ : ∃ X ea, Hid (tup.out a = (X, ea)) := ⟨(tup.out a).1, (tup.out a).2, rfl⟩
      obtain ⟨Y, eb, hY⟩ : ∃ Y eb, Hid (tup.out b = (Y, eb)) := ⟨(tup.out b).1, (tup.out b).2, rfl⟩
      rw [hX.out] at T1
      rw [hY.out] at T2
      simp only at T1 T2
      go_wp2_with fail
      refine (T1.out _ hB6).mono ?_
      rintro e w7 ⟨rfl, hB7'⟩
      have hB7 := hB6.trans (hB7'.mono hB6.size)
      clear hB7'
      go_wp2_with fail
      refine (T2.out _ hB7).mono ?_
      rintro e w8 ⟨rfl, hB8'⟩
      have hB8 := hB7.trans (hB8'.mono hB7.size)
      clear hB8'
      by_cases hea : ea = 0
      · by_cases heb : eb = 0
        · have hxa : X = ⟨(tup.bytes a).toArray⟩ ∧ (tup.bytes a).length ≤ 4096 := by
            rcases out_cases a with ⟨er, h, hne⟩ | ⟨h, _, h4, _⟩
            · rw [hX.out] at h; injection h with _ h; exact absurd (h ▸ hea) hne
            · rw [hX.out] at h; injection h with h _; exact ⟨h, h4⟩
          have hyb : Y = ⟨(tup.bytes b).toArray⟩ := by
            rcases out_cases b with ⟨er, h, hne⟩ | ⟨h, _, _, _⟩
            · rw [hY.out] at h; injection h with _ h; exact absurd (h ▸ heb) hne
            · rw [hY.out] at h; exact (Prod.mk.inj h).1
          have hXd : X.data.toList = tup.bytes a := by rw [hxa.1]
          have hYd : Y.data.toList = tup.bytes b := by rw [hyb]
          have hXs : X.size ≤ 4096 := by
            rw [← kt.size_len, hXd]
            exact hxa.2
          have L := Lib.hid (fun w => less_any X Y w (by omega))
          have B := Lib.hid (fun w => begins_any X Y w)
          rw [hXd, hYd] at L B
          rw [cmp_bytes, ← hn.out] at L
          rw [begins_bytes] at B
          clear hxa hyb hXd hYd
          subst hea heb
          by_cases hle : a.length ≤ b.length
          · have hle' : (a.length : Int) ≤ (b.length : Int) := by omega
            have hmin : min (a.length : Int) (b.length : Int) = (a.length : Int) := by omega
            have hcap : (a.length : Int) ≤ (c2 : Int) := by omega
            have S : Hid (∀ w', Below w.heap.size w w' → ∀ cc, Calls Tryd.prog 17 #[.slice a1 a.length c1, .slice a2 a.length cc] w' fun e w'' => e = .returned (.bool (decide (a = b.take a.length))) ∧ Below w'.heap.size w' w'') := by
              intro w' h cc
              have := same.same_any a1 a2 c1 cc a (b.take a.length) w' (Lib.hid (strs_below h1.out h)) (Lib.hid (strs_take (strs_below h2.out h) _)) (by rw [List.length_take]; omega)
              rw [List.length_take, Nat.min_eq_left hle] at this
              exact this
            obtain ⟨g, hg⟩ : ∃ g : Bool, Hid (g = beginsL a b) := ⟨_, rfl⟩
            have hgs : decide (a = b.take a.length) = g := by
              rw [hg.out]
              unfold beginsL
              simp [hle]
            rw [hgs] at S
            rw [← hg.out] at B
            clear hgs
            go_wp2_with fail
            refine (S.out _ hB8 _).mono ?_
            rintro e w9 ⟨rfl, hB9'⟩
            have hB9 := hB8.trans (hB9'.mono hB8.size)
            clear hB9'
            go_wp2_with fail
            refine (L.out _).mono ?_
            rintro e w10 ⟨rfl, n9, hw10⟩
            have hB10 : Below w.heap.size w w10 := by rw [hw10]; exact same.below_drewN hB9 n9
            clear hw10
            go_wp2_with fail
            refine (B.out _).mono ?_
            rintro e w11 ⟨rfl, rfl⟩
            go_wp2_with fail
            go_ret
            exact ⟨rfl, hB10⟩
          · have hle' : ¬ (a.length : Int) ≤ (b.length : Int) := by omega
            have hg : beginsL a b = false := by unfold beginsL; simp [hle]
            rw [hg] at B
            clear hg hle
            go_wp2_with fail
            refine (L.out _).mono ?_
            rintro e w9 ⟨rfl, n9, hw9⟩
            have hB9 : Below w.heap.size w w9 := by rw [hw9]; exact same.below_drewN hB8 n9
            clear hw9
            go_wp2_with fail
            refine (B.out _).mono ?_
            rintro e w10 ⟨rfl, rfl⟩
            go_wp2_with fail
            go_ret
            exact ⟨rfl, hB9⟩
        · have heb' : (eb == 0) = false := by simpa using heb
          subst hea
          go_wp2_with fail
          go_ret
          exact ⟨rfl, hB8⟩
      · have hea' : (ea == 0) = false := by simpa using hea
        go_wp2_with fail
        go_ret
        exact ⟨rfl, hB8⟩
end ordl
end Go.Proofs.YthbofgfdgpidcaaDoor
