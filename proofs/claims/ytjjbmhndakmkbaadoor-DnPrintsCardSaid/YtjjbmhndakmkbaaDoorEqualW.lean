/- The walk of the reference's Equal. -/
import Derived.Test.YtjjbmhndakmkbaaDoorSpecW
import Derived.Test.YtjjbmhndakmkbaaDoorRRdnW
namespace Go.Proofs.YtjjbmhndakmkbaaDoor
open Go.RowKit
namespace dnw
open dnp
set_option linter.unusedVariables false
set_option linter.unusedSimpArgs false
def EqE (a b : List (List Av)) (w : World) (e : Ending) (w' : World) : Prop := Below w.heap.size w w' ∧ ∃ r : Bool, e = .returned (.bool r) ∧ (r = true ↔ a = b)
theorem eqE_no {a b : List (List Av)} {w w' : World} (hb : Below w.heap.size w w') (h : a ≠ b) : EqE a b w (.returned (.bool false)) w' := ⟨hb, false, rfl, by simp [h]⟩
theorem eqE_yes {a b : List (List Av)} {w w' : World} (hb : Below w.heap.size w w') (h : a = b) : EqE a b w (.returned (.bool true)) w' := ⟨hb, true, rfl, by simp [h]⟩
set_option maxRecDepth 20000 in
set_option maxHeartbeats 4000000 in
theorem equal_any (ao bo : Option Addr) (ca cb : Nat) (a b : List (List Av)) (w : World) (hA : Hid (Rdns w ao a)) (hB : Hid (Rdns w bo b)) (hal : a.length ≤ 1000) (hbl : b.length ≤ 1000) (hla : Hid (∀ l ∈ a, l.length ≤ 1000)) (hlb : Hid (∀ l ∈ b, l.length ≤ 1000)) :
    Calls Tryd.prog 9 #[.slice ao a.length ca, .slice bo b.length cb] w fun e w' => EqE a b w e w' := by
  obtain ⟨n, hn⟩ : ∃ n, n = a.length := ⟨_, rfl⟩
  obtain ⟨m, hm⟩ : ∃ m, m = b.length := ⟨_, rfl⟩
  have HN := Lib.hid hn
  have HM := Lib.hid hm
  rw [← hn] at hal ⊢
  rw [← hm] at hbl ⊢
  clear hn hm
  by_cases hnm : n = m
  · subst hnm
    have HL : Hid (a.length = b.length) := HN.out.symm.trans HM.out
    go_enter Tryd.func9, Tryd.ntmps9
    go_wp2_with fail
    go_loopw [5, 6] (fun iv _ wr => ∃ i : Nat, i ≤ n ∧ iv = .int .i64 (i : Int) ∧ Hid (∀ j (h : j < a.length) (h' : j < b.length), j < i → a[j] = b[j]) ∧ Below w.heap.size w wr) (fun iv _ _ => n - (intOf iv).toNat)
    case atStart => exact ⟨0, Nat.zero_le _, rfl, fun j _ _ h => by omega, Below.refl _ _⟩
    case round =>
      obtain ⟨i, hi, rfl, hP, hBw⟩ := hrel
      by_cases hlt : i < n
      · have hlt' : (i : Int) < (n : Int) := by omega
        have hia : i < a.length := by rw [← HN.out]; exact hlt
        have hib : i < b.length := by rw [← HM.out]; exact hlt
        obtain ⟨b1, o1, ao', c1, e1, hc1, hcc1, hAv1⟩ := hA.out i hia
        obtain ⟨b2, o2, bo', c2, e2, hc2, hcc2, hAv2⟩ := hB.out i hib
        have h1l := hla.out a[i] (List.getElem_mem hia)
        have h2l := hlb.out b[i] (List.getElem_mem hib)
        have HNO : Hid (a[i] ≠ b[i] → a ≠ b) := fun h e => h (by subst e; rfl)
        have HYES : Hid (a[i] = b[i] → ∀ j (h : j < a.length) (h' : j < b.length), j < i + 1 → a[j] = b[j]) := by
          intro h j h1 h2 hj
          by_cases e : j = i
          · subst e; exact h
          · exact hP.out j h1 h2 (by omega)
        have HA0 := Lib.hid hAv1
        have HB0 := Lib.hid hAv2
        generalize a[i] = x at h1l HNO HYES HA0 hc1
        generalize b[i] = y at h2l HNO HYES HB0 hc2
        obtain ⟨p, hp⟩ : ∃ p, p = x.length := ⟨_, rfl⟩
        obtain ⟨q, hq⟩ : ∃ q, q = y.length := ⟨_, rfl⟩
        have HP' := Lib.hid hp
        have HQ' := Lib.hid hq
        rw [← hp] at hc1 h1l
        rw [← hq] at hc2 h2l
        have HC1 := Lib.hid hc1
        have HC2 := Lib.hid hc2
        have k1 := (hBw.cell (World.block_lt_of_cell? w _ hc1)).trans hc1
        have k2 := (hBw.cell (World.block_lt_of_cell? w _ hc2)).trans hc2
        subst e1 e2
        clear hp hq hAv1 hAv2 hcc1 hcc2 hc1 hc2
        by_cases hpq : p = q
        · subst hpq
          go_wp2_with fail
          go_quiet (fail)
          have HBQ := Lib.hid (dr_drewN hBw nq)
          generalize wr.drewN nq = wq at HBQ ⊢
          go_wp2_with fail
          go_loopw [6] (fun kv wr => ∃ k : Nat, k ≤ p ∧ kv = .int .i64 (k : Int) ∧ Hid (∀ j (h : j < x.length) (h' : j < y.length), j < k → x[j] = y[j]) ∧ Below w.heap.size w wr) (fun kv _ => p - (intOf kv).toNat)
          case atStart => exact ⟨0, Nat.zero_le _, rfl, fun j _ _ h => by omega, HBQ.out⟩
          case round =>
            clear k1 k2
            obtain ⟨k, hk, rfl, hQ, hBk⟩ := hrel
            have k1 := (hBk.cell (World.block_lt_of_cell? w _ HC1.out)).trans HC1.out
            have k2 := (hBk.cell (World.block_lt_of_cell? w _ HC2.out)).trans HC2.out
            by_cases hkp : k < p
            · have hkp' : (k : Int) < (p : Int) := by omega
              have hkx : k < x.length := by rw [← HP'.out]; exact hkp
              have hky : k < y.length := by rw [← HQ'.out]; exact hkp
              obtain ⟨b3, o3, e3, d0, d1⟩ := (avas_below HA0.out hBk) k hkx
              obtain ⟨b4, o4, e4, f0, f1⟩ := (avas_below HB0.out hBk) k hky
              subst e3 e4
              have HKN : Hid (x[k] ≠ y[k] → a ≠ b) := fun h => HNO.out (fun e => h (by subst e; rfl))
              have HKY : Hid (x[k] = y[k] → ∀ j (h : j < x.length) (h' : j < y.length), j < k + 1 → x[j] = y[j]) := by
                intro h j h1 h2 hj
                by_cases e : j = k
                · subst e; exact h
                · exact hQ.out j h1 h2 (by omega)
              generalize x[k] = u at d0 d1 HKN HKY
              generalize y[k] = v at f0 f1 HKN HKY
              by_cases huv : u = v
              · have HY := Lib.hid (HKY.out huv)
                subst huv
                clear HKN HKY
                go_wp2_with fail
                go_quiet (fail)
                have HBQ2 := Lib.hid (dr_drewN hBk nq)
                generalize wr.drewN nq = wq2 at HBQ2 ⊢
                go_wp2_with fail
                go_roundw
                case rel => exact ⟨k + 1, by omega, by go_num, HY, HBQ2.out⟩
                case measure => simp [intOf]; omega
              · have HN := Lib.hid (HKN.out huv)
                have g : (u.t.toList == v.t.toList) = false ∨ ((u.t.toList == v.t.toList) = true ∧ (u.v.toList == v.v.toList) = false) := by
                  rw [str_beq, str_beq, decide_eq_false_iff_not, decide_eq_false_iff_not, decide_eq_true_iff]
                  by_cases ht : u.t.data.toList = v.t.data.toList
                  · refine Or.inr ⟨ht, fun hv => huv ?_⟩
                    cases u; cases v
                    have h1 := kt.str_eq ht
                    have h2 := kt.str_eq hv
                    simp only at h1 h2
                    rw [h1, h2]
                  · exact Or.inl ht
                clear HKN HKY huv
                rcases g with g | ⟨g, g2⟩
                all_goals
                  go_wp2_with fail
                  go_quiet (fail)
                  have HBQ2 := Lib.hid (dr_drewN hBk nq)
                  generalize wr.drewN nq = wq2 at HBQ2 ⊢
                  go_wp2_with fail
                  go_ret
                  exact eqE_no HBQ2.out HN.out
            · obtain rfl : k = p := by omega
              have HY := Lib.hid (HYES.out (List.ext_getElem (by rw [← HP'.out, ← HQ'.out]) (fun j h1 h2 => hQ.out j h1 h2 (by rw [HP'.out]; exact h1))))
              go_wp2_with fail
              go_roundw
              case rel => exact ⟨i + 1, by omega, by go_num, HY, hBk⟩
              case measure => simp [intOf]; omega
        · have hne : ((p : Int) == (q : Int)) = false := by rw [beq_eq_false_iff_ne]; omega
          have hne2 : ((p : Int) != (q : Int)) = true := by rw [bne_iff_ne]; omega
          have HX := Lib.hid (HNO.out (fun e => hpq (by rw [HP'.out, HQ'.out, e])))
          clear hpq
          go_wp2_with fail
          go_quiet (fail)
          go_wp2_with fail
          go_ret
          exact eqE_no (dr_drewN hBw nq) HX.out
      · obtain rfl : i = n := by omega
        have HX : Hid (a = b) := List.ext_getElem (by rw [← HN.out, ← HM.out]) (fun j h1 h2 => hP.out j h1 h2 (by rw [HN.out]; exact h1))
        go_wp2_with fail
        go_ret
        exact eqE_yes hBw HX.out
  · have hne : ((n : Int) == (m : Int)) = false := by rw [beq_eq_false_iff_ne]; omega
    have hne2 : ((n : Int) != (m : Int)) = true := by rw [bne_iff_ne]; omega
    have HX : Hid (a ≠ b) := fun e => hnm (by rw [HN.out, HM.out, e])
    clear hnm
    go_enter Tryd.func9, Tryd.ntmps9
    go_wp2_with fail
    go_ret
    exact eqE_no (Below.refl _ _) HX.out
end dnw
end Go.Proofs.YtjjbmhndakmkbaaDoor
