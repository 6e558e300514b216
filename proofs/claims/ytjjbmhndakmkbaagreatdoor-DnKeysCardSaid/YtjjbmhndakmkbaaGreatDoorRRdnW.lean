/- The walks of the reference's Rdn and Right. -/
import Derived.Test.YtjjbmhndakmkbaaGreatDoorRightW
namespace Go.Proofs.YtjjbmhndakmkbaaGreatDoor
open Go.RowKit
namespace dnw
open dnp
set_option linter.unusedVariables false
set_option linter.unusedSimpArgs false
theorem dr_drewN {B : Nat} {a b : World} (h : Below B a b) (n : Nat) : Below B a (b.drewN n) := ⟨h.os, h.tape, h.output, h.size, h.block⟩
set_option maxRecDepth 20000 in
set_option maxHeartbeats 4000000 in
theorem rrdn_any (ao : Option Addr) (cap : Nat) (l : List Av) (w : World) (hA : Hid (Avas w ao l)) (hS : Hid (l.length ≤ 4 → Smalls l)) :
    Calls Tryz.prog 18 #[.slice ao l.length cap] w fun e w' => e = .returned (.bool (rdnOK l)) ∧ Below w.heap.size w w' := by
  by_cases h1 : l.length < 1
  · have HN := Lib.hid (rdnOK_len (l := l) (Or.inl h1))
    have h0 : l.length = 0 := by omega
    obtain rfl : l = [] := List.eq_nil_of_length_eq_zero h0
    clear h0 h1
    go_enter Tryz.func18, Tryz.ntmps18
    go_wp2_with fail
    go_ret
    exact ⟨kt.ret_bool HN.out, Below.refl _ _⟩
  · have h1' : ((l.length : Int) == 0) = false := by rw [beq_eq_false_iff_ne]; omega
    by_cases h4 : 4 < l.length
    · have h4' : 4 < (l.length : Int) := by omega
      have HN := Lib.hid (rdnOK_len (l := l) (Or.inr h4))
      go_enter Tryz.func18, Tryz.ntmps18
      go_wp2_with fail
      go_ret
      exact ⟨kt.ret_bool HN.out, Below.refl _ _⟩
    · have h4' : ¬ 4 < (l.length : Int) := by omega
      have HSm := Lib.hid (hS.out (by omega))
      have h1n : 1 ≤ l.length := by omega
      have h4n : l.length ≤ 4 := by omega
      go_enter Tryz.func18, Tryz.ntmps18
      go_wp2_with fail
      go_loopw [3, 4] (fun iv _ wr => ∃ i : Nat, i ≤ l.length ∧ iv = .int .i64 (i : Int) ∧ Hid (∀ j (hj : j < l.length), j < i → pairB l j l[j] = true) ∧ Below w.heap.size w wr) (fun iv _ _ => l.length - (intOf iv).toNat)
      case atStart => exact ⟨0, Nat.zero_le _, rfl, fun j _ h => by omega, Below.refl _ _⟩
      case round =>
        obtain ⟨i, hi, rfl, hP, hB⟩ := hrel
        have hsz := hB.size
        by_cases hlt : i < l.length
        · have hlt' : (i : Int) < (l.length : Int) := by omega
          obtain ⟨b, o, hao, hc0, hc1⟩ := (avas_below hA.out hB) i hlt
          obtain ⟨_, _, hao2, hw0, _⟩ := hA.out i hlt
          obtain ⟨hts, hvs⟩ := HSm.out l[i] (by simp)
          have hpn := fun h => rdnOK_no (l := l) hlt h
          have hpy : pairB l i l[i] = true → ∀ j (hj : j < l.length), j < i + 1 → pairB l j l[j] = true := by
            intro h j hj hji
            by_cases e : j = i
            · subst e; exact h
            · exact hP.out j hj (by omega)
          have hx : pairB l i l[i] = (!hasB l i l[i].t && typeOK l[i].t.data.toList && valOK l[i].v.data.toList) := rfl
          rw [hao] at hao2
          cases hao2
          subst hao
          generalize l[i] = x at hc0 hc1 hts hvs hpn hpy hx hw0
          have HW0 := Lib.hid hw0
          have HTy : Hid (∀ W, Calls Tryz.prog 31 #[.string x.t] W fun e w' => e = .returned (.bool (typeOK x.t.data.toList)) ∧ W = w') := fun W => type_any x.t W hts
          have HVa : Hid (∀ W, Calls Tryz.prog 32 #[.string x.v] W fun e w' => e = .returned (.bool (valOK x.v.data.toList)) ∧ Below W.heap.size W w') := fun W => rvalue_any x.v W hvs
          generalize typeOK x.t.data.toList = b2 at HTy hx
          generalize valOK x.v.data.toList = b3 at HVa hx
          clear hw0
          cases b2 with
          | false =>
            have HN := Lib.hid (hpn (by rw [hx]; simp))
            clear hpn hpy hx
            go_wp2_with fail
            refine (HTy.out _).mono ?_
            rintro e w3 ⟨rfl, rfl⟩
            go_wp2_with fail
            go_ret
            exact ⟨kt.ret_bool HN.out, hB⟩
          | true =>
            cases b3 with
            | false =>
              have HN := Lib.hid (hpn (by rw [hx]; simp))
              clear hpn hpy hx
              go_wp2_with fail
              refine (HTy.out _).mono ?_
              rintro e w3 ⟨rfl, rfl⟩
              go_wp2_with fail
              refine (HVa.out _).mono ?_
              rintro e w4 ⟨rfl, hB4⟩
              go_wp2_with fail
              go_ret
              exact ⟨kt.ret_bool HN.out, hB.trans (hB4.mono hsz)⟩
            | true =>
              have HPN : Hid (hasB l i x.t = true → false = rdnOK l) := fun h => hpn (by rw [hx, h]; rfl)
              have HPY : Hid (hasB l i x.t = false → ∀ j (hj : j < l.length), j < i + 1 → pairB l j l[j] = true) := fun h => hpy (by rw [hx, h]; rfl)
              clear hpn hpy hx
              go_wp2_with fail
              refine (HTy.out _).mono ?_
              rintro e w3 ⟨rfl, rfl⟩
              go_wp2_with fail
              refine (HVa.out _).mono ?_
              rintro e w4 ⟨rfl, hB4⟩
              have hB5 := hB.trans (hB4.mono hsz)
              clear hc0 hc1
              go_wp2_with fail
              go_loopw [4] (fun kv wr => ∃ k : Nat, k ≤ i ∧ kv = .int .i64 (k : Int) ∧ Hid (¬ Has l k x.t) ∧ Below w.heap.size w wr) (fun kv _ => i - (intOf kv).toNat)
              case atStart => exact ⟨0, Nat.zero_le _, rfl, fun ⟨_, _, h, _⟩ => by omega, hB5⟩
              case round =>
                obtain ⟨k, hk, rfl, hN, hBk⟩ := hrel
                by_cases hki : k < i
                · have hki' : (k : Int) < (i : Int) := by omega
                  have hkl : k < l.length := by omega
                  have hkl' : (k : Int) < (l.length : Int) := by omega
                  obtain ⟨b', o', hao', hk0, hk1⟩ := (avas_below hA.out hBk) k hkl
                  cases hao'
                  have hx0 := (hBk.cell (World.block_lt_of_cell? w _ HW0.out)).trans HW0.out
                  by_cases he : l[k].t.data.toList = x.t.data.toList
                  · have HN2 := Lib.hid (HPN.out ((hasB_iff l i x.t).2 ⟨k, hkl, hki, he⟩))
                    have hee : l[k].t = x.t := kt.str_eq he
                    rw [hee] at hk0
                    clear he hee hk1
                    go_wp2_with fail
                    go_quiet (fail)
                    go_wp2_with fail
                    go_ret
                    exact ⟨kt.ret_bool HN2.out, dr_drewN hBk nq⟩
                  · have HN2 : Hid (¬ Has l (k + 1) x.t) := by
                      rintro ⟨j, hj, h1, h2⟩
                      by_cases e : j = k
                      · subst e; exact he h2
                      · exact hN.out ⟨j, hj, by omega, h2⟩
                    generalize l[k].t = y at hk0 he
                    have g1 : (y.toList == x.t.toList) = false := by rw [str_beq, decide_eq_false he]
                    clear he hk1
                    go_wp2_with fail
                    go_quiet (fail)
                    go_wp2_with fail
                    go_roundw
                    case rel => exact ⟨k + 1, by omega, by go_num, HN2, dr_drewN hBk nq⟩
                    case measure => simp [intOf]; omega
                · obtain rfl : k = i := by omega
                  have hh : hasB l k x.t = false := by
                    rw [Bool.eq_false_iff]
                    exact fun h => hN.out ((hasB_iff l k x.t).1 h)
                  have HY := Lib.hid (HPY.out hh)
                  clear hh
                  go_wp2_with fail
                  go_roundw
                  case rel => exact ⟨k + 1, by omega, by go_num, HY, hBk⟩
                  case measure => simp [intOf]; omega
        · obtain rfl : i = l.length := by omega
          have HN := Lib.hid (rdnOK_yes (l := l) (by omega) (by omega) (fun j hj => hP.out j hj hj))
          go_wp2_with fail
          go_ret
          exact ⟨kt.ret_bool HN.out, hB⟩
set_option maxRecDepth 20000 in
set_option maxHeartbeats 2000000 in
theorem rright_any (ao : Option Addr) (cap : Nat) (n : List (List Av)) (w : World) (hA : Hid (Rdns w ao n)) (hn : n.length ≤ 1000) (hS : Hid (∀ l ∈ n, l.length ≤ 4 → Smalls l)) :
    Calls Tryz.prog 7 #[.slice ao n.length cap] w fun e w' => e = .returned (.bool (nameOK n)) ∧ Below w.heap.size w w' := by
  go_enter Tryz.func7, Tryz.ntmps7
  go_wp2_with fail
  go_loopw [3] (fun iv wr => ∃ i : Nat, i ≤ n.length ∧ iv = .int .i64 (i : Int) ∧ Hid (∀ j (hj : j < n.length), j < i → rdnOK n[j] = true) ∧ Below w.heap.size w wr) (fun iv _ => n.length - (intOf iv).toNat)
  case atStart => exact ⟨0, Nat.zero_le _, rfl, fun j _ h => by omega, Below.refl _ _⟩
  case round =>
    obtain ⟨i, hi, rfl, hP, hB⟩ := hrel
    have hsz := hB.size
    by_cases hlt : i < n.length
    · have hlt' : (i : Int) < (n.length : Int) := by omega
      obtain ⟨b, o, ao', cap', hao, hc0, hcc, hAv⟩ := (rdns_below hA.out hB) i hlt
      subst hao
      have hSm := hS.out n[i] (List.getElem_mem hlt)
      have hpn := fun h => nameOK_no (n := n) hlt h
      have hpy : rdnOK n[i] = true → ∀ j (hj : j < n.length), j < i + 1 → rdnOK n[j] = true := by
        intro h j hj hji
        by_cases e : j = i
        · subst e; exact h
        · exact hP.out j hj (by omega)
      have CR := rrdn_any ao' cap' n[i] wr (Lib.hid hAv) (Lib.hid hSm)
      generalize n[i] = l at hc0 hpn hpy CR
      generalize hm : l.length = m at hc0 CR
      cases hr : rdnOK l with
      | false =>
        rw [hr] at CR
        have HN := Lib.hid (hpn hr)
        have HC := Lib.hid CR
        clear CR hpn hpy hr hm hAv hSm hcc
        go_wp2_with fail
        refine HC.out.mono ?_
        rintro e w2 ⟨rfl, hB2⟩
        go_wp2_with fail
        go_ret
        exact ⟨kt.ret_bool HN.out, hB.trans (hB2.mono hsz)⟩
      | true =>
        rw [hr] at CR
        have HY := Lib.hid (hpy hr)
        have HC := Lib.hid CR
        clear CR hpn hpy hr hm hAv hSm hcc
        go_wp2_with fail
        refine HC.out.mono ?_
        rintro e w2 ⟨rfl, hB2⟩
        go_wp2_with fail
        go_roundw
        case rel => exact ⟨i + 1, by omega, by go_num, HY, hB.trans (hB2.mono hsz)⟩
        case measure => simp [intOf]; omega
    · obtain rfl : i = n.length := by omega
      have HN := Lib.hid (nameOK_all (n := n) (fun j hj => hP.out j hj hj))
      by_cases h12 : n.length ≤ 12
      · have h12' : (n.length : Int) ≤ 12 := by omega
        have HN2 := Lib.hid ((decide_eq_true h12).symm.trans HN.out)
        go_wp2_with fail
        go_ret
        exact ⟨kt.ret_bool HN2.out, hB⟩
      · have h12' : decide ((n.length : Int) ≤ 12) = false := by rw [decide_eq_false_iff_not]; omega
        have HN2 := Lib.hid ((decide_eq_false h12).symm.trans HN.out)
        go_wp2_with fail
        go_ret
        exact ⟨kt.ret_bool HN2.out, hB⟩
end dnw
end Go.Proofs.YtjjbmhndakmkbaaGreatDoor
