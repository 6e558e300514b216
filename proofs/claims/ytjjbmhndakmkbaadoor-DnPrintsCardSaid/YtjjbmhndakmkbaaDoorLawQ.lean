/- The walk of the statement DnPrints. -/
import Derived.Test.YtjjbmhndakmkbaaDoorAwakeW
import Derived.Test.YtjjbmhndakmkbaaDoorParseV
import Derived.Test.YtjjbmhndakmkbaaDoorEqualW
import Derived.Test.YtjjbmhndakmkbaaDoorRPrintW
import Derived.Test.YtjjbmhndakmkbaaDoorLongW
namespace Go.Proofs.YtjjbmhndakmkbaaDoor
open Go.RowKit
namespace dnw
open dnp
set_option linter.unusedVariables false
set_option linter.unusedSimpArgs false
theorem depth_any (ao : Option Addr) (m cap : Nat) (w : World) : Calls Tryd.prog 15 #[.slice ao m cap] w fun e w' => e = .returned (.int .i64 (m : Int)) ∧ w = w' := by
  go_enter Tryd.func15, Tryd.ntmps15
  go_wp2_with fail
  go_ret
  exact ⟨rfl, rfl⟩
theorem printR_cases (n : List (List Av)) : (nameOK n = false ∧ printR n = ([], 4)) ∨ (nameOK n = true ∧ printR n = ([], 5) ∧ 1000 < (nameX n).length) ∨ (nameOK n = true ∧ printR n = (nameX n, 0) ∧ (nameX n).length ≤ 1000) := by
  unfold printR
  cases h : nameOK n with
  | false => exact Or.inl ⟨rfl, by simp⟩
  | true =>
    by_cases h2 : 1000 < (nameX n).length
    · exact Or.inr (Or.inl ⟨rfl, by simp [h2], h2⟩)
    · exact Or.inr (Or.inr ⟨rfl, by simp [h2], by omega⟩)
theorem parseV_print {n : List (List Av)} (h : nameOK n = true) (h2 : (nameX n).length ≤ 1000) : parseV (bytes (nameX n)) = (n, 0) := by
  unfold parseV
  rw [if_neg (by rw [← kt.size_len, bytes_data]; omega), bytes_data, parse_print n h]
set_option maxRecDepth 20000 in
set_option maxHeartbeats 4000000 in
theorem dnprints_any (ao : Option Addr) (cap : Nat) (n : List (List Av)) (w : World) (hE : Hid (prw.Env w)) (hT : Hid (Tabs w)) (hR : Rdns w ao n) (hc : n.length ≤ cap) (hm : n.length ≤ 9223372036854775807) (hk : ∀ l ∈ n, l.length ≤ 9223372036854775807) :
    Calls Tryd.prog 4 #[.slice ao n.length cap] w fun e w' => e = .returned (.bool true) ∧ Below w.heap.size w w' := by
  clear hc hm hk
  have HR := Lib.hid hR
  have CA := Lib.hid (awake_any w hE hT)
  obtain ⟨m, hm⟩ : ∃ m, m = n.length := ⟨_, rfl⟩
  have HM := Lib.hid hm
  rw [← hm]
  have HLg : Hid (∀ W, Below w.heap.size w W → Calls Tryd.prog 10 #[.slice ao m cap] W fun e w' => LongE n e ∧ W = w') := by
    intro W hb
    have := long_any ao cap n W (Lib.hid (rdns_below HR.out hb))
    rw [← hm] at this
    exact this
  clear hm hR
  go_enter Tryd.func4, Tryd.ntmps4
  go_wp2_with fail
  refine CA.out.mono ?_
  rintro e w1 ⟨rfl, hB1⟩
  have HB1 := Lib.hid hB1
  have HL1 := Lib.hid (HLg.out w1 hB1)
  clear hB1
  go_wp2_with fail
  refine HL1.out.mono ?_
  rintro e w2 ⟨⟨lg, rfl, hlg⟩, rfl⟩
  cases lg with
  | true =>
    go_wp2_with fail
    go_ret
    exact ⟨rfl, HB1.out⟩
  | false =>
    have hsm := hlg rfl
    have HSM := Lib.hid hsm
    have hm30 : m ≤ 30 := by rw [HM.out]; exact hsm.1
    have HSS : Hid (∀ l ∈ n, l.length ≤ 4 → Smalls l) := fun l hl _ => smallN_smalls hsm l hl
    have HEb : Hid (∀ W, Below w.heap.size w W → Hid (prw.Env W)) := fun W hb => Lib.hid (prw.env_below hE.out hb)
    have HTb : Hid (∀ W, Below w.heap.size w W → Hid (Tabs W)) := fun W hb => Lib.hid (tabs_below hT.out hb)
    obtain ⟨s, hs⟩ : ∃ s, s = bytes (printR n).1 := ⟨_, rfl⟩
    obtain ⟨er, her⟩ : ∃ er : Int, er = ((printR n).2 : Int) := ⟨_, rfl⟩
    have HPr : Hid (∀ W, Below w.heap.size w W → Calls Tryd.prog 11 #[.slice ao m cap] W fun e w' => e = .returned (.tuple #[.string s, .int .i64 er]) ∧ Below W.heap.size W w') := by
      intro W hb
      have := print_any ao cap n W (Lib.hid (rdns_below HR.out hb)) (HEb.out W hb) HSS
      rw [← HM.out] at this
      refine this.mono fun e w' h => ⟨?_, h.2⟩
      have h1 := h.1
      unfold PrintE at h1
      rw [← hs, ← her] at h1
      exact h1
    have HRp : Hid (∀ W, Below w.heap.size w W → Calls Tryd.prog 12 #[.slice ao m cap] W fun e w' => e = .returned (.tuple #[.string s, .int .i64 er]) ∧ Below W.heap.size W w') := by
      intro W hb
      have := rprint_any ao cap n W (Lib.hid (rdns_below HR.out hb)) (by rw [← HM.out]; omega) HSS
      rw [← HM.out] at this
      refine this.mono fun e w' h => ⟨?_, h.2⟩
      have h1 := h.1
      unfold PrintE at h1
      rw [← hs, ← her] at h1
      exact h1
    have HRt : Hid (∀ W, Below w.heap.size w W → Calls Tryd.prog 13 #[.slice ao m cap] W fun e w' => e = .returned (.bool (nameOK n)) ∧ Below W.heap.size W w') := by
      intro W hb
      have := right_any ao cap n W (Lib.hid (rdns_below HR.out hb)) (HEb.out W hb) HSS
      rw [← HM.out] at this
      exact this
    have HRr : Hid (∀ W, Below w.heap.size w W → Calls Tryd.prog 14 #[.slice ao m cap] W fun e w' => e = .returned (.bool (nameOK n)) ∧ Below W.heap.size W w') := by
      intro W hb
      have := rright_any ao cap n W (Lib.hid (rdns_below HR.out hb)) (by rw [← HM.out]; omega) HSS
      rw [← HM.out] at this
      exact this
    have HDp : Hid (∀ W, Calls Tryd.prog 15 #[.slice ao m cap] W fun e w' => e = .returned (.int .i64 (m : Int)) ∧ W = w') := fun W => depth_any ao m cap W
    have hcase := printR_cases n
    have HPA : Hid (∀ W, Below w.heap.size w W → s.size ≤ 1000 → Calls Tryd.prog 7 #[.string s] W fun e w' => Below W.heap.size W w' ∧ ∃ ao cap, e = .returned (.tuple #[.slice ao (parseV s).1.length cap, .int .i64 (parseV s).2]) ∧ Rdns w' ao (parseV s).1) := by
      intro W hb h
      exact (parse_any s W (by omega) (HEb.out W hb) (HTb.out W hb)).mono fun e w' h => parseE_V h
    have HQ : Hid (∀ W bo cb, Below w.heap.size w W → Rdns W bo n → Calls Tryd.prog 9 #[.slice bo m cb, .slice ao m cap] W fun e w' => e = .returned (.bool true) ∧ Below W.heap.size W w') := by
      intro W bo cb hb h2
      have := equal_any bo ao cb cap n n W (Lib.hid h2) (Lib.hid (rdns_below HR.out hb)) (by rw [← HM.out]; omega) (by rw [← HM.out]; omega) (Lib.hid (fun l hl => by have := (HSM.out.2 l hl).1; omega)) (Lib.hid (fun l hl => by have := (HSM.out.2 l hl).1; omega))
      rw [← HM.out] at this
      refine this.mono fun e w' h => ?_
      obtain ⟨hb, r, rfl, hr⟩ := h
      rw [hr.2 rfl]
      exact ⟨rfl, hb⟩
    have hcase' : (er = 4 ∧ s = ⟨#[]⟩) ∨ (er = 5 ∧ s = ⟨#[]⟩) ∨ (er = 0 ∧ s.size ≤ 1000 ∧ parseV s = (n, 0)) := by
      rcases hcase with ⟨_, h⟩ | ⟨_, h, _⟩ | ⟨h1, h, h2⟩
      · refine Or.inl ⟨by rw [her, h]; rfl, by rw [hs, h]; rfl⟩
      · refine Or.inr (Or.inl ⟨by rw [her, h]; rfl, by rw [hs, h]; rfl⟩)
      · refine Or.inr (Or.inr ⟨by rw [her, h]; rfl, ?_, ?_⟩)
        · rw [hs, h, ← kt.size_len, bytes_data]; exact h2
        · rw [hs, h]; exact parseV_print h1 h2
    have q1 : (s.toList == s.toList) = true := by rw [beq_iff_eq]
    generalize nameOK n = ok at HRt HRr
    clear hcase hs her hlg hsm
    go_wp2_with fail
    refine (HPr.out _ HB1.out).mono ?_
    rintro e w2 ⟨rfl, hB2⟩
    have HB2 := Lib.hid (HB1.out.trans (hB2.mono HB1.out.size))
    clear hB2
    go_wp2_with fail
    refine (HRp.out _ HB2.out).mono ?_
    rintro e w3 ⟨rfl, hB3⟩
    have HB3 := Lib.hid (HB2.out.trans (hB3.mono HB2.out.size))
    clear hB3
    go_wp2_with fail
    refine (HRt.out _ HB3.out).mono ?_
    rintro e w4 ⟨rfl, hB4⟩
    have HB4 := Lib.hid (HB3.out.trans (hB4.mono HB3.out.size))
    clear hB4
    go_wp2_with fail
    refine (HRr.out _ HB4.out).mono ?_
    rintro e w5 ⟨rfl, hB5⟩
    have HB5 := Lib.hid (HB4.out.trans (hB5.mono HB4.out.size))
    clear hB5
    have q2 : (ok == ok) = true := by rw [beq_iff_eq]
    go_wp2_with fail
    refine (HDp.out _).mono ?_
    rintro e w6 ⟨rfl, rfl⟩
    rcases hcase' with ⟨rfl, rfl⟩ | ⟨rfl, rfl⟩ | ⟨rfl, hs1, hpv⟩
    · go_wp2_with fail
      go_ret
      exact ⟨rfl, HB5.out⟩
    · go_wp2_with fail
      go_ret
      exact ⟨rfl, HB5.out⟩
    · have hpa := HPA.out _ HB5.out hs1
      rw [hpv] at hpa
      simp only at hpa
      rw [← HM.out] at hpa
      have HPA2 := Lib.hid hpa
      clear hpa hpv
      go_wp2_with fail
      refine HPA2.out.mono ?_
      rintro e w7 ⟨hB7, bo, cb, rfl, hN⟩
      have HB7 := Lib.hid (HB5.out.trans (hB7.mono HB5.out.size))
      have HN := Lib.hid hN
      clear hB7 hN
      go_wp2_with fail
      refine (HQ.out _ _ _ HB7.out HN.out).mono ?_
      rintro e w8 ⟨rfl, hB8⟩
      go_wp2_with fail
      go_ret
      exact ⟨rfl, HB7.out.trans (hB8.mono HB7.out.size)⟩
end dnw
end Go.Proofs.YtjjbmhndakmkbaaDoor
