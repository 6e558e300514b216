/- The walk of the statement DnParses. -/
import Derived.Test.YtjjbmhndakmkbaaDoorAwakeW
import Derived.Test.YtjjbmhndakmkbaaDoorRParseW
import Derived.Test.YtjjbmhndakmkbaaDoorEqualW
namespace Go.Proofs.YtjjbmhndakmkbaaDoor
open Go.RowKit
namespace dnw
open dnp
set_option linter.unusedVariables false
set_option linter.unusedSimpArgs false
theorem parseR_ok {l : List UInt8} {n : List (List Av)} (h : parseR l = some n) : nameOK n = true := by
  unfold parseR at h
  split at h
  · cases h; rfl
  · split at h
    · cases h
    · split at h
      · cases h; assumption
      · cases h
def parseV (s : ByteArray) : List (List Av) × Int := if 1000 < s.size then ([], 5) else match parseR s.data.toList with
  | none => ([], 4)
  | some n => (n, 0)
theorem parseV_small (s : ByteArray) : (parseV s).1.length ≤ 12 ∧ ∀ l ∈ (parseV s).1, l.length ≤ 4 := by
  unfold parseV
  split
  · simp
  · cases h : parseR s.data.toList with
    | none => simp
    | some n =>
      have hn := nameOK_facts (parseR_ok h)
      exact ⟨hn.1, fun l hl => (rdnOK_facts (hn.2 l hl)).2.1⟩
theorem parseE_V {s : ByteArray} {w : World} {e : Ending} {w' : World} (h : ParseE s w e w') : Below w.heap.size w w' ∧ ∃ ao cap, e = .returned (.tuple #[.slice ao (parseV s).1.length cap, .int .i64 (parseV s).2]) ∧ Rdns w' ao (parseV s).1 := by
  obtain ⟨h1, h2⟩ := h
  refine ⟨h1, ?_⟩
  unfold parseV
  split at h2
  · rename_i hl
    rw [if_pos hl]
    exact ⟨none, 0, h2, fun i hi => by simp at hi⟩
  · rename_i hl
    rw [if_neg hl]
    cases hp : parseR s.data.toList with
    | none =>
      rw [hp] at h2
      exact ⟨none, 0, h2, fun i hi => by simp at hi⟩
    | some n =>
      rw [hp] at h2
      obtain ⟨ao, cap, h3, _, h4, _⟩ := h2
      exact ⟨ao, cap, h3, h4⟩
set_option maxRecDepth 20000 in
set_option maxHeartbeats 4000000 in
theorem dnparses_any (s : ByteArray) (w : World) (hE : Hid (prw.Env w)) (hT : Hid (Tabs w)) (hs : s.size ≤ 140737488351232) :
    Calls Tryd.prog 3 #[.string s] w fun e w' => e = .returned (.bool true) ∧ Below w.heap.size w w' := by
  have CA := Lib.hid (awake_any w hE hT)
  by_cases h3 : 3000 < s.size
  · have h3' : 3000 < (s.size : Int) := by omega
    go_enter Tryd.func3, Tryd.ntmps3
    go_wp2_with fail
    refine CA.out.mono ?_
    rintro e w1 ⟨rfl, hB1⟩
    go_wp2_with fail
    go_ret
    exact ⟨rfl, hB1⟩
  · have h3' : ¬ 3000 < (s.size : Int) := by omega
    obtain ⟨n, hn⟩ : ∃ n, n = (parseV s).1 := ⟨_, rfl⟩
    obtain ⟨er, her⟩ : ∃ er, er = (parseV s).2 := ⟨_, rfl⟩
    obtain ⟨m, hm⟩ : ∃ m, m = n.length := ⟨_, rfl⟩
    have hsm := parseV_small s
    rw [← hn] at hsm
    have HP : Hid (∀ W, Hid (prw.Env W) → Hid (Tabs W) → Calls Tryd.prog 7 #[.string s] W fun e w' => Below W.heap.size W w' ∧ ∃ ao cap, e = .returned (.tuple #[.slice ao m cap, .int .i64 er]) ∧ Rdns w' ao n) := by
      intro W h1 h2
      refine (parse_any s W hs h1 h2).mono fun e w' h => ?_
      have := parseE_V h
      rw [← hn, ← her, ← hm] at this
      exact this
    have HR : Hid (∀ W, Calls Tryd.prog 8 #[.string s] W fun e w' => Below W.heap.size W w' ∧ ∃ ao cap, e = .returned (.tuple #[.slice ao m cap, .int .i64 er]) ∧ Rdns w' ao n) := by
      intro W
      refine (rparse_any s W hs).mono fun e w' h => ?_
      have := parseE_V h
      rw [← hn, ← her, ← hm] at this
      exact this
    have HQ : Hid (∀ W ao ca bo cb, Rdns W ao n → Rdns W bo n → Calls Tryd.prog 9 #[.slice ao m ca, .slice bo m cb] W fun e w' => e = .returned (.bool true) ∧ Below W.heap.size W w') := by
      intro W ao ca bo cb h1 h2
      have := equal_any ao bo ca cb n n W (Lib.hid h1) (Lib.hid h2) (by omega) (by omega) (Lib.hid (fun l hl => by have := hsm.2 l hl; omega)) (Lib.hid (fun l hl => by have := hsm.2 l hl; omega))
      rw [← hm] at this
      refine this.mono fun e w' h => ?_
      obtain ⟨hb, r, rfl, hr⟩ := h
      rw [hr.2 rfl]
      exact ⟨rfl, hb⟩
    have hq : (er == er) = true := by rw [beq_iff_eq]
    clear hsm hm hn her
    go_enter Tryd.func3, Tryd.ntmps3
    go_wp2_with fail
    refine CA.out.mono ?_
    rintro e w1 ⟨rfl, hB1⟩
    have HB1 := Lib.hid hB1
    have HE1 := Lib.hid (prw.env_below hE.out hB1)
    have HT1 := Lib.hid (tabs_below hT.out hB1)
    clear hB1
    go_wp2_with fail
    refine (HP.out _ HE1 HT1).mono ?_
    rintro e w2 ⟨hB2, ao, ca, rfl, hN2⟩
    have HB2 := Lib.hid (HB1.out.trans (hB2.mono HB1.out.size))
    have HN2 := Lib.hid hN2
    clear hB2 hN2
    go_wp2_with fail
    refine (HR.out _).mono ?_
    rintro e w3 ⟨hB3, bo, cb, rfl, hN3⟩
    have HN23 := Lib.hid (rdns_below HN2.out hB3)
    have HB3 := Lib.hid (HB2.out.trans (hB3.mono HB2.out.size))
    have HN3 := Lib.hid hN3
    clear hB3 hN3
    go_wp2_with fail
    refine (HQ.out _ _ _ _ _ HN23.out HN3.out).mono ?_
    rintro e w4 ⟨rfl, hB4⟩
    go_wp2_with fail
    go_ret
    exact ⟨rfl, HB3.out.trans (hB4.mono HB3.out.size)⟩
end dnw
end Go.Proofs.YtjjbmhndakmkbaaDoor
