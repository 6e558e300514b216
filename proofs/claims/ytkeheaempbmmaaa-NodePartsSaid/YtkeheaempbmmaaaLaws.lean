/- The walks of the statements NodeDecodes and NodeEncodes. -/
import Derived.Test.YtkeheaempbmmaaaRDec
namespace Go.Proofs.Ytkeheaempbmmaaa
open Go.RowKit
namespace nod
open fldw
set_option maxRecDepth 20000 in
set_option maxHeartbeats 1000000 in
theorem decodes_any (leaf : Bool) (s : ByteArray) (w : World) (ha : s.size ≤ 140737488351232) :
    Calls Try.prog 3 #[.bool leaf, .string s] w fun e w' => e = .returned (.bool true) ∧ Below w.heap.size w w' := by
  have A := Lib.hid (fun w => awake_true w)
  by_cases h : 2000 < s.size
  · have h' : 2000 < (s.size : Int) := by omega
    clear h
    go_enter Try.func3, Try.ntmps3
    go_wp2_with fail
    refine (A.out _).mono ?_
    rintro e w1 ⟨rfl, hB1⟩
    go_wp2_with fail
    go_ret
    exact ⟨rfl, hB1⟩
  · have h' : ¬ 2000 < (s.size : Int) := by omega
    have D := Lib.hid (fun w => decode_any leaf s w (by omega))
    have R := Lib.hid (fun w => rdecode_any leaf s w (by omega))
    clear h
    go_enter Try.func3, Try.ntmps3
    go_wp2_with fail
    refine (A.out _).mono ?_
    rintro e w1 ⟨rfl, hB1⟩
    go_wp2_with fail
    refine (D.out _).mono ?_
    rintro e w2 ⟨⟨ao, cap, l, er, rfl, hD, hC⟩, hB2⟩
    have HD := Lib.hid hD
    have HC := Lib.hid hC
    clear hD hC
    go_wp2_with fail
    refine (R.out _).mono ?_
    rintro e w3 ⟨⟨ao2, cap2, l2, er2, rfl, hD2, hC2⟩, hB3⟩
    obtain ⟨rfl, rfl⟩ := dec_one HD.out hD2
    have hlm : l.length ≤ 1000000 := by
      rcases HD.out with ⟨_, hg⟩ | ⟨_, hg, _⟩
      · have := (good_short hg).1; omega
      · subst hg; simp
    have S := Lib.hid (same_any ao ao2 cap cap2 l l w3 (Lib.hid (cels_below HC.out hB3)) (Lib.hid hC2) hlm)
    rw [decide_eq_true rfl] at S
    clear hD2 hC2
    have hB : Below w.heap.size w w3 := (hB1.trans (hB2.mono hB1.size)).trans (hB3.mono (Nat.le_trans hB1.size hB2.size))
    have HB := Lib.hid hB
    clear hB
    go_wp2_with fail
    refine S.out.mono ?_
    rintro e w4 ⟨rfl, hB4⟩
    go_wp2_with fail
    go_ret
    exact ⟨rfl, HB.out.trans (hB4.mono HB.out.size)⟩
theorem bool_one {P : Prop} {a b : Bool} (h : a = true ↔ P) (k : b = true ↔ P) : a = b := by
  rw [Bool.eq_iff_iff, h, k]
set_option maxRecDepth 20000 in
set_option maxHeartbeats 4000000 in
theorem encodes_any (leaf : Bool) (ao : Option Addr) (cap : Nat) (l : List Cel) (w : World) (hl : Hid (Cels w ao l)) (hn : l.length ≤ 9223372036854775807) :
    Calls Try.prog 4 #[.bool leaf, .slice ao l.length cap] w fun e w' => e = .returned (.bool true) ∧ Below w.heap.size w w' := by
  have A := Lib.hid (fun w => awake_true w)
  have L := Lib.hid (fun w' (h : Below w.heap.size w w') => longl_any ao cap l w' (cels_below hl.out h) hn)
  have HN := Lib.hid hn
  clear hn
  go_enter Try.func4, Try.ntmps4
  go_wp2_with fail
  refine (A.out _).mono ?_
  rintro e w1 ⟨rfl, hB1⟩
  go_wp2_with fail
  refine (L.out _ hB1).mono ?_
  rintro e w2 ⟨⟨b, rfl, hb⟩, hB2⟩
  have HB2 : Hid (Below w.heap.size w w2) := hB1.trans (hB2.mono hB1.size)
  cases b with
  | true =>
    clear hb
    go_wp2_with fail
    go_ret
    exact ⟨rfl, HB2.out⟩
  | false =>
    obtain ⟨hlen, hsm⟩ := hb rfl
    have HS : Hid (∀ c ∈ l, c.key.size ≤ 1000000 ∧ c.val.size ≤ 1000000) := fun c hc => by have := hsm c hc; omega
    clear hb hsm
    have E := Lib.hid (fun w' (h : Below w.heap.size w w') => encode_any leaf ao cap l w' (Lib.hid (cels_below hl.out h)) HS (by omega))
    have RE := Lib.hid (fun w' (h : Below w.heap.size w w') => rencode_any leaf ao cap l w' (Lib.hid (cels_below hl.out h)) HS (by omega))
    have R := Lib.hid (fun w' (h : Below w.heap.size w w') => right_any leaf ao cap l w' (Lib.hid (cels_below hl.out h)) (by omega))
    have RR := Lib.hid (fun w' (h : Below w.heap.size w w') => rright_any leaf ao cap l w' (Lib.hid (cels_below hl.out h)) (fun c hc => (HS.out c hc).1) (by omega))
    have Y := Lib.hid (fun w' (h : Below w.heap.size w w') => bytes_any leaf ao cap l w' (Lib.hid (cels_below hl.out h)) HS (by omega))
    have RY := Lib.hid (fun w' (h : Below w.heap.size w w') => rbytes_any leaf ao cap l w' (Lib.hid (cels_below hl.out h)) HS (by omega))
    go_wp2_with fail
    refine (E.out _ HB2.out).mono ?_
    rintro e w3 ⟨⟨x, er, rfl, hE⟩, hB3⟩
    have HB3 : Hid (Below w.heap.size w w3) := HB2.out.trans (hB3.mono HB2.out.size)
    have HE := Lib.hid hE
    clear hE
    go_wp2_with fail
    refine (RE.out _ HB3.out).mono ?_
    rintro e w4 ⟨⟨x2, er2, rfl, hE2⟩, hB4⟩
    obtain ⟨rfl, rfl⟩ := enc_one HE.out hE2
    clear hE2
    have HB4 : Hid (Below w.heap.size w w4) := HB3.out.trans (hB4.mono HB3.out.size)
    go_wp2_with fail
    refine (R.out _ HB4.out).mono ?_
    rintro e w5 ⟨⟨b1, rfl, hb1⟩, hB5⟩
    have HB5 : Hid (Below w.heap.size w w5) := HB4.out.trans (hB5.mono HB4.out.size)
    have Hb1 := Lib.hid hb1
    clear hb1
    go_wp2_with fail
    refine (RR.out _ HB5.out).mono ?_
    rintro e w6 ⟨⟨b2, rfl, hb2⟩, hB6⟩
    have HB6 : Hid (Below w.heap.size w w6) := HB5.out.trans (hB6.mono HB5.out.size)
    obtain rfl := bool_one Hb1.out hb2
    clear hb2
    go_wp2_with fail
    refine (Y.out _ HB6.out).mono ?_
    rintro e w7 ⟨⟨n1, rfl, hn1⟩, hB7⟩
    have HB7 : Hid (Below w.heap.size w w7) := HB6.out.trans (hB7.mono HB6.out.size)
    have Hn1 := Lib.hid hn1
    clear hn1
    go_wp2_with fail
    refine (RY.out _ HB7.out).mono ?_
    rintro e w8 ⟨⟨n2, rfl, hn2⟩, hB8⟩
    have HB8 : Hid (Below w.heap.size w w8) := HB7.out.trans (hB8.mono HB7.out.size)
    obtain rfl := bytes_one Hn1.out hn2
    clear hn2
    by_cases he : er = 0
    · subst he
      have HG : Hid (Good leaf l x) := dec_yes HE.out rfl
      have hx := good_size HG.out
      have hx2 := HG.out.2.1
      have D := Lib.hid (fun w => decode_any leaf x w (by omega))
      have hnx : n1 = x.size := by
        rcases Hn1.out with ⟨_, h⟩ | ⟨h, _⟩
        · omega
        · exact absurd HG.out.1 h
      have hxs : x.size ≤ 488 := by omega
      have hxs' : (x.size : Int) ≤ 488 := by omega
      subst hnx
      clear hx hx2
      go_wp2_with fail
      refine (D.out _).mono ?_
      rintro e w9 ⟨⟨am, cm, m, er, rfl, hD, hC⟩, hB9⟩
      have HB9 : Hid (Below w.heap.size w w9) := HB8.out.trans (hB9.mono HB8.out.size)
      have hm : er = 0 ∧ m = l := by
        rcases hD with ⟨h1, h2⟩ | ⟨_, _, h2⟩
        · exact ⟨h1, good_one h2 HG.out⟩
        · exact absurd HG.out (h2 l)
      obtain ⟨rfl, rfl⟩ := hm
      have S := Lib.hid (same_any am ao cm cap m m w9 (Lib.hid hC) (Lib.hid (cels_below hl.out HB9.out)) (by omega))
      rw [decide_eq_true rfl] at S
      clear hD hC
      go_wp2_with fail
      refine S.out.mono ?_
      rintro e w10 ⟨rfl, hB10⟩
      have HB10 : Hid (Below w.heap.size w w10) := HB9.out.trans (hB10.mono HB9.out.size)
      go_wp2_with fail
      refine (Y.out _ HB10.out).mono ?_
      rintro e w11 ⟨⟨n3, rfl, hn3⟩, hB11⟩
      obtain rfl := bytes_one hn3 Hn1.out
      clear hn3
      go_wp2_with fail
      go_ret
      exact ⟨rfl, HB10.out.trans (hB11.mono HB10.out.size)⟩
    · have he' : (er == 0) = false := by simpa using he
      have hx : x = ⟨#[]⟩ := by
        rcases HE.out with ⟨_, h, _⟩ | ⟨_, _, h, _⟩ | ⟨_, _, _, h⟩
        · exact h
        · exact h
        · exact absurd h he
      subst hx
      clear he
      go_wp2_with fail
      go_ret
      exact ⟨rfl, HB8.out⟩
end nod
end Go.Proofs.Ytkeheaempbmmaaa
