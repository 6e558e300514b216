/- The walks of the statements FreeReads and FreePieces; free pages that came in, opened. -/
import Derived.Test.YtcmpepojokmhnaaRDec
import Derived.Test.YtcmpepojokmhnaaOpenS
import Derived.Test.YtcmpepojokmhnaaAwake
namespace Go.Proofs.Ytcmpepojokmhnaa
open Go.RowKit Go.ChangeShapes Go.WideShapes Go.Deep
namespace fre
open fldw
set_option linter.unusedVariables false
theorem decF_small {s : List UInt8} {n : Int} {l : List Fre} {er : Int} (h : DecF s n l er) : l.length ≤ 1000000 := by
  rcases h with ⟨_, h⟩ | ⟨_, h, _⟩
  · have := h.1.2.2.1; omega
  · rw [h]; simp
set_option maxRecDepth 20000 in
set_option maxHeartbeats 1000000 in
theorem reads_any (s : ByteArray) (w : World) (ha : s.size ≤ 140737488351232) :
    Calls Try.prog 7 #[.string s] w fun e w' => e = .returned (.bool true) ∧ Below w.heap.size w w' := by
  have A := Lib.hid awake_true
  by_cases h : 2000 < s.size
  · have h' : 2000 < (s.size : Int) := by omega
    clear h
    go_enter Try.func7, Try.ntmps7
    go_wp2_with fail
    refine (A.out _).mono ?_
    rintro e w1 ⟨rfl, hB1⟩
    go_wp2_with fail
    go_ret
    exact ⟨rfl, hB1⟩
  · have h' : ¬ 2000 < (s.size : Int) := by omega
    have D := Lib.hid (fun w => decode_any s w (by omega))
    have R := Lib.hid (fun w => rdecode_any s w (by omega))
    clear h
    go_enter Try.func7, Try.ntmps7
    go_wp2_with fail
    refine (A.out _).mono ?_
    rintro e w1 ⟨rfl, hB1⟩
    go_wp2_with fail
    refine (D.out _).mono ?_
    rintro e w2 ⟨⟨n1, ao, cap, l, er, rfl, hD, hC⟩, hB2⟩
    have HD := Lib.hid hD
    have HC := Lib.hid hC
    clear hD hC
    go_wp2_with fail
    refine (R.out _).mono ?_
    rintro e w3 ⟨⟨n2, ao2, cap2, l2, er2, rfl, hD2, hC2⟩, hB3⟩
    obtain ⟨rfl, rfl, rfl⟩ := decF_one HD.out hD2
    have S := Lib.hid (same_any ao ao2 cap cap2 l l w3 (Lib.hid (fres_below HC.out hB3)) (Lib.hid hC2) (decF_small HD.out))
    rw [decide_eq_true rfl] at S
    have HB : Hid (Below w.heap.size w w3) := (hB1.trans (hB2.mono hB1.size)).trans (hB3.mono (Nat.le_trans hB1.size hB2.size))
    clear hD2 hC2
    go_wp2_with fail
    refine S.out.mono ?_
    rintro e w4 ⟨rfl, hB4⟩
    go_wp2_with fail
    go_ret
    exact ⟨rfl, HB.out.trans (hB4.mono HB.out.size)⟩
set_option maxRecDepth 20000 in
set_option maxHeartbeats 2000000 in
theorem pieces_law (next : Int) (ao : Option Addr) (cap : Nat) (l : List Fre) (w : World) (hl : Hid (Fres w ao l)) (hn : l.length ≤ 9223372036854775807) :
    Calls Try.prog 8 #[.int .i64 next, .slice ao l.length cap] w fun e w' => e = .returned (.bool true) ∧ Below w.heap.size w w' := by
  have A := Lib.hid awake_true
  by_cases h : 100 < l.length
  · have h' : 100 < (l.length : Int) := by omega
    clear h
    go_enter Try.func8, Try.ntmps8
    go_wp2_with fail
    refine (A.out _).mono ?_
    rintro e w1 ⟨rfl, hB1⟩
    go_wp2_with fail
    go_ret
    exact ⟨rfl, hB1⟩
  · have h' : ¬ 100 < (l.length : Int) := by omega
    have HL : Hid (l.length ≤ 100) := by show _ ≤ _; omega
    have E := Lib.hid (fun w' (h : Below w.heap.size w w') => encode_any next ao cap l w' (Lib.hid (fres_below hl.out h)) hn)
    have RE := Lib.hid (fun w' (h : Below w.heap.size w w') => rencode_any next ao cap l w' (Lib.hid (fres_below hl.out h)) hn)
    have HNN := Lib.hid hn
    clear h hn
    go_enter Try.func8, Try.ntmps8
    go_wp2_with fail
    refine (A.out _).mono ?_
    rintro e w1 ⟨rfl, hB1⟩
    go_wp2_with fail
    refine (E.out _ hB1).mono ?_
    rintro e w2 ⟨⟨x, er, rfl, hE⟩, hB2⟩
    have HB2 : Hid (Below w.heap.size w w2) := hB1.trans (hB2.mono hB1.size)
    have HE := Lib.hid hE
    clear hE
    go_wp2_with fail
    refine (RE.out _ HB2.out).mono ?_
    rintro e w3 ⟨⟨x2, er2, rfl, hE2⟩, hB3⟩
    obtain ⟨rfl, rfl⟩ := encF_one HE.out hE2
    have HB3 : Hid (Below w.heap.size w w3) := HB2.out.trans (hB3.mono HB2.out.size)
    clear hE2
    by_cases he : er = 0
    · subst he
      have hG : MayP next l ∧ x = ⟨(encF next.toNat l).toArray⟩ := by
        rcases HE.out with ⟨_, _, h⟩ | ⟨h1, h2, _⟩
        · cases h
        · exact ⟨h1, h2⟩
      have hxs : x.size ≤ 486 := by
        rw [hG.2, mk_size, encF_len]
        have := hG.1.2.2.1
        omega
      have HG : Hid (GoodF next l x.data.toList) := ⟨hG.1, by rw [hG.2]⟩
      have hxs' : (x.size : Int) ≤ 488 := by omega
      have D := Lib.hid (fun w => decode_any x w (by omega))
      clear hG
      go_wp2_with fail
      refine (D.out _).mono ?_
      rintro e w4 ⟨⟨n1, am, cm, m, er, rfl, hD, hC⟩, hB4⟩
      have hm : er = 0 ∧ n1 = next ∧ m = l := by
        rcases hD with ⟨h1, h2⟩ | ⟨_, _, _, h2⟩
        · exact ⟨h1, good_one h2 HG.out⟩
        · exact absurd HG.out (h2 _ _)
      obtain ⟨rfl, rfl, rfl⟩ := hm
      have HB4 : Hid (Below w.heap.size w w4) := HB3.out.trans (hB4.mono HB3.out.size)
      have S := Lib.hid (same_any am ao cm cap m m w4 (Lib.hid hC) (Lib.hid (fres_below hl.out HB4.out)) (by have := HL.out; omega))
      rw [decide_eq_true rfl] at S
      clear hD hC
      go_wp2_with fail
      refine S.out.mono ?_
      rintro e w5 ⟨rfl, hB5⟩
      go_wp2_with fail
      go_ret
      exact ⟨rfl, HB4.out.trans (hB5.mono HB4.out.size)⟩
    · have he' : (er == 0) = false := by simpa using he
      have hx : x = ⟨#[]⟩ := by
        rcases HE.out with ⟨_, h, _⟩ | ⟨_, _, h⟩
        · exact h
        · exact absurd h he
      subst hx
      clear he
      go_wp2_with fail
      go_ret
      exact ⟨rfl, HB3.out⟩
theorem fres_of {H : Type} {enc : TypeId × Value → H} {w : World} {base : Nat} {sp : Nat → Bool} {held : Bool} {d : DataW H} {p : List MemPlace} {ao : Option Addr} {len cap : Nat}
    (h : ∃ fuel, DataW.trod enc Try.prog w base sp held fuel 39 [.slice ao len cap] = some (d, p)) : ∃ l : List Fre, len = l.length ∧ Fres w ao l ∧ len ≤ 9223372036854775807 := by
  obtain ⟨fuel, h⟩ := h
  rcases opn.open_slice_fields Try.underlying39 Try.underlying28 (by kernel_rfl) (by kernel_rfl) h with ⟨hcs, _⟩ | ⟨a, len', cap', m, D, Pl, hcs, _, hlc, hcm, hm, _, hf⟩
  · simp at hcs
    obtain ⟨rfl, rfl, rfl⟩ := hcs
    exact ⟨[], rfl, fun i hi => by simp at hi, by omega⟩
  · simp at hcs
    obtain ⟨rfl, rfl, rfl⟩ := hcs
    have hlm : len ≤ m := by rw [hm]; split <;> omega
    have hlmax : len ≤ 9223372036854775807 := by unfold maxLen at hcm; omega
    have key : ∀ i, i < len → ∃ c : Fre, ∃ b o, some a = some ⟨b, o, none⟩ ∧ w.cell? ⟨b, o + i * 2, none⟩ = some (.int .i64 c.txn) ∧ w.cell? ⟨b, o + i * 2 + 1, none⟩ = some (.int .i64 c.page) := by
      intro i hi
      obtain ⟨ys, n, _, _, _, hfs⟩ := hf i (by omega)
      obtain ⟨v0, y0, c0, _, t0⟩ := hfs 0 _ rfl
      obtain ⟨v1, y1, c1, _, t1⟩ := hfs 1 _ rfl
      obtain ⟨t, e0, _⟩ := DataW.trod_int Try.underlying3 t0
      obtain ⟨q, e1, _⟩ := DataW.trod_int Try.underlying3 t1
      simp only [List.cons.injEq, and_true] at e0 e1
      subst e0 e1
      have hcell : ∃ b o, a = ⟨b, o, none⟩ := by
        obtain ⟨ys0, n0, _, _, _, hfs0⟩ := hf 0 (by omega)
        obtain ⟨v, y, c, _, _⟩ := hfs0 0 _ rfl
        obtain ⟨b, o, s⟩ := a
        have e0 : (⟨b, o, s⟩ : Addr).add (0 * 2 + 0) = ⟨b, o, s⟩ := by unfold Addr.add; rfl
        have hc : w.cell? ((⟨b, o, s⟩ : Addr).add (0 * 2 + 0)) = some v := c
        rw [e0] at hc
        obtain rfl := opn.cell_spot hc
        exact ⟨b, o, rfl⟩
      obtain ⟨b, o', rfl⟩ := hcell
      have ad : ∀ j, (⟨b, o', none⟩ : Addr).add j = ⟨b, o' + j, none⟩ := fun j => by rw [Addr.add_mid]
      have d0 : w.cell? ((⟨b, o', none⟩ : Addr).add (i * 2 + 0)) = _ := c0
      have d1 : w.cell? ((⟨b, o', none⟩ : Addr).add (i * 2 + 1)) = _ := c1
      rw [ad] at d0 d1
      exact ⟨⟨t, q⟩, b, o', rfl, d0, by rw [Nat.add_assoc]; exact d1⟩
    obtain ⟨l, hl, hq⟩ := opn.list_of len key
    exact ⟨l, hl.symm, hq, hlmax⟩
end fre
end Go.Proofs.Ytcmpepojokmhnaa
