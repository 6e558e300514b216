/- The walks of the reference's Decode and of Same. -/
import Derived.Test.YtcmpepojokmhnaaREnc
namespace Go.Proofs.Ytcmpepojokmhnaa
open Go.RowKit
namespace fre
open fldw
set_option linter.unusedVariables false
theorem item_at {s : List UInt8} {i : Nat} (h : 6 + 12 * i + 12 ≤ s.length) : itemF s i = ⟨(numAt s (6 + 12 * i) 8 : Nat), (numAt s (6 + 12 * i + 8) 4 : Nat)⟩ := by
  unfold itemF numAt
  rw [if_pos (by omega), if_pos (by omega)]
theorem items_yes {s : List UInt8} {x : ByteArray} {nx N : Nat} (h : EncF (nx : Int) (itemsF s N) x 0) (hx : x.data.toList = s) : GoodF (nx : Int) (itemsF s N) s := by
  rcases h with ⟨_, _, h⟩ | ⟨h1, h2, _⟩
  · cases h
  · refine ⟨h1, ?_⟩
    have : x.data.toList = encF (nx : Int).toNat (itemsF s N) := by rw [h2]
    rw [← this, hx]
theorem items_no {s : List UInt8} {x : ByteArray} {N : Nat} {er : Int} (h : EncF (numAt s 0 4 : Int) (itemsF s N) x er) (hN : 6 + 12 * N ≤ s.length ∨ N = 0) (hN2 : s.length < 6 + 12 * N + 12) (hx : ¬ (er = 0 ∧ x.data.toList = s)) : ∀ k m, ¬ GoodF k m s := by
  intro k m hg
  obtain ⟨h1, h2, h3, h4⟩ := good_len hg
  obtain ⟨_, _, _, h5⟩ := good_items hg
  have e : N = m.length := by omega
  subst e
  rw [h5, h4] at h
  rcases h with ⟨h, _⟩ | ⟨_, h6, h7⟩
  · exact h hg.1
  · exact hx ⟨h7, by rw [h6]; exact hg.2⟩
theorem item_big {s : List UInt8} {i : Nat} (hi : 6 + 12 * i + 12 ≤ s.length) (hb : 1099511627776 < numAt s (6 + 12 * i) 8) : ∀ k m, ¬ GoodF k m s := by
  intro k m hg
  obtain ⟨h1, h2, h3, h4⟩ := good_len hg
  obtain ⟨_, _, _, h5⟩ := good_items hg
  have him : i < m.length := by omega
  have h6 := hg.1.2.2.2.2.1 m[i] (List.getElem_mem him)
  have h7 : m[i] = itemF s i := by
    have : (itemsF s m.length)[i]'(by rw [itemsF_len]; exact him) = itemF s i := by simp [itemsF]
    rw [← this]
    congr 1
    exact h5.symm
  rw [h7, item_at hi] at h6
  have := h6.2.1
  simp only at this
  omega
theorem str_ne {x y : ByteArray} (h : ¬ x = y) : (x.toList == y.toList) = false := by
  rw [beq_eq_false_iff_ne]
  intro e
  exact h (kt.str_eq (by rw [← Lib.toList_data, ← Lib.toList_data, e]))
set_option maxRecDepth 20000 in
set_option maxHeartbeats 2000000 in
theorem rdecode_any (s : ByteArray) (w : World) (hs : s.size ≤ 1000000) :
    Calls Try.prog 25 #[.string s] w fun e w' => DecE s e w' ∧ Below w.heap.size w w' := by
  have TK : ∀ (a k : Nat) (A K : Int) (w : World), A = (a : Int) → K = (k : Int) → a ≤ 2000000 → 1 ≤ k → k ≤ 8 → ∃ er : Int, (er = 0 ↔ a + k ≤ s.size) ∧ Calls Try.prog 37 #[.string s, .int .i64 A, .int .i64 K] w fun e w' => e = .returned (.tuple #[.int .u64 (numAt s.data.toList a k : Int), .int .i64 er]) ∧ w = w' := by
    intro a k A K w hA hK ha h1 h8
    subst hA hK
    obtain ⟨er, hv, hi⟩ := take_form s.data.toList a k h1 h8
    have K := fldw.rtake_any s (a : Int) (k : Int) w hs (by omega) (by omega) (by omega) (by omega)
    rw [hv] at K
    rw [kt.size_len] at hi
    exact ⟨er, hi, K⟩
  have TKH := Lib.hid TK
  have q4 := p4
  obtain ⟨nx, hnx⟩ : ∃ nx : Nat, Hid (nx = numAt s.data.toList 0 4) := ⟨_, rfl⟩
  have hnxb : nx < 4294967296 := by rw [hnx.out]; have := numAt_lt s.data.toList 0 4; omega
  have T0 : Hid (∀ w, ∃ er : Int, (er = 0 ↔ 4 ≤ s.size) ∧ Calls Try.prog 37 #[.string s, .int .i64 0, .int .i64 4] w fun e w' => e = .returned (.tuple #[.int .u64 (nx : Int), .int .i64 er]) ∧ w = w') := fun w => by
    obtain ⟨er, hi, h⟩ := TK 0 4 0 4 w rfl rfl (by omega) (by omega) (by omega)
    rw [hnx.out]
    exact ⟨er, hi, h⟩
  have wx : IntKind.i64.wrap (nx : Int) = (nx : Int) := kt.wrap_i64_nat _ (by omega)
  clear TK q4
  go_enter Try.func25, Try.ntmps25
  go_wp2_with fail
  obtain ⟨er0, he0, C0⟩ := T0.out w
  refine C0.mono ?_
  rintro e w1 ⟨rfl, rfl⟩
  have HE0 := Lib.hid he0
  clear C0 he0
  by_cases h4 : 4 ≤ s.size
  · have h0 : er0 = 0 := HE0.out.2 h4
    subst h0
    by_cases h486 : 486 < s.size
    · have h486' : 486 < (s.size : Int) := by omega
      have HN : Hid (∀ k m, ¬ GoodF k m s.data.toList) := fun k m h => by have := good_len h; rw [kt.size_len] at this; omega
      clear h486
      go_wp2_with fail
      go_ret3
      exact ⟨decE_no HN.out, Below.refl _ _⟩
    · have h486' : ¬ 486 < (s.size : Int) := by omega
      have hs486 : s.size ≤ 486 := by omega
      clear h486
      go_wp2_with fail
      go_loopw [7, 8] (fun lv av wr => ∃ (i : Nat) (v : Value), i ≤ 50 ∧ v = lv ∧ av = .int .i64 ((6 + 12 * i : Nat) : Int) ∧ Hid (6 + 12 * i ≤ s.size ∨ i = 0) ∧ Hid (OwnF wr w.heap.size v (itemsF s.data.toList i)) ∧ Below w.heap.size w wr) (fun _ av _ => 1000 - (intOf av).toNat)
      case atStart => exact ⟨0, _, Nat.zero_le _, rfl, rfl, Or.inr rfl, World.ownsRow_made w #[] 0 (Nat.le_refl _) (by unfold maxLen; omega) rfl, (Below.refl _ _).alloc (Nat.le_refl _) _⟩
      case round =>
        obtain ⟨i, v, hi, rfl, rfl, hor, hO, hB⟩ := hrel
        have hsz := hB.size
        by_cases hin : 6 + 12 * i + 12 ≤ s.size
        · have hin' : ((6 + 12 * i : Nat) : Int) + 12 ≤ (s.size : Int) := by omega
          obtain ⟨er2, _, C2⟩ := TKH.out (6 + 12 * i) 8 ((6 + 12 * i : Nat) : Int) 8 wr rfl rfl (by omega) (by omega) (by omega)
          have T3 := Lib.hid (fun w => TKH.out (6 + 12 * i + 8) 4 (((6 + 12 * i : Nat) : Int) + 8) 4 w (by omega) rfl (by omega) (by omega) (by omega))
          have hc1 : itemsF s.data.toList (i + 1) = itemsF s.data.toList i ++ [itemF s.data.toList i] := itemsF_succ _ _
          rw [item_at (by rw [kt.size_len]; exact hin)] at hc1
          have HBIG : Hid (1099511627776 < numAt s.data.toList (6 + 12 * i) 8 → ∀ k m, ¬ GoodF k m s.data.toList) := item_big (by rw [kt.size_len]; exact hin)
          have q4 := p4
          have q8 := p8
          have hpb := numAt_lt s.data.toList (6 + 12 * i + 8) 4
          generalize numAt s.data.toList (6 + 12 * i + 8) 4 = pg at T3 hc1 hpb
          have htb := numAt_lt s.data.toList (6 + 12 * i) 8
          generalize numAt s.data.toList (6 + 12 * i) 8 = tx at C2 hc1 htb HBIG
          have wp : IntKind.i64.wrap (pg : Int) = (pg : Int) := kt.wrap_i64_nat _ (by omega)
          have HC1 := Lib.hid hc1
          have hcl : (itemsF s.data.toList i).length ≤ 1000000 := by rw [itemsF_len]; omega
          have C2H := Lib.hid C2
          have HIN := Lib.hid hin
          clear hc1 q4 q8 C2 hpb hin
          by_cases hq : 1099511627776 < tx
          · have hq' : 1099511627776 < (tx : Int) := by omega
            have HN : Hid (∀ k m, ¬ GoodF k m s.data.toList) := HBIG.out hq
            go_wp2_with fail
            refine C2H.out.mono ?_
            rintro e w3 ⟨rfl, rfl⟩
            go_wp2_with fail
            obtain ⟨er3, _, C3⟩ := T3.out wr
            refine C3.mono ?_
            rintro e w4 ⟨rfl, rfl⟩
            clear C3
            go_wp2_with fail
            go_ret3
            exact ⟨decE_no HN.out, hB⟩
          · have hq' : ¬ 1099511627776 < (tx : Int) := by omega
            have wmn : IntKind.i64.wrap (tx : Int) = (tx : Int) := kt.wrap_i64_nat _ (by omega)
            obtain ⟨v', w5, hap, hO5, hB5⟩ := ownF_app ⟨(tx : Int), (pg : Int)⟩ hO.out hcl hB.size
            have HO5 := Lib.hid hO5
            have HB5 := Lib.hid hB5
            clear hO5 hB5
            go_wp2_with fail
            refine C2H.out.mono ?_
            rintro e w3 ⟨rfl, rfl⟩
            go_wp2_with fail
            obtain ⟨er3, _, C3⟩ := T3.out wr
            refine C3.mono ?_
            rintro e w4 ⟨rfl, rfl⟩
            clear C3
            go_wp2_with (at_builtin; refine Lib.wpList_append_run _ rfl _ _ _ _ rfl _ _ rfl rfl _ _ hap ?_)
            go_roundw
            case rel => exact ⟨i + 1, v', by have := HIN.out; omega, rfl, by go_num, Or.inl HIN.out, (by show OwnF _ _ _ _; rw [HC1.out]; exact HO5.out), hB.trans HB5.out⟩
            case measure => have := HIN.out; simp [intOf]; omega
        · have hin' : ¬ ((6 + 12 * i : Nat) : Int) + 12 ≤ (s.size : Int) := by omega
          obtain ⟨ao, cap, rfl, hF⟩ := ownF_slice hO.out
          have hcl : (itemsF s.data.toList i).length ≤ 1000000 := by rw [itemsF_len]; omega
          have E := Lib.hid (rencode_any (nx : Int) ao cap (itemsF s.data.toList i) wr (Lib.hid hF) (by omega))
          have HF := Lib.hid hF
          have HY : Hid (∀ x, EncF (nx : Int) (itemsF s.data.toList i) x 0 → x = s → GoodF (nx : Int) (itemsF s.data.toList i) s.data.toList) := fun x h hx => items_yes h (by rw [hx])
          have HN : Hid (∀ x er, EncF (nx : Int) (itemsF s.data.toList i) x er → ¬ (er = 0 ∧ x = s) → ∀ k m, ¬ GoodF k m s.data.toList) := fun x er h hx => by
            rw [hnx.out] at h
            exact items_no h (by rw [kt.size_len]; exact hor.out) (by rw [kt.size_len]; omega) (fun h2 => hx ⟨h2.1, kt.str_eq h2.2⟩)
          generalize itemsF s.data.toList i = acc at E HF HY HN hcl
          clear hF hcl hin
          go_wp2_with fail
          refine E.out.mono ?_
          rintro e w3 ⟨⟨x, er, rfl, hE⟩, hB3⟩
          by_cases he : er = 0
          · subst he
            by_cases hx : x = s
            · have HG : Hid (GoodF (nx : Int) acc s.data.toList) := HY.out x hE hx
              subst hx
              clear hE HY HN
              go_wp2_with fail
              go_ret3
              exact ⟨⟨_, ao, cap, acc, 0, rfl, Or.inl ⟨rfl, HG.out⟩, fres_below HF.out hB3⟩, hB.trans (hB3.mono hsz)⟩
            · have HG : Hid (∀ k m, ¬ GoodF k m s.data.toList) := HN.out x 0 hE (fun h => hx h.2)
              have hx' := str_ne hx
              clear hE HY HN hx
              go_wp2_with fail
              go_ret3
              exact ⟨decE_no HG.out, hB.trans (hB3.mono hsz)⟩
          · have HG : Hid (∀ k m, ¬ GoodF k m s.data.toList) := HN.out x er hE (fun h => he h.1)
            have he' : (er != 0) = true := by simpa using he
            have he2 : (er == 0) = false := by simpa using he
            clear hE HY HN he
            go_wp2_with fail
            go_ret3
            exact ⟨decE_no HG.out, hB.trans (hB3.mono hsz)⟩
  · have he : (er0 == 0) = false := by rw [beq_eq_false_iff_ne]; exact fun h => h4 (HE0.out.1 h)
    have he2 : (er0 != 0) = true := by simpa using he
    have HN : Hid (∀ k m, ¬ GoodF k m s.data.toList) := fun k m h => by have := good_len h; rw [kt.size_len] at this; omega
    clear h4
    go_wp2_with fail
    go_ret3
    exact ⟨decE_no HN.out, Below.refl _ _⟩
set_option maxHeartbeats 1000000 in
theorem same_any (a1 a2 : Option Addr) (c1 c2 : Nat) (l m : List Fre) (w : World) (h1 : Hid (Fres w a1 l)) (h2 : Hid (Fres w a2 m)) (hm : m.length ≤ 1000000) :
    Calls Try.prog 21 #[.slice a1 l.length c1, .slice a2 m.length c2] w fun e w' => e = .returned (.bool (decide (l = m))) ∧ Below w.heap.size w w' := by
  by_cases hl : l.length = m.length
  · rw [hl]
    go_enter Try.func21, Try.ntmps21
    go_wp2_with fail
    go_loopw [5] (fun iv wr => ∃ i : Nat, i ≤ m.length ∧ iv = .int .i64 i ∧ Hid (l.take i = m.take i) ∧ Below w.heap.size w wr) (fun iv _ => m.length - (intOf iv).toNat)
    case atStart => exact ⟨0, Nat.zero_le _, rfl, by show _ = _; simp, Below.refl _ _⟩
    case round =>
      obtain ⟨i, hi, rfl, hE, hB⟩ := hrel
      by_cases c : i < m.length
      · have c' : (i : Int) < (m.length : Int) := by omega
        have cl : i < l.length := by omega
        obtain ⟨b1, o1, e1, f0, f1⟩ := (fres_below h1.out hB) i cl
        obtain ⟨b2, o2, e2, g0, g1⟩ := (fres_below h2.out hB) i c
        obtain ⟨x, hx⟩ : ∃ x : Fre, Hid (x = l[i]'cl) := ⟨l[i]'cl, rfl⟩
        obtain ⟨y, hy⟩ : ∃ y : Fre, Hid (y = m[i]'c) := ⟨m[i]'c, rfl⟩
        rw [← hx.out] at f0 f1
        rw [← hy.out] at g0 g1
        subst e1 e2
        have hcc := Lib.hid c
        by_cases hxy : x = y
        · have hn : Hid (l.take (i + 1) = m.take (i + 1)) := by
            show _ = _
            rw [List.take_succ_eq_append_getElem cl, List.take_succ_eq_append_getElem c, hE.out, ← hx.out, ← hy.out, hxy]
          subst hxy
          go_wp2_with fail
          go_quiet (fail)
          go_wp2_with fail
          go_roundw
          case rel => exact ⟨i + 1, hcc.out, by go_num, hn, ⟨hB.os, hB.tape, hB.output, hB.size, hB.block⟩⟩
          case measure =>
            have := hcc.out
            simp [intOf]; omega
        · have hr : decide (l = m) = false := by
            rw [decide_eq_false_iff_not]
            rintro rfl
            exact hxy (by rw [hx.out, hy.out])
          have HR := Lib.hid hr
          obtain ⟨xt, xp⟩ := x
          obtain ⟨yt, yp⟩ := y
          dsimp only at f0 f1 g0 g1
          clear hr
          by_cases n0 : xt = yt
          · subst n0
            have n1 : (xp == yp) = false := by
              rw [beq_eq_false_iff_ne]
              rintro rfl
              exact hxy rfl
            clear hxy
            go_wp2_with fail
            go_quiet (fail)
            go_wp2_with fail
            go_ret
            exact ⟨by rw [HR.out]; rfl, ⟨hB.os, hB.tape, hB.output, hB.size, hB.block⟩⟩
          · have n0' : (xt == yt) = false := by simpa using n0
            clear hxy n0
            go_wp2_with fail
            go_quiet (fail)
            go_wp2_with fail
            go_ret
            exact ⟨by rw [HR.out]; rfl, ⟨hB.os, hB.tape, hB.output, hB.size, hB.block⟩⟩
      · obtain rfl : i = m.length := by omega
        have c' : ¬ (m.length : Int) < (m.length : Int) := by omega
        have hr : decide (l = m) = true := by
          rw [decide_eq_true_iff]
          have := hE.out
          rw [List.take_of_length_le (Nat.le_refl _), List.take_of_length_le (by omega)] at this
          exact this
        have HR := Lib.hid hr
        clear hr
        go_wp2_with fail
        go_ret
        exact ⟨by rw [HR.out]; rfl, hB⟩
  · have hr : decide (l = m) = false := by
      rw [decide_eq_false_iff_not]
      rintro rfl
      exact hl rfl
    have HR := Lib.hid hr
    have hl' : ((l.length : Int) == (m.length : Int)) = false := by rw [beq_eq_false_iff_ne]; omega
    clear hr hl
    go_enter Try.func21, Try.ntmps21
    go_wp2_with fail
    go_ret
    exact ⟨by rw [HR.out]; rfl, Below.refl _ _⟩
end fre
end Go.Proofs.Ytcmpepojokmhnaa
