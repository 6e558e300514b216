/- The walk of Decode: a piece's free pages. -/
import Derived.Test.YtcmpepojokmhnaaEnc
namespace Go.Proofs.Ytcmpepojokmhnaa
open Go.RowKit
namespace fre
open fldw
set_option linter.unusedVariables false
/-- the number at a place, nought where there is none -/
def numAt (s : List UInt8) (a k : Nat) : Nat := if a + k ≤ s.length then fld.num ((s.drop a).take k) else 0
theorem take_form (s : List UInt8) (a k : Nat) (h1 : 1 ≤ k) (h8 : k ≤ 8) : ∃ er : Int, takeV (fld.take s (a : Int) (k : Int)) = .tuple #[.int .u64 (numAt s a k : Int), .int .i64 er] ∧ (er = 0 ↔ a + k ≤ s.length) := by
  unfold numAt
  by_cases h : a + k ≤ s.length
  · rw [fld.take_ok h1 h8 h, if_pos h]
    exact ⟨0, rfl, by simp [h]⟩
  · rw [fld.take_no h1 h8 (by omega), if_neg h]
    exact ⟨3, rfl, by simp [h]⟩
theorem numAt_lt (s : List UInt8) (a k : Nat) : numAt s a k < 256 ^ k := by
  unfold numAt
  split
  · exact fld.num_taken s a k
  · exact Nat.pow_pos (by omega)
/-- the i-th one as the code keeps it: its number is held below a bound -/
def cutF (s : List UInt8) (i : Nat) : Fre := ⟨(min (numAt s (6 + 12 * i) 8) 1099511627777 : Nat), (numAt s (6 + 12 * i + 8) 4 : Nat)⟩
def cutsF (s : List UInt8) (n : Nat) : List Fre := (List.range n).map (cutF s)
theorem cutsF_succ (s : List UInt8) (n : Nat) : cutsF s (n + 1) = cutsF s n ++ [cutF s n] := by simp [cutsF, List.range_succ]
theorem cutsF_len (s : List UInt8) (n : Nat) : (cutsF s n).length = n := by simp [cutsF]
theorem cut_item {s : List UInt8} {i : Nat} (h : 6 + 12 * i + 12 ≤ s.length) (hb : (cutF s i).txn ≤ 1099511627776 ∨ (itemF s i).txn ≤ 1099511627776) : cutF s i = itemF s i := by
  unfold cutF itemF numAt at *
  rw [if_pos (by omega), if_pos (by omega)] at *
  simp only at hb ⊢
  congr 1
  omega
theorem cuts_items {s : List UInt8} {n : Nat} (h : 6 + 12 * n ≤ s.length) (hb : (∀ f ∈ cutsF s n, okF f) ∨ (∀ f ∈ itemsF s n, okF f)) : cutsF s n = itemsF s n := by
  unfold cutsF itemsF
  apply List.map_congr_left
  intro i hi
  have hi' : i < n := by simpa using hi
  refine cut_item (by omega) ?_
  rcases hb with hb | hb
  · exact Or.inl (hb _ (List.mem_map.2 ⟨i, hi, rfl⟩)).2.1
  · exact Or.inr (hb _ (List.mem_map.2 ⟨i, hi, rfl⟩)).2.1
theorem good_len {n : Int} {m : List Fre} {s : List UInt8} (h : GoodF n m s) : numAt s 4 2 = m.length ∧ m.length ≤ 40 ∧ s.length = 6 + 12 * m.length ∧ (numAt s 0 4 : Int) = n := by
  obtain ⟨h1, h2, h3, h4⟩ := good_items h
  refine ⟨?_, h.1.2.2.1, h1, ?_⟩
  · unfold numAt; rw [if_pos (by omega)]; exact h3
  · unfold numAt
    rw [if_pos (by omega), List.drop_zero, h2]
    have := h.1.1
    omega
theorem cuts_yes {s : List UInt8} {n : Nat} (h : s.length = 6 + 12 * n) (hn : numAt s 4 2 = n) (hm : MayP (numAt s 0 4 : Int) (cutsF s n)) : GoodF (numAt s 0 4 : Int) (cutsF s n) s := by
  refine ⟨hm, ?_⟩
  rw [cuts_items (by omega) (Or.inl hm.2.2.2.2.1), Int.toNat_natCast]
  unfold numAt at hn ⊢
  rw [if_pos (by omega)] at hn ⊢
  rw [List.drop_zero]
  exact enc_items s n h hn
theorem cuts_no {s : List UInt8} {n : Nat} (hn : numAt s 4 2 = n) (hm : ¬ MayP (numAt s 0 4 : Int) (cutsF s n)) : ∀ k m, ¬ GoodF k m s := by
  intro k m h
  obtain ⟨h1, h2, h3, h4⟩ := good_len h
  obtain ⟨_, _, _, h5⟩ := good_items h
  have e : n = m.length := by omega
  subst e
  apply hm
  rw [cuts_items (by omega) (Or.inr (by rw [h5]; exact h.1.2.2.2.2.1)), h5, h4]
  exact h.1
def OwnF (w : World) (B : Nat) (v : Value) (l : List Fre) : Prop := w.ownsRow B 28 2 v l.length (l.flatMap Fre.cells)
theorem ownF_slice {w : World} {B : Nat} {v : Value} {l : List Fre} (h : OwnF w B v l) : ∃ ao cap, v = .slice ao l.length cap ∧ Fres w ao l := by
  obtain ⟨ao, cap, hv, _, hf⟩ := seg_fres (kt.segX_of_row h)
  exact ⟨ao, cap, hv, hf⟩
theorem ownF_app {w : World} {B : Nat} {v : Value} {l : List Fre} (c : Fre) (h : OwnF w B v l) (hn : l.length ≤ 1000000) (hb : B ≤ w.heap.size) :
    ∃ v' w1, (Builtin.append_ #[39, 39] 39 #[v, .slice (some ⟨w.heap.size, 0, none⟩) 1 1]).run Try.prog (w.alloc (.cells #[.int .i64 c.txn, .int .i64 c.page] 28)) = .ok v' w1 ∧ OwnF w1 B v' (l ++ [c]) ∧ Below B w w1 := by
  obtain ⟨v', w1, hr, ho, _, hB⟩ := kt.appS (P := Try.prog) (ty := 39) Try.underlying39 infoF rfl (by omega) c.cells rfl (cells_one c) h (by unfold maxLen; omega) (by omega) hb
  refine ⟨v', w1, hr, ?_, hB⟩
  show World.ownsRow _ _ _ _ _ _ _
  rw [List.length_append, List.flatMap_append]
  simpa using ho
def DecE (s : ByteArray) (e : Ending) (w' : World) : Prop := ∃ next ao cap l er, e = .returned (.tuple #[.int .i64 next, .slice ao (List.length l) cap, .int .i64 er]) ∧ DecF s.data.toList next l er ∧ Fres w' ao l
theorem decE_no {s : ByteArray} {w' : World} (h : ∀ n m, ¬ GoodF n m s.data.toList) : DecE s (.returned (.tuple #[.int .i64 0, .slice none 0 0, .int .i64 4])) w' := ⟨0, none, 0, [], 4, rfl, Or.inr ⟨rfl, rfl, rfl, h⟩, fun i hi => by simp at hi⟩
set_option maxRecDepth 20000 in
set_option maxHeartbeats 2000000 in
theorem decode_any (s : ByteArray) (w : World) (hs : s.size ≤ 1000000) :
    Calls Try.prog 24 #[.string s] w fun e w' => DecE s e w' ∧ Below w.heap.size w w' := by
  have TK : ∀ (a k : Nat) (A K : Int) (w : World), A = (a : Int) → K = (k : Int) → a ≤ 2000000 → 1 ≤ k → k ≤ 8 → ∃ er : Int, (er = 0 ↔ a + k ≤ s.size) ∧ Calls Try.prog 35 #[.string s, .int .i64 A, .int .i64 K] w fun e w' => e = .returned (.tuple #[.int .u64 (numAt s.data.toList a k : Int), .int .i64 er]) ∧ Below w.heap.size w w' := by
    intro a k A K w hA hK ha h1 h8
    subst hA hK
    obtain ⟨er, hv, hi⟩ := take_form s.data.toList a k h1 h8
    have K := fldw.take_any s (a : Int) (k : Int) w hs (by omega) (by omega) (by omega) (by omega)
    rw [hv] at K
    rw [kt.size_len] at hi
    exact ⟨er, hi, K⟩
  have TKH := Lib.hid TK
  have q4 := p4
  have q2 := p2
  obtain ⟨nx, hnx⟩ : ∃ nx : Nat, Hid (nx = numAt s.data.toList 0 4) := ⟨_, rfl⟩
  obtain ⟨n, hn⟩ : ∃ n : Nat, Hid (n = numAt s.data.toList 4 2) := ⟨_, rfl⟩
  have hnb : n < 65536 := by rw [hn.out]; have := numAt_lt s.data.toList 4 2; omega
  have hnxb : nx < 4294967296 := by rw [hnx.out]; have := numAt_lt s.data.toList 0 4; omega
  have T0 : Hid (∀ w, ∃ er : Int, Calls Try.prog 35 #[.string s, .int .i64 0, .int .i64 4] w fun e w' => e = .returned (.tuple #[.int .u64 (nx : Int), .int .i64 er]) ∧ Below w.heap.size w w') := fun w => by
    obtain ⟨er, _, h⟩ := TK 0 4 0 4 w rfl rfl (by omega) (by omega) (by omega)
    rw [hnx.out]
    exact ⟨er, h⟩
  have T1 : Hid (∀ w, ∃ er : Int, (er = 0 ↔ 6 ≤ s.size) ∧ Calls Try.prog 35 #[.string s, .int .i64 4, .int .i64 2] w fun e w' => e = .returned (.tuple #[.int .u64 (n : Int), .int .i64 er]) ∧ Below w.heap.size w w') := fun w => by
    obtain ⟨er, hi, h⟩ := TK 4 2 4 2 w rfl rfl (by omega) (by omega) (by omega)
    rw [hn.out]
    exact ⟨er, hi, h⟩
  have wn : IntKind.i64.wrap (n : Int) = (n : Int) := kt.wrap_i64_nat _ (by omega)
  have wx : IntKind.i64.wrap (nx : Int) = (nx : Int) := kt.wrap_i64_nat _ (by omega)
  clear TK q4 q2
  go_enter Try.func24, Try.ntmps24
  go_wp2_with fail
  obtain ⟨er0, C0⟩ := T0.out w
  refine C0.mono ?_
  rintro e w1 ⟨rfl, hB1⟩
  clear C0
  go_wp2_with fail
  obtain ⟨er1, he1, C1⟩ := T1.out w1
  refine C1.mono ?_
  rintro e w2 ⟨rfl, hB2⟩
  have HE1 := Lib.hid he1
  have HB2 : Hid (Below w.heap.size w w2) := hB1.trans (hB2.mono hB1.size)
  clear C1 he1
  by_cases h6 : 6 ≤ s.size
  · have h0 : er1 = 0 := HE1.out.2 h6
    subst h0
    by_cases h40 : 40 < n
    · have h40' : 40 < (n : Int) := by omega
      have HN : Hid (∀ k m, ¬ GoodF k m s.data.toList) := fun k m h => by have := good_len h; rw [← hn.out] at this; omega
      go_wp2_with fail
      go_ret3
      exact ⟨decE_no HN.out, HB2.out⟩
    · have h40' : ¬ 40 < (n : Int) := by omega
      by_cases hlen : s.size = 6 + 12 * n
      · have hlen' : ((s.size : Int) == 6 + 12 * (n : Int)) = true := by rw [beq_iff_eq]; omega
        have hlen2 : ((s.size : Int) != 6 + 12 * (n : Int)) = false := by simpa using hlen'
        have HLEN := Lib.hid hlen
        clear hlen
        go_wp2_with fail
        go_loopw [9, 10] (fun lv av wr => ∃ (i : Nat) (v : Value), i ≤ n ∧ v = lv ∧ av = .int .i64 ((6 + 12 * i : Nat) : Int) ∧ Hid (OwnF wr w.heap.size v (cutsF s.data.toList i)) ∧ Below w.heap.size w wr) (fun _ av _ => 1000000 - (intOf av).toNat)
        case atStart => exact ⟨0, _, Nat.zero_le _, rfl, rfl, kt.row_nil _ _ _ _, HB2.out⟩
        case round =>
          obtain ⟨i, v, hi, rfl, rfl, hO, hB⟩ := hrel
          have hsz := hB.size
          by_cases hin : i < n
          · have hin' : ((6 + 12 * i : Nat) : Int) < (s.size : Int) := by have := HLEN.out; omega
            have hns : 6 + 12 * i + 12 ≤ s.size := by have := HLEN.out; omega
            obtain ⟨er2, _, C2⟩ := TKH.out (6 + 12 * i) 8 ((6 + 12 * i : Nat) : Int) 8 wr rfl rfl (by omega) (by omega) (by omega)
            have T3 := Lib.hid (fun w => TKH.out (6 + 12 * i + 8) 4 (((6 + 12 * i : Nat) : Int) + 8) 4 w (by omega) rfl (by omega) (by omega) (by omega))
            have hc1 : cutsF s.data.toList (i + 1) = cutsF s.data.toList i ++ [cutF s.data.toList i] := cutsF_succ _ _
            unfold cutF at hc1
            have q4 := p4
            have q8 := p8
            have hpb := numAt_lt s.data.toList (6 + 12 * i + 8) 4
            generalize numAt s.data.toList (6 + 12 * i + 8) 4 = pg at T3 hc1 hpb
            have htb := numAt_lt s.data.toList (6 + 12 * i) 8
            generalize numAt s.data.toList (6 + 12 * i) 8 = tx at C2 hc1 htb
            have wp : IntKind.i64.wrap (pg : Int) = (pg : Int) := kt.wrap_i64_nat _ (by omega)
            have HC1 := Lib.hid hc1
            have hcl : (cutsF s.data.toList i).length ≤ 1000000 := by rw [cutsF_len]; omega
            have C2H := Lib.hid C2
            clear hc1 q4 q8 C2 hpb
            by_cases hq : 1099511627777 < tx
            · have hq' : 1099511627777 < (tx : Int) := by omega
              rw [show ((min tx 1099511627777 : Nat) : Int) = 1099511627777 by omega] at HC1
              go_wp2_with fail
              refine C2H.out.mono ?_
              rintro e w3 ⟨rfl, hB3⟩
              have HB3 : Hid (Below w.heap.size w w3) := hB.trans (hB3.mono hsz)
              go_wp2_with fail
              obtain ⟨er3, _, C3⟩ := T3.out w3
              refine C3.mono ?_
              rintro e w4 ⟨rfl, hB4⟩
              have HB4 : Hid (Below w.heap.size w w4) := HB3.out.trans (hB4.mono HB3.out.size)
              have hO4 : OwnF w4 w.heap.size v (cutsF s.data.toList i) := kt.rowS_below hO.out (hB3.trans (hB4.mono hB3.size))
              obtain ⟨v', w5, hap, hO5, hB5⟩ := ownF_app ⟨1099511627777, (pg : Int)⟩ hO4 hcl HB4.out.size
              have HO5 := Lib.hid hO5
              have HB5 := Lib.hid hB5
              clear C3 hO4 hO5 hB5
              go_wp2_with (at_builtin; refine Lib.wpList_append_run _ rfl _ _ _ _ rfl _ _ rfl rfl _ _ hap ?_)
              go_roundw
              case rel => exact ⟨i + 1, v', by omega, rfl, by go_num, (by show OwnF _ _ _ _; rw [HC1.out]; exact HO5.out), HB4.out.trans HB5.out⟩
              case measure => simp [intOf]; omega
            · have hq' : ¬ 1099511627777 < (tx : Int) := by omega
              have wmn : IntKind.i64.wrap (tx : Int) = (tx : Int) := kt.wrap_i64_nat _ (by omega)
              rw [show ((min tx 1099511627777 : Nat) : Int) = (tx : Int) by omega] at HC1
              go_wp2_with fail
              refine C2H.out.mono ?_
              rintro e w3 ⟨rfl, hB3⟩
              have HB3 : Hid (Below w.heap.size w w3) := hB.trans (hB3.mono hsz)
              go_wp2_with fail
              obtain ⟨er3, _, C3⟩ := T3.out w3
              refine C3.mono ?_
              rintro e w4 ⟨rfl, hB4⟩
              have HB4 : Hid (Below w.heap.size w w4) := HB3.out.trans (hB4.mono HB3.out.size)
              have hO4 : OwnF w4 w.heap.size v (cutsF s.data.toList i) := kt.rowS_below hO.out (hB3.trans (hB4.mono hB3.size))
              obtain ⟨v', w5, hap, hO5, hB5⟩ := ownF_app ⟨(tx : Int), (pg : Int)⟩ hO4 hcl HB4.out.size
              have HO5 := Lib.hid hO5
              have HB5 := Lib.hid hB5
              clear C3 hO4 hO5 hB5
              go_wp2_with (at_builtin; refine Lib.wpList_append_run _ rfl _ _ _ _ rfl _ _ rfl rfl _ _ hap ?_)
              go_roundw
              case rel => exact ⟨i + 1, v', by omega, rfl, by go_num, (by show OwnF _ _ _ _; rw [HC1.out]; exact HO5.out), HB4.out.trans HB5.out⟩
              case measure => simp [intOf]; omega
          · obtain rfl : i = n := by omega
            have hin' : ¬ ((6 + 12 * i : Nat) : Int) < (s.size : Int) := by have := HLEN.out; omega
            obtain ⟨ao, cap, rfl, hF⟩ := ownF_slice hO.out
            have hcl : (cutsF s.data.toList i).length ≤ 1000000 := by rw [cutsF_len]; omega
            have M := Lib.hid (may_any (nx : Int) ao cap (cutsF s.data.toList i) wr (Lib.hid hF) (by omega))
            have HF := Lib.hid hF
            have HY : Hid (MayP (nx : Int) (cutsF s.data.toList i) → GoodF (nx : Int) (cutsF s.data.toList i) s.data.toList) := fun h => by
              rw [hnx.out] at h ⊢
              exact cuts_yes (by rw [kt.size_len]; exact HLEN.out) hn.out.symm h
            have HN : Hid (¬ MayP (nx : Int) (cutsF s.data.toList i) → ∀ k m, ¬ GoodF k m s.data.toList) := fun h => by
              rw [hnx.out] at h
              exact cuts_no hn.out.symm h
            generalize cutsF s.data.toList i = acc at M HF HY HN hcl
            clear hF hcl
            go_wp2_with fail
            refine M.out.mono ?_
            rintro e w3 ⟨⟨b, rfl, hb⟩, hB3⟩
            have Hb := Lib.hid hb
            clear hb
            cases b with
            | true =>
              have HG : Hid (GoodF (nx : Int) acc s.data.toList) := HY.out (Hb.out.1 rfl)
              clear HY HN
              go_wp2_with fail
              go_ret3
              exact ⟨⟨_, ao, cap, acc, 0, rfl, Or.inl ⟨rfl, HG.out⟩, fres_below HF.out hB3⟩, hB.trans (hB3.mono hsz)⟩
            | false =>
              have HG : Hid (∀ k m, ¬ GoodF k m s.data.toList) := HN.out (fun h => by have := Hb.out.2 h; cases this)
              clear HY HN
              go_wp2_with fail
              go_ret3
              exact ⟨decE_no HG.out, hB.trans (hB3.mono hsz)⟩
      · have hlen' : ((s.size : Int) == 6 + 12 * (n : Int)) = false := by rw [beq_eq_false_iff_ne]; omega
        have hlen2 : ((s.size : Int) != 6 + 12 * (n : Int)) = true := by simpa using hlen'
        have HN : Hid (∀ k m, ¬ GoodF k m s.data.toList) := fun k m h => by have := good_len h; rw [← hn.out, kt.size_len] at this; omega
        clear hlen
        go_wp2_with fail
        go_ret3
        exact ⟨decE_no HN.out, HB2.out⟩
  · have he : (er1 == 0) = false := by rw [beq_eq_false_iff_ne]; exact fun h => h6 (HE1.out.1 h)
    have he2 : (er1 != 0) = true := by simpa using he
    have HN : Hid (∀ k m, ¬ GoodF k m s.data.toList) := fun k m h => by have := good_len h; rw [kt.size_len] at this; omega
    clear h6
    go_wp2_with fail
    go_ret3
    exact ⟨decE_no HN.out, HB2.out⟩
end fre
end Go.Proofs.Ytcmpepojokmhnaa
