/- The walks of the reference's Text and TakeText, and of the statement FieldTexts. -/
import Derived.Test.YthbofgfdgpidcaaDoorNums
namespace Go.Proofs.YthbofgfdgpidcaaDoor
open Go.RowKit
namespace txts
open fldw
theorem be2 (n : Nat) : fld.be n 2 = [UInt8.ofNat (n / 256), UInt8.ofNat n] := rfl
theorem lit0 {P : Program} {src dst e : TypeId} (hs : P.underlying src = some (.slice e)) (he : P.underlying e = some (.int .u8)) (hd : P.underlying dst = some .string)
    (w : World) (l : List UInt8) (hl : l.length ≤ 1000) : (convert src dst (.slice (some ⟨w.heap.size, 0, none⟩) l.length l.length)).run P (w.alloc (.cells (Lib.byteCells l).toArray e)) = .ok (.string ⟨l.toArray⟩) (w.alloc (.cells (Lib.byteCells l).toArray e)) := by
  have h : (w.alloc (.cells (Lib.byteCells l).toArray e)).ownsRow w.heap.size e 1 (.slice (some ⟨w.heap.size, 0, none⟩) l.length l.length) l.length (Lib.byteCells l) := by
    have hbl := Lib.byteCells_length l
    refine ⟨by rw [hbl]; omega, Or.inr ⟨w.heap.size, l.length, (Lib.byteCells l).toArray, rfl, Nat.le_refl _, heap_alloc_last w _, Nat.le_refl _, by unfold maxLen; omega, by simp [hbl], ?_⟩⟩
    rw [Nat.mul_one, List.toList_toArray, List.take_of_length_le (by omega)]
  exact kt.str_of_row hs he hd (B := w.heap.size) h
set_option maxHeartbeats 1000000 in
theorem rtext_any (s t : ByteArray) (w : World) (hs : s.size ≤ 1000000) (ht : t.size ≤ 140737488351232) :
    Calls Tryd.prog 24 #[.string s, .string t] w fun e w' => e = .returned (textV s t) ∧ Below w.heap.size w w' := by
  by_cases h : 65535 < t.size
  · have hp : textV s t = .tuple #[.string ⟨#[]⟩, .int .i64 5] := by unfold textV; rw [if_pos h]
    have HP := Lib.hid hp
    have h' : 65535 < (t.size : Int) := by omega
    clear hp h
    go_enter Tryd.func24, Tryd.ntmps24
    go_wp2_with fail
    go_ret2
    exact ⟨by rw [HP.out]; rfl, Below.refl _ _⟩
  · have hp : textV s t = .tuple #[.string (s ++ (⟨(fld.be t.size 2).toArray⟩ : ByteArray) ++ t), .int .i64 0] := by
      unfold textV; rw [if_neg h]
      rw [show s ++ (⟨(fld.be t.size 2).toArray⟩ : ByteArray) ++ t = ⟨(s.data.toList ++ (fld.be t.size 2 ++ t.data.toList)).toArray⟩ from kt.str_eq (by simp)]
    have HP := Lib.hid hp
    have h' : ¬ 65535 < (t.size : Int) := by omega
    have hlt := h
    clear hp
    obtain ⟨x, hx⟩ : ∃ x : UInt8, Hid (x = UInt8.ofNat (t.size / 256)) := ⟨_, rfl⟩
    obtain ⟨y, hy⟩ : ∃ y : UInt8, Hid (y = UInt8.ofNat t.size) := ⟨_, rfl⟩
    have ex : (t.size : Int) / 256 = (x.toNat : Int) := by rw [hx.out, UInt8.toNat_ofNat']; omega
    have ey : (t.size : Int) % 256 = (y.toNat : Int) := by rw [hy.out, UInt8.toNat_ofNat']; omega
    have cv := lit0 (P := Tryd.prog) Tryd.underlying46 Tryd.underlying5 Tryd.underlying9 w [x, y] (by show 2 ≤ 1000; omega)
    change (convert _ _ (.slice (some ⟨w.heap.size, 0, none⟩) 2 2)).run Tryd.prog (w.alloc (.cells #[.int .u8 (x.toNat : Int), .int .u8 (y.toNat : Int)] 5)) = .ok (.string { data := #[x, y] }) (w.alloc (.cells #[.int .u8 (x.toNat : Int), .int .u8 (y.toNat : Int)] 5)) at cv
    have hz : (⟨(fld.be t.size 2).toArray⟩ : ByteArray) = { data := #[x, y] } := by rw [be2, ← hx.out, ← hy.out]
    rw [hz] at HP
    clear h hz
    go_enter Tryd.func24, Tryd.ntmps24
    go_wp2_with fail
    go_ret2
    exact ⟨by rw [HP.out]; rfl, (Below.refl _ _).alloc (Nat.le_refl _) _⟩

theorem drop_snoc (l : List UInt8) (a k : Nat) (h : a + k < l.length) : (l.drop a).take (k + 1) = (l.drop a).take k ++ [l[a + k]] := by
  rw [List.take_succ_eq_append_getElem (by rw [List.length_drop]; omega), List.getElem_drop]
set_option maxHeartbeats 1000000 in
theorem rtaketext_any (s : ByteArray) (at' : Int) (w : World) (hs : s.size ≤ 1000000) (h2 : -9223372036854775808 ≤ at') (h3 : at' ≤ 9223372036854775807) :
    Calls Tryd.prog 26 #[.string s, .int .i64 at'] w fun e w' => e = .returned (ttV (fld.takeT s.data.toList at')) ∧ Below w.heap.size w w' := by
  have C := rtake_any s at' 2 w hs (by omega) (by omega) h2 h3
  cases hk : fld.take s.data.toList at' 2 with
  | error er =>
    have hp : fld.takeT s.data.toList at' = .error er := by unfold fld.takeT; rw [hk]
    have hne : ¬ er = 0 := by
      unfold fld.take at hk
      split at hk
      · cases hk; decide
      · split at hk
        · cases hk; decide
        · cases hk
    have HP := Lib.hid hp
    rw [hk] at C
    have HC := Lib.hid C
    clear hp C hk
    unfold takeV at HC
    simp only at HC
    go_enter Tryd.func26, Tryd.ntmps26
    go_wp2_with fail
    refine HC.out.mono ?_
    rintro e w1 ⟨rfl, rfl⟩
    have hq : (er == 0) = false := by simpa using hne
    go_wp2_with fail
    go_ret3
    exact ⟨by rw [HP.out]; rfl, Below.refl _ _⟩
  | ok n =>
    have hn : n < 65536 ∧ 0 ≤ at' ∧ at' + 2 ≤ (s.size : Int) := by
      unfold fld.take at hk
      split at hk
      · cases hk
      · rename_i h1
        split at hk
        · cases hk
        · rename_i h5
          cases hk
          rw [kt.size_len] at h5
          refine ⟨?_, by omega, by omega⟩
          exact fld.num_le (k := 2) (by rw [List.length_take]; exact Nat.min_le_left _ _)
    obtain ⟨hn1, hn2, hn3⟩ := hn
    obtain ⟨a, rfl⟩ := Int.eq_ofNat_of_zero_le hn2
    rw [hk] at C
    unfold takeV at C
    simp only at C
    have C1 := Lib.hid C
    have hT : fld.takeT s.data.toList a = if s.size < a + 2 + n then .error 3 else .ok ((s.data.toList.drop (a + 2)).take n, a + 2 + n) := by
      unfold fld.takeT; rw [hk]; simp only []; rw [Int.toNat_natCast, kt.size_len]
    have HT := Lib.hid hT
    clear C hT hk
    go_enter Tryd.func26, Tryd.ntmps26
    go_wp2_with fail
    refine C1.out.mono ?_
    rintro e w1 ⟨rfl, rfl⟩
    go_wp2_with fail
    go_loopw [9, 10] (fun bv iv wr => ∃ (k : Nat), k ≤ n ∧ iv = .int .i64 (k : Int) ∧ a + 2 + k ≤ s.size ∧ Hid (wr.ownsRow w.heap.size 5 1 bv (Lib.byteCells ((s.data.toList.drop (a + 2)).take k)).length (Lib.byteCells ((s.data.toList.drop (a + 2)).take k))) ∧ Below w.heap.size w wr) (fun _ iv _ => n - (intOf iv).toNat)
    case atStart => exact ⟨0, Nat.zero_le _, rfl, by omega, by show World.ownsRow _ _ _ _ _ _ _; simpa [Lib.byteCells] using emptyRow w 5, (Below.refl _ _).alloc (Nat.le_refl _) _⟩
    case round =>
      obtain ⟨k, hkn, rfl, hkl, hO, hB⟩ := hrel
      have hsz := hB.size
      by_cases c : k < n
      · have c' : (k : Int) < (n : Int) := by omega
        by_cases c2 : s.size ≤ a + 2 + k
        · have c3 : (s.size : Int) ≤ (a : Int) + 2 + (k : Int) := by omega
          have hT := HT.out
          rw [if_pos (by omega)] at hT
          have HT2 := Lib.hid hT
          clear hT
          go_wp2_with fail
          go_ret3
          exact ⟨by rw [HT2.out]; rfl, hB⟩
        · have c3 : ¬ (s.size : Int) ≤ (a : Int) + 2 + (k : Int) := by omega
          have c4 : ((a : Int) + 2 + (k : Int)).toNat = a + 2 + k := by omega
          have hlt : a + 2 + k < s.size := by omega
          obtain ⟨b, hb⟩ : ∃ b : UInt8, Hid (b = s[a + 2 + k]) := ⟨s[a + 2 + k], rfl⟩
          have eb : (s[a + 2 + k]'hlt).toNat = b.toNat := by rw [hb.out]
          obtain ⟨v', w1, hap, hO1, hg1, hB1⟩ := kt.app1 (P := Tryd.prog) (ty := 46) (w := wr) Tryd.underlying46 infoByte rfl (.int .u8 (b.toNat : Int)) rfl hO.out (by rw [Lib.byteCells_length, List.length_take]; unfold maxLen; omega) (by rw [Lib.byteCells_length, List.length_take]; omega) hsz
          have HO1 := Lib.hid hO1
          have HG1 := Lib.hid hg1
          clear hO1 hg1
          go_wp2_with (at_builtin; refine Lib.wpList_append_run _ rfl _ _ _ _ rfl _ _ rfl rfl _ _ hap ?_)
          go_roundw
          case rel =>
            refine ⟨k + 1, by omega, by go_num, by omega, ?_, hB.trans hB1⟩
            have h := HO1.out
            show World.ownsRow _ _ _ _ _ _ _
            rw [drop_snoc s.data.toList (a + 2) k (by rw [kt.size_len]; exact hlt), Lib.byteCells_append, show s.data.toList[a + 2 + k]'(by rw [kt.size_len]; exact hlt) = b from hb.out.symm]
            exact h
          case measure => simp [intOf]; omega
      · obtain rfl : k = n := by omega
        have c' : ¬ (k : Int) < (k : Int) := by omega
        have hst := kt.str_of_row (P := Tryd.prog) (dst := 9) Tryd.underlying46 Tryd.underlying5 Tryd.underlying9 hO.out
        have hT := HT.out
        rw [if_neg (by omega)] at hT
        have HT2 := Lib.hid hT
        clear hT
        obtain ⟨b, hb⟩ : ∃ b : ByteArray, Hid (b = ⟨((s.data.toList.drop (a + 2)).take k).toArray⟩) := ⟨_, rfl⟩
        rw [← hb.out] at hst
        go_wp2_with fail
        go_ret3
        exact ⟨by
          rw [HT2.out]
          refine congrArg Ending.returned ?_
          show Value.tuple #[.string _, .int .i64 _, .int .i64 0] = .tuple #[.string _, .int .i64 _, .int .i64 0]
          rw [← hb.out]
          rfl, hB⟩

/-- what is laid is taken -/
theorem take_text (s t tail : ByteArray) (ht : t.size ≤ 65535) : fld.takeT ((s.data.toList ++ (fld.be t.size 2 ++ t.data.toList)) ++ tail.data.toList) (s.size : Int) = .ok (t.data.toList, s.size + 2 + t.size) := by
  have hl2 := fld.be_length t.size 2
  have hd : ((s.data.toList ++ (fld.be t.size 2 ++ t.data.toList)) ++ tail.data.toList).drop s.size = fld.be t.size 2 ++ (t.data.toList ++ tail.data.toList) := by
    rw [List.append_assoc, List.append_assoc, ← kt.size_len s, List.drop_left]
  have hk : fld.take ((s.data.toList ++ (fld.be t.size 2 ++ t.data.toList)) ++ tail.data.toList) (s.size : Int) 2 = .ok t.size := by
    unfold fld.take
    rw [if_neg (by omega), if_neg (by simp [hl2]; omega), Int.toNat_natCast, hd, show (2 : Int).toNat = (fld.be t.size 2).length from hl2.symm, List.take_left, fld.num_be, Nat.mod_eq_of_lt (by omega)]
  unfold fld.takeT
  rw [hk]
  simp only []
  rw [Int.toNat_natCast, if_neg (by simp [hl2]; omega), ← List.drop_drop, hd, List.drop_left' hl2, List.take_left' (kt.size_len t)]
theorem tt_parts (o : Except Int (List UInt8 × Nat)) : ∃ (m : ByteArray) (q er : Int), ttV o = .tuple #[.string m, .int .i64 q, .int .i64 er] := by
  cases o with
  | error e => exact ⟨⟨#[]⟩, 0, e, rfl⟩
  | ok r => exact ⟨⟨r.1.toArray⟩, r.2, 0, rfl⟩
set_option maxHeartbeats 1000000 in
theorem texts_any (s t tail : ByteArray) (at' : Int) (w : World) (hE : Hid (trm.Env w)) (h2 : -9223372036854775808 ≤ at') (h3 : at' ≤ 9223372036854775807) (hs0 : s.size ≤ 140737488351232) (ht0 : t.size ≤ 140737488351232) (hl0 : tail.size ≤ 140737488351232) :
    Calls Tryd.prog 7 #[.string s, .string t, .string tail, .int .i64 at'] w fun e w' => e = .returned (.bool true) ∧ Below w.heap.size w w' := by
  go_enter Tryd.func7, Tryd.ntmps7
  go_wp2_with fail
  refine (awk.awake_true w hE).mono ?_
  rintro e w1 ⟨rfl, hB1⟩
  by_cases hs : 9000 < s.size
  · have hs' : 9000 < (s.size : Int) := by omega
    go_wp2_with fail
    go_ret
    exact ⟨rfl, hB1⟩
  · by_cases ht : 70000 < t.size
    · have hs' : ¬ 9000 < (s.size : Int) := by omega
      have ht' : 70000 < (t.size : Int) := by omega
      go_wp2_with fail
      go_ret
      exact ⟨rfl, hB1⟩
    · by_cases hl : 9000 < tail.size
      · have hs' : ¬ 9000 < (s.size : Int) := by omega
        have ht' : ¬ 70000 < (t.size : Int) := by omega
        have hl' : 9000 < (tail.size : Int) := by omega
        go_wp2_with fail
        go_ret
        exact ⟨rfl, hB1⟩
      · have hs' : ¬ 9000 < (s.size : Int) := by omega
        have ht' : ¬ 70000 < (t.size : Int) := by omega
        have hl' : ¬ 9000 < (tail.size : Int) := by omega
        obtain ⟨m, q, er, hT⟩ := tt_parts (fld.takeT s.data.toList at')
        have A1 := Lib.hid (fun w => text_any s t w (by omega) ht0)
        have A2 := Lib.hid (fun w => rtext_any s t w (by omega) ht0)
        have T1 := Lib.hid (fun w => taketext_any s at' w (by omega) h2 h3)
        have T2 := Lib.hid (fun w => rtaketext_any s at' w (by omega) h2 h3)
        rw [hT] at T1 T2
        clear hT
        by_cases hb : 65535 < t.size
        · have hv : textV s t = .tuple #[.string ⟨#[]⟩, .int .i64 5] := by unfold textV; rw [if_pos hb]
          have hb' : 65535 < (t.size : Int) := by omega
          rw [hv] at A1 A2
          clear hv
          go_wp2_with fail
          refine (A1.out w1).mono ?_
          rintro e w2 ⟨rfl, hB2⟩
          go_wp2_with fail
          refine (A2.out w2).mono ?_
          rintro e w3 ⟨rfl, hB3⟩
          go_wp2_with fail
          refine (T1.out w3).mono ?_
          rintro e w4 ⟨rfl, hB4⟩
          go_wp2_with fail
          refine (T2.out w4).mono ?_
          rintro e w5 ⟨rfl, hB5⟩
          go_wp2_with fail
          go_ret
          have hs1 := hB1.size
          have hs2 := hB2.size
          have hs3 := hB3.size
          have hs4 := hB4.size
          exact ⟨rfl, (((hB1.trans (hB2.mono hs1)).trans (hB3.mono (Nat.le_trans hs1 hs2))).trans (hB4.mono (by omega))).trans (hB5.mono (by omega))⟩
        · have hb' : ¬ 65535 < (t.size : Int) := by omega
          obtain ⟨X, hX⟩ : ∃ X : ByteArray, Hid (X = ⟨(s.data.toList ++ (fld.be t.size 2 ++ t.data.toList)).toArray⟩) := ⟨_, rfl⟩
          have hv : textV s t = .tuple #[.string X, .int .i64 0] := by unfold textV; rw [if_neg hb, hX.out]
          have hXd : X.data.toList = s.data.toList ++ (fld.be t.size 2 ++ t.data.toList) := by rw [hX.out]
          have hXs : X.size = s.size + 2 + t.size := by
            rw [← kt.size_len, hXd]
            simp [fld.be_length]
            omega
          have hXt : (X ++ tail).data.toList = (s.data.toList ++ (fld.be t.size 2 ++ t.data.toList)) ++ tail.data.toList := by rw [← hXd]; simp
          have T3 := fun w => taketext_any (X ++ tail) (s.size : Int) w (by rw [← kt.size_len, hXt]; simp [fld.be_length]; omega) (by omega) (by omega)
          rw [hXt, take_text s t tail (by omega)] at T3
          unfold ttV at T3
          simp only at T3
          have ht2 : (⟨t.data.toList.toArray⟩ : ByteArray) = t := kt.str_eq (by simp)
          rw [ht2, ← hXs] at T3
          have HT3 := Lib.hid T3
          rw [hv] at A1 A2
          have hXb : X.size ≤ 80000 := by omega
          have hsum : ¬ 9223372036854775807 < X.size + tail.size := by omega
          have hsum2 : X.size + tail.size ≤ 9223372036854775807 := by omega
          clear hv T3 hXt hXd ht2 hXs
          go_wp2_with fail
          refine (A1.out w1).mono ?_
          rintro e w2 ⟨rfl, hB2⟩
          go_wp2_with fail
          refine (A2.out w2).mono ?_
          rintro e w3 ⟨rfl, hB3⟩
          go_wp2_with fail
          refine (T1.out w3).mono ?_
          rintro e w4 ⟨rfl, hB4⟩
          go_wp2_with fail
          refine (T2.out w4).mono ?_
          rintro e w5 ⟨rfl, hB5⟩
          go_wp2_with fail
          refine (HT3.out w5).mono ?_
          rintro e w6 ⟨rfl, hB6⟩
          go_wp2_with fail
          go_ret
          have hs1 := hB1.size
          have hs2 := hB2.size
          have hs3 := hB3.size
          have hs4 := hB4.size
          have hs5 := hB5.size
          exact ⟨rfl, ((((hB1.trans (hB2.mono hs1)).trans (hB3.mono (Nat.le_trans hs1 hs2))).trans (hB4.mono (by omega))).trans (hB5.mono (by omega))).trans (hB6.mono (by omega))⟩
end txts
end Go.Proofs.YthbofgfdgpidcaaDoor
