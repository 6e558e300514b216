/- The walk of the reference's TakeText. -/
import Derived.Test.YtkeheaempbmmaaaFieldN
namespace Go.Proofs.Ytkeheaempbmmaaa
open Go.RowKit
namespace fldw
theorem drop_snoc (l : List UInt8) (a k : Nat) (h : a + k < l.length) : (l.drop a).take (k + 1) = (l.drop a).take k ++ [l[a + k]] := by
  rw [List.take_succ_eq_append_getElem (by rw [List.length_drop]; omega), List.getElem_drop]
set_option maxHeartbeats 1000000 in
theorem rtaketext_any (s : ByteArray) (at' : Int) (w : World) (hs : s.size ≤ 1000000) (h2 : -9223372036854775808 ≤ at') (h3 : at' ≤ 9223372036854775807) :
    Calls Try.prog 22 #[.string s, .int .i64 at'] w fun e w' => e = .returned (ttV (fld.takeT s.data.toList at')) ∧ Below w.heap.size w w' := by
  have C := rtake_any s at' 2 w hs (by omega) (by omega) h2 h3
  cases hk : fld.take s.data.toList at' 2 with
  | error er =>
    have hp : fld.takeT s.data.toList at' = .error er := by unfold fld.takeT; rw [hk]
    have hne : ¬ er = 0 := by
      unfold fld.take at hk
      split at hk
      · cases hk; decide
      · split at hk
        · cases hk; decide
        · cases hk
    have HP := Lib.hid hp
    rw [hk] at C
    have HC := Lib.hid C
    clear hp C hk
    unfold takeV at HC
    simp only at HC
    go_enter Try.func22, Try.ntmps22
    go_wp2_with fail
    refine HC.out.mono ?_
    rintro e w1 ⟨rfl, rfl⟩
    have hq : (er == 0) = false := by simpa using hne
    go_wp2_with fail
    go_ret3
    exact ⟨by rw [HP.out]; rfl, Below.refl _ _⟩
  | ok n =>
    have hn : n < 65536 ∧ 0 ≤ at' ∧ at' + 2 ≤ (s.size : Int) := by
      unfold fld.take at hk
      split at hk
      · cases hk
      · rename_i h1
        split at hk
        · cases hk
        · rename_i h5
          cases hk
          rw [kt.size_len] at h5
          refine ⟨?_, by omega, by omega⟩
          exact fld.num_le (k := 2) (by rw [List.length_take]; exact Nat.min_le_left _ _)
    obtain ⟨hn1, hn2, hn3⟩ := hn
    obtain ⟨a, rfl⟩ := Int.eq_ofNat_of_zero_le hn2
    rw [hk] at C
    unfold takeV at C
    simp only at C
    have C1 := Lib.hid C
    have hT : fld.takeT s.data.toList a = if s.size < a + 2 + n then .error 3 else .ok ((s.data.toList.drop (a + 2)).take n, a + 2 + n) := by
      unfold fld.takeT; rw [hk]; simp only []; rw [Int.toNat_natCast, kt.size_len]
    have HT := Lib.hid hT
    clear C hT hk
    go_enter Try.func22, Try.ntmps22
    go_wp2_with fail
    refine C1.out.mono ?_
    rintro e w1 ⟨rfl, rfl⟩
    go_wp2_with fail
    go_loopw [9, 10] (fun bv iv wr => ∃ (k : Nat), k ≤ n ∧ iv = .int .i64 (k : Int) ∧ a + 2 + k ≤ s.size ∧ Hid (wr.ownsRow w.heap.size 5 1 bv (Lib.byteCells ((s.data.toList.drop (a + 2)).take k)).length (Lib.byteCells ((s.data.toList.drop (a + 2)).take k))) ∧ Below w.heap.size w wr) (fun _ iv _ => n - (intOf iv).toNat)
    case atStart => exact ⟨0, Nat.zero_le _, rfl, by omega, by show World.ownsRow _ _ _ _ _ _ _; simpa [Lib.byteCells] using emptyRow w 5, (Below.refl _ _).alloc (Nat.le_refl _) _⟩
    case round =>
      obtain ⟨k, hkn, rfl, hkl, hO, hB⟩ := hrel
      have hsz := hB.size
      by_cases c : k < n
      · have c' : (k : Int) < (n : Int) := by omega
        by_cases c2 : s.size ≤ a + 2 + k
        · have c3 : (s.size : Int) ≤ (a : Int) + 2 + (k : Int) := by omega
          have hT := HT.out
          rw [if_pos (by omega)] at hT
          have HT2 := Lib.hid hT
          clear hT
          go_wp2_with fail
          go_ret3
          exact ⟨by rw [HT2.out]; rfl, hB⟩
        · have c3 : ¬ (s.size : Int) ≤ (a : Int) + 2 + (k : Int) := by omega
          have c4 : ((a : Int) + 2 + (k : Int)).toNat = a + 2 + k := by omega
          have hlt : a + 2 + k < s.size := by omega
          obtain ⟨b, hb⟩ : ∃ b : UInt8, Hid (b = s[a + 2 + k]) := ⟨s[a + 2 + k], rfl⟩
          have eb : (s[a + 2 + k]'hlt).toNat = b.toNat := by rw [hb.out]
          obtain ⟨v', w1, hap, hO1, hg1, hB1⟩ := kt.app1 (P := Try.prog) (ty := 56) (w := wr) Try.underlying56 infoByte rfl (.int .u8 (b.toNat : Int)) rfl hO.out (by rw [Lib.byteCells_length, List.length_take]; unfold maxLen; omega) (by rw [Lib.byteCells_length, List.length_take]; omega) hsz
          have HO1 := Lib.hid hO1
          have HG1 := Lib.hid hg1
          clear hO1 hg1
          go_wp2_with (at_builtin; refine Lib.wpList_append_run _ rfl _ _ _ _ rfl _ _ rfl rfl _ _ hap ?_)
          go_roundw
          case rel =>
            refine ⟨k + 1, by omega, by go_num, by omega, ?_, hB.trans hB1⟩
            have h := HO1.out
            show World.ownsRow _ _ _ _ _ _ _
            rw [drop_snoc s.data.toList (a + 2) k (by rw [kt.size_len]; exact hlt), Lib.byteCells_append, show s.data.toList[a + 2 + k]'(by rw [kt.size_len]; exact hlt) = b from hb.out.symm]
            exact h
          case measure => simp [intOf]; omega
      · obtain rfl : k = n := by omega
        have c' : ¬ (k : Int) < (k : Int) := by omega
        have hst := kt.str_of_row (P := Try.prog) (dst := 9) Try.underlying56 Try.underlying5 Try.underlying9 hO.out
        have hT := HT.out
        rw [if_neg (by omega)] at hT
        have HT2 := Lib.hid hT
        clear hT
        obtain ⟨b, hb⟩ : ∃ b : ByteArray, Hid (b = ⟨((s.data.toList.drop (a + 2)).take k).toArray⟩) := ⟨_, rfl⟩
        rw [← hb.out] at hst
        go_wp2_with fail
        go_ret3
        exact ⟨by
          rw [HT2.out]
          refine congrArg Ending.returned ?_
          show Value.tuple #[.string _, .int .i64 _, .int .i64 0] = .tuple #[.string _, .int .i64 _, .int .i64 0]
          rw [← hb.out]
          rfl, hB⟩

end fldw
end Go.Proofs.Ytkeheaempbmmaaa
