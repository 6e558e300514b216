/- The walk of the statement FieldNumbers. -/
import Derived.Test.YthbofgfdgpidcaaDoorAwake
import Derived.Test.YthbofgfdgpidcaaDoorFieldS
namespace Go.Proofs.YthbofgfdgpidcaaDoor
open Go.RowKit
namespace nums
open fldw
/-- what is put is taken -/
theorem take_put {n : Nat} {size : Int} {l : List UInt8} (s : List UInt8) (h : fld.put n size = some l) : fld.take (s ++ l) s.length size = .ok n := by
  unfold fld.put at h
  split at h
  · cases h
  · rename_i c
    split at h
    · cases h
    · rename_i c2
      cases h
      unfold fld.take
      rw [if_neg (by omega), if_neg (by rw [List.length_append, fld.be_length]; omega), Int.toNat_natCast, List.drop_left, List.take_of_length_le (by rw [fld.be_length]; exact Nat.le_refl _), fld.num_be, Nat.mod_eq_of_lt (by omega)]
theorem str_same (a : ByteArray) : (a.toList == a.toList) = true := by simp
theorem take_parts (o : Except Int Nat) : ∃ (m : Nat) (er : Int), takeV o = .tuple #[.int .u64 (m : Int), .int .i64 er] := by
  cases o with
  | error e => exact ⟨0, e, rfl⟩
  | ok n => exact ⟨n, 0, rfl⟩
set_option maxHeartbeats 1000000 in
theorem numbers_any (s : ByteArray) (n : Nat) (size at' : Int) (w : World) (hE : Hid (trm.Env w)) (hn : Hid (U64 n)) (h0 : -9223372036854775808 ≤ size) (h1 : size ≤ 9223372036854775807) (h2 : -9223372036854775808 ≤ at') (h3 : at' ≤ 9223372036854775807) (hs0 : s.size ≤ 140737488351232) :
    Calls Tryd.prog 3 #[.string s, .int .u64 (n : Int), .int .i64 size, .int .i64 at'] w fun e w' => e = .returned (.bool true) ∧ Below w.heap.size w w' := by
  go_enter Tryd.func3, Tryd.ntmps3
  go_wp2_with fail
  refine (awk.awake_true w hE).mono ?_
  rintro e w1 ⟨rfl, hB1⟩
  by_cases hs : 9000 < s.size
  · have hs' : 9000 < (s.size : Int) := by omega
    go_wp2_with fail
    go_ret
    exact ⟨rfl, hB1⟩
  · have hs' : ¬ 9000 < (s.size : Int) := by omega
    obtain ⟨m, er, hT⟩ := take_parts (fld.take s.data.toList at' size)
    have P1 := Lib.hid (put_any s n size w1 (by omega) hn.out h0 h1)
    go_wp2_with fail
    refine P1.out.mono ?_
    rintro e w2 ⟨rfl, hB2⟩
    have P2 := Lib.hid (rput_any s n size w2 (by omega) hn h0 h1)
    have T1 := Lib.hid (fun w => take_any s at' size w (by omega) h0 h1 h2 h3)
    have T2 := Lib.hid (fun w => rtake_any s at' size w (by omega) h0 h1 h2 h3)
    rw [hT] at T1 T2
    clear hT
    cases hp : fld.put n size with
    | none =>
      rw [hp] at P2
      unfold putV at P2 ⊢
      simp only at P2 ⊢
      have hp' := Lib.hid hp
      clear hp
      go_wp2_with fail
      refine P2.out.mono ?_
      rintro e w3 ⟨rfl, hB3⟩
      go_wp2_with fail
      refine (T1.out w3).mono ?_
      rintro e w4 ⟨rfl, hB4⟩
      go_wp2_with fail
      refine (T2.out w4).mono ?_
      rintro e w5 ⟨rfl, rfl⟩
      go_wp2_with fail
      go_ret
      have hs1 := hB1.size
      have hs2 := hB2.size
      have hs3 := hB3.size
      exact ⟨rfl, ((hB1.trans (hB2.mono hs1)).trans (hB3.mono (Nat.le_trans hs1 hs2))).trans (hB4.mono (Nat.le_trans (Nat.le_trans hs1 hs2) hs3))⟩
    | some l =>
      have ht := take_put s.data.toList hp
      have hl8 : l.length ≤ 8 := by
        unfold fld.put at hp
        split at hp
        · cases hp
        · split at hp
          · cases hp
          · cases hp
            rw [fld.be_length]
            omega
      obtain ⟨X, hX⟩ : ∃ X : ByteArray, Hid (X = ⟨(s.data.toList ++ l).toArray⟩) := ⟨_, rfl⟩
      have hXs : X.size ≤ 9008 := by
        have : X.size = (s.data.toList ++ l).length := by rw [hX.out]; rfl
        rw [List.length_append, kt.size_len] at this
        omega
      have hXd : X.data.toList = s.data.toList ++ l := by rw [hX.out]
      rw [← hXd, kt.size_len] at ht
      have T3 := fun w => take_any X (s.size : Int) size w (by omega) h0 h1 (by omega) (by omega)
      rw [ht] at T3
      unfold takeV at T3
      have HT3 := Lib.hid T3
      rw [hp] at P2
      unfold putV at P2 ⊢
      simp only at P2 ⊢
      rw [← hX.out] at P2 ⊢
      clear hp ht hXd T3
      go_wp2_with fail
      refine P2.out.mono ?_
      rintro e w3 ⟨rfl, hB3⟩
      go_wp2_with fail
      refine (T1.out w3).mono ?_
      rintro e w4 ⟨rfl, hB4⟩
      go_wp2_with fail
      refine (T2.out w4).mono ?_
      rintro e w5 ⟨rfl, rfl⟩
      go_wp2_with fail
      refine (HT3.out w4).mono ?_
      rintro e w6 ⟨rfl, hB6⟩
      go_wp2_with fail
      go_ret
      have hs1 := hB1.size
      have hs2 := hB2.size
      have hs3 := hB3.size
      have hs4 := hB4.size
      exact ⟨rfl, (((hB1.trans (hB2.mono hs1)).trans (hB3.mono (Nat.le_trans hs1 hs2))).trans (hB4.mono (Nat.le_trans (Nat.le_trans hs1 hs2) hs3))).trans (hB6.mono (by omega))⟩
end nums
end Go.Proofs.YthbofgfdgpidcaaDoor
