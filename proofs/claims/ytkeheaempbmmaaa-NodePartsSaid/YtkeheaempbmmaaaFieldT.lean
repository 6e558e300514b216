/- The walks of field's Take, Text, TakeText. -/
import Derived.Test.YtkeheaempbmmaaaFieldW
namespace Go.Proofs.Ytkeheaempbmmaaa
open Go.RowKit
namespace fldw
/-- what Take returns -/
def takeV (o : Except Int Nat) : Value :=
  match o with
  | .error e => .tuple #[.int .u64 0, .int .i64 e]
  | .ok n => .tuple #[.int .u64 (n : Int), .int .i64 0]

set_option maxHeartbeats 1000000 in
theorem take_any (s : ByteArray) (at' size : Int) (w : World) (hs : s.size ≤ 1000000) (h0 : -9223372036854775808 ≤ size) (h1 : size ≤ 9223372036854775807) (h2 : -9223372036854775808 ≤ at') (h3 : at' ≤ 9223372036854775807) :
    Calls Try.prog 34 #[.string s, .int .i64 at', .int .i64 size] w fun e w' => e = .returned (takeV (fld.take s.data.toList at' size)) ∧ Below w.heap.size w w' := by
  by_cases c0 : size < 1 ∨ 8 < size ∨ at' < 0
  · have hp : fld.take s.data.toList at' size = .error 1 := by unfold fld.take; rw [if_pos c0]
    have HP := Lib.hid hp
    clear hp
    by_cases c1 : size < 1
    · clear c0
      go_enter Try.func34, Try.ntmps34
      go_wp2_with fail
      go_ret2
      exact ⟨by rw [HP.out]; rfl, Below.refl _ _⟩
    · by_cases c2 : 8 < size
      · clear c0
        go_enter Try.func34, Try.ntmps34
        go_wp2_with fail
        go_ret2
        exact ⟨by rw [HP.out]; rfl, Below.refl _ _⟩
      · have c3 : at' < 0 := by omega
        clear c0
        go_enter Try.func34, Try.ntmps34
        go_wp2_with fail
        go_ret2
        exact ⟨by rw [HP.out]; rfl, Below.refl _ _⟩
  · have c1 : ¬ size < 1 := by omega
    have c2 : ¬ 8 < size := by omega
    have c3 : ¬ at' < 0 := by omega
    by_cases c4 : (s.data.toList.length : Int) < at' + size
    · have hp : fld.take s.data.toList at' size = .error 3 := by unfold fld.take; rw [if_neg c0, if_pos c4]
      have HP := Lib.hid hp
      rw [kt.size_len] at c4
      clear hp c0
      by_cases c5 : (s.size : Int) < at'
      · clear c4
        go_enter Try.func34, Try.ntmps34
        go_wp2_with fail
        go_ret2
        exact ⟨by rw [HP.out]; rfl, Below.refl _ _⟩
      · have c6 : (s.size : Int) - at' < size := by omega
        clear c4
        go_enter Try.func34, Try.ntmps34
        go_wp2_with fail
        go_ret2
        exact ⟨by rw [HP.out]; rfl, Below.refl _ _⟩
    · have hp : fld.take s.data.toList at' size = .ok (fld.num ((s.data.toList.drop at'.toNat).take size.toNat)) := by unfold fld.take; rw [if_neg c0, if_neg c4]
      rw [kt.size_len] at c4
      obtain ⟨a, rfl⟩ := Int.eq_ofNat_of_zero_le (show 0 ≤ at' by omega)
      obtain ⟨k, rfl⟩ := Int.eq_ofNat_of_zero_le (show 0 ≤ size by omega)
      rw [Int.toNat_natCast, Int.toNat_natCast] at hp
      obtain ⟨t, ht⟩ : ∃ t : ByteArray, Hid (t = s.extract a (a + k)) := ⟨_, rfl⟩
      have htd : t.data.toList = (s.data.toList.drop a).take k := by rw [ht.out, Lib.extract_data]; simp
      rw [← htd] at hp
      have htk : t.size = k := by rw [← kt.size_len, htd, List.length_take, List.length_drop, kt.size_len]; omega
      have HP := Lib.hid hp
      have HK := Lib.hid htk
      have ex : s.extract a (a + k) = t := ht.out.symm
      have c5 : ¬ (s.size : Int) < (a : Int) := by omega
      have c6 : ¬ (s.size : Int) - (a : Int) < (k : Int) := by omega
      have c7 : (a : Int) + (k : Int) ≤ (s.size : Int) := by omega
      have c8 : ((a : Int) + (k : Int)).toNat = a + k := by omega
      obtain ⟨W1, cap, hcv, hrow, hB1⟩ := kt.bytes_of (P := Try.prog) (src := 9) (dst := 56) Try.underlying9 Try.underlying56 Try.underlying5 w t
      rw [htk] at hcv
      have HR := Lib.hid hrow
      clear hp htk htd c0 c4 hrow
      go_enter Try.func34, Try.ntmps34
      go_wp2_with fail
      go_loop [8, 43] (fun nv jv => ∃ (j N : Nat), j ≤ k ∧ jv = .int .i64 (j : Int) ∧ nv = .int .u64 (N : Int) ∧ Hid (N = fld.num (t.data.toList.take j))) (fun _ jv => k - (intOf jv).toNat)
      case atStart => exact ⟨0, 0, by omega, rfl, rfl, rfl⟩
      case round =>
        obtain ⟨j, N, hj, rfl, rfl, hNe⟩ := hrel
        by_cases hlt : j < k
        · have hjt : j < t.size := by have := HK.out; omega
          have hc := (HR.out j (by rw [kt.size_len]; exact hjt)).1
          rw [show t.data.toList[j]'(by rw [kt.size_len]; exact hjt) = t[j] from rfl] at hc
          have hb := t[j].toNat_lt
          go_wp2_with fail
          go_round
          case rel =>
            refine ⟨j + 1, 256 * N + t[j].toNat, by omega, by go_num, ?_, ?_⟩
            · rw [fld.u64_shl_or N t[j].toNat (by rw [hNe.out]; exact fld.num_small (by rw [List.length_take]; omega)) hb]
            · show _ = _
              rw [kt.take_snoc t j hjt, fld.num_snoc, ← hNe.out, Nat.mul_comm]
          case measure => simp [intOf]; omega
        · obtain rfl : j = k := by omega
          go_wp2_with fail
          go_ret2
          exact ⟨by rw [HP.out, hNe.out, List.take_of_length_le (by rw [kt.size_len]; have := HK.out; omega)]; rfl, hB1⟩

/-- what Text returns -/
def textV (s t : ByteArray) : Value :=
  if 65535 < t.size then .tuple #[.string ⟨#[]⟩, .int .i64 5] else .tuple #[.string ⟨(s.data.toList ++ (fld.be t.size 2 ++ t.data.toList)).toArray⟩, .int .i64 0]
theorem put2 (n : Nat) (h : n ≤ 65535) : fld.put n 2 = some (fld.be n 2) := by
  unfold fld.put
  rw [if_neg (by omega), if_neg (by rw [show (2 : Int).toNat = 2 from rfl]; omega)]
  rfl

set_option maxHeartbeats 400000 in
theorem text_any (s t : ByteArray) (w : World) (hs : s.size ≤ 1000000) (ht : t.size ≤ 140737488351232) :
    Calls Try.prog 38 #[.string s, .string t] w fun e w' => e = .returned (textV s t) ∧ Below w.heap.size w w' := by
  by_cases h : 65535 < t.size
  · have e1 : textV s t = .tuple #[.string ⟨#[]⟩, .int .i64 5] := by unfold textV; rw [if_pos h]
    have E1 := Lib.hid e1
    clear e1
    go_enter Try.func38, Try.ntmps38
    go_wp2_with fail
    go_ret2
    exact ⟨by rw [E1.out]; rfl, Below.refl _ _⟩
  · have e1 : textV s t = .tuple #[.string ⟨(s.data.toList ++ (fld.be t.size 2 ++ t.data.toList)).toArray⟩, .int .i64 0] := by unfold textV; rw [if_neg h]
    have E1 := Lib.hid e1
    clear e1
    obtain ⟨b, hb⟩ : ∃ b : ByteArray, Hid (b = ⟨(s.data.toList ++ fld.be t.size 2).toArray⟩) := ⟨_, rfl⟩
    have hbs : b.size ≤ 1000002 := by
      have : b.size = (s.data.toList ++ fld.be t.size 2).length := by rw [hb.out]; rfl
      rw [this, List.length_append, kt.size_len, fld.be_length]; omega
    have C : Hid (Calls Try.prog 24 #[.string s, .int .u64 (t.size : Int), .int .i64 2] w fun e w' => e = .returned (.tuple #[.string b, .int .i64 0]) ∧ Below w.heap.size w w') := by
      have h1 := put_any s t.size 2 w hs (by unfold U64; omega) (by omega) (by omega)
      rw [put2 t.size (by omega)] at h1
      rw [hb.out]
      exact h1
    go_enter Try.func38, Try.ntmps38
    go_wp2_with fail
    refine C.out.mono ?_
    rintro e w1 ⟨rfl, hB1⟩
    go_wp2_with fail
    go_ret2
    exact ⟨by
      rw [E1.out]
      refine congrArg Ending.returned ?_
      show Value.tuple #[.string _, .int .i64 0] = .tuple #[.string _, .int .i64 0]
      rw [show b ++ t = ⟨(s.data.toList ++ (fld.be t.size 2 ++ t.data.toList)).toArray⟩ from kt.str_eq (by rw [hb.out]; simp)], hB1⟩

/-- what TakeText returns -/
def ttV (o : Except Int (List UInt8 × Nat)) : Value :=
  match o with
  | .error e => .tuple #[.string ⟨#[]⟩, .int .i64 0, .int .i64 e]
  | .ok (l, p) => .tuple #[.string ⟨l.toArray⟩, .int .i64 (p : Int), .int .i64 0]

set_option maxHeartbeats 1000000 in
theorem taketext_any (s : ByteArray) (at' : Int) (w : World) (hs : s.size ≤ 1000000) (h2 : -9223372036854775808 ≤ at') (h3 : at' ≤ 9223372036854775807) :
    Calls Try.prog 41 #[.string s, .int .i64 at'] w fun e w' => e = .returned (ttV (fld.takeT s.data.toList at')) ∧ Below w.heap.size w w' := by
  have C := take_any s at' 2 w hs (by omega) (by omega) h2 h3
  cases hT : fld.take s.data.toList at' 2 with
  | error er =>
    have e1 : fld.takeT s.data.toList at' = .error er := by unfold fld.takeT; rw [hT]
    have her : (er == 0) = false ∧ (er != 0) = true := by
      unfold fld.take at hT
      split at hT
      · cases hT; exact ⟨rfl, rfl⟩
      · split at hT
        · cases hT; exact ⟨rfl, rfl⟩
        · cases hT
    obtain ⟨her1, her2⟩ := her
    rw [hT] at C
    have C1 := Lib.hid C
    have E1 := Lib.hid e1
    clear C e1 hT
    go_enter Try.func41, Try.ntmps41
    go_wp2_with fail
    refine C1.out.mono ?_
    rintro e w1 ⟨he, hB1⟩
    have he' : e = .returned (.tuple #[.int .u64 0, .int .i64 er]) := he
    clear he
    subst he'
    go_wp2_with fail
    go_ret3
    exact ⟨by rw [E1.out]; rfl, hB1⟩
  | ok n =>
    have hn : n < 65536 ∧ 0 ≤ at' ∧ at' + 2 ≤ (s.size : Int) := by
      unfold fld.take at hT
      split at hT
      · cases hT
      · rename_i h1
        split at hT
        · cases hT
        · rename_i h5
          cases hT
          rw [kt.size_len] at h5
          refine ⟨?_, by omega, by omega⟩
          exact fld.num_le (k := 2) (by rw [List.length_take]; exact Nat.min_le_left _ _)
    obtain ⟨hn1, hn2, hn3⟩ := hn
    obtain ⟨a, rfl⟩ := Int.eq_ofNat_of_zero_le hn2
    rw [hT] at C
    have C1 := Lib.hid C
    clear C
    by_cases hlong : s.size < a + 2 + n
    · have e1 : fld.takeT s.data.toList a = .error 3 := by unfold fld.takeT; rw [hT]; simp only []; rw [Int.toNat_natCast, kt.size_len, if_pos hlong]
      have E1 := Lib.hid e1
      clear e1 hT
      have q1 : (s.size : Int) - (a : Int) - 2 < (n : Int) := by omega
      go_enter Try.func41, Try.ntmps41
      go_wp2_with fail
      refine C1.out.mono ?_
      rintro e w1 ⟨he, hB1⟩
      have he' : e = .returned (.tuple #[.int .u64 (n : Int), .int .i64 0]) := he
      clear he
      subst he'
      go_wp2_with fail
      go_ret3
      exact ⟨by rw [E1.out]; rfl, hB1⟩
    · have e1 : fld.takeT s.data.toList a = .ok ((s.data.toList.drop (a + 2)).take n, a + 2 + n) := by unfold fld.takeT; rw [hT]; simp only []; rw [Int.toNat_natCast, kt.size_len, if_neg hlong]
      have E1 := Lib.hid e1
      clear e1 hT
      have q1 : ¬ (s.size : Int) - (a : Int) - 2 < (n : Int) := by omega
      have q2 : ((a : Int) + 2 + (n : Int)).toNat = a + 2 + n := by omega
      have q3 : ((a : Int) + 2).toNat = a + 2 := by omega
      have q4 : (a : Int) + 2 + (n : Int) ≤ (s.size : Int) := by omega
      go_enter Try.func41, Try.ntmps41
      go_wp2_with fail
      refine C1.out.mono ?_
      rintro e w1 ⟨he, hB1⟩
      have he' : e = .returned (.tuple #[.int .u64 (n : Int), .int .i64 0]) := he
      clear he
      subst he'
      go_wp2_with fail
      go_ret3
      exact ⟨by
        rw [E1.out]
        refine congrArg Ending.returned ?_
        show Value.tuple #[.string _, .int .i64 _, .int .i64 0] = .tuple #[.string _, .int .i64 _, .int .i64 0]
        rw [show s.extract (a + 2) (a + 2 + n) = ⟨((s.data.toList.drop (a + 2)).take n).toArray⟩ from kt.str_eq (by rw [Lib.extract_data]; simp)]
        rfl, hB1⟩
end fldw
end Go.Proofs.Ytkeheaempbmmaaa
