/- The walks of field's Take, Text, TakeText. -/
import Derived.Test.YtcolcogobdgejaaGreatDoorYRPack
import Derived.Test.YtcolcogobdgejaaGreatDoorRows
/-! FieldW -/
namespace Go.Proofs.YtcolcogobdgejaaGreatDoor
open Go.RowKit
namespace kt
theorem mkbytes2 {P : Program} {t e : TypeId} (ht : P.underlying t = some (.slice e)) (hinfo : (P.info? e).map (fun i => (i.zero, i.size, i.bytes)) = some (some (.int .u8 0), 1, 1)) (w : World) (n : Nat) (hn : n ≤ 1000000000) :
  ∃ W1, (Instr.makeSlice t (.int .i64 (n : Int)) (.int .i64 (n : Int))).run P w = .ok (.slice (some ⟨w.heap.size, 0, none⟩) n n) W1 ∧ ByteRow W1 w.heap.size (List.replicate n 0) ∧ Below w.heap.size w W1 := by
 obtain ⟨i0, hi, hz0, hz1, hz2⟩ := info_parts hinfo
 obtain ⟨w', hrun, hown, hgr⟩ := run_make_full (P := P) w w.heap.size t e i0 (.int .u8 0) 1 ht hi hz0 hz1 .i64 .i64 n (by rw [hz2]; omega) (by unfold maxLen; omega) (Nat.le_refl _)
 refine ⟨w', hrun, ?_, (Below.refl _ w).grown hgr (Nat.le_refl _) (fun k hk => by cases hk)⟩
 intro j hj
 rw [List.length_replicate] at hj
 rcases hown.2 with ⟨_, h0⟩ | ⟨g, cap, cur, hv, _, hg, h1, h2, h3, h4⟩
 ·omega
 ·simp only [Value.slice.injEq, Option.some.injEq, Addr.mk.injEq] at hv
  obtain ⟨⟨rfl, _, _⟩, _, rfl⟩ := hv
  have hcur : cur[j]? = some (.int .u8 0) := by
   have h5 : (cur.toList.take (n * 1))[j]? = some (.int .u8 0) := by
    rw [h4]
    have hv : ∀ m : Nat, (Value.int IntKind.u8 0).cells[m % (Value.int IntKind.u8 0).cells.size]! = Value.int IntKind.u8 0 := by
     intro m
     rw [show (Value.int IntKind.u8 0).cells.size = 1 from rfl, Nat.mod_one]; rfl
    simp [madeCells, hv, hj]
   rw [List.getElem?_take, if_pos (by omega)] at h5
   simpa using h5
  refine ⟨?_, ?_⟩
  ·rw [Lib.cell_of_heap hg, hcur]; simp [List.getElem_replicate]
  ·exact Lib.frozen_of_heap hg j
end kt
namespace fldw
def putV (s : ByteArray) (o : Option (List UInt8)) : Value :=
 match o with
 | none => .tuple #[.string ⟨#[]⟩, .int .i64 1]
 | some b => .tuple #[.string ⟨(s.data.toList ++ b).toArray⟩, .int .i64 0]
def U64 (n : Nat) : Prop := n < 18446744073709551616
set_option maxRecDepth 20000 in
set_option maxHeartbeats 1100000 in
theorem put_any (s : ByteArray) (n : Nat) (size : Int) (w : World) (hs : s.size ≤ 1100000) (hn : U64 n) (h0 : -9223372036854775808 ≤ size) (h1 : size ≤ 9223372036854775807) :
  Calls Tryz.prog 135 #[.string s, .int .u64 (n : Int), .int .i64 size] w fun e w' => e = .returned (putV s (fld.put n size)) ∧ Below w.heap.size w w' := by
 by_cases c1 : size < 1
 ·have hp : fld.put n size = none := by unfold fld.put; rw [if_pos (by omega)]
  have HP := Lib.hid hp
  clear hp
  go_enter Tryz.func135, Tryz.ntmps135
  go_wp2_with fail
  go_ret2
  exact ⟨by rw [HP.out]; rfl, Below.refl _ _⟩
 ·by_cases c2 : 8 < size
  ·have hp : fld.put n size = none := by unfold fld.put; rw [if_pos (by omega)]
   have HP := Lib.hid hp
   clear hp
   go_enter Tryz.func135, Tryz.ntmps135
   go_wp2_with fail
   go_ret2
   exact ⟨by rw [HP.out]; rfl, Below.refl _ _⟩
  ·obtain ⟨k, rfl⟩ := Int.eq_ofNat_of_zero_le (show 0 ≤ size by omega)
   have hpow : (2 : Int) ^ (8 * k) = ((256 ^ k : Nat) : Int) := by rw [show (256 : Nat) = 2 ^ 8 from rfl, ← Nat.pow_mul, Int.natCast_pow]; rfl
   by_cases c3 : 256 ^ k ≤ n
   ·have hp : fld.put n k = none := by unfold fld.put; rw [if_neg (by omega), Int.toNat_natCast, if_pos c3]
    have HP := Lib.hid hp
    have hk8 : k < 8 := by
     rcases Nat.lt_or_ge k 8 with h | h
     ·exact h
     ·obtain rfl : k = 8 := by omega
      have : (256 : Nat) ^ 8 = 18446744073709551616 := by decide
      unfold U64 at hn
      omega
    have q : (0 : Int) < (n : Int) / 2 ^ (8 * k) := by
     rw [hpow, ← Int.natCast_ediv]
     have := Nat.div_pos c3 (Nat.pow_pos (by omega))
     omega
    have HN := Lib.hid hn
    clear hp c3 hpow hn
    go_enter Tryz.func135, Tryz.ntmps135
    go_wp2_with fail
    go_ret2
    exact ⟨by rw [HP.out]; rfl, Below.refl _ _⟩
   ·have hp : fld.put n k = some (fld.be n k) := by unfold fld.put; rw [if_neg (by omega), Int.toNat_natCast, if_neg c3]
    have HP := Lib.hid hp
    have q : ¬ (0 : Int) < (n : Int) / 2 ^ (8 * k) := by
     rw [hpow, ← Int.natCast_ediv, Nat.div_eq_of_lt (by omega)]
     simp
    have HN := Lib.hid hn
    clear hp c3 hpow hn
    obtain ⟨W1, hmk, hrow, hB1⟩ := kt.mkbytes2 (P := Tryz.prog) Tryz.underlying96 infoByte w k (by omega)
    rw [← fld.laid_start n k] at hrow
    have HR := Lib.hid hrow
    clear hrow
    by_cases hk8 : k < 8
    all_goals
     go_enter Tryz.func135, Tryz.ntmps135
     go_wp2_with fail
     go_loopw [1, 9] (fun nv iv wr => ∃ (j N : Nat), j ≤ k ∧ iv = .int .i64 ((j : Int) - 1) ∧ nv = .int .u64 (N : Int) ∧ Hid (N = n / 256 ^ (k - j)) ∧ Hid (kt.ByteRow wr w.heap.size (fld.laid n k j)) ∧ Below w.heap.size w wr) (fun _ iv _ => (intOf iv + 1).toNat)
     case atStart => exact ⟨k, n, Nat.le_refl _, rfl, rfl, by show _ = _; simp, HR, hB1⟩
     case round =>
      obtain ⟨j, N, hj, rfl, rfl, hNe, hrow, hB⟩ := hrel
      cases j with
      | zero =>
       have hst := kt.byterow_str (P := Tryz.prog) (dst := 9) (n := k) (cap := k) Tryz.underlying96 Tryz.underlying5 Tryz.underlying9 hrow.out (by rw [fld.laid_length _ _ _ (by omega)])
       obtain ⟨b, hb⟩ : ∃ b : ByteArray, Hid (b = ⟨(fld.laid n k 0).toArray⟩) := ⟨⟨(fld.laid n k 0).toArray⟩, rfl⟩
       rw [← hb.out] at hst
       have hbs : b.size ≤ 8 := by
        have : b.size = (fld.laid n k 0).length := by rw [hb.out]; rfl
        rw [this, fld.laid_length _ _ _ (by omega)]; omega
       rw [show (((0 : Nat) : Int) - 1) = -1 from rfl]
       go_wp2_with fail
       go_ret2
       exact ⟨by
        rw [HP.out]
        refine congrArg Ending.returned ?_
        show Value.tuple #[.string _, .int .i64 0] = .tuple #[.string _, .int .i64 0]
        rw [show s ++ b = ⟨(s.data.toList ++ fld.be n k).toArray⟩ from kt.str_eq (by rw [hb.out, fld.laid_end]; simp)], hB⟩
      | succ q =>
       obtain ⟨m, hm⟩ : ∃ m : UInt8, Hid (m = UInt8.ofNat N) := ⟨_, rfl⟩
       have em : (N : Int) % 256 = (m.toNat : Int) := by rw [hm.out, UInt8.toNat_ofNat']; omega
       have hqk : q < (fld.laid n k (q + 1)).length := by rw [fld.laid_length _ _ _ hj]; omega
       obtain ⟨hc, hf⟩ := hrow.out q hqk
       rw [show (((q + 1 : Nat) : Int) - 1) = (q : Int) from by omega]
       go_wp2_with fail
       go_roundw
       case rel =>
        refine ⟨q, N / 256, by omega, by go_num, by go_num, ?_, ?_, hB.setCell (Nat.le_refl _) _⟩
        ·show N / 256 = n / 256 ^ (k - q)
         rw [hNe.out, Nat.div_div_eq_div_mul, ← Nat.pow_succ, show (k - (q + 1)).succ = k - q from by omega]
        ·have h := kt.byterow_set hrow.out q m
         rw [hm.out, hNe.out, show k - (q + 1) = k - 1 - q from by omega, fld.laid_step n k q (by omega)] at h
         show kt.ByteRow _ _ _
         rw [hm.out, hNe.out, show k - (q + 1) = k - 1 - q from by omega]
         exact h
       case measure => simp [intOf]
end fldw
end Go.Proofs.YtcolcogobdgejaaGreatDoor
/-! FieldT -/
namespace Go.Proofs.YtcolcogobdgejaaGreatDoor
open Go.RowKit
namespace fldw
def takeV (o : Except Int Nat) : Value :=
 match o with
 | .error e => .tuple #[.int .u64 0, .int .i64 e]
 | .ok n => .tuple #[.int .u64 (n : Int), .int .i64 0]
set_option maxRecDepth 20000 in
set_option maxHeartbeats 1100000 in
theorem take_any (s : ByteArray) (at' size : Int) (w : World) (hs : s.size ≤ 1100000) (h0 : -9223372036854775808 ≤ size) (h1 : size ≤ 9223372036854775807) (h2 : -9223372036854775808 ≤ at') (h3 : at' ≤ 9223372036854775807) :
  Calls Tryz.prog 137 #[.string s, .int .i64 at', .int .i64 size] w fun e w' => e = .returned (takeV (fld.take s.data.toList at' size)) ∧ Below w.heap.size w w' := by
 by_cases c0 : size < 1 ∨ 8 < size ∨ at' < 0
 ·have hp : fld.take s.data.toList at' size = .error 1 := by unfold fld.take; rw [if_pos c0]
  have HP := Lib.hid hp
  clear hp
  by_cases c1 : size < 1
  ·clear c0
   go_enter Tryz.func137, Tryz.ntmps137
   go_wp2_with fail
   go_ret2
   exact ⟨by rw [HP.out]; rfl, Below.refl _ _⟩
  ·by_cases c2 : 8 < size
   ·clear c0
    go_enter Tryz.func137, Tryz.ntmps137
    go_wp2_with fail
    go_ret2
    exact ⟨by rw [HP.out]; rfl, Below.refl _ _⟩
   ·have c3 : at' < 0 := by omega
    clear c0
    go_enter Tryz.func137, Tryz.ntmps137
    go_wp2_with fail
    go_ret2
    exact ⟨by rw [HP.out]; rfl, Below.refl _ _⟩
 ·have c1 : ¬ size < 1 := by omega
  have c2 : ¬ 8 < size := by omega
  have c3 : ¬ at' < 0 := by omega
  by_cases c4 : (s.data.toList.length : Int) < at' + size
  ·have hp : fld.take s.data.toList at' size = .error 3 := by unfold fld.take; rw [if_neg c0, if_pos c4]
   have HP := Lib.hid hp
   rw [kt.size_len] at c4
   clear hp c0
   by_cases c5 : (s.size : Int) < at'
   ·clear c4
    go_enter Tryz.func137, Tryz.ntmps137
    go_wp2_with fail
    go_ret2
    exact ⟨by rw [HP.out]; rfl, Below.refl _ _⟩
   ·have c6 : (s.size : Int) - at' < size := by omega
    clear c4
    go_enter Tryz.func137, Tryz.ntmps137
    go_wp2_with fail
    go_ret2
    exact ⟨by rw [HP.out]; rfl, Below.refl _ _⟩
  ·have hp : fld.take s.data.toList at' size = .ok (fld.num ((s.data.toList.drop at'.toNat).take size.toNat)) := by unfold fld.take; rw [if_neg c0, if_neg c4]
   rw [kt.size_len] at c4
   obtain ⟨a, rfl⟩ := Int.eq_ofNat_of_zero_le (show 0 ≤ at' by omega)
   obtain ⟨k, rfl⟩ := Int.eq_ofNat_of_zero_le (show 0 ≤ size by omega)
   rw [Int.toNat_natCast, Int.toNat_natCast] at hp
   obtain ⟨t, ht⟩ : ∃ t : ByteArray, Hid (t = s.extract a (a + k)) := ⟨_, rfl⟩
   have htd : t.data.toList = (s.data.toList.drop a).take k := by rw [ht.out, Lib.extract_data]; simp
   rw [← htd] at hp
   have htk : t.size = k := by rw [← kt.size_len, htd, List.length_take, List.length_drop, kt.size_len]; omega
   have HP := Lib.hid hp
   have HK := Lib.hid htk
   have ex : s.extract a (a + k) = t := ht.out.symm
   have c5 : ¬ (s.size : Int) < (a : Int) := by omega
   have c6 : ¬ (s.size : Int) - (a : Int) < (k : Int) := by omega
   have c7 : (a : Int) + (k : Int) ≤ (s.size : Int) := by omega
   have c8 : ((a : Int) + (k : Int)).toNat = a + k := by omega
   obtain ⟨W1, cap, hcv, hrow, hB1⟩ := kt.bytes_of (P := Tryz.prog) (src := 9) (dst := 96) Tryz.underlying9 Tryz.underlying96 Tryz.underlying5 w t
   rw [htk] at hcv
   have HR := Lib.hid hrow
   clear hp htk htd c0 c4 hrow
   go_enter Tryz.func137, Tryz.ntmps137
   go_wp2_with fail
   go_loop [8, 43] (fun nv jv => ∃ (j N : Nat), j ≤ k ∧ jv = .int .i64 (j : Int) ∧ nv = .int .u64 (N : Int) ∧ Hid (N = fld.num (t.data.toList.take j))) (fun _ jv => k - (intOf jv).toNat)
   case atStart => exact ⟨0, 0, by omega, rfl, rfl, rfl⟩
   case round =>
    obtain ⟨j, N, hj, rfl, rfl, hNe⟩ := hrel
    by_cases hlt : j < k
    ·have hjt : j < t.size := by have := HK.out; omega
     have hc := (HR.out j (by rw [kt.size_len]; exact hjt)).1
     rw [show t.data.toList[j]'(by rw [kt.size_len]; exact hjt) = t[j] from rfl] at hc
     have hb := t[j].toNat_lt
     go_wp2_with fail
     go_round
     case rel =>
      refine ⟨j + 1, 256 * N + t[j].toNat, by omega, by go_num, ?_, ?_⟩
      ·rw [fld.u64_shl_or N t[j].toNat (by rw [hNe.out]; exact fld.num_small (by rw [List.length_take]; omega)) hb]
      ·show _ = _
       rw [kt.take_snoc t j hjt, fld.num_snoc, ← hNe.out, Nat.mul_comm]
     case measure => simp [intOf]; omega
    ·obtain rfl : j = k := by omega
     go_wp2_with fail
     go_ret2
     exact ⟨by rw [HP.out, hNe.out, List.take_of_length_le (by rw [kt.size_len]; have := HK.out; omega)]; rfl, hB1⟩
def textV (s t : ByteArray) : Value :=
 if 65535 < t.size then .tuple #[.string ⟨#[]⟩, .int .i64 5] else .tuple #[.string ⟨(s.data.toList ++ (fld.be t.size 2 ++ t.data.toList)).toArray⟩, .int .i64 0]
theorem put2 (n : Nat) (h : n ≤ 65535) : fld.put n 2 = some (fld.be n 2) := by
 unfold fld.put
 rw [if_neg (by omega), if_neg (by rw [show (2 : Int).toNat = 2 from rfl]; omega)]
 rfl
set_option maxRecDepth 20000 in
set_option maxHeartbeats 400000 in
theorem text_any (s t : ByteArray) (w : World) (hs : s.size ≤ 1100000) (ht : t.size ≤ 140737488351232) :
  Calls Tryz.prog 90 #[.string s, .string t] w fun e w' => e = .returned (textV s t) ∧ Below w.heap.size w w' := by
 by_cases h : 65535 < t.size
 ·have e1 : textV s t = .tuple #[.string ⟨#[]⟩, .int .i64 5] := by unfold textV; rw [if_pos h]
  have E1 := Lib.hid e1
  clear e1
  go_enter Tryz.func90, Tryz.ntmps90
  go_wp2_with fail
  go_ret2
  exact ⟨by rw [E1.out]; rfl, Below.refl _ _⟩
 ·have e1 : textV s t = .tuple #[.string ⟨(s.data.toList ++ (fld.be t.size 2 ++ t.data.toList)).toArray⟩, .int .i64 0] := by unfold textV; rw [if_neg h]
  have E1 := Lib.hid e1
  clear e1
  obtain ⟨b, hb⟩ : ∃ b : ByteArray, Hid (b = ⟨(s.data.toList ++ fld.be t.size 2).toArray⟩) := ⟨_, rfl⟩
  have hbs : b.size ≤ 1100002 := by
   have : b.size = (s.data.toList ++ fld.be t.size 2).length := by rw [hb.out]; rfl
   rw [this, List.length_append, kt.size_len, fld.be_length]; omega
  have C : Hid (Calls Tryz.prog 135 #[.string s, .int .u64 (t.size : Int), .int .i64 2] w fun e w' => e = .returned (.tuple #[.string b, .int .i64 0]) ∧ Below w.heap.size w w') := by
   have h1 := put_any s t.size 2 w hs (by unfold U64; omega) (by omega) (by omega)
   rw [put2 t.size (by omega)] at h1
   rw [hb.out]
   exact h1
  go_enter Tryz.func90, Tryz.ntmps90
  go_wp2_with fail
  refine C.out.mono ?_
  rintro e w1 ⟨rfl, hB1⟩
  go_wp2_with fail
  go_ret2
  exact ⟨by
   rw [E1.out]
   refine congrArg Ending.returned ?_
   show Value.tuple #[.string _, .int .i64 0] = .tuple #[.string _, .int .i64 0]
   rw [show b ++ t = ⟨(s.data.toList ++ (fld.be t.size 2 ++ t.data.toList)).toArray⟩ from kt.str_eq (by rw [hb.out]; simp)], hB1⟩
def ttV (o : Except Int (List UInt8 × Nat)) : Value :=
 match o with
 | .error e => .tuple #[.string ⟨#[]⟩, .int .i64 0, .int .i64 e]
 | .ok (l, p) => .tuple #[.string ⟨l.toArray⟩, .int .i64 (p : Int), .int .i64 0]
set_option maxRecDepth 20000 in
set_option maxHeartbeats 1100000 in
theorem taketext_any (s : ByteArray) (at' : Int) (w : World) (hs : s.size ≤ 1100000) (h2 : -9223372036854775808 ≤ at') (h3 : at' ≤ 9223372036854775807) :
  Calls Tryz.prog 138 #[.string s, .int .i64 at'] w fun e w' => e = .returned (ttV (fld.takeT s.data.toList at')) ∧ Below w.heap.size w w' := by
 have C := take_any s at' 2 w hs (by omega) (by omega) h2 h3
 cases hT : fld.take s.data.toList at' 2 with
 | error er =>
  have e1 : fld.takeT s.data.toList at' = .error er := by unfold fld.takeT; rw [hT]
  have her : (er == 0) = false ∧ (er != 0) = true := by
   unfold fld.take at hT
   split at hT
   ·cases hT; exact ⟨rfl, rfl⟩
   ·split at hT
    ·cases hT; exact ⟨rfl, rfl⟩
    ·cases hT
  obtain ⟨her1, her2⟩ := her
  rw [hT] at C
  have C1 := Lib.hid C
  have E1 := Lib.hid e1
  clear C e1 hT
  go_enter Tryz.func138, Tryz.ntmps138
  go_wp2_with fail
  refine C1.out.mono ?_
  rintro e w1 ⟨he, hB1⟩
  have he' : e = .returned (.tuple #[.int .u64 0, .int .i64 er]) := he
  clear he
  subst he'
  go_wp2_with fail
  go_ret3
  exact ⟨by rw [E1.out]; rfl, hB1⟩
 | ok n =>
  have hn : n < 65536 ∧ 0 ≤ at' ∧ at' + 2 ≤ (s.size : Int) := by
   unfold fld.take at hT
   split at hT
   ·cases hT
   ·rename_i h1
    split at hT
    ·cases hT
    ·rename_i h5
     cases hT
     rw [kt.size_len] at h5
     refine ⟨?_, by omega, by omega⟩
     exact fld.num_le (k := 2) (by rw [List.length_take]; exact Nat.min_le_left _ _)
  obtain ⟨hn1, hn2, hn3⟩ := hn
  obtain ⟨a, rfl⟩ := Int.eq_ofNat_of_zero_le hn2
  rw [hT] at C
  have C1 := Lib.hid C
  clear C
  by_cases hlong : s.size < a + 2 + n
  ·have e1 : fld.takeT s.data.toList a = .error 3 := by unfold fld.takeT; rw [hT]; simp only []; rw [Int.toNat_natCast, kt.size_len, if_pos hlong]
   have E1 := Lib.hid e1
   clear e1 hT
   have q1 : (s.size : Int) - (a : Int) - 2 < (n : Int) := by omega
   go_enter Tryz.func138, Tryz.ntmps138
   go_wp2_with fail
   refine C1.out.mono ?_
   rintro e w1 ⟨he, hB1⟩
   have he' : e = .returned (.tuple #[.int .u64 (n : Int), .int .i64 0]) := he
   clear he
   subst he'
   go_wp2_with fail
   go_ret3
   exact ⟨by rw [E1.out]; rfl, hB1⟩
  ·have e1 : fld.takeT s.data.toList a = .ok ((s.data.toList.drop (a + 2)).take n, a + 2 + n) := by unfold fld.takeT; rw [hT]; simp only []; rw [Int.toNat_natCast, kt.size_len, if_neg hlong]
   have E1 := Lib.hid e1
   clear e1 hT
   have q1 : ¬ (s.size : Int) - (a : Int) - 2 < (n : Int) := by omega
   have q2 : ((a : Int) + 2 + (n : Int)).toNat = a + 2 + n := by omega
   have q3 : ((a : Int) + 2).toNat = a + 2 := by omega
   have q4 : (a : Int) + 2 + (n : Int) ≤ (s.size : Int) := by omega
   go_enter Tryz.func138, Tryz.ntmps138
   go_wp2_with fail
   refine C1.out.mono ?_
   rintro e w1 ⟨he, hB1⟩
   have he' : e = .returned (.tuple #[.int .u64 (n : Int), .int .i64 0]) := he
   clear he
   subst he'
   go_wp2_with fail
   go_ret3
   exact ⟨by
    rw [E1.out]
    refine congrArg Ending.returned ?_
    show Value.tuple #[.string _, .int .i64 _, .int .i64 0] = .tuple #[.string _, .int .i64 _, .int .i64 0]
    rw [show s.extract (a + 2) (a + 2 + n) = ⟨((s.data.toList.drop (a + 2)).take n).toArray⟩ from kt.str_eq (by rw [Lib.extract_data]; simp)]
    rfl, hB1⟩
end fldw
end Go.Proofs.YtcolcogobdgejaaGreatDoor
