/- The walks of the reference's Byte and Unpack. -/
import Derived.Test.YtcolcogobdgejaaGreatDoorYField
import Derived.Test.YtcolcogobdgejaaGreatDoorYUnp
import Derived.Test.YtcolcogobdgejaaGreatDoorYRPack
/-! FieldR -/
namespace Go.Proofs.YtcolcogobdgejaaGreatDoor
open Go.RowKit
namespace fldw
theorem emptyRow (w : World) (e : TypeId) : (w.alloc (.cells #[] e)).ownsRow w.heap.size e 1 (.slice (some ⟨w.heap.size, 0, none⟩) 0 0) ([] : List Value).length [] :=
 World.ownsRow_made w #[] 0 (Nat.le_refl _) (by unfold maxLen; omega) rfl
set_option maxRecDepth 20000 in
set_option maxHeartbeats 1100000 in
theorem rtake_any (s : ByteArray) (at' size : Int) (w : World) (hs : s.size ≤ 1100000) (h0 : -9223372036854775808 ≤ size) (h1 : size ≤ 9223372036854775807) (h2 : -9223372036854775808 ≤ at') (h3 : at' ≤ 9223372036854775807) :
  Calls Tryz.prog 139 #[.string s, .int .i64 at', .int .i64 size] w fun e w' => e = .returned (takeV (fld.take s.data.toList at' size)) ∧ w = w' := by
 by_cases c0 : size < 1 ∨ 8 < size ∨ at' < 0
 ·have hp : fld.take s.data.toList at' size = .error 1 := by unfold fld.take; rw [if_pos c0]
  have HP := Lib.hid hp
  clear hp
  by_cases c1 : size < 1
  ·clear c0
   go_enter Tryz.func139, Tryz.ntmps139
   go_wp2_with fail
   go_ret2
   exact ⟨by rw [HP.out]; rfl, rfl⟩
  ·by_cases c2 : 8 < size
   ·clear c0
    go_enter Tryz.func139, Tryz.ntmps139
    go_wp2_with fail
    go_ret2
    exact ⟨by rw [HP.out]; rfl, rfl⟩
   ·have c3 : at' < 0 := by omega
    clear c0
    go_enter Tryz.func139, Tryz.ntmps139
    go_wp2_with fail
    go_ret2
    exact ⟨by rw [HP.out]; rfl, rfl⟩
 ·have c1 : ¬ size < 1 := by omega
  have c2 : ¬ 8 < size := by omega
  have c3 : ¬ at' < 0 := by omega
  by_cases c4 : (s.data.toList.length : Int) < at' + size
  ·have hp : fld.take s.data.toList at' size = .error 3 := by unfold fld.take; rw [if_neg c0, if_pos c4]
   have HP := Lib.hid hp
   rw [kt.size_len] at c4
   have c6 : (s.size : Int) - size < at' := by omega
   clear hp c0 c4
   go_enter Tryz.func139, Tryz.ntmps139
   go_wp2_with fail
   go_ret2
   exact ⟨by rw [HP.out]; rfl, rfl⟩
  ·have hp : fld.take s.data.toList at' size = .ok (fld.num ((s.data.toList.drop at'.toNat).take size.toNat)) := by unfold fld.take; rw [if_neg c0, if_neg c4]
   rw [kt.size_len] at c4
   obtain ⟨a, rfl⟩ := Int.eq_ofNat_of_zero_le (show 0 ≤ at' by omega)
   obtain ⟨k, rfl⟩ := Int.eq_ofNat_of_zero_le (show 0 ≤ size by omega)
   rw [Int.toNat_natCast, Int.toNat_natCast] at hp
   have HP := Lib.hid hp
   have c6 : ¬ (s.size : Int) - (k : Int) < (a : Int) := by omega
   clear hp c0 c4
   go_enter Tryz.func139, Tryz.ntmps139
   go_wp2_with fail
   go_loop [8, 9] (fun nv jv => ∃ (j N : Nat), j ≤ k ∧ jv = .int .i64 (j : Int) ∧ nv = .int .u64 (N : Int) ∧ Hid (N = fld.num ((s.data.toList.drop a).take j))) (fun _ jv => k - (intOf jv).toNat)
   case atStart => exact ⟨0, 0, by omega, rfl, rfl, rfl⟩
   case round =>
    obtain ⟨j, N, hj, rfl, rfl, hNe⟩ := hrel
    by_cases hlt : j < k
    ·have hjt : a + j < s.size := by omega
     have hb := s[a + j].toNat_lt
     have d1 : ((a : Int) + (j : Int)).toNat = a + j := by omega
     have d2 : (0 : Int) ≤ (a : Int) + (j : Int) := by omega
     have d3 : (a : Int) + (j : Int) < (s.size : Int) := by omega
     have hsn : (s.data.toList.drop a).take (j + 1) = (s.data.toList.drop a).take j ++ [s[a + j]] := by
      rw [List.take_succ_eq_append_getElem (by rw [List.length_drop, kt.size_len]; omega), List.getElem_drop]
      rfl
     have HS := Lib.hid hsn
     clear hsn
     go_wp2_with fail
     go_round
     case rel =>
      refine ⟨j + 1, 256 * N + s[a + j].toNat, by omega, by go_num, ?_, ?_⟩
      ·rw [fld.u64_mul_add N s[a + j].toNat (by rw [hNe.out]; exact fld.num_small (by rw [List.length_take]; omega)) hb]
      ·show _ = _
       rw [HS.out, fld.num_snoc, ← hNe.out, Nat.mul_comm]
     case measure => simp [intOf]; omega
    ·obtain rfl : j = k := by omega
     go_wp2_with fail
     go_ret2
     exact ⟨by rw [HP.out, hNe.out]; rfl, rfl⟩
end fldw
end Go.Proofs.YtcolcogobdgejaaGreatDoor
/-! FieldU -/
namespace Go.Proofs.YtcolcogobdgejaaGreatDoor
open Go.RowKit
namespace fldw
theorem drop_snoc (l : List UInt8) (a k : Nat) (h : a + k < l.length) : (l.drop a).take (k + 1) = (l.drop a).take k ++ [l[a + k]] := by
 rw [List.take_succ_eq_append_getElem (by rw [List.length_drop]; omega), List.getElem_drop]
set_option maxRecDepth 20000 in
set_option maxHeartbeats 1100000 in
theorem rtaketext_any (s : ByteArray) (at' : Int) (w : World) (hs : s.size ≤ 1100000) (h2 : -9223372036854775808 ≤ at') (h3 : at' ≤ 9223372036854775807) :
  Calls Tryz.prog 98 #[.string s, .int .i64 at'] w fun e w' => e = .returned (ttV (fld.takeT s.data.toList at')) ∧ Below w.heap.size w w' := by
 have C := rtake_any s at' 2 w hs (by omega) (by omega) h2 h3
 cases hk : fld.take s.data.toList at' 2 with
 | error er =>
  have hp : fld.takeT s.data.toList at' = .error er := by unfold fld.takeT; rw [hk]
  have hne : ¬ er = 0 := by
   unfold fld.take at hk
   split at hk
   ·cases hk; decide
   ·split at hk
    ·cases hk; decide
    ·cases hk
  have HP := Lib.hid hp
  rw [hk] at C
  have HC := Lib.hid C
  clear hp C hk
  unfold takeV at HC
  simp only at HC
  go_enter Tryz.func98, Tryz.ntmps98
  go_wp2_with fail
  refine HC.out.mono ?_
  rintro e w1 ⟨rfl, rfl⟩
  have hq : (er == 0) = false := by simpa using hne
  go_wp2_with fail
  go_ret3
  exact ⟨by rw [HP.out]; rfl, Below.refl _ _⟩
 | ok n =>
  have hn : n < 65536 ∧ 0 ≤ at' ∧ at' + 2 ≤ (s.size : Int) := by
   unfold fld.take at hk
   split at hk
   ·cases hk
   ·rename_i h1
    split at hk
    ·cases hk
    ·rename_i h5
     cases hk
     rw [kt.size_len] at h5
     refine ⟨?_, by omega, by omega⟩
     exact fld.num_le (k := 2) (by rw [List.length_take]; exact Nat.min_le_left _ _)
  obtain ⟨hn1, hn2, hn3⟩ := hn
  obtain ⟨a, rfl⟩ := Int.eq_ofNat_of_zero_le hn2
  rw [hk] at C
  unfold takeV at C
  simp only at C
  have C1 := Lib.hid C
  have hT : fld.takeT s.data.toList a = if s.size < a + 2 + n then .error 3 else .ok ((s.data.toList.drop (a + 2)).take n, a + 2 + n) := by
   unfold fld.takeT; rw [hk]; simp only []; rw [Int.toNat_natCast, kt.size_len]
  have HT := Lib.hid hT
  clear C hT hk
  go_enter Tryz.func98, Tryz.ntmps98
  go_wp2_with fail
  refine C1.out.mono ?_
  rintro e w1 ⟨rfl, rfl⟩
  go_wp2_with fail
  go_loopw [9, 10] (fun bv iv wr => ∃ (k : Nat), k ≤ n ∧ iv = .int .i64 (k : Int) ∧ a + 2 + k ≤ s.size ∧ Hid (wr.ownsRow w.heap.size 5 1 bv (Lib.byteCells ((s.data.toList.drop (a + 2)).take k)).length (Lib.byteCells ((s.data.toList.drop (a + 2)).take k))) ∧ Below w.heap.size w wr) (fun _ iv _ => n - (intOf iv).toNat)
  case atStart => exact ⟨0, Nat.zero_le _, rfl, by omega, by show World.ownsRow _ _ _ _ _ _ _; simpa [Lib.byteCells] using emptyRow w 5, (Below.refl _ _).alloc (Nat.le_refl _) _⟩
  case round =>
   obtain ⟨k, hkn, rfl, hkl, hO, hB⟩ := hrel
   have hsz := hB.size
   by_cases c : k < n
   ·have c' : (k : Int) < (n : Int) := by omega
    by_cases c2 : s.size ≤ a + 2 + k
    ·have c3 : (s.size : Int) ≤ (a : Int) + 2 + (k : Int) := by omega
     have hT := HT.out
     rw [if_pos (by omega)] at hT
     have HT2 := Lib.hid hT
     clear hT
     go_wp2_with fail
     go_ret3
     exact ⟨by rw [HT2.out]; rfl, hB⟩
    ·have c3 : ¬ (s.size : Int) ≤ (a : Int) + 2 + (k : Int) := by omega
     have c4 : ((a : Int) + 2 + (k : Int)).toNat = a + 2 + k := by omega
     have hlt : a + 2 + k < s.size := by omega
     obtain ⟨b, hb⟩ : ∃ b : UInt8, Hid (b = s[a + 2 + k]) := ⟨s[a + 2 + k], rfl⟩
     have eb : (s[a + 2 + k]'hlt).toNat = b.toNat := by rw [hb.out]
     obtain ⟨v', w1, hap, hO1, hg1, hB1⟩ := kt.app1 (P := Tryz.prog) (ty := 96) (w := wr) Tryz.underlying96 infoByte rfl (.int .u8 (b.toNat : Int)) rfl hO.out (by rw [Lib.byteCells_length, List.length_take]; unfold maxLen; omega) (by rw [Lib.byteCells_length, List.length_take]; omega) hsz
     have HO1 := Lib.hid hO1
     have HG1 := Lib.hid hg1
     clear hO1 hg1
     go_wp2_with (at_builtin; refine Lib.wpList_append_run _ rfl _ _ _ _ rfl _ _ rfl rfl _ _ hap ?_)
     go_roundw
     case rel =>
      refine ⟨k + 1, by omega, by go_num, by omega, ?_, hB.trans hB1⟩
      have h := HO1.out
      show World.ownsRow _ _ _ _ _ _ _
      rw [drop_snoc s.data.toList (a + 2) k (by rw [kt.size_len]; exact hlt), Lib.byteCells_append, show s.data.toList[a + 2 + k]'(by rw [kt.size_len]; exact hlt) = b from hb.out.symm]
      exact h
     case measure => simp [intOf]; omega
   ·obtain rfl : k = n := by omega
    have c' : ¬ (k : Int) < (k : Int) := by omega
    have hst := kt.str_of_row (P := Tryz.prog) (dst := 9) Tryz.underlying96 Tryz.underlying5 Tryz.underlying9 hO.out
    have hT := HT.out
    rw [if_neg (by omega)] at hT
    have HT2 := Lib.hid hT
    clear hT
    obtain ⟨b, hb⟩ : ∃ b : ByteArray, Hid (b = ⟨((s.data.toList.drop (a + 2)).take k).toArray⟩) := ⟨_, rfl⟩
    rw [← hb.out] at hst
    go_wp2_with fail
    go_ret3
    exact ⟨by
     rw [HT2.out]
     refine congrArg Ending.returned ?_
     show Value.tuple #[.string _, .int .i64 _, .int .i64 0] = .tuple #[.string _, .int .i64 _, .int .i64 0]
     rw [← hb.out]
     rfl, hB⟩
end fldw
end Go.Proofs.YtcolcogobdgejaaGreatDoor
/-! RUnpW -/
namespace Go.Proofs.YtcolcogobdgejaaGreatDoor
open Go.RowKit
namespace etw
open atp atw etp
open dnw (Av Avas)
open tupw (Strs strs_below)
set_option linter.unusedVariables false
set_option linter.unusedSimpArgs false
def byteI (s : ByteArray) (k : Int) : Int := if (cntR s k).2 = true then -1 else ((cntR s k).1 : Int)
theorem byteI_out {s : ByteArray} {k : Int} (h : k < 0 ∨ (s.size : Int) ≤ k) : byteI s k = -1 := by
 have : (cntR s k).2 = true := by
  unfold cntR fld.take
  rw [kt.size_len]
  by_cases h0 : k < 0
  ·rw [if_pos (by omega)]
  ·rw [if_neg (by omega), if_pos (by omega)]
 unfold byteI
 rw [if_pos this]
theorem byteI_in {s : ByteArray} {k : Nat} (h : k < s.size) : byteI s (k : Int) = ((s[k]'h).toNat : Int) := by
 have e : fld.take s.data.toList (k : Int) 1 = .ok ((s[k]'h).toNat) := by
  unfold fld.take
  rw [kt.size_len, if_neg (by omega), if_neg (by omega), Int.toNat_natCast]
  have hd : s.data.toList.drop k = s[k] :: s.data.toList.drop (k + 1) := List.drop_eq_getElem_cons (by rw [kt.size_len]; exact h)
  rw [hd]
  simp [fld.num]
 unfold byteI cntR
 rw [e]
 rfl
set_option maxRecDepth 20000 in
set_option maxHeartbeats 1000000 in
theorem rbyte_any (s : ByteArray) (k : Int) (w : World) (h1 : -9223372036854775808 ≤ k) (h2 : k ≤ 9223372036854775807) :
  Calls Tryz.prog 97 #[.string s, .int .i64 k] w fun e w' => e = .returned (.int .i64 (byteI s k)) ∧ w = w' := by
 by_cases h0 : k < 0
 ·have HE := Lib.hid (byteI_out (s := s) (Or.inl h0))
  go_enter Tryz.func97, Tryz.ntmps97
  go_wp2_with fail
  go_ret
  exact ⟨kt.ret_int HE.out.symm, rfl⟩
 ·by_cases h3 : (s.size : Int) ≤ k
  ·have HE := Lib.hid (byteI_out (s := s) (Or.inr h3))
   go_enter Tryz.func97, Tryz.ntmps97
   go_wp2_with fail
   go_ret
   exact ⟨kt.ret_int HE.out.symm, rfl⟩
  ·obtain ⟨a, rfl⟩ := Int.eq_ofNat_of_zero_le (show 0 ≤ k by omega)
   have ha : a < s.size := by omega
   have HE := Lib.hid (byteI_in ha)
   have hb := s[a].toNat_lt
   go_enter Tryz.func97, Tryz.ntmps97
   go_wp2_with fail
   go_ret
   exact ⟨kt.ret_int HE.out.symm, rfl⟩
theorem byteI_bd (s : ByteArray) (k : Int) : -1 ≤ byteI s k ∧ byteI s k ≤ 255 := by
 have := cntR_le s k
 unfold byteI
 split <;> omega
theorem rtext_R (s : ByteArray) (k : Int) (hs : s.size ≤ 1000000) (h1 : -9223372036854775808 ≤ k) (h2 : k ≤ 9223372036854775807) : ∃ er : Int, (er != 0) = (txtR s k).2.2 ∧ ∀ W, Calls Tryz.prog 98 #[.string s, .int .i64 k] W fun e w' => e = .returned (.tuple #[.string (txtR s k).1, .int .i64 ((txtR s k).2.1 : Int), .int .i64 er]) ∧ Below W.heap.size W w' := by
 have C := fun W => fldw.rtaketext_any s k W (by omega) h1 h2
 unfold txtR
 cases h : fld.takeT s.data.toList k with
 | ok r =>
  obtain ⟨t, p⟩ := r
  exact ⟨0, rfl, fun W => by have := C W; rw [h] at this; exact this⟩
 | error e => exact ⟨e, by simpa using takeT_errne h, fun W => by have := C W; rw [h] at this; exact this⟩
theorem rs_start {s : ByteArray} : InvR s.data.toList false 1 (byteI s 0) [] := by
 have h := r_start s
 unfold byteI
 cases hb : (cntR s 0).2 with
 | true => rw [hb] at h; exact invR_none (invR_bad h) _ _ _ _
 | false => rw [hb] at h; simpa using h
theorem rs_step {s : ByteArray} {k n : Int} {l : List Av} (h : InvR s.data.toList false k n l) (hn : 0 < n) (hb : ((txtR s k).2.2 || (txtR s ((txtR s k).2.1 : Int)).2.2) = false) :
  InvR s.data.toList false ((txtR s ((txtR s k).2.1 : Int)).2.1 : Int) (n - 1) (l ++ [⟨(txtR s k).1, (txtR s ((txtR s k).2.1 : Int)).1⟩]) := by
 have := r_step h hn
 rw [hb] at this
 exact this
theorem rs_bad {s : ByteArray} {k n : Int} {l : List Av} (h : InvR s.data.toList false k n l) (hn : 0 < n) (hb : ((txtR s k).2.2 || (txtR s ((txtR s k).2.1 : Int)).2.2) = true) : UnpE s.data.toList (.error 4) := by
 have := r_step h hn
 rw [hb] at this
 exact unp_none (invR_bad this)
theorem rs_end {s : ByteArray} {k n : Int} {l : List Av} (h : InvR s.data.toList false k n l) (hn : ¬ 0 < n) : InvA s.data.toList false (k + 1) (byteI s k) l [] := by
 have := r_end h (Or.inl hn)
 unfold byteI
 cases hb : (cntR s k).2 with
 | true => rw [hb] at this; exact invA_none (invA_bad this) _ _ _ _ _
 | false => rw [hb] at this; simpa using this
theorem as_bad {s : ByteArray} {k n : Int} {rd : List Av} {l : List At} (h : InvA s.data.toList false k n rd l) (hn : 0 < n) (hb : (txtR s k).2.2 = true) : UnpE s.data.toList (.error 4) := by
 have := a_step h hn
 rw [hb] at this
 exact unp_none (invV_bad this)
theorem as_step {s : ByteArray} {k n : Int} {rd : List Av} {l : List At} (h : InvA s.data.toList false k n rd l) (hn : 0 < n) (hb : (txtR s k).2.2 = false) : InvV s.data.toList false (((txtR s k).2.1 : Int) + 1) n (byteI s ((txtR s k).2.1 : Int)) rd l (txtR s k).1 [] := by
 have := a_step h hn
 rw [hb, Bool.false_or] at this
 unfold byteI
 cases hc : (cntR s ((txtR s k).2.1 : Int)).2 with
 | true => rw [hc] at this; exact invV_none (invV_bad this) _ _ _ _ _ _ _ _
 | false => rw [hc] at this; simpa using this
theorem vs_bad {s : ByteArray} {k n m : Int} {rd : List Av} {l : List At} {t : ByteArray} {vs : List ByteArray} (h : InvV s.data.toList false k n m rd l t vs) (hm : 0 < m) (hb : (txtR s k).2.2 = true) : UnpE s.data.toList (.error 4) := by
 have := v_step h hm
 rw [hb] at this
 exact unp_none (invV_bad this)
theorem vs_step {s : ByteArray} {k n m : Int} {rd : List Av} {l : List At} {t : ByteArray} {vs : List ByteArray} (h : InvV s.data.toList false k n m rd l t vs) (hm : 0 < m) (hb : (txtR s k).2.2 = false) : InvV s.data.toList false ((txtR s k).2.1 : Int) n (m - 1) rd l t (vs ++ [(txtR s k).1]) := by
 have := v_step h hm
 rw [hb] at this
 exact this
theorem as_end {s : ByteArray} {k n : Int} {rd : List Av} {l : List At} (h : InvA s.data.toList false k n rd l) (hn : ¬ 0 < n) (hs : SmallE ⟨rd, l⟩) :
  UnpE s.data.toList (if ¬ packS ⟨rd, l⟩ = (s, 0) then .error 4 else .ok ⟨rd, l⟩) := by
 have := a_end h (Or.inl hn) hs
 simpa only [Bool.false_eq_true, false_or] using this
theorem unp_empty {s : ByteArray} (h : s.size = 0) : UnpE s.data.toList (.error 4) := unp_none fun e h1 _ => pack_ne h1 (List.eq_nil_of_length_eq_zero (by rw [kt.size_len]; exact h))
set_option maxRecDepth 20000 in
set_option maxHeartbeats 32000000 in
theorem runpack_any (s : ByteArray) (w : World) (hs : s.size ≤ 140737488351232) :
  Calls Tryz.prog 39 #[.string s] w fun e w' => UnpR s w e w' := by
 obtain ⟨W1, hW1⟩ : ∃ W, w.alloc (.cells #[.slice none 0 0, .slice none 0 0] 25) = W := ⟨_, rfl⟩
 have hB1 : Below w.heap.size w W1 := by rw [← hW1]; exact (Below.refl _ _).alloc (Nat.le_refl _) _
 obtain ⟨q, hqq⟩ : ∃ q, w.heap.size = q := ⟨_, rfl⟩
 have HQ1 : Hid (EntB W1 q (.slice none 0 0) (.slice none 0 0)) := by rw [← hW1, ← hqq]; exact entB_new _ _ _
 have hqw : w.heap.size ≤ q := by omega
 have hB3 : Below W1.heap.size W1 (W1.alloc (.cells #[.slice none 0 0, .slice none 0 0] 25)) := (Below.refl _ _).alloc (Nat.le_refl _) _
 obtain ⟨W3, hW3⟩ : ∃ W, W1.alloc (.cells #[.slice none 0 0, .slice none 0 0] 25) = W := ⟨_, rfl⟩
 rw [hW3] at hB3
 have hE3 : EntB W3 W1.heap.size (.slice none 0 0) (.slice none 0 0) := by rw [← hW3]; exact entB_new _ _ _
 have HQ3 := Lib.hid (entB_below HQ1.out hB3)
 have HB3 := Lib.hid (hB1.trans (hB3.mono hB1.size))
 have hqew : w.heap.size ≤ W1.heap.size := hB1.size
 have hqeq : q ≠ W1.heap.size := Nat.ne_of_lt (kt.bld_lt HQ1.out)
 have HU3 : Hid (Un W3 w.heap.size W1.heap.size [] [] (.slice none 0 0) (.slice none 0 0)) := ⟨hqew, hE3, kt.segX_nil _ _ _ _, kt.segX_nil _ _ _ _, fun x hx => by cases hx⟩
 rw [← hW3] at HU3 HQ3 HB3
 obtain ⟨k0, k1⟩ := entB_cells HU3.out.eb
 clear hB1 hB3 hE3 hW3
 by_cases h4 : 4000 < s.size
 ·have h4' : (4000 : Int) < (s.size : Int) := by omega
  have HUE := Lib.hid (unp_long h4)
  have HBX := HB3
  have HQ := HQ3
  clear h4
  go_enter Tryz.func39, Tryz.ntmps39
  obtain ⟨v0, v1⟩ := entB_cells HQ.out
  have f0 := Lib.frozen_of_heap HQ.out 0
  have f1 := Lib.frozen_of_heap HQ.out 1
  have hq1 := entB_set0 HQ.out (.slice none 0 0)
  have hq2 := entB_set1 hq1 (.slice none 0 0)
  have HQC := Lib.hid (entB_cells hq2)
  have HBF := Lib.hid ((HBX.out.setCell (p := ⟨q, 0, none⟩) hqw (.slice none 0 0)).setCell (p := ⟨q, 1, none⟩) hqw (.slice none 0 0))
  clear hq1 hq2
  go_wp2_with fail
  obtain ⟨r0, r1⟩ := HQC.out
  refine bodyPost_ret (v := .tuple #[.agg #[.slice none 0 0, .slice none 0 0], .int .i64 4]) (by rw [results_cell_tmp rfl]; go_simp) rfl ?_
  exact ⟨_, HUE.out, HBF.out, rfl⟩
 ·have h4' : ¬ (4000 : Int) < (s.size : Int) := by omega
  by_cases h00 : s.size = 0
  ·have HUE := Lib.hid (unp_empty h00)
   have d0 : ((s.size : Int) == 0) = true := by rw [beq_iff_eq]; omega
   have HBX := HB3
   have HQ := HQ3
   clear h4 h00
   go_enter Tryz.func39, Tryz.ntmps39
   obtain ⟨v0, v1⟩ := entB_cells HQ.out
   have f0 := Lib.frozen_of_heap HQ.out 0
   have f1 := Lib.frozen_of_heap HQ.out 1
   have hq1 := entB_set0 HQ.out (.slice none 0 0)
   have hq2 := entB_set1 hq1 (.slice none 0 0)
   have HQC := Lib.hid (entB_cells hq2)
   have HBF := Lib.hid ((HBX.out.setCell (p := ⟨q, 0, none⟩) hqw (.slice none 0 0)).setCell (p := ⟨q, 1, none⟩) hqw (.slice none 0 0))
   clear hq1 hq2
   go_wp2_with fail
   obtain ⟨r0, r1⟩ := HQC.out
   refine bodyPost_ret (v := .tuple #[.agg #[.slice none 0 0, .slice none 0 0], .int .i64 4]) (by rw [results_cell_tmp rfl]; go_simp) rfl ?_
   exact ⟨_, HUE.out, HBF.out, rfl⟩
  ·have d0 : ((s.size : Int) == 0) = false := by rw [beq_eq_false_iff_ne]; omega
   have hs4 : s.size ≤ 4000 := by omega
   have HBY : Hid (∀ (k : Int) W, 0 ≤ k → k ≤ 10000 → Calls Tryz.prog 97 #[.string s, .int .i64 k] W fun e w' => e = .returned (.int .i64 (byteI s k)) ∧ W = w') := fun k W h0 h1 => rbyte_any s k W (by omega) (by omega)
   have HTX : Hid (∀ k : Int, 0 ≤ k → k ≤ 10000 → ∃ er : Int, (er != 0) = (txtR s k).2.2 ∧ ∀ W, Calls Tryz.prog 98 #[.string s, .int .i64 k] W fun e w' => e = .returned (.tuple #[.string (txtR s k).1, .int .i64 ((txtR s k).2.1 : Int), .int .i64 er]) ∧ Below W.heap.size W w') := fun k h0 h1 => rtext_R s k (by omega) (by omega) (by omega)
   have HLT : Hid (∀ k, (txtR s k).2.1 ≤ 4000 ∧ (txtR s k).1.size ≤ 4000) := fun k => by have := txtR_le s k; omega
   have HLC : Hid (∀ k, -1 ≤ byteI s k ∧ byteI s k ≤ 255) := fun k => byteI_bd s k
   have HC0 := Lib.hid (HBY.out 0 (W1.alloc (.cells #[.slice none 0 0, .slice none 0 0] 25)) (by omega) (by omega))
   have HI0 := Lib.hid (rs_start (s := s))
   have hc0 := HLC.out 0
   generalize byteI s 0 = c0 at HC0 HI0 hc0
   clear h4 h00
   go_enter Tryz.func39, Tryz.ntmps39
   go_wp2_with fail
   refine HC0.out.mono ?_
   rintro e w4 ⟨rfl, rfl⟩
   go_wp2_with fail
   clear k0 k1 hW1 hqq HC0
   go_loopw [5, 6] (fun av nv wr => ∃ (n k : Int) (l : List Av) (rv : Value), av = .int .i64 k ∧ nv = .int .i64 n ∧ -1 ≤ n ∧ n ≤ 255 ∧ 0 ≤ k ∧ k ≤ 4000 ∧ (l.length : Int) + n ≤ 255 ∧ Hid (l.length ≤ 255) ∧ Hid (Un wr w.heap.size W1.heap.size l [] rv (.slice none 0 0)) ∧ Hid (EntB wr q (.slice none 0 0) (.slice none 0 0)) ∧ Hid (InvR s.data.toList false k n l) ∧ Hid (∀ a ∈ l, a.t.size ≤ 4000 ∧ a.v.size ≤ 4000) ∧ Hid (Below w.heap.size w wr)) (fun _ nv _ => (intOf nv).toNat)
   case atStart => exact ⟨c0, 1, [], _, rfl, rfl, by omega, by omega, by omega, by omega, by simp; omega, by show (0 : Nat) ≤ 255; omega, HU3.out, HQ3.out, HI0.out, (by intro a ha; cases ha), HB3.out⟩
   case round =>
    clear HU3 HQ3 HI0 HB3
    obtain ⟨n, k, l, rv, rfl, rfl, hn0, hn1, hk0, hk1, hln, HL255, HU, HQr, HIR, HSL, HBr⟩ := hrel
    obtain ⟨r1, n1, c1, _, _, _, rfl, _⟩ := un_forms HU.out
    by_cases hn : 0 < n
    ·obtain ⟨e5, he5, HT1⟩ := HTX.out k hk0 (by omega)
     have HT1 := Lib.hid HT1
     have hl1000 : l.length ≤ 1000 := by omega
     have HSB := Lib.hid (rs_bad HIR.out hn)
     have HST := Lib.hid (rs_step HIR.out hn)
     have hx1 := HLT.out k
     have hkz := hx1.1
     have hxz := hx1.2
     clear hx1
     generalize (txtR s k).1 = tx at HST hxz HT1
     generalize (txtR s k).2.2 = b5 at HST HSB he5
     generalize (txtR s k).2.1 = k5 at HST HSB hkz HT1
     obtain ⟨e6, he6, HT2⟩ := HTX.out (k5 : Int) (by omega) (by omega)
     have HT2 := Lib.hid HT2
     have hy1 := HLT.out (k5 : Int)
     have hqz := hy1.1
     have hyz := hy1.2
     clear hy1
     generalize (txtR s (k5 : Int)).1 = ty at HST hyz HT2
     generalize (txtR s (k5 : Int)).2.2 = b6 at HST HSB he6
     generalize (txtR s (k5 : Int)).2.1 = k6 at HST HT2 hqz
     cases hb5 : b5 with
     | true =>
      rw [hb5] at he5
      have HUE := Lib.hid (HSB.out (by rw [hb5]; rfl))
      clear hb5 HSB HST he6
      go_wp2_with fail
      refine (HT1.out _).mono ?_
      rintro e w5 ⟨rfl, hB5⟩
      have HB5 := Lib.hid (HBr.out.trans (hB5.mono HBr.out.size))
      have HQ5 := Lib.hid (entB_below HQr.out hB5)
      clear hB5
      go_wp2_with fail
      refine (HT2.out _).mono ?_
      rintro e w6 ⟨rfl, hB6⟩
      have HBX := Lib.hid (HB5.out.trans (hB6.mono HB5.out.size))
      have HQ := Lib.hid (entB_below HQ5.out hB6)
      clear hB6
      obtain ⟨v0, v1⟩ := entB_cells HQ.out
      have f0 := Lib.frozen_of_heap HQ.out 0
      have f1 := Lib.frozen_of_heap HQ.out 1
      have hq1 := entB_set0 HQ.out (.slice none 0 0)
      have hq2 := entB_set1 hq1 (.slice none 0 0)
      have HQC := Lib.hid (entB_cells hq2)
      have HBF := Lib.hid ((HBX.out.setCell (p := ⟨q, 0, none⟩) hqw (.slice none 0 0)).setCell (p := ⟨q, 1, none⟩) hqw (.slice none 0 0))
      clear hq1 hq2
      go_wp2_with fail
      obtain ⟨r0, r1⟩ := HQC.out
      refine bodyPost_ret (v := .tuple #[.agg #[.slice none 0 0, .slice none 0 0], .int .i64 4]) (by rw [results_cell_tmp rfl]; go_simp) rfl ?_
      exact ⟨_, HUE.out, HBF.out, rfl⟩
     | false =>
      rw [hb5] at he5
      cases hb6 : b6 with
      | true =>
       rw [hb6] at he6
       have HUE := Lib.hid (HSB.out (by rw [hb5, hb6]; rfl))
       clear hb5 hb6 HSB HST
       go_wp2_with fail
       refine (HT1.out _).mono ?_
       rintro e w5 ⟨rfl, hB5⟩
       have HB5 := Lib.hid (HBr.out.trans (hB5.mono HBr.out.size))
       have HQ5 := Lib.hid (entB_below HQr.out hB5)
       clear hB5
       go_wp2_with fail
       refine (HT2.out _).mono ?_
       rintro e w6 ⟨rfl, hB6⟩
       have HBX := Lib.hid (HB5.out.trans (hB6.mono HB5.out.size))
       have HQ := Lib.hid (entB_below HQ5.out hB6)
       clear hB6
       obtain ⟨v0, v1⟩ := entB_cells HQ.out
       have f0 := Lib.frozen_of_heap HQ.out 0
       have f1 := Lib.frozen_of_heap HQ.out 1
       have hq1 := entB_set0 HQ.out (.slice none 0 0)
       have hq2 := entB_set1 hq1 (.slice none 0 0)
       have HQC := Lib.hid (entB_cells hq2)
       have HBF := Lib.hid ((HBX.out.setCell (p := ⟨q, 0, none⟩) hqw (.slice none 0 0)).setCell (p := ⟨q, 1, none⟩) hqw (.slice none 0 0))
       clear hq1 hq2
       go_wp2_with fail
       obtain ⟨r0, r1⟩ := HQC.out
       refine bodyPost_ret (v := .tuple #[.agg #[.slice none 0 0, .slice none 0 0], .int .i64 4]) (by rw [results_cell_tmp rfl]; go_simp) rfl ?_
       exact ⟨_, HUE.out, HBF.out, rfl⟩
      | false =>
       rw [hb6] at he6
       have HST1 := Lib.hid (HST.out (by rw [hb5, hb6]; rfl))
       clear hb5 hb6 HSB HST
       go_wp2_with fail
       refine (HT1.out _).mono ?_
       rintro e w5 ⟨rfl, hB5⟩
       have HB5 := Lib.hid (HBr.out.trans (hB5.mono HBr.out.size))
       have HQ5 := Lib.hid (entB_below HQr.out hB5)
       have HU5 := Lib.hid (un_below HU.out hB5)
       clear hB5
       go_wp2_with fail
       refine (HT2.out _).mono ?_
       rintro e w6 ⟨rfl, hB6⟩
       have HB6 := Lib.hid (HB5.out.trans (hB6.mono HB5.out.size))
       have HQ6 := Lib.hid (entB_below HQ5.out hB6)
       have hU6 := un_below HU5.out hB6
       obtain ⟨ao7, m7, c7, w7, hap, hfz, hcl, hU8, hB8, hK8⟩ := un_pair hU6 ⟨tx, ty⟩ hl1000
       have HAP := Lib.hid hap
       obtain ⟨z0, z1⟩ := entB_cells hU6.eb
       clear hB6 hU6 hap
       go_wp2_with (at_builtin; refine Lib.wpList_append_run _ rfl _ _ _ _ rfl _ _ rfl rfl _ _ HAP.out ?_)
       obtain ⟨wz, hwz⟩ : ∃ W, w7.setCell ⟨W1.heap.size, 0, none⟩ (.slice ao7 m7 c7) = W := ⟨_, rfl⟩
       rw [hwz] at hU8 hB8 hK8 ⊢
       have HUZ := Lib.hid hU8
       have HQZ := Lib.hid (ku_ent HQ6.out hK8 hqeq)
       have HBZ := Lib.hid (HB6.out.trans hB8)
       have HSZ : Hid (∀ a ∈ l ++ [(⟨tx, ty⟩ : Av)], a.t.size ≤ 4000 ∧ a.v.size ≤ 4000) := fun a ha => by
        rcases List.mem_append.1 ha with ha | ha
        ·exact HSL.out a ha
        ·rw [List.mem_singleton] at ha; subst ha; exact ⟨hxz, hyz⟩
       have hlz : ((l ++ [(⟨tx, ty⟩ : Av)]).length : Int) + (n - 1) ≤ 255 := by rw [List.length_append]; simp only [List.length_cons, List.length_nil]; omega
       have HLZ : Hid ((l ++ [(⟨tx, ty⟩ : Av)]).length ≤ 255) := by show _ ≤ 255; omega
       clear hU8 hB8 hK8 hwz HAP hfz hcl z0 z1 HT1 HT2
       go_roundw
       case rel => exact ⟨n - 1, (k6 : Int), l ++ [(⟨tx, ty⟩ : Av)], _, rfl, rfl, by omega, by omega, by omega, by omega, hlz, HLZ, HUZ.out, HQZ.out, HST1.out, HSZ.out, HBZ.out⟩
       case measure => simp [intOf]; omega
    ·have HIA := Lib.hid (rs_end HIR.out hn)
     have HC1 := Lib.hid (HBY.out k wr hk0 (by omega))
     have hc1 := HLC.out k
     generalize byteI s k = cc1 at HC1 HIA hc1
     have HU5 := HU
     have HQ5 := HQr
     have HB5 := HBr
     clear HU HQr HBr HIR
     go_wp2_with fail
     refine HC1.out.mono ?_
     rintro e w5 ⟨rfl, rfl⟩
     go_wp2_with fail
     clear HC1
     go_loopw [5, 13] (fun kv nv wr => ∃ (n k : Int) (la : List AV) (av : Value), kv = .int .i64 k ∧ nv = .int .i64 n ∧ -1 ≤ n ∧ n ≤ 255 ∧ 0 ≤ k ∧ k ≤ 4001 ∧ (la.length : Int) + n ≤ 255 ∧ Hid (la.length ≤ 255) ∧ Hid (Un wr w.heap.size W1.heap.size l la (.slice r1 n1 c1) av) ∧ Hid (EntB wr q (.slice none 0 0) (.slice none 0 0)) ∧ Hid (InvA s.data.toList false k n l (la.map Prod.fst)) ∧ Hid (∀ x ∈ la, x.1.t.size ≤ 4000 ∧ x.1.vs.length ≤ 255 ∧ ∀ v ∈ x.1.vs, v.size ≤ 4000) ∧ Hid (Below w.heap.size w wr)) (fun _ nv _ => (intOf nv).toNat)
     case atStart => exact ⟨cc1, k + 1, [], _, rfl, rfl, by omega, by omega, by omega, by omega, by simp; omega, by show (0 : Nat) ≤ 255; omega, HU5.out, HQ5.out, HIA.out, (by intro a ha; cases ha), HB5.out⟩
     case round =>
      clear HU5 HQ5 HIA HB5
      obtain ⟨n, k, la, av, rfl, rfl, hn0, hn1, hk0, hk1, hlan, HLA, HU, HQr, HIA, HSA, HBr⟩ := hrel
      obtain ⟨_, _, _, r2, n2, c2, _, rfl⟩ := un_forms HU.out
      by_cases hn : 0 < n
      ·obtain ⟨e5, he5, HT1⟩ := HTX.out k hk0 (by omega)
       have HT1 := Lib.hid HT1
       have HSB := Lib.hid (as_bad HIA.out hn)
       have HST := Lib.hid (as_step HIA.out hn)
       have hx1 := HLT.out k
       have hkz := hx1.1
       have hxz := hx1.2
       clear hx1
       generalize (txtR s k).1 = tx at HST hxz HT1
       generalize (txtR s k).2.2 = b5 at HST HSB he5
       generalize (txtR s k).2.1 = k5 at HST hkz HT1
       cases hb5 : b5 with
       | true =>
        rw [hb5] at he5
        have HUE := Lib.hid (HSB.out hb5)
        clear hb5 HSB HST
        go_wp2_with fail
        refine (HT1.out _).mono ?_
        rintro e w5 ⟨rfl, hB5⟩
        have HBX := Lib.hid (HBr.out.trans (hB5.mono HBr.out.size))
        have HQ := Lib.hid (entB_below HQr.out hB5)
        clear hB5
        obtain ⟨v0, v1⟩ := entB_cells HQ.out
        have f0 := Lib.frozen_of_heap HQ.out 0
        have f1 := Lib.frozen_of_heap HQ.out 1
        have hq1 := entB_set0 HQ.out (.slice none 0 0)
        have hq2 := entB_set1 hq1 (.slice none 0 0)
        have HQC := Lib.hid (entB_cells hq2)
        have HBF := Lib.hid ((HBX.out.setCell (p := ⟨q, 0, none⟩) hqw (.slice none 0 0)).setCell (p := ⟨q, 1, none⟩) hqw (.slice none 0 0))
        clear hq1 hq2
        go_wp2_with fail
        obtain ⟨r0, r1⟩ := HQC.out
        refine bodyPost_ret (v := .tuple #[.agg #[.slice none 0 0, .slice none 0 0], .int .i64 4]) (by rw [results_cell_tmp rfl]; go_simp) rfl ?_
        exact ⟨_, HUE.out, HBF.out, rfl⟩
       | false =>
        rw [hb5] at he5
        have HST1 := Lib.hid (HST.out hb5)
        clear hb5 HSB HST
        have hcm := HLC.out (k5 : Int)
        have HC7 : Hid (∀ W, Calls Tryz.prog 97 #[.string s, .int .i64 (k5 : Int)] W fun e w' => e = .returned (.int .i64 (byteI s (k5 : Int))) ∧ W = w') := fun W => HBY.out (k5 : Int) W (by omega) (by omega)
        generalize byteI s (k5 : Int) = cm at HC7 HST1 hcm
        go_wp2_with fail
        refine (HT1.out _).mono ?_
        rintro e w5 ⟨rfl, hB5⟩
        have hU5 := un_below HU.out hB5
        have hB6 : Below w5.heap.size w5 (w5.alloc (.cells #[.string tx, .slice none 0 0] 57)) := (Below.refl _ _).alloc (Nat.le_refl _) _
        have HC6 := Lib.hid (cu_new hU5 tx)
        have HU6 := Lib.hid (un_below hU5 hB6)
        have HQ6 := Lib.hid (entB_below (entB_below HQr.out hB5) hB6)
        have HB6 := Lib.hid (HBr.out.trans ((hB5.trans (hB6.mono hB5.size)).mono HBr.out.size))
        clear hU5 hB5 hB6 HT1
        go_wp2_with fail
        refine (HC7.out _).mono ?_
        rintro e w7 ⟨rfl, rfl⟩
        go_wp2_with fail
        clear HC7 HU HQr HIA HBr
        go_loopw [5, 18] (fun kv mv wr => ∃ (m k : Int) (vs : List ByteArray) (xv : Value), kv = .int .i64 k ∧ mv = .int .i64 m ∧ -1 ≤ m ∧ m ≤ 255 ∧ 0 ≤ k ∧ k ≤ 4001 ∧ (vs.length : Int) + m ≤ 255 ∧ Hid (vs.length ≤ 255) ∧ Hid (Un wr w.heap.size W1.heap.size l la (.slice r1 n1 c1) (.slice r2 n2 c2)) ∧ Hid (Cu wr w.heap.size w5.heap.size tx xv vs la (.slice r2 n2 c2)) ∧ Hid (EntB wr q (.slice none 0 0) (.slice none 0 0)) ∧ Hid (InvV s.data.toList false k n m l (la.map Prod.fst) tx vs) ∧ Hid (∀ v ∈ vs, v.size ≤ 4000) ∧ Hid (Below w.heap.size w wr)) (fun _ mv _ => (intOf mv).toNat)
        case atStart => exact ⟨cm, (k5 : Int) + 1, [], _, rfl, rfl, by omega, by omega, by omega, by omega, by simp; omega, by show (0 : Nat) ≤ 255; omega, HU6.out, HC6.out, HQ6.out, HST1.out, (by intro a ha; cases ha), HB6.out⟩
        case round =>
         clear HU6 HC6 HQ6 HST1 HB6
         obtain ⟨m, k, vs, xv, rfl, rfl, hm0, hm1, hk0, hk1, hvm, HV255, HU, HC, HQr, HIV, HSV, HBr⟩ := hrel
         obtain ⟨x1, y1, z1, rfl⟩ := cu_form HC.out
         by_cases hm : 0 < m
         ·obtain ⟨e6, he6, HT2⟩ := HTX.out k hk0 (by omega)
          have HT2 := Lib.hid HT2
          have hl1000 : vs.length ≤ 1000 := by omega
          have HSB := Lib.hid (vs_bad HIV.out hm)
          have HST := Lib.hid (vs_step HIV.out hm)
          have hy1 := HLT.out k
          have hqz := hy1.1
          have hyz := hy1.2
          clear hy1
          generalize (txtR s k).1 = ty at HST hyz HT2
          generalize (txtR s k).2.2 = b6 at HST HSB he6
          generalize (txtR s k).2.1 = k6 at HST HT2 hqz
          cases hb6 : b6 with
          | true =>
           rw [hb6] at he6
           have HUE := Lib.hid (HSB.out hb6)
           clear hb6 HSB HST
           go_wp2_with fail
           refine (HT2.out _).mono ?_
           rintro e w6 ⟨rfl, hB6⟩
           have HBX := Lib.hid (HBr.out.trans (hB6.mono HBr.out.size))
           have HQ := Lib.hid (entB_below HQr.out hB6)
           clear hB6
           obtain ⟨v0, v1⟩ := entB_cells HQ.out
           have f0 := Lib.frozen_of_heap HQ.out 0
           have f1 := Lib.frozen_of_heap HQ.out 1
           have hq1 := entB_set0 HQ.out (.slice none 0 0)
           have hq2 := entB_set1 hq1 (.slice none 0 0)
           have HQC := Lib.hid (entB_cells hq2)
           have HBF := Lib.hid ((HBX.out.setCell (p := ⟨q, 0, none⟩) hqw (.slice none 0 0)).setCell (p := ⟨q, 1, none⟩) hqw (.slice none 0 0))
           clear hq1 hq2
           go_wp2_with fail
           obtain ⟨r0, r1⟩ := HQC.out
           refine bodyPost_ret (v := .tuple #[.agg #[.slice none 0 0, .slice none 0 0], .int .i64 4]) (by rw [results_cell_tmp rfl]; go_simp) rfl ?_
           exact ⟨_, HUE.out, HBF.out, rfl⟩
          | false =>
           rw [hb6] at he6
           have HST1 := Lib.hid (HST.out hb6)
           clear hb6 HSB HST
           go_wp2_with fail
           refine (HT2.out _).mono ?_
           rintro e w6 ⟨rfl, hB6⟩
           have HB6 := Lib.hid (HBr.out.trans (hB6.mono HBr.out.size))
           have HQ6 := Lib.hid (entB_below HQr.out hB6)
           have hU6 := un_below HU.out hB6
           have hC6 := cu_below HC.out hB6
           obtain ⟨ao7, m7, c7, w7, hap, hfz, hcl, hU8, hC8, hB8, hK8⟩ := un_val hU6 hC6 ty hl1000
           have HAP := Lib.hid hap
           obtain ⟨a0, a1⟩ := attrB_cells hC6.ab
           clear hB6 hU6 hC6 hap
           go_wp2_with (at_builtin; refine Lib.wpList_append_run _ rfl _ _ _ _ rfl _ _ rfl rfl _ _ HAP.out ?_)
           obtain ⟨wz, hwz⟩ : ∃ W, w7.setCell ⟨w5.heap.size, 1, none⟩ (.slice ao7 m7 c7) = W := ⟨_, rfl⟩
           rw [hwz] at hU8 hC8 hB8 hK8 ⊢
           have HUZ := Lib.hid hU8
           have HCZ := Lib.hid hC8
           have HQZ := Lib.hid (ku_ent HQ6.out hK8 hqeq)
           have HBZ := Lib.hid (HB6.out.trans hB8)
           have HSZ : Hid (∀ v ∈ vs ++ [ty], v.size ≤ 4000) := fun a ha => by
            rcases List.mem_append.1 ha with ha | ha
            ·exact HSV.out a ha
            ·rw [List.mem_singleton] at ha; subst ha; exact hyz
           have hlz : ((vs ++ [ty]).length : Int) + (m - 1) ≤ 255 := by rw [List.length_append]; simp only [List.length_cons, List.length_nil]; omega
           have HLZ : Hid ((vs ++ [ty]).length ≤ 255) := by show _ ≤ 255; omega
           clear hU8 hC8 hB8 hK8 hwz HAP hfz hcl a0 a1 HT2
           go_roundw
           case rel => exact ⟨m - 1, (k6 : Int), vs ++ [ty], _, rfl, rfl, by omega, by omega, by omega, by omega, hlz, HLZ, HUZ.out, HCZ.out, HQZ.out, HST1.out, HSZ.out, HBZ.out⟩
           case measure => simp [intOf]; omega
         ·have HIA := Lib.hid (v_end HIV.out (Or.inl hm))
          obtain ⟨ao7, m7, c7, w7, hap, hfz, hcl, hU8, hB8, hK8⟩ := un_attr HU.out HC.out (by have := HLA.out; omega)
          have HAP := Lib.hid hap
          have HSZ : Hid (∀ x ∈ la ++ [((⟨tx, vs⟩ : At), Value.slice x1 y1 z1)], x.1.t.size ≤ 4000 ∧ x.1.vs.length ≤ 255 ∧ ∀ v ∈ x.1.vs, v.size ≤ 4000) := fun x hx => by
           rcases List.mem_append.1 hx with hx | hx
           ·exact HSA.out x hx
           ·rw [List.mem_singleton] at hx; subst hx; exact ⟨hxz, HV255.out, HSV.out⟩
          have HIZ : Hid (InvA s.data.toList false k (n - 1) l ((la ++ [((⟨tx, vs⟩ : At), Value.slice x1 y1 z1)]).map Prod.fst)) := by
           have h := HIA.out
           rw [List.map_append]
           exact h
          have hlz : ((la ++ [((⟨tx, vs⟩ : At), Value.slice x1 y1 z1)]).length : Int) + (n - 1) ≤ 255 := by rw [List.length_append]; simp only [List.length_cons, List.length_nil]; omega
          have HLZ : Hid ((la ++ [((⟨tx, vs⟩ : At), Value.slice x1 y1 z1)]).length ≤ 255) := by show _ ≤ 255; omega
          obtain ⟨z0, z1'⟩ := entB_cells HU.out.eb
          obtain ⟨a0, a1⟩ := attrB_cells HC.out.ab
          clear hap HIA
          go_wp2_with (at_builtin; refine Lib.wpList_append_run _ rfl _ _ _ _ rfl _ _ rfl rfl _ _ HAP.out ?_)
          obtain ⟨wz, hwz⟩ : ∃ W, w7.setCell ⟨W1.heap.size, 1, none⟩ (.slice ao7 m7 c7) = W := ⟨_, rfl⟩
          rw [hwz] at hU8 hB8 hK8 ⊢
          have HUZ := Lib.hid hU8
          have HQZ := Lib.hid (ku_ent HQr.out hK8 hqeq)
          have HBZ := Lib.hid (HBr.out.trans hB8)
          clear hU8 hB8 hK8 hwz hfz hcl z0 z1' a0 a1 HAP
          go_roundw
          case rel => exact ⟨n - 1, k, la ++ [((⟨tx, vs⟩ : At), Value.slice x1 y1 z1)], _, rfl, rfl, by omega, by omega, by omega, by omega, hlz, HLZ, HUZ.out, HQZ.out, HIZ.out, HSZ.out, HBZ.out⟩
          case measure => simp [intOf]; omega
      ·have hl255 := HL255.out
       have hla255 := HLA.out
       have HUE1 := Lib.hid (as_end HIA.out hn ⟨hl255, (by simp only [List.length_map]; exact hla255), fun a ha => by
        obtain ⟨x, hx, rfl⟩ := List.mem_map.1 ha
        exact (HSA.out x hx).2.1⟩)
       have hv9 := un_ent HU.out
       have HPA := Lib.hid (rpack_any _ _ wr (Lib.hid hv9) (Lib.hid ⟨hl255, fun a ha => by have := HSL.out a ha; omega, (by simp only [List.length_map]; exact hla255), fun a ha => by
        obtain ⟨x, hx, rfl⟩ := List.mem_map.1 ha
        have h := HSA.out x hx
        exact ⟨by omega, h.2.1, fun v hv => by have := h.2.2 v hv; omega⟩⟩))
       have HV9 := Lib.hid hv9
       have HEQ : Hid (packS ⟨l, la.map Prod.fst⟩ = ((packS ⟨l, la.map Prod.fst⟩).1, (packS ⟨l, la.map Prod.fst⟩).2)) := rfl
       generalize (packS ⟨l, la.map Prod.fst⟩).1 = ps at HPA HEQ
       generalize (packS ⟨l, la.map Prod.fst⟩).2 = pf at HPA HEQ
       rw [HEQ.out] at HUE1
       obtain ⟨k0, k1⟩ := entB_cells HU.out.eb
       clear hv9 HEQ
       go_wp2_with fail
       refine HPA.out.mono ?_
       rintro e w9 ⟨rfl, hB9⟩
       have HBX := Lib.hid (HBr.out.trans (hB9.mono HBr.out.size))
       have HQ := Lib.hid (entB_below HQr.out hB9)
       have HV := Lib.hid (entV_below HV9.out hB9)
       have HE9 := Lib.hid (entB_below HU.out.eb hB9)
       clear hB9 k0 k1 HPA
       by_cases hpf : pf = 0
       ·subst hpf
        by_cases hps : ps = s
        ·subst hps
         have HUE : Hid (UnpE ps.data.toList (.ok ⟨l, la.map Prod.fst⟩)) := by
          have h := HUE1.out
          rw [if_neg (not_not_intro rfl)] at h
          exact h
         obtain ⟨k0, k1⟩ := entB_cells HE9.out
         clear HUE1
         obtain ⟨v0, v1⟩ := entB_cells HQ.out
         have f0 := Lib.frozen_of_heap HQ.out 0
         have f1 := Lib.frozen_of_heap HQ.out 1
         have hq1 := entB_set0 HQ.out (.slice r1 n1 c1)
         have hq2 := entB_set1 hq1 (.slice r2 n2 c2)
         have HQC := Lib.hid (entB_cells hq2)
         have HBF := Lib.hid ((HBX.out.setCell (p := ⟨q, 0, none⟩) hqw (.slice r1 n1 c1)).setCell (p := ⟨q, 1, none⟩) hqw (.slice r2 n2 c2))
         have HVF := Lib.hid (entV_set (entV_set HV.out HQ.out (noS_slice _ _ _) (noS_slice _ _ _) 0 (.slice r1 n1 c1)) hq1 (noS_slice _ _ _) (noS_slice _ _ _) 1 (.slice r2 n2 c2))
         clear hq1 hq2
         go_wp2_with fail
         obtain ⟨r0, r1'⟩ := HQC.out
         refine bodyPost_ret (v := .tuple #[.agg #[.slice r1 n1 c1, .slice r2 n2 c2], .int .i64 0]) (by rw [results_cell_tmp rfl]; go_simp) rfl ?_
         exact ⟨_, HUE.out, HBF.out, _, rfl, HVF.out⟩
        ·have dps := ne_str hps
         have HUE : Hid (UnpE s.data.toList (.error 4)) := by
          have h := HUE1.out
          rw [if_pos (fun e => hps (Prod.mk.inj e).1)] at h
          exact h
         clear HUE1 hps
         obtain ⟨v0, v1⟩ := entB_cells HQ.out
         have f0 := Lib.frozen_of_heap HQ.out 0
         have f1 := Lib.frozen_of_heap HQ.out 1
         have hq1 := entB_set0 HQ.out (.slice none 0 0)
         have hq2 := entB_set1 hq1 (.slice none 0 0)
         have HQC := Lib.hid (entB_cells hq2)
         have HBF := Lib.hid ((HBX.out.setCell (p := ⟨q, 0, none⟩) hqw (.slice none 0 0)).setCell (p := ⟨q, 1, none⟩) hqw (.slice none 0 0))
         clear hq1 hq2
         go_wp2_with fail
         obtain ⟨r0, r1⟩ := HQC.out
         refine bodyPost_ret (v := .tuple #[.agg #[.slice none 0 0, .slice none 0 0], .int .i64 4]) (by rw [results_cell_tmp rfl]; go_simp) rfl ?_
         exact ⟨_, HUE.out, HBF.out, rfl⟩
       ·have dpf : (pf != 0) = true := by rw [bne_iff_ne]; exact hpf
        have HUE : Hid (UnpE s.data.toList (.error 4)) := by
         have h := HUE1.out
         rw [if_pos (fun e => hpf (Prod.mk.inj e).2)] at h
         exact h
        clear HUE1 hpf
        obtain ⟨v0, v1⟩ := entB_cells HQ.out
        have f0 := Lib.frozen_of_heap HQ.out 0
        have f1 := Lib.frozen_of_heap HQ.out 1
        have hq1 := entB_set0 HQ.out (.slice none 0 0)
        have hq2 := entB_set1 hq1 (.slice none 0 0)
        have HQC := Lib.hid (entB_cells hq2)
        have HBF := Lib.hid ((HBX.out.setCell (p := ⟨q, 0, none⟩) hqw (.slice none 0 0)).setCell (p := ⟨q, 1, none⟩) hqw (.slice none 0 0))
        clear hq1 hq2
        go_wp2_with fail
        obtain ⟨r0, r1⟩ := HQC.out
        refine bodyPost_ret (v := .tuple #[.agg #[.slice none 0 0, .slice none 0 0], .int .i64 4]) (by rw [results_cell_tmp rfl]; go_simp) rfl ?_
        exact ⟨_, HUE.out, HBF.out, rfl⟩
end etw
end Go.Proofs.YtcolcogobdgejaaGreatDoor
