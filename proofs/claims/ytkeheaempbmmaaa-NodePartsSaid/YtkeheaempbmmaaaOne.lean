/- The walk of the reference's One: a cell's bytes. -/
import Derived.Test.YtkeheaempbmmaaaCell
import Derived.Deep.RegionHeld3
namespace Go.Proofs.Ytkeheaempbmmaaa
open Go.RowKit
namespace nod
open fldw
def St (w w' : World) (c : Cel) : Prop := Below w.heap.size w w' ∧ Boxed w' w.heap.size c
theorem st_new (w : World) (c : Cel) (t : TypeId) : St w (w.alloc (.cells #[.string c.key, .string c.val, .int .i64 c.over, .int .i64 c.size, .int .i64 c.child] t)) c := ⟨(Below.refl _ _).alloc (Nat.le_refl _) _, boxed_new w c t⟩
theorem st_below {w a b : World} {c : Cel} (h : St w a c) (hb : Below a.heap.size a b) : St w b c := ⟨h.1.trans (hb.mono h.1.size), boxed_below h.2 hb⟩
theorem st_held {w a b : World} {c : Cel} (h : Hid (St w a c)) (hb : Below a.heap.size a b) : b.cell? ⟨w.heap.size, 0, none⟩ = some (.string c.key) ∧ Hid (St w b c) := ⟨(st_below h.out hb).2.2.1, st_below h.out hb⟩
theorem st_held2 {w a b : World} {c : Cel} (h : Hid (St w a c)) (hb : Below a.heap.size a b) : b.cell? ⟨w.heap.size, 2, none⟩ = some (.int .i64 c.over) ∧ b.cell? ⟨w.heap.size, 3, none⟩ = some (.int .i64 c.size) ∧ Hid (St w b c) := ⟨(st_below h.out hb).2.2.2.2.1, (st_below h.out hb).2.2.2.2.2.1, st_below h.out hb⟩
theorem st_held1 {w a b : World} {c : Cel} (h : Hid (St w a c)) (hb : Below a.heap.size a b) : b.cell? ⟨w.heap.size, 1, none⟩ = some (.string c.val) ∧ Hid (St w b c) := ⟨(st_below h.out hb).2.2.2.1, st_below h.out hb⟩
theorem st_keep2 {w a b : World} {c : Cel} (h : a.cell? ⟨w.heap.size, 2, none⟩ = some (.int .i64 c.over) ∧ a.cell? ⟨w.heap.size, 3, none⟩ = some (.int .i64 c.size) ∧ Hid (St w a c)) (hb : Below a.heap.size a b) : b.cell? ⟨w.heap.size, 2, none⟩ = some (.int .i64 c.over) ∧ b.cell? ⟨w.heap.size, 3, none⟩ = some (.int .i64 c.size) ∧ Hid (St w b c) := st_held2 h.2.2 hb
theorem numS_be {n k : Nat} (h1 : 1 ≤ k) (h8 : k ≤ 8) (h : n < 256 ^ k) : numS n k = ⟨(fld.be n k).toArray⟩ := by
  unfold numS
  rw [put_some h1 h8 h]
  rfl
set_option maxHeartbeats 1000000 in
theorem one_any (leaf : Bool) (c : Cel) (w : World) (hok : ok leaf c = true) : Calls Try.prog 28 #[.bool leaf, c.v] w fun e w' => e = .returned (.string (cellB leaf c)) ∧ Below w.heap.size w w' := by
  have hks : c.key.size ≤ 120 := by
    cases leaf with
    | true => exact (of_decide_eq_true (show decide (okLeaf c) = true from hok)).2.1
    | false => exact (of_decide_eq_true (show decide (okBranch c) = true from hok)).1
  obtain ⟨X, hX⟩ : ∃ X : ByteArray, Hid (X = cellB leaf c) := ⟨_, rfl⟩
  rw [← hX.out]
  obtain ⟨k, hk⟩ : ∃ k : ByteArray, Hid (k = keyB c) := ⟨_, rfl⟩
  have K : ∀ w, Calls Try.prog 27 #[.int .i64 (c.key.size : Int), .int .i64 2] w fun e w' => e = .returned (.string (numS c.key.size 2)) ∧ Below w.heap.size w w' := fun w => number_any c.key.size 2 w (by omega) (by omega)
  obtain ⟨k0, hk0⟩ : ∃ k0 : ByteArray, Hid (k0 = numS c.key.size 2) := ⟨_, rfl⟩
  rw [← hk0.out] at K
  have hkk : k0 ++ c.key = k := by
    rw [hk0.out, hk.out, numS_be (by omega) (by omega) (by have : (256 : Nat) ^ 2 = 65536 := by decide
                                                           omega)]
    exact kt.str_eq (by simp [keyB])
  have hk0z : k0.size = 2 := by
    rw [hk0.out, numS_be (by omega) (by omega) (by have : (256 : Nat) ^ 2 = 65536 := by decide
                                                   omega), ← kt.size_len]
    simp [fld.be_length]
  have KH := Lib.hid K
  clear K
  have HS0 := Lib.hid (st_new w c 35)
  obtain ⟨_, z0, z1, z2, z3, z4⟩ := boxed_new w c 35
  cases leaf with
  | false =>
    unfold Cel.v
    go_enter Try.func28, Try.ntmps28
    go_wp2_with fail
    obtain ⟨w0, hw0⟩ : ∃ w0 : World, w0 = w.alloc (.cells #[.string c.key, .string c.val, .int .i64 c.over, .int .i64 c.size, .int .i64 c.child] 35) := ⟨_, rfl⟩
    rw [← hw0] at HS0 z0 z1 z2 z3 z4 ⊢
    clear hw0
    have HSd : Hid (St w w0.drew c) := st_below HS0.out (Below.refl _ _).drew
    have hsum : ¬ 9223372036854775807 < 2 + c.key.size := by omega
    have hsum2 : 2 + c.key.size ≤ 9223372036854775807 := by omega
    go_region_held3 (fun w' => w'.cell? ⟨w.heap.size, 0, none⟩ = some (.string c.key) ∧ Hid (St w w' c)) (first | exact st_held HS0 ((Below.refl _ _).drew) | exact st_held (by assumption) hBn)
      (first | (go_at_call 27; refine (KH.out _).mono ?_; rintro e w' ⟨rfl, hBn⟩))
    have HS1 := Lib.hid (st_held HSd hBn).2
    have HOK : Hid (1 ≤ c.child ∧ c.child < 512) := by
      obtain ⟨_, h1, h2, _⟩ := of_decide_eq_true (show decide (okBranch c) = true from hok)
      exact ⟨h1, h2⟩
    obtain ⟨n, hn⟩ := Int.eq_ofNat_of_zero_le (show 0 ≤ c.child by have := HOK.out; omega)
    have hn512 : n < 512 := by have := HOK.out; omega
    obtain ⟨_, _, _, _, _, _, y4⟩ := HS1.out.out
    have N4 : ∀ w, Calls Try.prog 27 #[.int .i64 c.child, .int .i64 4] w fun e w' => e = .returned (.string (numS n 4)) ∧ Below w.heap.size w w' := by
      intro w
      rw [hn]
      exact number_any n 4 w (by omega) (by omega)
    have hx2 : k ++ numS n 4 = X := by
      rw [hX.out, hk.out, numS_be (by omega) (by omega) (by have : (256 : Nat) ^ 4 = 4294967296 := by decide
                                                            omega)]
      exact kt.str_eq (by simp [cellB, restB, hn])
    obtain ⟨q, hq⟩ : ∃ q : ByteArray, Hid (q = numS n 4) := ⟨_, rfl⟩
    rw [← hq.out] at N4 hx2
    have hqz : q.size = 4 := by
      rw [hq.out, numS_be (by omega) (by omega) (by have : (256 : Nat) ^ 4 = 4294967296 := by decide
                                                    omega), ← kt.size_len]
      simp [fld.be_length]
    have hsum3 : ¬ 9223372036854775807 < 2 + c.key.size + 4 := by omega
    have NH := Lib.hid N4
    clear N4 hn hok
    have hkz := keyB_size c
    rw [← hk.out] at hkz
    go_wp2_with fail
    refine (NH.out _).mono ?_
    rintro e w2 ⟨rfl, hB2⟩
    go_wp2_with fail
    go_ret
    exact ⟨rfl, HS1.out.out.1.trans (hB2.mono HS1.out.out.1.size)⟩
  | true =>
    have hkz := keyB_size c
    rw [← hk.out] at hkz
    have hsum : ¬ 9223372036854775807 < 2 + c.key.size := by omega
    have hsum2 : 2 + c.key.size ≤ 9223372036854775807 := by omega
    have hsa : ¬ 9223372036854775807 < 2 + c.key.size + 1 := by omega
    have hsb : ¬ 9223372036854775807 < 2 + c.key.size + 1 + 4 := by omega
    have hsc : ¬ 9223372036854775807 < 2 + c.key.size + 1 + 4 + 4 := by omega
    have k256 : (256 : Nat) ^ 4 = 4294967296 := by decide
    have k65 : (256 : Nat) ^ 2 = 65536 := by decide
    by_cases ho : 0 < c.over
    · have HOK : Hid (c.over < 512 ∧ 96 < c.size ∧ c.size ≤ 4000) := by
        obtain ⟨_, _, _, h⟩ := of_decide_eq_true (show decide (okLeaf c) = true from hok)
        rw [if_neg (by omega)] at h
        exact ⟨h.2.2.1, h.2.2.2.1, h.2.2.2.2⟩
      clear hok
      obtain ⟨n, hn⟩ := Int.eq_ofNat_of_zero_le (show 0 ≤ c.over by omega)
      obtain ⟨m, hm⟩ := Int.eq_ofNat_of_zero_le (show 0 ≤ c.size by have := HOK.out; omega)
      have hn512 : n < 512 := by have := HOK.out; omega
      have hm4 : m ≤ 4000 := by have := HOK.out; omega
      have N1 : ∀ w, Calls Try.prog 27 #[.int .i64 c.over, .int .i64 4] w fun e w' => e = .returned (.string (numS n 4)) ∧ Below w.heap.size w w' := by
        intro w
        rw [hn]
        exact number_any n 4 w (by omega) (by omega)
      have N2 : ∀ w, Calls Try.prog 27 #[.int .i64 c.size, .int .i64 4] w fun e w' => e = .returned (.string (numS m 4)) ∧ Below w.heap.size w w' := by
        intro w
        rw [hm]
        exact number_any m 4 w (by omega) (by omega)
      obtain ⟨q1, hq1⟩ : ∃ q : ByteArray, Hid (q = numS n 4) := ⟨_, rfl⟩
      obtain ⟨q2, hq2⟩ : ∃ q : ByteArray, Hid (q = numS m 4) := ⟨_, rfl⟩
      rw [← hq1.out] at N1
      rw [← hq2.out] at N2
      have b1 : q1 = ⟨(fld.be n 4).toArray⟩ := by rw [hq1.out, numS_be (by omega) (by omega) (by omega)]
      have b2 : q2 = ⟨(fld.be m 4).toArray⟩ := by rw [hq2.out, numS_be (by omega) (by omega) (by omega)]
      have z1' : q1.size = 4 := by rw [b1, ← kt.size_len]; simp [fld.be_length]
      have z2' : q2.size = 4 := by rw [b2, ← kt.size_len]; simp [fld.be_length]
      have hx2 : k ++ ({ data := #[1] } : ByteArray) ++ q1 ++ q2 = X := by
        rw [hX.out, hk.out, b1, b2]
        exact kt.str_eq (by
          simp [cellB, restB, hn, hm]
          omega)
      have NH1 := Lib.hid N1
      have NH2 := Lib.hid N2
      clear N1 N2 hn hm b1 b2
      unfold Cel.v
      go_enter Try.func28, Try.ntmps28
      go_wp2_with fail
      obtain ⟨w0, hw0⟩ : ∃ w0 : World, w0 = w.alloc (.cells #[.string c.key, .string c.val, .int .i64 c.over, .int .i64 c.size, .int .i64 c.child] 35) := ⟨_, rfl⟩
      rw [← hw0] at HS0 z0 z1 z2 z3 z4 ⊢
      clear hw0
      have HSd : Hid (St w w0.drew c) := st_below HS0.out (Below.refl _ _).drew
      go_region_held3 (fun w' => w'.cell? ⟨w.heap.size, 0, none⟩ = some (.string c.key) ∧ Hid (St w w' c)) (first | exact st_held HS0 ((Below.refl _ _).drew) | exact st_held (by assumption) hBn)
        (first | (go_at_call 27; refine (KH.out _).mono ?_; rintro e w' ⟨rfl, hBn⟩))
      have HS1 := Lib.hid (st_held HSd hBn).2
      obtain ⟨_, _, _, _, y2, y3, _⟩ := HS1.out.out
      have HSe : Hid (St w w'.drew c) := st_below HS1.out.out (Below.refl _ _).drew
      go_wp2_with fail
      go_region_held3 (fun v => v.cell? ⟨w.heap.size, 2, none⟩ = some (.int .i64 c.over) ∧ v.cell? ⟨w.heap.size, 3, none⟩ = some (.int .i64 c.size) ∧ Hid (St w v c)) (first | exact st_held2 HS1.out ((Below.refl _ _).drew) | exact st_keep2 (by assumption) hBm | exact st_held2 HSe hBm)
        (first | (go_at_call_of 27 (Value.int IntKind.i64 c.over); refine (NH1.out _).mono ?_; rintro e v ⟨rfl, hBm⟩) | (go_at_call_of 27 (Value.int IntKind.i64 c.size); refine (NH2.out _).mono ?_; rintro e v ⟨rfl, hBm⟩))
      go_wp2_with fail
      go_ret
      exact ⟨rfl, (st_held2 (st_held2 HSe (by assumption)).2.2 hBm).2.2.out.1⟩
    · have HOK : Hid (c.over = 0 ∧ c.val.size ≤ 96) := by
        obtain ⟨_, _, _, h⟩ := of_decide_eq_true (show decide (okLeaf c) = true from hok)
        by_cases h0 : c.over = 0
        · rw [if_pos h0] at h
          exact ⟨h0, h.2⟩
        · rw [if_neg h0] at h
          exact absurd h.2.1 (by omega)
      clear hok
      have hv : c.val.size ≤ 96 := HOK.out.2
      have N1 : ∀ w, Calls Try.prog 27 #[.int .i64 (c.val.size : Int), .int .i64 2] w fun e w' => e = .returned (.string (numS c.val.size 2)) ∧ Below w.heap.size w w' := fun w => number_any c.val.size 2 w (by omega) (by omega)
      obtain ⟨q1, hq1⟩ : ∃ q : ByteArray, Hid (q = numS c.val.size 2) := ⟨_, rfl⟩
      rw [← hq1.out] at N1
      have b1 : q1 = ⟨(fld.be c.val.size 2).toArray⟩ := by rw [hq1.out, numS_be (by omega) (by omega) (by omega)]
      have z1' : q1.size = 2 := by rw [b1, ← kt.size_len]; simp [fld.be_length]
      have hx2 : k ++ ({ data := #[0] } : ByteArray) ++ q1 ++ c.val = X := by
        rw [hX.out, hk.out, b1]
        exact kt.str_eq (by simp [cellB, restB, HOK.out.1])
      have NH1 := Lib.hid N1
      have hsd : ¬ 9223372036854775807 < 2 + c.key.size + 1 + 2 := by omega
      have hse : ¬ 9223372036854775807 < 2 + c.key.size + 1 + 2 + c.val.size := by omega
      clear N1 b1
      unfold Cel.v
      go_enter Try.func28, Try.ntmps28
      go_wp2_with fail
      obtain ⟨w0, hw0⟩ : ∃ w0 : World, w0 = w.alloc (.cells #[.string c.key, .string c.val, .int .i64 c.over, .int .i64 c.size, .int .i64 c.child] 35) := ⟨_, rfl⟩
      rw [← hw0] at HS0 z0 z1 z2 z3 z4 ⊢
      clear hw0
      have HSd : Hid (St w w0.drew c) := st_below HS0.out (Below.refl _ _).drew
      go_region_held3 (fun w' => w'.cell? ⟨w.heap.size, 0, none⟩ = some (.string c.key) ∧ Hid (St w w' c)) (first | exact st_held HS0 ((Below.refl _ _).drew) | exact st_held (by assumption) hBn)
        (first | (go_at_call 27; refine (KH.out _).mono ?_; rintro e w' ⟨rfl, hBn⟩))
      have HS1 := Lib.hid (st_held HSd hBn).2
      obtain ⟨_, _, _, y1, y2, _, _⟩ := HS1.out.out
      have HSe : Hid (St w w'.drew c) := st_below HS1.out.out (Below.refl _ _).drew
      go_wp2_with fail
      go_region_held3 (fun v => v.cell? ⟨w.heap.size, 1, none⟩ = some (.string c.val) ∧ Hid (St w v c)) (first | exact st_held1 HS1.out ((Below.refl _ _).drew) | exact st_held1 HSe hBm)
        (first | (go_at_call 27; refine (NH1.out _).mono ?_; rintro e v ⟨rfl, hBm⟩))
      go_wp2_with fail
      go_ret
      exact ⟨rfl, (st_held1 HSe hBm).2.out.1⟩
end nod
end Go.Proofs.Ytkeheaempbmmaaa
