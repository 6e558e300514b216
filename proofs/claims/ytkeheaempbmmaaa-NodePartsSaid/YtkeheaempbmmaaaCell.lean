/- The walk of cell: a cell's bytes. -/
import Derived.Test.YtkeheaempbmmaaaRRight
import Derived.Test.YtkeheaempbmmaaaFieldN
namespace Go.Proofs.Ytkeheaempbmmaaa
open Go.RowKit
namespace nod
open fldw
/-- a cell's key, laid -/
def keyB (c : Cel) : ByteArray := ⟨(fld.be c.key.size 2 ++ c.key.data.toList).toArray⟩
/-- a cell's bytes behind its key -/
def restB (leaf : Bool) (c : Cel) : List UInt8 :=
  if leaf then (if 0 < c.over then 1 :: (fld.be c.over.toNat 4 ++ fld.be c.size.toNat 4) else 0 :: (fld.be c.val.size 2 ++ c.val.data.toList)) else fld.be c.child.toNat 4
/-- a cell's bytes -/
def cellB (leaf : Bool) (c : Cel) : ByteArray := ⟨((keyB c).data.toList ++ restB leaf c).toArray⟩
theorem keyB_size (c : Cel) : (keyB c).size = 2 + c.key.size := by
  rw [← kt.size_len]
  simp [keyB, fld.be_length]
theorem put4 {n : Nat} (h : n < 65536) : fld.put n 4 = some (fld.be n 4) := by
  unfold fld.put
  rw [if_neg (by omega), if_neg (by
    rw [show (4 : Int).toNat = 4 from rfl]
    have : (256 : Nat) ^ 4 = 4294967296 := by decide
    omega)]
  rfl
theorem rest_len {leaf : Bool} {c : Cel} (h : ok leaf c = true) : (restB leaf c).length + 2 + c.key.size = len leaf c := by
  unfold restB len
  cases leaf with
  | true =>
    simp only [↓reduceIte]
    split <;> simp [fld.be_length] <;> omega
  | false => simp [fld.be_length]; omega
theorem cellB_size {leaf : Bool} {c : Cel} (h : ok leaf c = true) : (cellB leaf c).size = len leaf c := by
  have h1 := rest_len h
  have h2 := keyB_size c
  have h3 : (cellB leaf c).size = (keyB c).data.toList.length + (restB leaf c).length := by
    rw [← kt.size_len]
    simp [cellB]
  rw [kt.size_len] at h3
  omega
/-- a cell lies boxed in block g -/
def Boxed (w : World) (g : Nat) (c : Cel) : Prop := g < w.heap.size ∧ w.cell? ⟨g, 0, none⟩ = some (.string c.key) ∧ w.cell? ⟨g, 1, none⟩ = some (.string c.val) ∧ w.cell? ⟨g, 2, none⟩ = some (.int .i64 c.over) ∧ w.cell? ⟨g, 3, none⟩ = some (.int .i64 c.size) ∧ w.cell? ⟨g, 4, none⟩ = some (.int .i64 c.child)
theorem boxed_new (w : World) (c : Cel) (t : TypeId) : Boxed (w.alloc (.cells #[.string c.key, .string c.val, .int .i64 c.over, .int .i64 c.size, .int .i64 c.child] t)) w.heap.size c := by
  refine ⟨by rw [size1]; omega, ?_, ?_, ?_, ?_, ?_⟩ <;> (rw [World.cell?_alloc_new]; rfl)
theorem boxed_below {w w' : World} {g : Nat} {c : Cel} (h : Boxed w g c) (hb : Below w.heap.size w w') : Boxed w' g c := by
  obtain ⟨h0, h1, h2, h3, h4, h5⟩ := h
  exact ⟨Nat.lt_of_lt_of_le h0 hb.size, (hb.cell h0).trans h1, (hb.cell h0).trans h2, (hb.cell h0).trans h3, (hb.cell h0).trans h4, (hb.cell h0).trans h5⟩
theorem textV_small (s t : ByteArray) (h : t.size ≤ 65535) : textV s t = .tuple #[.string ⟨(s.data.toList ++ (fld.be t.size 2 ++ t.data.toList)).toArray⟩, .int .i64 0] := by
  unfold textV
  rw [if_neg (by omega)]
set_option maxHeartbeats 1000000 in
theorem cell_any (leaf : Bool) (c : Cel) (w : World) (hok : ok leaf c = true) : Calls Try.prog 25 #[.bool leaf, c.v] w fun e w' => e = .returned (.string (cellB leaf c)) ∧ Below w.heap.size w w' := by
  have hks : c.key.size ≤ 120 := by
    cases leaf with
    | true => exact (of_decide_eq_true (show decide (okLeaf c) = true from hok)).2.1
    | false => exact (of_decide_eq_true (show decide (okBranch c) = true from hok)).1
  have K := fun w => text_any ⟨#[]⟩ c.key w (by decide) (by omega)
  rw [textV_small _ _ (by omega)] at K
  have hkb : (⟨((⟨#[]⟩ : ByteArray).data.toList ++ (fld.be c.key.size 2 ++ c.key.data.toList)).toArray⟩ : ByteArray) = keyB c := rfl
  rw [hkb] at K
  have hkz := keyB_size c
  obtain ⟨X, hX⟩ : ∃ X : ByteArray, Hid (X = cellB leaf c) := ⟨_, rfl⟩
  have hXe := hX.out
  rw [← hX.out]
  obtain ⟨k, hk⟩ : ∃ k : ByteArray, Hid (k = keyB c) := ⟨_, rfl⟩
  rw [← hk.out] at K hkz
  have KH := Lib.hid K
  clear K hkb
  have hB0 : Below w.heap.size w (w.alloc (.cells #[.string c.key, .string c.val, .int .i64 c.over, .int .i64 c.size, .int .i64 c.child] 35)) := (Below.refl _ _).alloc (Nat.le_refl _) _
  have hx0 := boxed_new w c 35
  have HB0 := Lib.hid hB0
  have HX0 := Lib.hid hx0
  clear hB0 hx0 hXe
  cases leaf with
  | false =>
    have HOK : Hid (1 ≤ c.child ∧ c.child < 512) := by
      obtain ⟨_, h1, h2, _⟩ := of_decide_eq_true (show decide (okBranch c) = true from hok)
      exact ⟨h1, h2⟩
    clear hok
    obtain ⟨n, hn⟩ := Int.eq_ofNat_of_zero_le (show 0 ≤ c.child by have := HOK.out; omega)
    have hn512 : n < 512 := by have := HOK.out; omega
    have P := fun w => put_any k n 4 w (by omega) (show n < _ by omega) (by omega) (by omega)
    rw [put4 (by omega)] at P
    unfold putV at P
    simp only at P
    have hx2 : (⟨(k.data.toList ++ fld.be n 4).toArray⟩ : ByteArray) = X := by
      rw [hX.out, hk.out]
      simp [cellB, restB, hn]
    rw [hx2] at P
    have PH := Lib.hid P
    have wn : IntKind.u64.wrap c.child = (n : Int) := by rw [hn, IntKind.wrap_u64]; omega
    clear P hx2 hn
    unfold Cel.v
    go_enter Try.func25, Try.ntmps25
    go_wp2_with fail
    refine (KH.out _).mono ?_
    rintro e w1 ⟨rfl, hB1⟩
    obtain ⟨_, _, _, _, _, g4⟩ := boxed_below HX0.out hB1
    go_wp2_with fail
    refine (PH.out _).mono ?_
    rintro e w2 ⟨rfl, hB2⟩
    go_wp2_with fail
    go_ret
    exact ⟨rfl, (HB0.out.trans (hB1.mono HB0.out.size)).trans (hB2.mono (Nat.le_trans HB0.out.size hB1.size))⟩
  | true =>
    by_cases ho : 0 < c.over
    · have HOK : Hid (c.over < 512 ∧ 96 < c.size ∧ c.size ≤ 4000) := by
        obtain ⟨_, _, _, h⟩ := of_decide_eq_true (show decide (okLeaf c) = true from hok)
        rw [if_neg (by omega)] at h
        exact ⟨h.2.2.1, h.2.2.2.1, h.2.2.2.2⟩
      clear hok
      obtain ⟨n, hn⟩ := Int.eq_ofNat_of_zero_le (show 0 ≤ c.over by omega)
      obtain ⟨m, hm⟩ := Int.eq_ofNat_of_zero_le (show 0 ≤ c.size by have := HOK.out; omega)
      have hn512 : n < 512 := by have := HOK.out; omega
      have hm4 : m ≤ 4000 := by have := HOK.out; omega
      obtain ⟨k1, hk1⟩ : ∃ k1 : ByteArray, Hid (k1 = k ++ ({ data := #[1] } : ByteArray)) := ⟨_, rfl⟩
      have hk1d : k1.data.toList = k.data.toList ++ [1] := by rw [hk1.out]; simp
      have hk1z : k1.size = k.size + 1 := by rw [← kt.size_len, hk1d]; simp
      have ek1 : k ++ ({ data := #[1] } : ByteArray) = k1 := hk1.out.symm
      have P := fun w => put_any k1 n 4 w (by omega) (show n < _ by omega) (by omega) (by omega)
      rw [put4 (by omega)] at P
      unfold putV at P
      simp only at P
      obtain ⟨k2, hk2⟩ : ∃ k2 : ByteArray, Hid (k2 = ⟨(k1.data.toList ++ fld.be n 4).toArray⟩) := ⟨_, rfl⟩
      have hk2d : k2.data.toList = k1.data.toList ++ fld.be n 4 := by rw [hk2.out]
      have hk2z : k2.size = k1.size + 4 := by rw [← kt.size_len, hk2d]; simp [fld.be_length]
      rw [← hk2.out] at P
      have Q := fun w => put_any k2 m 4 w (by omega) (show m < _ by omega) (by omega) (by omega)
      rw [put4 (by omega)] at Q
      unfold putV at Q
      simp only at Q
      have hx2 : (⟨(k2.data.toList ++ fld.be m 4).toArray⟩ : ByteArray) = X := by
        rw [hX.out, hk2d, hk1d, hk.out]
        simp [cellB, restB, hn, hm]
        omega
      rw [hx2] at Q
      have PH := Lib.hid P
      have QH := Lib.hid Q
      have wn : IntKind.u64.wrap c.over = (n : Int) := by rw [hn, IntKind.wrap_u64]; omega
      have wm : IntKind.u64.wrap c.size = (m : Int) := by rw [hm, IntKind.wrap_u64]; omega
      clear P Q hx2 hk1d hk2d hn hm
      unfold Cel.v
      go_enter Try.func25, Try.ntmps25
      go_wp2_with fail
      refine (KH.out _).mono ?_
      rintro e w1 ⟨rfl, hB1⟩
      have hx1 := boxed_below HX0.out hB1
      have HX1 := Lib.hid hx1
      obtain ⟨_, _, _, g2, _, _⟩ := hx1
      go_wp2_with fail
      refine (PH.out _).mono ?_
      rintro e w2 ⟨rfl, hB2⟩
      obtain ⟨_, _, _, _, g3, _⟩ := boxed_below HX1.out hB2
      go_wp2_with fail
      refine (QH.out _).mono ?_
      rintro e w3 ⟨rfl, hB3⟩
      go_wp2_with fail
      go_ret
      have hs1 := Nat.le_trans HB0.out.size hB1.size
      exact ⟨rfl, ((HB0.out.trans (hB1.mono HB0.out.size)).trans (hB2.mono hs1)).trans (hB3.mono (Nat.le_trans hs1 hB2.size))⟩
    · have HOK : Hid (c.over = 0 ∧ c.val.size ≤ 96) := by
        obtain ⟨_, _, _, h⟩ := of_decide_eq_true (show decide (okLeaf c) = true from hok)
        by_cases h0 : c.over = 0
        · rw [if_pos h0] at h
          exact ⟨h0, h.2⟩
        · rw [if_neg h0] at h
          exact absurd h.2.1 (by omega)
      clear hok
      have hv : c.val.size ≤ 96 := HOK.out.2
      obtain ⟨k1, hk1⟩ : ∃ k1 : ByteArray, Hid (k1 = k ++ ({ data := #[0] } : ByteArray)) := ⟨_, rfl⟩
      have hk1d : k1.data.toList = k.data.toList ++ [0] := by rw [hk1.out]; simp
      have hk1z : k1.size = k.size + 1 := by rw [← kt.size_len, hk1d]; simp
      have ek1 : k ++ ({ data := #[0] } : ByteArray) = k1 := hk1.out.symm
      have P := fun w => text_any k1 c.val w (by omega) (by omega)
      rw [textV_small _ _ (by omega)] at P
      have hx2 : (⟨(k1.data.toList ++ (fld.be c.val.size 2 ++ c.val.data.toList)).toArray⟩ : ByteArray) = X := by
        rw [hX.out, hk1d, hk.out]
        simp [cellB, restB, HOK.out.1]
      rw [hx2] at P
      have PH := Lib.hid P
      clear P hx2 hk1d
      unfold Cel.v
      go_enter Try.func25, Try.ntmps25
      go_wp2_with fail
      refine (KH.out _).mono ?_
      rintro e w1 ⟨rfl, hB1⟩
      obtain ⟨_, _, g1, g2, _, _⟩ := boxed_below HX0.out hB1
      go_wp2_with fail
      refine (PH.out _).mono ?_
      rintro e w2 ⟨rfl, hB2⟩
      go_wp2_with fail
      go_ret
      exact ⟨rfl, (HB0.out.trans (hB1.mono HB0.out.size)).trans (hB2.mono (Nat.le_trans HB0.out.size hB1.size))⟩
end nod
end Go.Proofs.Ytkeheaempbmmaaa
