/- The walks of the reference's Name; strings.Cut at one byte. -/
import Derived.Test.YtifplgnabkkbjaaDoorTyR
import Derived.Test.YtifplgnabkkbjaaDoorSmallW
import Derived.Test.YtifplgnabkkbjaaDoorShelf
import Derived.WalkSmall
namespace Go.Proofs.YtifplgnabkkbjaaDoor
open Go.RowKit
namespace ldw
open ldp
set_option linter.unusedVariables false
set_option linter.unusedSimpArgs false
theorem byte_all {p : UInt8 → Bool} (h : ∀ m : Fin 256, p (UInt8.ofNat m.val) = true) (c : UInt8) : p c = true := by
  have := h ⟨c.toNat, c.toNat_lt⟩
  simpa using this
theorem low_d (c : UInt8) : ((sml.low c == 100) == (c == 100 || c == 68)) = true := byte_all (p := fun c => ((sml.low c == 100) == (c == 100 || c == 68))) (by decide +kernel) c
theorem low_n (c : UInt8) : ((sml.low c == 110) == (c == 110 || c == 78)) = true := byte_all (p := fun c => ((sml.low c == 110) == (c == 110 || c == 78))) (by decide +kernel) c
theorem isDn_low (l : List UInt8) : isDn l = (sml.lowL l == [100, 110]) := by
  unfold isDn sml.lowL
  match l with
  | [] => rfl
  | [a] => simp
  | [c, d] =>
    have hc := eq_of_beq (low_d c)
    have hd := eq_of_beq (low_n d)
    rw [Bool.eq_iff_iff] at hc hd ⊢
    simp only [Bool.or_eq_true, beq_iff_eq] at hc hd
    simp only [Bool.or_eq_true, beq_iff_eq, List.map_cons, List.map_nil, List.cons.injEq, and_true, hc, hd]
    constructor
    · rintro (((h | h) | h) | h) <;> simp [h]
    · rintro ⟨h1 | h1, h2 | h2⟩ <;> simp [h1, h2]
  | a :: b :: c :: r => simp
set_option maxRecDepth 20000 in
set_option maxHeartbeats 4000000 in
theorem name_any (s : ByteArray) (w : World) (hs : s.size ≤ 1000000) : Calls Tryd.prog 15 #[.string s] w fun e w' => e = .returned (.bool (isDn s.data.toList)) ∧ Below w.heap.size w w' := by
  have HD := Lib.hid (isDn_low s.data.toList)
  obtain ⟨t, ht⟩ : ∃ t : ByteArray, Hid (t = ⟨(sml.lowL s.data.toList).toArray⟩) := ⟨_, rfl⟩
  have HT : Hid (isDn s.data.toList = (t.toList == [100, 110])) := by
    show _ = _
    rw [HD.out, Lib.toList_data, ht.out]
  have HC : Hid (Calls Tryd.prog 28 #[.string s] w fun e w' => e = .returned (.string t) ∧ Below w.heap.size w w') := by
    rw [ht.out]
    exact sml.small_any s w (by omega)
  go_enter Tryd.func15, Tryd.ntmps15
  go_wp2_with fail
  refine HC.out.mono ?_
  rintro e w' ⟨rfl, hB⟩
  go_wp2_with fail
  go_ret
  refine ⟨?_, hB⟩
  rw [HT.out]
  rfl
theorem ix_hit {A R : List UInt8} {c : UInt8} (h : c ∉ A) : Lib.indexByte (A ++ c :: R) c = A.length := by
  refine b64p.indexByte_hit _ _ A.length (fun m hm => ?_) (by simp) (by simp [List.getD])
  intro e
  have e2 : (A ++ c :: R).getD m 0 = A[m] := by rw [List.getD_eq_getElem?_getD, List.getElem?_append_left hm]; simp [hm]
  rw [e2] at e
  exact h (e ▸ List.getElem_mem hm)
theorem ix_miss {A : List UInt8} {c : UInt8} (h : c ∉ A) : Lib.indexByte A c = -1 := by
  refine b64p.indexByte_miss _ _ (fun m hm => ?_)
  intro e
  have e2 : A.getD m 0 = A[m] := by simp [List.getD, hm]
  rw [e2] at e
  exact h (e ▸ List.getElem_mem hm)
set_option maxRecDepth 20000 in
set_option maxHeartbeats 4000000 in
/-- strings.Cut at one byte that is there -/
theorem cut_hit (s : ByteArray) (c : UInt8) (A R : List UInt8) (w : World) (hs : s.size ≤ 100000000) (h : s.data.toList = A ++ c :: R) (hA : c ∉ A) : Calls Tryd.prog 16 #[.string s, .string ⟨#[c]⟩] w fun e w' => e = .returned (.tuple #[.string ⟨A.toArray⟩, .string ⟨R.toArray⟩, .bool true]) ∧ Below w.heap.size w w' := by
  have hl : s.size = A.length + R.length + 1 := by rw [← kt.size_len, h]; simp; omega
  obtain ⟨i, hi⟩ : ∃ i, Hid (i = A.length) := ⟨_, rfl⟩
  have hi1 : i + 1 ≤ s.size := by rw [hi.out]; omega
  have e1 : s.extract 0 i = ⟨A.toArray⟩ := by
    apply kt.str_eq
    rw [Lib.extract_data, h, hi.out]
    simp
  have e2 : s.extract (i + 1) s.size = ⟨R.toArray⟩ := by
    apply kt.str_eq
    rw [Lib.extract_to_end, h, hi.out]
    simp
  have HC : Hid (Calls Tryd.prog 41 #[.string s, .string ⟨#[c]⟩] w fun e w' => e = .returned (.int .i64 (i : Int)) ∧ w = w') := by
    refine (Tryd.stringslite_Index_one s c w).mono ?_
    rintro e w' ⟨rfl, rfl⟩
    refine ⟨?_, rfl⟩
    rw [h, ix_hit hA, hi.out]
  obtain ⟨a, ha⟩ : ∃ a : ByteArray, Hid (a = ⟨A.toArray⟩) := ⟨_, rfl⟩
  obtain ⟨r, hr⟩ : ∃ a : ByteArray, Hid (a = ⟨R.toArray⟩) := ⟨_, rfl⟩
  rw [← ha.out] at e1 ⊢
  rw [← hr.out] at e2 ⊢
  have i1 : ((i : Int) + 1).toNat = i + 1 := by omega
  have i2 : (i : Int) + 1 ≤ (s.size : Int) := by omega
  have i3 : (i : Int) ≤ (s.size : Int) := by omega
  have i4 : IntKind.i64.wrap ((i : Int) + 1) = (i : Int) + 1 := IntWalk.i64_in _ (by omega)
  clear hl h hA
  go_enter Tryd.func16, Tryd.ntmps16
  go_wp2_with fail
  have C : Calls Tryd.prog 29 #[.string s, .string ⟨#[c]⟩] w fun e w' => e = .returned (.tuple #[.string a, .string r, .bool true]) ∧ Below w.heap.size w w' := by
    go_enter Tryd.func29, Tryd.ntmps29
    go_wp2_with fail
    refine HC.out.mono ?_
    rintro e w' ⟨rfl, rfl⟩
    go_wp2_with fail
    go_quiet (fail)
    go_wp2_with fail
    go_ret3
    exact ⟨rfl, below_drewN (Below.refl _ _) _⟩
  refine C.mono ?_
  rintro e w' ⟨rfl, hB⟩
  go_wp2_with fail
  go_ret3
  exact ⟨rfl, hB⟩
set_option maxRecDepth 20000 in
set_option maxHeartbeats 4000000 in
/-- strings.Cut at one byte that is not there -/
theorem cut_miss (s : ByteArray) (c : UInt8) (w : World) (hA : c ∉ s.data.toList) : Calls Tryd.prog 16 #[.string s, .string ⟨#[c]⟩] w fun e w' => e = .returned (.tuple #[.string s, .string ⟨#[]⟩, .bool false]) ∧ Below w.heap.size w w' := by
  have HC : Hid (Calls Tryd.prog 41 #[.string s, .string ⟨#[c]⟩] w fun e w' => e = .returned (.int .i64 (-1)) ∧ w = w') := by
    refine (Tryd.stringslite_Index_one s c w).mono ?_
    rintro e w' ⟨rfl, rfl⟩
    refine ⟨?_, rfl⟩
    rw [ix_miss hA]
  clear hA
  go_enter Tryd.func16, Tryd.ntmps16
  go_wp2_with fail
  have C : Calls Tryd.prog 29 #[.string s, .string ⟨#[c]⟩] w fun e w' => e = .returned (.tuple #[.string s, .string ⟨#[]⟩, .bool false]) ∧ Below w.heap.size w w' := by
    go_enter Tryd.func29, Tryd.ntmps29
    go_wp2_with fail
    refine HC.out.mono ?_
    rintro e w' ⟨rfl, rfl⟩
    go_wp2_with fail
    go_ret3
    exact ⟨rfl, Below.refl _ _⟩
  refine C.mono ?_
  rintro e w' ⟨rfl, hB⟩
  go_wp2_with fail
  go_ret3
  exact ⟨rfl, hB⟩
end ldw
end Go.Proofs.YtifplgnabkkbjaaDoor
