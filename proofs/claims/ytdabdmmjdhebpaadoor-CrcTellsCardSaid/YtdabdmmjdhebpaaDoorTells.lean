/- The walk of CrcTells: the text's bytes with four of them changed, and their sum. -/
import Derived.Test.YtdabdmmjdhebpaaDoorWalks
import Derived.RegionTactic
import Derived.ChangeAlike
import Derived.BigRegion
import Derived.StillTailTactics
import Derived.Laws.IdiomStrings
namespace Go.Proofs.YtdabdmmjdhebpaaDoor
open Go.RowKit

/-- block B holds these bytes, none of them frozen -/
def ByteRow (w : World) (B : Nat) (l : List UInt8) : Prop :=
  ∀ j (hj : j < l.length), w.cell? ⟨B, j, none⟩ = some (.int .u8 (l[j].toNat : Int)) ∧ w.frozen? ⟨B, j, none⟩ = false

theorem ret_bool {a b : Bool} (h : a = b) : Ending.returned (.bool a) = .returned (.bool b) := by rw [h]
theorem tell_eq (A B m : Nat) (h : A = B ↔ m = 0) : (((A : Int) == (B : Int)) == ((m : Int) == 0)) = true := by
  by_cases hm : m = 0
  · have := h.2 hm
    subst this hm
    simp
  · have hne : A ≠ B := fun e => hm (h.1 e)
    have e1 : ((A : Int) == (B : Int)) = false := by rw [beq_eq_false_iff_ne]; omega
    have e2 : ((m : Int) == 0) = false := by rw [beq_eq_false_iff_ne]; omega
    rw [e1, e2]; rfl
theorem tab_below {w w' : World} (ht : Hid (Tab w)) (hb : Below w.heap.size w w') (h0 : 0 < w.heap.size) : Hid (Tab w') :=
  fun i hi => (hb.cell (p := ⟨0, i, none⟩) h0).trans (ht.out i hi)
theorem row_set {w : World} {B : Nat} {l : List UInt8} (h : ByteRow w B l) (i : Nat) (x : UInt8) : ByteRow (w.setCell ⟨B, i, none⟩ (.int .u8 (x.toNat : Int))).drew B (l.set i x) := by
  intro j hj
  simp only [List.length_set] at hj
  obtain ⟨hc, hf⟩ := h j hj
  refine ⟨?_, ?_⟩
  · show (w.setCell _ _).cell? _ = _
    by_cases e : i = j
    · subst e
      rw [World.cell?_setCell_same _ _ _ hc]
      simp
    · rw [World.cell?_setCell_other _ _ _ _ (by intro hh; apply e; injection hh), hc, List.getElem_set_ne e]
  · show (w.setCell _ _).frozen? _ = _
    rw [World.frozen?_setCell]
    exact hf

set_option maxHeartbeats 400000 in
theorem tells_main (s : ByteArray) (a : Nat) (m : Nat) (hm : m < 4294967296) (w : World) (hs : s.size ≤ 140737488351232) (ht : Hid (Tab w)) (h0 : 0 < w.heap.size) (ha : a + 4 ≤ s.size) :
    Calls Tryd.prog 5 #[.string s, .int .i64 a, .int .u32 m] w fun e w' => e = .returned (.bool true) ∧ Below w.heap.size w w' := by
  obtain ⟨W1, cap, hcv, hrow, hbel⟩ : ∃ (W1 : World) (cap : Nat), (convert 9 28 (.string s)).run Tryd.prog w = .ok (.slice (some ⟨w.heap.size, 0, none⟩) s.size cap) W1 ∧ Hid (ByteRow W1 w.heap.size s.data.toList) ∧ Below w.heap.size w W1 := by
    refine ⟨_, _, run_bytes_of_string w _ _ 5 s (by kernel_rfl) (by kernel_rfl) (by kernel_rfl), ?_, ((Below.refl _ _).drew).alloc (Nat.le_refl _) _⟩
    intro j hj
    have hj' : j < s.data.size := by simpa using hj
    have hsz : s.size ≤ (bytesRow s (grownCap w s.size 0 5)).size := by simp [bytesRow]
    have hj2 : j < (bytesRow s (grownCap w s.size 0 5)).size := Nat.lt_of_lt_of_le hj' hsz
    refine ⟨?_, ?_⟩
    · have h1 := World.cell?_alloc_mark w.drew (bytesRow s (grownCap w s.size 0 5)) 5 ((bytesRow s (grownCap w s.size 0 5)).size, (bytesRow s (grownCap w s.size 0 5)).size + 1) j
      rw [bytesRow_at s _ j hj'] at h1
      exact h1
    · have h2 := World.frozen?_alloc_mark w.drew (bytesRow s (grownCap w s.size 0 5)) 5 (bytesRow s (grownCap w s.size 0 5)).size ((bytesRow s (grownCap w s.size 0 5)).size + 1) j
      refine h2.trans ?_
      simp
      omega
  have g1 : ¬ ((s.size : Int) < 4) := by omega
  have g2 : ¬ ((a : Int) < 0) := by omega
  have g3 : ¬ ((s.size : Int) - 4 < (a : Int)) := by omega
  go_enter Tryd.func5, Tryd.ntmps5
  go_wp2_with (go_at_call 6; refine (awake_any _ ht).mono ?_; rintro e w' ⟨rfl, rfl⟩)
  go_loopw [8] (fun i wr => ∃ k : Nat, k ≤ 4 ∧ i = .int .i64 k ∧ Hid (ByteRow wr w.heap.size (crcp.patch s.data.toList a m k)) ∧ Below w.heap.size w wr) (fun i _ => 4 - (intOf i).toNat)
  case atStart => exact ⟨0, by omega, rfl, hrow, hbel⟩
  case round =>
    obtain ⟨k, hk, rfl, hr, hb⟩ := hrel
    have hlen := crcp.patch_length s.data.toList a m k
    by_cases hlt : k < 4
    · have hak : a + k < (crcp.patch s.data.toList a m k).length := by rw [hlen]; simp; omega
      obtain ⟨hc, hf⟩ := hr.out (a + k) hak
      obtain ⟨c, hcc⟩ : ∃ c, Hid (c = (crcp.patch s.data.toList a m k)[a + k]) := ⟨(crcp.patch s.data.toList a m k)[a + k], rfl⟩
      rw [← hcc.out] at hc
      have e1 : ((a : Int) + (k : Int)).toNat = a + k := by omega
      have e2 : (0 : Int) ≤ (a : Int) + (k : Int) := by omega
      have e3 : (a : Int) + (k : Int) < s.size := by omega
      have hlen' := Lib.hid hlen
      clear hlen
      go_wp2
      go_region
      go_wp2
      go_roundw
      case rel =>
        refine ⟨k + 1, by omega, by go_num, ?_, (hb.setCell (Nat.le_refl _) _).drew⟩
        have hp : (2 : Int) ^ (8 * k) = ((256 ^ k : Nat) : Int) := by rw [show (256 : Nat) = 2 ^ 8 from rfl, ← Nat.pow_mul, Int.natCast_pow]; rfl
        have hv : bits .xor .u8 (c.toNat : Int) ((m : Int) / 2 ^ (8 * k) % 256) = ((c ^^^ UInt8.ofNat (m / 256 ^ k)).toNat : Int) := by
          rw [crcp.patch_val, show (m : Int) / 2 ^ (8 * k) % 256 = ((m / 256 ^ k % 256 : Nat) : Int) from by
            rw [hp, Int.natCast_emod, Int.natCast_ediv]; rfl]
          exact u8_xor_nat _ _ c.toNat_lt (by omega)
        rw [hv]
        have := row_set hr.out (a + k) (c ^^^ UInt8.ofNat (m / 256 ^ k))
        have e : (crcp.patch s.data.toList a m k).getD (a + k) 0 = c := by
          rw [hcc.out]
          simp [List.getD, hak]
        show ByteRow _ _ (List.set _ _ _)
        rw [e]
        exact this
      case measure => simp [intOf]; omega
    · obtain rfl : k = 4 := by omega
      have htr := tab_below ht hb h0
      have hback := run_convert_bytes_back (P := Tryd.prog) wr 28 9 5 ⟨w.heap.size, 0, none⟩ cap (crcp.patch s.data.toList a m 4) (by kernel_rfl) (by kernel_rfl) (by kernel_rfl) (fun j hj => by
        have := (hr.out j hj).1
        have e : (⟨w.heap.size, 0, none⟩ : Addr).add j = ⟨w.heap.size, j, none⟩ := by
          unfold Addr.add
          split
          · rename_i hj0; rw [hj0]
          · simp
        rw [e]; exact this)
      rw [hlen, show s.data.toList.length = s.size from by simp] at hback
      obtain ⟨t, ht'⟩ : ∃ t : ByteArray, Hid (t = ⟨(crcp.patch s.data.toList a m 4).toArray⟩) := ⟨_, rfl⟩
      rw [← ht'.out] at hback
      have hts : t.size ≤ maxLen := by
        have : t.size = s.size := by rw [ht'.out]; show (crcp.patch s.data.toList a m 4).toArray.size = _; simp [hlen]
        unfold maxLen; omega
      have hpo := crcp.patch_on s.data.toList a m hm (by simp; omega)
      have htl : t.data.toList = crcp.patch s.data.toList a m 4 := by rw [ht'.out]
      rw [← htl] at hpo
      have C1 := Lib.hid (sum_any t wr hts htr)
      have C2 := Lib.hid (sum_any s wr (by unfold maxLen; omega) htr)
      have HP := Lib.hid hpo
      clear hpo htl hlen
      go_wp2_with fail
      refine C1.out.mono ?_
      rintro e w' ⟨rfl, rfl⟩
      go_wp2_with fail
      refine C2.out.mono ?_
      rintro e w' ⟨rfl, rfl⟩
      go_wp2_with fail
      go_ret
      exact ⟨ret_bool (tell_eq _ _ _ HP.out), hb⟩

theorem tells_out (s : ByteArray) (a : Int) (m : Nat) (w : World) (hs : s.size ≤ 140737488351232) (ht : Hid (Tab w)) (h0 : -9223372036854775808 ≤ a) (h1 : a ≤ 9223372036854775807) (h : s.size < 4 ∨ a < 0 ∨ (s.size : Int) - 4 < a) :
    Calls Tryd.prog 5 #[.string s, .int .i64 a, .int .u32 m] w fun e w' => e = .returned (.bool true) ∧ Below w.heap.size w w' := by
  by_cases b1 : s.size < 4
  · have g1 : ((s.size : Int) < 4) := by omega
    clear h
    go_enter Tryd.func5, Tryd.ntmps5
    go_wp2_with (go_at_call 6; refine (awake_any _ ht).mono ?_; rintro e w' ⟨rfl, rfl⟩)
    go_ret
    exact ⟨rfl, Below.refl _ _⟩
  · have g1 : ¬ ((s.size : Int) < 4) := by omega
    by_cases b2 : a < 0
    · clear h
      go_enter Tryd.func5, Tryd.ntmps5
      go_wp2_with (go_at_call 6; refine (awake_any _ ht).mono ?_; rintro e w' ⟨rfl, rfl⟩)
      go_ret
      exact ⟨rfl, Below.refl _ _⟩
    · have g2 : (s.size : Int) - 4 < a := by omega
      clear h
      go_enter Tryd.func5, Tryd.ntmps5
      go_wp2_with (go_at_call 6; refine (awake_any _ ht).mono ?_; rintro e w' ⟨rfl, rfl⟩)
      go_ret
      exact ⟨rfl, Below.refl _ _⟩
theorem tells_any (s : ByteArray) (a : Int) (m : Nat) (hm : m < 4294967296) (w : World) (hs : s.size ≤ 140737488351232) (ht : Hid (Tab w)) (hw : 0 < w.heap.size) (h0 : -9223372036854775808 ≤ a) (h1 : a ≤ 9223372036854775807) :
    Calls Tryd.prog 5 #[.string s, .int .i64 a, .int .u32 m] w fun e w' => e = .returned (.bool true) ∧ Below w.heap.size w w' := by
  by_cases h : s.size < 4 ∨ a < 0 ∨ (s.size : Int) - 4 < a
  · exact tells_out s a m w hs ht h0 h1 h
  · have g1 : 0 ≤ a := by omega
    obtain ⟨A, rfl⟩ := Int.eq_ofNat_of_zero_le g1
    exact tells_main s A m hm w hs ht hw (by omega)

theorem joins_any (a b : ByteArray) (w : World) (ha : a.size ≤ 140737488351232) (hb : b.size ≤ 140737488351232) (ht : Hid (Tab w)) :
    Calls Tryd.prog 4 #[.string a, .string b] w fun e w' => e = .returned (.bool true) ∧ Below w.heap.size w w' := by
  have C1 := Lib.hid (sum_any a w (by unfold maxLen; omega) ht)
  have C2 := Lib.hid (on_any (crcp.on 0 a.data.toList) (crcp.on_lt _ _) b w (by unfold maxLen; omega) ht)
  have hab : (a ++ b).size ≤ maxLen := by rw [ByteArray.size_append]; unfold maxLen; omega
  have c3 := sum_any (a ++ b) w hab ht
  rw [show (a ++ b).data.toList = a.data.toList ++ b.data.toList from by simp, ← crcp.on_join] at c3
  have C3 := Lib.hid c3
  clear c3
  go_enter Tryd.func4, Tryd.ntmps4
  go_wp2_with (go_at_call 6; refine (awake_any _ ht).mono ?_; rintro e w' ⟨rfl, rfl⟩)
  refine C1.out.mono ?_
  rintro e w' ⟨rfl, rfl⟩
  go_wp2_with fail
  refine C2.out.mono ?_
  rintro e w' ⟨rfl, rfl⟩
  go_wp2_with fail
  refine C3.out.mono ?_
  rintro e w' ⟨rfl, rfl⟩
  go_wp2_with fail
  go_ret
  exact ⟨ret_bool (by simp), Below.refl _ _⟩
theorem sums_any (n : Nat) (hn : n < 4294967296) (s : ByteArray) (w : World) (hs : s.size ≤ 140737488351232) (ht : Hid (Tab w)) :
    Calls Tryd.prog 3 #[.int .u32 n, .string s] w fun e w' => e = .returned (.bool true) ∧ Below w.heap.size w w' := by
  have hs' : s.size ≤ maxLen := by unfold maxLen; omega
  go_enter Tryd.func3, Tryd.ntmps3
  go_wp2_with (go_at_call 6; refine (awake_any _ ht).mono ?_; rintro e w' ⟨rfl, rfl⟩)
  go_wp2_with (first | (go_at_call 7; refine (on_any n hn s _ hs' ht).mono ?_; rintro e w' ⟨rfl, rfl⟩) | (go_at_call 8; refine (ron_any n hn s _ hs').mono ?_; rintro e w' ⟨rfl, rfl⟩) | (go_at_call 9; refine (sum_any s _ hs' ht).mono ?_; rintro e w' ⟨rfl, rfl⟩) | (go_at_call 10; refine (rsum_any s _ hs').mono ?_; rintro e w' ⟨rfl, rfl⟩))
  go_ret
  exact ⟨rfl, Below.refl _ _⟩
end Go.Proofs.YtdabdmmjdhebpaaDoor
