/- The walk of Wrap. -/
import Derived.Test.YtjkhplpjmiclhaaEnc
namespace Go.Proofs.Ytjkhplpjmiclhaa
open Go.RowKit

theorem infoStr : (Try.prog.info? 9).map (fun i => (i.zero, i.size, i.bytes)) = some (some (.string ByteArray.empty), 1, 16) := by kernel_rfl
theorem rest_dt (t : ByteArray) (m : Nat) : (t.extract m t.size).data.toList = t.data.toList.drop m := Lib.extract_to_end t m
theorem rest_sz (t : ByteArray) (m : Nat) : (t.extract m t.size).size = t.size - m := by
  rw [← kt.size_len, rest_dt]; simp
theorem head_dt (t : ByteArray) (m : Nat) : (t.extract 0 m).data.toList = t.data.toList.take m := by
  rw [Lib.extract_data]; simp

/-- the width that is cut by -/
def WOk (sz : Nat) (n : Int) (W : Nat) : Prop := 1 ≤ n ∧ n = W ∨ n < 1 ∧ sz ≤ W
/-- what Wrap leaves: a row of pieces; n: the width that was asked for, W: the one that is cut by -/
def Wrapped (s : ByteArray) (n : Int) (w : World) (e : Ending) (w' : World) : Prop :=
  ∃ (v : Value) (ts : List ByteArray) (W : Nat), e = .returned v ∧ 1 ≤ W ∧ WOk s.size n W ∧ w'.ownsRow w.heap.size 9 1 v ts.length (ts.map Value.string) ∧ Below w.heap.size w w' ∧
    b64p.Good W (ts.map fun x => x.data.toList) [] s.data.toList

set_option maxHeartbeats 1000000 in
theorem wrap_any (s : ByteArray) (n : Int) (w : World) (hs : s.size ≤ 3000) (h0 : -9223372036854775808 ≤ n) (h1 : n ≤ 9223372036854775807) :
    Calls Try.prog 8 #[.string s, .int .i64 n] w (Wrapped s n w) := by
  by_cases hn : n < 1
  · obtain ⟨W, hWe⟩ : ∃ W : Nat, Hid (W = max 1 s.size) := ⟨max 1 s.size, rfl⟩
    have hW1 : 1 ≤ W := by have := hWe.out; omega
    have hWn : WOk s.size n W := Or.inr ⟨hn, by have := hWe.out; omega⟩
    have eW : max 1 (s.size : Int) = (W : Int) := by have := hWe.out; omega
    have hWb : (W : Int) ≤ 3000 := by have := hWe.out; omega
    go_enter Try.func8, Try.ntmps8
    go_wp2_with fail
    go_loopw [0, 5] (fun sv lv wr => ∃ (t : ByteArray) (ts : List ByteArray), t.size ≤ 3000 ∧ sv = .string t ∧ Hid (b64p.Good W (ts.map fun x => x.data.toList) t.data.toList s.data.toList) ∧ wr.ownsRow w.heap.size 9 1 lv (ts.map Value.string).length (ts.map Value.string) ∧ Below w.heap.size w wr) (fun sv _ _ => strLen sv)
    case atStart => exact ⟨s, [], hs, rfl, b64p.good_nil _ _, World.ownsRow_nil _ _ _ _, Below.refl _ _⟩
    case round =>
      obtain ⟨t, ts, ht, rfl, hG, hO, hB⟩ := hrel
      have hsz := hB.size
      by_cases h0 : t.size = 0
      · have hem : t = ByteArray.empty := kt.str_eq (List.eq_nil_of_length_eq_zero (by rw [kt.size_len]; exact h0))
        subst hem
        have hO' := Lib.hid hO
        clear hO
        go_wp2_with fail
        go_ret
        exact ⟨_, ts, W, rfl, by first | omega | rfl, hWn, by rw [List.length_map] at hO'; exact hO'.out, hB, hG.out⟩
      · have hne : t.toList.isEmpty = false := by
          rw [Lib.toList_data]
          cases h : t.data.toList with
          | nil => exact absurd (by rw [← kt.size_len, h]; rfl) h0
          | cons a l => rfl
        have hcnt := b64p.good_count hG.out
        rw [List.length_map, kt.size_len] at hcnt
        obtain ⟨m, hm⟩ : ∃ m : Nat, Hid (m = min W t.size) := ⟨min W t.size, rfl⟩
        have em : min (W : Int) (t.size : Int) = (m : Int) := by have := hm.out; omega
        have hmt : (m : Int) ≤ (t.size : Int) := by omega
        obtain ⟨v', w1, hap, hO1, hg1, hB1⟩ := kt.app1 (P := Try.prog) (ty := 23) Try.underlying23 infoStr rfl (.string (t.extract 0 m)) rfl hO (by rw [List.length_map]; unfold maxLen; omega) (by rw [List.length_map]; omega) hsz
        have HO := Lib.hid hO
        have HO1 := Lib.hid hO1
        have HG1 := Lib.hid hg1
        clear hO hO1 hg1
        go_wp2_with (at_builtin; refine Lib.wpList_append_run _ rfl _ _ _ _ rfl _ _ rfl rfl _ _ hap ?_)
        go_roundw
        case rel =>
          refine ⟨_, ts ++ [t.extract 0 m], ?_, rfl, ?_, ?_, hB.trans hB1⟩
          · rw [rest_sz]; omega
          · have h := b64p.good_step hW1 hG.out (nonempty t h0)
            show b64p.Good _ _ _ _
            rw [rest_dt, List.map_append, List.map_singleton, head_dt, hm.out, ← kt.size_len t]
            exact h
          · rw [List.map_append, List.map_singleton]
            exact HO1.out
        case measure => show (t.extract _ _).size < t.size; rw [rest_sz]; omega
  · obtain ⟨W, rfl⟩ := Int.eq_ofNat_of_zero_le (show 0 ≤ n by omega)
    have hW1 : 1 ≤ W := by omega
    have hWn : WOk s.size W W := Or.inl ⟨by omega, rfl⟩
    go_enter Try.func8, Try.ntmps8
    go_wp2_with fail
    go_loopw [0, 5] (fun sv lv wr => ∃ (t : ByteArray) (ts : List ByteArray), t.size ≤ 3000 ∧ sv = .string t ∧ Hid (b64p.Good W (ts.map fun x => x.data.toList) t.data.toList s.data.toList) ∧ wr.ownsRow w.heap.size 9 1 lv (ts.map Value.string).length (ts.map Value.string) ∧ Below w.heap.size w wr) (fun sv _ _ => strLen sv)
    case atStart => exact ⟨s, [], hs, rfl, b64p.good_nil _ _, World.ownsRow_nil _ _ _ _, Below.refl _ _⟩
    case round =>
      obtain ⟨t, ts, ht, rfl, hG, hO, hB⟩ := hrel
      have hsz := hB.size
      by_cases h0 : t.size = 0
      · have hem : t = ByteArray.empty := kt.str_eq (List.eq_nil_of_length_eq_zero (by rw [kt.size_len]; exact h0))
        subst hem
        have hO' := Lib.hid hO
        clear hO
        go_wp2_with fail
        go_ret
        exact ⟨_, ts, W, rfl, by first | omega | rfl, hWn, by rw [List.length_map] at hO'; exact hO'.out, hB, hG.out⟩
      · have hne : t.toList.isEmpty = false := by
          rw [Lib.toList_data]
          cases h : t.data.toList with
          | nil => exact absurd (by rw [← kt.size_len, h]; rfl) h0
          | cons a l => rfl
        have hcnt := b64p.good_count hG.out
        rw [List.length_map, kt.size_len] at hcnt
        obtain ⟨m, hm⟩ : ∃ m : Nat, Hid (m = min W t.size) := ⟨min W t.size, rfl⟩
        have em : min (W : Int) (t.size : Int) = (m : Int) := by have := hm.out; omega
        have hmt : (m : Int) ≤ (t.size : Int) := by omega
        obtain ⟨v', w1, hap, hO1, hg1, hB1⟩ := kt.app1 (P := Try.prog) (ty := 23) Try.underlying23 infoStr rfl (.string (t.extract 0 m)) rfl hO (by rw [List.length_map]; unfold maxLen; omega) (by rw [List.length_map]; omega) hsz
        have HO := Lib.hid hO
        have HO1 := Lib.hid hO1
        have HG1 := Lib.hid hg1
        clear hO hO1 hg1
        go_wp2_with (at_builtin; refine Lib.wpList_append_run _ rfl _ _ _ _ rfl _ _ rfl rfl _ _ hap ?_)
        go_roundw
        case rel =>
          refine ⟨_, ts ++ [t.extract 0 m], ?_, rfl, ?_, ?_, hB.trans hB1⟩
          · rw [rest_sz]; omega
          · have h := b64p.good_step hW1 hG.out (nonempty t h0)
            show b64p.Good _ _ _ _
            rw [rest_dt, List.map_append, List.map_singleton, head_dt, hm.out, ← kt.size_len t]
            exact h
          · rw [List.map_append, List.map_singleton]
            exact HO1.out
        case measure => show (t.extract _ _).size < t.size; rw [rest_sz]; omega
end Go.Proofs.Ytjkhplpjmiclhaa
