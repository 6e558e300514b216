/- The walks of Less, Compare (both), Begins. -/
import Derived.Test.YthbofgfdgpidcaaDoorTupLaw
import Derived.Test.YthbofgfdgpidcaaDoorOrdP
namespace Go.Proofs.YthbofgfdgpidcaaDoor
open Go.RowKit
namespace ordw
open tupw prt ord
theorem dr (s : ByteArray) (k : Nat) (h : k < s.size) : s.data.toList.drop k = s[k] :: s.data.toList.drop (k + 1) := drop_at s k h
set_option maxHeartbeats 1000000 in
theorem less_any (a b : ByteArray) (w : World) (ha : a.size ≤ 1000000) :
    Calls Tryd.prog 18 #[.string a, .string b] w fun e w' => e = .returned (.int .i64 (Lib.compareBytes a.data.toList b.data.toList)) ∧ ∃ n, w' = w.drewN n := by
  go_enter Tryd.func18, Tryd.ntmps18
  go_wp2_with fail
  go_loopw [5] (fun iv wr => ∃ (i : Nat), i ≤ a.size ∧ i ≤ b.size ∧ iv = .int .i64 i ∧ Hid (Lib.compareBytes a.data.toList b.data.toList = Lib.compareBytes (a.data.toList.drop i) (b.data.toList.drop i)) ∧ ∃ n, wr = w.drewN n) (fun iv _ => a.size - (intOf iv).toNat)
  case atStart => exact ⟨0, Nat.zero_le _, Nat.zero_le _, rfl, rfl, 0, rfl⟩
  case round =>
    obtain ⟨i, hia, hib, rfl, hE, n, rfl⟩ := hrel
    by_cases h : i < a.size ∧ i < b.size
    · obtain ⟨h1, h2⟩ := h
      have h1' : (i : Int) < (a.size : Int) := by omega
      have h2' : (i : Int) < (b.size : Int) := by omega
      obtain ⟨x, hx⟩ : ∃ x : UInt8, Hid (x = a[i]'h1) := ⟨a[i]'h1, rfl⟩
      obtain ⟨y, hy⟩ : ∃ y : UInt8, Hid (y = b[i]'h2) := ⟨b[i]'h2, rfl⟩
      have ex : (a[i]'h1).toNat = x.toNat := by rw [hx.out]
      have ey : (b[i]'h2).toNat = y.toNat := by rw [hy.out]
      have he := hE.out
      rw [dr a i h1, dr b i h2, ← hx.out, ← hy.out] at he
      rcases cmp_cases x y with c | c | c
      · rw [cmp_lt c] at he
        have HE := Lib.hid he
        have c' : (x.toNat : Int) < (y.toNat : Int) := by have := UInt8.lt_iff_toNat_lt.1 c; omega
        clear he c
        go_wp2_with fail
        go_quiet (fail)
        go_wp2_with fail
        go_ret
        exact ⟨by rw [HE.out]; rfl, _, World.drewN_drewN _ _ _⟩
      · rw [cmp_gt c] at he
        have HE := Lib.hid he
        have c' : ¬ (x.toNat : Int) < (y.toNat : Int) := by have := UInt8.lt_iff_toNat_lt.1 c; omega
        have c'' : (y.toNat : Int) < (x.toNat : Int) := by have := UInt8.lt_iff_toNat_lt.1 c; omega
        clear he c
        go_wp2_with fail
        go_quiet (fail)
        go_wp2_with fail
        go_quiet (fail)
        go_wp2_with fail
        go_ret
        exact ⟨by rw [HE.out]; rfl, _, by rw [World.drewN_drewN, World.drewN_drewN]⟩
      · subst c
        rw [cmp_same] at he
        have HE := Lib.hid he
        have c' : ¬ (x.toNat : Int) < (x.toNat : Int) := by omega
        have hh1 := Lib.hid h1
        have hh2 := Lib.hid h2
        clear he
        go_wp2_with fail
        go_quiet (fail)
        go_wp2_with fail
        go_quiet (fail)
        go_wp2_with fail
        go_roundw
        case rel => exact ⟨i + 1, hh1.out, hh2.out, by go_num, HE, _, rfl⟩
        case measure =>
          have := hh1.out
          simp [intOf]; omega
    · have he := hE.out
      rw [cmp_end _ _ i (by rw [kt.size_len]; exact hia) (by rw [kt.size_len]; exact hib) (by rw [kt.size_len, kt.size_len]; omega), kt.size_len, kt.size_len] at he
      have hq : (decide ((i : Int) < (a.size : Int)) && decide ((i : Int) < (b.size : Int))) = false := by
        rw [Bool.and_eq_false_iff, decide_eq_false_iff_not, decide_eq_false_iff_not]
        omega
      by_cases l1 : a.size < b.size
      · rw [if_pos l1] at he
        have HE := Lib.hid he
        have l1' : (a.size : Int) < (b.size : Int) := by omega
        have i1 : ¬ (i : Int) < (a.size : Int) := by omega
        clear he h
        go_wp2_with fail
        go_ret
        exact ⟨by rw [HE.out]; rfl, _, rfl⟩
      · rw [if_neg l1] at he
        have l1' : ¬ (a.size : Int) < (b.size : Int) := by omega
        by_cases l2 : b.size < a.size
        · rw [if_pos l2] at he
          have HE := Lib.hid he
          have l2' : (b.size : Int) < (a.size : Int) := by omega
          have i1 : (i : Int) < (a.size : Int) := by omega
          have i2 : ¬ (i : Int) < (b.size : Int) := by omega
          clear he h
          go_wp2_with fail
          go_ret
          exact ⟨by rw [HE.out]; rfl, _, rfl⟩
        · rw [if_neg l2] at he
          have HE := Lib.hid he
          have l2' : ¬ (b.size : Int) < (a.size : Int) := by omega
          have i1 : ¬ (i : Int) < (a.size : Int) := by omega
          clear he h
          go_wp2_with fail
          go_ret
          exact ⟨by rw [HE.out]; rfl, _, rfl⟩
theorem begins_any (a b : ByteArray) (w : World) :
    Calls Tryd.prog 19 #[.string a, .string b] w fun e w' => e = .returned (.bool (begins a.data.toList b.data.toList)) ∧ w = w' := by
  by_cases h : a.size ≤ b.size
  · have h' : (a.size : Int) ≤ (b.size : Int) := by omega
    have ht : (b.extract 0 a.size).data.toList = b.data.toList.take a.size := by rw [Lib.extract_data]; simp
    by_cases he : b.extract 0 a.size = a
    · have hr : begins a.data.toList b.data.toList = true := by
        unfold begins
        rw [kt.size_len, kt.size_len, ← ht, he]
        simp [h]
      have HR := Lib.hid hr
      clear hr ht h
      go_enter Tryd.func19, Tryd.ntmps19
      go_wp2_with fail
      go_ret
      exact ⟨by rw [HR.out]; rfl, rfl⟩
    · have hne := same.str_ne he
      have hr : begins a.data.toList b.data.toList = false := by
        unfold begins
        rw [kt.size_len, kt.size_len, ← ht]
        rw [decide_eq_false (fun e => he (kt.str_eq e) : ¬ (b.extract 0 a.size).data.toList = a.data.toList)]
        exact Bool.and_false _
      have HR := Lib.hid hr
      clear hr ht h he
      go_enter Tryd.func19, Tryd.ntmps19
      go_wp2_with fail
      go_ret
      exact ⟨by rw [HR.out]; rfl, rfl⟩
  · have h' : ¬ (a.size : Int) ≤ (b.size : Int) := by omega
    have hr : begins a.data.toList b.data.toList = false := by
      unfold begins
      rw [kt.size_len, kt.size_len]
      simp [h]
    have HR := Lib.hid hr
    clear hr h
    go_enter Tryd.func19, Tryd.ntmps19
    go_wp2_with fail
    go_ret
    exact ⟨by rw [HR.out]; rfl, rfl⟩

set_option maxHeartbeats 1000000 in
theorem rcompare_any (a1 a2 : Option Addr) (c1 c2 : Nat) (a b : List ByteArray) (w : World) (h1 : Hid (Strs w a1 a)) (h2 : Hid (Strs w a2 b)) (hm : Hid (∀ p ∈ a, p.size ≤ 1000000)) (ha : a.length ≤ 1000000) :
    Calls Tryd.prog 15 #[.slice a1 a.length c1, .slice a2 b.length c2] w fun e w' => e = .returned (.int .i64 (cmpL a b)) ∧ ∃ n, w' = w.drewN n := by
  go_enter Tryd.func15, Tryd.ntmps15
  go_wp2_with fail
  go_loopw [5] (fun iv wr => ∃ (i : Nat), i ≤ a.length ∧ i ≤ b.length ∧ iv = .int .i64 i ∧ Hid (cmpL a b = cmpL (a.drop i) (b.drop i)) ∧ ∃ n, Hid (wr = w.drewN n)) (fun iv _ => a.length - (intOf iv).toNat)
  case atStart => exact ⟨0, Nat.zero_le _, Nat.zero_le _, rfl, rfl, 0, rfl⟩
  case round =>
    obtain ⟨i, hia, hib, rfl, hE, n, hw⟩ := hrel
    by_cases i1 : i < a.length
    · have i1' : (i : Int) < (a.length : Int) := by omega
      by_cases i2 : i < b.length
      · have i2' : ¬ (b.length : Int) ≤ (i : Int) := by omega
        have i2'' : (i : Int) < (b.length : Int) := by omega
        obtain ⟨x, hx⟩ : ∃ x : ByteArray, Hid (x = a[i]'i1) := ⟨a[i]'i1, rfl⟩
        obtain ⟨y, hy⟩ : ∃ y : ByteArray, Hid (y = b[i]'i2) := ⟨b[i]'i2, rfl⟩
        obtain ⟨b1, o1, e1, f1⟩ := h1.out i i1
        obtain ⟨b2, o2, e2, f2⟩ := h2.out i i2
        rw [← hx.out] at f1
        rw [← hy.out] at f2
        subst e1 e2
        have g1 : wr.cell? ⟨b1, o1 + i, none⟩ = some (.string x) := by rw [hw.out]; exact f1
        have g2 : wr.cell? ⟨b2, o2 + i, none⟩ = some (.string y) := by rw [hw.out]; exact f2
        clear f1 f2
        have hxs : x.size ≤ 1000000 := by rw [hx.out]; exact hm.out _ (List.getElem_mem i1)
        have he := hE.out
        rw [cmpL_drop a b i i1 i2, ← hx.out, ← hy.out] at he
        obtain ⟨r, hr⟩ : ∃ r : Int, Hid (r = Lib.compareBytes x.data.toList y.data.toList) := ⟨_, rfl⟩
        rw [← hr.out] at he
        have L : Hid (∀ w, Calls Tryd.prog 18 #[.string x, .string y] w fun e w' => e = .returned (.int .i64 r) ∧ ∃ n, w' = w.drewN n) := by
          intro w
          rw [hr.out]
          exact less_any x y w hxs
        have hh1 := Lib.hid i1
        have hh2 := Lib.hid i2
        by_cases hr0 : r = 0
        · rw [if_pos hr0] at he
          have HE := Lib.hid he
          clear he hr
          subst hr0
          go_wp2_with fail
          go_quiet ((go_at_call 18; exact Calls.quiet_of (L.out _)))
          go_wp2_with fail
          go_roundw
          case rel => exact ⟨i + 1, hh1.out, hh2.out, by go_num, HE, _, by show _ = _; rw [hw.out, World.drewN_drewN]⟩
          case measure =>
            have := hh1.out
            simp [intOf]; omega
        · rw [if_neg hr0] at he
          have HE := Lib.hid he
          have hq : (r == 0) = false := by simpa using hr0
          clear he hr hr0
          go_wp2_with fail
          go_quiet ((go_at_call 18; exact Calls.quiet_of (L.out _)))
          go_wp2_with fail
          go_ret
          exact ⟨by rw [HE.out]; rfl, _, by rw [hw.out, World.drewN_drewN]⟩
      · have he := hE.out
        rw [cmpL_end _ _ i hia hib (by omega), if_neg (by omega), if_pos (by omega)] at he
        have HE := Lib.hid he
        have i2' : (b.length : Int) ≤ (i : Int) := by omega
        clear he
        go_wp2_with fail
        go_ret
        exact ⟨by rw [HE.out]; rfl, _, hw.out⟩
    · have he := hE.out
      rw [cmpL_end _ _ i hia hib (by omega)] at he
      have i1' : ¬ (i : Int) < (a.length : Int) := by omega
      by_cases l1 : a.length < b.length
      · rw [if_pos l1] at he
        have HE := Lib.hid he
        have l1' : (a.length : Int) < (b.length : Int) := by omega
        clear he
        go_wp2_with fail
        go_ret
        exact ⟨by rw [HE.out]; rfl, _, hw.out⟩
      · rw [if_neg l1, if_neg (by omega)] at he
        have HE := Lib.hid he
        have l1' : ¬ (a.length : Int) < (b.length : Int) := by omega
        clear he
        go_wp2_with fail
        go_ret
        exact ⟨by rw [HE.out]; rfl, _, hw.out⟩

set_option maxHeartbeats 1000000 in
theorem compare_any (a1 a2 : Option Addr) (c1 c2 : Nat) (a b : List ByteArray) (w : World) (h1 : Hid (Strs w a1 a)) (h2 : Hid (Strs w a2 b)) (ha : a.length ≤ 1000000) (hb : b.length ≤ 1000000) :
    Calls Tryd.prog 14 #[.slice a1 a.length c1, .slice a2 b.length c2] w fun e w' => e = .returned (.int .i64 (cmpL a b)) ∧ ∃ n, w' = w.drewN n := by
  obtain ⟨k, hk⟩ : ∃ k : Nat, Hid (k = min a.length b.length) := ⟨_, rfl⟩
  have hka : k ≤ a.length := by rw [hk.out]; omega
  have hkb : k ≤ b.length := by rw [hk.out]; omega
  have ek : min (a.length : Int) (b.length : Int) = (k : Int) := by rw [hk.out]; omega
  go_enter Tryd.func14, Tryd.ntmps14
  go_wp2_with fail
  go_loopw [12] (fun iv wr => ∃ (i : Nat), i ≤ k ∧ iv = .int .i64 i ∧ Hid (cmpL a b = cmpL (a.drop i) (b.drop i)) ∧ ∃ n, Hid (wr = w.drewN n)) (fun iv _ => k - (intOf iv).toNat)
  case atStart => exact ⟨0, Nat.zero_le _, rfl, rfl, 0, rfl⟩
  case round =>
    obtain ⟨i, hi, rfl, hE, n, hw⟩ := hrel
    by_cases ik : i < k
    · have ik' : (i : Int) < (k : Int) := by omega
      have i1 : i < a.length := by omega
      have i2 : i < b.length := by omega
      have i1' : (i : Int) < (a.length : Int) := by omega
      have i2' : (i : Int) < (b.length : Int) := by omega
      obtain ⟨x, hx⟩ : ∃ x : ByteArray, Hid (x = a[i]'i1) := ⟨a[i]'i1, rfl⟩
      obtain ⟨y, hy⟩ : ∃ y : ByteArray, Hid (y = b[i]'i2) := ⟨b[i]'i2, rfl⟩
      obtain ⟨b1, o1, e1, f1⟩ := h1.out i i1
      obtain ⟨b2, o2, e2, f2⟩ := h2.out i i2
      rw [← hx.out] at f1
      rw [← hy.out] at f2
      subst e1 e2
      have g1 : wr.cell? ⟨b1, o1 + i, none⟩ = some (.string x) := by rw [hw.out]; exact f1
      have g2 : wr.cell? ⟨b2, o2 + i, none⟩ = some (.string y) := by rw [hw.out]; exact f2
      clear f1 f2
      have he := hE.out
      rw [cmpL_drop a b i i1 i2, ← hx.out, ← hy.out] at he
      obtain ⟨r, hr⟩ : ∃ r : Int, Hid (r = Lib.compareBytes x.data.toList y.data.toList) := ⟨_, rfl⟩
      rw [← hr.out] at he
      have L : Hid (∀ w, Calls Tryd.prog 28 #[.string x, .string y] w fun e w' => e = .returned (.int .i64 r) ∧ w' = w) := by
        intro w
        rw [hr.out]
        exact Tryd.strings_Compare x y w
      have hh := Lib.hid ik
      by_cases hr0 : r = 0
      · rw [if_pos hr0] at he
        have HE := Lib.hid he
        clear he hr
        subst hr0
        go_wp2_with fail
        go_quiet ((go_at_call 28; exact Calls.quiet_of_same (L.out _)))
        go_wp2_with fail
        go_roundw
        case rel => exact ⟨i + 1, hh.out, by go_num, HE, _, by show _ = _; rw [hw.out, World.drewN_drewN]⟩
        case measure =>
          have := hh.out
          simp [intOf]; omega
      · rw [if_neg hr0] at he
        have HE := Lib.hid he
        have hq : (r == 0) = false := by simpa using hr0
        clear he hr hr0
        go_wp2_with fail
        go_quiet ((go_at_call 28; exact Calls.quiet_of_same (L.out _)))
        go_wp2_with fail
        go_ret
        exact ⟨by rw [HE.out]; rfl, _, by rw [hw.out, World.drewN_drewN]⟩
    · have he := hE.out
      have hki : i = min a.length b.length := by rw [← hk.out]; omega
      rw [cmpL_end _ _ i (by omega) (by omega) (by omega)] at he
      have ik' : ¬ (i : Int) < (k : Int) := by omega
      have hmm : min 1 (max (-1) ((a.length : Int) - (b.length : Int))) = if a.length < b.length then -1 else if b.length < a.length then 1 else 0 := by
        split
        · omega
        · split <;> omega
      rw [← hmm] at he
      have HE := Lib.hid he
      clear he hmm hki
      go_wp2_with fail
      go_ret
      exact ⟨by rw [HE.out]; rfl, _, hw.out⟩
end ordw
end Go.Proofs.YthbofgfdgpidcaaDoor
