/- One text out of several: OrdW, RWorW, ROrdW, RMapW, PieceW, PartI, ConcW, PartP. -/
import Derived.Test.YtckpiaigoeicfaaGreatDoorB10
import Derived.Lib.AtoiErrMem
import Derived.Lib.Small
import Derived.Test.YtckpiaigoeicfaaGreatDoorB8
import Derived.Test.YtckpiaigoeicfaaGreatDoorB5
import Derived.Laws.OwnMore
import Derived.Lib.AppendZeros
/-! OrdW -/
namespace Go.Proofs.YtckpiaigoeicfaaGreatDoor
open Go.RowKit
namespace atw
open atp
set_option linter.unusedVariables false
set_option linter.unusedSimpArgs false
theorem ordS_cases (syn : Int) : (syn = 1 ∨ syn = 2 ∨ syn = 4) ∨ (ordS syn = false ∧ (syn == 1) = false ∧ (syn == 2) = false ∧ (syn == 4) = false ∧ (syn != 1) = true ∧ (syn != 2) = true ∧ (syn != 4) = true) := by
  by_cases h : syn = 1 ∨ syn = 2 ∨ syn = 4
  · exact Or.inl h
  · refine Or.inr ⟨?_, ?_, ?_, ?_, ?_, ?_, ?_⟩
    · unfold ordS
      rw [decide_eq_false (by omega), decide_eq_false (by omega), decide_eq_false (by omega)]; rfl
    · rw [beq_eq_false_iff_ne]; omega
    · rw [beq_eq_false_iff_ne]; omega
    · rw [beq_eq_false_iff_ne]; omega
    · rw [bne_iff_ne]; omega
    · rw [bne_iff_ne]; omega
    · rw [bne_iff_ne]; omega
theorem ordL_no {syn : Int} {a b : List UInt8} (h : ordS syn = false) : ordL syn a b = (0, 20) := by unfold ordL; rw [if_pos h]
theorem ordL_err {syn : Int} {a b : List UInt8} (h : ordS syn = true) (h2 : (bothL syn a b).2.2 ≠ 0) : ordL syn a b = (0, (bothL syn a b).2.2) := by unfold ordL; rw [if_neg (by rw [h]; simp), if_pos h2]
theorem ordL_num {a b : List UInt8} (h2 : (bothL 4 a b).2.2 = 0) : ordL 4 a b = (Lib.compareInt (worth (bothL 4 a b).1) (worth (bothL 4 a b).2.1), 0) := by
  unfold ordL; rw [if_neg (by decide), if_neg (not_not_intro h2), if_pos rfl]
theorem ordL_txt {syn : Int} {a b : List UInt8} (h : ordS syn = true) (h4 : syn ≠ 4) (h2 : (bothL syn a b).2.2 = 0) : ordL syn a b = (Lib.compareBytes (bothL syn a b).1 (bothL syn a b).2.1, 0) := by
  unfold ordL; rw [if_neg (by rw [h]; simp), if_neg (not_not_intro h2), if_neg h4]
theorem both_num {a b : List UInt8} (h : (bothL 4 a b).2.2 = 0) : numOK (bothL 4 a b).1 = true ∧ (bothL 4 a b).1.length ≤ 19 ∧ numOK (bothL 4 a b).2.1 = true ∧ (bothL 4 a b).2.1.length ≤ 19 := by
  unfold bothL at h ⊢
  by_cases h1 : (normL 4 a).2 ≠ 0
  · rw [if_pos h1] at h; exact absurd h h1
  · by_cases h2 : (normL 4 b).2 ≠ 0
    · rw [if_neg h1, if_pos h2] at h; exact absurd h h2
    · rw [if_neg h1, if_neg h2]
      obtain ⟨i1, i2⟩ := norm_num (a := a) (Classical.not_not.1 h1)
      obtain ⟨j1, j2⟩ := norm_num (a := b) (Classical.not_not.1 h2)
      exact ⟨i1, i2, j1, j2⟩
/-- strconv.Atoi at a number -/
theorem atoi_any (l : List UInt8) (h : numOK l = true) (hl : l.length ≤ 19) (w : World) : Calls Tryz.prog 26 #[.string (bs l)] w fun e w' => e = .returned (.tuple #[.int .i64 (worth l), .nilIface]) ∧ Below w.heap.size w w' := by
  refine (Tryz.strconv_Atoi_ok (bs l) (by rw [bs_size]; omega) (worth l) (atoi_num h).1 w).mono ?_
  rintro e w' ⟨rfl, hw⟩
  refine ⟨rfl, ?_⟩
  rcases hw with rfl | ⟨t, rfl⟩
  · exact Below.refl _ _
  · exact Lib.bytesWorld_below _ _ _
set_option maxRecDepth 20000 in
set_option maxHeartbeats 8000000 in
theorem order_any (nm : ByteArray) (syn : Int) (sg : Bool) (a b : ByteArray) (w : World) (ha : a.size ≤ 140737488351232) (hb : b.size ≤ 140737488351232) (hE : Hid (prw.Env w)) (hT : Hid (dnw.Tabs w)) :
    Calls Tryz.prog 12 #[.agg #[.string nm, .int .i64 syn, .bool sg], .string a, .string b] w fun e w' => e = .returned (.tuple #[.int .i64 (ordL syn a.data.toList b.data.toList).1, .int .i64 (ordL syn a.data.toList b.data.toList).2]) ∧ Below w.heap.size w w' := by
  obtain ⟨W0, hW0⟩ : ∃ W, w.alloc (.cells #[.string nm, .int .i64 syn, .bool sg] 23) = W := ⟨_, rfl⟩
  have hB0 : Below w.heap.size w W0 := by rw [← hW0]; exact (Below.refl _ _).alloc (Nat.le_refl _) _
  have HB0 := Lib.hid hB0
  have hw0 : w.heap.size ≤ W0.heap.size := hB0.size
  have HTB0 : Hid (TB W0 w.heap.size nm syn sg) := by rw [← hW0]; exact tb_new w nm syn sg
  obtain ⟨k0, k1, k2⟩ := tb_cells HTB0.out
  have HE0 := Lib.hid (prw.env_below hE.out hB0)
  have HT0 := Lib.hid (dnw.tabs_below hT.out hB0)
  have HBO : Hid (∀ w, prw.Env w → dnw.Tabs w → Calls Tryz.prog 25 #[.agg #[.string nm, .int .i64 syn, .bool sg], .string a, .string b] w fun e w' => e = .returned (.tuple #[.string (bs (bothL syn a.data.toList b.data.toList).1), .string (bs (bothL syn a.data.toList b.data.toList).2.1), .int .i64 (bothL syn a.data.toList b.data.toList).2.2]) ∧ Below w.heap.size w w') := fun w h1 h2 => both_any nm syn sg a b w ha hb (Lib.hid h1) (Lib.hid h2)
  clear hB0
  rcases ordS_cases syn with hsy | ⟨hno, q1, q2, q4, _, _, _⟩
  · have hos : ordS syn = true := by rcases hsy with rfl | rfl | rfl <;> rfl
    by_cases her : (bothL syn a.data.toList b.data.toList).2.2 = 0
    · by_cases h4 : syn = 4
      · subst h4
        rw [ordL_num her]
        obtain ⟨n1, l1, n2, l2⟩ := both_num her
        generalize bothL 4 a.data.toList b.data.toList = bo at HBO her n1 l1 n2 l2 ⊢
        obtain ⟨u, v, er⟩ := bo
        simp only at HBO her n1 l1 n2 l2 ⊢
        subst her
        have HA1 : Hid (∀ w, Calls Tryz.prog 26 #[.string (bs u)] w fun e w' => e = .returned (.tuple #[.int .i64 (worth u), .nilIface]) ∧ Below w.heap.size w w') := fun w => atoi_any u n1 l1 w
        have HA2 : Hid (∀ w, Calls Tryz.prog 26 #[.string (bs v)] w fun e w' => e = .returned (.tuple #[.int .i64 (worth v), .nilIface]) ∧ Below w.heap.size w w') := fun w => atoi_any v n2 l2 w
        have HCM : Hid (∀ w, Calls Tryz.prog 27 #[.int .i64 (worth u), .int .i64 (worth v)] w fun e w' => e = .returned (.int .i64 (Lib.compareInt (worth u) (worth v))) ∧ w = w') := by
          intro w
          refine (Tryz.cmp_Compare_int (worth u) (worth v) w).mono ?_
          rintro e w' ⟨rfl, rfl⟩
          exact ⟨rfl, rfl⟩
        generalize Lib.compareInt (worth u) (worth v) = cv at HCM ⊢
        generalize worth u = x at HA1 HCM
        generalize worth v = y at HA2 HCM
        clear n1 n2 l1 l2 hos
        go_enter Tryz.func12, Tryz.ntmps12
        go_wp2_with fail
        refine (HBO.out _ HE0.out HT0.out).mono ?_
        rintro e w1 ⟨rfl, hB1⟩
        have HB1 := Lib.hid (HB0.out.trans (hB1.mono hw0))
        obtain ⟨m0, m1, m2⟩ := tb_cells (tb_below HTB0.out hB1)
        clear hB1 hW0 k0 k1 k2
        go_wp2_with fail
        refine (HA1.out _).mono ?_
        rintro e w2 ⟨rfl, hB2⟩
        have HB2 := Lib.hid (HB1.out.trans (hB2.mono HB1.out.size))
        clear hB2 m0 m1 m2
        go_wp2_with fail
        refine (HA2.out _).mono ?_
        rintro e w3 ⟨rfl, hB3⟩
        have HB3 := Lib.hid (HB2.out.trans (hB3.mono HB2.out.size))
        clear hB3
        go_wp2_with fail
        refine (HCM.out _).mono ?_
        rintro e w4 ⟨rfl, rfl⟩
        go_wp2_with fail
        go_ret2
        exact ⟨rfl, HB3.out⟩
      · rw [ordL_txt hos h4 her]
        have q4 : (syn == 4) = false := by rw [beq_eq_false_iff_ne]; exact h4
        have hsy2 : syn = 1 ∨ syn = 2 := by omega
        generalize bothL syn a.data.toList b.data.toList = bo at HBO her ⊢
        obtain ⟨u, v, er⟩ := bo
        simp only at HBO her ⊢
        subst her
        have HCM : Hid (∀ w, Calls Tryz.prog 28 #[.string (bs u), .string (bs v)] w fun e w' => e = .returned (.int .i64 (Lib.compareBytes u v)) ∧ w = w') := by
          intro w
          refine (Tryz.strings_Compare (bs u) (bs v) w).mono ?_
          rintro e w' ⟨rfl, rfl⟩
          exact ⟨rfl, rfl⟩
        generalize Lib.compareBytes u v = cv at HCM ⊢
        clear hos h4 hsy
        rcases hsy2 with rfl | rfl
        all_goals
          go_enter Tryz.func12, Tryz.ntmps12
          go_wp2_with fail
          refine (HBO.out _ HE0.out HT0.out).mono ?_
          rintro e w1 ⟨rfl, hB1⟩
          have HB1 := Lib.hid (HB0.out.trans (hB1.mono hw0))
          obtain ⟨m0, m1, m2⟩ := tb_cells (tb_below HTB0.out hB1)
          clear hB1 hW0 k0 k1 k2
          go_wp2_with fail
          refine (HCM.out _).mono ?_
          rintro e w4 ⟨rfl, rfl⟩
          go_wp2_with fail
          go_ret2
          exact ⟨rfl, HB1.out⟩
    · rw [ordL_err hos her]
      generalize bothL syn a.data.toList b.data.toList = bo at HBO her ⊢
      obtain ⟨u, v, er⟩ := bo
      simp only at HBO her ⊢
      have qe : (er != 0) = true := by rw [bne_iff_ne]; exact her
      clear her hos
      rcases hsy with rfl | rfl | rfl
      all_goals
        go_enter Tryz.func12, Tryz.ntmps12
        go_wp2_with fail
        refine (HBO.out _ HE0.out HT0.out).mono ?_
        rintro e w1 ⟨rfl, hB1⟩
        have HB1 := Lib.hid (HB0.out.trans (hB1.mono hw0))
        clear hB1 hW0 k0 k1 k2
        go_wp2_with fail
        go_ret2
        exact ⟨rfl, HB1.out⟩
  · rw [ordL_no hno]
    clear hno
    go_enter Tryz.func12, Tryz.ntmps12
    go_wp2_with fail
    go_ret2
    exact ⟨rfl, HB0.out⟩
end atw
end Go.Proofs.YtckpiaigoeicfaaGreatDoor
/-! RWorW -/
namespace Go.Proofs.YtckpiaigoeicfaaGreatDoor
open Go.RowKit
namespace atw
open atp
set_option linter.unusedVariables false
set_option linter.unusedSimpArgs false
theorem num_bare {l : List UInt8} (h : numOK l = true) : (bare l).all digit = true := by
  unfold numOK at h
  rw [Bool.or_eq_true] at h
  rcases h with h | h
  · rw [decide_eq_true_iff] at h; subst h; decide
  · simp only [Bool.and_eq_true] at h
    exact h.2
theorem worthN_lt {l : List UInt8} (h : numOK l = true) : worthN (bare l) < 1000000000000000000 := by
  obtain ⟨_, h1, h2⟩ := atoi_num h
  unfold worth at h1 h2
  split at h1
  · rename_i hc
    omega
  · rename_i hc
    rw [if_neg hc] at h2
    omega
/-- the sum that the reference's loop makes: signs are left out -/
def valF (l : List UInt8) : Nat := l.foldl (fun n c => if c = 45 then n else 10 * n + (c.toNat - 48)) 0
theorem valF_snoc (l : List UInt8) (c : UInt8) : valF (l ++ [c]) = if c = 45 then valF l else 10 * valF l + (c.toNat - 48) := by
  unfold valF
  rw [List.foldl_append]
  rfl
theorem val_digits : ∀ (l : List UInt8) (n : Nat), l.all digit = true → l.foldl (fun n c => if c = 45 then n else 10 * n + (c.toNat - 48)) n = l.foldl (fun n c => 10 * n + (c.toNat - 48)) n
  | [], _, _ => rfl
  | c :: r, n, h => by
    obtain ⟨h1, h2, h3⟩ := all_digit h
    rw [List.foldl_cons, List.foldl_cons, if_neg (by rintro rfl; revert h1; decide)]
    exact val_digits r _ h3
theorem valF_bare {l : List UInt8} (h : (bare l).all digit = true) : valF l = worthN (bare l) := by
  unfold valF worthN
  unfold bare at h ⊢
  by_cases hc : l.head? = some 45
  · rw [if_pos hc] at h ⊢
    cases l with
    | nil => cases hc
    | cons c r =>
      simp only [List.head?_cons, Option.some.injEq] at hc
      subst hc
      rw [List.foldl_cons, if_pos rfl, List.tail_cons]
      exact val_digits r 0 h
  · rw [if_neg hc] at h ⊢
    exact val_digits l 0 h
theorem valF_mono (l : List UInt8) (k : Nat) : valF (l.take k) ≤ valF l := by
  have : ∀ (t : List UInt8) (n : Nat), n ≤ t.foldl (fun n c => if c = 45 then n else 10 * n + (c.toNat - 48)) n := by
    intro t
    induction t with
    | nil => intro n; exact Nat.le_refl _
    | cons c r ih =>
      intro n
      rw [List.foldl_cons]
      refine Nat.le_trans ?_ (ih _)
      split <;> omega
  have e : l = l.take k ++ l.drop k := (List.take_append_drop k l).symm
  conv => rhs; rw [e]
  unfold valF
  rw [List.foldl_append]
  exact this _ _
theorem worth_steps {s : ByteArray} (h : numOK s.data.toList = true) : ∃ v : Nat → Nat, v 0 = 0 ∧ (∀ k, v k < 1000000000000000000) ∧ (∀ k (hk : k < s.size), ((s[k].toNat : Int) = 45 → v (k + 1) = v k) ∧ ((s[k].toNat : Int) ≠ 45 → (v (k + 1) : Int) = v k * 10 + (s[k].toNat : Int) - 48)) ∧ (worth s.data.toList = if s.data.toList.head? = some 45 then -(v s.size : Int) else (v s.size : Int)) := by
  have hb := num_bare h
  have hlt := worthN_lt h
  refine ⟨fun k => valF (s.data.toList.take k), rfl, fun k => ?_, fun k hk => ?_, ?_⟩
  · have := valF_mono s.data.toList k
    rw [valF_bare hb] at this
    show valF _ < _
    omega
  · have e : valF (s.data.toList.take (k + 1)) = if s[k] = 45 then valF (s.data.toList.take k) else 10 * valF (s.data.toList.take k) + (s[k].toNat - 48) := by
      rw [take_snocB s k hk, valF_snoc]
    constructor
    · intro hc
      have : s[k] = 45 := u8_of (n := 45) (by omega) hc
      show valF _ = valF _
      rw [e, if_pos this]
    · intro hc
      have hne : s[k] ≠ 45 := by intro e; rw [e] at hc; exact hc rfl
      have hd : 48 ≤ s[k].toNat := by
        have hm := mem_s hk
        have : s[k] ∈ bare s.data.toList := by
          unfold bare
          split
          · rename_i hh
            obtain ⟨t, ht⟩ := ne_s (s := s) (by omega)
            rw [ht] at hh hm ⊢
            simp only [List.head?_cons, Option.some.injEq] at hh
            rcases List.mem_cons.1 hm with h1 | h1
            · exact absurd (h1.trans hh) hne
            · exact h1
          · exact hm
        have := List.all_eq_true.1 hb _ this
        unfold digit at this
        rw [decide_eq_true_iff] at this
        exact this.1
      show ((valF _ : Nat) : Int) = (valF _ : Nat) * 10 + _ - 48
      rw [e, if_neg hne]
      omega
  · unfold worth
    have ht : s.data.toList.take s.size = s.data.toList := List.take_of_length_le (by rw [kt.size_len]; exact Nat.le_refl _)
    show _ = if s.data.toList.head? = some 45 then -((valF (s.data.toList.take s.size) : Nat) : Int) else ((valF (s.data.toList.take s.size) : Nat) : Int)
    rw [ht, valF_bare hb]
set_option maxRecDepth 20000 in
set_option maxHeartbeats 4000000 in
theorem rworth_any (s : ByteArray) (w : World) (h : numOK s.data.toList = true) (hl : s.size ≤ 19) : Calls Tryz.prog 29 #[.string s] w fun e w' => e = .returned (.int .i64 (worth s.data.toList)) ∧ w = w' := by
  obtain ⟨v, hv0, hv1, hv2, hv3⟩ := worth_steps h
  have hs1 : 1 ≤ s.size := by
    rcases Nat.eq_zero_or_pos s.size with h0 | h0
    · rw [zero_s h0] at h; exact absurd h (by decide)
    · exact h0
  have hsp : 0 < s.size := hs1
  have hspI : (0 : Int) < (s.size : Int) := by omega
  have hhd := head_s hsp
  have HV1 := Lib.hid hv1
  have HV2 : Hid (∀ k (hk : k < s.size), ((s[k].toNat : Int) = 45 → v (k + 1) = v k) ∧ ((s[k].toNat : Int) ≠ 45 → (v (k + 1) : Int) = v k * 10 + (s[k].toNat : Int) - 48)) := hv2
  have HV0 := Lib.hid hv0
  obtain ⟨d0, hd0⟩ : ∃ c, s[0]'hsp = c := ⟨_, rfl⟩
  rw [hd0] at hhd
  have HW : Hid (((d0.toNat : Int) = 45 → (worth s.data.toList : Int) = -(v s.size : Int)) ∧ ((d0.toNat : Int) ≠ 45 → (worth s.data.toList : Int) = (v s.size : Int))) := by
    refine ⟨fun e => ?_, fun e => ?_⟩
    · rw [hv3, if_pos (by rw [hhd, u8_of (n := 45) (by omega) e]; rfl)]
    · rw [hv3, if_neg]
      rw [hhd]
      intro q
      rw [Option.some.injEq] at q
      rw [q] at e
      exact e rfl
  have HD0 := Lib.hid hd0
  clear hv0 hv1 hv2 hv3 hhd hd0 h
  generalize worth s.data.toList = wo at HW ⊢
  go_enter Tryz.func29, Tryz.ntmps29
  go_wp2_with fail
  go_loop [3, 4] (fun nv iv => ∃ k : Nat, k ≤ s.size ∧ iv = .int .i64 (k : Int) ∧ ∃ n : Nat, nv = .int .i64 (n : Int) ∧ Hid (n = v k)) (fun _ iv => s.size - (intOf iv).toNat)
  case atStart => exact ⟨0, Nat.zero_le _, rfl, 0, rfl, HV0.out.symm⟩
  case round =>
    obtain ⟨k, hk, rfl, n, rfl, hn⟩ := hrel
    have hnb : (n : Int) < 1000000000000000000 := by have := HV1.out k; rw [← hn.out] at this; omega
    have hn0 : (0 : Int) ≤ (n : Int) := by omega
    by_cases hlt : k < s.size
    · have hlt' : (k : Int) < (s.size : Int) := by omega
      have HS := HV2.out k hlt
      obtain ⟨c, hc⟩ : ∃ c, s[k]'hlt = c := ⟨_, rfl⟩
      rw [hc] at HS
      have hcn := c.toNat_lt
      have hn' := HV1.out (k + 1)
      rw [← hn.out] at HS
      by_cases h45 : (c.toNat : Int) = 45
      · have HK := Lib.hid (HS.1 h45)
        have q : ((c.toNat : Int) != 45) = false := by rw [bne_eq_false_iff_eq]; exact h45
        clear HS h45 hn'
        go_wp2_with fail
        go_round
        case rel => exact ⟨k + 1, by omega, by go_num, n, rfl, HK.out.symm⟩
        case measure => simp [intOf]; omega
      · have HK := Lib.hid (HS.2 h45)
        have q : ((c.toNat : Int) != 45) = true := by rw [bne_iff_ne]; exact h45
        have hb1 : (n : Int) * 10 + (c.toNat : Int) - 48 = ((v (k + 1) : Nat) : Int) := HK.out.symm
        have hb2 : (0 : Int) ≤ (n : Int) * 10 + (c.toNat : Int) - 48 := by omega
        have hb3 : (n : Int) * 10 + (c.toNat : Int) - 48 < 1000000000000000000 := by omega
        have HB1 := Lib.hid hb1
        clear HS h45 hn' hb1
        go_wp2_with fail
        go_round
        case rel => exact ⟨k + 1, by omega, by go_num, v (k + 1), by first | (rw [HB1.out]) | (go_num; rw [HB1.out]), Lib.hid rfl⟩
        case measure => simp [intOf]; omega
    · obtain rfl : k = s.size := by omega
      have HW1 : Hid (((d0.toNat : Int) = 45 → wo = -(n : Int)) ∧ ((d0.toNat : Int) ≠ 45 → wo = (n : Int))) := by rw [hn.out]; exact HW
      have hd0 := HD0.out
      have HNN := Lib.hid hn
      clear hn
      by_cases h45 : (d0.toNat : Int) = 45
      · have HK := Lib.hid (HW1.out.1 h45)
        have q : ((d0.toNat : Int) == 45) = true := by rw [beq_iff_eq]; exact h45
        clear h45
        go_wp2_with fail
        go_ret
        refine ⟨?_, rfl⟩
        rw [HK.out]
        rfl
      · have HK := Lib.hid (HW1.out.2 h45)
        have q : ((d0.toNat : Int) == 45) = false := by rw [beq_eq_false_iff_ne]; exact h45
        clear h45
        go_wp2_with fail
        go_ret
        refine ⟨?_, rfl⟩
        rw [HK.out]
        rfl
end atw
end Go.Proofs.YtckpiaigoeicfaaGreatDoor
/-! ROrdW -/
namespace Go.Proofs.YtckpiaigoeicfaaGreatDoor
open Go.RowKit
namespace atw
open atp
set_option linter.unusedVariables false
set_option linter.unusedSimpArgs false
theorem ready_norm_len {a : List UInt8} {f : Bool} (h : a.length ≤ 1000) : ∀ u, ne0 (prp.readyO a f) = some u → u.length ≤ 1000 := by
  intro u hu
  cases hr : prp.readyO a f with
  | none => rw [hr] at hu; cases hu
  | some o =>
    have := prp.readyO_len hr
    rw [hr] at hu
    unfold ne0 at hu
    simp only at hu
    split at hu
    · cases hu
    · cases hu; omega
theorem norm_text_len {syn : Int} {a : List UInt8} (h : syn = 1 ∨ syn = 2) : (normL syn a).1.length ≤ 1000 := by
  by_cases h1 : 1000 < a.length
  · rw [normL_long (by omega) h1]; simp
  by_cases h2 : a = []
  · rw [normL_nil (by omega) h2]; simp
  rw [normL_form (by omega) (by omega) h2]
  split
  · simp
  · rename_i u hu
    have he : formO syn a = ne0 (prp.readyO a true) ∨ formO syn a = ne0 (prp.readyO a false) := by
      rcases h with rfl | rfl
      · exact Or.inl rfl
      · exact Or.inr rfl
    rcases he with he | he
    · rw [he] at hu; exact ready_norm_len (by omega) u hu
    · rw [he] at hu; exact ready_norm_len (by omega) u hu
set_option maxRecDepth 20000 in
set_option maxHeartbeats 8000000 in
theorem rorder_any (nm : ByteArray) (syn : Int) (sg : Bool) (a b : ByteArray) (w : World) (ha : a.size ≤ 140737488351232) (hb : b.size ≤ 140737488351232) :
    Calls Tryz.prog 13 #[.agg #[.string nm, .int .i64 syn, .bool sg], .string a, .string b] w fun e w' => e = .returned (.tuple #[.int .i64 (ordL syn a.data.toList b.data.toList).1, .int .i64 (ordL syn a.data.toList b.data.toList).2]) ∧ Below w.heap.size w w' := by
  obtain ⟨W0, hW0⟩ : ∃ W, w.alloc (.cells #[.string nm, .int .i64 syn, .bool sg] 23) = W := ⟨_, rfl⟩
  have hB0 : Below w.heap.size w W0 := by rw [← hW0]; exact (Below.refl _ _).alloc (Nat.le_refl _) _
  have HB0 := Lib.hid hB0
  have hw0 : w.heap.size ≤ W0.heap.size := hB0.size
  have HTB0 : Hid (TB W0 w.heap.size nm syn sg) := by rw [← hW0]; exact tb_new w nm syn sg
  obtain ⟨k0, k1, k2⟩ := tb_cells HTB0.out
  have HNA : Hid (∀ w, Calls Tryz.prog 20 #[.agg #[.string nm, .int .i64 syn, .bool sg], .string a] w fun e w' => e = .returned (normV (normL syn a.data.toList)) ∧ Below w.heap.size w w') := fun w => rnormal_any nm syn sg a w ha
  have HNB : Hid (∀ w, Calls Tryz.prog 20 #[.agg #[.string nm, .int .i64 syn, .bool sg], .string b] w fun e w' => e = .returned (normV (normL syn b.data.toList)) ∧ Below w.heap.size w w') := fun w => rnormal_any nm syn sg b w hb
  rcases ordS_cases syn with hsy | ⟨hno, _, _, _, q1, q2, q4⟩
  · have hos : ordS syn = true := by rcases hsy with rfl | rfl | rfl <;> rfl
    have HN4 : Hid (∀ l : List UInt8, syn = 4 → (normL syn l).2 = 0 → numOK (normL syn l).1 = true ∧ (normL syn l).1.length ≤ 19) := by
      rintro l rfl h
      exact norm_num h
    have HN12 : Hid (syn ≠ 4 → (normL syn a.data.toList).1.length ≤ 1000) := fun h => norm_text_len (by omega)
    have HA4 := HN4.out a.data.toList
    have HB4 := HN4.out b.data.toList
    have hor : ordL syn a.data.toList b.data.toList = if (bothL syn a.data.toList b.data.toList).2.2 ≠ 0 then (0, (bothL syn a.data.toList b.data.toList).2.2) else if syn = 4 then (Lib.compareInt (worth (bothL syn a.data.toList b.data.toList).1) (worth (bothL syn a.data.toList b.data.toList).2.1), 0) else (Lib.compareBytes (bothL syn a.data.toList b.data.toList).1 (bothL syn a.data.toList b.data.toList).2.1, 0) := by
      unfold ordL
      rw [if_neg (by rw [hos]; simp)]
    rw [hor]
    clear hor hos HN4
    unfold bothL
    obtain ⟨na, hna⟩ : ∃ u, normL syn a.data.toList = u := ⟨_, rfl⟩
    obtain ⟨nb, hnb⟩ : ∃ u, normL syn b.data.toList = u := ⟨_, rfl⟩
    rw [hna] at HNA HA4 HN12 ⊢
    rw [hnb] at HNB HB4 ⊢
    clear hna hnb hB0
    obtain ⟨u, ea⟩ := na
    obtain ⟨v, eb⟩ := nb
    have HNA2 : Hid (∀ w, Calls Tryz.prog 20 #[.agg #[.string nm, .int .i64 syn, .bool sg], .string a] w fun e w' => e = .returned (.tuple #[.string (bs u), .int .i64 ea]) ∧ Below w.heap.size w w') := HNA
    have HNB2 : Hid (∀ w, Calls Tryz.prog 20 #[.agg #[.string nm, .int .i64 syn, .bool sg], .string b] w fun e w' => e = .returned (.tuple #[.string (bs v), .int .i64 eb]) ∧ Below w.heap.size w w') := HNB
    have HA4' := Lib.hid HA4
    have HB4' := Lib.hid HB4
    clear HNA HNB HA4 HB4
    by_cases hea : ea = 0
    · have q : (ea != 0) = false := by rw [bne_eq_false_iff_eq]; exact hea
      rw [if_neg (not_not_intro hea)]
      by_cases heb : eb = 0
      · have q2 : (eb != 0) = false := by rw [bne_eq_false_iff_eq]; exact heb
        rw [if_neg (not_not_intro heb)]
        by_cases h4 : syn = 4
        · subst h4
          obtain ⟨n1, l1⟩ := HA4'.out rfl hea
          obtain ⟨n2, l2⟩ := HB4'.out rfl heb
          rw [if_pos rfl, if_neg (by simp)]
          have HWA : Hid (∀ w, Calls Tryz.prog 29 #[.string (bs u)] w fun e w' => e = .returned (.int .i64 (worth u)) ∧ w = w') := fun w => rworth_any (bs u) w n1 (by rw [bs_size]; exact l1)
          have HWB : Hid (∀ w, Calls Tryz.prog 29 #[.string (bs v)] w fun e w' => e = .returned (.int .i64 (worth v)) ∧ w = w') := fun w => rworth_any (bs v) w n2 (by rw [bs_size]; exact l2)
          simp only
          have hcmp : Lib.compareInt (worth u) (worth v) = if worth u < worth v then -1 else if worth u > worth v then 1 else 0 := rfl
          rw [hcmp]
          generalize worth u = x at HWA ⊢
          generalize worth v = y at HWB ⊢
          clear hcmp n1 n2 l1 l2 HA4' HB4' hea heb hsy HN12
          by_cases c1 : x < y
          · have d1 : decide (x < y) = true := decide_eq_true c1
            rw [if_pos c1]
            clear c1
            go_enter Tryz.func13, Tryz.ntmps13
            go_wp2_with fail
            refine (HNA2.out _).mono ?_
            rintro e w1 ⟨rfl, hB1⟩
            have HB1 := Lib.hid (HB0.out.trans (hB1.mono hw0))
            obtain ⟨m0, m1, m2⟩ := tb_cells (tb_below HTB0.out hB1)
            have HTB1 := Lib.hid (tb_below HTB0.out hB1)
            clear hB1 hW0 k0 k1 k2
            go_wp2_with fail
            refine (HNB2.out _).mono ?_
            rintro e w2 ⟨rfl, hB2⟩
            have HB2 := Lib.hid (HB1.out.trans (hB2.mono HB1.out.size))
            obtain ⟨p0, p1, p2⟩ := tb_cells (tb_below HTB1.out hB2)
            clear hB2 m0 m1 m2
            go_wp2_with fail
            refine (HWA.out _).mono ?_
            rintro e w3 ⟨rfl, rfl⟩
            go_wp2_with fail
            refine (HWB.out _).mono ?_
            rintro e w3 ⟨rfl, rfl⟩
            go_wp2_with fail
            go_ret2
            exact ⟨rfl, HB2.out⟩
          · have d1 : decide (x < y) = false := decide_eq_false c1
            rw [if_neg c1]
            by_cases c2 : x > y
            · have d2 : decide (y < x) = true := decide_eq_true c2
              rw [if_pos c2]
              clear c1 c2
              go_enter Tryz.func13, Tryz.ntmps13
              go_wp2_with fail
              refine (HNA2.out _).mono ?_
              rintro e w1 ⟨rfl, hB1⟩
              have HB1 := Lib.hid (HB0.out.trans (hB1.mono hw0))
              obtain ⟨m0, m1, m2⟩ := tb_cells (tb_below HTB0.out hB1)
              have HTB1 := Lib.hid (tb_below HTB0.out hB1)
              clear hB1 hW0 k0 k1 k2
              go_wp2_with fail
              refine (HNB2.out _).mono ?_
              rintro e w2 ⟨rfl, hB2⟩
              have HB2 := Lib.hid (HB1.out.trans (hB2.mono HB1.out.size))
              obtain ⟨p0, p1, p2⟩ := tb_cells (tb_below HTB1.out hB2)
              clear hB2 m0 m1 m2
              go_wp2_with fail
              refine (HWA.out _).mono ?_
              rintro e w3 ⟨rfl, rfl⟩
              go_wp2_with fail
              refine (HWB.out _).mono ?_
              rintro e w3 ⟨rfl, rfl⟩
              go_wp2_with fail
              refine (HWA.out _).mono ?_
              rintro e w3 ⟨rfl, rfl⟩
              go_wp2_with fail
              refine (HWB.out _).mono ?_
              rintro e w3 ⟨rfl, rfl⟩
              go_wp2_with fail
              go_ret2
              exact ⟨rfl, HB2.out⟩
            · have d2 : decide (y < x) = false := decide_eq_false c2
              rw [if_neg c2]
              clear c1 c2
              go_enter Tryz.func13, Tryz.ntmps13
              go_wp2_with fail
              refine (HNA2.out _).mono ?_
              rintro e w1 ⟨rfl, hB1⟩
              have HB1 := Lib.hid (HB0.out.trans (hB1.mono hw0))
              obtain ⟨m0, m1, m2⟩ := tb_cells (tb_below HTB0.out hB1)
              have HTB1 := Lib.hid (tb_below HTB0.out hB1)
              clear hB1 hW0 k0 k1 k2
              go_wp2_with fail
              refine (HNB2.out _).mono ?_
              rintro e w2 ⟨rfl, hB2⟩
              have HB2 := Lib.hid (HB1.out.trans (hB2.mono HB1.out.size))
              obtain ⟨p0, p1, p2⟩ := tb_cells (tb_below HTB1.out hB2)
              clear hB2 m0 m1 m2
              go_wp2_with fail
              refine (HWA.out _).mono ?_
              rintro e w3 ⟨rfl, rfl⟩
              go_wp2_with fail
              refine (HWB.out _).mono ?_
              rintro e w3 ⟨rfl, rfl⟩
              go_wp2_with fail
              refine (HWA.out _).mono ?_
              rintro e w3 ⟨rfl, rfl⟩
              go_wp2_with fail
              refine (HWB.out _).mono ?_
              rintro e w3 ⟨rfl, rfl⟩
              go_wp2_with fail
              go_ret2
              exact ⟨rfl, HB2.out⟩
        · have hl := HN12.out h4
          have q4 : (syn != 4) = true := by rw [bne_iff_ne]; exact h4
          have hsy2 : syn = 1 ∨ syn = 2 := by omega
          rw [if_neg (by simp), if_neg h4]
          have HLE : Hid (∀ w, Calls Tryz.prog 24 #[.string (bs u), .string (bs v)] w fun e w' => e = .returned (.int .i64 (Lib.compareBytes u v)) ∧ ∃ n, w' = w.drewN n) := fun w => ordw.less_any (bs u) (bs v) w (by rw [bs_size]; exact Nat.le_trans hl (by omega))
          simp only
          generalize Lib.compareBytes u v = cv at HLE ⊢
          clear hl h4 HA4' HB4' hea heb hsy HN12
          rcases hsy2 with rfl | rfl
          all_goals
            go_enter Tryz.func13, Tryz.ntmps13
            go_wp2_with fail
            refine (HNA2.out _).mono ?_
            rintro e w1 ⟨rfl, hB1⟩
            have HB1 := Lib.hid (HB0.out.trans (hB1.mono hw0))
            obtain ⟨m0, m1, m2⟩ := tb_cells (tb_below HTB0.out hB1)
            have HTB1 := Lib.hid (tb_below HTB0.out hB1)
            clear hB1 hW0 k0 k1 k2
            go_wp2_with fail
            refine (HNB2.out _).mono ?_
            rintro e w2 ⟨rfl, hB2⟩
            have HB2 := Lib.hid (HB1.out.trans (hB2.mono HB1.out.size))
            obtain ⟨p0, p1, p2⟩ := tb_cells (tb_below HTB1.out hB2)
            clear hB2 m0 m1 m2
            go_wp2_with fail
            refine (HLE.out _).mono ?_
            rintro e w3 ⟨rfl, nd, rfl⟩
            go_wp2_with fail
            go_ret2
            exact ⟨rfl, ⟨HB2.out.os, HB2.out.tape, HB2.out.output, HB2.out.size, HB2.out.block⟩⟩
      · have q2 : (eb != 0) = true := by rw [bne_iff_ne]; exact heb
        rw [if_pos heb, if_pos heb]
        simp only
        clear heb hea HA4' HB4' HN12
        rcases hsy with rfl | rfl | rfl
        all_goals
          go_enter Tryz.func13, Tryz.ntmps13
          go_wp2_with fail
          refine (HNA2.out _).mono ?_
          rintro e w1 ⟨rfl, hB1⟩
          have HB1 := Lib.hid (HB0.out.trans (hB1.mono hw0))
          obtain ⟨m0, m1, m2⟩ := tb_cells (tb_below HTB0.out hB1)
          have HTB1 := Lib.hid (tb_below HTB0.out hB1)
          clear hB1 hW0 k0 k1 k2
          go_wp2_with fail
          refine (HNB2.out _).mono ?_
          rintro e w2 ⟨rfl, hB2⟩
          have HB2 := Lib.hid (HB1.out.trans (hB2.mono HB1.out.size))
          obtain ⟨p0, p1, p2⟩ := tb_cells (tb_below HTB1.out hB2)
          clear hB2 m0 m1 m2
          go_wp2_with fail
          go_ret2
          exact ⟨rfl, HB2.out⟩
    · have q : (ea != 0) = true := by rw [bne_iff_ne]; exact hea
      rw [if_pos hea, if_pos hea]
      simp only
      clear hea HA4' HB4' HN12
      rcases hsy with rfl | rfl | rfl
      all_goals
        go_enter Tryz.func13, Tryz.ntmps13
        go_wp2_with fail
        refine (HNA2.out _).mono ?_
        rintro e w1 ⟨rfl, hB1⟩
        have HB1 := Lib.hid (HB0.out.trans (hB1.mono hw0))
        obtain ⟨m0, m1, m2⟩ := tb_cells (tb_below HTB0.out hB1)
        have HTB1 := Lib.hid (tb_below HTB0.out hB1)
        clear hB1 hW0 k0 k1 k2
        go_wp2_with fail
        go_ret2
        exact ⟨rfl, HB1.out⟩
  · rw [ordL_no hno]
    clear hno hB0
    go_enter Tryz.func13, Tryz.ntmps13
    go_wp2_with fail
    go_ret2
    exact ⟨rfl, HB0.out⟩
end atw
end Go.Proofs.YtckpiaigoeicfaaGreatDoor
/-! RMapW -/
namespace Go.Proofs.YtckpiaigoeicfaaGreatDoor
open Go.RowKit
namespace prw
open run prp
set_option linter.unusedVariables false
set_option linter.unusedSimpArgs false
set_option maxRecDepth 20000 in
set_option maxHeartbeats 1100000 in
theorem rmap_any (s : ByteArray) (fold : Bool) (w : World) (hs : s.size ≤ 1100000) : Calls Tryz.prog 61 #[.string s, .bool fold] w fun e w' => e = .returned (pairV (mapO s.data.toList fold)) ∧ Below w.heap.size w w' := by
  rw [mapO_eq]
  have CR := mapped_any s fold w hs
  cases hrs : mapO' s.data.toList fold with
  | none =>
    rw [hrs] at CR
    have CH := Lib.hid CR
    clear hrs CR
    go_enter Tryz.func61, Tryz.ntmps61
    go_wp2_with fail
    refine CH.out.mono ?_
    rintro e w1 ⟨hB1, v, rfl⟩
    go_wp2_with fail
    go_ret2
    exact ⟨rfl, hB1⟩
  | some m =>
    rw [hrs] at CR
    obtain ⟨hml, hok⟩ := mapO'_facts hrs
    have CH := Lib.hid CR
    have HK := Lib.hid hok
    have hml2 : m.length ≤ 1100000 := by omega
    clear hrs CR hok hml
    go_enter Tryz.func61, Tryz.ntmps61
    go_wp2_with fail
    refine CH.out.mono ?_
    rintro e w1 ⟨hB1, v, rfl, hO⟩
    obtain ⟨ao, cap, rfl, hS⟩ := runs_of hO
    have HS := Lib.hid hS
    have CT := Lib.hid (text_any ao cap m w1 hml2 HS HK)
    clear hO hS
    have hsz1 := hB1.size
    go_wp2_with fail
    refine CT.out.mono ?_
    rintro e w2 ⟨rfl, hB2⟩
    go_wp2_with fail
    go_ret2
    exact ⟨rfl, hB1.trans (hB2.mono hsz1)⟩
end prw
end Go.Proofs.YtckpiaigoeicfaaGreatDoor
/-! PieceW -/
namespace Go.Proofs.YtckpiaigoeicfaaGreatDoor
open Go.RowKit
namespace atw
open atp
set_option linter.unusedVariables false
set_option linter.unusedSimpArgs false
/-- a piece as it is sought -/
def pieceO (syn : Int) (l : List UInt8) : Option (List UInt8) := if syn = 7 then prp.phoneO l else prp.mapO l (syn == 1)
theorem piece_len {syn : Int} {l o : List UInt8} (h : pieceO syn l = some o) : o.length ≤ l.length := by
  unfold pieceO at h
  split at h
  · unfold prp.phoneO at h
    obtain ⟨m, hm, rfl⟩ := Option.map_eq_some_iff.1 h
    have e : prp.mapO l true = some (run.text (prp.mapped true m)) := by unfold prp.mapO; rw [hm]; rfl
    refine Nat.le_trans ?_ (prp.mapO_len e)
    unfold prp.phoneR
    generalize prp.mapped true m = q
    induction q with
    | nil => exact Nat.le_refl _
    | cons c r ih =>
      have e1 : run.text (c :: r) = run.enc c ++ run.text r := rfl
      rw [List.filter_cons]
      split
      · have e2 : run.text (c :: List.filter (fun v => decide (v ≠ 32) && decide (v ≠ 45)) r) = run.enc c ++ run.text (List.filter (fun v => decide (v ≠ 32) && decide (v ≠ 45)) r) := rfl
        rw [e1, e2, List.length_append, List.length_append]
        omega
      · rw [e1, List.length_append]
        omega
  · exact prp.mapO_len h
set_option maxRecDepth 20000 in
set_option maxHeartbeats 4000000 in
theorem piece_any (nm : ByteArray) (syn : Int) (sg : Bool) (s : ByteArray) (w : World) (hs : s.size ≤ 1100000) (hE : Hid (prw.Env w)) :
    Calls Tryz.prog 33 #[.agg #[.string nm, .int .i64 syn, .bool sg], .string s] w fun e w' => e = .returned (prw.pairV (pieceO syn s.data.toList)) ∧ Below w.heap.size w w' := by
  obtain ⟨W0, hW0⟩ : ∃ W, w.alloc (.cells #[.string nm, .int .i64 syn, .bool sg] 23) = W := ⟨_, rfl⟩
  have hB0 : Below w.heap.size w W0 := by rw [← hW0]; exact (Below.refl _ _).alloc (Nat.le_refl _) _
  have HB0 := Lib.hid hB0
  have hw0 : w.heap.size ≤ W0.heap.size := hB0.size
  have HTB0 : Hid (TB W0 w.heap.size nm syn sg) := by rw [← hW0]; exact tb_new w nm syn sg
  obtain ⟨k0, k1, k2⟩ := tb_cells HTB0.out
  have HE0 := Lib.hid (prw.env_below hE.out hB0)
  by_cases h7 : syn = 7
  · subst h7
    have hp : pieceO 7 s.data.toList = prp.phoneO s.data.toList := rfl
    have HC : Hid (Calls Tryz.prog 56 #[.string s] W0 fun e w' => e = .returned (prw.pairV (prp.phoneO s.data.toList)) ∧ Below W0.heap.size W0 w') := prw.phone_any s W0 hs HE0
    rw [hp]
    clear hp
    obtain ⟨po, hpo⟩ : ∃ u, prp.phoneO s.data.toList = u := ⟨_, rfl⟩
    rw [hpo] at HC ⊢
    clear hpo hB0
    cases po
    all_goals
      simp only [prw.pairV] at HC ⊢
      go_enter Tryz.func33, Tryz.ntmps33
      go_wp2_with fail
      refine (HC.out).mono ?_
      rintro e w1 ⟨rfl, hB1⟩
      have HB1 := Lib.hid (HB0.out.trans (hB1.mono hw0))
      clear hB1 hW0 k0 k1 k2
      go_wp2_with fail
      go_ret2
      exact ⟨rfl, HB1.out⟩
  · have hp : pieceO syn s.data.toList = prp.mapO s.data.toList (syn == 1) := by unfold pieceO; rw [if_neg h7]
    have q7 : (syn == 7) = false := by rw [beq_eq_false_iff_ne]; exact h7
    have HC : Hid (Calls Tryz.prog 57 #[.string s, .bool (syn == 1)] W0 fun e w' => e = .returned (prw.pairV (prp.mapO s.data.toList (syn == 1))) ∧ Below W0.heap.size W0 w') := prw.map_any s (syn == 1) W0 hs
    rw [hp]
    clear hp h7
    obtain ⟨po, hpo⟩ : ∃ u, prp.mapO s.data.toList (syn == 1) = u := ⟨_, rfl⟩
    rw [hpo] at HC ⊢
    clear hpo hB0
    cases po
    all_goals
      simp only [prw.pairV] at HC ⊢
      go_enter Tryz.func33, Tryz.ntmps33
      go_wp2_with fail
      refine (HC.out).mono ?_
      rintro e w1 ⟨rfl, hB1⟩
      have HB1 := Lib.hid (HB0.out.trans (hB1.mono hw0))
      clear hB1 hW0 k0 k1 k2
      go_wp2_with fail
      go_ret2
      exact ⟨rfl, HB1.out⟩
set_option maxRecDepth 20000 in
set_option maxHeartbeats 4000000 in
theorem rpiece_any (nm : ByteArray) (syn : Int) (sg : Bool) (s : ByteArray) (w : World) (hs : s.size ≤ 1100000) :
    Calls Tryz.prog 37 #[.agg #[.string nm, .int .i64 syn, .bool sg], .string s] w fun e w' => e = .returned (prw.pairV (pieceO syn s.data.toList)) ∧ Below w.heap.size w w' := by
  obtain ⟨W0, hW0⟩ : ∃ W, w.alloc (.cells #[.string nm, .int .i64 syn, .bool sg] 23) = W := ⟨_, rfl⟩
  have hB0 : Below w.heap.size w W0 := by rw [← hW0]; exact (Below.refl _ _).alloc (Nat.le_refl _) _
  have HB0 := Lib.hid hB0
  have hw0 : w.heap.size ≤ W0.heap.size := hB0.size
  have HTB0 : Hid (TB W0 w.heap.size nm syn sg) := by rw [← hW0]; exact tb_new w nm syn sg
  obtain ⟨k0, k1, k2⟩ := tb_cells HTB0.out
  by_cases h7 : syn = 7
  · subst h7
    have hp : pieceO 7 s.data.toList = prp.phoneO s.data.toList := rfl
    have HC : Hid (Calls Tryz.prog 47 #[.string s] W0 fun e w' => e = .returned (prw.pairV (prp.phoneO s.data.toList)) ∧ Below W0.heap.size W0 w') := prw.rphone_any s W0 hs
    rw [hp]
    clear hp
    obtain ⟨po, hpo⟩ : ∃ u, prp.phoneO s.data.toList = u := ⟨_, rfl⟩
    rw [hpo] at HC ⊢
    clear hpo hB0
    cases po
    all_goals
      simp only [prw.pairV] at HC ⊢
      go_enter Tryz.func37, Tryz.ntmps37
      go_wp2_with fail
      refine (HC.out).mono ?_
      rintro e w1 ⟨rfl, hB1⟩
      have HB1 := Lib.hid (HB0.out.trans (hB1.mono hw0))
      clear hB1 hW0 k0 k1 k2
      go_wp2_with fail
      go_ret2
      exact ⟨rfl, HB1.out⟩
  · have hp : pieceO syn s.data.toList = prp.mapO s.data.toList (syn == 1) := by unfold pieceO; rw [if_neg h7]
    have q7 : (syn == 7) = false := by rw [beq_eq_false_iff_ne]; exact h7
    have HC : Hid (Calls Tryz.prog 61 #[.string s, .bool (syn == 1)] W0 fun e w' => e = .returned (prw.pairV (prp.mapO s.data.toList (syn == 1))) ∧ Below W0.heap.size W0 w') := prw.rmap_any s (syn == 1) W0 hs
    rw [hp]
    clear hp h7
    obtain ⟨po, hpo⟩ : ∃ u, prp.mapO s.data.toList (syn == 1) = u := ⟨_, rfl⟩
    rw [hpo] at HC ⊢
    clear hpo hB0
    cases po
    all_goals
      simp only [prw.pairV] at HC ⊢
      go_enter Tryz.func37, Tryz.ntmps37
      go_wp2_with fail
      refine (HC.out).mono ?_
      rintro e w1 ⟨rfl, hB1⟩
      have HB1 := Lib.hid (HB0.out.trans (hB1.mono hw0))
      clear hB1 hW0 k0 k1 k2
      go_wp2_with fail
      go_ret2
      exact ⟨rfl, HB1.out⟩
end atw
end Go.Proofs.YtckpiaigoeicfaaGreatDoor
/-! PartI -/
namespace Go.Proofs.YtckpiaigoeicfaaGreatDoor
open Go.RowKit
namespace atw
open atp tupw
set_option linter.unusedVariables false
set_option linter.unusedSimpArgs false
def neB (x : ByteArray) : Bool := decide (x.data.toList ≠ [])
theorem ne_beq (x : ByteArray) : (x.toList == []) = !(neB x) := by
  unfold neB
  rw [Lib.toList_data]
  cases h : x.data.toList with
  | nil => rfl
  | cons a t => rfl
theorem ne_bne (x : ByteArray) : (x.toList != []) = neB x := by
  rw [bne, ne_beq, Bool.not_not]
/-- the closure: is a text given? -/
theorem clo_any (x : ByteArray) (W : World) : Calls Tryz.prog 30 #[.string x] W fun e w' => e = .returned (.bool (neB x)) ∧ W = w' := by
  have hb := ne_bne x
  cases hn : neB x
  all_goals
    rw [hn] at hb
    clear hn
    have HB := Lib.hid hb
    go_enter Tryz.func30, Tryz.ntmps30
    go_wp2_with fail
    all_goals first
      | (go_ret; exact ⟨kt.ret_bool (by first | rfl | exact HB.out | simp_all), rfl⟩)
def Has (l : List ByteArray) (k : Nat) : Prop := ∃ i, ∃ hi : i < l.length, i < k ∧ neB l[i] = true
def IxE (l : List ByteArray) (w : World) (e : Ending) (w' : World) : Prop := ∃ r : Int, e = .returned (.int .i64 r) ∧ (0 ≤ r ↔ Has l l.length) ∧ w' = w
set_option maxRecDepth 20000 in
set_option maxHeartbeats 1100000 in
theorem index_any (ao : Option Addr) (cap : Nat) (l : List ByteArray) (w : World) (hA : Hid (Strs w ao l)) (hkb : l.length ≤ 1000) :
    Calls Tryz.prog 55 #[.slice ao l.length cap, .func (.func 30) #[] #[]] w fun e w' => IxE l w e w' := by
  obtain ⟨k, hk⟩ : ∃ k, l.length = k := ⟨_, rfl⟩
  have HK := Lib.hid hk
  unfold IxE
  rw [hk] at hkb ⊢
  clear hk
  go_enter Tryz.func55, Tryz.ntmps55
  go_wp2_with fail
  go_loop [5, 8] (fun _ iv => ∃ i : Nat, i ≤ k ∧ iv = .int .i64 (i : Int) ∧ Hid (¬ Has l i)) (fun _ iv => k - (intOf iv).toNat)
  case atStart => exact ⟨0, Nat.zero_le _, rfl, fun ⟨_, _, h, _⟩ => by omega⟩
  case round =>
    obtain ⟨i, hi, rfl, hN⟩ := hrel
    by_cases hlt2 : i < k
    · have hlt' : (i : Int) < (k : Int) := by omega
      have hil : i < l.length := by rw [HK.out]; exact hlt2
      obtain ⟨b, o, hao, hc0⟩ := hA.out i hil
      subst hao
      have CC := fun w => clo_any l[i] w
      by_cases he : neB l[i] = true
      · have HH : Hid (0 ≤ (i : Int) ↔ Has l k) := ⟨fun _ => ⟨i, hil, hlt2, he⟩, fun _ => by omega⟩
        rw [he] at CC
        have HC := Lib.hid CC
        generalize l[i] = x at hc0 HC
        clear CC he
        go_wp2_with fail
        refine (HC.out _).mono ?_
        rintro e w2 ⟨rfl, rfl⟩
        go_wp2_with fail
        go_ret
        exact ⟨(i : Int), rfl, HH.out, rfl⟩
      · have HN2 : Hid (¬ Has l (i + 1)) := by
          rintro ⟨j, hj, h1, h2⟩
          by_cases e : j = i
          · subst e; exact he h2
          · exact hN.out ⟨j, hj, by omega, h2⟩
        rw [Bool.eq_false_iff.2 he] at CC
        have HC := Lib.hid CC
        generalize l[i] = x at hc0 HC
        clear CC he
        go_wp2_with fail
        refine (HC.out _).mono ?_
        rintro e w2 ⟨rfl, rfl⟩
        go_wp2_with fail
        go_round
        case rel => exact ⟨i + 1, by omega, by go_num, HN2⟩
        case measure => simp [intOf]; omega
    · obtain rfl : i = k := by omega
      go_wp2_with fail
      go_ret
      exact ⟨-1, rfl, ⟨fun h => by omega, fun h => absurd h hN.out⟩, rfl⟩
theorem hasB_iff (l : List ByteArray) : l.any neB = true ↔ Has l l.length := by
  unfold Has
  rw [List.any_eq_true]
  constructor
  · rintro ⟨x, hx, h⟩
    obtain ⟨i, hi, rfl⟩ := List.mem_iff_getElem.1 hx
    exact ⟨i, hi, hi, h⟩
  · rintro ⟨i, hi, h1, h2⟩
    exact ⟨l[i], List.getElem_mem _, h2⟩
set_option maxRecDepth 20000 in
theorem contains_any (ao : Option Addr) (cap : Nat) (l : List ByteArray) (w : World) (hA : Hid (Strs w ao l)) (hkb : l.length ≤ 1000) :
    Calls Tryz.prog 32 #[.slice ao l.length cap, .func (.func 30) #[] #[]] w fun e w' => e = .returned (.bool (l.any neB)) ∧ w = w' := by
  have CI := Lib.hid (index_any ao cap l w hA hkb)
  have hI := hasB_iff l
  generalize l.length = n at CI ⊢
  cases hH : l.any neB with
  | true =>
    have HH := Lib.hid (hI.1 hH)
    clear hI hH
    go_enter Tryz.func32, Tryz.ntmps32
    go_wp2_with fail
    refine CI.out.mono ?_
    rintro e w1 ⟨r, rfl, h1, rfl⟩
    have h2 : 0 ≤ r := h1.2 HH.out
    clear h1
    go_wp2_with fail
    go_ret
    exact ⟨kt.ret_bool (by first | rfl | exact decide_eq_true h2), rfl⟩
  | false =>
    have HH : Hid (¬ Has l l.length) := fun h => by rw [hI.2 h] at hH; cases hH
    clear hI hH
    go_enter Tryz.func32, Tryz.ntmps32
    go_wp2_with fail
    refine CI.out.mono ?_
    rintro e w1 ⟨r, rfl, h1, rfl⟩
    have h2 : ¬ 0 ≤ r := fun h => HH.out (h1.1 h)
    clear h1
    go_wp2_with fail
    go_ret
    exact ⟨kt.ret_bool (by simpa using h2), rfl⟩
end atw
end Go.Proofs.YtckpiaigoeicfaaGreatDoor
/-! ConcW -/
namespace Go.Proofs.YtckpiaigoeicfaaGreatDoor
open Go.RowKit
namespace atw
open atp tupw prw
set_option linter.unusedVariables false
set_option linter.unusedSimpArgs false
set_option maxRecDepth 20000 in
set_option maxHeartbeats 4000000 in
/-- slices.Grow at nil -/
theorem grow_any (B n : Nat) (w : World) (h0 : 0 < n) (hn : n ≤ 1100000) (hB : B ≤ w.heap.size) :
    Calls Tryz.prog 54 #[.slice none 0 0, .int .i64 (n : Int)] w fun e w' => ∃ v, e = .returned v ∧ Hid (OwnT w' B v []) ∧ Below w.heap.size w w' := by
  obtain ⟨i0, hi, hz0, hz1, hz2⟩ := info_parts (P := Tryz.prog) infoStr
  have hap := Lib.hid (Lib.run_append_nil_zeros (P := Tryz.prog) w 31 3 31 9 i0 _ .i64 .i64 Tryz.underlying31 Tryz.underlying3 hi hz0 n h0 (by omega) (by omega) (by rw [hz2]; omega))
  generalize hc : Builtin.zeroCells (Value.string ByteArray.empty).cells n ++ Builtin.zeroCells (Value.string ByteArray.empty).cells (grownCap w n 0 9 - n) = cs at hap
  have hcs : cs.size = grownCap w n 0 9 * 1 := by
    rw [← hc, Array.size_append, size_zeroCells, size_zeroCells]
    have := grownCap_ge w n 0 9
    show n * 1 + (_ - n) * 1 = _
    omega
  have hOW : Hid (OwnT (w.drew.alloc (.cells cs 9)) B (.slice (some ⟨w.heap.size, 0, none⟩) 0 (grownCap w n 0 9)) []) :=
    World.ownsRow_made w.drew cs _ hB (grownCap_le_maxLen w n 0 _ (by unfold maxLen; omega)) hcs
  have hBW : Hid (Below w.heap.size w (w.drew.alloc (.cells cs 9))) := ((Below.refl _ w).drew).alloc (Nat.le_refl _) _
  have hcap : Hid (n ≤ grownCap w n 0 9) := grownCap_ge w n 0 _
  generalize grownCap w n 0 9 = cap at hap hOW hcs hcap
  obtain ⟨w1, hw1⟩ : ∃ w1, w.drew.alloc (.cells cs 9) = w1 := ⟨_, rfl⟩
  rw [hw1] at hap hOW hBW
  have hnI : (0 : Int) < (n : Int) := by omega
  have hnI2 : (n : Int) ≤ 1100000 := by omega
  clear hc hcs hw1 hi hz0 hz1 hz2 hB
  go_enter Tryz.func54, Tryz.ntmps54
  go_wp2_with (at_builtin; refine Lib.wpList_append_run _ rfl _ _ _ _ rfl _ _ rfl rfl _ _ hap.out ?_)
  go_ret
  exact ⟨_, rfl, hOW, hBW.out⟩
/-- an append of a whole row of texts -/
theorem app_row {w : World} {B : Nat} {v : Value} {l m : List ByteArray} {ao : Option Addr} {cap : Nat} (hown : OwnT w B v l) (hS : Strs w ao m) (hn : ao = none → cap = 0) (hl : l.length + m.length ≤ 100000) (hbase : B ≤ w.heap.size) :
    ∃ v' w1, (Builtin.append_ #[31, 31] 31 #[v, .slice ao m.length cap]).run Tryz.prog w = .ok v' w1 ∧ OwnT w1 B v' (l ++ m) ∧ Below B w w1 := by
  obtain ⟨i0, hi, hz0, hz1, hz2⟩ := info_parts (P := Tryz.prog) infoStr
  have hlen := scells_length l
  unfold OwnT at hown
  cases ao with
  | none =>
    have hm : m = [] := by
      cases m with
      | nil => rfl
      | cons x t => obtain ⟨b, o, e, _⟩ := hS 0 (by simp); cases e
    subst hm
    have hc := hn rfl
    subst hc
    refine ⟨v, w, run_append_owned_none (P := Tryz.prog) (w := w) B 31 31 9 i0 1 Tryz.underlying31 hi v _ _ hown, ?_, Below.refl _ _⟩
    rw [List.append_nil]
    exact hown
  | some a =>
    obtain ⟨v', w1, hrun, hown', hgr, _⟩ := run_append_own (P := Tryz.prog) (w := w) (ty := 31) B 31 9 i0 _ 1 16 Tryz.underlying31 hi hz0 hz1 hz2 rfl (by omega) v (scells l).length (scells l) hown a m.length cap (scells m) (by rw [scells_length]; omega)
      (fun j u hj => by
        unfold scells at hj
        rw [List.getElem?_map] at hj
        obtain ⟨x, hx, rfl⟩ := Option.map_eq_some_iff.1 hj
        obtain ⟨hjl, rfl⟩ := List.getElem?_eq_some_iff.1 hx
        obtain ⟨b, o, e, hc⟩ := hS j hjl
        simp only [Option.some.injEq] at e
        subst e
        unfold Addr.add
        by_cases hj0 : j = 0
        · subst hj0; rw [if_pos rfl]; exact hc
        · rw [if_neg hj0]; exact hc)
      (fun u hu => by
        unfold scells at hu
        obtain ⟨x, _, rfl⟩ := List.mem_map.1 hu
        rfl) (by unfold maxLen; omega) (by omega) hbase
    have hlt : ∀ k, v.ownBlock = some k → B ≤ k ∧ k < w.heap.size := World.ownsRow.lt hown
    refine ⟨v', w1, hrun, ?_, (Below.refl B w).grown hgr hbase (fun k hk => (hlt k hk).1)⟩
    unfold OwnT
    have e : scells (l ++ m) = scells l ++ scells m := by simp [scells]
    have e2 : (scells l ++ scells m).length = (scells l).length + m.length := by rw [List.length_append, scells_length m]
    rw [e, e2]
    exact hown'
/-- a row of rows of texts -/
def Rws (w : World) (q : Nat) (L : List (List ByteArray)) : Prop := ∀ (i : Nat) (h : i < L.length), ∃ ao cap, w.cell? ⟨q, i, none⟩ = some (.slice ao L[i].length cap) ∧ Strs w ao L[i] ∧ (ao = none → cap = 0)
theorem rws_below {w w' : World} {q : Nat} {L : List (List ByteArray)} (h : Rws w q L) (hb : Below w.heap.size w w') : Rws w' q L := by
  intro i hi
  obtain ⟨ao, cap, hc, hS, hn⟩ := h i hi
  exact ⟨ao, cap, (hb.cell (World.block_lt_of_cell? w _ hc)).trans hc, strs_below hS hb, hn⟩
theorem flat_take {L : List (List ByteArray)} {i : Nat} (h : i < L.length) : (L.take (i + 1)).flatten = (L.take i).flatten ++ L[i] := by
  rw [List.take_succ_eq_append_getElem h, List.flatten_append]; simp
theorem flat_le (L : List (List ByteArray)) (i : Nat) : (L.take i).flatten.length ≤ L.flatten.length := by
  conv => rhs; rw [← List.take_append_drop i L, List.flatten_append, List.length_append]
  omega
set_option maxRecDepth 20000 in
set_option maxHeartbeats 4000000 in
theorem concat_any (q B cap : Nat) (L : List (List ByteArray)) (w : World) (hR : Hid (Rws w q L)) (hL : L.length ≤ 10) (h0 : 0 < L.flatten.length) (h1 : L.flatten.length ≤ 10000) (hB : B ≤ w.heap.size) :
    Calls Tryz.prog 31 #[.slice (some ⟨q, 0, none⟩) L.length cap] w fun e w' => ∃ v, e = .returned v ∧ Hid (OwnT w' w.heap.size v L.flatten) ∧ Below w.heap.size w w' := by
  obtain ⟨k, hk⟩ : ∃ k, L.length = k := ⟨_, rfl⟩
  have HK := Lib.hid hk
  have HF := Lib.hid h1
  have HT : Hid (∀ i, (L.take i).flatten.length ≤ 10000) := fun i => Nat.le_trans (flat_le L i) h1
  have HS : Hid (∀ i (h : i < L.length), (L.take (i + 1)).flatten = (L.take i).flatten ++ L[i]) := fun i h => flat_take h
  have HE : Hid ((L.take k).flatten = L.flatten) := by rw [← hk, List.take_length]; rfl
  have HFP := Lib.hid h0
  rw [hk] at hL ⊢
  clear hk h0 h1
  go_enter Tryz.func31, Tryz.ntmps31
  go_wp2_with fail
  go_loop [3, 5, 11] (fun sv _ iv => ∃ i : Nat, i ≤ k ∧ iv = .int .i64 (i : Int) ∧ ∃ n : Nat, sv = .int .i64 (n : Int) ∧ Hid (n = (L.take i).flatten.length)) (fun _ _ iv => k - (intOf iv).toNat)
  case atStart => exact ⟨0, Nat.zero_le _, rfl, 0, rfl, rfl⟩
  case round =>
    obtain ⟨i, hi, rfl, n, rfl, hn⟩ := hrel
    have hn1 : n ≤ 10000 := by rw [hn.out]; exact HT.out i
    by_cases hlt2 : i < k
    · have hlt' : (i : Int) < (k : Int) := by omega
      have hil : i < L.length := by rw [HK.out]; exact hlt2
      obtain ⟨ao, c, hc0, _, _⟩ := hR.out i hil
      have HN : Hid (n + L[i].length = (L.take (i + 1)).flatten.length) := by rw [HS.out i hil, List.length_append, hn.out]; exact rfl
      have hn2 : n + L[i].length ≤ 10000 := by rw [HN.out]; exact HT.out _
      generalize L[i].length = m at hc0 HN hn2
      have hn3 : ¬ ((n : Int) + (m : Int) < 0) := by omega
      clear hn
      go_wp2_with fail
      go_round
      case rel => exact ⟨i + 1, by omega, by go_num, n + m, by go_num, HN⟩
      case measure => simp [intOf]; omega
    · obtain rfl : i = k := by omega
      have hnp : 0 < n := by rw [hn.out, HE.out]; exact HFP.out
      have HG : Hid (∀ w : World, ∀ B ≤ w.heap.size, Calls Tryz.prog 54 #[.slice none 0 0, .int .i64 (n : Int)] w fun e w' => ∃ v, e = .returned v ∧ Hid (OwnT w' B v []) ∧ Below w.heap.size w w') := fun w B hB => grow_any B n w hnp (by omega) hB
      clear hn hnp
      go_wp2_with fail
      refine (HG.out _ w.heap.size (Nat.le_refl _)).mono ?_
      rintro e w1 ⟨v1, rfl, hO1, hB1⟩
      have HB1 := Lib.hid hB1
      clear hB1
      go_wp2_with fail
      go_loopw [6, 8, 27] (fun vv _ iv wr => ∃ j : Nat, j ≤ i ∧ iv = .int .i64 (j : Int) ∧ Hid (OwnT wr w.heap.size vv (L.take j).flatten) ∧ Below w.heap.size w wr) (fun _ _ iv _ => i - (intOf iv).toNat)
      case atStart => exact ⟨0, Nat.zero_le _, rfl, hO1, HB1.out⟩
      case round =>
        obtain ⟨j, hj, rfl, hO, hB2⟩ := hrel
        have hsz := hB2.size
        by_cases hlt3 : j < i
        · have hlt' : (j : Int) < (i : Int) := by omega
          have hil : j < L.length := by rw [HK.out]; exact hlt3
          obtain ⟨ao, c, hc0, hS, hcn⟩ := (rws_below hR.out hB2) j hil
          obtain ⟨v', w2, hap, hO2, hB3⟩ := app_row hO.out hS hcn (by rw [← List.length_append, ← HS.out j hil]; have := HT.out (j + 1); omega) hsz
          rw [← HS.out j hil] at hO2
          have hap := Lib.hid hap
          have HO2 := Lib.hid hO2
          have HB3 := Lib.hid (hB2.trans hB3)
          clear hO2 hB3 hS hcn hO
          generalize L[j].length = m at hc0 hap
          go_wp2_with (at_builtin; refine Lib.wpList_append_run _ rfl _ _ _ _ rfl _ _ rfl rfl _ _ hap.out ?_)
          go_roundw
          case rel => exact ⟨j + 1, by omega, by go_num, HO2, HB3.out⟩
          case measure => simp [intOf]; omega
        · obtain rfl : j = i := by omega
          have HO2 := hO
          rw [HE.out] at HO2
          clear hO
          go_wp2_with fail
          go_ret
          exact ⟨_, rfl, HO2, hB2⟩
end atw
end Go.Proofs.YtckpiaigoeicfaaGreatDoor
/-! PartP -/
namespace Go.Proofs.YtckpiaigoeicfaaGreatDoor
open Go.RowKit
namespace atw
open atp tupw prw
set_option linter.unusedVariables false
set_option linter.unusedSimpArgs false
def gotP (syn : Int) (x : ByteArray) : List UInt8 := (pieceO syn x.data.toList).getD []
def allP (syn : Int) (L : List ByteArray) : Bool := L.all fun x => (pieceO syn x.data.toList).isSome
def partE (syn : Int) (value first last : ByteArray) (mids : List ByteArray) : Bool × Int :=
  if ¬ (syn = 1 ∨ syn = 2 ∨ syn = 7) then (false, 20) else if 8 < mids.length then (false, 20) else if (first :: (mids ++ [last])).any neB = false then (false, 20)
  else if (normL syn value.data.toList).2 ≠ 0 then (false, (normL syn value.data.toList).2)
  else if allP syn (first :: (mids ++ [last])) = false then (false, 19)
  else (partL (normL syn value.data.toList).1 (gotP syn first) (gotP syn last) (mids.map (gotP syn)), 0)
theorem gotP_len (syn : Int) (x : ByteArray) : (gotP syn x).length ≤ x.size := by
  unfold gotP
  cases h : pieceO syn x.data.toList with
  | none => simp
  | some o =>
    have := piece_len h
    rw [kt.size_len] at this
    exact this
theorem norm_len {syn : Int} {a : List UInt8} (h : syn = 1 ∨ syn = 2 ∨ syn = 7) : (normL syn a).1.length ≤ 1000 := by
  by_cases h7 : syn = 7
  · subst h7
    by_cases h1 : 1000 < a.length
    · rw [normL_long (by omega) h1]; simp
    by_cases h2 : a = []
    · rw [normL_nil (by omega) h2]; simp
    rw [normL_form (by omega) (by omega) h2]
    have he : formO 7 a = ne0 (prp.phoneO a) := rfl
    rw [he]
    cases hp : prp.phoneO a with
    | none => simp [ne0]
    | some o =>
      have := piece_len (syn := 7) (l := a) (o := o) hp
      unfold ne0
      by_cases ho : o = []
      · simp [ho]
      · simp only [ho, if_false]; omega
  · exact norm_text_len (by omega)
theorem below_dr {B : Nat} {a b : World} (h : Below B a b) (n : Nat) : Below B a (b.drewN n) := ⟨h.os, h.tape, h.output, h.size, h.block⟩
/-- a row of texts, its block by name -/
theorem own_open {w : World} {B : Nat} {v : Value} {l : List ByteArray} (h : OwnT w B v l) (hne : l ≠ []) : ∃ g cap, v = .slice (some ⟨g, 0, none⟩) l.length cap ∧ B ≤ g ∧ l.length ≤ cap ∧ OwnT w B (.slice (some ⟨g, 0, none⟩) l.length cap) l := by
  obtain ⟨ao, cap, rfl, hc, h1⟩ := ownT_cells h
  obtain ⟨g, rfl, hg, _⟩ := h1 hne
  refine ⟨g, cap, rfl, ?_, hc, h⟩
  have h' : w.ownsRow B 9 1 (.slice (some ⟨g, 0, none⟩) l.length cap) l.length (scells l) := by
    have := h
    unfold OwnT at this
    rw [scells_length] at this
    exact this
  obtain ⟨g', e, _, hB⟩ := kt.row_some h' (List.length_pos_iff.2 hne)
  injection e with e
  injection e with e
  omega
def OwnG (w : World) (B g k cap : Nat) (l : List ByteArray) : Prop := w.ownsRow B 9 1 (.slice (some ⟨g, 0, none⟩) k cap) k (scells l) ∧ l.length = k
theorem ownG_of {w : World} {B g cap : Nat} {l : List ByteArray} (h : OwnT w B (.slice (some ⟨g, 0, none⟩) l.length cap) l) : OwnG w B g l.length cap l := by
  unfold OwnT at h
  rw [scells_length] at h
  exact ⟨h, rfl⟩
theorem ownG_cell {w : World} {B g k cap : Nat} {l : List ByteArray} (h : OwnG w B g k cap l) (j : Nat) (hj : j < l.length) : w.cell? ⟨g, j, none⟩ = some (.string l[j]) := by
  obtain ⟨g', e, hc, _⟩ := kt.row_some h.1 (by rw [← h.2]; omega)
  injection e with e
  injection e with e
  subst e
  exact hc j _ (by simp [scells, hj])
theorem ownG_at {w : World} {B g k cap : Nat} {l : List ByteArray} (h : OwnG w B g k cap l) (j : Nat) {x : ByteArray} (hx : l[j]? = some x) : w.cell? ⟨g, j, none⟩ = some (.string x) := by
  obtain ⟨hj, rfl⟩ := List.getElem?_eq_some_iff.1 hx
  exact ownG_cell h j hj
theorem ownG_frozen {w : World} {B g k cap : Nat} {l : List ByteArray} (h : OwnG w B g k cap l) (j : Nat) : w.frozen? ⟨g, j, none⟩ = false := h.1.frozenAt j
theorem ownG_set {w : World} {B g k cap : Nat} {l : List ByteArray} (h : OwnG w B g k cap l) (j : Nat) (x : ByteArray) : OwnG (w.setCell ⟨g, j, none⟩ (.string x)) B g k cap (l.set j x) := by
  refine ⟨?_, by rw [List.length_set]; exact h.2⟩
  have := (h.1.stored j (.string x)).1
  have e : scells (l.set j x) = (scells l).set j (.string x) := by unfold scells; rw [List.map_set]
  rw [e]
  exact this
theorem ownG_below {w w' : World} {B g k cap : Nat} {l : List ByteArray} (h : OwnG w B g k cap l) (hb : Below w.heap.size w w') : OwnG w' B g k cap l := by
  refine ⟨?_, h.2⟩
  have := kt.row_below (w := w) (w' := w') h.1 hb
  exact this
/-- the row while i pieces are sought out -/
def mix (syn : Int) (L : List ByteArray) (i : Nat) : List ByteArray := (L.take i).map (fun x => bs (gotP syn x)) ++ L.drop i
theorem mix_zero (syn : Int) (L : List ByteArray) : mix syn L 0 = L := rfl
theorem mix_len (syn : Int) (L : List ByteArray) (i : Nat) : (mix syn L i).length = L.length := by
  unfold mix
  rw [List.length_append, List.length_map, List.length_take, List.length_drop]
  omega
theorem mix_at {syn : Int} {L : List ByteArray} {i : Nat} (h : i < L.length) (h' : i < (mix syn L i).length) : (mix syn L i)[i] = L[i] := by
  apply Option.some.inj
  rw [← List.getElem?_eq_getElem h', ← List.getElem?_eq_getElem h]
  unfold mix
  rw [List.getElem?_append_right (by rw [List.length_map, List.length_take]; omega), List.length_map, List.length_take, List.getElem?_drop]
  congr 1
  omega
theorem mix_step {syn : Int} {L : List ByteArray} {i : Nat} (h : i < L.length) : (mix syn L i).set i (bs (gotP syn L[i])) = mix syn L (i + 1) := by
  unfold mix
  rw [List.set_append_right _ _ (by rw [List.length_map, List.length_take]; omega), List.take_succ_eq_append_getElem h, List.map_append, List.append_assoc]
  congr 1
  rw [List.length_map, List.length_take, show i - min i L.length = 0 by omega, List.drop_eq_getElem_cons h]
  rfl
theorem mix_all (syn : Int) (L : List ByteArray) : mix syn L L.length = L.map (fun x => bs (gotP syn x)) := by
  unfold mix
  rw [List.take_length, List.drop_length, List.append_nil]
theorem allP_step {syn : Int} {L : List ByteArray} {i : Nat} (h : i < L.length) : allP syn (L.take (i + 1)) = (allP syn (L.take i) && (pieceO syn L[i].data.toList).isSome) := by
  unfold allP
  rw [List.take_succ_eq_append_getElem h, List.all_append]
  simp
theorem allP_no {syn : Int} {L : List ByteArray} {i : Nat} (h : i < L.length) (hn : pieceO syn L[i].data.toList = none) : allP syn L = false := by
  unfold allP
  rw [List.all_eq_false]
  exact ⟨L[i], List.getElem_mem _, by rw [hn]; simp⟩
theorem allP_all {syn : Int} {L : List ByteArray} (h : allP syn (L.take L.length) = true) : allP syn L = true := by rwa [List.take_length] at h
/-- what is left to be found -/
theorem cut_yes {s p : List UInt8} {r : List (List UInt8)} : greedy (p :: r) s = ((Lib.cut s p).2.2 && greedy r (Lib.cut s p).2.1) := by
  show (if Lib.index s p < 0 then false else greedy r (s.drop ((Lib.index s p).toNat + p.length))) = _
  unfold Lib.cut
  by_cases h : Lib.index s p < 0
  · rw [if_pos h, if_neg (by omega)]; rfl
  · rw [if_neg h, if_pos (by omega)]; rfl
theorem cut_len (s p : List UInt8) : (Lib.cut s p).2.1.length ≤ s.length := by
  unfold Lib.cut
  split
  · rw [List.length_drop]; omega
  · simp
theorem partL_no {s a z : List UInt8} {m : List (List UInt8)} (h : Lib.hasPrefix s a = false) : partL s a z m = false := by
  unfold partL
  unfold Lib.hasPrefix at h
  rw [h]; rfl
theorem partL_cut {s a z : List UInt8} {m : List (List UInt8)} (h : Lib.hasPrefix s a = true) : partL s a z m = (Lib.hasSuffix (Lib.trimPrefix s a) z && greedy m (Lib.trimSuffix (Lib.trimPrefix s a) z)) := by
  have e : Lib.trimPrefix s a = s.drop a.length := by unfold Lib.trimPrefix; rw [if_pos h]
  rw [e]
  unfold partL
  unfold Lib.hasPrefix at h
  rw [h, Bool.true_and]
  unfold Lib.trimSuffix Lib.hasSuffix
  cases hz : z.isSuffixOf (s.drop a.length) with
  | true => simp
  | false => simp
theorem trim_len (s a z : List UInt8) : (Lib.trimSuffix (Lib.trimPrefix s a) z).length ≤ s.length := by
  have h1 : (Lib.trimPrefix s a).length ≤ s.length := by
    unfold Lib.trimPrefix; split
    · rw [List.length_drop]; omega
    · omega
  refine Nat.le_trans ?_ h1
  unfold Lib.trimSuffix; split
  · rw [List.length_take]; omega
  · omega
end atw
end Go.Proofs.YtckpiaigoeicfaaGreatDoor
