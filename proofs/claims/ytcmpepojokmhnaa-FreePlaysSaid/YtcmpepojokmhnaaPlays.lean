/- The walk of the statement FreePlays. -/
import Derived.Test.YtcmpepojokmhnaaTwo
import Derived.Test.YtcmpepojokmhnaaRDec
import Derived.Deep.QuietTactic
import Derived.BigQuiet
namespace Go.Proofs.Ytcmpepojokmhnaa
open Go.RowKit
namespace fre
set_option linter.unusedVariables false
set_option linter.unusedSimpArgs false
set_option maxRecDepth 20000 in
set_option maxHeartbeats 8000000 in
theorem plays_any (ao : Option Addr) (cap : Nat) (l : List Act) (w : World) (hl : Hid (Acts w ao l)) (hn : l.length ≤ 9223372036854775807) :
    Calls Try.prog 5 #[.slice ao l.length cap] w fun e w' => e = .returned (.bool true) ∧ Below w.heap.size w w' := by
  have A := Lib.hid awake_true
  have N := Lib.hid new_any
  go_enter Try.func5, Try.ntmps5
  go_wp2_with fail
  refine (A.out _).mono ?_
  rintro e w1 ⟨rfl, hB1⟩
  go_wp2_with fail
  refine (N.out _).mono ?_
  rintro e w2 ⟨rfl, rfl⟩
  have hO := own_new w1
  have hz2 : w1.heap.size < (w1.alloc (.cells (lcells (.slice none 0 0) fun _ => false) 55)).heap.size := by rw [size1]; omega
  generalize w1.alloc (.cells (lcells (.slice none 0 0) fun _ => false) 55) = w2 at hO hz2 ⊢
  have HT0 := Lib.hid (two_new hO hz2)
  have HB1 := Lib.hid hB1
  clear hO hz2 hB1
  go_wp2_with fail
  go_loopw [3, 5] (fun xv iv wr => ∃ (i p : Nat) (v s : Value) (l2 m : List Fre), i ≤ l.length ∧ i ≤ 80 ∧ xv = .pointer (some ⟨p, 0, none⟩) ∧ iv = .int .i64 i ∧ Hid (l2.length ≤ i) ∧ Hid (m.Perm l2) ∧ Hid (Two w1 wr w1.heap.size p v l2 w2.heap.size s m)) (fun _ iv _ => 80 - (intOf iv).toNat)
  case atStart => exact ⟨0, w1.heap.size, _, _, [], [], Nat.zero_le _, Nat.zero_le _, rfl, rfl, Nat.le_refl _, List.Perm.refl _, HT0.out⟩
  case round =>
    obtain ⟨i, p, v, s, l2, m, hi, hi80, rfl, rfl, hlen, hP, hT⟩ := hrel
    by_cases hil : i < l.length
    · by_cases h80 : i < 80
      · have hil3 : (i : Int) < (l.length : Int) := by omega
        have h803 : (i : Int) < 80 := by omega
        have hi0 : (0 : Int) ≤ (i : Int) := by omega
        obtain ⟨c, hc⟩ : ∃ c : Act, Hid (c = l[i]'hil) := ⟨l[i]'hil, rfl⟩
        obtain ⟨b, o, hao, f0, f1, f2, f3⟩ := (acts_below (acts_below hl.out HB1.out) hT.out.1.2.2.1) i hil
        rw [← hc.out] at f0 f1 f2 f3
        subst hao
        have HAC : Hid (∀ wx, Below w1.heap.size w1 wx → wx.cell? ⟨b, o + i * 4, none⟩ = some (.int .i64 c.kind) ∧ wx.cell? ⟨b, o + i * 4 + 1, none⟩ = some (.int .i64 c.f.txn) ∧ wx.cell? ⟨b, o + i * 4 + 1 + 1, none⟩ = some (.int .i64 c.f.page) ∧ wx.cell? ⟨b, o + i * 4 + 3, none⟩ = some (.int .i64 c.n)) := by
          intro wx hb
          obtain ⟨b', o', e', r⟩ := (acts_below (acts_below hl.out HB1.out) hb) i hil
          cases e'
          rw [← hc.out] at r
          exact r
        have hml : m.length ≤ 80 := by have := hP.out.length_eq; have := hlen.out; omega
        have hll : l2.length ≤ 80 := by have := hlen.out; omega
        by_cases hk : c.kind = 1
        · have hk' : (c.kind == 1) = true := by simpa using hk
          obtain ⟨hz, hp3⟩ := add_law c.f hP.out
          have AD := fun (w : World) (h : Two w1 w w1.heap.size p v l2 w2.heap.size s m) => two_add h c.f (by omega)
          have RD := fun (w : World) (v : Value) (l : List Fre) (h : Two w1 w w1.heap.size p v l w2.heap.size s m) => two_radd h c.f (by omega)
          unfold Fre.v at AD RD
          have hal := addP_len l2 c.f
          rw [hz] at RD
          clear hz
          generalize addP l2 c.f = ad at AD RD hal hp3
          generalize raddP m c.f = rd at RD hp3
          obtain ⟨l3, z⟩ := ad
          obtain ⟨m3, z3⟩ := rd
          dsimp only at AD RD hal hp3
          have HAL : Hid (l3.length ≤ i + 1) := by have := hlen.out; show _ ≤ _; omega
          have HP3 := Lib.hid hp3
          have ADH := Lib.hid AD
          have RDH := Lib.hid RD
          clear hal hk hp3 AD RD
          go_wp2_with fail
          refine wp_region_held_drew (S := fun W => W.cell? ⟨b, o + i * 4 + 1, none⟩ = some (.int .i64 c.f.txn) ∧ W.cell? ⟨b, o + i * 4 + 1 + 1, none⟩ = some (.int .i64 c.f.page)) (by kernel_rfl) (⟨f1, f2⟩) (fun hHeld => ?_)
          refine wpAnyH_take (i := 0) (oi := ⟨some 33, _, _, _, _, _⟩) (v := ?_) rfl (by kernel_rfl) (by kernel_rfl) (by kernel_rfl) (fun _ _ _ h => h) (Or.inl ⟨by rfl, ?_⟩) (by assumption) ?_
          rotate_left 1
          · intro w hSw; (try dsimp only at hSw); go_simp; all_goals with_reducible rfl
          try simp only [Act.put, List.setIfInBounds_toArray, List.set_cons_zero, List.set_cons_succ]
          refine wpAnyH_take (i := 1) (oi := ⟨some 34, _, _, _, _, _⟩) (v := ?_) rfl (by kernel_rfl) (by kernel_rfl) (by kernel_rfl) (fun _ _ _ h => h) (Or.inl ⟨by rfl, ?_⟩) (by assumption) ?_
          rotate_left 1
          · intro w hSw; (try dsimp only at hSw); go_simp; all_goals with_reducible rfl
          try simp only [Act.put, List.setIfInBounds_toArray, List.set_cons_zero, List.set_cons_succ]
          refine wpAnyH_take (i := 2) (oi := ⟨some 35, _, _, _, _, _⟩) (v := ?_) rfl (by kernel_rfl) (by kernel_rfl) (by kernel_rfl) (fun _ _ _ h => h) (Or.inl ⟨by rfl, ?_⟩) (by assumption) ?_
          rotate_left 1
          · intro w hSw; (try dsimp only at hSw); go_simp; all_goals with_reducible rfl
          try simp only [Act.put, List.setIfInBounds_toArray, List.set_cons_zero, List.set_cons_succ]
          refine wpAnyH_take (i := 3) (oi := ⟨some 36, _, _, _, _, _⟩) (v := ?_) rfl (by kernel_rfl) (by kernel_rfl) (by kernel_rfl) (fun _ _ _ h => h) (Or.inl ⟨by rfl, ?_⟩) (by assumption) ?_
          rotate_left 1
          · intro w hSw; (try dsimp only at hSw); go_simp; all_goals with_reducible rfl
          try simp only [Act.put, List.setIfInBounds_toArray, List.set_cons_zero, List.set_cons_succ]
          refine wpAnyH_take (i := 4) (oi := ⟨some 37, _, _, _, _, _⟩) (v := ?_) rfl (by kernel_rfl) (by kernel_rfl) (by kernel_rfl) (fun _ _ _ h => h) (Or.inl ⟨by rfl, ?_⟩) (by assumption) ?_
          rotate_left 1
          · intro w hSw; (try dsimp only at hSw); go_simp; all_goals with_reducible rfl
          try simp only [Act.put, List.setIfInBounds_toArray, List.set_cons_zero, List.set_cons_succ]
          refine wpAnyH_take (i := 5) (oi := ⟨some 38, _, _, _, _, _⟩) (v := ?_) rfl (by kernel_rfl) (by kernel_rfl) (by kernel_rfl) (fun _ _ _ h => h) (Or.inl ⟨by rfl, ?_⟩) (by assumption) ?_
          rotate_left 1
          · intro w hSw; (try dsimp only at hSw); go_simp; all_goals with_reducible rfl
          try simp only [Act.put, List.setIfInBounds_toArray, List.set_cons_zero, List.set_cons_succ]
          refine wpAnyH_take (i := 7) (oi := ⟨some 40, _, _, _, _, _⟩) (v := ?_) rfl (by kernel_rfl) (by kernel_rfl) (by kernel_rfl) (fun _ _ _ h => h) (Or.inl ⟨by rfl, ?_⟩) (by assumption) ?_
          rotate_left 1
          · intro w hSw; (try dsimp only at hSw); go_simp; all_goals with_reducible rfl
          try simp only [Act.put, List.setIfInBounds_toArray, List.set_cons_zero, List.set_cons_succ]
          refine wpAnyH_take (i := 8) (oi := ⟨some 41, _, _, _, _, _⟩) (v := ?_) rfl (by kernel_rfl) (by kernel_rfl) (by kernel_rfl) (fun _ _ _ h => h) (Or.inl ⟨by rfl, ?_⟩) (by assumption) ?_
          rotate_left 1
          · intro w hSw; (try dsimp only at hSw); go_simp; all_goals with_reducible rfl
          try simp only [Act.put, List.setIfInBounds_toArray, List.set_cons_zero, List.set_cons_succ]
          refine wpAnyH_take (i := 9) (oi := ⟨some 42, _, _, _, _, _⟩) (v := ?_) rfl (by kernel_rfl) (by kernel_rfl) (by kernel_rfl) (fun _ _ _ h => h) (Or.inl ⟨by rfl, ?_⟩) (by assumption) ?_
          rotate_left 1
          · intro w hSw; (try dsimp only at hSw); go_simp; all_goals with_reducible rfl
          try simp only [Act.put, List.setIfInBounds_toArray, List.set_cons_zero, List.set_cons_succ]
          refine wpAnyH_take (i := 10) (oi := ⟨some 43, _, _, _, _, _⟩) (v := ?_) rfl (by kernel_rfl) (by kernel_rfl) (by kernel_rfl) (fun _ _ _ h => h) (Or.inl ⟨by rfl, ?_⟩) (by assumption) ?_
          rotate_left 1
          · intro w hSw; (try dsimp only at hSw); go_simp; all_goals with_reducible rfl
          try simp only [Act.put, List.setIfInBounds_toArray, List.set_cons_zero, List.set_cons_succ]
          refine wpAnyH_take (i := 11) (oi := ⟨some 44, _, _, _, _, _⟩) (v := ?_) rfl (by kernel_rfl) (by kernel_rfl) (by kernel_rfl) (fun _ _ _ h => h) (Or.inl ⟨by rfl, ?_⟩) (by assumption) ?_
          rotate_left 1
          · intro w hSw; (try dsimp only at hSw); go_simp; all_goals with_reducible rfl
          try simp only [Act.put, List.setIfInBounds_toArray, List.set_cons_zero, List.set_cons_succ]
          refine wpAnyH_take (i := 12) (oi := ⟨some 45, _, _, _, _, _⟩) (v := ?_) rfl (by kernel_rfl) (by kernel_rfl) (by kernel_rfl) (fun _ _ _ h => h) (Or.inl ⟨by rfl, ?_⟩) (by assumption) ?_
          rotate_left 1
          · intro w hSw; (try dsimp only at hSw); go_simp; all_goals with_reducible rfl
          try simp only [Act.put, List.setIfInBounds_toArray, List.set_cons_zero, List.set_cons_succ]
          refine wpAnyH_ready (rs := [6]) (by kernel_rfl) (by simp) ?_
          refine AllReadyH.cons (o := ⟨some 39, _, _, _, _, _⟩) rfl (fun K hK => ?_) AllReadyH.nil
          go_simp
          go_at_call 11; refine (ADH.out _ (two_below hT.out (Below.refl _ _).drew)).mono ?_; rintro e w4 ⟨rfl, v4, HT4⟩
          refine hK.out _ _ (⟨(HAC.out _ HT4.out.1.2.2.1).2.1, (HAC.out _ HT4.out.1.2.2.1).2.2.1⟩) (fun hHeld => ?_)
          clear hK
          try simp only [Act.put, List.setIfInBounds_toArray, List.set_cons_zero, List.set_cons_succ]
          refine wpAnyH_ready (rs := [13]) (by kernel_rfl) (by simp) ?_
          refine AllReadyH.cons (o := ⟨some 46, _, _, _, _, _⟩) rfl (fun K hK => ?_) AllReadyH.nil
          go_simp
          go_at_call 15; refine (RDH.out _ _ _ HT4.out).mono ?_; rintro e w5 ⟨rfl, s4, HT5⟩
          refine hK.out _ _ (⟨(HAC.out _ HT5.out.1.2.2.1).2.1, (HAC.out _ HT5.out.1.2.2.1).2.2.1⟩) (fun hHeld => ?_)
          clear hK
          try simp only [Act.put, List.setIfInBounds_toArray, List.set_cons_zero, List.set_cons_succ]
          refine wpAnyH_take (i := 14) (oi := ⟨some 47, _, _, _, _, _⟩) (v := ?_) rfl (by kernel_rfl) (by kernel_rfl) (by kernel_rfl) (fun _ _ _ h => h) (Or.inl ⟨by rfl, ?_⟩) (by assumption) ?_
          rotate_left 1
          · intro w hSw; (try dsimp only at hSw); go_simp; all_goals with_reducible rfl
          try simp only [Act.put, List.setIfInBounds_toArray, List.set_cons_zero, List.set_cons_succ]
          refine wpAnyH_done (by kernel_rfl) ?_ _
          obtain ⟨y0, y1, y2, y3⟩ := HAC.out _ HT5.out.1.2.2.1
          have zc : (w5).cell? ⟨w2.heap.size, 0, none⟩ = some s4 := ref_cell HT5.out.2.1
          obtain ⟨ao5, cap5, hs5, _, _⟩ := seg_fres HT5.out.2.1.2.2.1
          have hml3 : (m3).length ≤ 900000 := by have := HP3.out.length_eq; have := HAL.out; omega
          have Q5 := two_count HT5.out HP3.out
          obtain ⟨n5, hn5⟩ : ∃ n5 : Nat, Hid ((m3).length = n5) := ⟨_, rfl⟩
          rw [hn5.out] at hs5 Q5
          rw [hs5] at zc
          have Q1 := two_has HT5.out HP3.out c.n
          have Q2 := two_rhas HT5.out hml3 c.n
          have Q3 := two_has HT5.out HP3.out c.f.page
          have Q4 := two_rhas HT5.out hml3 c.f.page
          generalize hasP m3 c.n = b1 at Q1 Q2
          generalize hasP m3 c.f.page = b2 at Q3 Q4
          have Q1 := Lib.hid Q1
          have Q2 := Lib.hid Q2
          have Q3 := Lib.hid Q3
          have Q4 := Lib.hid Q4
          have Q5 := Lib.hid Q5
          clear hs5 hml3
          go_wp2_with fail
          go_quiet ((first | (go_at_call_of 18 (Value.int IntKind.i64 c.n); exact Calls.quiet_of_same (Q1.out _)) | (go_at_call_of 18 (Value.int IntKind.i64 c.f.page); exact Calls.quiet_of_same (Q3.out _)) | (go_at_call_of 19 (Value.int IntKind.i64 c.n); exact Calls.quiet_of_same (Q2.out _)) | (go_at_call_of 19 (Value.int IntKind.i64 c.f.page); exact Calls.quiet_of_same (Q4.out _)) | (go_at_call 20; exact Calls.quiet_of_same (Q5.out _))))
          go_wp2_with fail
          go_roundw
          case rel => exact ⟨i + 1, p, v4, s4, l3, m3, by omega, by omega, rfl, by go_num, HAL, HP3, two_below HT5.out (below_drewR _ nq)⟩
          case measure => simp [intOf]; omega
        · have hk' : (c.kind == 1) = false := by simpa using hk
          clear hk
          by_cases hk2 : c.kind = 2
          · have hk2' : (c.kind == 2) = true := by simpa using hk2
            have TK := two_take hT.out c.n
            have RT := fun (w : World) (v : Value) (l : List Fre) (h : Two w1 w w1.heap.size p v l w2.heap.size s m) => two_rtake h c.n (by omega) hT.out.1.2.1 hP.out
            have htl := takeP_len l2 c.n
            generalize takeP l2 c.n = tk at TK RT htl
            obtain ⟨l3, pg, ok⟩ := tk
            dsimp only at TK RT htl
            have HTL : Hid (l3.length ≤ i + 1) := by have := hlen.out; show _ ≤ _; omega
            have TKH := Lib.hid TK
            have RTH := Lib.hid RT
            clear htl hk2 TK RT
            go_wp2_with fail
            refine TKH.out.mono ?_
            rintro e w4 ⟨rfl, v4, HT4⟩
            obtain ⟨g0, g1, g2, g3⟩ := HAC.out _ HT4.out.1.2.2.1
            go_wp2_with fail
            refine (RTH.out _ _ _ HT4.out).mono ?_
            rintro e w5 ⟨rfl, s4, m3, HT5, HP3⟩
            clear g0 g1 g2 g3 f0 f1 f2 f3
            obtain ⟨y0, y1, y2, y3⟩ := HAC.out _ HT5.out.1.2.2.1
            have zc : (w5).cell? ⟨w2.heap.size, 0, none⟩ = some s4 := ref_cell HT5.out.2.1
            obtain ⟨ao5, cap5, hs5, _, _⟩ := seg_fres HT5.out.2.1.2.2.1
            have hml3 : (m3).length ≤ 900000 := by have := HP3.out.length_eq; have := HTL.out; omega
            have Q5 := two_count HT5.out HP3.out
            obtain ⟨n5, hn5⟩ : ∃ n5 : Nat, Hid ((m3).length = n5) := ⟨_, rfl⟩
            rw [hn5.out] at hs5 Q5
            rw [hs5] at zc
            have Q1 := two_has HT5.out HP3.out c.n
            have Q2 := two_rhas HT5.out hml3 c.n
            have Q3 := two_has HT5.out HP3.out c.f.page
            have Q4 := two_rhas HT5.out hml3 c.f.page
            generalize hasP m3 c.n = b1 at Q1 Q2
            generalize hasP m3 c.f.page = b2 at Q3 Q4
            have Q1 := Lib.hid Q1
            have Q2 := Lib.hid Q2
            have Q3 := Lib.hid Q3
            have Q4 := Lib.hid Q4
            have Q5 := Lib.hid Q5
            clear hs5 hml3
            go_wp2_with fail
            go_quiet ((first | (go_at_call_of 18 (Value.int IntKind.i64 c.n); exact Calls.quiet_of_same (Q1.out _)) | (go_at_call_of 18 (Value.int IntKind.i64 c.f.page); exact Calls.quiet_of_same (Q3.out _)) | (go_at_call_of 19 (Value.int IntKind.i64 c.n); exact Calls.quiet_of_same (Q2.out _)) | (go_at_call_of 19 (Value.int IntKind.i64 c.f.page); exact Calls.quiet_of_same (Q4.out _)) | (go_at_call 20; exact Calls.quiet_of_same (Q5.out _))))
            go_wp2_with fail
            go_roundw
            case rel => exact ⟨i + 1, p, v4, s4, l3, m3, by omega, by omega, rfl, by go_num, HTL, HP3, two_below HT5.out (below_drewR _ nq)⟩
            case measure => simp [intOf]; omega
          · have hk2' : (c.kind == 2) = false := by simpa using hk2
            clear hk2
            by_cases hk3 : c.kind = 3
            · have hk3' : (c.kind == 3) = true := by simpa using hk3
              have CP := Lib.hid (copy_any wr (Lib.hid hT.out.1.1) (by omega))
              have HLN : Hid (l2.length ≤ i + 1) := by have := hlen.out; show _ ≤ _; omega
              clear hk3
              go_wp2_with fail
              refine CP.out.mono ?_
              rintro e w4 ⟨⟨p4, v4, rfl, hL4⟩, hB4⟩
              have OT := Lib.hid (two_copy hT.out hL4 hB4 1099511627776)
              clear hL4
              go_wp2_with fail
              refine OT.out.mono ?_
              rintro e w5 ⟨⟨x5, y5, rfl⟩, HT5⟩
              obtain ⟨y0, y1, y2, y3⟩ := HAC.out _ HT5.out.1.2.2.1
              have zc : (w5).cell? ⟨w2.heap.size, 0, none⟩ = some s := ref_cell HT5.out.2.1
              obtain ⟨ao5, cap5, hs5, _, _⟩ := seg_fres HT5.out.2.1.2.2.1
              have hml3 : (m).length ≤ 900000 := by have := hP.out.length_eq; have := HLN.out; omega
              have Q5 := two_count HT5.out hP.out
              obtain ⟨n5, hn5⟩ : ∃ n5 : Nat, Hid ((m).length = n5) := ⟨_, rfl⟩
              rw [hn5.out] at hs5 Q5
              rw [hs5] at zc
              have Q1 := two_has HT5.out hP.out c.n
              have Q2 := two_rhas HT5.out hml3 c.n
              have Q3 := two_has HT5.out hP.out c.f.page
              have Q4 := two_rhas HT5.out hml3 c.f.page
              generalize hasP m c.n = b1 at Q1 Q2
              generalize hasP m c.f.page = b2 at Q3 Q4
              have Q1 := Lib.hid Q1
              have Q2 := Lib.hid Q2
              have Q3 := Lib.hid Q3
              have Q4 := Lib.hid Q4
              have Q5 := Lib.hid Q5
              clear hs5 hml3
              go_wp2_with fail
              go_quiet ((first | (go_at_call_of 18 (Value.int IntKind.i64 c.n); exact Calls.quiet_of_same (Q1.out _)) | (go_at_call_of 18 (Value.int IntKind.i64 c.f.page); exact Calls.quiet_of_same (Q3.out _)) | (go_at_call_of 19 (Value.int IntKind.i64 c.n); exact Calls.quiet_of_same (Q2.out _)) | (go_at_call_of 19 (Value.int IntKind.i64 c.f.page); exact Calls.quiet_of_same (Q4.out _)) | (go_at_call 20; exact Calls.quiet_of_same (Q5.out _))))
              go_wp2_with fail
              go_roundw
              case rel => exact ⟨i + 1, p4, v4, s, l2, m, by omega, by omega, rfl, by go_num, HLN, hP, two_below HT5.out (below_drewR _ nq)⟩
              case measure => simp [intOf]; omega
            · have hk3' : (c.kind == 3) = false := by simpa using hk3
              have HLN : Hid (l2.length ≤ i + 1) := by have := hlen.out; show _ ≤ _; omega
              clear hk3
              obtain ⟨y0, y1, y2, y3⟩ := HAC.out _ hT.out.1.2.2.1
              have zc : (wr).cell? ⟨w2.heap.size, 0, none⟩ = some s := ref_cell hT.out.2.1
              obtain ⟨ao5, cap5, hs5, _, _⟩ := seg_fres hT.out.2.1.2.2.1
              have hml3 : (m).length ≤ 900000 := by have := hP.out.length_eq; have := HLN.out; omega
              have Q5 := two_count hT.out hP.out
              obtain ⟨n5, hn5⟩ : ∃ n5 : Nat, Hid ((m).length = n5) := ⟨_, rfl⟩
              rw [hn5.out] at hs5 Q5
              rw [hs5] at zc
              have Q1 := two_has hT.out hP.out c.n
              have Q2 := two_rhas hT.out hml3 c.n
              have Q3 := two_has hT.out hP.out c.f.page
              have Q4 := two_rhas hT.out hml3 c.f.page
              generalize hasP m c.n = b1 at Q1 Q2
              generalize hasP m c.f.page = b2 at Q3 Q4
              have Q1 := Lib.hid Q1
              have Q2 := Lib.hid Q2
              have Q3 := Lib.hid Q3
              have Q4 := Lib.hid Q4
              have Q5 := Lib.hid Q5
              clear hs5 hml3
              go_wp2_with fail
              go_quiet ((first | (go_at_call_of 18 (Value.int IntKind.i64 c.n); exact Calls.quiet_of_same (Q1.out _)) | (go_at_call_of 18 (Value.int IntKind.i64 c.f.page); exact Calls.quiet_of_same (Q3.out _)) | (go_at_call_of 19 (Value.int IntKind.i64 c.n); exact Calls.quiet_of_same (Q2.out _)) | (go_at_call_of 19 (Value.int IntKind.i64 c.f.page); exact Calls.quiet_of_same (Q4.out _)) | (go_at_call 20; exact Calls.quiet_of_same (Q5.out _))))
              go_wp2_with fail
              go_roundw
              case rel => exact ⟨i + 1, p, v, s, l2, m, by omega, by omega, rfl, by go_num, HLN, hP, two_below hT.out (below_drewR _ nq)⟩
              case measure => simp [intOf]; omega
      · obtain rfl : i = 80 := by omega
        have hil3 : ((80 : Nat) : Int) < (l.length : Int) := by omega
        have hil4 : (80 : Int) < (l.length : Int) := by omega
        have zc : wr.cell? ⟨w2.heap.size, 0, none⟩ = some s := ref_cell hT.out.2.1
        obtain ⟨ao5, cap5, hs5, _, hF5⟩ := seg_fres hT.out.2.1.2.2.1
        rw [hs5] at zc
        have hlq : w2.heap.size < wr.heap.size := kt.bld_lt hT.out.2.1.2.1
        have hml : m.length ≤ 900000 := by have := hP.out.length_eq; have := hlen.out; omega
        have AL := Lib.hid (fun (w : World) (hb : Below wr.heap.size wr w) => all_any w (Lib.hid (isList_below hT.out.1.1 hb)) (by have := hlen.out; omega))
        have SR := Lib.hid (fun (w : World) (hb : Below wr.heap.size wr w) => rsorted_any ao5 cap5 m w (Lib.hid (fres_below hF5 hb)) hml (Lib.hid (hP.out.nodup_iff.2 (okL_nodup hT.out.1.2.1))))
        clear hs5 hF5
        go_wp2_with fail
        refine wp_region_held_drew (S := fun W => W.cell? ⟨w2.heap.size, 0, none⟩ = some (.slice ao5 m.length cap5)) (by kernel_rfl) (zc) (fun hHeld => ?_)
        refine wpAnyH_take (i := 0) (oi := ⟨some 129, _, _, _, _, _⟩) (v := ?_) rfl (by kernel_rfl) (by kernel_rfl) (by kernel_rfl) (fun _ _ _ h => h) (Or.inl ⟨by rfl, ?_⟩) (by assumption) ?_
        rotate_left 1
        · intro w hSw; (try dsimp only at hSw); go_simp; all_goals with_reducible rfl
        try simp only [Act.put, List.setIfInBounds_toArray, List.set_cons_zero, List.set_cons_succ]
        refine wpAnyH_take (i := 2) (oi := ⟨some 131, _, _, _, _, _⟩) (v := ?_) rfl (by kernel_rfl) (by kernel_rfl) (by kernel_rfl) (fun _ _ _ h => h) (Or.inl ⟨by rfl, ?_⟩) (by assumption) ?_
        rotate_left 1
        · intro w hSw; (try dsimp only at hSw); go_simp; all_goals with_reducible rfl
        try simp only [Act.put, List.setIfInBounds_toArray, List.set_cons_zero, List.set_cons_succ]
        refine wpAnyH_take (i := 3) (oi := ⟨some 132, _, _, _, _, _⟩) (v := ?_) rfl (by kernel_rfl) (by kernel_rfl) (by kernel_rfl) (fun _ _ _ h => h) (Or.inl ⟨by rfl, ?_⟩) (by assumption) ?_
        rotate_left 1
        · intro w hSw; (try dsimp only at hSw); go_simp; all_goals with_reducible rfl
        try simp only [Act.put, List.setIfInBounds_toArray, List.set_cons_zero, List.set_cons_succ]
        refine wpAnyH_take (i := 4) (oi := ⟨some 133, _, _, _, _, _⟩) (v := ?_) rfl (by kernel_rfl) (by kernel_rfl) (by kernel_rfl) (fun _ _ _ h => h) (Or.inl ⟨by rfl, ?_⟩) (by assumption) ?_
        rotate_left 1
        · intro w hSw; (try dsimp only at hSw); go_simp; all_goals with_reducible rfl
        try simp only [Act.put, List.setIfInBounds_toArray, List.set_cons_zero, List.set_cons_succ]
        refine wpAnyH_take (i := 5) (oi := ⟨some 134, _, _, _, _, _⟩) (v := ?_) rfl (by kernel_rfl) (by kernel_rfl) (by kernel_rfl) (fun _ _ _ h => h) (Or.inl ⟨by rfl, ?_⟩) (by assumption) ?_
        rotate_left 1
        · intro w hSw; (try dsimp only at hSw); go_simp; all_goals with_reducible rfl
        try simp only [Act.put, List.setIfInBounds_toArray, List.set_cons_zero, List.set_cons_succ]
        refine wpAnyH_ready (rs := [1]) (by kernel_rfl) (by simp) ?_
        refine AllReadyH.cons (o := ⟨some 130, _, _, _, _, _⟩) rfl (fun K hK => ?_) AllReadyH.nil
        go_simp
        go_at_call 22; refine (AL.out _ (Below.refl _ _).drew).mono ?_; rintro e w4 ⟨⟨v4, rfl, hO4⟩, hB4⟩; obtain ⟨ao4, cap4, hv4, hF4⟩ := ownF_slice hO4; subst hv4; have HF4 := Lib.hid hF4; have HB4 : Hid (Below wr.heap.size wr w4) := (Below.refl _ _).drew.trans hB4; clear hO4 hF4 hB4
        refine hK.out _ _ ((HB4.out.cell (p := ⟨w2.heap.size, 0, none⟩) hlq).trans zc) (fun hHeld => ?_)
        clear hK
        try simp only [Act.put, List.setIfInBounds_toArray, List.set_cons_zero, List.set_cons_succ]
        refine wpAnyH_ready (rs := [6]) (by kernel_rfl) (by simp) ?_
        refine AllReadyH.cons (o := ⟨some 135, _, _, _, _, _⟩) rfl (fun K hK => ?_) AllReadyH.nil
        go_simp
        go_at_call 23; refine (SR.out _ HB4.out).mono ?_; rintro e w5 ⟨⟨ao6, cap6, sl, rfl, hF6, hAS, hPS⟩, hB5⟩; have HF6 := Lib.hid hF6; have HAS := Lib.hid hAS; have HPS := Lib.hid hPS; have HF5 := Lib.hid (fres_below HF4.out hB5); have HB5 : Hid (Below wr.heap.size wr w5) := HB4.out.trans (hB5.mono HB4.out.size); have SM := Lib.hid (same_any ao4 ao6 cap4 cap6 l2 sl w5 HF5 HF6 (by have := hPS.length_eq; omega)); clear hF6 hAS hPS hB5
        refine hK.out _ _ ((HB5.out.cell (p := ⟨w2.heap.size, 0, none⟩) hlq).trans zc) (fun hHeld => ?_)
        clear hK
        try simp only [Act.put, List.setIfInBounds_toArray, List.set_cons_zero, List.set_cons_succ]
        refine wpAnyH_ready (rs := [7]) (by kernel_rfl) (by simp) ?_
        refine AllReadyH.cons (o := ⟨some 136, _, _, _, _, _⟩) rfl (fun K hK => ?_) AllReadyH.nil
        go_simp
        go_at_call 21; refine SM.out.mono ?_; rintro e w6 ⟨rfl, hB6⟩; have HB6 : Hid (Below wr.heap.size wr w6) := HB5.out.trans (hB6.mono HB5.out.size); clear hB6
        refine hK.out _ _ ((HB6.out.cell (p := ⟨w2.heap.size, 0, none⟩) hlq).trans zc) (fun hHeld => ?_)
        clear hK
        try simp only [Act.put, List.setIfInBounds_toArray, List.set_cons_zero, List.set_cons_succ]
        refine wpAnyH_take (i := 8) (oi := ⟨some 2, _, _, _, _, _⟩) (v := ?_) rfl (by kernel_rfl) (by kernel_rfl) (by kernel_rfl) (fun _ _ _ h => h) (Or.inl ⟨by rfl, ?_⟩) (by assumption) ?_
        rotate_left 1
        · intro w hSw; (try dsimp only at hSw); go_simp; all_goals with_reducible rfl
        try simp only [Act.put, List.setIfInBounds_toArray, List.set_cons_zero, List.set_cons_succ]
        refine wpAnyH_done (by kernel_rfl) ?_ _
        go_wp2_with fail
        go_ret
        exact ⟨by rw [sort_law HPS.out hP.out HAS.out hT.out.1.2.1]; simp, HB1.out.trans ((hT.out.1.2.2.1.trans (HB6.out.mono hT.out.1.2.2.2)).mono HB1.out.size)⟩
    · obtain rfl : i = l.length := by omega
      have hil3 : ¬ (l.length : Int) < (l.length : Int) := by omega
      have zc : wr.cell? ⟨w2.heap.size, 0, none⟩ = some s := ref_cell hT.out.2.1
      obtain ⟨ao5, cap5, hs5, _, hF5⟩ := seg_fres hT.out.2.1.2.2.1
      rw [hs5] at zc
      have hlq : w2.heap.size < wr.heap.size := kt.bld_lt hT.out.2.1.2.1
      have hml : m.length ≤ 900000 := by have := hP.out.length_eq; have := hlen.out; omega
      have AL := Lib.hid (fun (w : World) (hb : Below wr.heap.size wr w) => all_any w (Lib.hid (isList_below hT.out.1.1 hb)) (by have := hlen.out; omega))
      have SR := Lib.hid (fun (w : World) (hb : Below wr.heap.size wr w) => rsorted_any ao5 cap5 m w (Lib.hid (fres_below hF5 hb)) hml (Lib.hid (hP.out.nodup_iff.2 (okL_nodup hT.out.1.2.1))))
      clear hs5 hF5
      go_wp2_with fail
      refine wp_region_held_drew (S := fun W => W.cell? ⟨w2.heap.size, 0, none⟩ = some (.slice ao5 m.length cap5)) (by kernel_rfl) (zc) (fun hHeld => ?_)
      refine wpAnyH_take (i := 0) (oi := ⟨some 129, _, _, _, _, _⟩) (v := ?_) rfl (by kernel_rfl) (by kernel_rfl) (by kernel_rfl) (fun _ _ _ h => h) (Or.inl ⟨by rfl, ?_⟩) (by assumption) ?_
      rotate_left 1
      · intro w hSw; (try dsimp only at hSw); go_simp; all_goals with_reducible rfl
      try simp only [Act.put, List.setIfInBounds_toArray, List.set_cons_zero, List.set_cons_succ]
      refine wpAnyH_take (i := 2) (oi := ⟨some 131, _, _, _, _, _⟩) (v := ?_) rfl (by kernel_rfl) (by kernel_rfl) (by kernel_rfl) (fun _ _ _ h => h) (Or.inl ⟨by rfl, ?_⟩) (by assumption) ?_
      rotate_left 1
      · intro w hSw; (try dsimp only at hSw); go_simp; all_goals with_reducible rfl
      try simp only [Act.put, List.setIfInBounds_toArray, List.set_cons_zero, List.set_cons_succ]
      refine wpAnyH_take (i := 3) (oi := ⟨some 132, _, _, _, _, _⟩) (v := ?_) rfl (by kernel_rfl) (by kernel_rfl) (by kernel_rfl) (fun _ _ _ h => h) (Or.inl ⟨by rfl, ?_⟩) (by assumption) ?_
      rotate_left 1
      · intro w hSw; (try dsimp only at hSw); go_simp; all_goals with_reducible rfl
      try simp only [Act.put, List.setIfInBounds_toArray, List.set_cons_zero, List.set_cons_succ]
      refine wpAnyH_take (i := 4) (oi := ⟨some 133, _, _, _, _, _⟩) (v := ?_) rfl (by kernel_rfl) (by kernel_rfl) (by kernel_rfl) (fun _ _ _ h => h) (Or.inl ⟨by rfl, ?_⟩) (by assumption) ?_
      rotate_left 1
      · intro w hSw; (try dsimp only at hSw); go_simp; all_goals with_reducible rfl
      try simp only [Act.put, List.setIfInBounds_toArray, List.set_cons_zero, List.set_cons_succ]
      refine wpAnyH_take (i := 5) (oi := ⟨some 134, _, _, _, _, _⟩) (v := ?_) rfl (by kernel_rfl) (by kernel_rfl) (by kernel_rfl) (fun _ _ _ h => h) (Or.inl ⟨by rfl, ?_⟩) (by assumption) ?_
      rotate_left 1
      · intro w hSw; (try dsimp only at hSw); go_simp; all_goals with_reducible rfl
      try simp only [Act.put, List.setIfInBounds_toArray, List.set_cons_zero, List.set_cons_succ]
      refine wpAnyH_ready (rs := [1]) (by kernel_rfl) (by simp) ?_
      refine AllReadyH.cons (o := ⟨some 130, _, _, _, _, _⟩) rfl (fun K hK => ?_) AllReadyH.nil
      go_simp
      go_at_call 22; refine (AL.out _ (Below.refl _ _).drew).mono ?_; rintro e w4 ⟨⟨v4, rfl, hO4⟩, hB4⟩; obtain ⟨ao4, cap4, hv4, hF4⟩ := ownF_slice hO4; subst hv4; have HF4 := Lib.hid hF4; have HB4 : Hid (Below wr.heap.size wr w4) := (Below.refl _ _).drew.trans hB4; clear hO4 hF4 hB4
      refine hK.out _ _ ((HB4.out.cell (p := ⟨w2.heap.size, 0, none⟩) hlq).trans zc) (fun hHeld => ?_)
      clear hK
      try simp only [Act.put, List.setIfInBounds_toArray, List.set_cons_zero, List.set_cons_succ]
      refine wpAnyH_ready (rs := [6]) (by kernel_rfl) (by simp) ?_
      refine AllReadyH.cons (o := ⟨some 135, _, _, _, _, _⟩) rfl (fun K hK => ?_) AllReadyH.nil
      go_simp
      go_at_call 23; refine (SR.out _ HB4.out).mono ?_; rintro e w5 ⟨⟨ao6, cap6, sl, rfl, hF6, hAS, hPS⟩, hB5⟩; have HF6 := Lib.hid hF6; have HAS := Lib.hid hAS; have HPS := Lib.hid hPS; have HF5 := Lib.hid (fres_below HF4.out hB5); have HB5 : Hid (Below wr.heap.size wr w5) := HB4.out.trans (hB5.mono HB4.out.size); have SM := Lib.hid (same_any ao4 ao6 cap4 cap6 l2 sl w5 HF5 HF6 (by have := hPS.length_eq; omega)); clear hF6 hAS hPS hB5
      refine hK.out _ _ ((HB5.out.cell (p := ⟨w2.heap.size, 0, none⟩) hlq).trans zc) (fun hHeld => ?_)
      clear hK
      try simp only [Act.put, List.setIfInBounds_toArray, List.set_cons_zero, List.set_cons_succ]
      refine wpAnyH_ready (rs := [7]) (by kernel_rfl) (by simp) ?_
      refine AllReadyH.cons (o := ⟨some 136, _, _, _, _, _⟩) rfl (fun K hK => ?_) AllReadyH.nil
      go_simp
      go_at_call 21; refine SM.out.mono ?_; rintro e w6 ⟨rfl, hB6⟩; have HB6 : Hid (Below wr.heap.size wr w6) := HB5.out.trans (hB6.mono HB5.out.size); clear hB6
      refine hK.out _ _ ((HB6.out.cell (p := ⟨w2.heap.size, 0, none⟩) hlq).trans zc) (fun hHeld => ?_)
      clear hK
      try simp only [Act.put, List.setIfInBounds_toArray, List.set_cons_zero, List.set_cons_succ]
      refine wpAnyH_take (i := 8) (oi := ⟨some 2, _, _, _, _, _⟩) (v := ?_) rfl (by kernel_rfl) (by kernel_rfl) (by kernel_rfl) (fun _ _ _ h => h) (Or.inl ⟨by rfl, ?_⟩) (by assumption) ?_
      rotate_left 1
      · intro w hSw; (try dsimp only at hSw); go_simp; all_goals with_reducible rfl
      try simp only [Act.put, List.setIfInBounds_toArray, List.set_cons_zero, List.set_cons_succ]
      refine wpAnyH_done (by kernel_rfl) ?_ _
      go_wp2_with fail
      go_ret
      exact ⟨by rw [sort_law HPS.out hP.out HAS.out hT.out.1.2.1]; simp, HB1.out.trans ((hT.out.1.2.2.1.trans (HB6.out.mono hT.out.1.2.2.2)).mono HB1.out.size)⟩
end fre
end Go.Proofs.Ytcmpepojokmhnaa
