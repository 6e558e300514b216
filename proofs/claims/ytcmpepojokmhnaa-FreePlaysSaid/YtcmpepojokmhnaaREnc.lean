/- The walks of the reference's Right, Less, Encode. -/
import Derived.Test.YtcmpepojokmhnaaDec
namespace Go.Proofs.Ytcmpepojokmhnaa
open Go.RowKit
namespace fre
open fldw
set_option linter.unusedVariables false
set_option linter.unusedSimpArgs false
theorem rright_any (c : Fre) (w : World) : Calls Try.prog 32 #[c.v] w fun e w' => e = .returned (.bool (decide (okF c))) ∧ Below w.heap.size w w' := by
  obtain ⟨t, p⟩ := c
  unfold Fre.v
  dsimp only
  obtain ⟨r, hr⟩ : ∃ r : Bool, Hid (r = decide (okF ⟨t, p⟩)) := ⟨_, rfl⟩
  rw [← hr.out]
  go_enter Try.func32, Try.ntmps32
  go_wp2_with fail
  all_goals go_ret
  all_goals refine ⟨kt.ret_bool ?_, (Below.refl _ _).alloc (Nat.le_refl _) _⟩
  all_goals (rw [hr.out]; unfold okF; simp_all)
  all_goals first | (intros; exfalso; omega) | (intros; omega) | (refine decide_eq_false ?_; rintro ⟨_, _, _⟩; omega) | (rw [Bool.eq_iff_iff]; simp; omega)
theorem rless_any (c d : Fre) (w : World) : Calls Try.prog 33 #[c.v, d.v] w fun e w' => e = .returned (.bool (decide (ltF c d))) ∧ Below w.heap.size w w' := by
  obtain ⟨t, p⟩ := c
  obtain ⟨u, q⟩ := d
  unfold Fre.v
  dsimp only
  obtain ⟨r, hr⟩ : ∃ r : Bool, Hid (r = decide (ltF ⟨t, p⟩ ⟨u, q⟩)) := ⟨_, rfl⟩
  rw [← hr.out]
  go_enter Try.func33, Try.ntmps33
  go_wp2_with fail
  all_goals go_ret
  all_goals refine ⟨kt.ret_bool ?_, ((Below.refl _ _).alloc (Nat.le_refl _) _).alloc (by rw [size1]; omega) _⟩
  all_goals (rw [hr.out]; unfold ltF; simp_all)
  all_goals first | (intros; exfalso; omega) | (intros; omega) | (refine decide_eq_false ?_; omega) | (rw [Bool.eq_iff_iff]; simp; omega)
theorem numS_be {n k : Nat} (h1 : 1 ≤ k) (h8 : k ≤ 8) (h : n < 256 ^ k) : numS n k = ⟨(fld.be n k).toArray⟩ := by
  unfold numS
  rw [put_some h1 h8 h]
  rfl
/-- all that stand ahead are less, and on other pages -/
def Ahead (l : List Fre) (i k : Nat) : Prop := ∀ (h : i < l.length) j (hj : j < l.length), j < k → l[j].page ≠ l[i].page ∧ ltF l[j] l[i]
theorem ahead_okL {l : List Fre} {i : Nat} (hi : i < l.length) (h : OkL (l.take i)) (h1 : okF l[i]) (ha : Ahead l i i) : OkL (l.take (i + 1)) := by
  refine okL_snoc hi h h1 (fun hh => ?_) (fun j hj hj2 => (ha hi j hj2 (by omega)).2)
  obtain ⟨x, hx, e⟩ := (hereB_iff _ _).1 hh
  obtain ⟨k, hk, rfl⟩ := List.mem_iff_getElem.1 hx
  have hk' : k < i := by rw [List.length_take] at hk; omega
  rw [List.getElem_take] at e
  have hp : l[i].page = (l[i].page.toNat : Int) := by have := h1.2.2.1; omega
  exact (ha hi k (by omega) hk').1 (by rw [e]; exact hp.symm)
theorem okL_ahead {l : List Fre} (h : OkL l) (i : Nat) : Ahead l i i := by
  intro hi j hj hji
  refine ⟨fun e => ?_, asc_get h.1 hji hi⟩
  have hn := (List.pairwise_iff_getElem.1 h.2.2) j i (by simpa using hj) (by simpa using hi) hji
  simp only [List.getElem_map] at hn
  exact hn e
set_option maxRecDepth 20000 in
set_option maxHeartbeats 4000000 in
theorem rencode_any (next : Int) (ao : Option Addr) (cap : Nat) (l : List Fre) (w : World) (hl : Hid (Fres w ao l)) (hn : l.length ≤ 9223372036854775807) :
    Calls Try.prog 27 #[.int .i64 next, .slice ao l.length cap] w fun e w' => EncE next l e ∧ Below w.heap.size w w' := by
  by_cases h0 : next < 0
  · have HN : Hid (¬ MayP next l) := fun h => by have := h.1; omega
    go_enter Try.func27, Try.ntmps27
    go_wp2_with fail
    go_ret2
    exact ⟨⟨_, _, rfl, Or.inl ⟨HN.out, rfl, rfl⟩⟩, Below.refl _ _⟩
  · by_cases h1 : 511 < next
    · have HN : Hid (¬ MayP next l) := fun h => by have := h.2.1; omega
      go_enter Try.func27, Try.ntmps27
      go_wp2_with fail
      go_ret2
      exact ⟨⟨_, _, rfl, Or.inl ⟨HN.out, rfl, rfl⟩⟩, Below.refl _ _⟩
    · by_cases h2 : 40 < l.length
      · have HN : Hid (¬ MayP next l) := fun h => by have := h.2.2.1; omega
        have h2' : 40 < (l.length : Int) := by omega
        go_enter Try.func27, Try.ntmps27
        go_wp2_with fail
        go_ret2
        exact ⟨⟨_, _, rfl, Or.inl ⟨HN.out, rfl, rfl⟩⟩, Below.refl _ _⟩
      · have h2' : ¬ 40 < (l.length : Int) := by omega
        have hl40 : l.length ≤ 40 := by omega
        obtain ⟨m, hm⟩ := Int.eq_ofNat_of_zero_le (show 0 ≤ next by omega)
        have hm512 : m < 512 := by omega
        have q4 := p4
        have q2 := p2
        have N1 : ∀ w, Calls Try.prog 39 #[.int .i64 next, .int .i64 4] w fun e w' => e = .returned (.string (numS m 4)) ∧ Below w.heap.size w w' := fun w => by rw [hm]; exact number_any m 4 w (by omega) (by omega)
        have N2 : ∀ w, Calls Try.prog 39 #[.int .i64 (l.length : Int), .int .i64 2] w fun e w' => e = .returned (.string (numS l.length 2)) ∧ Below w.heap.size w w' := fun w => number_any l.length 2 w (by omega) (by omega)
        obtain ⟨s1, hs1⟩ : ∃ s : ByteArray, Hid (s = numS m 4) := ⟨_, rfl⟩
        obtain ⟨s2, hs2⟩ : ∃ s : ByteArray, Hid (s = numS l.length 2) := ⟨_, rfl⟩
        rw [← hs1.out] at N1
        rw [← hs2.out] at N2
        have b1 : s1 = ⟨(fld.be m 4).toArray⟩ := by rw [hs1.out, numS_be (by omega) (by omega) (by omega)]
        have b2 : s2 = ⟨(fld.be l.length 2).toArray⟩ := by rw [hs2.out, numS_be (by omega) (by omega) (by omega)]
        have z1 : s1.size = 4 := by rw [b1, mk_size, fld.be_length]
        have z2 : s2.size = 2 := by rw [b2, mk_size, fld.be_length]
        have HS : Hid ((s1 ++ s2).data.toList = fld.be m 4 ++ fld.be l.length 2) := by show _ = _; rw [b1, b2]; simp
        have NH1 := Lib.hid N1
        have NH2 := Lib.hid N2
        have HM := Lib.hid hm
        clear N1 N2 q2 q4 b1 b2 hm
        go_enter Try.func27, Try.ntmps27
        go_wp2_with fail
        refine (NH1.out _).mono ?_
        rintro e w1 ⟨rfl, hB1⟩
        go_wp2_with fail
        refine (NH2.out _).mono ?_
        rintro e w2 ⟨rfl, hB2⟩
        have HB2 : Hid (Below w.heap.size w w2) := hB1.trans (hB2.mono hB1.size)
        go_wp2_with fail
        go_loopw [6, 7] (fun sv iv wr => ∃ (i : Nat) (s : ByteArray), i ≤ l.length ∧ iv = .int .i64 i ∧ sv = .string s ∧ Hid (OkL (l.take i)) ∧ Hid (s.data.toList = fld.be m 4 ++ fld.be l.length 2 ++ (l.take i).flatMap oneF) ∧ Below w.heap.size w wr) (fun _ iv _ => l.length - (intOf iv).toNat)
        case atStart => exact ⟨0, s1 ++ s2, Nat.zero_le _, rfl, rfl, ⟨List.Pairwise.nil, (fun f hf => by simp at hf), List.nodup_nil⟩, by show _ = _; rw [HS.out]; simp, HB2.out⟩
        case round =>
          obtain ⟨i, s, hi, rfl, rfl, hOk, hS, hB⟩ := hrel
          have hsz := hB.size
          by_cases hil : i < l.length
          · have hil' : (i : Int) < (l.length : Int) := by omega
            obtain ⟨c, hc⟩ : ∃ c : Fre, Hid (c = l[i]'hil) := ⟨l[i]'hil, rfl⟩
            obtain ⟨b, o, hao, f0, f1⟩ := (fres_below hl.out hB) i hil
            rw [← hc.out] at f0 f1
            have RI := Lib.hid (fun w => rright_any c w)
            unfold Fre.v at RI
            subst hao
            by_cases hok : okF c
            · rw [decide_eq_true hok] at RI
              have HOK := Lib.hid hok
              clear hok
              go_wp2_with fail
              refine (RI.out _).mono ?_
              rintro e w3 ⟨rfl, hB3⟩
              have HB3 : Hid (Below w.heap.size w w3) := hB.trans (hB3.mono hsz)
              clear f0 f1
              go_wp2_with fail
              go_loopw [8] (fun kv wk => ∃ k : Nat, k ≤ i ∧ kv = .int .i64 k ∧ Hid (Ahead l i k) ∧ Below w.heap.size w wk) (fun kv _ => i - (intOf kv).toNat)
              case atStart => exact ⟨0, Nat.zero_le _, rfl, fun h j hj hjk => by omega, HB3.out⟩
              case round =>
                obtain ⟨k, hk, rfl, hA, hBk⟩ := hrel
                have hszk := hBk.size
                by_cases hki : k < i
                · have hki' : (k : Int) < (i : Int) := by omega
                  have hkl' : (k : Int) < (l.length : Int) := by omega
                  have hk0 : (0 : Int) ≤ (k : Int) := by omega
                  have hi0 : (0 : Int) ≤ (i : Int) := by omega
                  have hkl : k < l.length := by omega
                  obtain ⟨d, hd⟩ : ∃ d : Fre, Hid (d = l[k]'hkl) := ⟨l[k]'hkl, rfl⟩
                  have hF := fres_below hl.out hBk
                  obtain ⟨b1, o1, e1, r0, r1⟩ := hF k hkl
                  obtain ⟨b2, o2, e2, f0, f1⟩ := hF i hil
                  rw [← hd.out] at r0 r1
                  rw [← hc.out] at f0 f1
                  cases e1
                  cases e2
                  have hlb : b < wr.heap.size := World.block_lt_of_cell? wr ⟨b, _, none⟩ r0
                  clear hF
                  by_cases hpg : d.page = c.page
                  · have HN : Hid (¬ MayP next l) := fun h => (okL_ahead h.2.2.2 i hil k hkl hki).1 (by rw [← hd.out, ← hc.out]; exact hpg)
                    rw [hpg] at r1
                    clear hpg
                    go_wp2_with fail
                    refine wp_region_held_drew (S := fun W => W.cell? ⟨b, o + k * 2, none⟩ = some (.int .i64 d.txn) ∧ W.cell? ⟨b, o + k * 2 + 1, none⟩ = some (.int .i64 c.page) ∧ W.cell? ⟨b, o + i * 2, none⟩ = some (.int .i64 c.txn) ∧ W.cell? ⟨b, o + i * 2 + 1, none⟩ = some (.int .i64 c.page)) (by kernel_rfl) (⟨r0, r1, f0, f1⟩) (fun hHeld => ?_)
                    refine wpAnyH_take (i := 0) (oi := ⟨some 43, _, _, _, _, _⟩) (v := ?_) rfl (by kernel_rfl) (by kernel_rfl) (by kernel_rfl) (fun _ _ _ h => h) (Or.inl ⟨by rfl, ?_⟩) (by assumption) ?_
                    rotate_left 1
                    · intro w hSw; (try dsimp only at hSw); go_simp; all_goals with_reducible rfl
                    try simp only [Act.put, List.setIfInBounds_toArray, List.set_cons_zero, List.set_cons_succ]
                    refine wpAnyH_take (i := 1) (oi := ⟨some 44, _, _, _, _, _⟩) (v := ?_) rfl (by kernel_rfl) (by kernel_rfl) (by kernel_rfl) (fun _ _ _ h => h) (Or.inl ⟨by rfl, ?_⟩) (by assumption) ?_
                    rotate_left 1
                    · intro w hSw; (try dsimp only at hSw); go_simp; all_goals with_reducible rfl
                    try simp only [Act.put, List.setIfInBounds_toArray, List.set_cons_zero, List.set_cons_succ]
                    refine wpAnyH_take (i := 2) (oi := ⟨some 45, _, _, _, _, _⟩) (v := ?_) rfl (by kernel_rfl) (by kernel_rfl) (by kernel_rfl) (fun _ _ _ h => h) (Or.inl ⟨by rfl, ?_⟩) (by assumption) ?_
                    rotate_left 1
                    · intro w hSw; (try dsimp only at hSw); go_simp; all_goals with_reducible rfl
                    try simp only [Act.put, List.setIfInBounds_toArray, List.set_cons_zero, List.set_cons_succ]
                    refine wpAnyH_take (i := 3) (oi := ⟨some 46, _, _, _, _, _⟩) (v := ?_) rfl (by kernel_rfl) (by kernel_rfl) (by kernel_rfl) (fun _ _ _ h => h) (Or.inl ⟨by rfl, ?_⟩) (by assumption) ?_
                    rotate_left 1
                    · intro w hSw; (try dsimp only at hSw); go_simp; all_goals with_reducible rfl
                    try simp only [Act.put, List.setIfInBounds_toArray, List.set_cons_zero, List.set_cons_succ]
                    refine wpAnyH_take (i := 4) (oi := ⟨some 47, _, _, _, _, _⟩) (v := ?_) rfl (by kernel_rfl) (by kernel_rfl) (by kernel_rfl) (fun _ _ _ h => h) (Or.inl ⟨by rfl, ?_⟩) (by assumption) ?_
                    rotate_left 1
                    · intro w hSw; (try dsimp only at hSw); go_simp; all_goals with_reducible rfl
                    try simp only [Act.put, List.setIfInBounds_toArray, List.set_cons_zero, List.set_cons_succ]
                    refine wpAnyH_take (i := 5) (oi := ⟨some 48, _, _, _, _, _⟩) (v := ?_) rfl (by kernel_rfl) (by kernel_rfl) (by kernel_rfl) (fun _ _ _ h => h) (Or.inl ⟨by rfl, ?_⟩) (by assumption) ?_
                    rotate_left 1
                    · intro w hSw; (try dsimp only at hSw); go_simp; all_goals with_reducible rfl
                    try simp only [Act.put, List.setIfInBounds_toArray, List.set_cons_zero, List.set_cons_succ]
                    refine wpAnyH_take (i := 6) (oi := ⟨some 49, _, _, _, _, _⟩) (v := ?_) rfl (by kernel_rfl) (by kernel_rfl) (by kernel_rfl) (fun _ _ _ h => h) (Or.inl ⟨by rfl, ?_⟩) (by assumption) ?_
                    rotate_left 1
                    · intro w hSw; (try dsimp only at hSw); go_simp; all_goals with_reducible rfl
                    try simp only [Act.put, List.setIfInBounds_toArray, List.set_cons_zero, List.set_cons_succ]
                    refine wpAnyH_take (i := 7) (oi := ⟨some 50, _, _, _, _, _⟩) (v := ?_) rfl (by kernel_rfl) (by kernel_rfl) (by kernel_rfl) (fun _ _ _ h => h) (Or.inl ⟨by rfl, ?_⟩) (by assumption) ?_
                    rotate_left 1
                    · intro w hSw; (try dsimp only at hSw); go_simp; all_goals with_reducible rfl
                    try simp only [Act.put, List.setIfInBounds_toArray, List.set_cons_zero, List.set_cons_succ]
                    refine wpAnyH_take (i := 8) (oi := ⟨some 51, _, _, _, _, _⟩) (v := ?_) rfl (by kernel_rfl) (by kernel_rfl) (by kernel_rfl) (fun _ _ _ h => h) (Or.inl ⟨by rfl, ?_⟩) (by assumption) ?_
                    rotate_left 1
                    · intro w hSw; (try dsimp only at hSw); go_simp; all_goals with_reducible rfl
                    try simp only [Act.put, List.setIfInBounds_toArray, List.set_cons_zero, List.set_cons_succ]
                    refine wpAnyH_take (i := 9) (oi := ⟨some 52, _, _, _, _, _⟩) (v := ?_) rfl (by kernel_rfl) (by kernel_rfl) (by kernel_rfl) (fun _ _ _ h => h) (Or.inl ⟨by rfl, ?_⟩) (by assumption) ?_
                    rotate_left 1
                    · intro w hSw; (try dsimp only at hSw); go_simp; all_goals with_reducible rfl
                    try simp only [Act.put, List.setIfInBounds_toArray, List.set_cons_zero, List.set_cons_succ]
                    refine wpAnyH_take (i := 10) (oi := ⟨some 53, _, _, _, _, _⟩) (v := ?_) rfl (by kernel_rfl) (by kernel_rfl) (by kernel_rfl) (fun _ _ _ h => h) (Or.inl ⟨by rfl, ?_⟩) (by assumption) ?_
                    rotate_left 1
                    · intro w hSw; (try dsimp only at hSw); go_simp; all_goals with_reducible rfl
                    try simp only [Act.put, List.setIfInBounds_toArray, List.set_cons_zero, List.set_cons_succ]
                    refine wpAnyH_take (i := 11) (oi := ⟨some 54, _, _, _, _, _⟩) (v := ?_) rfl (by kernel_rfl) (by kernel_rfl) (by kernel_rfl) (fun _ _ _ h => h) (Or.inl ⟨by rfl, ?_⟩) (by assumption) ?_
                    rotate_left 1
                    · intro w hSw; (try dsimp only at hSw); go_simp; all_goals with_reducible rfl
                    try simp only [Act.put, List.setIfInBounds_toArray, List.set_cons_zero, List.set_cons_succ]
                    refine wpAnyH_take (i := 12) (oi := ⟨some 55, _, _, _, _, _⟩) (v := undef) rfl (by kernel_rfl) (by kernel_rfl) (by kernel_rfl) (fun _ _ _ h => h) (Or.inr ⟨by rfl, rfl⟩) (by assumption) ?_
                    try simp only [Act.put, List.setIfInBounds_toArray, List.set_cons_zero, List.set_cons_succ]
                    refine wpAnyH_take (i := 13) (oi := ⟨some 56, _, _, _, _, _⟩) (v := undef) rfl (by kernel_rfl) (by kernel_rfl) (by kernel_rfl) (fun _ _ _ h => h) (Or.inr ⟨by rfl, rfl⟩) (by assumption) ?_
                    try simp only [Act.put, List.setIfInBounds_toArray, List.set_cons_zero, List.set_cons_succ]
                    refine wpAnyH_take (i := 14) (oi := ⟨some 57, _, _, _, _, _⟩) (v := undef) rfl (by kernel_rfl) (by kernel_rfl) (by kernel_rfl) (fun _ _ _ h => h) (Or.inr ⟨by rfl, rfl⟩) (by assumption) ?_
                    try simp only [Act.put, List.setIfInBounds_toArray, List.set_cons_zero, List.set_cons_succ]
                    refine wpAnyH_take (i := 15) (oi := ⟨some 58, _, _, _, _, _⟩) (v := undef) rfl (by kernel_rfl) (by kernel_rfl) (by kernel_rfl) (fun _ _ _ h => h) (Or.inr ⟨by rfl, rfl⟩) (by assumption) ?_
                    try simp only [Act.put, List.setIfInBounds_toArray, List.set_cons_zero, List.set_cons_succ]
                    refine wpAnyH_take (i := 16) (oi := ⟨some 59, _, _, _, _, _⟩) (v := undef) rfl (by kernel_rfl) (by kernel_rfl) (by kernel_rfl) (fun _ _ _ h => h) (Or.inr ⟨by rfl, rfl⟩) (by assumption) ?_
                    try simp only [Act.put, List.setIfInBounds_toArray, List.set_cons_zero, List.set_cons_succ]
                    refine wpAnyH_take (i := 17) (oi := ⟨some 60, _, _, _, _, _⟩) (v := undef) rfl (by kernel_rfl) (by kernel_rfl) (by kernel_rfl) (fun _ _ _ h => h) (Or.inr ⟨by rfl, rfl⟩) (by assumption) ?_
                    try simp only [Act.put, List.setIfInBounds_toArray, List.set_cons_zero, List.set_cons_succ]
                    refine wpAnyH_take (i := 18) (oi := ⟨some 61, _, _, _, _, _⟩) (v := undef) rfl (by kernel_rfl) (by kernel_rfl) (by kernel_rfl) (fun _ _ _ h => h) (Or.inr ⟨by rfl, rfl⟩) (by assumption) ?_
                    try simp only [Act.put, List.setIfInBounds_toArray, List.set_cons_zero, List.set_cons_succ]
                    refine wpAnyH_take (i := 19) (oi := ⟨some 62, _, _, _, _, _⟩) (v := undef) rfl (by kernel_rfl) (by kernel_rfl) (by kernel_rfl) (fun _ _ _ h => h) (Or.inr ⟨by rfl, rfl⟩) (by assumption) ?_
                    try simp only [Act.put, List.setIfInBounds_toArray, List.set_cons_zero, List.set_cons_succ]
                    refine wpAnyH_take (i := 20) (oi := ⟨some 63, _, _, _, _, _⟩) (v := undef) rfl (by kernel_rfl) (by kernel_rfl) (by kernel_rfl) (fun _ _ _ h => h) (Or.inr ⟨by rfl, rfl⟩) (by assumption) ?_
                    try simp only [Act.put, List.setIfInBounds_toArray, List.set_cons_zero, List.set_cons_succ]
                    refine wpAnyH_take (i := 21) (oi := ⟨some 64, _, _, _, _, _⟩) (v := undef) rfl (by kernel_rfl) (by kernel_rfl) (by kernel_rfl) (fun _ _ _ h => h) (Or.inr ⟨by rfl, rfl⟩) (by assumption) ?_
                    try simp only [Act.put, List.setIfInBounds_toArray, List.set_cons_zero, List.set_cons_succ]
                    refine wpAnyH_take (i := 22) (oi := ⟨some 65, _, _, _, _, _⟩) (v := ?_) rfl (by kernel_rfl) (by kernel_rfl) (by kernel_rfl) (fun _ _ _ h => h) (Or.inl ⟨by rfl, ?_⟩) (by assumption) ?_
                    rotate_left 1
                    · intro w hSw; (try dsimp only at hSw); go_simp; all_goals with_reducible rfl
                    try simp only [Act.put, List.setIfInBounds_toArray, List.set_cons_zero, List.set_cons_succ]
                    refine wpAnyH_done (by kernel_rfl) ?_ _
                    go_wp2_with fail
                    go_ret2
                    exact ⟨⟨_, _, rfl, Or.inl ⟨HN.out, rfl, rfl⟩⟩, hBk.drew⟩
                  · have hpg' : (d.page == c.page) = false := by simpa using hpg
                    have LS := Lib.hid (fun w => rless_any d c w)
                    unfold Fre.v at LS
                    by_cases hlt : ltF d c
                    · rw [decide_eq_true hlt] at LS
                      have HA : Hid (Ahead l i (k + 1)) := fun h j hj hjk => by
                        by_cases e : j = k
                        · subst e; rw [← hd.out, ← hc.out]; exact ⟨hpg, hlt⟩
                        · exact hA.out h j hj (by omega)
                      clear hpg hlt
                      go_wp2_with fail
                      refine wp_region_held_drew (S := fun W => W.cell? ⟨b, o + k * 2, none⟩ = some (.int .i64 d.txn) ∧ W.cell? ⟨b, o + k * 2 + 1, none⟩ = some (.int .i64 d.page) ∧ W.cell? ⟨b, o + i * 2, none⟩ = some (.int .i64 c.txn) ∧ W.cell? ⟨b, o + i * 2 + 1, none⟩ = some (.int .i64 c.page)) (by kernel_rfl) (⟨r0, r1, f0, f1⟩) (fun hHeld => ?_)
                      refine wpAnyH_take (i := 0) (oi := ⟨some 43, _, _, _, _, _⟩) (v := ?_) rfl (by kernel_rfl) (by kernel_rfl) (by kernel_rfl) (fun _ _ _ h => h) (Or.inl ⟨by rfl, ?_⟩) (by assumption) ?_
                      rotate_left 1
                      · intro w hSw; (try dsimp only at hSw); go_simp; all_goals with_reducible rfl
                      try simp only [Act.put, List.setIfInBounds_toArray, List.set_cons_zero, List.set_cons_succ]
                      refine wpAnyH_take (i := 1) (oi := ⟨some 44, _, _, _, _, _⟩) (v := ?_) rfl (by kernel_rfl) (by kernel_rfl) (by kernel_rfl) (fun _ _ _ h => h) (Or.inl ⟨by rfl, ?_⟩) (by assumption) ?_
                      rotate_left 1
                      · intro w hSw; (try dsimp only at hSw); go_simp; all_goals with_reducible rfl
                      try simp only [Act.put, List.setIfInBounds_toArray, List.set_cons_zero, List.set_cons_succ]
                      refine wpAnyH_take (i := 2) (oi := ⟨some 45, _, _, _, _, _⟩) (v := ?_) rfl (by kernel_rfl) (by kernel_rfl) (by kernel_rfl) (fun _ _ _ h => h) (Or.inl ⟨by rfl, ?_⟩) (by assumption) ?_
                      rotate_left 1
                      · intro w hSw; (try dsimp only at hSw); go_simp; all_goals with_reducible rfl
                      try simp only [Act.put, List.setIfInBounds_toArray, List.set_cons_zero, List.set_cons_succ]
                      refine wpAnyH_take (i := 3) (oi := ⟨some 46, _, _, _, _, _⟩) (v := ?_) rfl (by kernel_rfl) (by kernel_rfl) (by kernel_rfl) (fun _ _ _ h => h) (Or.inl ⟨by rfl, ?_⟩) (by assumption) ?_
                      rotate_left 1
                      · intro w hSw; (try dsimp only at hSw); go_simp; all_goals with_reducible rfl
                      try simp only [Act.put, List.setIfInBounds_toArray, List.set_cons_zero, List.set_cons_succ]
                      refine wpAnyH_take (i := 4) (oi := ⟨some 47, _, _, _, _, _⟩) (v := ?_) rfl (by kernel_rfl) (by kernel_rfl) (by kernel_rfl) (fun _ _ _ h => h) (Or.inl ⟨by rfl, ?_⟩) (by assumption) ?_
                      rotate_left 1
                      · intro w hSw; (try dsimp only at hSw); go_simp; all_goals with_reducible rfl
                      try simp only [Act.put, List.setIfInBounds_toArray, List.set_cons_zero, List.set_cons_succ]
                      refine wpAnyH_take (i := 5) (oi := ⟨some 48, _, _, _, _, _⟩) (v := ?_) rfl (by kernel_rfl) (by kernel_rfl) (by kernel_rfl) (fun _ _ _ h => h) (Or.inl ⟨by rfl, ?_⟩) (by assumption) ?_
                      rotate_left 1
                      · intro w hSw; (try dsimp only at hSw); go_simp; all_goals with_reducible rfl
                      try simp only [Act.put, List.setIfInBounds_toArray, List.set_cons_zero, List.set_cons_succ]
                      refine wpAnyH_take (i := 6) (oi := ⟨some 49, _, _, _, _, _⟩) (v := ?_) rfl (by kernel_rfl) (by kernel_rfl) (by kernel_rfl) (fun _ _ _ h => h) (Or.inl ⟨by rfl, ?_⟩) (by assumption) ?_
                      rotate_left 1
                      · intro w hSw; (try dsimp only at hSw); go_simp; all_goals with_reducible rfl
                      try simp only [Act.put, List.setIfInBounds_toArray, List.set_cons_zero, List.set_cons_succ]
                      refine wpAnyH_take (i := 7) (oi := ⟨some 50, _, _, _, _, _⟩) (v := ?_) rfl (by kernel_rfl) (by kernel_rfl) (by kernel_rfl) (fun _ _ _ h => h) (Or.inl ⟨by rfl, ?_⟩) (by assumption) ?_
                      rotate_left 1
                      · intro w hSw; (try dsimp only at hSw); go_simp; all_goals with_reducible rfl
                      try simp only [Act.put, List.setIfInBounds_toArray, List.set_cons_zero, List.set_cons_succ]
                      refine wpAnyH_take (i := 8) (oi := ⟨some 51, _, _, _, _, _⟩) (v := ?_) rfl (by kernel_rfl) (by kernel_rfl) (by kernel_rfl) (fun _ _ _ h => h) (Or.inl ⟨by rfl, ?_⟩) (by assumption) ?_
                      rotate_left 1
                      · intro w hSw; (try dsimp only at hSw); go_simp; all_goals with_reducible rfl
                      try simp only [Act.put, List.setIfInBounds_toArray, List.set_cons_zero, List.set_cons_succ]
                      refine wpAnyH_take (i := 9) (oi := ⟨some 52, _, _, _, _, _⟩) (v := ?_) rfl (by kernel_rfl) (by kernel_rfl) (by kernel_rfl) (fun _ _ _ h => h) (Or.inl ⟨by rfl, ?_⟩) (by assumption) ?_
                      rotate_left 1
                      · intro w hSw; (try dsimp only at hSw); go_simp; all_goals with_reducible rfl
                      try simp only [Act.put, List.setIfInBounds_toArray, List.set_cons_zero, List.set_cons_succ]
                      refine wpAnyH_take (i := 10) (oi := ⟨some 53, _, _, _, _, _⟩) (v := ?_) rfl (by kernel_rfl) (by kernel_rfl) (by kernel_rfl) (fun _ _ _ h => h) (Or.inl ⟨by rfl, ?_⟩) (by assumption) ?_
                      rotate_left 1
                      · intro w hSw; (try dsimp only at hSw); go_simp; all_goals with_reducible rfl
                      try simp only [Act.put, List.setIfInBounds_toArray, List.set_cons_zero, List.set_cons_succ]
                      refine wpAnyH_take (i := 11) (oi := ⟨some 54, _, _, _, _, _⟩) (v := ?_) rfl (by kernel_rfl) (by kernel_rfl) (by kernel_rfl) (fun _ _ _ h => h) (Or.inl ⟨by rfl, ?_⟩) (by assumption) ?_
                      rotate_left 1
                      · intro w hSw; (try dsimp only at hSw); go_simp; all_goals with_reducible rfl
                      try simp only [Act.put, List.setIfInBounds_toArray, List.set_cons_zero, List.set_cons_succ]
                      refine wpAnyH_take (i := 12) (oi := ⟨some 55, _, _, _, _, _⟩) (v := ?_) rfl (by kernel_rfl) (by kernel_rfl) (by kernel_rfl) (fun _ _ _ h => h) (Or.inl ⟨by rfl, ?_⟩) (by assumption) ?_
                      rotate_left 1
                      · intro w hSw; (try dsimp only at hSw); go_simp; all_goals with_reducible rfl
                      try simp only [Act.put, List.setIfInBounds_toArray, List.set_cons_zero, List.set_cons_succ]
                      refine wpAnyH_take (i := 13) (oi := ⟨some 56, _, _, _, _, _⟩) (v := ?_) rfl (by kernel_rfl) (by kernel_rfl) (by kernel_rfl) (fun _ _ _ h => h) (Or.inl ⟨by rfl, ?_⟩) (by assumption) ?_
                      rotate_left 1
                      · intro w hSw; (try dsimp only at hSw); go_simp; all_goals with_reducible rfl
                      try simp only [Act.put, List.setIfInBounds_toArray, List.set_cons_zero, List.set_cons_succ]
                      refine wpAnyH_take (i := 14) (oi := ⟨some 57, _, _, _, _, _⟩) (v := ?_) rfl (by kernel_rfl) (by kernel_rfl) (by kernel_rfl) (fun _ _ _ h => h) (Or.inl ⟨by rfl, ?_⟩) (by assumption) ?_
                      rotate_left 1
                      · intro w hSw; (try dsimp only at hSw); go_simp; all_goals with_reducible rfl
                      try simp only [Act.put, List.setIfInBounds_toArray, List.set_cons_zero, List.set_cons_succ]
                      refine wpAnyH_take (i := 15) (oi := ⟨some 58, _, _, _, _, _⟩) (v := ?_) rfl (by kernel_rfl) (by kernel_rfl) (by kernel_rfl) (fun _ _ _ h => h) (Or.inl ⟨by rfl, ?_⟩) (by assumption) ?_
                      rotate_left 1
                      · intro w hSw; (try dsimp only at hSw); go_simp; all_goals with_reducible rfl
                      try simp only [Act.put, List.setIfInBounds_toArray, List.set_cons_zero, List.set_cons_succ]
                      refine wpAnyH_take (i := 16) (oi := ⟨some 59, _, _, _, _, _⟩) (v := ?_) rfl (by kernel_rfl) (by kernel_rfl) (by kernel_rfl) (fun _ _ _ h => h) (Or.inl ⟨by rfl, ?_⟩) (by assumption) ?_
                      rotate_left 1
                      · intro w hSw; (try dsimp only at hSw); go_simp; all_goals with_reducible rfl
                      try simp only [Act.put, List.setIfInBounds_toArray, List.set_cons_zero, List.set_cons_succ]
                      refine wpAnyH_take (i := 17) (oi := ⟨some 60, _, _, _, _, _⟩) (v := ?_) rfl (by kernel_rfl) (by kernel_rfl) (by kernel_rfl) (fun _ _ _ h => h) (Or.inl ⟨by rfl, ?_⟩) (by assumption) ?_
                      rotate_left 1
                      · intro w hSw; (try dsimp only at hSw); go_simp; all_goals with_reducible rfl
                      try simp only [Act.put, List.setIfInBounds_toArray, List.set_cons_zero, List.set_cons_succ]
                      refine wpAnyH_take (i := 18) (oi := ⟨some 61, _, _, _, _, _⟩) (v := ?_) rfl (by kernel_rfl) (by kernel_rfl) (by kernel_rfl) (fun _ _ _ h => h) (Or.inl ⟨by rfl, ?_⟩) (by assumption) ?_
                      rotate_left 1
                      · intro w hSw; (try dsimp only at hSw); go_simp; all_goals with_reducible rfl
                      try simp only [Act.put, List.setIfInBounds_toArray, List.set_cons_zero, List.set_cons_succ]
                      refine wpAnyH_take (i := 19) (oi := ⟨some 62, _, _, _, _, _⟩) (v := ?_) rfl (by kernel_rfl) (by kernel_rfl) (by kernel_rfl) (fun _ _ _ h => h) (Or.inl ⟨by rfl, ?_⟩) (by assumption) ?_
                      rotate_left 1
                      · intro w hSw; (try dsimp only at hSw); go_simp; all_goals with_reducible rfl
                      try simp only [Act.put, List.setIfInBounds_toArray, List.set_cons_zero, List.set_cons_succ]
                      refine wpAnyH_ready (rs := [20]) (by kernel_rfl) (by simp) ?_
                      refine AllReadyH.cons (o := ⟨some 63, _, _, _, _, _⟩) rfl (fun K hK => ?_) AllReadyH.nil
                      go_simp
                      go_at_call 33; refine (LS.out _).mono ?_; rintro e w' ⟨rfl, hBn⟩
                      refine hK.out _ _ (⟨(hBn.cell (p := ⟨b, o + k * 2, none⟩) hlb).trans r0, (hBn.cell (p := ⟨b, o + k * 2 + 1, none⟩) hlb).trans r1, (hBn.cell (p := ⟨b, o + i * 2, none⟩) hlb).trans f0, (hBn.cell (p := ⟨b, o + i * 2 + 1, none⟩) hlb).trans f1⟩) (fun hHeld => ?_)
                      clear hK
                      try simp only [Act.put, List.setIfInBounds_toArray, List.set_cons_zero, List.set_cons_succ]
                      refine wpAnyH_take (i := 21) (oi := ⟨some 64, _, _, _, _, _⟩) (v := ?_) rfl (by kernel_rfl) (by kernel_rfl) (by kernel_rfl) (fun _ _ _ h => h) (Or.inl ⟨by rfl, ?_⟩) (by assumption) ?_
                      rotate_left 1
                      · intro w hSw; (try dsimp only at hSw); go_simp; all_goals with_reducible rfl
                      try simp only [Act.put, List.setIfInBounds_toArray, List.set_cons_zero, List.set_cons_succ]
                      refine wpAnyH_take (i := 22) (oi := ⟨some 65, _, _, _, _, _⟩) (v := ?_) rfl (by kernel_rfl) (by kernel_rfl) (by kernel_rfl) (fun _ _ _ h => h) (Or.inl ⟨by rfl, ?_⟩) (by assumption) ?_
                      rotate_left 1
                      · intro w hSw; (try dsimp only at hSw); go_simp; all_goals with_reducible rfl
                      try simp only [Act.put, List.setIfInBounds_toArray, List.set_cons_zero, List.set_cons_succ]
                      refine wpAnyH_done (by kernel_rfl) ?_ _
                      go_wp2_with fail
                      go_roundw
                      case rel => exact ⟨k + 1, by omega, by go_num, HA, hBk.trans (((Below.refl _ _).drew.trans hBn).mono hszk)⟩
                      case measure => simp [intOf]; omega
                    · have HN : Hid (¬ MayP next l) := fun h => hlt (by rw [hd.out, hc.out]; exact (okL_ahead h.2.2.2 i hil k hkl hki).2)
                      rw [decide_eq_false hlt] at LS
                      clear hpg hlt
                      go_wp2_with fail
                      refine wp_region_held_drew (S := fun W => W.cell? ⟨b, o + k * 2, none⟩ = some (.int .i64 d.txn) ∧ W.cell? ⟨b, o + k * 2 + 1, none⟩ = some (.int .i64 d.page) ∧ W.cell? ⟨b, o + i * 2, none⟩ = some (.int .i64 c.txn) ∧ W.cell? ⟨b, o + i * 2 + 1, none⟩ = some (.int .i64 c.page)) (by kernel_rfl) (⟨r0, r1, f0, f1⟩) (fun hHeld => ?_)
                      refine wpAnyH_take (i := 0) (oi := ⟨some 43, _, _, _, _, _⟩) (v := ?_) rfl (by kernel_rfl) (by kernel_rfl) (by kernel_rfl) (fun _ _ _ h => h) (Or.inl ⟨by rfl, ?_⟩) (by assumption) ?_
                      rotate_left 1
                      · intro w hSw; (try dsimp only at hSw); go_simp; all_goals with_reducible rfl
                      try simp only [Act.put, List.setIfInBounds_toArray, List.set_cons_zero, List.set_cons_succ]
                      refine wpAnyH_take (i := 1) (oi := ⟨some 44, _, _, _, _, _⟩) (v := ?_) rfl (by kernel_rfl) (by kernel_rfl) (by kernel_rfl) (fun _ _ _ h => h) (Or.inl ⟨by rfl, ?_⟩) (by assumption) ?_
                      rotate_left 1
                      · intro w hSw; (try dsimp only at hSw); go_simp; all_goals with_reducible rfl
                      try simp only [Act.put, List.setIfInBounds_toArray, List.set_cons_zero, List.set_cons_succ]
                      refine wpAnyH_take (i := 2) (oi := ⟨some 45, _, _, _, _, _⟩) (v := ?_) rfl (by kernel_rfl) (by kernel_rfl) (by kernel_rfl) (fun _ _ _ h => h) (Or.inl ⟨by rfl, ?_⟩) (by assumption) ?_
                      rotate_left 1
                      · intro w hSw; (try dsimp only at hSw); go_simp; all_goals with_reducible rfl
                      try simp only [Act.put, List.setIfInBounds_toArray, List.set_cons_zero, List.set_cons_succ]
                      refine wpAnyH_take (i := 3) (oi := ⟨some 46, _, _, _, _, _⟩) (v := ?_) rfl (by kernel_rfl) (by kernel_rfl) (by kernel_rfl) (fun _ _ _ h => h) (Or.inl ⟨by rfl, ?_⟩) (by assumption) ?_
                      rotate_left 1
                      · intro w hSw; (try dsimp only at hSw); go_simp; all_goals with_reducible rfl
                      try simp only [Act.put, List.setIfInBounds_toArray, List.set_cons_zero, List.set_cons_succ]
                      refine wpAnyH_take (i := 4) (oi := ⟨some 47, _, _, _, _, _⟩) (v := ?_) rfl (by kernel_rfl) (by kernel_rfl) (by kernel_rfl) (fun _ _ _ h => h) (Or.inl ⟨by rfl, ?_⟩) (by assumption) ?_
                      rotate_left 1
                      · intro w hSw; (try dsimp only at hSw); go_simp; all_goals with_reducible rfl
                      try simp only [Act.put, List.setIfInBounds_toArray, List.set_cons_zero, List.set_cons_succ]
                      refine wpAnyH_take (i := 5) (oi := ⟨some 48, _, _, _, _, _⟩) (v := ?_) rfl (by kernel_rfl) (by kernel_rfl) (by kernel_rfl) (fun _ _ _ h => h) (Or.inl ⟨by rfl, ?_⟩) (by assumption) ?_
                      rotate_left 1
                      · intro w hSw; (try dsimp only at hSw); go_simp; all_goals with_reducible rfl
                      try simp only [Act.put, List.setIfInBounds_toArray, List.set_cons_zero, List.set_cons_succ]
                      refine wpAnyH_take (i := 6) (oi := ⟨some 49, _, _, _, _, _⟩) (v := ?_) rfl (by kernel_rfl) (by kernel_rfl) (by kernel_rfl) (fun _ _ _ h => h) (Or.inl ⟨by rfl, ?_⟩) (by assumption) ?_
                      rotate_left 1
                      · intro w hSw; (try dsimp only at hSw); go_simp; all_goals with_reducible rfl
                      try simp only [Act.put, List.setIfInBounds_toArray, List.set_cons_zero, List.set_cons_succ]
                      refine wpAnyH_take (i := 7) (oi := ⟨some 50, _, _, _, _, _⟩) (v := ?_) rfl (by kernel_rfl) (by kernel_rfl) (by kernel_rfl) (fun _ _ _ h => h) (Or.inl ⟨by rfl, ?_⟩) (by assumption) ?_
                      rotate_left 1
                      · intro w hSw; (try dsimp only at hSw); go_simp; all_goals with_reducible rfl
                      try simp only [Act.put, List.setIfInBounds_toArray, List.set_cons_zero, List.set_cons_succ]
                      refine wpAnyH_take (i := 8) (oi := ⟨some 51, _, _, _, _, _⟩) (v := ?_) rfl (by kernel_rfl) (by kernel_rfl) (by kernel_rfl) (fun _ _ _ h => h) (Or.inl ⟨by rfl, ?_⟩) (by assumption) ?_
                      rotate_left 1
                      · intro w hSw; (try dsimp only at hSw); go_simp; all_goals with_reducible rfl
                      try simp only [Act.put, List.setIfInBounds_toArray, List.set_cons_zero, List.set_cons_succ]
                      refine wpAnyH_take (i := 9) (oi := ⟨some 52, _, _, _, _, _⟩) (v := ?_) rfl (by kernel_rfl) (by kernel_rfl) (by kernel_rfl) (fun _ _ _ h => h) (Or.inl ⟨by rfl, ?_⟩) (by assumption) ?_
                      rotate_left 1
                      · intro w hSw; (try dsimp only at hSw); go_simp; all_goals with_reducible rfl
                      try simp only [Act.put, List.setIfInBounds_toArray, List.set_cons_zero, List.set_cons_succ]
                      refine wpAnyH_take (i := 10) (oi := ⟨some 53, _, _, _, _, _⟩) (v := ?_) rfl (by kernel_rfl) (by kernel_rfl) (by kernel_rfl) (fun _ _ _ h => h) (Or.inl ⟨by rfl, ?_⟩) (by assumption) ?_
                      rotate_left 1
                      · intro w hSw; (try dsimp only at hSw); go_simp; all_goals with_reducible rfl
                      try simp only [Act.put, List.setIfInBounds_toArray, List.set_cons_zero, List.set_cons_succ]
                      refine wpAnyH_take (i := 11) (oi := ⟨some 54, _, _, _, _, _⟩) (v := ?_) rfl (by kernel_rfl) (by kernel_rfl) (by kernel_rfl) (fun _ _ _ h => h) (Or.inl ⟨by rfl, ?_⟩) (by assumption) ?_
                      rotate_left 1
                      · intro w hSw; (try dsimp only at hSw); go_simp; all_goals with_reducible rfl
                      try simp only [Act.put, List.setIfInBounds_toArray, List.set_cons_zero, List.set_cons_succ]
                      refine wpAnyH_take (i := 12) (oi := ⟨some 55, _, _, _, _, _⟩) (v := ?_) rfl (by kernel_rfl) (by kernel_rfl) (by kernel_rfl) (fun _ _ _ h => h) (Or.inl ⟨by rfl, ?_⟩) (by assumption) ?_
                      rotate_left 1
                      · intro w hSw; (try dsimp only at hSw); go_simp; all_goals with_reducible rfl
                      try simp only [Act.put, List.setIfInBounds_toArray, List.set_cons_zero, List.set_cons_succ]
                      refine wpAnyH_take (i := 13) (oi := ⟨some 56, _, _, _, _, _⟩) (v := ?_) rfl (by kernel_rfl) (by kernel_rfl) (by kernel_rfl) (fun _ _ _ h => h) (Or.inl ⟨by rfl, ?_⟩) (by assumption) ?_
                      rotate_left 1
                      · intro w hSw; (try dsimp only at hSw); go_simp; all_goals with_reducible rfl
                      try simp only [Act.put, List.setIfInBounds_toArray, List.set_cons_zero, List.set_cons_succ]
                      refine wpAnyH_take (i := 14) (oi := ⟨some 57, _, _, _, _, _⟩) (v := ?_) rfl (by kernel_rfl) (by kernel_rfl) (by kernel_rfl) (fun _ _ _ h => h) (Or.inl ⟨by rfl, ?_⟩) (by assumption) ?_
                      rotate_left 1
                      · intro w hSw; (try dsimp only at hSw); go_simp; all_goals with_reducible rfl
                      try simp only [Act.put, List.setIfInBounds_toArray, List.set_cons_zero, List.set_cons_succ]
                      refine wpAnyH_take (i := 15) (oi := ⟨some 58, _, _, _, _, _⟩) (v := ?_) rfl (by kernel_rfl) (by kernel_rfl) (by kernel_rfl) (fun _ _ _ h => h) (Or.inl ⟨by rfl, ?_⟩) (by assumption) ?_
                      rotate_left 1
                      · intro w hSw; (try dsimp only at hSw); go_simp; all_goals with_reducible rfl
                      try simp only [Act.put, List.setIfInBounds_toArray, List.set_cons_zero, List.set_cons_succ]
                      refine wpAnyH_take (i := 16) (oi := ⟨some 59, _, _, _, _, _⟩) (v := ?_) rfl (by kernel_rfl) (by kernel_rfl) (by kernel_rfl) (fun _ _ _ h => h) (Or.inl ⟨by rfl, ?_⟩) (by assumption) ?_
                      rotate_left 1
                      · intro w hSw; (try dsimp only at hSw); go_simp; all_goals with_reducible rfl
                      try simp only [Act.put, List.setIfInBounds_toArray, List.set_cons_zero, List.set_cons_succ]
                      refine wpAnyH_take (i := 17) (oi := ⟨some 60, _, _, _, _, _⟩) (v := ?_) rfl (by kernel_rfl) (by kernel_rfl) (by kernel_rfl) (fun _ _ _ h => h) (Or.inl ⟨by rfl, ?_⟩) (by assumption) ?_
                      rotate_left 1
                      · intro w hSw; (try dsimp only at hSw); go_simp; all_goals with_reducible rfl
                      try simp only [Act.put, List.setIfInBounds_toArray, List.set_cons_zero, List.set_cons_succ]
                      refine wpAnyH_take (i := 18) (oi := ⟨some 61, _, _, _, _, _⟩) (v := ?_) rfl (by kernel_rfl) (by kernel_rfl) (by kernel_rfl) (fun _ _ _ h => h) (Or.inl ⟨by rfl, ?_⟩) (by assumption) ?_
                      rotate_left 1
                      · intro w hSw; (try dsimp only at hSw); go_simp; all_goals with_reducible rfl
                      try simp only [Act.put, List.setIfInBounds_toArray, List.set_cons_zero, List.set_cons_succ]
                      refine wpAnyH_take (i := 19) (oi := ⟨some 62, _, _, _, _, _⟩) (v := ?_) rfl (by kernel_rfl) (by kernel_rfl) (by kernel_rfl) (fun _ _ _ h => h) (Or.inl ⟨by rfl, ?_⟩) (by assumption) ?_
                      rotate_left 1
                      · intro w hSw; (try dsimp only at hSw); go_simp; all_goals with_reducible rfl
                      try simp only [Act.put, List.setIfInBounds_toArray, List.set_cons_zero, List.set_cons_succ]
                      refine wpAnyH_ready (rs := [20]) (by kernel_rfl) (by simp) ?_
                      refine AllReadyH.cons (o := ⟨some 63, _, _, _, _, _⟩) rfl (fun K hK => ?_) AllReadyH.nil
                      go_simp
                      go_at_call 33; refine (LS.out _).mono ?_; rintro e w' ⟨rfl, hBn⟩
                      refine hK.out _ _ (⟨(hBn.cell (p := ⟨b, o + k * 2, none⟩) hlb).trans r0, (hBn.cell (p := ⟨b, o + k * 2 + 1, none⟩) hlb).trans r1, (hBn.cell (p := ⟨b, o + i * 2, none⟩) hlb).trans f0, (hBn.cell (p := ⟨b, o + i * 2 + 1, none⟩) hlb).trans f1⟩) (fun hHeld => ?_)
                      clear hK
                      try simp only [Act.put, List.setIfInBounds_toArray, List.set_cons_zero, List.set_cons_succ]
                      refine wpAnyH_take (i := 21) (oi := ⟨some 64, _, _, _, _, _⟩) (v := ?_) rfl (by kernel_rfl) (by kernel_rfl) (by kernel_rfl) (fun _ _ _ h => h) (Or.inl ⟨by rfl, ?_⟩) (by assumption) ?_
                      rotate_left 1
                      · intro w hSw; (try dsimp only at hSw); go_simp; all_goals with_reducible rfl
                      try simp only [Act.put, List.setIfInBounds_toArray, List.set_cons_zero, List.set_cons_succ]
                      refine wpAnyH_take (i := 22) (oi := ⟨some 65, _, _, _, _, _⟩) (v := ?_) rfl (by kernel_rfl) (by kernel_rfl) (by kernel_rfl) (fun _ _ _ h => h) (Or.inl ⟨by rfl, ?_⟩) (by assumption) ?_
                      rotate_left 1
                      · intro w hSw; (try dsimp only at hSw); go_simp; all_goals with_reducible rfl
                      try simp only [Act.put, List.setIfInBounds_toArray, List.set_cons_zero, List.set_cons_succ]
                      refine wpAnyH_done (by kernel_rfl) ?_ _
                      go_wp2_with fail
                      go_ret2
                      exact ⟨⟨_, _, rfl, Or.inl ⟨HN.out, rfl, rfl⟩⟩, hBk.trans (((Below.refl _ _).drew.trans hBn).mono hszk)⟩
                · obtain rfl : k = i := by omega
                  have hki' : ¬ (k : Int) < (k : Int) := by omega
                  have hk0 : (0 : Int) ≤ (k : Int) := by omega
                  obtain ⟨b2, o2, e2, f0, f1⟩ := (fres_below hl.out hBk) k hil
                  rw [← hc.out] at f0 f1
                  cases e2
                  have hlb : b < wr.heap.size := World.block_lt_of_cell? wr ⟨b, _, none⟩ f0
                  have HSN : Hid (OkL (l.take (k + 1))) := ahead_okL hil hOk.out (by rw [← hc.out]; exact HOK.out) hA.out
                  have hok := HOK.out
                  obtain ⟨t, ht⟩ := Int.eq_ofNat_of_zero_le hok.1
                  obtain ⟨g, hg⟩ := Int.eq_ofNat_of_zero_le (show 0 ≤ c.page by have := hok.2.2.1; omega)
                  have htb : t ≤ 1099511627776 := by have := hok.2.1; omega
                  have hgb : g < 512 := by have := hok.2.2.2; omega
                  have hsl : s.size = 6 + 12 * k := by
                    rw [← kt.size_len, hS.out]
                    simp only [List.length_append, fld.be_length, flatF_len, List.length_take]
                    omega
                  have q4 := p4
                  have q8 := p8
                  have N1 : ∀ w, Calls Try.prog 39 #[.int .i64 c.txn, .int .i64 8] w fun e w' => e = .returned (.string (numS t 8)) ∧ Below w.heap.size w w' := fun w => by rw [ht]; exact number_any t 8 w (by omega) (by omega)
                  have N2 : ∀ w, Calls Try.prog 39 #[.int .i64 c.page, .int .i64 4] w fun e w' => e = .returned (.string (numS g 4)) ∧ Below w.heap.size w w' := fun w => by rw [hg]; exact number_any g 4 w (by omega) (by omega)
                  obtain ⟨x1, hx1⟩ : ∃ s : ByteArray, Hid (s = numS t 8) := ⟨_, rfl⟩
                  obtain ⟨x2, hx2⟩ : ∃ s : ByteArray, Hid (s = numS g 4) := ⟨_, rfl⟩
                  rw [← hx1.out] at N1
                  rw [← hx2.out] at N2
                  have b1 : x1 = ⟨(fld.be t 8).toArray⟩ := by rw [hx1.out, numS_be (by omega) (by omega) (by omega)]
                  have b2 : x2 = ⟨(fld.be g 4).toArray⟩ := by rw [hx2.out, numS_be (by omega) (by omega) (by omega)]
                  have z1' : x1.size = 8 := by rw [b1, mk_size, fld.be_length]
                  have z2' : x2.size = 4 := by rw [b2, mk_size, fld.be_length]
                  have HS4 : Hid ((s ++ x1 ++ x2).data.toList = fld.be m 4 ++ fld.be l.length 2 ++ (l.take (k + 1)).flatMap oneF) := by
                    show _ = _
                    rw [List.take_succ_eq_append_getElem hil, List.flatMap_append, ← List.append_assoc, ← hS.out, ← hc.out, b1, b2]
                    simp [oneF, ht, hg]
                  have hsum1 : ¬ 9223372036854775807 < s.size + x1.size := by omega
                  have hsum2 : ¬ 9223372036854775807 < s.size + x1.size + x2.size := by omega
                  have hsum3 : ¬ 9223372036854775807 < s.size + 8 := by omega
                  have hsum4 : ¬ 9223372036854775807 < s.size + 8 + 4 := by omega
                  have NH1 := Lib.hid N1
                  have NH2 := Lib.hid N2
                  clear N1 N2 b1 b2 ht hg hok q4 q8 hsl
                  go_wp2_with fail
                  refine wp_region_held_drew (S := fun W => W.cell? ⟨b, o + k * 2, none⟩ = some (.int .i64 c.txn) ∧ W.cell? ⟨b, o + k * 2 + 1, none⟩ = some (.int .i64 c.page)) (by kernel_rfl) (⟨f0, f1⟩) (fun hHeld => ?_)
                  refine wpAnyH_take (i := 0) (oi := ⟨some 66, _, _, _, _, _⟩) (v := ?_) rfl (by kernel_rfl) (by kernel_rfl) (by kernel_rfl) (fun _ _ _ h => h) (Or.inl ⟨by rfl, ?_⟩) (by assumption) ?_
                  rotate_left 1
                  · intro w hSw; (try dsimp only at hSw); go_simp; all_goals with_reducible rfl
                  try simp only [Act.put, List.setIfInBounds_toArray, List.set_cons_zero, List.set_cons_succ]
                  refine wpAnyH_take (i := 1) (oi := ⟨some 67, _, _, _, _, _⟩) (v := ?_) rfl (by kernel_rfl) (by kernel_rfl) (by kernel_rfl) (fun _ _ _ h => h) (Or.inl ⟨by rfl, ?_⟩) (by assumption) ?_
                  rotate_left 1
                  · intro w hSw; (try dsimp only at hSw); go_simp; all_goals with_reducible rfl
                  try simp only [Act.put, List.setIfInBounds_toArray, List.set_cons_zero, List.set_cons_succ]
                  refine wpAnyH_take (i := 2) (oi := ⟨some 68, _, _, _, _, _⟩) (v := ?_) rfl (by kernel_rfl) (by kernel_rfl) (by kernel_rfl) (fun _ _ _ h => h) (Or.inl ⟨by rfl, ?_⟩) (by assumption) ?_
                  rotate_left 1
                  · intro w hSw; (try dsimp only at hSw); go_simp; all_goals with_reducible rfl
                  try simp only [Act.put, List.setIfInBounds_toArray, List.set_cons_zero, List.set_cons_succ]
                  refine wpAnyH_take (i := 3) (oi := ⟨some 69, _, _, _, _, _⟩) (v := ?_) rfl (by kernel_rfl) (by kernel_rfl) (by kernel_rfl) (fun _ _ _ h => h) (Or.inl ⟨by rfl, ?_⟩) (by assumption) ?_
                  rotate_left 1
                  · intro w hSw; (try dsimp only at hSw); go_simp; all_goals with_reducible rfl
                  try simp only [Act.put, List.setIfInBounds_toArray, List.set_cons_zero, List.set_cons_succ]
                  refine wpAnyH_take (i := 4) (oi := ⟨some 70, _, _, _, _, _⟩) (v := ?_) rfl (by kernel_rfl) (by kernel_rfl) (by kernel_rfl) (fun _ _ _ h => h) (Or.inl ⟨by rfl, ?_⟩) (by assumption) ?_
                  rotate_left 1
                  · intro w hSw; (try dsimp only at hSw); go_simp; all_goals with_reducible rfl
                  try simp only [Act.put, List.setIfInBounds_toArray, List.set_cons_zero, List.set_cons_succ]
                  refine wpAnyH_take (i := 5) (oi := ⟨some 71, _, _, _, _, _⟩) (v := ?_) rfl (by kernel_rfl) (by kernel_rfl) (by kernel_rfl) (fun _ _ _ h => h) (Or.inl ⟨by rfl, ?_⟩) (by assumption) ?_
                  rotate_left 1
                  · intro w hSw; (try dsimp only at hSw); go_simp; all_goals with_reducible rfl
                  try simp only [Act.put, List.setIfInBounds_toArray, List.set_cons_zero, List.set_cons_succ]
                  refine wpAnyH_take (i := 8) (oi := ⟨some 74, _, _, _, _, _⟩) (v := ?_) rfl (by kernel_rfl) (by kernel_rfl) (by kernel_rfl) (fun _ _ _ h => h) (Or.inl ⟨by rfl, ?_⟩) (by assumption) ?_
                  rotate_left 1
                  · intro w hSw; (try dsimp only at hSw); go_simp; all_goals with_reducible rfl
                  try simp only [Act.put, List.setIfInBounds_toArray, List.set_cons_zero, List.set_cons_succ]
                  refine wpAnyH_take (i := 9) (oi := ⟨some 75, _, _, _, _, _⟩) (v := ?_) rfl (by kernel_rfl) (by kernel_rfl) (by kernel_rfl) (fun _ _ _ h => h) (Or.inl ⟨by rfl, ?_⟩) (by assumption) ?_
                  rotate_left 1
                  · intro w hSw; (try dsimp only at hSw); go_simp; all_goals with_reducible rfl
                  try simp only [Act.put, List.setIfInBounds_toArray, List.set_cons_zero, List.set_cons_succ]
                  refine wpAnyH_take (i := 10) (oi := ⟨some 76, _, _, _, _, _⟩) (v := ?_) rfl (by kernel_rfl) (by kernel_rfl) (by kernel_rfl) (fun _ _ _ h => h) (Or.inl ⟨by rfl, ?_⟩) (by assumption) ?_
                  rotate_left 1
                  · intro w hSw; (try dsimp only at hSw); go_simp; all_goals with_reducible rfl
                  try simp only [Act.put, List.setIfInBounds_toArray, List.set_cons_zero, List.set_cons_succ]
                  refine wpAnyH_take (i := 11) (oi := ⟨some 77, _, _, _, _, _⟩) (v := ?_) rfl (by kernel_rfl) (by kernel_rfl) (by kernel_rfl) (fun _ _ _ h => h) (Or.inl ⟨by rfl, ?_⟩) (by assumption) ?_
                  rotate_left 1
                  · intro w hSw; (try dsimp only at hSw); go_simp; all_goals with_reducible rfl
                  try simp only [Act.put, List.setIfInBounds_toArray, List.set_cons_zero, List.set_cons_succ]
                  refine wpAnyH_take (i := 12) (oi := ⟨some 78, _, _, _, _, _⟩) (v := ?_) rfl (by kernel_rfl) (by kernel_rfl) (by kernel_rfl) (fun _ _ _ h => h) (Or.inl ⟨by rfl, ?_⟩) (by assumption) ?_
                  rotate_left 1
                  · intro w hSw; (try dsimp only at hSw); go_simp; all_goals with_reducible rfl
                  try simp only [Act.put, List.setIfInBounds_toArray, List.set_cons_zero, List.set_cons_succ]
                  refine wpAnyH_ready (rs := [6]) (by kernel_rfl) (by simp) ?_
                  refine AllReadyH.cons (o := ⟨some 72, _, _, _, _, _⟩) rfl (fun K hK => ?_) AllReadyH.nil
                  go_simp
                  go_at_call 39; refine (NH1.out _).mono ?_; rintro e w' ⟨rfl, hBn⟩
                  refine hK.out _ _ (⟨(hBn.cell (p := ⟨b, o + k * 2, none⟩) hlb).trans f0, (hBn.cell (p := ⟨b, o + k * 2 + 1, none⟩) hlb).trans f1⟩) (fun hHeld => ?_)
                  clear hK
                  try simp only [Act.put, List.setIfInBounds_toArray, List.set_cons_zero, List.set_cons_succ]
                  refine wpAnyH_take (i := 7) (oi := ⟨some 73, _, _, _, _, _⟩) (v := ?_) rfl (by kernel_rfl) (by kernel_rfl) (by kernel_rfl) (fun _ _ _ h => h) (Or.inl ⟨by rfl, ?_⟩) (by assumption) ?_
                  rotate_left 1
                  · intro w hSw; (try dsimp only at hSw); go_simp; all_goals with_reducible rfl
                  try simp only [Act.put, List.setIfInBounds_toArray, List.set_cons_zero, List.set_cons_succ]
                  refine wpAnyH_ready (rs := [13]) (by kernel_rfl) (by simp) ?_
                  refine AllReadyH.cons (o := ⟨some 79, _, _, _, _, _⟩) rfl (fun K hK => ?_) AllReadyH.nil
                  go_simp
                  go_at_call 39; refine (NH2.out _).mono ?_; rintro e w'' ⟨rfl, hBm⟩
                  refine hK.out _ _ (⟨(hBm.cell (p := ⟨b, o + k * 2, none⟩) (Nat.lt_of_lt_of_le hlb hBn.size)).trans ((hBn.cell (p := ⟨b, o + k * 2, none⟩) hlb).trans f0), (hBm.cell (p := ⟨b, o + k * 2 + 1, none⟩) (Nat.lt_of_lt_of_le hlb hBn.size)).trans ((hBn.cell (p := ⟨b, o + k * 2 + 1, none⟩) hlb).trans f1)⟩) (fun hHeld => ?_)
                  clear hK
                  try simp only [Act.put, List.setIfInBounds_toArray, List.set_cons_zero, List.set_cons_succ]
                  refine wpAnyH_take (i := 14) (oi := ⟨some 80, _, _, _, _, _⟩) (v := ?_) rfl (by kernel_rfl) (by kernel_rfl) (by kernel_rfl) (fun _ _ _ h => h) (Or.inl ⟨by rfl, ?_⟩) (by assumption) ?_
                  rotate_left 1
                  · intro w hSw; (try dsimp only at hSw); go_simp; all_goals with_reducible rfl
                  try simp only [Act.put, List.setIfInBounds_toArray, List.set_cons_zero, List.set_cons_succ]
                  refine wpAnyH_take (i := 15) (oi := ⟨some 6, _, _, _, _, _⟩) (v := ?_) rfl (by kernel_rfl) (by kernel_rfl) (by kernel_rfl) (fun _ _ _ h => h) (Or.inl ⟨by rfl, ?_⟩) (by assumption) ?_
                  rotate_left 1
                  · intro w hSw; (try dsimp only at hSw); go_simp; all_goals with_reducible rfl
                  try simp only [Act.put, List.setIfInBounds_toArray, List.set_cons_zero, List.set_cons_succ]
                  refine wpAnyH_done (by kernel_rfl) ?_ _
                  go_wp2_with fail
                  go_roundw
                  case rel => exact ⟨k + 1, s ++ x1 ++ x2, by omega, by go_num, rfl, HSN, HS4, hBk.trans ((((Below.refl _ _).drew.trans hBn).trans (hBm.mono hBn.size)).mono hszk)⟩
                  case measure => simp [intOf]; omega
            · rw [decide_eq_false hok] at RI
              have HN : Hid (¬ MayP next l) := fun h => hok (by rw [hc.out]; exact h.2.2.2.2.1 _ (List.getElem_mem hil))
              clear hok
              go_wp2_with fail
              refine (RI.out _).mono ?_
              rintro e w3 ⟨rfl, hB3⟩
              go_wp2_with fail
              go_ret2
              exact ⟨⟨_, _, rfl, Or.inl ⟨HN.out, rfl, rfl⟩⟩, hB.trans (hB3.mono hsz)⟩
          · obtain rfl : i = l.length := by omega
            have hil' : ¬ (l.length : Int) < (l.length : Int) := by omega
            have HY : Hid (MayP next l) := by
              have h := hOk.out
              rw [List.take_of_length_le (Nat.le_refl _)] at h
              exact ⟨by omega, by omega, hl40, h⟩
            have HX : Hid (s = ⟨(encF next.toNat l).toArray⟩) := by
              show _ = _
              have h1 := hS.out
              rw [List.take_of_length_le (Nat.le_refl _)] at h1
              have e : next.toNat = m := by rw [HM.out]; rfl
              exact kt.str_eq (by simp [encF, h1, e])
            go_wp2_with fail
            go_ret2
            exact ⟨⟨_, _, rfl, Or.inr ⟨HY.out, HX.out, rfl⟩⟩, hB⟩
end fre
end Go.Proofs.Ytcmpepojokmhnaa
