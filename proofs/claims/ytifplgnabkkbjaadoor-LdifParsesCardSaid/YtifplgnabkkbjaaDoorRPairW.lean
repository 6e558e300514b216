/- The walk of the reference's Pair. -/
import Derived.Test.YtifplgnabkkbjaaDoorPairW
import Derived.Test.YtifplgnabkkbjaaDoorTyR
namespace Go.Proofs.YtifplgnabkkbjaaDoor
open Go.RowKit
namespace ldw
open ldp
set_option linter.unusedVariables false
set_option linter.unusedSimpArgs false
theorem ex_to (s : ByteArray) (A R : List UInt8) (c : UInt8) (h : s.data.toList = A ++ c :: R) : s.extract 0 A.length = ⟨A.toArray⟩ ∧ s.extract (A.length + 1) s.size = ⟨R.toArray⟩ := by
  refine ⟨kt.str_eq ?_, kt.str_eq ?_⟩
  · rw [Lib.extract_data, h]; simp
  · rw [Lib.extract_to_end, h]; simp
theorem ne_s {s : ByteArray} (h : 0 < s.size) : ∃ t, s.data.toList = s[0] :: t := by
  refine ⟨s.data.toList.drop 1, ?_⟩
  have := List.drop_eq_getElem_cons (l := s.data.toList) (i := 0) (by simpa using h)
  rw [List.drop_zero] at this
  exact this
theorem head_s {s : ByteArray} (h : 0 < s.size) : s.data.toList.head? = some s[0] := by
  obtain ⟨t, ht⟩ := ne_s h
  rw [ht]; rfl
theorem tail_s {s t : ByteArray} (h : t = s.extract 1 s.size) : t.data.toList = s.data.toList.tail := by
  rw [h, Lib.extract_to_end]; simp
set_option maxRecDepth 20000 in
set_option maxHeartbeats 8000000 in
theorem rpair_any (s : ByteArray) (w : World) (hs : s.size ≤ 20000) : Calls Tryd.prog 14 #[.string s] w (PairE (pairL s.data.toList) w) := by
  by_cases hm : (58 : UInt8) ∈ s.data.toList
  · obtain ⟨A, R, hAR, hA⟩ := splitL hm
    have hsz : s.size = A.length + R.length + 1 := by rw [← kt.size_len, hAR]; simp; omega
    have HP := Lib.hid (pairL_at (R := R) hA)
    rw [← hAR] at HP
    obtain ⟨n, hn⟩ : ∃ n, Hid (n = A.length) := ⟨_, rfl⟩
    have hn1 : n + 1 ≤ s.size := by rw [hn.out]; omega
    have hex := ex_to s A R 58 hAR
    rw [← hn.out] at hex
    obtain ⟨a, ha⟩ : ∃ a : ByteArray, Hid (a = ⟨A.toArray⟩) := ⟨_, rfl⟩
    obtain ⟨r, hr⟩ : ∃ a : ByteArray, Hid (a = ⟨R.toArray⟩) := ⟨_, rfl⟩
    rw [← ha.out, ← hr.out] at hex
    have HA : Hid (∀ k (hk : k < s.size), k < n → ¬ s[k].toNat = 58) := by
      intro k hk hkn e
      have hk2 : k < A.length := by rw [← hn.out]; exact hkn
      have e1 : s[k] = A[k] := by
        have : s.data.toList[k]'(by simpa using hk) = A[k] := by
          simp only [hAR]
          rw [List.getElem_append_left hk2]
        exact this
      apply hA
      have : A[k] = 58 := by apply UInt8.toNat_inj.1; rw [← e1, e]; rfl
      rw [← this]
      exact List.getElem_mem hk2
    have hnlt : n < s.size := hn1
    have HAT : Hid (s[n]'hnlt = 58) := by
      show s.data.toList[n]'(by simpa using hnlt) = 58
      simp only [hAR]
      rw [List.getElem_append_right (by rw [hn.out]; exact Nat.le_refl _)]
      simp [hn.out]
    have hae : A = a.data.toList := by rw [ha.out]
    have hre : R = r.data.toList := by rw [hr.out]
    have has : a.size ≤ 20000 := by rw [← kt.size_len, ← hae]; omega
    have hrs : r.size ≤ 20000 := by rw [← kt.size_len, ← hre]; omega
    rw [hae, hre] at HP
    obtain ⟨hxa, hxr⟩ := hex
    clear hAR hA hsz hm ha hr hae hre hn
    clear A R
    have HT : Hid (∀ w, Calls Tryd.prog 25 #[.string a] w fun e w' => e = .returned (.bool (typeOK a.data.toList)) ∧ w = w') := fun w => rtype_any a w (by omega)
    have HPC0 := Lib.hid (pc_new w)
    have HB0 : Hid (Below w.heap.size w (w.alloc (.cells #[.string ByteArray.empty, .string ByteArray.empty] 33))) := (Below.refl _ w).alloc (Nat.le_refl _) _
    have hW0 : w.heap.size ≤ (w.alloc (.cells #[.string ByteArray.empty, .string ByteArray.empty] 33)).heap.size := by simp
    have i1 : ((n : Int) + 1).toNat = n + 1 := by omega
    have i2 : (n : Int) + 1 ≤ (s.size : Int) := by omega
    have i3 : (n : Int) < (s.size : Int) := by omega
    have i5 : (n : Int) ≤ (s.size : Int) := by omega
    have i4 : ((n : Int) == (s.size : Int)) = false := by rw [beq_eq_false_iff_ne]; omega
    go_enter Tryd.func14, Tryd.ntmps14
    go_wp2_with fail
    obtain ⟨W, hW⟩ : ∃ W, w.alloc (.cells #[.string ByteArray.empty, .string ByteArray.empty] 33) = W := ⟨_, rfl⟩
    rw [hW] at HPC0 HB0 hW0
    rw [show w.alloc (.cells #[.string ⟨#[]⟩, .string ⟨#[]⟩] 33) = W from hW]
    clear hW
    go_loop [4] (fun iv => ∃ k : Nat, k ≤ n ∧ iv = .int .i64 (k : Int)) (fun iv => n - (intOf iv).toNat)
    case atStart => exact ⟨0, Nat.zero_le _, rfl⟩
    case round =>
      obtain ⟨k, hk, rfl⟩ := hrel
      by_cases hkn : k < n
      · have hlt : k < s.size := by omega
        have hlt' : (k : Int) < (s.size : Int) := by omega
        have HK := Lib.hid (HA.out k hlt hkn)
        obtain ⟨c, hc⟩ : ∃ c, s[k]'hlt = c := ⟨_, rfl⟩
        rw [hc] at HK
        have q : ((c.toNat : Int) != 58) = true := by rw [bne_iff_ne]; have := HK.out; omega
        go_wp2_with fail
        go_round
        case rel => exact ⟨k + 1, by omega, by go_num⟩
        case measure => simp [intOf]; omega
      · obtain rfl : k = n := by omega
        obtain ⟨c, hc⟩ : ∃ c, s[k]'hnlt = c := ⟨_, rfl⟩
        have q : ((c.toNat : Int) != 58) = false := by rw [← hc, HAT.out]; rfl
        clear HAT HA
        by_cases hty : typeOK a.data.toList = true
        · rw [if_pos hty] at HP
          have HT1 : Hid (∀ w, Calls Tryd.prog 25 #[.string a] w fun e w' => e = .returned (.bool true) ∧ w = w') := fun w => by rw [← hty]; exact HT.out w
          clear hty HT
          go_wp2_with fail
          refine (HT1.out _).mono ?_
          rintro e w2 ⟨rfl, rfl⟩
          by_cases hco : r.data.toList.head? = some 58
          · rw [if_pos hco] at HP
            have hr0 : 0 < r.size := by
              cases h : r.data.toList with
              | nil => rw [h] at hco; cases hco
              | cons x t => rw [← kt.size_len, h]; simp
            have hr0' : (0 : Int) < (r.size : Int) := by omega
            have hr1' : (1 : Int) ≤ (r.size : Int) := by omega
            have hr1 : 1 ≤ r.size := hr0
            rw [head_s hr0, Option.some.injEq] at hco
            have q5 : ((r.size : Int) == 0) = false := by rw [beq_eq_false_iff_ne]; omega
            obtain ⟨c, hc⟩ : ∃ c, r[0]'hr0 = c := ⟨_, rfl⟩
            have q6 : ((c.toNat : Int) == 58) = true := by rw [← hc, hco]; rfl
            obtain ⟨q, hq⟩ : ∃ q, r.extract 1 r.size = q := ⟨_, rfl⟩
            have hqt := tail_s hq.symm
            have hqs : q.size ≤ 20000 := by rw [← kt.size_len, hqt, List.length_tail, kt.size_len]; omega
            rw [← hqt] at HP
            clear hqt hco
            obtain ⟨D0, hD0⟩ : ∃ D0, D0 = q.data.toList.dropWhile (· == 32) := ⟨_, rfl⟩
            rw [← hD0] at HP
            have HD0 : Hid (q.data.toList.dropWhile (· == 32) = D0) := hD0.symm
            clear hD0
            go_wp2_with fail
            go_loop [5] (fun vv => ∃ x : ByteArray, vv = .string x ∧ x.size ≤ 20000 ∧ Hid (x.data.toList.dropWhile (· == 32) = D0)) (fun vv => strLen vv)
            case atStart => exact ⟨_, rfl, by first | exact hqs | simp, HD0⟩
            case round =>
              clear HD0 hqs
              obtain ⟨x, rfl, hx, hxd⟩ := hrel
              have hpart : x.size = 0 ∨ ∃ h : 0 < x.size, (x[0]'h).toNat = 32 ∨ ¬ (x[0]'h).toNat = 32 := by
                by_cases h : x.size = 0
                · exact Or.inl h
                · exact Or.inr ⟨by omega, Classical.em _⟩
              rcases hpart with hx0 | ⟨hx0, h32 | h32⟩
              case inr.inl =>
                have hx0' : (0 : Int) < (x.size : Int) := by omega
                have hx1' : (1 : Int) ≤ (x.size : Int) := by omega
                have hx1 : 1 ≤ x.size := hx0
                obtain ⟨y, hy⟩ : ∃ q, x.extract 1 x.size = q := ⟨_, rfl⟩
                have hyt := tail_s hy.symm
                have hys : y.size + 1 = x.size := by rw [← kt.size_len, hyt, List.length_tail, kt.size_len]; omega
                have HY : Hid (y.data.toList.dropWhile (· == 32) = D0) := by
                  show _ = _
                  rw [← hxd.out, hyt]
                  obtain ⟨t, ht⟩ := ne_s hx0
                  rw [ht, List.tail_cons, List.dropWhile_cons, if_pos (by rw [beq_iff_eq]; apply UInt8.toNat_inj.1; exact h32)]
                obtain ⟨c2, hc2⟩ : ∃ c, x[0]'hx0 = c := ⟨_, rfl⟩
                rw [hc2] at h32
                have q7 : ((c2.toNat : Int) == 32) = true := by rw [beq_iff_eq]; omega
                have hys2 := Lib.hid hys
                clear hyt h32 hys
                go_wp2_with fail
                go_round
                case rel => exact ⟨y, rfl, by have := hys2.out; omega, HY⟩
                case measure => (have := hys2.out; simp [strLen]; omega)
              all_goals
                have HX : Hid (D0 = x.data.toList) := by
                  show _ = _
                  rw [← hxd.out]
                  first
                    | (obtain rfl := zero_s hx0; rfl)
                    | (obtain ⟨t, ht⟩ := ne_s hx0
                       rw [ht, List.dropWhile_cons, if_neg (by rw [beq_iff_eq]; intro e; apply h32; rw [e]; rfl)])
                have HPX := Lib.hid HP.out
                rw [HX.out] at HPX
                clear hxd HX
              case' inl => (have q7 : (x.size : Int) = 0 := by omega)
              case' inr.inr =>
                have hx0' : (0 : Int) < (x.size : Int) := by omega
                obtain ⟨c2, hc2⟩ : ∃ c, x[0]'hx0 = c := ⟨_, rfl⟩
                rw [hc2] at h32
                have q7 : ((c2.toNat : Int) == 32) = false := by rw [beq_eq_false_iff_ne]; omega
                clear h32
              case' inl => clear hx0
              all_goals
                go_wp2_with fail
                refine (rdecode_any x W hx).mono ?_
                intro e w2 hE
                unfold DecRes at hE
                obtain ⟨rfl, hB2⟩ := hE
                have HPC2 := Lib.hid (pc_below HPC0.out hB2)
                have HB2 := Lib.hid (HB0.out.trans (hB2.mono hW0))
                clear hB2
                obtain ⟨⟨x0, c0⟩, ⟨y0, c1⟩, f0, f1⟩ := pc_cells HPC2.out
                cases hD : b64p.R x.data.toList with
                | none =>
                  rw [b64p.D_eq_R, hD] at HPX
                  rw [show b64p.uhV none = .tuple #[.string ⟨#[]⟩, .int .i64 4] from rfl]
                  obtain ⟨e0, e1⟩ := pc_store HPC2.out a ⟨#[]⟩
                  clear hD
                  go_wp2_with fail
                  (try simp only [Exit.inBlock, Exit.then])
                  refine bodyPost_ret (v := .tuple #[.agg #[.string a, .string ⟨#[]⟩], .bool false]) (by rw [results_cell_tmp rfl]; go_simp) rfl ?_
                  exact pairE_none HPX.out (below_store HB2.out (Nat.le_refl _) _ _)
                | some b =>
                  rw [b64p.D_eq_R, hD] at HPX
                  obtain ⟨bb, hbb⟩ : ∃ q : ByteArray, Hid (q = ⟨b.toArray⟩) := ⟨_, rfl⟩
                  rw [show b64p.uhV (some b) = .tuple #[.string bb, .int .i64 0] from by rw [hbb.out]; rfl]
                  obtain ⟨e0, e1⟩ := pc_store HPC2.out a bb
                  clear hD
                  go_wp2_with fail
                  (try simp only [Exit.inBlock, Exit.then])
                  refine bodyPost_ret (v := .tuple #[.agg #[.string a, .string bb], .bool true]) (by rw [results_cell_tmp rfl]; go_simp) rfl ?_
                  exact pairE_some (by rw [HPX.out, hbb.out]; rfl) (below_store HB2.out (Nat.le_refl _) _ _)
          · rw [if_neg hco] at HP
            have hpart : r.size = 0 ∨ ∃ h : 0 < r.size, ((((r[0]'h).toNat : Int) == 58) = false) := by
              by_cases h : r.size = 0
              · exact Or.inl h
              · refine Or.inr ⟨by omega, ?_⟩
                rw [beq_eq_false_iff_ne]
                intro e
                apply hco
                rw [head_s (by omega)]
                congr 1
                apply UInt8.toNat_inj.1
                show _ = 58
                omega
            obtain ⟨q, hq⟩ : ∃ q, r = q := ⟨_, rfl⟩
            subst hq
            have hqs := hrs
            clear hco
            obtain ⟨D0, hD0⟩ : ∃ D0, D0 = r.data.toList.dropWhile (· == 32) := ⟨_, rfl⟩
            rw [← hD0] at HP
            have HD0 : Hid (r.data.toList.dropWhile (· == 32) = D0) := hD0.symm
            clear hD0
            rcases hpart with h0 | ⟨h0, q6⟩
            case' inl => (obtain rfl := zero_s h0; clear h0; go_wp2_with fail)
            case' inr =>
              have hr0' : (0 : Int) < (r.size : Int) := by omega
              have q5 : ((r.size : Int) == 0) = false := by rw [beq_eq_false_iff_ne]; omega
              obtain ⟨c, hc⟩ : ∃ c, r[0]'h0 = c := ⟨_, rfl⟩
              rw [hc] at q6
              go_wp2_with fail
            all_goals
              go_loop [5] (fun vv => ∃ x : ByteArray, vv = .string x ∧ x.size ≤ 20000 ∧ Hid (x.data.toList.dropWhile (· == 32) = D0)) (fun vv => strLen vv)
              case atStart => exact ⟨_, rfl, by first | exact hqs | simp, HD0⟩
              case round =>
                clear HD0 hqs
                obtain ⟨x, rfl, hx, hxd⟩ := hrel
                have hpart : x.size = 0 ∨ ∃ h : 0 < x.size, (x[0]'h).toNat = 32 ∨ ¬ (x[0]'h).toNat = 32 := by
                  by_cases h : x.size = 0
                  · exact Or.inl h
                  · exact Or.inr ⟨by omega, Classical.em _⟩
                rcases hpart with hx0 | ⟨hx0, h32 | h32⟩
                case inr.inl =>
                  have hx0' : (0 : Int) < (x.size : Int) := by omega
                  have hx1' : (1 : Int) ≤ (x.size : Int) := by omega
                  have hx1 : 1 ≤ x.size := hx0
                  obtain ⟨y, hy⟩ : ∃ q, x.extract 1 x.size = q := ⟨_, rfl⟩
                  have hyt := tail_s hy.symm
                  have hys : y.size + 1 = x.size := by rw [← kt.size_len, hyt, List.length_tail, kt.size_len]; omega
                  have HY : Hid (y.data.toList.dropWhile (· == 32) = D0) := by
                    show _ = _
                    rw [← hxd.out, hyt]
                    obtain ⟨t, ht⟩ := ne_s hx0
                    rw [ht, List.tail_cons, List.dropWhile_cons, if_pos (by rw [beq_iff_eq]; apply UInt8.toNat_inj.1; exact h32)]
                  obtain ⟨c2, hc2⟩ : ∃ c, x[0]'hx0 = c := ⟨_, rfl⟩
                  rw [hc2] at h32
                  have q7 : ((c2.toNat : Int) == 32) = true := by rw [beq_iff_eq]; omega
                  have hys2 := Lib.hid hys
                  clear hyt h32 hys
                  go_wp2_with fail
                  go_round
                  case rel => exact ⟨y, rfl, by have := hys2.out; omega, HY⟩
                  case measure => (have := hys2.out; simp [strLen]; omega)
                all_goals
                  have HX : Hid (D0 = x.data.toList) := by
                    show _ = _
                    rw [← hxd.out]
                    first
                      | (obtain rfl := zero_s hx0; rfl)
                      | (obtain ⟨t, ht⟩ := ne_s hx0
                         rw [ht, List.dropWhile_cons, if_neg (by rw [beq_iff_eq]; intro e; apply h32; rw [e]; rfl)])
                  have HPX := Lib.hid HP.out
                  rw [HX.out] at HPX
                  clear hxd HX
                case' inl => (have q7 : (x.size : Int) = 0 := by omega)
                case' inr.inr =>
                  have hx0' : (0 : Int) < (x.size : Int) := by omega
                  obtain ⟨c2, hc2⟩ : ∃ c, x[0]'hx0 = c := ⟨_, rfl⟩
                  rw [hc2] at h32
                  have q7 : ((c2.toNat : Int) == 32) = false := by rw [beq_eq_false_iff_ne]; omega
                  clear h32
                case' inl => clear hx0
                all_goals
                  obtain ⟨b, hb⟩ : ∃ b, Hid (plainOK x.data.toList = b) := ⟨_, rfl⟩
                  have HPL : Hid (∀ w, Calls Tryd.prog 27 #[.string x] w fun e w' => e = .returned (.bool b) ∧ w = w') := fun w => by rw [← hb.out]; exact rplain_any x w (by omega)
                  rw [hb.out] at HPX
                  obtain ⟨⟨x0, c0⟩, ⟨y0, c1⟩, f0, f1⟩ := pc_cells HPC0.out
                  obtain ⟨e0, e1⟩ := pc_store HPC0.out a x
                  clear hb
                  go_wp2_with fail
                  go_region_with (go_at_call 27; refine (HPL.out _).mono ?_; rintro e w2 ⟨rfl, rfl⟩)
                  all_goals
                    go_wp2_with fail
                    (try simp only [Exit.inBlock, Exit.then])
                    refine bodyPost_ret (v := .tuple #[.agg #[.string a, .string x], .bool b]) (by rw [results_cell_tmp rfl]; go_simp) rfl ?_
                    cases b with
                    | true => exact pairE_some (by rw [HPX.out]; rfl) (below_store HB0.out.drew (Nat.le_refl _) _ _)
                    | false => exact pairE_none (by rw [HPX.out]; rfl) (below_store HB0.out.drew (Nat.le_refl _) _ _)
        · rw [if_neg hty] at HP
          have HT1 : Hid (∀ w, Calls Tryd.prog 25 #[.string a] w fun e w' => e = .returned (.bool false) ∧ w = w') := fun w => by
            have h1 := HT.out w
            rw [show typeOK a.data.toList = false from by simpa using hty] at h1
            exact h1
          clear hty HT
          obtain ⟨⟨x0, c0⟩, ⟨y0, c1⟩, f0, f1⟩ := pc_cells HPC0.out
          obtain ⟨e0, e1⟩ := pc_store HPC0.out ⟨#[]⟩ ⟨#[]⟩
          go_wp2_with fail
          refine (HT1.out _).mono ?_
          rintro e w2 ⟨rfl, rfl⟩
          go_wp2_with fail
          (try simp only [Exit.inBlock, Exit.then])
          refine bodyPost_ret (v := .tuple #[.agg #[.string ⟨#[]⟩, .string ⟨#[]⟩], .bool false]) (by rw [results_cell_tmp rfl]; go_simp) rfl ?_
          exact pairE_none HP.out (below_store HB0.out (Nat.le_refl _) _ _)
  · have HP := Lib.hid (pairL_none hm)
    have HA : Hid (∀ k (hk : k < s.size), ¬ s[k].toNat = 58) := by
      intro k hk e
      apply hm
      have h1 : s[k] = 58 := by apply UInt8.toNat_inj.1; rw [e]; rfl
      rw [← h1]
      have : s.data.toList[k]'(by simpa using hk) ∈ s.data.toList := List.getElem_mem _
      exact this
    have HPC0 := Lib.hid (pc_new w)
    have HB0 : Hid (Below w.heap.size w (w.alloc (.cells #[.string ByteArray.empty, .string ByteArray.empty] 33))) := (Below.refl _ w).alloc (Nat.le_refl _) _
    clear hm
    go_enter Tryd.func14, Tryd.ntmps14
    go_wp2_with fail
    obtain ⟨W, hW⟩ : ∃ W, w.alloc (.cells #[.string ByteArray.empty, .string ByteArray.empty] 33) = W := ⟨_, rfl⟩
    rw [hW] at HPC0 HB0
    rw [show w.alloc (.cells #[.string ⟨#[]⟩, .string ⟨#[]⟩] 33) = W from hW]
    clear hW
    go_loop [4] (fun iv => ∃ k : Nat, k ≤ s.size ∧ iv = .int .i64 (k : Int)) (fun iv => s.size - (intOf iv).toNat)
    case atStart => exact ⟨0, Nat.zero_le _, rfl⟩
    case round =>
      obtain ⟨k, hk, rfl⟩ := hrel
      by_cases hlt : k < s.size
      · have hlt' : (k : Int) < (s.size : Int) := by omega
        have HK := Lib.hid (HA.out k hlt)
        obtain ⟨c, hc⟩ : ∃ c, s[k]'hlt = c := ⟨_, rfl⟩
        rw [hc] at HK
        have q : ((c.toNat : Int) != 58) = true := by rw [bne_iff_ne]; have := HK.out; omega
        go_wp2_with fail
        go_round
        case rel => exact ⟨k + 1, by omega, by go_num⟩
        case measure => simp [intOf]; omega
      · obtain rfl : k = s.size := by omega
        have q2 : ((s.size : Int) == (s.size : Int)) = true := by rw [beq_iff_eq]
        obtain ⟨⟨x0, c0⟩, ⟨y0, c1⟩, f0, f1⟩ := pc_cells HPC0.out
        obtain ⟨e0, e1⟩ := pc_store HPC0.out ⟨#[]⟩ ⟨#[]⟩
        go_wp2_with fail
        (try simp only [Exit.inBlock, Exit.then])
        refine bodyPost_ret (v := .tuple #[.agg #[.string ⟨#[]⟩, .string ⟨#[]⟩], .bool false]) (by rw [results_cell_tmp rfl]; go_simp) rfl ?_
        exact pairE_none HP.out (below_store HB0.out (Nat.le_refl _) _ _)
end ldw
end Go.Proofs.YtifplgnabkkbjaaDoor
