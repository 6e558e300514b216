/- The walk of the reference's Parse. -/
import Derived.Test.YtifplgnabkkbjaaDoorParseW
import Derived.Test.YtifplgnabkkbjaaDoorRRowsW
namespace Go.Proofs.YtifplgnabkkbjaaDoor
open Go.RowKit
namespace ldw
open ldp
set_option linter.unusedVariables false
set_option linter.unusedSimpArgs false
theorem foldL_lost {i : Nat} {recs : List Rec} {op : Bool} {x : Row} {r : List Row} (hl : x.lost = true) : foldL i recs op (x :: r) = .inl x.no := by
  show (if x.lost = true then _ else _) = _
  rw [if_pos hl]
/-- what stands in a round, behind the reading of a pair -/
def Held (w1 W : World) (v : Value) (l : List RV) (px pa no : Nat) (a : Pr) : Prop :=
  Below w1.heap.size w1 W ∧ Recs W w1.heap.size v l ∧ px < W.heap.size ∧ pa < W.heap.size ∧ W.cell? ⟨px, 1, none⟩ = some (.int .i64 (no : Int)) ∧ W.cell? ⟨pa, 0, none⟩ = some (.string (bs a.1)) ∧ W.cell? ⟨pa, 1, none⟩ = some (.string (bs a.2))
theorem held_below {w1 W W' : World} {v : Value} {l : List RV} {px pa no : Nat} {a : Pr} (h : Held w1 W v l px pa no a) (hb : Below W.heap.size W W') : Held w1 W' v l px pa no a := by
  obtain ⟨h1, h2, h3, h4, h5, h6, h7⟩ := h
  have hs := hb.size
  exact ⟨h1.trans (hb.mono h1.size), recs_below h2 hb, by omega, by omega, (hb.cell (p := ⟨px, 1, none⟩) h3).trans h5, (hb.cell (p := ⟨pa, 0, none⟩) h4).trans h6, (hb.cell (p := ⟨pa, 1, none⟩) h4).trans h7⟩
theorem skip_no {i : Nat} {X : List UInt8} (h1 : ¬ (i = 0 ∧ X = version)) (h2 : ¬ X.head? = some 35) : skipL i X = false := by
  unfold skipL
  rw [decide_eq_false h2, Bool.false_or]
  rcases Classical.em (i = 0) with h | h
  · rw [decide_eq_false (p := X = version) (fun h3 => h1 ⟨h, h3⟩)]; simp
  · rw [decide_eq_false h]; rfl
theorem skip_hash {i : Nat} {X : List UInt8} (h : X.head? = some 35) : skipL i X = true := by
  unfold skipL
  rw [decide_eq_true h]; rfl
theorem skip_ver {i : Nat} {X : List UInt8} (h : i = 0) (hX : X = version) : skipL i X = true := by
  unfold skipL
  rw [h, hX]; decide
set_option maxRecDepth 20000 in
set_option maxHeartbeats 16000000 in
theorem rparse_any (s : ByteArray) (w : World) (hs : s.size ≤ 20000) : Calls Tryd.prog 6 #[.string s] w (ParseE (parseL s.data.toList) w) := by
  obtain ⟨rows, hrows⟩ : ∃ rows, rows = rowsR [] 0 (raw s.data.toList) := ⟨_, rfl⟩
  have hall := rowsR_all 20000 (raw s.data.toList) [] 0 (fun x hx => by cases hx) (by have := raw_sum _ s.data.toList (Nat.le_refl _); rw [kt.size_len] at this; omega)
  have hlen0 := raw_len _ s.data.toList (Nat.le_refl _)
  rw [kt.size_len] at hlen0
  have HL2 : Hid (∀ w, Calls Tryd.prog 13 #[.string s] w fun e w' => Below w.heap.size w w' ∧ ∃ ao n cap, e = .returned (.slice ao n cap) ∧ RRow w' w.heap.size (.slice ao n cap) rows) := by
    intro w
    rw [hrows]
    exact rows_any s w hs
  unfold parseL
  rw [← hrows] at hall ⊢
  obtain ⟨hR1, hR2⟩ := hall
  have hrl : rows.length ≤ 20000 := by simp at hR1; omega
  have HR2 := Lib.hid hR2
  have hsI : (s.size : Int) ≤ 100000 := by omega
  clear hR1 hR2 hrows hlen0
  go_enter Tryd.func6, Tryd.ntmps6
  go_wp2_with fail
  refine (HL2.out _).mono ?_
  rintro e w1 ⟨hB1, aoA, nA, capA, rfl, hW⟩
  have HB1 := Lib.hid hB1
  have HW := Lib.hid hW
  have hnA : nA = rows.length := by
    obtain ⟨ao, n, cap, hv, hn, _⟩ := rrow_form hW
    simp only [Value.slice.injEq] at hv
    rw [hv.2.1, hn.out]
  have HNA := Lib.hid hnA
  have hnb : nA ≤ 20000 := by omega
  clear hB1 hW hnA HL2 hrl
  go_wp2_with fail
  go_loopw [6, 7, 8] (fun lv ov iv wr => ∃ (i : Nat) (l : List RV) (op : Bool), iv = .int .i64 (i : Int) ∧ i ≤ nA ∧ ov = .bool op ∧ Hid (Recs wr w1.heap.size lv l) ∧ l.length ≤ i ∧ Hid (∀ x ∈ l, x.1.pairs.length ≤ i) ∧ Hid (op = true → l ≠ []) ∧ Hid (foldL i (l.map (·.1)) op (rows.drop i) = foldL 0 [] false rows) ∧ Below w1.heap.size w1 wr) (fun _ _ iv _ => nA - (intOf iv).toNat)
  case atStart => exact ⟨0, [], false, rfl, Nat.zero_le _, rfl, recs_made _, Nat.le_refl _, (fun x hx => by cases hx), (fun h => by cases h), rfl, (Below.refl _ _).alloc (Nat.le_refl _) _⟩
  case round =>
    obtain ⟨i, l, op, rfl, hi, rfl, hR, hli, hPL, hOP, hF, hB⟩ := hrel
    have hszw := hB.size
    have hw01 : w.heap.size ≤ w1.heap.size := HB1.out.size
    have HBW : Hid (Below w.heap.size w wr) := HB1.out.trans (hB.mono HB1.out.size)
    obtain ⟨ao, n, cap, rfl, hn, hnc⟩ := recs_form hR.out
    by_cases hlt : i < nA
    · have hltI : (i : Int) < (nA : Int) := by omega
      have hir : i < rows.length := by rw [← HNA.out]; exact hlt
      obtain ⟨g, o, rfl, hglt, c0, c1, c2⟩ := rrow_at HW.out i hir
      have hxt := HR2.out rows[i] (List.getElem_mem hir)
      have hF2 := hF.out
      rw [drop_at rows i hir] at hF2
      have d0 : wr.cell? ⟨g, o + i * 3, none⟩ = some (.string (bs rows[i].text)) := (hB.cell (p := ⟨g, o + i * 3, none⟩) hglt).trans c0
      have d1 : wr.cell? ⟨g, o + i * 3 + 1, none⟩ = some (.int .i64 (rows[i].no : Int)) := (hB.cell (p := ⟨g, o + i * 3 + 1, none⟩) hglt).trans c1
      have d2 : wr.cell? ⟨g, o + i * 3 + 2, none⟩ = some (.bool rows[i].lost) := (hB.cell (p := ⟨g, o + i * 3 + 2, none⟩) hglt).trans c2
      clear c0 c1 c2
      generalize rows[i] = x at d0 d1 d2 hxt hF2
      obtain ⟨X, no, lost⟩ := x
      simp only at hxt d0 d1 d2
      have HF := Lib.hid hF2
      have hver := ver_eq X
      have HBX : Hid (Below w1.heap.size w1 (wr.alloc (.cells #[.string (bs X), .int .i64 (no : Int), .bool lost] 46))) := hB.alloc hszw _
      have HRX : Hid (Recs (wr.alloc (.cells #[.string (bs X), .int .i64 (no : Int), .bool lost] 46)) w1.heap.size (.slice ao n cap) l) := recs_below hR.out ((Below.refl _ _).alloc (Nat.le_refl _) _)
      have HPL : Hid (∀ x ∈ l, x.1.pairs.length ≤ i + 1) := fun x hx => by have := hPL.out x hx; omega
      clear hF2 hF hir
      cases lost with
      | true =>
        have HST : Hid (foldL 0 [] false rows = .inl no) := by
          show _ = _
          rw [← HF.out]
          exact foldL_lost rfl
        clear HF hver
        go_wp2_with fail
        go_quiet (fail)
        go_wp2_with fail
        go_ret3
        exact parseE_err HST.out (below_drewN (HB1.out.trans (HBX.out.mono HB1.out.size)) _)
      | false =>
        by_cases hv : i = 0 ∧ X = version
        · obtain ⟨hi0, hXv⟩ := hv
          have HST : Hid (foldL (i + 1) (l.map (·.1)) op (rows.drop (i + 1)) = foldL 0 [] false rows) := by
            show _ = _
            rw [← HF.out]
            symm
            exact foldL_skip rfl (skip_ver hi0 hXv)
          have hv2 : ((bs X).toList == [118, 101, 114, 115, 105, 111, 110, 58, 32, 49]) = true := by rw [hver, hXv]; rfl
          have q1 : ((i : Int) == 0) = true := by rw [beq_iff_eq]; omega
          clear hver HF hXv hi0
          go_wp2_with fail
          go_roundw
          case rel => exact ⟨i + 1, l, op, by go_num, by omega, rfl, HRX, by omega, HPL, hOP, HST, HBX.out⟩
          case measure => simp [intOf]; omega
        · have hv3 : (((i : Int) == 0) = true ∧ ((bs X).toList == [118, 101, 114, 115, 105, 111, 110, 58, 32, 49]) = false) ∨ ((i : Int) == 0) = false := by
            rcases Classical.em (i = 0) with h | h
            · refine Or.inl ⟨by rw [beq_iff_eq]; omega, ?_⟩
              rw [hver]
              exact decide_eq_false (fun h2 => hv ⟨h, h2⟩)
            · exact Or.inr (by rw [beq_eq_false_iff_ne]; omega)
          clear hver
          by_cases hX0 : X = []
          · have hskip := skip_no hv (by rw [hX0]; simp)
            have HST : Hid (foldL (i + 1) (l.map (·.1)) false (rows.drop (i + 1)) = foldL 0 [] false rows) := by
              show _ = _
              rw [← HF.out]
              symm
              exact foldL_blank rfl hskip hX0
            have hxe : (bs X).toList = [] := by rw [hX0]; exact bs_nil
            have hxz : ((bs X).size : Int) = 0 := by rw [hX0]; rfl
            clear HF hskip hX0 hv
            rcases hv3 with ⟨q1, q2⟩ | q1
            · clear q2
              go_wp2_with fail
              go_roundw
              case rel => exact ⟨i + 1, l, false, by go_num, by omega, rfl, HRX, by omega, HPL, (fun h => by cases h), HST, HBX.out⟩
              case measure => simp [intOf]; omega
            · go_wp2_with fail
              go_roundw
              case rel => exact ⟨i + 1, l, false, by go_num, by omega, rfl, HRX, by omega, HPL, (fun h => by cases h), HST, HBX.out⟩
              case measure => simp [intOf]; omega
          · obtain ⟨x1, x2⟩ := bs_ne hX0
            have hxp : 0 < (bs X).size := by
              rw [bs_size]
              exact List.length_pos_iff.2 hX0
            have hxpI : (0 : Int) < ((bs X).size : Int) := by omega
            have hhd : X.head? = some ((bs X)[0]'hxp) := head_s (s := bs X) hxp
            obtain ⟨ch, hch⟩ : ∃ c, (bs X)[0]'hxp = c := ⟨_, rfl⟩
            rw [hch] at hhd
            by_cases hp : X.head? = some 35
            · have HST : Hid (foldL (i + 1) (l.map (·.1)) op (rows.drop (i + 1)) = foldL 0 [] false rows) := by
                show _ = _
                rw [← HF.out]
                symm
                exact foldL_skip rfl (skip_hash hp)
              have hq : ((ch.toNat : Int) == 35) = true := by
                rw [hhd, Option.some.injEq] at hp
                rw [hp]; rfl
              clear HF hhd hp hX0 hv
              rcases hv3 with ⟨q1, q2⟩ | q1
              all_goals
                go_wp2_with fail
                go_roundw
                case rel => exact ⟨i + 1, l, op, by go_num, by omega, rfl, HRX, by omega, HPL, hOP, HST, HBX.out⟩
                case measure => simp [intOf]; omega
            · have hskip := skip_no hv hp
              have hq : ((ch.toNat : Int) == 35) = false := by
                rw [beq_eq_false_iff_ne]
                intro e
                apply hp
                rw [hhd]
                congr 1
                apply UInt8.toNat_inj.1
                show _ = 35
                omega
              clear hhd hp hv
              rcases hv3 with ⟨q1, q2⟩ | q1
              all_goals
                go_wp2_with fail
                refine (rpair_any (bs X) _ (by rw [bs_size]; omega)).mono ?_
                intro e w2 hE
                obtain ⟨hB2, hE2⟩ := pairE_bs hE
                have HB2 : Hid (Below w1.heap.size w1 w2) := HBX.out.trans (hB2.mono HBX.out.size)
                have HR2' := Lib.hid (recs_below HRX.out hB2)
                have hx1 : w2.cell? ⟨wr.heap.size, 1, none⟩ = some (.int .i64 (no : Int)) := (hB2.cell (p := ⟨wr.heap.size, 1, none⟩) (by simp)).trans (by rw [World.cell?_alloc_new]; rfl)
                have hsz2 : wr.heap.size < w2.heap.size := by have := hB2.size; simp at this; omega
                clear hB2 hE
                rcases hE2 with ⟨hpn, t, v, rfl⟩ | ⟨a, hpa, rfl⟩
                · have HST : Hid (foldL 0 [] false rows = .inl no) := by
                    show _ = _
                    rw [← HF.out]
                    exact foldL_none rfl hskip hX0 hpn
                  clear HF hskip hX0 hpn
                  go_wp2_with fail
                  go_quiet (fail)
                  go_wp2_with fail
                  go_ret3
                  exact parseE_err HST.out (below_drewN ((HB1.out.trans (HB2.out.mono HB1.out.size)).alloc (by omega) _) _)
                · have hpa : pairL X = some a := hpa
                  have hal := pairL_len hpa
                  have HIN : Hid (∀ w, Calls Tryd.prog 15 #[.string (bs a.1)] w fun e w' => e = .returned (.bool (isDn a.1)) ∧ Below w.heap.size w w') := fun w => name_any (bs a.1) w (by rw [bs_size]; omega)
                  obtain ⟨W3, hW3⟩ : ∃ W3, w2.alloc (.cells #[.string (bs a.1), .string (bs a.2)] 33) = W3 := ⟨_, rfl⟩
                  have hB3 : Below w2.heap.size w2 W3 := by rw [← hW3]; exact (Below.refl _ _).alloc (Nat.le_refl _) _
                  have hp0 : W3.cell? ⟨w2.heap.size, 0, none⟩ = some (.string (bs a.1)) := by rw [← hW3, World.cell?_alloc_new]; rfl
                  have hp1 : W3.cell? ⟨w2.heap.size, 1, none⟩ = some (.string (bs a.2)) := by rw [← hW3, World.cell?_alloc_new]; rfl
                  have hy1 : W3.cell? ⟨wr.heap.size, 1, none⟩ = some (.int .i64 (no : Int)) := (hB3.cell (p := ⟨wr.heap.size, 1, none⟩) hsz2).trans hx1
                  have hsz3 : w2.heap.size < W3.heap.size := by rw [← hW3]; simp
                  have HH3 : Hid (Held w1 W3 (.slice ao n cap) l wr.heap.size w2.heap.size no a) := ⟨HB2.out.trans (hB3.mono HB2.out.size), recs_below HR2'.out hB3, by omega, hsz3, hy1, hp0, hp1⟩
                  have HSKIP := Lib.hid hskip
                  have HX0 := Lib.hid hX0
                  have HPA := Lib.hid hpa
                  clear hB3 hskip hX0 hpa hal hy1
                  obtain ⟨px, hpx⟩ : ∃ px, wr.heap.size = px := ⟨_, rfl⟩
                  obtain ⟨pa, hpaE⟩ : ∃ pa, w2.heap.size = pa := ⟨_, rfl⟩
                  clear hpx hpaE px pa
                  cases hb : isDn a.1 with
                  | true =>
                    rw [hb] at HIN
                    have HDN := Lib.hid hb
                    clear hb
                    cases op with
                    | true =>
                      have HST : Hid (foldL 0 [] false rows = .inl no) := by
                        show _ = _
                        rw [← HF.out]
                        exact foldL_bad rfl HSKIP.out HX0.out HPA.out HDN.out
                      clear HF
                      go_wp2_with fail
                      refine (HIN.out _).mono ?_
                      rintro e w4 ⟨rfl, hB4⟩
                      obtain ⟨k1, k2, k3, k4, k5, k6, k7⟩ := held_below HH3.out hB4
                      have HBE : Hid (Below w.heap.size w w4) := HB1.out.trans (k1.mono hw01)
                      clear hB4 hW3 k1 k2 hp0 hp1 hx1
                      go_wp2_with fail
                      go_quiet (fail)
                      go_wp2_with fail
                      go_ret3
                      exact parseE_err HST.out (below_drewN HBE.out _)
                    | false =>
                      have HST : Hid (foldL (i + 1) (l.map (·.1) ++ [⟨a.2, []⟩]) true (rows.drop (i + 1)) = foldL 0 [] false rows) := by
                        show _ = _
                        rw [← HF.out]
                        symm
                        exact foldL_push rfl HSKIP.out HX0.out HPA.out HDN.out
                      clear HF
                      go_wp2_with fail
                      refine (HIN.out _).mono ?_
                      rintro e w4 ⟨rfl, hB4⟩
                      have HH4 := Lib.hid (held_below HH3.out hB4)
                      obtain ⟨_, _, m3, m4, m5, m6, m7⟩ := HH4.out
                      clear hB4 hW3 hp0 hp1 hx1
                      go_wp2_with fail
                      refine (HIN.out _).mono ?_
                      rintro e w5 ⟨rfl, hB5⟩
                      obtain ⟨k1, k2, k3, k4, k5, k6, k7⟩ := held_below HH4.out hB5
                      clear hB5 m5 m6 m7
                      obtain ⟨ao5, n5, cap5, w7, hap, hR5, hB5⟩ := recs_push a.2 (bs a.2) rfl k2 (by omega) k1.size
                      have HR5 := Lib.hid hR5
                      have HB5 := Lib.hid (k1.trans hB5)
                      have HPL5 : Hid (∀ x ∈ l ++ [((⟨a.2, []⟩ : Rec), Value.slice none 0 0)], x.1.pairs.length ≤ i + 1) := by
                        intro x hx
                        rcases List.mem_append.1 hx with hx | hx
                        · exact HPL.out x hx
                        · simp only [List.mem_singleton] at hx; subst hx; simp
                      have HST5 : Hid (foldL (i + 1) ((l ++ [((⟨a.2, []⟩ : Rec), Value.slice none 0 0)]).map (·.1)) true (rows.drop (i + 1)) = foldL 0 [] false rows) := by
                        show _ = _
                        rw [List.map_append]
                        exact HST.out
                      clear hR5 hB5 HST k1 k2
                      go_wp2_with (at_builtin; refine Lib.wpList_append_run _ rfl _ _ _ _ rfl _ _ rfl rfl _ _ hap ?_)
                      go_roundw
                      case rel => exact ⟨i + 1, _, true, by go_num, by omega, rfl, HR5, by simp; omega, HPL5, (fun _ h => by simp at h), HST5, HB5.out⟩
                      case measure => simp [intOf]; omega
                  | false =>
                    rw [hb] at HIN
                    have HDN := Lib.hid hb
                    clear hb
                    cases op with
                    | true =>
                      have HST : Hid (foldL (i + 1) (addPair (l.map (·.1)) a) true (rows.drop (i + 1)) = foldL 0 [] false rows) := by
                        show _ = _
                        rw [← HF.out]
                        symm
                        exact foldL_add rfl HSKIP.out HX0.out HPA.out HDN.out
                      have HNE : Hid (l ≠ []) := hOP.out rfl
                      clear HF
                      go_wp2_with fail
                      refine (HIN.out _).mono ?_
                      rintro e w4 ⟨rfl, hB4⟩
                      have HH4 := Lib.hid (held_below HH3.out hB4)
                      obtain ⟨_, _, m3, m4, m5, m6, m7⟩ := HH4.out
                      clear hB4 hW3 hp0 hp1 hx1
                      go_wp2_with fail
                      refine (HIN.out _).mono ?_
                      rintro e w5 ⟨rfl, hB5⟩
                      obtain ⟨k1, k2, k3, k4, k5, k6, k7⟩ := held_below HH4.out hB5
                      clear hB5 m5 m6 m7
                      rcases List.eq_nil_or_concat l with rfl | ⟨l0, z, hl0⟩
                      · exact absurd rfl HNE.out
                      rw [List.concat_eq_append] at hl0
                      subst hl0
                      obtain ⟨k, hk⟩ : ∃ k, Hid (k = l0.length) := ⟨_, rfl⟩
                      have hn1 : n = k + 1 := by have := hn.out; rw [List.length_append] at this; simp at this; rw [hk.out]; omega
                      have hkb : k ≤ 20000 := by have := hk.out; rw [List.length_append] at hli; simp at hli; omega
                      have hzp := HPL.out z (by simp)
                      have hRd : Recs w5.drew w1.heap.size (.slice ao n cap) (l0 ++ [z]) := recs_below k2 (Below.refl _ _).drew
                      have hW13 := k1.size
                      obtain ⟨g2, o2, hao, hBg2, hg2lt, e0, v5, w7, hap, hB5, ⟨y5, e5⟩, f5, ⟨av, mv, cv, hv5⟩, hR5⟩ := recs_add a (bs a.1) (bs a.2) rfl rfl hRd (by rw [hn1, hk.out]) (by omega) hW13
                      rw [hao, hn1, ← hk.out] at hR5
                      rw [← hk.out] at e0 e5 f5
                      subst hv5
                      have hap' : (Builtin.append_ #[29, 29] 29 #[z.2, .slice (some ⟨w5.heap.size, 0, none⟩) 1 1]).run Tryd.prog (w5.alloc (.cells #[.string (bs a.1), .string (bs a.2)] 33)).drew = .ok (.slice av mv cv) w7 := hap
                      have e0' : w5.cell? ⟨g2, o2 + k * 2 + 1, none⟩ = some z.2 := e0
                      have e0a : (w5.alloc (.cells #[.string (bs a.1), .string (bs a.2)] 33)).cell? ⟨g2, o2 + k * 2 + 1, none⟩ = some z.2 := (((Below.refl _ w5).alloc (Nat.le_refl _) _).cell (p := ⟨g2, o2 + k * 2 + 1, none⟩) hg2lt).trans e0'
                      have HR5 := Lib.hid hR5
                      have HB5 : Hid (Below w1.heap.size w1 w7) := k1.drew.trans hB5
                      have HAP := Lib.hid hap'
                      have hb2 : w1.heap.size ≤ g2 := hBg2
                      obtain ⟨zv, hzv⟩ : ∃ zv, z.2 = zv := ⟨_, rfl⟩
                      rw [hzv] at e0' e0a HAP
                      have iw : IntKind.i64.wrap (k : Int) = (k : Int) := IntWalk.i64_in _ (by omega)
                      have iw2 : (k : Int) < (k : Int) + 1 := by omega
                      have HPL5 : Hid (∀ x ∈ l0 ++ [((⟨z.1.name, z.1.pairs ++ [a]⟩ : Rec), Value.slice av mv cv)], x.1.pairs.length ≤ i + 1) := by
                        intro x hx
                        rcases List.mem_append.1 hx with hx | hx
                        · exact HPL.out x (by simp [hx])
                        · simp only [List.mem_singleton] at hx; subst hx
                          have := hPL.out z (by simp)
                          simp only [List.length_append, List.length_singleton]
                          omega
                      have HST5 : Hid (foldL (i + 1) ((l0 ++ [((⟨z.1.name, z.1.pairs ++ [a]⟩ : Rec), Value.slice av mv cv)]).map (·.1)) true (rows.drop (i + 1)) = foldL 0 [] false rows) := by
                        show _ = _
                        rw [← addPair_map]
                        exact HST.out
                      rw [hao, hn1]
                      clear hap hap' hRd e0 hB5 hR5 hzv k1 k2 HST hn1 hao
                      go_wp2_with fail
                      go_region_law (refine kt.step_append_run rfl _ _ 29 29 rfl _ _ (by simp [Act.eval, Act.put]) (by simp [Act.eval, Act.put]) _ _ HAP.out ?_)
                      all_goals
                        go_wp2_with fail
                        go_roundw
                        case rel => exact ⟨i + 1, _, true, by go_num, by omega, rfl, HR5, by simp at hli ⊢; omega, HPL5, (fun _ h => by simp at h), HST5, HB5.out.setCell (p := ⟨g2, _, none⟩) hb2 _⟩
                        case measure => simp [intOf]; omega
                    | false =>
                      have HST : Hid (foldL 0 [] false rows = .inl no) := by
                        show _ = _
                        rw [← HF.out]
                        exact foldL_bad rfl HSKIP.out HX0.out HPA.out HDN.out
                      clear HF
                      go_wp2_with fail
                      refine (HIN.out _).mono ?_
                      rintro e w4 ⟨rfl, hB4⟩
                      have HH4 := Lib.hid (held_below HH3.out hB4)
                      obtain ⟨_, _, m3, m4, m5, m6, m7⟩ := HH4.out
                      clear hB4 hW3 hp0 hp1 hx1
                      go_wp2_with fail
                      refine (HIN.out _).mono ?_
                      rintro e w5 ⟨rfl, hB5⟩
                      obtain ⟨k1, k2, k3, k4, k5, k6, k7⟩ := held_below HH4.out hB5
                      clear hB5 m5 m6 m7
                      have HBE : Hid (Below w.heap.size w w5) := HB1.out.trans (k1.mono hw01)
                      clear k1 k2
                      go_wp2_with fail
                      go_quiet (fail)
                      go_wp2_with fail
                      go_ret3
                      exact parseE_err HST.out (below_drewN HBE.out _)
    · obtain rfl : i = nA := by omega
      have HEND : Hid (foldL 0 [] false rows = .inr (l.map (·.1))) := by
        show _ = _
        rw [← hF.out, List.drop_of_length_le (by rw [HNA.out]; exact Nat.le_refl _)]
        rfl
      go_wp2_with fail
      go_ret3
      exact parseE_ok HEND.out HBW.out (recs_mono hR.out HB1.out.size)
end ldw
end Go.Proofs.YtifplgnabkkbjaaDoor
