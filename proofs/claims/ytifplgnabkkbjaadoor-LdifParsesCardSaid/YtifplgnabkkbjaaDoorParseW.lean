/- The walk of Parse, where every line goes on with one. -/
import Derived.Test.YtifplgnabkkbjaaDoorLinesW
import Derived.Test.YtifplgnabkkbjaaDoorRecM
import Derived.Test.YtifplgnabkkbjaaDoorParseP
import Derived.Test.YtifplgnabkkbjaaDoorTyR
namespace Go.Proofs.YtifplgnabkkbjaaDoor
open Go.RowKit
namespace ldw
open ldp
set_option linter.unusedVariables false
set_option linter.unusedSimpArgs false
/-- what Parse leaves -/
def ParseE (o : Nat ⊕ List Rec) (w : World) (e : Ending) (w' : World) : Prop := Below w.heap.size w w' ∧ match o with
  | .inl k => e = .returned (.tuple #[.slice none 0 0, .int .i64 (k : Int), .int .i64 4])
  | .inr recs => ∃ ao n cap l, e = .returned (.tuple #[.slice ao n cap, .int .i64 0, .int .i64 0]) ∧ Recs w' w.heap.size (.slice ao n cap) l ∧ l.map (·.1) = recs
theorem parseE_err {o : Nat ⊕ List Rec} {w w' : World} {k : Nat} (h : o = .inl k) (hb : Below w.heap.size w w') : ParseE o w (.returned (.tuple #[.slice none 0 0, .int .i64 (k : Int), .int .i64 4])) w' := by
  subst h
  exact ⟨hb, rfl⟩
theorem parseE_ok {o : Nat ⊕ List Rec} {w w' : World} {ao : Option Addr} {n cap : Nat} {l : List RV} (h : o = .inr (l.map (·.1))) (hb : Below w.heap.size w w') (hr : Recs w' w.heap.size (.slice ao n cap) l) : ParseE o w (.returned (.tuple #[.slice ao n cap, .int .i64 0, .int .i64 0])) w' := by
  subst h
  exact ⟨hb, ao, n, cap, l, rfl, hr, rfl⟩
theorem recs_mono {w : World} {B C : Nat} {v : Value} {l : List RV} (h : Recs w B v l) (hc : C ≤ B) : Recs w C v l :=
  ⟨kt.segX_mono h.outer hc, fun j h1 => ⟨kt.segX_mono (h.inner j h1).1 hc, (h.inner j h1).2⟩, h.apart⟩
theorem foldL_skip {i : Nat} {recs : List Rec} {op : Bool} {x : Row} {r : List Row} (hl : x.lost = false) (h : skipL i x.text = true) : foldL i recs op (x :: r) = foldL (i + 1) recs op r := by
  show (if x.lost = true then _ else _) = _
  rw [if_neg (by rw [hl]; simp), if_pos h]
theorem foldL_blank {i : Nat} {recs : List Rec} {op : Bool} {x : Row} {r : List Row} (hl : x.lost = false) (h : skipL i x.text = false) (h0 : x.text = []) : foldL i recs op (x :: r) = foldL (i + 1) recs false r := by
  show (if x.lost = true then _ else _) = _
  rw [if_neg (by rw [hl]; simp), if_neg (by rw [h]; simp), if_pos h0]
theorem foldL_none {i : Nat} {recs : List Rec} {op : Bool} {x : Row} {r : List Row} (hl : x.lost = false) (h : skipL i x.text = false) (h0 : x.text ≠ []) (hp : pairL x.text = none) : foldL i recs op (x :: r) = .inl x.no := by
  show (if x.lost = true then _ else _) = _
  rw [if_neg (by rw [hl]; simp), if_neg (by rw [h]; simp), if_neg h0, hp]
theorem foldL_bad {i : Nat} {recs : List Rec} {op : Bool} {x : Row} {r : List Row} {a : Pr} (hl : x.lost = false) (h : skipL i x.text = false) (h0 : x.text ≠ []) (hp : pairL x.text = some a) (hd : isDn a.1 = op) : foldL i recs op (x :: r) = .inl x.no := by
  show (if x.lost = true then _ else _) = _
  rw [if_neg (by rw [hl]; simp), if_neg (by rw [h]; simp), if_neg h0, hp]
  simp only [if_pos hd]
theorem foldL_add {i : Nat} {recs : List Rec} {x : Row} {r : List Row} {a : Pr} (hl : x.lost = false) (h : skipL i x.text = false) (h0 : x.text ≠ []) (hp : pairL x.text = some a) (hd : isDn a.1 = false) : foldL i recs true (x :: r) = foldL (i + 1) (addPair recs a) true r := by
  show (if x.lost = true then _ else _) = _
  rw [if_neg (by rw [hl]; simp), if_neg (by rw [h]; simp), if_neg h0, hp]
  simp only [hd, Bool.false_eq_true, if_false, if_true]
theorem foldL_push {i : Nat} {recs : List Rec} {x : Row} {r : List Row} {a : Pr} (hl : x.lost = false) (h : skipL i x.text = false) (h0 : x.text ≠ []) (hp : pairL x.text = some a) (hd : isDn a.1 = true) : foldL i recs false (x :: r) = foldL (i + 1) (recs ++ [⟨a.2, []⟩]) true r := by
  show (if x.lost = true then _ else _) = _
  rw [if_neg (by rw [hl]; simp), if_neg (by rw [h]; simp), if_neg h0, hp]
  simp only [hd, Bool.true_eq_false, if_false, Bool.false_eq_true]
theorem addPair_map (l : List RV) (x : RV) (a : Pr) (v : Value) : addPair ((l ++ [x]).map (·.1)) a = (l ++ [((⟨x.1.name, x.1.pairs ++ [a]⟩ : Rec), v)]).map (·.1) := by
  rw [List.map_append, List.map_append]
  unfold addPair
  simp only [List.map_cons, List.map_nil, List.getLast?_concat, List.dropLast_concat]
theorem pairL_len {l : List UInt8} {a : Pr} (h : pairL l = some a) : a.1.length ≤ l.length := by
  by_cases hm : (58 : UInt8) ∈ l
  · obtain ⟨A, R, rfl, hA⟩ := splitL hm
    rw [pairL_at hA] at h
    have : a.1 = A := by
      split at h
      · split at h
        · cases hD : b64p.D (List.dropWhile (fun x => x == 32) R.tail) with
          | none => rw [hD] at h; cases h
          | some v => rw [hD] at h; cases h; rfl
        · split at h
          · cases h; rfl
          · cases h
      · cases h
    rw [this]
    simp
  · rw [pairL_none hm] at h; cases h
theorem drop_at {α : Type} (l : List α) (i : Nat) (h : i < l.length) : l.drop i = l[i] :: l.drop (i + 1) := List.drop_eq_getElem_cons h
theorem ver_eq (X : List UInt8) : ((bs X).toList == [118, 101, 114, 115, 105, 111, 110, 58, 32, 49]) = decide (X = version) := by
  rw [Lib.toList_data, bs_data, Bool.eq_iff_iff, beq_iff_eq, decide_eq_true_iff]
  rfl
theorem pairE_bs {o : Option Pr} {w : World} {e : Ending} {w' : World} (h : PairE o w e w') : Below w.heap.size w w' ∧ ((o = none ∧ ∃ t v : ByteArray, e = .returned (.tuple #[.agg #[.string t, .string v], .bool false])) ∨ ∃ a, o = some a ∧ e = .returned (.tuple #[.agg #[.string (bs a.1), .string (bs a.2)], .bool true])) := by
  refine ⟨h.1, ?_⟩
  have h2 := h.2
  cases o with
  | none => exact Or.inl ⟨rfl, h2⟩
  | some a => exact Or.inr ⟨a, rfl, h2⟩
set_option maxRecDepth 20000 in
set_option maxHeartbeats 16000000 in
theorem parse_ok (s : ByteArray) (w : World) (hs : s.size ≤ 20000) (hok : (rowsP [] 0 (raw s.data.toList)).2 = none) : Calls Tryd.prog 5 #[.string s] w (ParseE (foldL 0 [] false (rowsP [] 0 (raw s.data.toList)).1) w) := by
  have HLN := Lib.hid (lines_any s w hs)
  obtain ⟨rows, hrows⟩ : ∃ rows, rows = (rowsP [] 0 (raw s.data.toList)).1 := ⟨_, rfl⟩
  have hall := rowsP_all 20000 (raw s.data.toList) [] 0 (fun x hx => by cases hx) (by have := raw_sum _ s.data.toList (Nat.le_refl _); rw [kt.size_len] at this; omega)
  have hlen0 := raw_len _ s.data.toList (Nat.le_refl _)
  rw [kt.size_len] at hlen0
  rw [← hrows] at hall ⊢
  obtain ⟨hR1, hR2, _⟩ := hall
  have hrl : rows.length ≤ 20000 := by simp at hR1; omega
  have HR2 := Lib.hid hR2
  have hsI : (s.size : Int) ≤ 100000 := by omega
  have HL2 : Hid (Calls Tryd.prog 8 #[.string s] w fun e w' => Below w.heap.size w w' ∧ ∃ ao n cap, e = .returned (.tuple #[.slice ao n cap, .int .i64 0, .bool true]) ∧ WRow w' w.heap.size (.slice ao n cap) rows) := by
    refine HLN.out.mono ?_
    intro e w' h
    refine ⟨h.1, ?_⟩
    have h2 := h.2
    rw [hok] at h2
    rw [hrows]
    exact h2
  clear hR1 hR2 hrows hok hlen0 HLN
  go_enter Tryd.func5, Tryd.ntmps5
  go_wp2_with fail
  refine HL2.out.mono ?_
  rintro e w1 ⟨hB1, aoA, nA, capA, rfl, hW⟩
  have HB1 := Lib.hid hB1
  have HW := Lib.hid hW
  have hnA : nA = rows.length := by
    obtain ⟨ao, n, cap, hv, hn, _⟩ := wrow_form hW
    simp only [Value.slice.injEq] at hv
    rw [hv.2.1, hn.out]
  have HNA := Lib.hid hnA
  have hnb : nA ≤ 20000 := by omega
  clear hB1 hW hnA HL2 hrl
  go_wp2_with fail
  go_loopw [9, 10, 36] (fun lv ov iv wr => ∃ (i : Nat) (l : List RV) (op : Bool), iv = .int .i64 (i : Int) ∧ i ≤ nA ∧ ov = .bool op ∧ Hid (Recs wr w1.heap.size lv l) ∧ l.length ≤ i ∧ Hid (∀ x ∈ l, x.1.pairs.length ≤ i) ∧ Hid (op = true → l ≠ []) ∧ Hid (foldL i (l.map (·.1)) op (rows.drop i) = foldL 0 [] false rows) ∧ Below w1.heap.size w1 wr) (fun _ _ iv _ => nA - (intOf iv).toNat)
  case atStart => exact ⟨0, [], false, rfl, Nat.zero_le _, rfl, recs_nil _ _, Nat.le_refl _, (fun x hx => by cases hx), (fun h => by cases h), rfl, Below.refl _ _⟩
  case round =>
    obtain ⟨i, l, op, rfl, hi, rfl, hR, hli, hPL, hOP, hF, hB⟩ := hrel
    have hszw := hB.size
    have hw01 : w.heap.size ≤ w1.heap.size := HB1.out.size
    have HBW : Hid (Below w.heap.size w wr) := HB1.out.trans (hB.mono HB1.out.size)
    obtain ⟨ao, n, cap, rfl, hn, hnc⟩ := recs_form hR.out
    by_cases hlt : i < nA
    · have hltI : (i : Int) < (nA : Int) := by omega
      have hir : i < rows.length := by rw [← HNA.out]; exact hlt
      obtain ⟨g, o, rfl, hglt, c0, c1⟩ := wrow_at HW.out i hir
      obtain ⟨hxt, hxn, hxl⟩ := HR2.out rows[i] (List.getElem_mem hir)
      have hF2 := hF.out
      rw [drop_at rows i hir] at hF2
      have d0 : wr.cell? ⟨g, o + i * 2, none⟩ = some (.string (bs rows[i].text)) := (hB.cell (p := ⟨g, o + i * 2, none⟩) hglt).trans c0
      have d1 : wr.cell? ⟨g, o + i * 2 + 1, none⟩ = some (.int .i64 (rows[i].no : Int)) := (hB.cell (p := ⟨g, o + i * 2 + 1, none⟩) hglt).trans c1
      clear c0 c1
      generalize rows[i] = x at d0 d1 hxt hxn hxl hF2
      obtain ⟨X, no, lost⟩ := x
      simp only at hxt hxl hxn d0 d1
      subst hxl
      have HF := Lib.hid hF2
      have hHP : ∀ w, Calls Tryd.prog 10 #[.string (bs X), .string ⟨#[35]⟩] w fun e w' => e = .returned (.bool (decide (X.head? = some 35))) ∧ w = w' := by
        intro w
        refine (Tryd.strings_HasPrefix (bs X) ⟨#[35]⟩ w).mono ?_
        rintro e w' ⟨rfl, rfl⟩
        refine ⟨?_, rfl⟩
        show Ending.returned (.bool (Lib.hasPrefix X [35])) = _
        rw [pre_one]
      have HHP := Lib.hid hHP
      have hver := ver_eq X
      have HBX : Hid (Below w1.heap.size w1 (wr.alloc (.cells #[.string (bs X), .int .i64 (no : Int)] 39))) := hB.alloc hszw _
      have HRX : Hid (Recs (wr.alloc (.cells #[.string (bs X), .int .i64 (no : Int)] 39)) w1.heap.size (.slice ao n cap) l) := recs_below hR.out ((Below.refl _ _).alloc (Nat.le_refl _) _)
      have HPL : Hid (∀ x ∈ l, x.1.pairs.length ≤ i + 1) := fun x hx => by have := hPL.out x hx; omega
      clear hF2 hHP hF hir
      by_cases hp : X.head? = some 35
      · have hd : decide (X.head? = some 35) = true := decide_eq_true hp
        rw [hd] at HHP
        have HST : Hid (foldL (i + 1) (l.map (·.1)) op (rows.drop (i + 1)) = foldL 0 [] false rows) := by
          show _ = _
          rw [← HF.out]
          symm
          exact foldL_skip rfl (by unfold skipL; rw [hd]; rfl)
        clear hp hd hver HF
        go_wp2_with fail
        refine (HHP.out _).mono ?_
        rintro e w2 ⟨rfl, rfl⟩
        go_wp2_with fail
        go_roundw
        case rel => exact ⟨i + 1, l, op, by go_num, by omega, rfl, HRX, by omega, HPL, hOP, HST, HBX.out⟩
        case measure => simp [intOf]; omega
      · have hd : decide (X.head? = some 35) = false := decide_eq_false hp
        rw [hd] at HHP
        by_cases hv : i = 0 ∧ X = version
        · obtain ⟨hi0, hXv⟩ := hv
          have hskip : skipL i X = true := by unfold skipL; rw [hi0, hXv]; decide
          have HST : Hid (foldL (i + 1) (l.map (·.1)) op (rows.drop (i + 1)) = foldL 0 [] false rows) := by
            show _ = _
            rw [← HF.out]
            symm
            exact foldL_skip rfl hskip
          have hv2 : ((bs X).toList == [118, 101, 114, 115, 105, 111, 110, 58, 32, 49]) = true := by rw [hver, hXv]; rfl
          have q1 : ((i : Int) == 0) = true := by rw [beq_iff_eq]; omega
          clear hp hd hver HF hskip hXv hi0
          go_wp2_with fail
          refine (HHP.out _).mono ?_
          rintro e w2 ⟨rfl, rfl⟩
          go_wp2_with fail
          go_roundw
          case rel => exact ⟨i + 1, l, op, by go_num, by omega, rfl, HRX, by omega, HPL, hOP, HST, HBX.out⟩
          case measure => simp [intOf]; omega
        · have hskip : skipL i X = false := by
            unfold skipL
            rw [hd, Bool.false_or]
            rcases Classical.em (i = 0) with h | h
            · rw [decide_eq_false (p := X = version) (fun h2 => hv ⟨h, h2⟩)]; simp
            · rw [decide_eq_false h]; rfl
          have hv3 : (((i : Int) == 0) = true ∧ ((bs X).toList == [118, 101, 114, 115, 105, 111, 110, 58, 32, 49]) = false) ∨ ((i : Int) == 0) = false := by
            rcases Classical.em (i = 0) with h | h
            · refine Or.inl ⟨by rw [beq_iff_eq]; omega, ?_⟩
              rw [hver]
              exact decide_eq_false (fun h2 => hv ⟨h, h2⟩)
            · exact Or.inr (by rw [beq_eq_false_iff_ne]; omega)
          clear hp hd hver hv
          by_cases hX0 : X = []
          · have HST : Hid (foldL (i + 1) (l.map (·.1)) false (rows.drop (i + 1)) = foldL 0 [] false rows) := by
              show _ = _
              rw [← HF.out]
              symm
              exact foldL_blank rfl hskip hX0
            have hxe : (bs X).toList = [] := by rw [hX0]; exact bs_nil
            have HOP2 : Hid (false = true → l ≠ []) := fun h => by cases h
            clear HF hskip hX0
            rcases hv3 with ⟨q1, q2⟩ | q1
            · clear q2
              go_wp2_with fail
              refine (HHP.out _).mono ?_
              rintro e w2 ⟨rfl, rfl⟩
              go_wp2_with fail
              go_roundw
              case rel => exact ⟨i + 1, l, false, by go_num, by omega, rfl, HRX, by omega, HPL, HOP2, HST, HBX.out⟩
              case measure => simp [intOf]; omega
            · go_wp2_with fail
              refine (HHP.out _).mono ?_
              rintro e w2 ⟨rfl, rfl⟩
              go_wp2_with fail
              go_roundw
              case rel => exact ⟨i + 1, l, false, by go_num, by omega, rfl, HRX, by omega, HPL, HOP2, HST, HBX.out⟩
              case measure => simp [intOf]; omega
          · obtain ⟨x1, x2⟩ := bs_ne hX0
            rcases hv3 with ⟨q1, q2⟩ | q1
            all_goals
              go_wp2_with fail
              refine (HHP.out _).mono ?_
              rintro e w2 ⟨rfl, rfl⟩
              go_wp2_with fail
              refine (pair_any (bs X) _ (by rw [bs_size]; omega)).mono ?_
              intro e w2 hE
              obtain ⟨hB2, hE2⟩ := pairE_bs hE
              have HB2 : Hid (Below w1.heap.size w1 w2) := HBX.out.trans (hB2.mono HBX.out.size)
              have HR2' := Lib.hid (recs_below HRX.out hB2)
              have hx0 : w2.cell? ⟨wr.heap.size, 0, none⟩ = some (.string (bs X)) := (hB2.cell (p := ⟨wr.heap.size, 0, none⟩) (by simp)).trans (by rw [World.cell?_alloc_new]; rfl)
              have hx1 : w2.cell? ⟨wr.heap.size, 1, none⟩ = some (.int .i64 (no : Int)) := (hB2.cell (p := ⟨wr.heap.size, 1, none⟩) (by simp)).trans (by rw [World.cell?_alloc_new]; rfl)
              have hsz2 : wr.heap.size < w2.heap.size := by have := hB2.size; simp at this; omega
              clear hB2 hE
              rcases hE2 with ⟨hpn, t, v, rfl⟩ | ⟨a, hpa, rfl⟩
              · have HST : Hid (foldL 0 [] false rows = .inl no) := by
                  show _ = _
                  rw [← HF.out]
                  exact foldL_none rfl hskip hX0 hpn
                clear HF hskip hX0 hpn
                go_wp2_with fail
                go_quiet (fail)
                go_wp2_with fail
                go_ret3
                exact parseE_err HST.out (below_drewN ((HB1.out.trans (HB2.out.mono HB1.out.size)).alloc (by omega) _) _)
              · have hpa : pairL X = some a := hpa
                have hal := pairL_len hpa
                have HIN : Hid (∀ w, Calls Tryd.prog 12 #[.string (bs a.1)] w fun e w' => e = .returned (.bool (isDn a.1)) ∧ w = w') := fun w => isName_any (bs a.1) w (by rw [bs_size]; omega)
                obtain ⟨W3, hW3⟩ : ∃ W3, w2.alloc (.cells #[.string (bs a.1), .string (bs a.2)] 33) = W3 := ⟨_, rfl⟩
                have hB3 : Below w2.heap.size w2 W3 := by rw [← hW3]; exact (Below.refl _ _).alloc (Nat.le_refl _) _
                have hp0 : W3.cell? ⟨w2.heap.size, 0, none⟩ = some (.string (bs a.1)) := by rw [← hW3, World.cell?_alloc_new]; rfl
                have hp1 : W3.cell? ⟨w2.heap.size, 1, none⟩ = some (.string (bs a.2)) := by rw [← hW3, World.cell?_alloc_new]; rfl
                have hy1 : W3.cell? ⟨wr.heap.size, 1, none⟩ = some (.int .i64 (no : Int)) := (hB3.cell (p := ⟨wr.heap.size, 1, none⟩) hsz2).trans hx1
                have HB3 : Hid (Below w1.heap.size w1 W3) := HB2.out.trans (hB3.mono HB2.out.size)
                have HR3 := Lib.hid (recs_below HR2'.out hB3)
                have hsz3 : w2.heap.size < W3.heap.size := by rw [← hW3]; simp
                have hW13 : w1.heap.size ≤ W3.heap.size := HB3.out.size
                have HBE : Hid (Below w.heap.size w W3) := HB1.out.trans (HB3.out.mono hw01)
                have HSKIP := Lib.hid hskip
                have HX0 := Lib.hid hX0
                have HPA := Lib.hid hpa
                clear hB3 hskip hX0 hpa hal
                cases hb : isDn a.1 with
                | true =>
                  rw [hb] at HIN
                  have HDN := Lib.hid hb
                  clear hb
                  cases op with
                  | true =>
                    have HST : Hid (foldL 0 [] false rows = .inl no) := by
                      show _ = _
                      rw [← HF.out]
                      exact foldL_bad rfl HSKIP.out HX0.out HPA.out HDN.out
                    clear HF
                    go_wp2_with fail
                    refine (HIN.out _).mono ?_
                    rintro e w4 ⟨rfl, rfl⟩
                    clear hW3
                    go_wp2_with fail
                    go_quiet (fail)
                    go_wp2_with fail
                    go_ret3
                    exact parseE_err HST.out (below_drewN HBE.out _)
                  | false =>
                    have HST : Hid (foldL (i + 1) (l.map (·.1) ++ [⟨a.2, []⟩]) true (rows.drop (i + 1)) = foldL 0 [] false rows) := by
                      show _ = _
                      rw [← HF.out]
                      symm
                      exact foldL_push rfl HSKIP.out HX0.out HPA.out HDN.out
                    clear HF
                    go_wp2_with fail
                    refine (HIN.out _).mono ?_
                    rintro e w4 ⟨rfl, rfl⟩
                    clear hW3
                    obtain ⟨ao5, n5, cap5, w5, hap, hR5, hB5⟩ := recs_push a.2 (bs a.2) rfl HR3.out (by omega) hW13
                    have HR5 := Lib.hid hR5
                    have HB5 := Lib.hid (HB3.out.trans hB5)
                    have HPL5 : Hid (∀ x ∈ l ++ [((⟨a.2, []⟩ : Rec), Value.slice none 0 0)], x.1.pairs.length ≤ i + 1) := by
                      intro x hx
                      rcases List.mem_append.1 hx with hx | hx
                      · exact HPL.out x hx
                      · simp only [List.mem_singleton] at hx; subst hx; simp
                    have HST5 : Hid (foldL (i + 1) ((l ++ [((⟨a.2, []⟩ : Rec), Value.slice none 0 0)]).map (·.1)) true (rows.drop (i + 1)) = foldL 0 [] false rows) := by
                      show _ = _
                      rw [List.map_append]
                      exact HST.out
                    clear hR5 hB5 HST
                    go_wp2_with (at_builtin; refine Lib.wpList_append_run _ rfl _ _ _ _ rfl _ _ rfl rfl _ _ hap ?_)
                    go_roundw
                    case rel => exact ⟨i + 1, _, true, by go_num, by omega, rfl, HR5, by simp; omega, HPL5, (fun _ h => by simp at h), HST5, HB5.out⟩
                    case measure => simp [intOf]; omega
                | false =>
                  rw [hb] at HIN
                  have HDN := Lib.hid hb
                  clear hb
                  cases op with
                  | true =>
                    have HST : Hid (foldL (i + 1) (addPair (l.map (·.1)) a) true (rows.drop (i + 1)) = foldL 0 [] false rows) := by
                      show _ = _
                      rw [← HF.out]
                      symm
                      exact foldL_add rfl HSKIP.out HX0.out HPA.out HDN.out
                    rcases List.eq_nil_or_concat l with rfl | ⟨l0, z, hl0⟩
                    · exact absurd rfl (hOP.out rfl)
                    rw [List.concat_eq_append] at hl0
                    subst hl0
                    obtain ⟨k, hk⟩ : ∃ k, Hid (k = l0.length) := ⟨_, rfl⟩
                    obtain rfl : n = k + 1 := by have := hn.out; rw [List.length_append] at this; simp at this; rw [hk.out]; omega
                    have hkb : k ≤ 20000 := by have := hk.out; rw [List.length_append] at hli; simp at hli; omega
                    have hzp := HPL.out z (by simp)
                    have hRd : Recs W3.drew w1.heap.size (.slice ao (k + 1) cap) (l0 ++ [z]) := recs_below HR3.out (Below.refl _ _).drew
                    obtain ⟨g2, o2, rfl, hBg2, hg2lt, e0, v5, w5, hap, hB5, ⟨y5, e5⟩, f5, ⟨av, mv, cv, hv5⟩, hR5⟩ := recs_add a (bs a.1) (bs a.2) rfl rfl hRd (by rw [hk.out]) (by omega) hW13
                    rw [← hk.out] at e0 e5 f5 hR5
                    subst hv5
                    have hap' : (Builtin.append_ #[29, 29] 29 #[z.2, .slice (some ⟨W3.heap.size, 0, none⟩) 1 1]).run Tryd.prog (W3.alloc (.cells #[.string (bs a.1), .string (bs a.2)] 33)).drew = .ok (.slice av mv cv) w5 := hap
                    have e0' : W3.cell? ⟨g2, o2 + k * 2 + 1, none⟩ = some z.2 := e0
                    have e0a : (W3.alloc (.cells #[.string (bs a.1), .string (bs a.2)] 33)).cell? ⟨g2, o2 + k * 2 + 1, none⟩ = some z.2 := (((Below.refl _ W3).alloc (Nat.le_refl _) _).cell (p := ⟨g2, o2 + k * 2 + 1, none⟩) hg2lt).trans e0'
                    have HR5 := Lib.hid hR5
                    have HB5 : Hid (Below w1.heap.size w1 w5) := HB3.out.drew.trans hB5
                    have HAP := Lib.hid hap'
                    have hb2 : w1.heap.size ≤ g2 := hBg2
                    obtain ⟨zv, hzv⟩ : ∃ zv, z.2 = zv := ⟨_, rfl⟩
                    rw [hzv] at e0' e0a HAP
                    have iw : IntKind.i64.wrap (k : Int) = (k : Int) := IntWalk.i64_in _ (by omega)
                    have iw2 : (k : Int) < (k : Int) + 1 := by omega
                    clear hap hap' hRd e0 hB5 hR5 hzv HF
                    go_wp2_with fail
                    refine (HIN.out _).mono ?_
                    rintro e w4 ⟨rfl, rfl⟩
                    have HPL5 : Hid (∀ x ∈ l0 ++ [((⟨z.1.name, z.1.pairs ++ [a]⟩ : Rec), Value.slice av mv cv)], x.1.pairs.length ≤ i + 1) := by
                      intro x hx
                      rcases List.mem_append.1 hx with hx | hx
                      · exact HPL.out x (by simp [hx])
                      · simp only [List.mem_singleton] at hx; subst hx
                        have := hPL.out z (by simp)
                        simp only [List.length_append, List.length_singleton]
                        omega
                    have HST5 : Hid (foldL (i + 1) ((l0 ++ [((⟨z.1.name, z.1.pairs ++ [a]⟩ : Rec), Value.slice av mv cv)]).map (·.1)) true (rows.drop (i + 1)) = foldL 0 [] false rows) := by
                      show _ = _
                      rw [← addPair_map]
                      exact HST.out
                    clear hW3 HST
                    go_wp2_with fail
                    go_region_law (refine kt.step_append_run rfl _ _ 29 29 rfl _ _ (by simp [Act.eval, Act.put]) (by simp [Act.eval, Act.put]) _ _ HAP.out ?_)
                    all_goals
                      go_wp2_with fail
                      go_roundw
                      case rel => exact ⟨i + 1, _, true, by go_num, by omega, rfl, HR5, by simp at hli ⊢; omega, HPL5, (fun _ h => by simp at h), HST5, HB5.out.setCell (p := ⟨g2, _, none⟩) hb2 _⟩
                      case measure => simp [intOf]; omega
                  | false =>
                    have HST : Hid (foldL 0 [] false rows = .inl no) := by
                      show _ = _
                      rw [← HF.out]
                      exact foldL_bad rfl HSKIP.out HX0.out HPA.out HDN.out
                    clear HF
                    go_wp2_with fail
                    refine (HIN.out _).mono ?_
                    rintro e w4 ⟨rfl, rfl⟩
                    clear hW3
                    go_wp2_with fail
                    go_quiet (fail)
                    go_wp2_with fail
                    go_ret3
                    exact parseE_err HST.out (below_drewN HBE.out _)
    · obtain rfl : i = nA := by omega
      have HEND : Hid (foldL 0 [] false rows = .inr (l.map (·.1))) := by
        show _ = _
        rw [← hF.out, List.drop_of_length_le (by rw [HNA.out]; exact Nat.le_refl _)]
        rfl
      go_wp2_with fail
      go_ret3
      exact parseE_ok HEND.out HBW.out (recs_mono hR.out HB1.out.size)
end ldw
end Go.Proofs.YtifplgnabkkbjaaDoor
