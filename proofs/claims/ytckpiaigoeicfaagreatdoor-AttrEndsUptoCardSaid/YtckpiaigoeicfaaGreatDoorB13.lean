/- One text out of several: EndsP, LawN. -/
import Derived.Test.YtckpiaigoeicfaaGreatDoorB12
/-! EndsP -/
namespace Go.Proofs.YtckpiaigoeicfaaGreatDoor
namespace atp
open atw run prp
set_option linter.unusedVariables false
set_option linter.unusedSimpArgs false
theorem runes_text' {m : List Int} (h : ∀ v ∈ m, okR v) : runes (text m) = some m := by
  have := runes_of m [] h
  rw [List.append_nil, runes_nil] at this
  rw [this]
  simp
theorem mapped_self {m : List Int} (h1 : ∀ x ∈ m, dropB x = false) (h2 : ∀ x ∈ m, blankB x = true → x = 32) : mapped false m = m := by
  unfold mapped
  rw [List.filter_eq_self.2 (by intro x hx; rw [h1 x hx]; rfl)]
  conv => rhs; rw [← List.map_id m]
  refine List.map_congr_left fun x hx => ?_
  unfold mapR
  by_cases hb : blankB x = true
  · rw [if_pos hb, h2 x hx hb]; rfl
  · rw [if_neg hb, if_neg (by simp)]; rfl
/-- runes that stay as they are -/
def Stay (m : List Int) : Prop := (∀ v ∈ m, okR v) ∧ (∀ x ∈ m, dropB x = false) ∧ (∀ x ∈ m, blankB x = true → x = 32)
theorem stay_left {a b : List Int} (h : Stay (a ++ b)) : Stay a := ⟨fun v hv => h.1 v (List.mem_append_left _ hv), fun v hv => h.2.1 v (List.mem_append_left _ hv), fun v hv => h.2.2 v (List.mem_append_left _ hv)⟩
theorem stay_right {a b : List Int} (h : Stay (a ++ b)) : Stay b := ⟨fun v hv => h.1 v (List.mem_append_right _ hv), fun v hv => h.2.1 v (List.mem_append_right _ hv), fun v hv => h.2.2 v (List.mem_append_right _ hv)⟩
theorem stay_piece {m : List Int} (h : Stay m) : pieceO 2 (text m) = some (text m) := by
  unfold pieceO
  rw [if_neg (by decide)]
  show mapO (text m) false = _
  unfold mapO
  rw [runes_text' h.1]
  show some (text (mapped false m)) = _
  rw [mapped_self h.2.1 h.2.2]
theorem ready_stay {l s : List UInt8} (h : readyO l false = some s) : ∃ r, s = text r ∧ Stay r ∧ readyR false r = r := by
  unfold readyO at h
  obtain ⟨m, hm, rfl⟩ := Option.map_eq_some_iff.1 h
  obtain ⟨_, hok⟩ := runes_text _ l m (Nat.le_refl _) hm
  refine ⟨readyR false m, rfl, ⟨ready_ok hok, ?_, ?_⟩, ready_ready false false m⟩
  · intro x hx
    exact (mapped_keeps false m).1 x (sq_mem _ _ _ x hx)
  · intro x hx
    exact (mapped_keeps false m).2 x (sq_mem _ _ _ x hx)
theorem ready_norm {l s : List UInt8} (h : readyO l false = some s) (h1 : s ≠ []) (h2 : s.length ≤ 1000) : normL 2 s = (s, 0) := by
  obtain ⟨r, rfl, hs, hr⟩ := ready_stay h
  rw [normL_form (by omega) h2 h1]
  have e : formO 2 (text r) = ne0 (readyO (text r) false) := rfl
  have e2 : readyO (text r) false = some (text r) := by
    unfold readyO
    rw [runes_text' hs.1]
    show some (text (readyR false r)) = _
    rw [hr]
  rw [e, e2, ne0_some h1]
theorem enc_tail {v : Int} (h : okR v) (j : Nat) (c : UInt8) (hj : 0 < j) (hc : (enc v)[j]? = some c) : 128 ≤ c.toNat ∧ c.toNat < 192 := by
  obtain ⟨h0, h1, h2⟩ := h
  by_cases a1 : v ≤ 127
  · rw [enc_one h0 a1] at hc
    match j, hj with
    | j + 1, _ => simp at hc
  · by_cases a2 : v ≤ 2047
    · rw [enc_two (by omega) a2] at hc
      match j, hj with
      | 1, _ =>
        simp only [List.getElem?_cons_succ, List.getElem?_cons_zero, Option.some.injEq] at hc
        rw [← hc, u8z _ (by omega) (by omega)]; omega
      | j + 2, _ => simp at hc
    · by_cases a3 : v ≤ 65535
      · rw [enc_three (by omega)] at hc
        match j, hj with
        | 1, _ =>
          simp only [List.getElem?_cons_succ, List.getElem?_cons_zero, Option.some.injEq] at hc
          rw [← hc, u8z _ (by omega) (by omega)]; omega
        | 2, _ =>
          simp only [List.getElem?_cons_succ, List.getElem?_cons_zero, Option.some.injEq] at hc
          rw [← hc, u8z _ (by omega) (by omega)]; omega
        | j + 3, _ => simp at hc
      · rw [enc_four (by omega) h1] at hc
        match j, hj with
        | 1, _ =>
          simp only [List.getElem?_cons_succ, List.getElem?_cons_zero, Option.some.injEq] at hc
          rw [← hc, u8z _ (by omega) (by omega)]; omega
        | 2, _ =>
          simp only [List.getElem?_cons_succ, List.getElem?_cons_zero, Option.some.injEq] at hc
          rw [← hc, u8z _ (by omega) (by omega)]; omega
        | 3, _ =>
          simp only [List.getElem?_cons_succ, List.getElem?_cons_zero, Option.some.injEq] at hc
          rw [← hc, u8z _ (by omega) (by omega)]; omega
        | j + 4, _ => simp at hc
/-- a place where a rune begins, or the end -/
def Brk (l : List UInt8) (k : Nat) : Prop := k ≤ l.length ∧ ∀ c, l[k]? = some c → ¬ (128 ≤ c.toNat ∧ c.toNat < 192)
theorem cut_runes : ∀ (r : List Int) (k : Nat), (∀ v ∈ r, okR v) → Brk (text r) k → ∃ r1 r2, r = r1 ++ r2 ∧ text r1 = (text r).take k ∧ text r2 = (text r).drop k
  | [], k, _, h => by
    have hk : k = 0 := by have := h.1; simp [text_nil] at this; exact this
    subst hk
    exact ⟨[], [], rfl, rfl, rfl⟩
  | v :: r, k, hok, h => by
    by_cases hk : k = 0
    · subst hk
      exact ⟨[], v :: r, rfl, rfl, rfl⟩
    · rw [text_cons] at h ⊢
      by_cases hlt : k < (enc v).length
      · exfalso
        obtain ⟨c, hc⟩ : ∃ c, (enc v)[k]? = some c := ⟨_, List.getElem?_eq_getElem hlt⟩
        refine h.2 c ?_ (enc_tail (hok v (by simp)) k c (by omega) hc)
        rw [List.getElem?_append_left hlt, hc]
      · have hb : Brk (text r) (k - (enc v).length) := by
          refine ⟨by have := h.1; rw [List.length_append] at this; omega, fun c hc => h.2 c ?_⟩
          rw [List.getElem?_append_right (by omega), hc]
        obtain ⟨r1, r2, e, e1, e2⟩ := cut_runes r (k - (enc v).length) (fun u hu => hok u (by simp [hu])) hb
        refine ⟨v :: r1, r2, by rw [e]; rfl, ?_, ?_⟩
        · rw [text_cons, e1, List.take_append, List.take_of_length_le (Nat.le_of_not_lt hlt)]
        · rw [e2, List.drop_append, List.drop_of_length_le (Nat.le_of_not_lt hlt)]
          rfl
theorem index_self (p : List UInt8) : Lib.index p p = 0 := by
  have := stand_hit (s := p) (p := p) (k := 0) (by omega) (by simp)
  simpa using this
theorem partL_three (A M Z : List UInt8) : partL (A ++ (M ++ Z)) A Z [M] = true := by
  have h3 : (A ++ (M ++ Z)).length - Z.length = (A ++ M).length := by simp only [List.length_append]; omega
  rw [partR_yes (by simp only [List.length_append]; omega) (by rw [List.take_left]) (by rw [h3, ← List.append_assoc, List.drop_left]), h3, ← List.append_assoc, List.take_left, List.drop_left]
  show (if Lib.index M M < 0 then false else _) = true
  rw [index_self, if_neg (by omega)]
  rfl
theorem partL_two (A M Z : List UInt8) : partL (A ++ (M ++ Z)) A Z [] = true := by
  have h3 : (A ++ (M ++ Z)).length - Z.length = (A ++ M).length := by simp only [List.length_append]; omega
  rw [partR_yes (by simp only [List.length_append]; omega) (by rw [List.take_left]) (by rw [h3, ← List.append_assoc, List.drop_left])]
  rfl
theorem part_yes {S first last : ByteArray} {mids : List ByteArray} (hn : normL 2 S.data.toList = (S.data.toList, 0)) (h8 : mids.length ≤ 8) (hs : (first :: (mids ++ [last])).any neB = true)
    (hp : ∀ x ∈ first :: (mids ++ [last]), pieceO 2 x.data.toList = some x.data.toList) (hc : partL S.data.toList first.data.toList last.data.toList (mids.map (·.data.toList)) = true) : partE 2 S first last mids = (true, 0) := by
  have hall : allP 2 (first :: (mids ++ [last])) = true := by
    unfold allP
    rw [List.all_eq_true]
    intro x hx
    rw [hp x hx]; rfl
  have hg : ∀ x ∈ first :: (mids ++ [last]), gotP 2 x = x.data.toList := by
    intro x hx
    unfold gotP
    rw [hp x hx]; rfl
  have hm : mids.map (gotP 2) = mids.map (·.data.toList) := List.map_congr_left fun x hx => hg x (by simp [hx])
  unfold partE
  rw [if_neg (by omega), if_neg (by omega), hs, if_neg (by simp), hn, if_neg (by simp), hall, if_neg (by simp), hg first (by simp), hg last (by simp), hm, hc]
theorem take_mid (l : List UInt8) {a b : Nat} (h : a ≤ b) : l = l.take a ++ ((l.drop a).take (b - a) ++ l.drop b) := by
  have h1 : l.drop b = (l.drop a).drop (b - a) := by rw [List.drop_drop]; congr 1; omega
  rw [h1, List.take_append_drop, List.take_append_drop]
/-- WHAT IS CUT OUT OF A READY TEXT AT ITS RUNES STAYS AS IT IS. -/
theorem ready_cut {l : List UInt8} {S : List UInt8} (h : readyO l false = some S) {a b : Nat} (ha : Brk S a) (hb : Brk S b) (hab : a ≤ b) :
    pieceO 2 (S.take a) = some (S.take a) ∧ pieceO 2 ((S.drop a).take (b - a)) = some ((S.drop a).take (b - a)) ∧ pieceO 2 (S.drop b) = some (S.drop b) := by
  obtain ⟨r, rfl, hs, _⟩ := ready_stay h
  obtain ⟨r1, r2, rfl, e1, e2⟩ := cut_runes r a hs.1 ha
  have hb2 : Brk (text r2) (b - a) := by
    rw [e2]
    refine ⟨by have := hb.1; rw [List.length_drop]; omega, fun c hc => hb.2 c ?_⟩
    rw [List.getElem?_drop] at hc
    rw [show b = a + (b - a) by omega]
    exact hc
  obtain ⟨r3, r4, rfl, e3, e4⟩ := cut_runes r2 (b - a) (stay_right hs).1 hb2
  refine ⟨?_, ?_, ?_⟩
  · rw [← e1]; exact stay_piece (stay_left hs)
  · rw [← e2, ← e3]; exact stay_piece (stay_left (stay_right hs))
  · have : (text (r1 ++ (r3 ++ r4))).drop b = text r4 := by
      rw [e4, e2, List.drop_drop]; congr 1; omega
    rw [this]; exact stay_piece (stay_right (stay_right hs))
theorem piece_nil : pieceO 2 [] = some [] := by decide +kernel
end atp
end Go.Proofs.YtckpiaigoeicfaaGreatDoor
/-! LawN -/
namespace Go.Proofs.YtckpiaigoeicfaaGreatDoor
open Go.RowKit
namespace atw
open atp tupw prw
set_option linter.unusedVariables false
set_option linter.unusedSimpArgs false
set_option maxRecDepth 20000 in
set_option maxHeartbeats 4000000 in
theorem normals_law (nm : ByteArray) (syn : Int) (sg : Bool) (s : ByteArray) (w : World) (hs : s.size ≤ 140737488351232) (hE : Hid (prw.Env w)) (hT : Hid (dnw.Tabs w)) (hY : Hid (TyEnv w)) :
    Calls Tryz.prog 6 #[.agg #[.string nm, .int .i64 syn, .bool sg], .string s] w fun e w' => e = .returned (.bool true) ∧ Below w.heap.size w w' := by
  obtain ⟨W0, hW0⟩ : ∃ W, w.alloc (.cells #[.string nm, .int .i64 syn, .bool sg] 23) = W := ⟨_, rfl⟩
  have hB0 : Below w.heap.size w W0 := by rw [← hW0]; exact (Below.refl _ _).alloc (Nat.le_refl _) _
  have HB0 := Lib.hid hB0
  have hw0 : w.heap.size ≤ W0.heap.size := hB0.size
  have HTB0 : Hid (TB W0 w.heap.size nm syn sg) := by rw [← hW0]; exact tb_new w nm syn sg
  have HAW := Lib.hid (awake_any W0 (Lib.hid (prw.env_below hE.out hB0)) (Lib.hid (dnw.tabs_below hT.out hB0)) (Lib.hid (tyEnv_below hY.out hB0)))
  obtain ⟨nl, hnl⟩ : ∃ u, normL syn s.data.toList = u := ⟨_, rfl⟩
  have HN0 : ∀ w, prw.Env w → dnw.Tabs w → Calls Tryz.prog 19 #[.agg #[.string nm, .int .i64 syn, .bool sg], .string s] w fun e w' => e = .returned (normV (normL syn s.data.toList)) ∧ Below w.heap.size w w' := fun w h1 h2 => normal_any nm syn sg s w hs (Lib.hid h1) (Lib.hid h2)
  have HR0 : ∀ w, Calls Tryz.prog 20 #[.agg #[.string nm, .int .i64 syn, .bool sg], .string s] w fun e w' => e = .returned (normV (normL syn s.data.toList)) ∧ Below w.heap.size w w' := fun w => rnormal_any nm syn sg s w hs
  have HC0 : ∀ w, prw.Env w → dnw.Tabs w → Calls Tryz.prog 21 #[.agg #[.string nm, .int .i64 syn, .bool sg], .string s] w fun e w' => e = .returned (.int .i64 (normL syn s.data.toList).2) ∧ Below w.heap.size w w' := fun w h1 h2 => check_any nm syn sg s w hs (Lib.hid h1) (Lib.hid h2)
  rw [hnl] at HN0 HR0 HC0
  obtain ⟨u, er⟩ := nl
  have HN : Hid (∀ w, prw.Env w → dnw.Tabs w → Calls Tryz.prog 19 #[.agg #[.string nm, .int .i64 syn, .bool sg], .string s] w fun e w' => e = .returned (.tuple #[.string (bs u), .int .i64 er]) ∧ Below w.heap.size w w') := HN0
  have HR : Hid (∀ w, Calls Tryz.prog 20 #[.agg #[.string nm, .int .i64 syn, .bool sg], .string s] w fun e w' => e = .returned (.tuple #[.string (bs u), .int .i64 er]) ∧ Below w.heap.size w w') := HR0
  have HC : Hid (∀ w, prw.Env w → dnw.Tabs w → Calls Tryz.prog 21 #[.agg #[.string nm, .int .i64 syn, .bool sg], .string s] w fun e w' => e = .returned (.int .i64 er) ∧ Below w.heap.size w w') := HC0
  clear HN0 HR0 HC0 hnl hB0
  have qb : ((bs u).toList == (bs u).toList) = true := by simp
  have qe : (er == er) = true := by simp
  generalize bs u = x at HN HR qb
  by_cases hl : 2000 < s.size
  · have hlI : (2000 : Int) < (s.size : Int) := by omega
    clear hl
    go_enter Tryz.func6, Tryz.ntmps6
    go_wp2_with fail
    refine (HAW.out).mono ?_
    rintro e w1 ⟨rfl, hB1⟩
    have HB1 := Lib.hid (HB0.out.trans (hB1.mono hw0))
    clear hB1 hW0
    go_wp2_with fail
    go_ret
    exact ⟨rfl, HB1.out⟩
  · have hlI : decide ((2000 : Int) < (s.size : Int)) = false := by rw [decide_eq_false_iff_not]; omega
    clear hl
    go_enter Tryz.func6, Tryz.ntmps6
    go_wp2_with fail
    refine (HAW.out).mono ?_
    rintro e w1 ⟨rfl, hB1⟩
    have HB1 := Lib.hid (HB0.out.trans (hB1.mono hw0))
    have HT1 := Lib.hid (tb_below HTB0.out hB1)
    obtain ⟨k0, k1, k2⟩ := tb_cells HT1.out
    clear hB1 hW0
    go_wp2_with fail
    refine (HN.out _ (prw.env_below hE.out HB1.out) (dnw.tabs_below hT.out HB1.out)).mono ?_
    rintro e w2 ⟨rfl, hB2⟩
    have HB2 := Lib.hid (HB1.out.trans (hB2.mono HB1.out.size))
    have HT2 := Lib.hid (tb_below HT1.out hB2)
    obtain ⟨m0, m1, m2⟩ := tb_cells HT2.out
    clear hB2 k0 k1 k2
    go_wp2_with fail
    refine (HR.out _).mono ?_
    rintro e w3 ⟨rfl, hB3⟩
    have HB3 := Lib.hid (HB2.out.trans (hB3.mono HB2.out.size))
    have HT3 := Lib.hid (tb_below HT2.out hB3)
    obtain ⟨n0, n1, n2⟩ := tb_cells HT3.out
    clear hB3 m0 m1 m2
    go_wp2_with fail
    refine (HC.out _ (prw.env_below hE.out HB3.out) (dnw.tabs_below hT.out HB3.out)).mono ?_
    rintro e w4 ⟨rfl, hB4⟩
    have HB4 := Lib.hid (HB3.out.trans (hB4.mono HB3.out.size))
    clear hB4 n0 n1 n2
    go_wp2_with fail
    go_ret
    exact ⟨rfl, HB4.out⟩
end atw
end Go.Proofs.YtckpiaigoeicfaaGreatDoor
