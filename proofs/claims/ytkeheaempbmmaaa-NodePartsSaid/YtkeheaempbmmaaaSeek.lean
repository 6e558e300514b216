/- The walks of Seek at a leaf, of its closure, of sort.Search. -/
import Derived.Test.YtkeheaempbmmaaaLaws
import Derived.Test.YtkeheaempbmmaaaCmpT
import Derived.Laws.Cover1
import Derived.Shelf.Abstract
namespace Go.Proofs.Ytkeheaempbmmaaa
open Go.RowKit
namespace nod
set_option linter.unusedVariables false
open fldw ord
/-- does a cell's key stand at or behind this one -/
def geB (key : ByteArray) (c : Cel) : Bool := !Op.bytesLess c.key.toList key.toList
set_option maxRecDepth 20000 in
set_option maxHeartbeats 1000000 in
theorem search_any (a1 a2 a3 : Addr) (n : Nat) (p : Nat → Bool) (w : World) (hn : n ≤ 1000000)
    (hf : Hid (∀ w' i, Below w.heap.size w w' → i < n → Calls Try.prog 33 #[.int .i64 (i : Int), .pointer (some a1), .pointer (some a2), .pointer (some a3)] w' fun e w'' => e = .returned (.bool (p i)) ∧ Below w'.heap.size w' w''))
    (hm : Hid (∀ a b, a ≤ b → b < n → p a = true → p b = true)) :
    Calls Try.prog 32 #[.int .i64 (n : Int), .func (.func 33) #[] #[.pointer (some a1), .pointer (some a2), .pointer (some a3)]] w fun e w' =>
      (∃ k : Nat, e = .returned (.int .i64 (k : Int)) ∧ k ≤ n ∧ (∀ j, j < k → p j = false) ∧ ∀ j, k ≤ j → j < n → p j = true) ∧ Below w.heap.size w w' := by
  have eg : ∀ args w, (callFunc 33 args).run Try.prog w = .ok (.enter 33 args) w := fun _ _ => rfl
  go_enter Try.func32, Try.ntmps32
  go_wp2_with fail
  go_loopw [5, 6] (fun iv jv wr => ∃ (lo hi : Nat), iv = .int .i64 lo ∧ jv = .int .i64 hi ∧ lo ≤ hi ∧ hi ≤ n ∧ Hid ((∀ t, t < lo → p t = false) ∧ (∀ t, hi ≤ t → t < n → p t = true)) ∧ Below w.heap.size w wr) (fun iv jv _ => (intOf jv).toNat - (intOf iv).toNat)
  case atStart => exact ⟨0, n, rfl, rfl, Nat.zero_le _, Nat.le_refl _, ⟨fun t ht => absurd ht (Nat.not_lt_zero _), fun t h1 h2 => by omega⟩, Below.refl _ _⟩
  case round =>
    obtain ⟨lo, hi, rfl, rfl, hlh, hin, I, hB⟩ := hrel
    have hsz := hB.size
    by_cases hlt : lo < hi
    · have hc := hf.out wr ((lo + hi) / 2) hB (by omega)
      rw [show (((lo + hi) / 2 : Nat) : Int) = ((lo : Int) + (hi : Int)) / 2 by omega] at hc
      have hlt' : (lo : Int) < (hi : Int) := by omega
      cases hp : p ((lo + hi) / 2) <;> rw [hp] at hc
      · have HP := Lib.hid hp
        clear hp
        go_wp2_with (go_at_fn 33; refine hc.mono ?_; rintro e w' ⟨rfl, hB1⟩)
        go_roundw
        case measure => simp [intOf]; omega
        case rel =>
          refine ⟨(lo + hi) / 2 + 1, hi, by rw [show ((lo : Int) + (hi : Int)) / 2 + 1 = (((lo + hi) / 2 + 1 : Nat) : Int) by omega], rfl, by omega, hin, ⟨fun t ht => ?_, I.out.2⟩, hB.trans (hB1.mono hsz)⟩
          cases h : p t with
          | false => rfl
          | true => have := hm.out t ((lo + hi) / 2) (by omega) (by omega) h; rw [HP.out] at this; cases this
      · have HP := Lib.hid hp
        clear hp
        go_wp2_with (go_at_fn 33; refine hc.mono ?_; rintro e w' ⟨rfl, hB1⟩)
        go_roundw
        case measure => simp [intOf]; omega
        case rel =>
          exact ⟨lo, (lo + hi) / 2, rfl, by rw [show ((lo : Int) + (hi : Int)) / 2 = (((lo + hi) / 2 : Nat) : Int) by omega], by omega, by omega, ⟨I.out.1, fun t ht htn => hm.out ((lo + hi) / 2) t ht htn HP.out⟩, hB.trans (hB1.mono hsz)⟩
    · obtain rfl : hi = lo := by omega
      have hlt' : ¬ (hi : Int) < (hi : Int) := by omega
      go_wp2_with fail
      go_ret
      exact ⟨⟨hi, rfl, hin, I.out.1, I.out.2⟩, hB⟩
set_option maxHeartbeats 1000000 in
theorem closure_any (a1 a2 a3 : Addr) (s key : ByteArray) (i : Nat) (w : World) (hs : s.size ≤ 1000000) (hi : i ≤ 1000000) (h1 : w.cell? a1 = some (.bool true)) (h2 : w.cell? a2 = some (.string s)) (h3 : w.cell? a3 = some (.string key)) :
    Calls Try.prog 33 #[.int .i64 (i : Int), .pointer (some a1), .pointer (some a2), .pointer (some a3)] w fun e w' => e = .returned (.bool (geB key (getP true s.data.toList i).1)) ∧ Below w.heap.size w w' := by
  have G := Lib.hid (fun w => get_any true s i w hs hi)
  generalize getP true s.data.toList i = r at G ⊢
  obtain ⟨⟨k, x, o, z, ch⟩, b⟩ := r
  unfold Cel.v at G
  dsimp only at G ⊢
  unfold geB
  dsimp only
  generalize hbl : Op.bytesLess k.toList key.toList = bl
  go_enter Try.func33, Try.ntmps33
  go_wp2_with fail
  refine (G.out _).mono ?_
  rintro e w1 ⟨rfl, hB1⟩
  have hl3 := World.block_lt_of_cell? _ _ h3
  have h3' := (hB1.cell hl3).trans h3
  have hl3' : a3.block < w1.heap.size := by have := hB1.size; omega
  go_wp2_with fail
  go_ret
  exact ⟨rfl, hB1.alloc hB1.size _⟩
/-- the call's own cells: the three boxes, the result -/
def Sk (w W : World) (s key : ByteArray) : Prop := Below w.heap.size w W ∧ W.heap[w.heap.size]? = some (.cells #[.bool true] 4 (0, 0)) ∧ W.heap[w.heap.size + 1]? = some (.cells #[.string s] 9 (0, 0)) ∧ W.heap[w.heap.size + 1 + 1]? = some (.cells #[.string key] 9 (0, 0)) ∧
  W.heap[w.heap.size + 1 + 1 + 1]? = some (.cells #[.string ⟨#[]⟩, .string ⟨#[]⟩, .int .i64 0, .int .i64 0, .int .i64 0] 35 (0, 0))
theorem sk_new (w : World) (s key : ByteArray) : Sk w ((((w.alloc (.cells #[.bool true] 4)).alloc (.cells #[.string s] 9)).alloc (.cells #[.string key] 9)).alloc (.cells #[.string ⟨#[]⟩, .string ⟨#[]⟩, .int .i64 0, .int .i64 0, .int .i64 0] 35)) s key := by
  have e1 := size1 w (.cells #[.bool true] 4)
  have e2 := size1 (w.alloc (.cells #[.bool true] 4)) (.cells #[.string s] 9)
  have e3 := size1 ((w.alloc (.cells #[.bool true] 4)).alloc (.cells #[.string s] 9)) (.cells #[.string key] 9)
  refine ⟨((((Below.refl _ _).alloc (Nat.le_refl _) _).alloc (by omega) _).alloc (by omega) _).alloc (by omega) _, ?_, ?_, ?_, ?_⟩
  · rw [Below.heap_alloc _ _ _ (by omega), Below.heap_alloc _ _ _ (by omega), Below.heap_alloc _ _ _ (by omega)]
    exact heap_alloc_last w _
  · rw [Below.heap_alloc _ _ _ (by omega), Below.heap_alloc _ _ _ (by omega), ← e1]
    exact heap_alloc_last _ _
  · rw [Below.heap_alloc _ _ _ (by omega), show w.heap.size + 1 + 1 = ((w.alloc (.cells #[.bool true] 4)).alloc (.cells #[.string s] 9)).heap.size from by omega]
    exact heap_alloc_last _ _
  · rw [show w.heap.size + 1 + 1 + 1 = (((w.alloc (.cells #[.bool true] 4)).alloc (.cells #[.string s] 9)).alloc (.cells #[.string key] 9)).heap.size from by omega]
    exact heap_alloc_last _ _
theorem sk_below {w W W' : World} {s key : ByteArray} (h : Sk w W s key) (hb : Below W.heap.size W W') : Sk w W' s key := by
  obtain ⟨h0, h1, h2, h3, h4⟩ := h
  exact ⟨h0.trans (hb.mono h0.size), (hb.block _ (bld_lt h1)).trans h1, (hb.block _ (bld_lt h2)).trans h2, (hb.block _ (bld_lt h3)).trans h3, (hb.block _ (bld_lt h4)).trans h4⟩
theorem sk_cells {w W : World} {s key : ByteArray} (h : Sk w W s key) : W.cell? ⟨w.heap.size, 0, none⟩ = some (.bool true) ∧ W.cell? ⟨w.heap.size + 1, 0, none⟩ = some (.string s) ∧ W.cell? ⟨w.heap.size + 1 + 1, 0, none⟩ = some (.string key) := by
  obtain ⟨_, h1, h2, h3, _⟩ := h
  exact ⟨by rw [Lib.cell_of_heap h1]; rfl, by rw [Lib.cell_of_heap h2]; rfl, by rw [Lib.cell_of_heap h3]; rfl⟩
theorem put_five (w : World) {g : Nat} {a b c d e : Value} {t : TypeId} (h : w.heap[g]? = some (.cells #[a, b, c, d, e] t (0, 0))) (a' b' c' d' e' : Value) :
    (((((w.setCell ⟨g, 0, none⟩ a').setCell ⟨g, 1, none⟩ b').setCell ⟨g, 2, none⟩ c').setCell ⟨g, 3, none⟩ d').setCell ⟨g, 4, none⟩ e').heap[g]? = some (.cells #[a', b', c', d', e'] t (0, 0)) :=
  set_same (j := 4) (set_same (j := 3) (set_same (j := 2) (set_same (j := 1) (set_same (j := 0) h a') b') c') d') e'
theorem put_five_other {w : World} {g k : Nat} {o : Obj} (h : w.heap[k]? = some o) (hne : ¬ k = g) (a' b' c' d' e' : Value) :
    (((((w.setCell ⟨g, 0, none⟩ a').setCell ⟨g, 1, none⟩ b').setCell ⟨g, 2, none⟩ c').setCell ⟨g, 3, none⟩ d').setCell ⟨g, 4, none⟩ e').heap[k]? = some o :=
  set_other (set_other (set_other (set_other (set_other h hne a') hne b') hne c') hne d') hne e'
theorem results_tct {fn : Func} {p u q : Tmp} {ty : TypeId} (h : fn.results = #[.tmp q, .cell p ty, .tmp u]) (tmps : Array Value) (P : Program) (w : World) :
    (results fn tmps).run P w =
      ((asAddr (tmps.getD p undef)).run P w).andThen fun a w₁ => ((loadVar ty a).run P w₁).andThen fun v w₂ => .ok (.tuple #[tmps.getD q undef, v, tmps.getD u undef]) w₂ := by
  simp only [results, h]
  simp [Sem.run_bind, Result.andThen]
/-- what Seek answers at a leaf's bytes -/
def SeekE (l : List Cel) (key : ByteArray) (e : Ending) : Prop := ∃ (k : Nat) (c : Cel) (b : Bool), e = .returned (.tuple #[.int .i64 (k : Int), c.v, .bool b]) ∧ k ≤ l.length ∧ (∀ j (h : j < l.length), j < k → geB key l[j] = false) ∧ (∀ j (h : j < l.length), k ≤ j → geB key l[j] = true) ∧ (b = true ↔ ∃ h : k < l.length, l[k].key = key)
theorem fit_mono {leaf : Bool} {l : List Cel} {key : ByteArray} (hf : Fit leaf l) : ∀ (b a : Nat) (hb : b < l.length) (hab : a ≤ b), geB key (l[a]'(by omega)) = true → geB key l[b] = true := by
  intro b
  induction b with
  | zero => intro a hb hab h; obtain rfl : a = 0 := by omega
            exact h
  | succ b ih =>
    intro a hb hab h
    by_cases e : a = b + 1
    · subst e; exact h
    · have h1 := ih a (by omega) (by omega) h
      have h2 := (hf.2 (b + 1) hb).2 b rfl (by omega)
      unfold geB at h1 ⊢
      rw [Lib.toList_data, Lib.toList_data, less_cmp] at h1 ⊢
      simp only [Bool.not_eq_true', decide_eq_false_iff_not] at h1 ⊢
      intro h3
      exact h1 (cmp_trans h2 h3)
set_option maxRecDepth 20000 in
set_option maxHeartbeats 2000000 in
theorem seek_any (l : List Cel) (s key : ByteArray) (w : World) (hg : Hid (Good true l s)) :
    Calls Try.prog 17 #[.bool true, .string s, .string key] w fun e w' => SeekE l key e ∧ Below w.heap.size w w' := by
  have hss : s.size ≤ 488 := by have := good_size hg.out; have := hg.out.2.1; omega
  have D := Lib.hid (fun w => decode_any true s w (by omega))
  have C := Lib.hid (fun w => cnt_any s w (by omega))
  rw [good_cnt hg.out] at C
  have hl := (good_short hg.out).1
  have hmf : ∀ (fn : Fn) (first cap : Array Value) (w : World), (Instr.makeFunc fn first cap).run Try.prog w = .ok (.func fn first cap) w := fun _ _ _ _ => rfl
  have S0 := Lib.hid (sk_new w s key)
  obtain ⟨c0, c1, c2⟩ := sk_cells S0.out
  go_enter Try.func17, Try.ntmps17
  go_wp2_with fail
  refine (D.out _).mono ?_
  rintro e w1 ⟨⟨ao, cap, m, er, rfl, hD, _⟩, hB1⟩
  have her : er = 0 := by
    rcases hD with ⟨h, _⟩ | ⟨_, _, h⟩
    · exact h
    · exact absurd hg.out (h l)
  subst her
  have S1 := Lib.hid (sk_below S0.out hB1)
  obtain ⟨d0, d1, d2⟩ := sk_cells S1.out
  clear hD
  go_wp2_with fail
  refine (C.out _).mono ?_
  rintro e w2 ⟨rfl, hB2⟩
  have S2 := Lib.hid (sk_below S1.out hB2)
  obtain ⟨e0, e1, e2⟩ := sk_cells S2.out
  have SR := Lib.hid (search_any ⟨w.heap.size, 0, none⟩ ⟨w.heap.size + 1, 0, none⟩ ⟨w.heap.size + 1 + 1, 0, none⟩ l.length (fun i => geB key (getP true s.data.toList i).1) w2 (by omega)
    (fun w' i hb hi => by
      obtain ⟨x0, x1, x2⟩ := sk_cells (sk_below S2.out hb)
      exact closure_any _ _ _ s key i w' (by omega) (by omega) x0 x1 x2)
    (fun a b hab hb h => by
      simp only [good_get hg.out a (by omega), good_get hg.out b hb] at h ⊢
      exact fit_mono hg.out.1 b a hb hab h))
  go_wp2_with fail
  refine SR.out.mono ?_
  rintro e w3 ⟨⟨k, rfl, hk1, hk2, hk3⟩, hB3⟩
  have HK2 : Hid (∀ j (h : j < l.length), j < k → geB key l[j] = false) := fun j h hj => by have := hk2 j hj; rwa [good_get hg.out j h] at this
  have HK3 : Hid (∀ j (h : j < l.length), k ≤ j → geB key l[j] = true) := fun j h hj => by have := hk3 j hj h; rwa [good_get hg.out j h] at this
  have S3 := Lib.hid (sk_below S2.out hB3)
  obtain ⟨f0, f1, f2⟩ := sk_cells S3.out
  have hz3 := bld_lt S3.out.2.2.2.2
  clear hk2 hk3 c0 c1 c2 d0 d1 d2 e0 e1 e2
  by_cases hkl : k < l.length
  · have hkl' : (k : Int) < (l.length : Int) := by omega
    have G := Lib.hid (fun w => get_any true s k w (by omega) (by omega))
    rw [good_get hg.out k hkl] at G
    obtain ⟨c, hc⟩ : ∃ c : Cel, Hid (c = l[k]'hkl) := ⟨l[k]'hkl, rfl⟩
    rw [← hc.out] at G
    unfold Cel.v at G
    dsimp only at G
    obtain ⟨x0, x1, x2⟩ := sk_cells (sk_below S3.out ((Below.refl _ _).alloc (Nat.le_refl _) (.cells #[.string ⟨#[]⟩, .string ⟨#[]⟩, .int .i64 0, .int .i64 0, .int .i64 0] 35)))
    go_wp2_with fail
    refine (G.out _).mono ?_
    rintro e w4 ⟨rfl, hB4⟩
    clear x0 x1 x2
    obtain ⟨o1, hbl⟩ := one5 w3 hB4
    have S4 := Lib.hid (sk_below S3.out hbl)
    obtain ⟨g0, g1, g2⟩ := sk_cells S4.out
    obtain ⟨⟨p0, p1, p2, p3, p4⟩, pf⟩ := five o1
    have y0 := pf 0
    have y1 := pf 1
    have y2 := pf 2
    have y3 := pf 3
    have y4 := pf 4
    obtain ⟨⟨q0, q1, q2, q3, q4⟩, qf⟩ := five S4.out.2.2.2.2
    have z0 := qf 0
    have z1 := qf 1
    have z2 := qf 2
    have z3 := qf 3
    have z4 := qf 4
    have hne : ¬ w.heap.size + 1 + 1 + 1 = w3.heap.size := by omega
    have O1 := Lib.hid o1
    clear pf qf o1 f0 f1 f2
    go_wp2_with fail
    have hW := put_five w4 O1.out (.string c.key) (.string c.val) (.int .i64 c.over) (.int .i64 c.size) (.int .i64 c.child)
    have hQ := put_five_other (w := w4) S4.out.2.2.2.2 hne (.string c.key) (.string c.val) (.int .i64 c.over) (.int .i64 c.size) (.int .i64 c.child)
    have hBW := put5 hbl (.string c.key) (.string c.val) (.int .i64 c.over) (.int .i64 c.size) (.int .i64 c.child)
    generalize ((((w4.setCell ⟨w3.heap.size, 0, none⟩ (.string c.key)).setCell ⟨w3.heap.size, 1, none⟩ (.string c.val)).setCell ⟨w3.heap.size, 2, none⟩ (.int .i64 c.over)).setCell ⟨w3.heap.size, 3, none⟩ (.int .i64 c.size)).setCell ⟨w3.heap.size, 4, none⟩ (.int .i64 c.child) = W at hW hQ hBW ⊢
    obtain ⟨⟨r0, r1, r2, r3, r4⟩, rf⟩ := five hW
    obtain ⟨⟨v0, v1, v2, v3, v4⟩, vf⟩ := five hQ
    have u0 := vf 0
    have u1 := vf 1
    have u2 := vf 2
    have u3 := vf 3
    have u4 := vf 4
    clear rf vf q0 q1 q2 q3 q4 z0 z1 z2 z3 z4 p0 p1 p2 p3 p4 y0 y1 y2 y3 y4 g0 g1 g2
    have HA : Hid ((c.key.toList == key.toList) = true ↔ ∃ h : k < l.length, l[k].key = key) := by
      show _ ↔ _
      rw [beq_iff_eq, Lib.toList_data, Lib.toList_data]
      constructor
      · intro h; exact ⟨hkl, by rw [← hc.out]; exact kt.str_eq h⟩
      · rintro ⟨h, h2⟩; rw [← h2, hc.out]
    have HBW : Hid (Below w.heap.size w W) := S3.out.1.trans (hBW.mono S3.out.1.size)
    generalize (c.key.toList == key.toList) = ex at HA ⊢
    go_region
    go_wp2_with fail
    refine bodyPost_ret (v := .tuple #[.int .i64 (k : Int), .agg #[.string c.key, .string c.val, .int .i64 c.over, .int .i64 c.size, .int .i64 c.child], .bool ex]) ?_ rfl ⟨⟨k, c, ex, rfl, hk1, HK2.out, HK3.out, HA.out⟩, ?_⟩
    · rw [results_tct rfl]
      go_simp
    · exact (((((HBW.out.drew.setCell (p := ⟨w.heap.size + 1 + 1 + 1, 0, none⟩) (by show w.heap.size ≤ w.heap.size + 1 + 1 + 1; omega) _).setCell (p := ⟨w.heap.size + 1 + 1 + 1, 1, none⟩) (by show w.heap.size ≤ w.heap.size + 1 + 1 + 1; omega) _).setCell (p := ⟨w.heap.size + 1 + 1 + 1, 2, none⟩) (by show w.heap.size ≤ w.heap.size + 1 + 1 + 1; omega) _).setCell (p := ⟨w.heap.size + 1 + 1 + 1, 3, none⟩) (by show w.heap.size ≤ w.heap.size + 1 + 1 + 1; omega) _).setCell (p := ⟨w.heap.size + 1 + 1 + 1, 4, none⟩) (by show w.heap.size ≤ w.heap.size + 1 + 1 + 1; omega) _)
  · have hkl' : ¬ (k : Int) < (l.length : Int) := by omega
    obtain ⟨x0, x1, x2⟩ := sk_cells (sk_below S3.out ((Below.refl _ _).alloc (Nat.le_refl _) (.cells #[.string ⟨#[]⟩, .string ⟨#[]⟩, .int .i64 0, .int .i64 0, .int .i64 0] 35)))
    have hW := heap_alloc_last w3 (.cells #[.string ⟨#[]⟩, .string ⟨#[]⟩, .int .i64 0, .int .i64 0, .int .i64 0] 35)
    have hQ := (sk_below S3.out ((Below.refl _ _).alloc (Nat.le_refl _) (.cells #[.string ⟨#[]⟩, .string ⟨#[]⟩, .int .i64 0, .int .i64 0, .int .i64 0] 35))).2.2.2.2
    have hBW : Below w3.heap.size w3 (w3.alloc (.cells #[.string ⟨#[]⟩, .string ⟨#[]⟩, .int .i64 0, .int .i64 0, .int .i64 0] 35)) := (Below.refl _ _).alloc (Nat.le_refl _) _
    have HW := Lib.hid hW
    have HQ := Lib.hid hQ
    have HBW0 := Lib.hid hBW
    clear f0 f1 f2 hW hQ hBW
    go_wp2_with fail
    have hW := HW.out
    have hQ := HQ.out
    have hBW := HBW0.out
    clear HW HQ HBW0 x0 x1 x2
    generalize w3.alloc (.cells #[.string ⟨#[]⟩, .string ⟨#[]⟩, .int .i64 0, .int .i64 0, .int .i64 0] 35) = W at hW hQ hBW ⊢
    obtain ⟨⟨r0, r1, r2, r3, r4⟩, rf⟩ := five hW
    obtain ⟨⟨v0, v1, v2, v3, v4⟩, vf⟩ := five hQ
    have u0 := vf 0
    have u1 := vf 1
    have u2 := vf 2
    have u3 := vf 3
    have u4 := vf 4
    clear rf vf
    have HBW : Hid (Below w.heap.size w W) := S3.out.1.trans (hBW.mono S3.out.1.size)
    go_region
    go_wp2_with fail
    refine bodyPost_ret (v := .tuple #[.int .i64 (k : Int), .agg #[.string ⟨#[]⟩, .string ⟨#[]⟩, .int .i64 0, .int .i64 0, .int .i64 0], .bool false]) ?_ rfl ⟨⟨k, ⟨⟨#[]⟩, ⟨#[]⟩, 0, 0, 0⟩, false, rfl, hk1, HK2.out, HK3.out, ⟨(fun h => by cases h), (fun ⟨h, _⟩ => absurd h hkl)⟩⟩, ?_⟩
    · rw [results_tct rfl]
      go_simp
    · exact (((((HBW.out.drew.setCell (p := ⟨w.heap.size + 1 + 1 + 1, 0, none⟩) (by show w.heap.size ≤ w.heap.size + 1 + 1 + 1; omega) _).setCell (p := ⟨w.heap.size + 1 + 1 + 1, 1, none⟩) (by show w.heap.size ≤ w.heap.size + 1 + 1 + 1; omega) _).setCell (p := ⟨w.heap.size + 1 + 1 + 1, 2, none⟩) (by show w.heap.size ≤ w.heap.size + 1 + 1 + 1; omega) _).setCell (p := ⟨w.heap.size + 1 + 1 + 1, 3, none⟩) (by show w.heap.size ≤ w.heap.size + 1 + 1 + 1; omega) _).setCell (p := ⟨w.heap.size + 1 + 1 + 1, 4, none⟩) (by show w.heap.size ≤ w.heap.size + 1 + 1 + 1; omega) _)
end nod
end Go.Proofs.Ytkeheaempbmmaaa
