/- THE STATEMENT 'AttrFinds': whatever the input, the law returns true and leaves its input as it was. Conditions: those of the row alone (its listed variables are tied to the program's text by the given tie). -/
import Derived.Test.YtckpiaigoeicfaaGreatDoorB13
import Derived.Test.YtckpiaigoeicfaaGreatDoorB12
import Derived.Test.YtckpiaigoeicfaaGreatDoorB9
import Derived.Test.YtckpiaigoeicfaaGreatDoorB8
import Derived.Test.YtckpiaigoeicfaaGreatDoorCards
import Derived.Test.YtckpiaigoeicfaaGreatDoorTie
import Derived.Lay
import Derived.Lib.LaidU8
import Derived.Lib.SmallJoins
import Derived.PinnedBridge
import Derived.WalkKit
import Derived.ProofKit
import Derived.OpenShut
import Derived.ChangeOld
import Derived.Below
import Derived.SizedLaws
import Derived.LaidMore
import Derived.Deep.DeepHandedRow
import Derived.Deep.DeepWitnessRowRef
import Derived.Lib.LaidTab
/-! LawF -/
namespace Go.Proofs.YtckpiaigoeicfaaGreatDoor
open Go.RowKit
namespace atw
open atp tupw prw
set_option linter.unusedVariables false
set_option linter.unusedSimpArgs false
theorem fin_find : ∀ j : Fin 20, findS (sml.lowL (tys[j.val]'(j.isLt)).name) = some (tys[j.val]'(j.isLt)) := by decide +kernel
theorem fin_less : ∀ j : Fin 19, Lib.compareBytes (tys[j.val]'(Nat.lt_succ_of_lt j.isLt)).name (tys[j.val + 1]'(Nat.succ_lt_succ j.isLt)).name = -1 := by decide +kernel
def eqS (x y : ByteArray) : Bool := x.toList == y.toList
theorem eqS_iff {x y : ByteArray} : eqS x y = true ↔ x = y := by
  unfold eqS
  rw [beq_iff_eq, Lib.toList_data, Lib.toList_data]
  exact ⟨kt.str_eq, fun h => by rw [h]⟩
theorem any_eqS (n : List UInt8) : ∃ (nm : ByteArray) (sy : Int) (sg ok : Bool), resT (findS n) = .tuple #[.agg #[.string nm, .int .i64 sy, .bool sg], .bool ok] ∧ (namesL.any fun x => eqS x nm) = ok := by
  cases h : findS n with
  | none =>
    refine ⟨_, _, _, _, rfl, ?_⟩
    rw [List.any_eq_false]
    intro x hx h2
    rw [eqS_iff] at h2
    unfold namesL at hx
    obtain ⟨t, ht, rfl⟩ := List.mem_map.1 hx
    have h3 : t.name = [] := congrArg (fun x : ByteArray => x.data.toList) h2
    have h4 : tys.all (fun t => !decide (t.name = [])) = true := by decide +kernel
    have := List.all_eq_true.1 h4 t ht
    rw [h3] at this
    simp at this
  | some t =>
    refine ⟨_, _, _, _, rfl, ?_⟩
    rw [List.any_eq_true]
    exact ⟨bs t.name, List.mem_map.2 ⟨t, (findS_some h).1, rfl⟩, by rw [eqS_iff]⟩
theorem any_step {L : List ByteArray} {i : Nat} (h : i < L.length) (p : ByteArray → Bool) : (L.take (i + 1)).any p = ((L.take i).any p || p L[i]) := by
  rw [List.take_succ_eq_append_getElem h, List.any_append, List.any_cons, List.any_nil, Bool.or_false]
set_option maxRecDepth 20000 in
set_option maxHeartbeats 16000000 in
theorem finds_law (s : ByteArray) (w : World) (hE : Hid (prw.Env w)) (hT : Hid (dnw.Tabs w)) (hY : Hid (TyEnv w)) :
    Calls Tryz.prog 8 #[.string s] w fun e w' => e = .returned (.bool true) ∧ Below w.heap.size w w' := by
  have HAW := Lib.hid (awake_any w hE hT hY)
  by_cases hl : 2000 < s.size
  · have hlI : (2000 : Int) < (s.size : Int) := by omega
    clear hl
    go_enter Tryz.func8, Tryz.ntmps8
    go_wp2_with fail
    refine (HAW.out).mono ?_
    rintro e w1 ⟨rfl, hB1⟩
    have HB1 := Lib.hid hB1
    clear hB1
    go_wp2_with fail
    go_ret
    exact ⟨rfl, HB1.out⟩
  · have hlI : decide ((2000 : Int) < (s.size : Int)) = false := by rw [decide_eq_false_iff_not]; omega
    have hs : s.size ≤ 10000000 := by omega
    clear hl
    obtain ⟨nm, sy, sg, ok, hres, hany⟩ := any_eqS (sml.lowL s.data.toList)
    have HF : Hid (∀ w, TyEnv w → Calls Tryz.prog 16 #[.string s] w fun e w' => e = .returned (.tuple #[.agg #[.string nm, .int .i64 sy, .bool sg], .bool ok]) ∧ Below w.heap.size w w') := by
      intro w h
      rw [← hres]
      exact find_any s w hs (Lib.hid h)
    have HRF : Hid (∀ w, Calls Tryz.prog 22 #[.string s] w fun e w' => e = .returned (.tuple #[.agg #[.string nm, .int .i64 sy, .bool sg], .bool ok]) ∧ Below w.heap.size w w') := by
      intro w
      rw [← hres]
      exact rfind_any s w hs
    obtain ⟨L, HN, HL, HLE, HANY, HNL⟩ : ∃ L : List ByteArray, Hid (∀ w, TyEnv w → Calls Tryz.prog 23 #[] w fun e w' => ∃ v, e = .returned v ∧ Hid (OwnT w' w.heap.size v L) ∧ Below w.heap.size w w')
        ∧ Hid (∀ (i : Nat) (h : i < L.length) (w : World), ∃ sy sg, Calls Tryz.prog 22 #[.string L[i]] w fun e w' => e = .returned (.tuple #[.agg #[.string L[i], .int .i64 sy, .bool sg], .bool true]) ∧ Below w.heap.size w w')
        ∧ Hid (∀ (i : Nat) (h : i + 1 < L.length) (w : World), Calls Tryz.prog 24 #[.string L[i], .string L[i + 1]] w fun e w' => e = .returned (.int .i64 (-1)) ∧ ∃ n, w' = w.drewN n)
        ∧ Hid ((L.any fun x => eqS x nm) = ok) ∧ Hid (L.length = 20) := by
      refine ⟨namesL, fun w h => names_any w (Lib.hid h), ?_, ?_, hany, namesL_len⟩
      · intro i h w
        have h2 : i < 20 := h
        refine ⟨(tys[i]'h2).syn, (tys[i]'h2).single, ?_⟩
        have hsz : (bs (tys[i]'h2).name).size ≤ 10000000 := by
          have h4 : tys.all (fun t => decide (t.name.length ≤ 100)) = true := by decide +kernel
          have := of_decide_eq_true (List.all_eq_true.1 h4 (tys[i]'h2) (List.getElem_mem _))
          rw [bs_size]; omega
        have h3 := rfind_any (bs (tys[i]'h2).name) w hsz
        rw [bs_data, fin_find ⟨i, h2⟩] at h3
        rw [namesL_at i h2 h]
        exact h3
      · intro i h w
        have h2 : i + 1 < 20 := h
        have hsz : (bs (tys[i]'(Nat.lt_of_succ_lt h2)).name).size ≤ 1100000 := by
          have h4 : tys.all (fun t => decide (t.name.length ≤ 100)) = true := by decide +kernel
          have := of_decide_eq_true (List.all_eq_true.1 h4 (tys[i]'(Nat.lt_of_succ_lt h2)) (List.getElem_mem _))
          rw [bs_size]; omega
        have h3 := ordw.less_any (bs (tys[i]'(Nat.lt_of_succ_lt h2)).name) (bs (tys[i + 1]'h2).name) w (Nat.le_trans hsz (by omega))
        rw [bs_data, bs_data, fin_less ⟨i, by omega⟩] at h3
        rw [namesL_at i (Nat.lt_of_succ_lt h2) (Nat.lt_of_succ_lt h), namesL_at (i + 1) h2 h]
        exact h3
    clear hres hany
    have e1 : (nm.toList == nm.toList) = true := by simp
    have e2 : (sy == sy) = true := by simp
    have e3 : (sg == sg) = true := by simp
    have e4 : (ok != ok) = false := by simp
    have e5 : (ok == ok) = true := by simp
    go_enter Tryz.func8, Tryz.ntmps8
    go_wp2_with fail
    refine (HAW.out).mono ?_
    rintro e w1 ⟨rfl, hB1⟩
    have HB1 := Lib.hid hB1
    clear hB1
    go_wp2_with fail
    refine (HF.out _ (tyEnv_below hY.out HB1.out)).mono ?_
    rintro e w2 ⟨rfl, hB2⟩
    have HB2 := Lib.hid (HB1.out.trans (hB2.mono HB1.out.size))
    clear hB2
    obtain ⟨W2, hW2⟩ : ∃ W, w2.alloc (.cells #[.string nm, .int .i64 sy, .bool sg] 23) = W := ⟨_, rfl⟩
    have HT2 : Hid (TB W2 w2.heap.size nm sy sg) := by rw [← hW2]; exact tb_new w2 nm sy sg
    have HBW2 : Hid (Below w.heap.size w W2) := by rw [← hW2]; exact HB2.out.alloc (HB2.out.size) _
    have hw2 : w.heap.size ≤ W2.heap.size := HBW2.out.size
    have HW2 := Lib.hid hW2
    clear hW2
    go_wp2_with fail
    rw [HW2.out]
    refine (HRF.out _).mono ?_
    rintro e w3 ⟨rfl, hB3⟩
    have HB3 := Lib.hid (HBW2.out.trans (hB3.mono hw2))
    have HT3 := Lib.hid (tb_below HT2.out hB3)
    clear hB3
    obtain ⟨W3, hW3⟩ : ∃ W, w3.alloc (.cells #[.string nm, .int .i64 sy, .bool sg] 23) = W := ⟨_, rfl⟩
    have HU3 : Hid (TB W3 w3.heap.size nm sy sg) := by rw [← hW3]; exact tb_new w3 nm sy sg
    have HTW3 : Hid (TB W3 w2.heap.size nm sy sg) := tb_below HT3.out (by rw [← hW3]; exact (Below.refl _ _).alloc (Nat.le_refl _) _)
    have HBW3 : Hid (Below w.heap.size w W3) := by rw [← hW3]; exact HB3.out.alloc (HB3.out.size) _
    have hw3 : w.heap.size ≤ W3.heap.size := HBW3.out.size
    have HW3 := Lib.hid hW3
    have HTX : TB (w3.alloc (.cells #[.string nm, .int .i64 sy, .bool sg] 23)) w2.heap.size nm sy sg := by rw [HW3.out]; exact HTW3.out
    obtain ⟨k0, k1, k2⟩ := tb_cells HTX
    clear hW3 HTX
    go_wp2_with fail
    rw [HW3.out]
    refine (HN.out _ (tyEnv_below hY.out HBW3.out)).mono ?_
    rintro e w4 ⟨v, rfl, hO4, hB4⟩
    have HB4 := Lib.hid (HBW3.out.trans (hB4.mono hw3))
    have HT4 := Lib.hid (tb_below HTW3.out hB4)
    have hw4 : w.heap.size ≤ w4.heap.size := HB4.out.size
    obtain ⟨ao, m, cap, rfl, hm⟩ := dnw.ownT_form hO4.out
    have HS4 := Lib.hid (dnw.ownT_strs hO4.out).1
    obtain rfl : m = 20 := hm.out.trans HNL.out
    clear hB4 hO4 hm k0 k1 k2
    go_wp2_with fail
    go_loopw [8, 9, 10, 11] (fun hv iv _ _ wr => ∃ i : Nat, i ≤ 20 ∧ iv = .int .i64 (i : Int) ∧ ∃ b : Bool, hv = .bool b ∧ Hid (((L.take i).any fun x => eqS x nm) = b) ∧ Hid (Below w4.heap.size w4 wr)) (fun _ iv _ _ _ => 20 - (intOf iv).toNat)
    case atStart => exact ⟨0, by omega, rfl, false, rfl, rfl, Below.refl _ _⟩
    case round =>
      obtain ⟨i, hi, rfl, here, rfl, hany, hBr⟩ := hrel
      have hsz := hBr.out.size
      by_cases hlt : i < 20
      · have hltI : (i : Int) < 20 := by omega
        have hil : i < L.length := by rw [HNL.out]; exact hlt
        obtain ⟨b, o, hao, hc0⟩ := (strs_below HS4.out hBr.out) i hil
        subst hao
        obtain ⟨sy1, sg1, HL1⟩ := HL.out i hil wr
        have HL1 := Lib.hid HL1
        have HANYS := Lib.hid (any_step hil fun x => eqS x nm)
        have hprev : Hid (i = 0 ∨ ∃ (j : Nat) (y : ByteArray), (i : Int) - 1 = (j : Int) ∧ (∀ w, Strs w (some ⟨b, o, none⟩) L → w.cell? ⟨b, o + j, none⟩ = some (.string y)) ∧ ∀ (w : World), Calls Tryz.prog 24 #[.string y, .string L[i]] w fun e w' => e = .returned (.int .i64 (-1)) ∧ ∃ n, w' = w.drewN n) := by
          by_cases h0 : i = 0
          · exact Or.inl h0
          · obtain ⟨j, rfl⟩ : ∃ j, i = j + 1 := ⟨i - 1, by omega⟩
            refine Or.inr ⟨j, L[j], by omega, ?_, HLE.out j hil⟩
            intro w h
            obtain ⟨b', o', e, hc⟩ := h j (by omega)
            cases e
            exact hc
        generalize L[i] = x at hc0 HL1 HANYS hprev
        obtain ⟨b', hb', HA'⟩ : ∃ b', b' = (here || eqS x nm) ∧ Hid (((L.take (i + 1)).any fun x => eqS x nm) = b') := ⟨_, rfl, by show _ = _; rw [HANYS.out, hany.out]⟩
        have hq : here = true ∧ b' = true ∨ here = false ∧ b' = (x.toList == nm.toList) := by
          rw [hb']
          cases here
          · exact Or.inr ⟨rfl, rfl⟩
          · exact Or.inl ⟨rfl, rfl⟩
        clear hb' HANYS hany
        go_wp2_with fail
        refine (HL1.out).mono ?_
        rintro e w5 ⟨rfl, hB5⟩
        obtain ⟨W5, hW5⟩ : ∃ W, w5.alloc (.cells #[.string x, .int .i64 sy1, .bool sg1] 23) = W := ⟨_, rfl⟩
        have hBW5 : Below w4.heap.size w4 W5 := by rw [← hW5]; exact (hBr.out.trans (hB5.mono hsz)).alloc (Nat.le_trans hsz hB5.size) _
        have HBW5 := Lib.hid hBW5
        have hS5 := strs_below HS4.out hBW5
        obtain ⟨b2, o2, e2, c0⟩ := hS5 i hil
        clear c0 e2
        have hx5 : W5.cell? ⟨b, o + i, none⟩ = some (.string x) := by
          have h1 : w5.cell? ⟨b, o + i, none⟩ = some (.string x) := (hB5.cell (p := ⟨b, o + i, none⟩) (World.block_lt_of_cell? _ _ hc0)).trans hc0
          have h2 : Below w5.heap.size w5 W5 := by rw [← hW5]; exact (Below.refl _ _).alloc (Nat.le_refl _) _
          exact (h2.cell (p := ⟨b, o + i, none⟩) (World.block_lt_of_cell? _ _ h1)).trans h1
        have HT5 := Lib.hid (tb_below HT4.out hBW5)
        clear hB5 hBW5 hc0
        rcases hprev.out with h0 | ⟨j, y, hj, hy, hless⟩
        · have h0I : ¬ (0 : Int) < (i : Int) := by omega
          have h0D : decide ((0 : Int) < (i : Int)) = false := decide_eq_false h0I
          have h0N : ¬ 0 < i := by omega
          have h0E : decide (0 < i) = false := decide_eq_false h0N
          obtain ⟨m0, m1, m2⟩ := tb_cells HT5.out
          clear h0 hS5 hprev
          rcases hq with ⟨rfl, rfl⟩ | ⟨rfl, rfl⟩
          all_goals
            go_wp2_with fail
            go_quiet (fail)
            have HB6 := Lib.hid (below_dr HBW5.out nq)
            have hB56 : Below W5.heap.size W5 (W5.drewN nq) := below_dr (Below.refl _ _) nq
            have hx6 := (hB56.cell (p := ⟨b, o + i, none⟩) (World.block_lt_of_cell? _ _ hx5)).trans hx5
            obtain ⟨n0, n1, n2⟩ := tb_cells (tb_below HT5.out hB56)
            generalize W5.drewN nq = w6 at HB6 hx6 n0 n1 n2 ⊢
            clear hB56 hx5 m0 m1 m2
            go_wp2_with fail
            go_quiet (fail)
            have HB7 := Lib.hid (below_dr HB6.out nq)
            generalize w6.drewN nq = w7 at HB7 ⊢
            clear hx6 n0 n1 n2
            go_wp2_with fail
            go_roundw
            case rel => exact ⟨i + 1, by omega, by go_num, _, rfl, HA', HB7⟩
            case measure => simp [intOf]; omega
        · have h0I : (0 : Int) < (i : Int) := by omega
          have h0D : decide ((0 : Int) < (i : Int)) = true := decide_eq_true h0I
          have h0N : 0 < i := by omega
          have h0E : decide (0 < i) = true := decide_eq_true h0N
          have hy5 := hy W5 hS5
          have hjw : IntKind.i64.wrap ((i : Int) - 1) = (j : Int) := by rw [hj]; exact IntWalk.i64_in _ (by omega)
          have hj0 : ¬ (j : Int) < 0 := by omega
          have hj20 : j < 20 := by omega
          have HLS := Lib.hid hless
          obtain ⟨m0, m1, m2⟩ := tb_cells HT5.out
          clear hS5 hprev hy hless
          rcases hq with ⟨rfl, rfl⟩ | ⟨rfl, rfl⟩
          all_goals
            go_wp2_with fail
            go_quiet ((go_at_call 24; exact Calls.quiet_of (HLS.out _)))
            have HB6 := Lib.hid (below_dr HBW5.out nq)
            have hB56 : Below W5.heap.size W5 (W5.drewN nq) := below_dr (Below.refl _ _) nq
            have hx6 := (hB56.cell (p := ⟨b, o + i, none⟩) (World.block_lt_of_cell? _ _ hx5)).trans hx5
            obtain ⟨n0, n1, n2⟩ := tb_cells (tb_below HT5.out hB56)
            generalize W5.drewN nq = w6 at HB6 hx6 n0 n1 n2 ⊢
            clear hB56 hx5 m0 m1 m2
            go_wp2_with fail
            go_quiet (fail)
            have HB7 := Lib.hid (below_dr HB6.out nq)
            generalize w6.drewN nq = w7 at HB7 ⊢
            clear hx6 n0 n1 n2
            go_wp2_with fail
            go_roundw
            case rel => exact ⟨i + 1, by omega, by go_num, _, rfl, HA', HB7⟩
            case measure => simp [intOf]; omega
      · obtain rfl : i = 20 := by omega
        have hok : here = ok := by
          rw [← HANY.out, ← hany.out, ← HNL.out, List.take_length]
        subst hok
        clear HANY hany HNL
        go_wp2_with fail
        go_ret
        exact ⟨rfl, HB4.out.trans (hBr.out.mono hw4)⟩
end atw
end Go.Proofs.YtckpiaigoeicfaaGreatDoor
/-! AttrFinds -/
namespace Go.Proofs.YtckpiaigoeicfaaGreatDoor.attrFinds
open Go.ChangeShapes Go.WideShapes Go.ChangeAt Go.RowKit
open Go.ChangeMaps (open_string shut_string)
set_option linter.unusedVariables false

theorem own : ownKnob Tryz.prog.godebug = none := by kernel_rfl
theorem laidOut : laidOutB Tryz.prog = true := by kernel_rfl
theorem u8x : U8Extra Tryz.prog Tryz.lays260_ren where
  n3 := by kernel_rfl
  n4 := by kernel_rfl
  y3 := by kernel_rfl
  y4 := by kernel_rfl
  c5 := by kernel_rfl
  c119 := by kernel_rfl
  c138 := by kernel_rfl
theorem accEq : (Rows.laid_unicode_utf8_acceptRanges : DataW Unit) = Lib.acceptData := by kernel_rfl
theorem tyEq : (Rows.laid_rollbook_attr_types : DataW Unit) = atw.tyData := by kernel_rfl
/-- WHAT THE ROW's LIST GIVES, and the shape: the library's tables. -/
theorem tabs {W : World} (h : laidMetH Tryz.prog Rows.attrFindsRow.laid W) : Hid (dnw.Tabs W) :=
  utf8Tabs_of_reads Tryz.lays260 u8x (by have := Lib.laidMet.reads h (n := "unicode/utf8.first") (d := Rows.laid_unicode_utf8_first) (by simp [Rows.attrFindsRow]); rw [show Rows.laid_unicode_utf8_first = Lib.firstData from Pinned.utf8First_eq] at this; exact this) (by have := Lib.laidMet.reads h (n := "unicode/utf8.acceptRanges") (d := Rows.laid_unicode_utf8_acceptRanges) (by simp [Rows.attrFindsRow]); rw [accEq] at this; exact this)
theorem env {W : World} (hsh : W.ShapedOpen Tryz.prog) : Hid (prw.Env W) := Tryz.laysM146.s1_3 W hsh
theorem typ {W : World} (h : laidMetH Tryz.prog Rows.attrFindsRow.laid W) : Hid (atw.TyEnv W) :=
  atw.tyEnv_of_reads (by have := Lib.laidMet.reads h (n := "rollbook/attr.types") (d := Rows.laid_rollbook_attr_types) (by simp [Rows.attrFindsRow]); rw [tyEq] at this; exact this)

set_option maxRecDepth 100000 in
/-- WHAT THE WALK GIVES, FOR EVERY ARGUMENT. -/
theorem contract (H : Type) (enc : TypeId × Value → H) (W : World) (base : Nat) (args : Array Value) (ds gs : List (DataW H)) (before : List MemPlace)
    (hval : ∀ (j : Nat) t v, Tryz.f8.params[j]? = some t → args[j]? = some v → Value.okWide Tryz.prog W .any base t v)
    (hW : DataW.Whole enc Tryz.prog Tryz.f8.params.toList Rows.attrFindsSpec.vars false W args.toList ds gs before)
    (hsz0 : (DataW.weightsEach Tryz.prog (Tryz.f8.params.toList ++ Rows.attrFindsSpec.plain.varTypes Tryz.prog) (ds ++ gs)).all (· ≤ reachBytes) = true)
    (hL : laidMetH Tryz.prog Rows.attrFindsRow.laid W) (hsh : W.ShapedOpen Tryz.prog) :
    Calls Tryz.prog 8 args W fun e W' => ∃ v, e = .returned v ∧ Rows.attrFindsSpec.post enc Tryz.prog Tryz.f8 false true false false W args v W' := by
  have hW' := hW
  obtain ⟨p, q, hA0, hV, rfl, hfz, hnd⟩ := hW
  have hA : DataW.TrodAll enc Tryz.prog W 0 (fun _ => true) true Tryz.f8.params.toList args.toList ds p := hA0
  have hsz := hsz0
  rw [Tryz.params8] at hA hval hsz
  obtain ⟨v0, vs0, d0, ds0, p0, q0, hargs, rfl, rfl, h0, r0⟩ := trodAll_cons hA
  obtain ⟨rfl, rfl, rfl⟩ := trodAll_nil r0
  obtain rfl : args = #[v0] := by cases args; simp_all
  obtain ⟨rfl, rfl⟩ := trodVars_none hV
  have k0 := h0
  have lt0 : ∀ x ∈ p0, x.block < W.heap.size := by obtain ⟨m, hm⟩ := k0; exact DataW.trod_lt m _ _ _ hm
  obtain ⟨a0, rfl, rfl, rfl, ws0⟩ := open_string Tryz.underlying9 (hval 0 9 v0 rfl rfl) h0
  have ha0 : a0.size ≤ 140737488351232 := by
    have := sized_string hsz (j := 0) (t := 9) rfl rfl
    simpa [reachBytes] using this
  clear hA0
  simp only [List.append_nil] at hW'
  have walk : Calls Tryz.prog 8 #[.string a0] W fun e w' => e = .returned (.bool true) ∧ Below W.heap.size W w' := by
    exact atw.finds_law a0 W (env hsh) (tabs hL) (typ hL)
  refine walk.mono fun e W' ⟨he, hb⟩ => ?_
  subst he
  exact ⟨_, rfl, _, _, _, [], _, [], hW', trodAll_cons_mk (shut_bool Tryz.underlying4 _) trodAll_mk0, (trodAll_cons_mk (Below.trod laidOut (by kernel_rfl) (of_decide_eq_true (by kernel_rfl)) k0 hb lt0) trodAll_mk0), rfl, hb.frame _, fun h => by cases h⟩

theorem laid_met (os : Os) : laidMet Tryz.prog Rows.attrFindsRow.laid ((World.laidAll Tryz.prog os Rows.attrFindsRow.laid).forCall (fun _ _ => 0) ⟨#[], #[.string ByteArray.empty], []⟩).memory :=
  laidMet_laidAll _ (by kernel_rfl) (by kernel_rfl)
theorem reads (os : Os) {H : Type} (enc : TypeId × Value → H) : ∃ places, DataW.whole enc Tryz.prog ((World.laidAll Tryz.prog os Rows.attrFindsRow.laid).forCall (fun _ _ => 0) ⟨#[], #[.string ByteArray.empty], []⟩).memory Tryz.f8.params.toList Rows.attrFindsSpec.vars false (#[.string ByteArray.empty] : Array Value).toList 8 = some ([.lit (.string [])], [], places) :=
  ⟨[], by kernel_rfl⟩

set_option maxRecDepth 100000 in
theorem lifted (os : Os) (started : os.Started) (H : Type) (enc : TypeId × Value → H) (F : Stop.Interp) :
    ReturnsInHanded {} Tryz.checked os 8 .any ((OpenSpec.ofChange Rows.attrFindsSpec).preRow enc Tryz.prog Tryz.f8 Rows.attrFindsRow.domain false Rows.attrFindsRow.laid) (((OpenSpec.ofChange Rows.attrFindsSpec).at F).post enc Tryz.prog Tryz.f8 false true false false) := by
  obtain ⟨places, hx⟩ := reads os enc
  refine returnsInHanded_of_row (C := Tryz.checked) (s := (OpenSpec.ofChange Rows.attrFindsSpec)) own started (by kernel_rfl) Tryz.func8
    (witness_row_at (enc := enc) (C := Tryz.checked) false (World.laidAll Tryz.prog os Rows.attrFindsRow.laid) #[.string ByteArray.empty] (World.laidAll_os _ _ _) (by kernel_rfl) (by kernel_rfl) (by kernel_rfl)
      (OpenSpec.preRow_of_cond 8 hx (by kernel_rfl) (fun k hk => by cases hk) (by kernel_rfl) (laid_met os))) ?_
  intro W base args ds gs before hval hW _ _ hsz hL hsh _
  exact contract H enc W base args ds gs before hval hW hsz hL hsh

theorem said : Rows.AttrFindsSaid :=
  OpenClaim.holds_of_cond 8 Tryz.f8 rfl rfl rfl rfl rfl rfl rfl ⟨rfl, rfl, rfl, rfl, rfl⟩ rfl rfl rfl rfl rfl (by kernel_rfl) Tryz.func8 (by kernel_rfl)
    (of_decide_eq_true (by kernel_rfl)) (by unfold Func.isWrapper; first | (rw [if_pos (by decide +kernel)]; kernel_rfl) | (rw [if_neg (by decide +kernel)]; exact ⟨rfl, rfl⟩))
    (fun os started H enc _ F => by rw [OpenClaim.pre_eq_preRow]; exact lifted os started H enc F)

theorem plain (f : FuncId) (fn : Func) (hf : Tryz.pinned.checked.prog.funcNamed "rollbook/rollbooklaw16.AttrFinds" = some f) (hfn : Tryz.pinned.checked.prog.funcs[f]? = some fn) :
    true = Tryz.pinned.checked.prog.looks [] ∧ ∀ (j : Nat) t, fn.params[j]? = some t → Tryz.pinned.checked.prog.wantsStandIn t = false := by
  obtain rfl : f = 8 := Option.some.inj ((show Tryz.prog.funcNamed "rollbook/rollbooklaw16.AttrFinds" = some 8 by kernel_rfl).symm.trans hf) |>.symm
  obtain rfl : fn = Tryz.f8 := (Option.some.inj (Tryz.func8.symm.trans hfn)).symm
  refine ⟨by kernel_rfl, fun j t ht => ?_⟩
  rw [Tryz.params8] at ht
  have hm : t ∈ [9] := by simpa using Array.mem_of_getElem? ht
  have hall : ([9].all fun u => !Tryz.prog.wantsStandIn u) = true := by kernel_rfl
  exact (show Tryz.prog.wantsStandIn t = false by simpa using List.all_eq_true.1 hall t hm)

theorem proved : Rows.AttrFindsCardSaid :=
  Claim7.holds_tied_plain_at .later [] _ _ _ _ said (fun _ h => by cases h) (by kernel_rfl) (fun _ h => by cases h) attrFinds_row_tie rfl ⟨rfl, rfl⟩ (by kernel_rfl) rfl plain (by kernel_rfl)
#print axioms proved
end Go.Proofs.YtckpiaigoeicfaaGreatDoor.attrFinds
