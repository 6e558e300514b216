/- THE STATEMENT 'AttrHolds': whatever the input, the law returns true and leaves its input as it was. Conditions: those of the row alone (its listed variables are tied to the program's text by the given tie). -/
import Derived.Test.YtckpiaigoeicfaaGreatDoorB13
import Derived.Test.YtckpiaigoeicfaaGreatDoorB12
import Derived.Test.YtckpiaigoeicfaaGreatDoorCards
import Derived.Test.YtckpiaigoeicfaaGreatDoorTie
import Derived.Lay
import Derived.Lib.LaidU8
import Derived.Lib.SmallJoins
import Derived.PinnedBridge
import Derived.WalkKit
import Derived.ProofKit
import Derived.OpenShut
import Derived.ChangeOld
import Derived.Below
import Derived.SizedLaws
import Derived.LaidMore
import Derived.Deep.DeepHandedRow
import Derived.Deep.DeepWitnessRowRef
import Derived.Lib.LaidTab
/-! LawH -/
namespace Go.Proofs.YtckpiaigoeicfaaGreatDoor
open Go.RowKit
namespace atw
open atp tupw prw
set_option linter.unusedVariables false
set_option linter.unusedSimpArgs false
set_option maxRecDepth 20000 in
set_option maxHeartbeats 4000000 in
theorem holds_law (nm : ByteArray) (syn : Int) (sg : Bool) (a b : ByteArray) (w : World) (ha : a.size ≤ 140737488351232) (hb : b.size ≤ 140737488351232) (hE : Hid (prw.Env w)) (hT : Hid (dnw.Tabs w)) (hY : Hid (TyEnv w)) :
    Calls Tryz.prog 3 #[.agg #[.string nm, .int .i64 syn, .bool sg], .string a, .string b] w fun e w' => e = .returned (.bool true) ∧ Below w.heap.size w w' := by
  obtain ⟨W0, hW0⟩ : ∃ W, w.alloc (.cells #[.string nm, .int .i64 syn, .bool sg] 23) = W := ⟨_, rfl⟩
  have hB0 : Below w.heap.size w W0 := by rw [← hW0]; exact (Below.refl _ _).alloc (Nat.le_refl _) _
  have HB0 := Lib.hid hB0
  have hw0 : w.heap.size ≤ W0.heap.size := hB0.size
  have HTB0 : Hid (TB W0 w.heap.size nm syn sg) := by rw [← hW0]; exact tb_new w nm syn sg
  have HAW := Lib.hid (awake_any W0 (Lib.hid (prw.env_below hE.out hB0)) (Lib.hid (dnw.tabs_below hT.out hB0)) (Lib.hid (tyEnv_below hY.out hB0)))
  have HQ0 : ∀ w, prw.Env w → dnw.Tabs w → Calls Tryz.prog 10 #[.agg #[.string nm, .int .i64 syn, .bool sg], .string a, .string b] w fun e w' => e = .returned (.tuple #[.bool (eqL syn a.data.toList b.data.toList).1, .int .i64 (eqL syn a.data.toList b.data.toList).2]) ∧ Below w.heap.size w w' := fun w h1 h2 => equal_any nm syn sg a b w ha hb (Lib.hid h1) (Lib.hid h2)
  have HQR0 : ∀ w, Calls Tryz.prog 11 #[.agg #[.string nm, .int .i64 syn, .bool sg], .string a, .string b] w fun e w' => e = .returned (.tuple #[.bool (eqL syn a.data.toList b.data.toList).1, .int .i64 (eqL syn a.data.toList b.data.toList).2]) ∧ Below w.heap.size w w' := fun w => requal_any nm syn sg a b w ha hb
  have HO0 : ∀ w, prw.Env w → dnw.Tabs w → Calls Tryz.prog 12 #[.agg #[.string nm, .int .i64 syn, .bool sg], .string a, .string b] w fun e w' => e = .returned (.tuple #[.int .i64 (ordL syn a.data.toList b.data.toList).1, .int .i64 (ordL syn a.data.toList b.data.toList).2]) ∧ Below w.heap.size w w' := fun w h1 h2 => order_any nm syn sg a b w ha hb (Lib.hid h1) (Lib.hid h2)
  have HOR0 : ∀ w, Calls Tryz.prog 13 #[.agg #[.string nm, .int .i64 syn, .bool sg], .string a, .string b] w fun e w' => e = .returned (.tuple #[.int .i64 (ordL syn a.data.toList b.data.toList).1, .int .i64 (ordL syn a.data.toList b.data.toList).2]) ∧ Below w.heap.size w w' := fun w => rorder_any nm syn sg a b w ha hb
  generalize eqL syn a.data.toList b.data.toList = q at HQ0 HQR0
  generalize ordL syn a.data.toList b.data.toList = o at HO0 HOR0
  obtain ⟨q1, q2⟩ := q
  obtain ⟨o1, o2⟩ := o
  have HQ : Hid (∀ w, prw.Env w → dnw.Tabs w → Calls Tryz.prog 10 #[.agg #[.string nm, .int .i64 syn, .bool sg], .string a, .string b] w fun e w' => e = .returned (.tuple #[.bool q1, .int .i64 q2]) ∧ Below w.heap.size w w') := HQ0
  have HQR : Hid (∀ w, Calls Tryz.prog 11 #[.agg #[.string nm, .int .i64 syn, .bool sg], .string a, .string b] w fun e w' => e = .returned (.tuple #[.bool q1, .int .i64 q2]) ∧ Below w.heap.size w w') := HQR0
  have HO : Hid (∀ w, prw.Env w → dnw.Tabs w → Calls Tryz.prog 12 #[.agg #[.string nm, .int .i64 syn, .bool sg], .string a, .string b] w fun e w' => e = .returned (.tuple #[.int .i64 o1, .int .i64 o2]) ∧ Below w.heap.size w w') := HO0
  have HOR : Hid (∀ w, Calls Tryz.prog 13 #[.agg #[.string nm, .int .i64 syn, .bool sg], .string a, .string b] w fun e w' => e = .returned (.tuple #[.int .i64 o1, .int .i64 o2]) ∧ Below w.heap.size w w') := HOR0
  clear HQ0 HQR0 HO0 HOR0 hB0
  have e1 : (q1 == q1) = true := by simp
  have e2 : (q2 == q2) = true := by simp
  have e3 : (o1 == o1) = true := by simp
  have e4 : (o2 == o2) = true := by simp
  by_cases hl : 2000 < a.size
  · have hlI : (2000 : Int) < (a.size : Int) := by omega
    clear hl
    go_enter Tryz.func3, Tryz.ntmps3
    go_wp2_with fail
    refine (HAW.out).mono ?_
    rintro e w1 ⟨rfl, hB1⟩
    have HB1 := Lib.hid (HB0.out.trans (hB1.mono hw0))
    have HT1 := Lib.hid (tb_below HTB0.out hB1)
    obtain ⟨k10, k11, k12⟩ := tb_cells HT1.out
    clear hB1 hW0
    go_wp2_with fail
    go_ret
    exact ⟨rfl, HB1.out⟩
  · have hlI : decide ((2000 : Int) < (a.size : Int)) = false := by rw [decide_eq_false_iff_not]; omega
    clear hl
    by_cases hl : 2000 < b.size
    · have hlJ : (2000 : Int) < (b.size : Int) := by omega
      clear hl
      go_enter Tryz.func3, Tryz.ntmps3
      go_wp2_with fail
      refine (HAW.out).mono ?_
      rintro e w1 ⟨rfl, hB1⟩
      have HB1 := Lib.hid (HB0.out.trans (hB1.mono hw0))
      have HT1 := Lib.hid (tb_below HTB0.out hB1)
      obtain ⟨k10, k11, k12⟩ := tb_cells HT1.out
      clear hB1 hW0
      go_wp2_with fail
      go_ret
      exact ⟨rfl, HB1.out⟩
    · have hlJ : decide ((2000 : Int) < (b.size : Int)) = false := by rw [decide_eq_false_iff_not]; omega
      clear hl
      go_enter Tryz.func3, Tryz.ntmps3
      go_wp2_with fail
      refine (HAW.out).mono ?_
      rintro e w1 ⟨rfl, hB1⟩
      have HB1 := Lib.hid (HB0.out.trans (hB1.mono hw0))
      have HT1 := Lib.hid (tb_below HTB0.out hB1)
      obtain ⟨k10, k11, k12⟩ := tb_cells HT1.out
      clear hB1 hW0
      go_wp2_with fail
      refine (HQ.out _ (prw.env_below hE.out HB1.out) (dnw.tabs_below hT.out HB1.out)).mono ?_
      rintro e w2 ⟨rfl, hB2⟩
      have HB2 := Lib.hid (HB1.out.trans (hB2.mono HB1.out.size))
      have HT2 := Lib.hid (tb_below HT1.out hB2)
      obtain ⟨k20, k21, k22⟩ := tb_cells HT2.out
      clear hB2 k10 k11 k12
      go_wp2_with fail
      refine (HQR.out _).mono ?_
      rintro e w3 ⟨rfl, hB3⟩
      have HB3 := Lib.hid (HB2.out.trans (hB3.mono HB2.out.size))
      have HT3 := Lib.hid (tb_below HT2.out hB3)
      obtain ⟨k30, k31, k32⟩ := tb_cells HT3.out
      clear hB3 k20 k21 k22
      go_wp2_with fail
      refine (HO.out _ (prw.env_below hE.out HB3.out) (dnw.tabs_below hT.out HB3.out)).mono ?_
      rintro e w4 ⟨rfl, hB4⟩
      have HB4 := Lib.hid (HB3.out.trans (hB4.mono HB3.out.size))
      have HT4 := Lib.hid (tb_below HT3.out hB4)
      obtain ⟨k40, k41, k42⟩ := tb_cells HT4.out
      clear hB4 k30 k31 k32
      go_wp2_with fail
      refine (HOR.out _).mono ?_
      rintro e w5 ⟨rfl, hB5⟩
      have HB5 := Lib.hid (HB4.out.trans (hB5.mono HB4.out.size))
      have HT5 := Lib.hid (tb_below HT4.out hB5)
      obtain ⟨k50, k51, k52⟩ := tb_cells HT5.out
      clear hB5 k40 k41 k42
      go_wp2_with fail
      go_ret
      exact ⟨rfl, HB5.out⟩
end atw
end Go.Proofs.YtckpiaigoeicfaaGreatDoor
/-! AttrHolds -/
namespace Go.Proofs.YtckpiaigoeicfaaGreatDoor.attrHolds
open Go.ChangeShapes Go.WideShapes Go.ChangeAt Go.RowKit
open Go.ChangeMaps (open_string shut_string)
set_option linter.unusedVariables false

theorem own : ownKnob Tryz.prog.godebug = none := by kernel_rfl
theorem laidOut : laidOutB Tryz.prog = true := by kernel_rfl
theorem u8x : U8Extra Tryz.prog Tryz.lays260_ren where
  n3 := by kernel_rfl
  n4 := by kernel_rfl
  y3 := by kernel_rfl
  y4 := by kernel_rfl
  c5 := by kernel_rfl
  c119 := by kernel_rfl
  c138 := by kernel_rfl
theorem accEq : (Rows.laid_unicode_utf8_acceptRanges : DataW Unit) = Lib.acceptData := by kernel_rfl
theorem tyEq : (Rows.laid_rollbook_attr_types : DataW Unit) = atw.tyData := by kernel_rfl
/-- WHAT THE ROW's LIST GIVES, and the shape: the library's tables. -/
theorem tabs {W : World} (h : laidMetH Tryz.prog Rows.attrHoldsRow.laid W) : Hid (dnw.Tabs W) :=
  utf8Tabs_of_reads Tryz.lays260 u8x (by have := Lib.laidMet.reads h (n := "unicode/utf8.first") (d := Rows.laid_unicode_utf8_first) (by simp [Rows.attrHoldsRow]); rw [show Rows.laid_unicode_utf8_first = Lib.firstData from Pinned.utf8First_eq] at this; exact this) (by have := Lib.laidMet.reads h (n := "unicode/utf8.acceptRanges") (d := Rows.laid_unicode_utf8_acceptRanges) (by simp [Rows.attrHoldsRow]); rw [accEq] at this; exact this)
theorem env {W : World} (hsh : W.ShapedOpen Tryz.prog) : Hid (prw.Env W) := Tryz.laysM146.s1_3 W hsh
theorem typ {W : World} (h : laidMetH Tryz.prog Rows.attrHoldsRow.laid W) : Hid (atw.TyEnv W) :=
  atw.tyEnv_of_reads (by have := Lib.laidMet.reads h (n := "rollbook/attr.types") (d := Rows.laid_rollbook_attr_types) (by simp [Rows.attrHoldsRow]); rw [tyEq] at this; exact this)

set_option maxRecDepth 100000 in
/-- WHAT THE WALK GIVES, FOR EVERY ARGUMENT. -/
theorem contract (H : Type) (enc : TypeId × Value → H) (W : World) (base : Nat) (args : Array Value) (ds gs : List (DataW H)) (before : List MemPlace)
    (hval : ∀ (j : Nat) t v, Tryz.f3.params[j]? = some t → args[j]? = some v → Value.okWide Tryz.prog W .any base t v)
    (hW : DataW.Whole enc Tryz.prog Tryz.f3.params.toList Rows.attrHoldsSpec.vars false W args.toList ds gs before)
    (hsz0 : (DataW.weightsEach Tryz.prog (Tryz.f3.params.toList ++ Rows.attrHoldsSpec.plain.varTypes Tryz.prog) (ds ++ gs)).all (· ≤ reachBytes) = true)
    (hL : laidMetH Tryz.prog Rows.attrHoldsRow.laid W) (hsh : W.ShapedOpen Tryz.prog) :
    Calls Tryz.prog 3 args W fun e W' => ∃ v, e = .returned v ∧ Rows.attrHoldsSpec.post enc Tryz.prog Tryz.f3 false true false false W args v W' := by
  have hW' := hW
  obtain ⟨p, q, hA0, hV, rfl, hfz, hnd⟩ := hW
  have hA : DataW.TrodAll enc Tryz.prog W 0 (fun _ => true) true Tryz.f3.params.toList args.toList ds p := hA0
  have hsz := hsz0
  rw [Tryz.params3] at hA hval hsz
  obtain ⟨v0, vs0, d0, ds0, p0, q0, hargs, rfl, rfl, h0, r0⟩ := trodAll_cons hA
  obtain ⟨v1, vs1, d1, ds1, p1, q1, rfl, rfl, rfl, h1, r1⟩ := trodAll_cons r0
  obtain ⟨v2, vs2, d2, ds2, p2, q2, rfl, rfl, rfl, h2, r2⟩ := trodAll_cons r1
  obtain ⟨rfl, rfl, rfl⟩ := trodAll_nil r2
  obtain rfl : args = #[v0, v1, v2] := by cases args; simp_all
  obtain ⟨rfl, rfl⟩ := trodVars_none hV
  have k0 := h0
  have lt0 : ∀ x ∈ p0, x.block < W.heap.size := by obtain ⟨m, hm⟩ := k0; exact DataW.trod_lt m _ _ _ hm
  have k1 := h1
  have lt1 : ∀ x ∈ p1, x.block < W.heap.size := by obtain ⟨m, hm⟩ := k1; exact DataW.trod_lt m _ _ _ hm
  have k2 := h2
  have lt2 : ∀ x ∈ p2, x.block < W.heap.size := by obtain ⟨m, hm⟩ := k2; exact DataW.trod_lt m _ _ _ hm
  obtain ⟨x0, y0, z0, u0, u0', u0'', n0, rfl, rfl, rfl, s0, t0, r0'⟩ := Joins.open_agg3 Tryz.underlying23 (by kernel_rfl) (by kernel_rfl) (hval 0 23 v0 rfl rfl) h0
  obtain ⟨nm0, e0s, _⟩ := DataW.trod_string Tryz.underlying9 s0
  obtain ⟨sy0, e0t, _⟩ := DataW.trod_int Tryz.underlying3 t0
  obtain ⟨sg0, e0r, _⟩ := DataW.trod_bool Tryz.underlying4 r0'
  simp only [List.cons.injEq, and_true] at e0s e0t e0r
  subst e0s e0t e0r
  obtain ⟨a1, rfl, rfl, rfl, ws1⟩ := open_string Tryz.underlying9 (hval 1 9 v1 rfl rfl) h1
  have ha1 : a1.size ≤ 140737488351232 := by
    have := sized_string hsz (j := 1) (t := 9) rfl rfl
    simpa [reachBytes] using this
  obtain ⟨a2, rfl, rfl, rfl, ws2⟩ := open_string Tryz.underlying9 (hval 2 9 v2 rfl rfl) h2
  have ha2 : a2.size ≤ 140737488351232 := by
    have := sized_string hsz (j := 2) (t := 9) rfl rfl
    simpa [reachBytes] using this
  clear hA0
  simp only [List.append_nil] at hW'
  have walk : Calls Tryz.prog 3 #[.agg #[.string nm0, .int .i64 sy0, .bool sg0], .string a1, .string a2] W fun e w' => e = .returned (.bool true) ∧ Below W.heap.size W w' := by
    exact atw.holds_law nm0 sy0 sg0 a1 a2 W ha1 ha2 (env hsh) (tabs hL) (typ hL)
  refine walk.mono fun e W' ⟨he, hb⟩ => ?_
  subst he
  exact ⟨_, rfl, _, _, _, [], _, [], hW', trodAll_cons_mk (shut_bool Tryz.underlying4 _) trodAll_mk0, (trodAll_cons_mk (Below.trod laidOut (by kernel_rfl) (of_decide_eq_true (by kernel_rfl)) k0 hb lt0) (trodAll_cons_mk (Below.trod laidOut (by kernel_rfl) (of_decide_eq_true (by kernel_rfl)) k1 hb lt1) (trodAll_cons_mk (Below.trod laidOut (by kernel_rfl) (of_decide_eq_true (by kernel_rfl)) k2 hb lt2) trodAll_mk0))), rfl, hb.frame _, fun h => by cases h⟩

theorem laid_met (os : Os) : laidMet Tryz.prog Rows.attrHoldsRow.laid ((World.laidAll Tryz.prog os Rows.attrHoldsRow.laid).forCall (fun _ _ => 0) ⟨#[], #[.agg #[.string ByteArray.empty, .int .i64 0, .bool false], .string ByteArray.empty, .string ByteArray.empty], []⟩).memory :=
  laidMet_laidAll _ (by kernel_rfl) (by kernel_rfl)
theorem reads (os : Os) {H : Type} (enc : TypeId × Value → H) : ∃ places, DataW.whole enc Tryz.prog ((World.laidAll Tryz.prog os Rows.attrHoldsRow.laid).forCall (fun _ _ => 0) ⟨#[], #[.agg #[.string ByteArray.empty, .int .i64 0, .bool false], .string ByteArray.empty, .string ByteArray.empty], []⟩).memory Tryz.f3.params.toList Rows.attrHoldsSpec.vars false (#[.agg #[.string ByteArray.empty, .int .i64 0, .bool false], .string ByteArray.empty, .string ByteArray.empty] : Array Value).toList 8 = some ([.agg [.lit (.string []), .lit (.int .i64 0), .lit (.bool false)], .lit (.string []), .lit (.string [])], [], places) :=
  ⟨[], by kernel_rfl⟩

set_option maxRecDepth 100000 in
theorem lifted (os : Os) (started : os.Started) (H : Type) (enc : TypeId × Value → H) (F : Stop.Interp) :
    ReturnsInHanded {} Tryz.checked os 3 .any ((OpenSpec.ofChange Rows.attrHoldsSpec).preRow enc Tryz.prog Tryz.f3 Rows.attrHoldsRow.domain false Rows.attrHoldsRow.laid) (((OpenSpec.ofChange Rows.attrHoldsSpec).at F).post enc Tryz.prog Tryz.f3 false true false false) := by
  obtain ⟨places, hx⟩ := reads os enc
  refine returnsInHanded_of_row (C := Tryz.checked) (s := (OpenSpec.ofChange Rows.attrHoldsSpec)) own started (by kernel_rfl) Tryz.func3
    (witness_row_at (enc := enc) (C := Tryz.checked) false (World.laidAll Tryz.prog os Rows.attrHoldsRow.laid) #[.agg #[.string ByteArray.empty, .int .i64 0, .bool false], .string ByteArray.empty, .string ByteArray.empty] (World.laidAll_os _ _ _) (by kernel_rfl) (by kernel_rfl) (by kernel_rfl)
      (OpenSpec.preRow_of_cond 8 hx (by kernel_rfl) (fun k hk => by cases hk) (by kernel_rfl) (laid_met os))) ?_
  intro W base args ds gs before hval hW _ _ hsz hL hsh _
  exact contract H enc W base args ds gs before hval hW hsz hL hsh

theorem said : Rows.AttrHoldsSaid :=
  OpenClaim.holds_of_cond 3 Tryz.f3 rfl rfl rfl rfl rfl rfl rfl ⟨rfl, rfl, rfl, rfl, rfl⟩ rfl rfl rfl rfl rfl (by kernel_rfl) Tryz.func3 (by kernel_rfl)
    (of_decide_eq_true (by kernel_rfl)) (by unfold Func.isWrapper; first | (rw [if_pos (by decide +kernel)]; kernel_rfl) | (rw [if_neg (by decide +kernel)]; exact ⟨rfl, rfl⟩))
    (fun os started H enc _ F => by rw [OpenClaim.pre_eq_preRow]; exact lifted os started H enc F)

theorem plain (f : FuncId) (fn : Func) (hf : Tryz.pinned.checked.prog.funcNamed "rollbook/rollbooklaw16.AttrHolds" = some f) (hfn : Tryz.pinned.checked.prog.funcs[f]? = some fn) :
    true = Tryz.pinned.checked.prog.looks [] ∧ ∀ (j : Nat) t, fn.params[j]? = some t → Tryz.pinned.checked.prog.wantsStandIn t = false := by
  obtain rfl : f = 3 := Option.some.inj ((show Tryz.prog.funcNamed "rollbook/rollbooklaw16.AttrHolds" = some 3 by kernel_rfl).symm.trans hf) |>.symm
  obtain rfl : fn = Tryz.f3 := (Option.some.inj (Tryz.func3.symm.trans hfn)).symm
  refine ⟨by kernel_rfl, fun j t ht => ?_⟩
  rw [Tryz.params3] at ht
  have hm : t ∈ [23, 9, 9] := by simpa using Array.mem_of_getElem? ht
  have hall : ([23, 9, 9].all fun u => !Tryz.prog.wantsStandIn u) = true := by kernel_rfl
  exact (show Tryz.prog.wantsStandIn t = false by simpa using List.all_eq_true.1 hall t hm)

theorem proved : Rows.AttrHoldsCardSaid :=
  Claim7.holds_tied_plain_at .later [] _ _ _ _ said (fun _ h => by cases h) (by kernel_rfl) (fun _ h => by cases h) attrHolds_row_tie rfl ⟨rfl, rfl⟩ (by kernel_rfl) rfl plain (by kernel_rfl)
#print axioms proved
end Go.Proofs.YtckpiaigoeicfaaGreatDoor.attrHolds
