/- One text out of several: FaultW, ValsW, WithK. -/
import Derived.Test.YtcolcogobdgejaaGreatDoorC8
import Derived.Test.YtcolcogobdgejaaGreatDoorC7
import Derived.Test.YtcolcogobdgejaaGreatDoorC1
import Derived.Test.YtcolcogobdgejaaGreatDoorC2
import Derived.Lib.SmallJoins
/-! FaultW -/
namespace Go.Proofs.YtcolcogobdgejaaGreatDoor
open Go.RowKit
namespace etw
open atp atw etp
open dnw (Av Avas)
open tupw (Strs strs_below)
set_option linter.unusedVariables false
set_option linter.unusedSimpArgs false
theorem fault_step {syn : Int} {l : List ByteArray} {i : Nat} (h : i < l.length) : faultI syn (l.drop i) = if (normL syn l[i].data.toList).2 ≠ 0 then (normL syn l[i].data.toList).2 else faultI syn (l.drop (i + 1)) := by
 rw [List.drop_eq_getElem_cons h]
 rfl
set_option maxRecDepth 20000 in
set_option maxHeartbeats 4000000 in
theorem fault_any (nm : ByteArray) (syn : Int) (sg : Bool) (ao : Option Addr) (cap : Nat) (l : List ByteArray) (w : World) (hl : Hid (Strs w ao l)) (hn : l.length ≤ 1000000) (hf : Hid (Fit l)) (hE : Hid (EnvE w)) :
  Calls Tryz.prog 76 #[.agg #[.string nm, .int .i64 syn, .bool sg], .slice ao l.length cap] w fun e w' => e = .returned (.int .i64 (faultI syn l)) ∧ Below w.heap.size w w' := by
 obtain ⟨W1, hW1⟩ : ∃ W, w.alloc (.cells #[.string nm, .int .i64 syn, .bool sg] 29) = W := ⟨_, rfl⟩
 have hB1 : Below w.heap.size w W1 := by rw [← hW1]; exact (Below.refl _ _).alloc (Nat.le_refl _) _
 have HT1 : Hid (TB W1 w.heap.size nm syn sg) := by rw [← hW1]; exact tb_new w nm syn sg
 have HB1 := Lib.hid hB1
 clear hB1
 obtain ⟨N, hN⟩ : ∃ N, l.length = N := ⟨_, rfl⟩
 have HN := Lib.hid hN
 rw [hN] at hn
 rw [hN]
 clear hN
 go_enter Tryz.func76, Tryz.ntmps76
 go_wp2_with fail
 go_loopw [10] (fun iv wr => ∃ i : Nat, i ≤ N ∧ iv = .int .i64 (i : Int) ∧ Hid (Below W1.heap.size W1 wr) ∧ Hid (faultI syn l = faultI syn (l.drop i))) (fun iv _ => N - (intOf iv).toNat)
 case atStart => exact ⟨0, Nat.zero_le _, rfl, Below.refl _ _, rfl⟩
 case round =>
  obtain ⟨i, hi, rfl, hB, hJ⟩ := hrel
  have hsz := hB.out.size
  have HBw := Lib.hid (HB1.out.trans (hB.out.mono HB1.out.size))
  have hszw := HBw.out.size
  obtain ⟨n0, n1, n2⟩ := tb_cells (tb_below HT1.out hB.out)
  by_cases hlt : i < N
  ·have hltI : (i : Int) < (N : Int) := by omega
   have hil : i < l.length := by rw [HN.out]; exact hlt
   obtain ⟨b, o, hao, hc0⟩ := (strs_below hl.out HBw.out) i hil
   subst hao
   have hl1 := World.block_lt_of_cell? wr _ n0
   have hl2 := World.block_lt_of_cell? wr _ hc0
   have HFS := Lib.hid (fault_step (syn := syn) hil)
   have hxs : l[i].size ≤ 140737488351232 := hf.out _ (List.getElem_mem _)
   obtain ⟨x, hx⟩ : ∃ x, l[i] = x := ⟨_, rfl⟩
   rw [hx] at hc0 hxs HFS
   clear hx
   have HC : Hid (Calls Tryz.prog 131 #[.agg #[.string nm, .int .i64 syn, .bool sg], .string x] wr fun e w' => e = .returned (.int .i64 (normL syn x.data.toList).2) ∧ Below wr.heap.size wr w') := check_any nm syn sg x wr hxs (Lib.hid (envE_below hE.out HBw.out).e) (Lib.hid (envE_below hE.out HBw.out).t)
   clear hxs
   generalize (normL syn x.data.toList).2 = er at HC HFS
   by_cases her : er = 0
   ·have q : (er != 0) = false := by rw [bne_eq_false_iff_eq]; exact her
    have HJ : Hid (faultI syn l = faultI syn (l.drop (i + 1))) := by
     show _ = _
     rw [hJ.out, HFS.out, if_neg (not_not_intro her)]
    clear her HFS
    go_wp2_with fail
    refine HC.out.mono ?_
    rintro e w6 ⟨rfl, hB6⟩
    have HB6 := Lib.hid hB6
    clear hB6 n0 n1 n2 hc0 hW1
    have HB7 := Lib.hid (hB.out.trans (HB6.out.mono hsz))
    go_wp2_with fail
    go_roundw
    case rel => exact ⟨i + 1, by omega, by go_num, HB7, HJ⟩
    case measure => simp [intOf]; omega
   ·have q : (er != 0) = true := by rw [bne_iff_ne]; exact her
    have HJ : Hid (faultI syn l = er) := by
     show _ = _
     rw [hJ.out, HFS.out, if_pos her]
    clear her HFS
    go_wp2_with fail
    refine HC.out.mono ?_
    rintro e w6 ⟨rfl, hB6⟩
    have HB6 := Lib.hid hB6
    clear hB6 n0 n1 n2 hc0 hW1
    have HB7 := Lib.hid (HBw.out.trans (HB6.out.mono hszw))
    go_wp2_with fail
    go_ret
    exact ⟨kt.ret_int HJ.out.symm, HB7.out⟩
  ·obtain rfl : N = i := by omega
   have HJ : Hid (faultI syn l = 0) := by
    show _ = _
    rw [hJ.out, ← HN.out, List.drop_length]; rfl
   go_wp2_with fail
   go_ret
   exact ⟨kt.ret_int HJ.out.symm, HBw.out⟩
set_option maxRecDepth 20000 in
set_option maxHeartbeats 4000000 in
theorem rfault_any (nm : ByteArray) (syn : Int) (sg : Bool) (ao : Option Addr) (cap : Nat) (l : List ByteArray) (w : World) (hl : Hid (Strs w ao l)) (hn : l.length ≤ 1000000) (hf : Hid (Fit l)) :
  Calls Tryz.prog 83 #[.agg #[.string nm, .int .i64 syn, .bool sg], .slice ao l.length cap] w fun e w' => e = .returned (.int .i64 (faultI syn l)) ∧ Below w.heap.size w w' := by
 obtain ⟨W1, hW1⟩ : ∃ W, w.alloc (.cells #[.string nm, .int .i64 syn, .bool sg] 29) = W := ⟨_, rfl⟩
 have hB1 : Below w.heap.size w W1 := by rw [← hW1]; exact (Below.refl _ _).alloc (Nat.le_refl _) _
 have HT1 : Hid (TB W1 w.heap.size nm syn sg) := by rw [← hW1]; exact tb_new w nm syn sg
 have HB1 := Lib.hid hB1
 clear hB1
 obtain ⟨N, hN⟩ : ∃ N, l.length = N := ⟨_, rfl⟩
 have HN := Lib.hid hN
 rw [hN] at hn
 rw [hN]
 clear hN
 go_enter Tryz.func83, Tryz.ntmps83
 go_wp2_with fail
 go_loopw [5] (fun iv wr => ∃ i : Nat, i ≤ N ∧ iv = .int .i64 (i : Int) ∧ Hid (Below W1.heap.size W1 wr) ∧ Hid (faultI syn l = faultI syn (l.drop i))) (fun iv _ => N - (intOf iv).toNat)
 case atStart => exact ⟨0, Nat.zero_le _, rfl, Below.refl _ _, rfl⟩
 case round =>
  obtain ⟨i, hi, rfl, hB, hJ⟩ := hrel
  have hsz := hB.out.size
  have HBw := Lib.hid (HB1.out.trans (hB.out.mono HB1.out.size))
  have hszw := HBw.out.size
  obtain ⟨n0, n1, n2⟩ := tb_cells (tb_below HT1.out hB.out)
  by_cases hlt : i < N
  ·have hltI : (i : Int) < (N : Int) := by omega
   have hil : i < l.length := by rw [HN.out]; exact hlt
   obtain ⟨b, o, hao, hc0⟩ := (strs_below hl.out HBw.out) i hil
   subst hao
   have hl1 := World.block_lt_of_cell? wr _ n0
   have hl2 := World.block_lt_of_cell? wr _ hc0
   have HFS := Lib.hid (fault_step (syn := syn) hil)
   have hxs : l[i].size ≤ 140737488351232 := hf.out _ (List.getElem_mem _)
   obtain ⟨x, hx⟩ : ∃ x, l[i] = x := ⟨_, rfl⟩
   rw [hx] at hc0 hxs HFS
   clear hx
   have HC : Hid (∀ W, Calls Tryz.prog 69 #[.agg #[.string nm, .int .i64 syn, .bool sg], .string x] W fun e w' => e = .returned (normV (normL syn x.data.toList)) ∧ Below W.heap.size W w') := fun W => rnormal_any nm syn sg x W hxs
   clear hxs
   obtain ⟨er, xs, HFS2, HC2⟩ : ∃ (er : Int) (xs : ByteArray), Hid (faultI syn (l.drop i) = if er ≠ 0 then er else faultI syn (l.drop (i + 1))) ∧ Hid (∀ W, Calls Tryz.prog 69 #[.agg #[.string nm, .int .i64 syn, .bool sg], .string x] W fun e w' => e = .returned (.tuple #[.string xs, .int .i64 er]) ∧ Below W.heap.size W w') := ⟨(normL syn x.data.toList).2, bs (normL syn x.data.toList).1, HFS.out, HC.out⟩
   clear HFS HC
   have HFS := HFS2
   have HC := HC2
   clear HFS2 HC2
   by_cases her : er = 0
   ·have q : (er != 0) = false := by rw [bne_eq_false_iff_eq]; exact her
    have HJ : Hid (faultI syn l = faultI syn (l.drop (i + 1))) := by
     show _ = _
     rw [hJ.out, HFS.out, if_neg (not_not_intro her)]
    clear her HFS
    go_wp2_with fail
    go_region_held3 (fun W => W.cell? ⟨w.heap.size, 0, none⟩ = some (.string nm) ∧ W.cell? ⟨w.heap.size, 1, none⟩ = some (.int .i64 syn) ∧ W.cell? ⟨w.heap.size, 2, none⟩ = some (.bool sg) ∧ W.cell? ⟨b, o + i, none⟩ = some (.string x)) (first
      | exact ⟨n0, n1, n2, hc0⟩
      | exact ⟨(hB6.cell (p := ⟨w.heap.size, 0, none⟩) hl1).trans n0, (hB6.cell (p := ⟨w.heap.size, 1, none⟩) hl1).trans n1, (hB6.cell (p := ⟨w.heap.size, 2, none⟩) hl1).trans n2, (hB6.cell (p := ⟨b, o + i, none⟩) hl2).trans hc0⟩)
     (first | (go_at_call 69; refine (HC.out _).mono ?_; rintro e w6 ⟨rfl, hB6⟩) | fail)
    have HB6 : Hid (Below wr.heap.size wr w6) := (Below.refl wr.heap.size wr).drew.trans hB6
    clear hB6 n0 n1 n2 hc0 hW1
    have HB7 := Lib.hid (hB.out.trans (HB6.out.mono hsz))
    go_wp2_with fail
    go_roundw
    case rel => exact ⟨i + 1, by omega, by go_num, HB7, HJ⟩
    case measure => simp [intOf]; omega
   ·have q : (er != 0) = true := by rw [bne_iff_ne]; exact her
    have HJ : Hid (faultI syn l = er) := by
     show _ = _
     rw [hJ.out, HFS.out, if_pos her]
    clear her HFS
    go_wp2_with fail
    go_region_held3 (fun W => W.cell? ⟨w.heap.size, 0, none⟩ = some (.string nm) ∧ W.cell? ⟨w.heap.size, 1, none⟩ = some (.int .i64 syn) ∧ W.cell? ⟨w.heap.size, 2, none⟩ = some (.bool sg) ∧ W.cell? ⟨b, o + i, none⟩ = some (.string x)) (first
      | exact ⟨n0, n1, n2, hc0⟩
      | exact ⟨(hB6.cell (p := ⟨w.heap.size, 0, none⟩) hl1).trans n0, (hB6.cell (p := ⟨w.heap.size, 1, none⟩) hl1).trans n1, (hB6.cell (p := ⟨w.heap.size, 2, none⟩) hl1).trans n2, (hB6.cell (p := ⟨b, o + i, none⟩) hl2).trans hc0⟩)
     (first | (go_at_call 69; refine (HC.out _).mono ?_; rintro e w6 ⟨rfl, hB6⟩) | fail)
    have HB6 : Hid (Below wr.heap.size wr w6) := (Below.refl wr.heap.size wr).drew.trans hB6
    clear hB6 n0 n1 n2 hc0 hW1
    have HB7 := Lib.hid (HBw.out.trans (HB6.out.mono hszw))
    go_wp2_with fail
    go_ret
    exact ⟨kt.ret_int HJ.out.symm, HB7.out⟩
  ·obtain rfl : N = i := by omega
   have HJ : Hid (faultI syn l = 0) := by
    show _ = _
    rw [hJ.out, ← HN.out, List.drop_length]; rfl
   go_wp2_with fail
   go_ret
   exact ⟨kt.ret_int HJ.out.symm, HBw.out⟩
def FindR (r : Except Int Ty) (e : Ending) : Prop := match r with
 | .ok ty => e = .returned (.tuple #[.agg #[.string (bs ty.name), .int .i64 ty.syn, .bool ty.single], .int .i64 0])
 | .error f => e = .returned (.tuple #[.agg #[.string ⟨#[]⟩, .int .i64 0, .bool false], .int .i64 f])
set_option maxRecDepth 20000 in
set_option maxHeartbeats 4000000 in
theorem finde_any (v : Value) (E : En) (n : ByteArray) (w : World) (hv : Hid (EntV w v E)) (hb : Hid (Bd E)) (hn : n.size ≤ 10000000) (hE : Hid (EnvE w)) :
  Calls Tryz.prog 75 #[v, .string n] w fun e w' => FindR (findE E n.data.toList) e ∧ Below w.heap.size w w' := by
 have HC0 : Hid (∀ W, Below w.heap.size w W → Calls Tryz.prog 26 #[v] W fun e w' => e = .returned (.bool (rightE E)) ∧ Below W.heap.size W w') := fun W h => right_any v E W (Lib.hid (entV_below hv.out h)) hb (Lib.hid (envE_below hE.out h))
 have HF0 : Hid (∀ W, Below w.heap.size w W → Calls Tryz.prog 70 #[.string n] W fun e w' => e = .returned (resT (findS (sml.lowL n.data.toList))) ∧ Below W.heap.size W w') := fun W h => find_any n W hn (Lib.hid (envE_below hE.out h).y)
 have HFR : Hid (findE E n.data.toList = if rightE E = false then .error 4 else match findS (sml.lowL n.data.toList) with
  | none => .error 14
  | some ty => .ok ty) := rfl
 rw [HFR.out]
 obtain ⟨ro, rc, ao, ac, rfl, _⟩ := hv.out
 generalize E.rdn.length = Nr at HC0 ⊢
 generalize E.ats.length = Na at HC0 ⊢
 clear HFR
 obtain ⟨W1, hW1⟩ : ∃ W, w.alloc (.cells #[.slice ro Nr rc, .slice ao Na ac] 25) = W := ⟨_, rfl⟩
 have hB1 : Below w.heap.size w W1 := by rw [← hW1]; exact (Below.refl _ _).alloc (Nat.le_refl _) _
 have HT1 : Hid (EntB W1 w.heap.size (.slice ro Nr rc) (.slice ao Na ac)) := by rw [← hW1]; exact entB_new _ _ _
 obtain ⟨W2, hW2⟩ : ∃ W, W1.alloc (.cells #[.string ⟨#[]⟩, .int .i64 0, .bool false] 29) = W := ⟨_, rfl⟩
 have hB2 : Below W1.heap.size W1 W2 := by rw [← hW2]; exact (Below.refl _ _).alloc (Nat.le_refl _) _
 have HA2 : Hid (AC W2 W1.heap.size) := by rw [← hW2]; exact ac_new _ _ _ _
 have hq1 : w.heap.size ≤ W1.heap.size := hB1.size
 obtain ⟨k0, k1⟩ := entB_cells (entB_below HT1.out hB2)
 have HB2 := Lib.hid (hB1.trans (hB2.mono hB1.size))
 have hs2 := HB2.out.size
 have HC := Lib.hid (HC0.out W2 HB2.out)
 clear hB1 hB2 HC0
 cases hr : rightE E with
 | false =>
  rw [if_pos rfl]
  rw [hr] at HC
  clear hr HF0
  go_enter Tryz.func75, Tryz.ntmps75
  go_wp2_with fail
  refine HC.out.mono ?_
  rintro e w3 ⟨rfl, hB3⟩
  have HB3 := Lib.hid (HB2.out.trans (hB3.mono hs2))
  have HA3 := Lib.hid (ac_below HA2.out hB3)
  obtain ⟨⟨a0, m0⟩, ⟨a1, m1⟩, ⟨a2, m2⟩, f0, f1, f2⟩ := ac_cells HA3.out
  have HST := Lib.hid (ac_store HA3.out (.string ⟨#[]⟩) (.int .i64 0) (.bool false))
  have HP := Lib.hid (below_put3 HB3.out hq1 (.string ⟨#[]⟩) (.int .i64 0) (.bool false))
  clear hB3 k0 k1 hW1 hW2
  go_wp2_with fail
  obtain ⟨r0, r1, r2⟩ := HST.out
  refine bodyPost_ret (v := .tuple #[.agg #[.string ⟨#[]⟩, .int .i64 0, .bool false], .int .i64 4]) (by rw [results_cell_tmp rfl]; go_simp) rfl ?_
  exact ⟨rfl, HP.out⟩
 | true =>
  rw [if_neg (by decide)]
  rw [hr] at HC
  clear hr
  cases hf : findS (sml.lowL n.data.toList) with
  | none =>
   rw [hf] at HF0
   have HF : Hid (∀ W, Below w.heap.size w W → Calls Tryz.prog 70 #[.string n] W fun e w' => e = .returned (.tuple #[.agg #[.string ⟨#[]⟩, .int .i64 0, .bool false], .bool false]) ∧ Below W.heap.size W w') := HF0
   clear HF0 hf
   go_enter Tryz.func75, Tryz.ntmps75
   go_wp2_with fail
   refine HC.out.mono ?_
   rintro e w3 ⟨rfl, hB3⟩
   have HB3 := Lib.hid (HB2.out.trans (hB3.mono hs2))
   have HA3 := Lib.hid (ac_below HA2.out hB3)
   clear hB3 k0 k1 hW1 hW2
   go_wp2_with fail
   refine (HF.out _ HB3.out).mono ?_
   rintro e w4 ⟨rfl, hB4⟩
   have HB4 := Lib.hid (HB3.out.trans (hB4.mono HB3.out.size))
   have hB5 : Below w4.heap.size w4 (w4.alloc (.cells #[.string ⟨#[]⟩, .int .i64 0, .bool false] 29)) := (Below.refl _ _).alloc (Nat.le_refl _) _
   have HB5 := Lib.hid (HB4.out.trans (hB5.mono HB4.out.size))
   have HA5 := Lib.hid (ac_below (ac_below HA3.out hB4) hB5)
   obtain ⟨⟨a0, m0⟩, ⟨a1, m1⟩, ⟨a2, m2⟩, f0, f1, f2⟩ := ac_cells HA5.out
   have HST := Lib.hid (ac_store HA5.out (.string ⟨#[]⟩) (.int .i64 0) (.bool false))
   have HP := Lib.hid (below_put3 HB5.out hq1 (.string ⟨#[]⟩) (.int .i64 0) (.bool false))
   clear hB4 hB5
   go_wp2_with fail
   obtain ⟨r0, r1, r2⟩ := HST.out
   refine bodyPost_ret (v := .tuple #[.agg #[.string ⟨#[]⟩, .int .i64 0, .bool false], .int .i64 14]) (by rw [results_cell_tmp rfl]; go_simp) rfl ?_
   exact ⟨rfl, HP.out⟩
  | some ty =>
   rw [hf] at HF0
   have HF1 : Hid (∀ W, Below w.heap.size w W → Calls Tryz.prog 70 #[.string n] W fun e w' => e = .returned (.tuple #[.agg #[.string (bs ty.name), .int .i64 ty.syn, .bool ty.single], .bool true]) ∧ Below W.heap.size W w') := HF0
   have HRES : Hid (∀ e, (e = .returned (.tuple #[.agg #[.string (bs ty.name), .int .i64 ty.syn, .bool ty.single], .int .i64 0])) → FindR (.ok ty) e) := fun e h => h
   clear HF0 hf
   generalize hnm : bs ty.name = nm at HF1 HRES
   generalize hsy : ty.syn = syn at HF1 HRES
   generalize hsg : ty.single = sg at HF1 HRES
   have HF := HF1
   clear HF1 hnm hsy hsg
   go_enter Tryz.func75, Tryz.ntmps75
   go_wp2_with fail
   refine HC.out.mono ?_
   rintro e w3 ⟨rfl, hB3⟩
   have HB3 := Lib.hid (HB2.out.trans (hB3.mono hs2))
   have HA3 := Lib.hid (ac_below HA2.out hB3)
   clear hB3 k0 k1 hW1 hW2
   go_wp2_with fail
   refine (HF.out _ HB3.out).mono ?_
   rintro e w4 ⟨rfl, hB4⟩
   have HB4 := Lib.hid (HB3.out.trans (hB4.mono HB3.out.size))
   obtain ⟨w5, hw5⟩ : ∃ W, w4.alloc (.cells #[.string nm, .int .i64 syn, .bool sg] 29) = W := ⟨_, rfl⟩
   have hB5 : Below w4.heap.size w4 w5 := by rw [← hw5]; exact (Below.refl _ _).alloc (Nat.le_refl _) _
   have HT5 : Hid (TB w5 w4.heap.size nm syn sg) := by rw [← hw5]; exact tb_new _ _ _ _
   obtain ⟨y0, y1, y2⟩ := tb_cells HT5.out
   have HB5 := Lib.hid (HB4.out.trans (hB5.mono HB4.out.size))
   have HA5 := Lib.hid (ac_below (ac_below HA3.out hB4) hB5)
   obtain ⟨⟨a0, m0⟩, ⟨a1, m1⟩, ⟨a2, m2⟩, f0, f1, f2⟩ := ac_cells HA5.out
   have HST := Lib.hid (ac_store HA5.out (.string nm) (.int .i64 syn) (.bool sg))
   have HP := Lib.hid (below_put3 HB5.out hq1 (.string nm) (.int .i64 syn) (.bool sg))
   clear hB4 hB5
   go_wp2_with fail
   obtain ⟨r0, r1, r2⟩ := HST.out
   refine bodyPost_ret (v := .tuple #[.agg #[.string nm, .int .i64 syn, .bool sg], .int .i64 0]) (by rw [results_cell_tmp rfl]; go_simp) rfl ?_
   exact ⟨HRES.out _ rfl, HP.out⟩
end etw
end Go.Proofs.YtcolcogobdgejaaGreatDoor
/-! ValsW -/
namespace Go.Proofs.YtcolcogobdgejaaGreatDoor
open Go.RowKit
namespace etw
open atp atw etp
open dnw (Av Avas)
open tupw (Strs strs_below)
set_option linter.unusedVariables false
set_option linter.unusedSimpArgs false
theorem vals_step {L : List At} {n : ByteArray} {i : Nat} (h : i < L.length) : valsA (L.drop i) n = if L[i].t = n then L[i].vs else valsA (L.drop (i + 1)) n := by
 rw [List.drop_eq_getElem_cons h]
 unfold valsA
 rw [List.find?_cons]
 by_cases e : L[i].t = n
 ·rw [decide_eq_true e, if_pos e]
 ·rw [decide_eq_false e, if_neg e]
theorem str_eq_beq {x y : ByteArray} (h : x = y) : (x.toList == y.toList) = true := by rw [h]; simp
def ValsE (l : List ByteArray) (w : World) (e : Ending) (w' : World) : Prop := ∃ x, e = .returned x ∧ ElemAt w' x l ∧ Below w.heap.size w w'
theorem elem_nil (w : World) : ElemAt w (.slice none 0 0) [] := ⟨none, 0, rfl, Nat.le_refl _, fun i hi => absurd hi (Nat.not_lt_zero i)⟩
theorem elem_zero (w : World) (p : Option Addr) : ElemAt w (.slice p 0 0) [] := ⟨p, 0, rfl, Nat.le_refl _, fun i hi => absurd hi (Nat.not_lt_zero i)⟩
theorem ent_form {w : World} {v : Value} {E : En} (h : EntV w v E) : ∃ ro rc ao ac Nr N, v = .agg #[.slice ro Nr rc, .slice ao N ac] ∧ Hid (E.ats.length = N) ∧ Hid (Ats w ao E.ats) ∧ N ≤ ac ∧ Hid (E.rdn.length = Nr) ∧ Hid (Avas w ro E.rdn) ∧ Nr ≤ rc := by
 obtain ⟨ro, rc, ao, ac, rfl, h1, h2, h3, h4⟩ := h
 exact ⟨ro, rc, ao, ac, _, _, rfl, rfl, h4, h2, rfl, h3, h1⟩
set_option maxRecDepth 20000 in
set_option maxHeartbeats 4000000 in
theorem vals_any (v : Value) (E : En) (n : ByteArray) (w : World) (hv : Hid (EntV w v E)) (hb : Hid (Bd E)) :
  Calls Tryz.prog 72 #[v, .string n] w fun e w' => ValsE (valsA E.ats n) w e w' := by
 obtain ⟨ro, rc, ao, ac, Nr, N, rfl, HN, HA, hac, HNr, HAv, hrc⟩ := ent_form hv.out
 have hNb : N ≤ 100000 := by rw [← HN.out]; exact hb.out.al
 obtain ⟨W1, hW1⟩ : ∃ W, w.alloc (.cells #[.slice ro Nr rc, .slice ao N ac] 25) = W := ⟨_, rfl⟩
 have hB1 : Below w.heap.size w W1 := by rw [← hW1]; exact (Below.refl _ _).alloc (Nat.le_refl _) _
 have HT1 : Hid (EntB W1 w.heap.size (.slice ro Nr rc) (.slice ao N ac)) := by rw [← hW1]; exact entB_new _ _ _
 have HB1 := Lib.hid hB1
 have hs1 := hB1.size
 obtain ⟨k0, k1⟩ := entB_cells HT1.out
 generalize E.ats = L at HN HA ⊢
 clear hB1
 go_enter Tryz.func72, Tryz.ntmps72
 go_wp2_with fail
 go_loopw [10] (fun iv wr => ∃ i : Nat, i ≤ N ∧ iv = .int .i64 (i : Int) ∧ Hid (Below W1.heap.size W1 wr) ∧ Hid (valsA L n = valsA (L.drop i) n)) (fun iv _ => N - (intOf iv).toNat)
 case atStart => exact ⟨0, Nat.zero_le _, rfl, Below.refl _ _, rfl⟩
 case round =>
  obtain ⟨i, hi, rfl, hB, hJ⟩ := hrel
  have hsz := hB.out.size
  have HBw := Lib.hid (HB1.out.trans (hB.out.mono hs1))
  have hszw := HBw.out.size
  have ze := (entB_cells (entB_below HT1.out hB.out)).2
  by_cases hlt : i < N
  ·have hltI : (i : Int) < (N : Int) := by omega
   have hil : i < L.length := by rw [HN.out]; exact hlt
   obtain ⟨b, o, ax, cx, hao, q0, q1, hcx, hST⟩ := (ats_below HA.out HBw.out) i hil
   subst hao
   have HST := Lib.hid (vals_step (n := n) hil)
   obtain ⟨a, ha⟩ : ∃ a, L[i] = a := ⟨_, rfl⟩
   rw [ha] at HST q0 q1 hcx hST
   clear ha
   obtain ⟨M, hM⟩ : ∃ M, a.vs.length = M := ⟨_, rfl⟩
   have HM := Lib.hid hM
   rw [hM] at q1 hcx
   have HSV := Lib.hid hST
   clear hM hST
   obtain ⟨Wa, hWa⟩ : ∃ W, wr.alloc (.cells #[.string a.t, .slice ax M cx] 57) = W := ⟨_, rfl⟩
   have hBA : Below wr.heap.size wr Wa := by rw [← hWa]; exact (Below.refl _ _).alloc (Nat.le_refl _) _
   obtain ⟨x0, x1⟩ := attrB_cells (w := Wa) (p := wr.heap.size) (t := a.t) (v := .slice ax M cx) (by rw [← hWa]; exact attrB_new _ _ _)
   have HBA := Lib.hid hBA
   clear hBA
   by_cases hq : a.t = n
   ·have q := str_eq_beq hq
    have HJ : Hid (valsA L n = a.vs) := by
     show _ = _
     rw [hJ.out, HST.out, if_pos hq]
    clear hq
    go_wp2_with fail
    go_ret
    refine ⟨_, rfl, ?_, HBw.out.trans (HBA.out.mono hszw)⟩
    rw [HJ.out]
    exact ⟨ax, cx, by rw [HM.out]; rfl, by rw [HM.out]; exact hcx, (strs_below HSV.out HBA.out)⟩
   ·have q := ne_str hq
    have HJ : Hid (valsA L n = valsA (L.drop (i + 1)) n) := by
     show _ = _
     rw [hJ.out, HST.out, if_neg hq]
    clear hq
    go_wp2_with fail
    go_roundw
    case rel => exact ⟨i + 1, by omega, by go_num, hB.out.trans (HBA.out.mono hsz), HJ⟩
    case measure => simp [intOf]; omega
  ·obtain rfl : N = i := by omega
   have HJ : Hid (valsA L n = []) := by
    show _ = _
    rw [hJ.out, ← HN.out, List.drop_length]; rfl
   go_wp2_with fail
   go_ret
   refine ⟨_, rfl, ?_, HBw.out⟩
   rw [HJ.out]
   exact elem_nil _
set_option maxRecDepth 20000 in
set_option maxHeartbeats 4000000 in
theorem rvals2_any (v : Value) (E : En) (n : ByteArray) (w : World) (hv : Hid (EntV w v E)) (hb : Hid (Bd E)) :
  Calls Tryz.prog 21 #[v, .string n] w fun e w' => ValsE (valsA E.ats n) w e w' := by
 obtain ⟨ro, rc, ao, ac, Nr, N, rfl, HN, HA, hac, HNr, HAv, hrc⟩ := ent_form hv.out
 have hNb : N ≤ 100000 := by rw [← HN.out]; exact hb.out.al
 obtain ⟨W1, hW1⟩ : ∃ W, w.alloc (.cells #[.slice ro Nr rc, .slice ao N ac] 25) = W := ⟨_, rfl⟩
 have hB1 : Below w.heap.size w W1 := by rw [← hW1]; exact (Below.refl _ _).alloc (Nat.le_refl _) _
 have HT1 : Hid (EntB W1 w.heap.size (.slice ro Nr rc) (.slice ao N ac)) := by rw [← hW1]; exact entB_new _ _ _
 have HB1 := Lib.hid hB1
 have hs1 := hB1.size
 obtain ⟨k0, k1⟩ := entB_cells HT1.out
 generalize E.ats = L at HN HA ⊢
 clear hB1
 go_enter Tryz.func21, Tryz.ntmps21
 go_wp2_with fail
 go_loopw [5] (fun iv wr => ∃ i : Nat, i ≤ N ∧ iv = .int .i64 (i : Int) ∧ Hid (Below W1.heap.size W1 wr) ∧ Hid (valsA L n = valsA (L.drop i) n)) (fun iv _ => N - (intOf iv).toNat)
 case atStart => exact ⟨0, Nat.zero_le _, rfl, Below.refl _ _, rfl⟩
 case round =>
  obtain ⟨i, hi, rfl, hB, hJ⟩ := hrel
  have hsz := hB.out.size
  have HBw := Lib.hid (HB1.out.trans (hB.out.mono hs1))
  have hszw := HBw.out.size
  have ze := (entB_cells (entB_below HT1.out hB.out)).2
  by_cases hlt : i < N
  ·have hltI : (i : Int) < (N : Int) := by omega
   have hil : i < L.length := by rw [HN.out]; exact hlt
   obtain ⟨b, o, ax, cx, hao, q0, q1, hcx, hST⟩ := (ats_below HA.out HBw.out) i hil
   subst hao
   have HST := Lib.hid (vals_step (n := n) hil)
   obtain ⟨a, ha⟩ : ∃ a, L[i] = a := ⟨_, rfl⟩
   rw [ha] at HST q0 q1 hcx hST
   clear ha
   obtain ⟨M, hM⟩ : ∃ M, a.vs.length = M := ⟨_, rfl⟩
   have HM := Lib.hid hM
   rw [hM] at q1 hcx
   have HSV := Lib.hid hST
   clear hM hST
   by_cases hq : a.t = n
   ·have q := str_eq_beq hq
    have HJ : Hid (valsA L n = a.vs) := by
     show _ = _
     rw [hJ.out, HST.out, if_pos hq]
    clear hq
    go_wp2_with fail
    go_ret
    refine ⟨_, rfl, ?_, HBw.out⟩
    rw [HJ.out]
    exact ⟨ax, cx, by rw [HM.out]; rfl, by rw [HM.out]; exact hcx, HSV.out⟩
   ·have q := ne_str hq
    have HJ : Hid (valsA L n = valsA (L.drop (i + 1)) n) := by
     show _ = _
     rw [hJ.out, HST.out, if_neg hq]
    clear hq
    go_wp2_with fail
    go_roundw
    case rel => exact ⟨i + 1, by omega, by go_num, hB.out, HJ⟩
    case measure => simp [intOf]; omega
  ·obtain rfl : N = i := by omega
   have HJ : Hid (valsA L n = []) := by
    show _ = _
    rw [hJ.out, ← HN.out, List.drop_length]; rfl
   go_wp2_with fail
   go_ret
   refine ⟨_, rfl, ?_, (HBw.out.alloc hszw _)⟩
   rw [HJ.out]
   exact elem_zero _ _
def CloneE (l : List ByteArray) (w : World) (e : Ending) (w' : World) : Prop := ∃ x, e = .returned x ∧ prw.OwnT w' w.heap.size x l ∧ Below w.heap.size w w'
theorem ownT_of {w : World} {B n : Nat} {v : Value} {l : List ByteArray} (h : w.ownsRow B 9 1 v n (l.map Value.string)) : prw.OwnT w B v l := by
 have h1 := h.1
 unfold prw.OwnT
 have e : prw.scells l = l.map Value.string := rfl
 rw [e]
 have : (l.map Value.string).length = n := by omega
 rw [this]
 exact h
theorem clone_any (x : Value) (l : List ByteArray) (w : World) (hx : ElemAt w x l) (hl : l.length ≤ 1000000) : Calls Tryz.prog 71 #[x] w fun e w' => CloneE l w e w' := by
 obtain ⟨a, c, rfl, hc, hs⟩ := hx
 cases l with
 | nil =>
  cases a with
  | none =>
   refine (Tryz.slices_Clone_string_nil 0 c w).mono ?_
   rintro e w' ⟨rfl, rfl⟩
   exact ⟨_, rfl, World.ownsRow_nil _ _ _ _, Below.refl _ _⟩
  | some p =>
   refine (Tryz.slices_Clone_string_zero p c w).mono ?_
   rintro e w' ⟨v', rfl, ho, _, hb⟩
   exact ⟨v', rfl, ownT_of (l := []) ho, hb⟩
 | cons y t =>
  obtain ⟨b, o, rfl, _⟩ := hs 0 (by simp)
  refine (Tryz.slices_Clone_string b o (y :: t).length c (y :: t) w (Nat.le_refl _) (by omega) fun j hj => ?_).mono ?_
  ·obtain ⟨b', o', e, hcj⟩ := hs j hj
   simp only [Option.some.injEq, Addr.mk.injEq, and_true] at e
   obtain ⟨rfl, rfl⟩ := e
   rw [hcj, List.getD_eq_getElem?_getD, List.getElem?_eq_getElem hj]
   rfl
  ·rintro e w' ⟨v', rfl, ho, _, hb⟩
   rw [List.take_length] at ho
   exact ⟨v', rfl, ownT_of ho, hb⟩
theorem vals_len {E : En} (hb : Bd E) (n : ByteArray) : (valsA E.ats n).length ≤ 100000 ∧ ∀ v ∈ valsA E.ats n, v.size ≤ 100000 := by
 unfold valsA
 cases h : E.ats.find? fun a => decide (a.t = n) with
 | none => exact ⟨by simp, by simp⟩
 | some a =>
  have := hb.as_ a (List.mem_of_find?_eq_some h)
  exact this.2
theorem vals_fit {E : En} (hb : Bd E) (n : ByteArray) : Fit (valsA E.ats n) := fun v hv => Nat.le_trans ((vals_len hb n).2 v hv) (by omega)
set_option maxRecDepth 20000 in
set_option maxHeartbeats 4000000 in
theorem values_any (v : Value) (E : En) (n : ByteArray) (w : World) (hv : Hid (EntV w v E)) (hb : Hid (Bd E)) (hn : n.size ≤ 10000000) (hE : Hid (EnvE w)) :
  Calls Tryz.prog 18 #[v, .string n] w fun e w' => ValsE (valuesE E n.data.toList) w e w' := by
 have HR0 : Hid (∀ W, Below w.heap.size w W → Calls Tryz.prog 26 #[v] W fun e w' => e = .returned (.bool (rightE E)) ∧ Below W.heap.size W w') := fun W h => right_any v E W (Lib.hid (entV_below hv.out h)) hb (Lib.hid (envE_below hE.out h))
 have HF0 : Hid (∀ W, Below w.heap.size w W → Calls Tryz.prog 70 #[.string n] W fun e w' => e = .returned (resT (findS (sml.lowL n.data.toList))) ∧ Below W.heap.size W w') := fun W h => find_any n W hn (Lib.hid (envE_below hE.out h).y)
 have HV0 : Hid (∀ m W, Below w.heap.size w W → Calls Tryz.prog 72 #[v, .string m] W fun e w' => ValsE (valsA E.ats m) W e w') := fun m W h => vals_any v E m W (Lib.hid (entV_below hv.out h)) hb
 have HVL := Lib.hid (vals_len hb.out)
 have HRES : Hid (valuesE E n.data.toList = match findS (sml.lowL n.data.toList) with
  | none => []
  | some ty => if rightE E = true then valsA E.ats (bs ty.name) else []) := rfl
 rw [HRES.out]
 clear HRES
 obtain ⟨ro, rc, ao, ac, Nr, N, rfl, HN, HA, hac, HNr, HAv, hrc⟩ := ent_form hv.out
 have hNb : N ≤ 100000 := by rw [← HN.out]; exact hb.out.al
 obtain ⟨W1, hW1⟩ : ∃ W, w.alloc (.cells #[.slice ro Nr rc, .slice ao N ac] 25) = W := ⟨_, rfl⟩
 have hB1 : Below w.heap.size w W1 := by rw [← hW1]; exact (Below.refl _ _).alloc (Nat.le_refl _) _
 have HT1 : Hid (EntB W1 w.heap.size (.slice ro Nr rc) (.slice ao N ac)) := by rw [← hW1]; exact entB_new _ _ _
 have HB1 := Lib.hid hB1
 have hs1 := hB1.size
 obtain ⟨k0, k1⟩ := entB_cells HT1.out
 clear hB1
 have HF1 := Lib.hid (HF0.out W1 HB1.out)
 cases hf : findS (sml.lowL n.data.toList) with
 | none =>
  rw [hf] at HF1
  have HF : Hid (Calls Tryz.prog 70 #[.string n] W1 fun e w' => e = .returned (.tuple #[.agg #[.string ⟨#[]⟩, .int .i64 0, .bool false], .bool false]) ∧ Below W1.heap.size W1 w') := HF1
  clear HF0 HF1 hf HR0 HV0
  go_enter Tryz.func18, Tryz.ntmps18
  go_wp2_with fail
  refine HF.out.mono ?_
  rintro e w2 ⟨rfl, hB2⟩
  have HB2 := Lib.hid (HB1.out.trans (hB2.mono hs1))
  clear hB2 k0 k1 hW1
  go_wp2_with fail
  go_ret
  exact ⟨_, rfl, elem_nil _, HB2.out.alloc HB2.out.size _⟩
 | some ty =>
  rw [hf] at HF1
  have HF : Hid (Calls Tryz.prog 70 #[.string n] W1 fun e w' => e = .returned (.tuple #[.agg #[.string (bs ty.name), .int .i64 ty.syn, .bool ty.single], .bool true]) ∧ Below W1.heap.size W1 w') := HF1
  clear HF0 HF1 hf
  simp only
  generalize bs ty.name = nm at HF ⊢
  generalize ty.syn = syn at HF
  generalize ty.single = sg at HF
  cases hr : rightE E with
  | false =>
   rw [if_neg (by decide)]
   rw [hr] at HR0
   clear hr HV0
   go_enter Tryz.func18, Tryz.ntmps18
   go_wp2_with fail
   refine HF.out.mono ?_
   rintro e w2 ⟨rfl, hB2⟩
   have HB2 := Lib.hid (HB1.out.trans (hB2.mono hs1))
   obtain ⟨w3, hw3⟩ : ∃ W, w2.alloc (.cells #[.string nm, .int .i64 syn, .bool sg] 29) = W := ⟨_, rfl⟩
   have hB3 : Below w2.heap.size w2 w3 := by rw [← hw3]; exact (Below.refl _ _).alloc (Nat.le_refl _) _
   have HB3 := Lib.hid (HB2.out.trans (hB3.mono HB2.out.size))
   obtain ⟨m0, m1⟩ := entB_cells (entB_below (entB_below HT1.out hB2) hB3)
   have HR := Lib.hid (HR0.out w3 HB3.out)
   clear hB2 hB3 k0 k1 hW1
   go_wp2_with fail
   refine HR.out.mono ?_
   rintro e w4 ⟨rfl, hB4⟩
   have HB4 := Lib.hid (HB3.out.trans (hB4.mono HB3.out.size))
   clear hB4 m0 m1 hw3
   go_wp2_with fail
   go_ret
   exact ⟨_, rfl, elem_nil _, HB4.out⟩
  | true =>
   rw [if_pos rfl]
   rw [hr] at HR0
   clear hr
   go_enter Tryz.func18, Tryz.ntmps18
   go_wp2_with fail
   refine HF.out.mono ?_
   rintro e w2 ⟨rfl, hB2⟩
   have HB2 := Lib.hid (HB1.out.trans (hB2.mono hs1))
   obtain ⟨w3, hw3⟩ : ∃ W, w2.alloc (.cells #[.string nm, .int .i64 syn, .bool sg] 29) = W := ⟨_, rfl⟩
   have hB3 : Below w2.heap.size w2 w3 := by rw [← hw3]; exact (Below.refl _ _).alloc (Nat.le_refl _) _
   have HB3 := Lib.hid (HB2.out.trans (hB3.mono HB2.out.size))
   have HT3 := Lib.hid (entB_below (entB_below HT1.out hB2) hB3)
   obtain ⟨m0, m1⟩ := entB_cells HT3.out
   have HY3 : Hid (TB w3 w2.heap.size nm syn sg) := by rw [← hw3]; exact tb_new _ _ _ _
   have HR := Lib.hid (HR0.out w3 HB3.out)
   clear hB2 hB3 k0 k1 hW1
   go_wp2_with fail
   refine HR.out.mono ?_
   rintro e w4 ⟨rfl, hB4⟩
   have HB4 := Lib.hid (HB3.out.trans (hB4.mono HB3.out.size))
   obtain ⟨p0, p1⟩ := entB_cells (entB_below HT3.out hB4)
   obtain ⟨y0, y1, y2⟩ := tb_cells (tb_below HY3.out hB4)
   have HV := Lib.hid (HV0.out nm w4 HB4.out)
   clear hB4 m0 m1 hw3
   go_wp2_with fail
   refine HV.out.mono ?_
   rintro e w5 ⟨x, rfl, hx, hB5⟩
   have HB5 := Lib.hid (HB4.out.trans (hB5.mono HB4.out.size))
   have HX := Lib.hid (clone_any x (valsA E.ats nm) w5 hx (by have := (HVL.out nm).1; omega))
   clear hB5 hx p0 p1 y0 y1 y2
   go_wp2_with fail
   refine HX.out.mono ?_
   rintro e w6 ⟨y, rfl, hy, hB6⟩
   have HB6 := Lib.hid (HB5.out.trans (hB6.mono HB5.out.size))
   have HY := Lib.hid (own_elem hy)
   clear hB6 hy
   go_wp2_with fail
   go_ret
   exact ⟨_, rfl, HY.out, HB6.out⟩
set_option maxRecDepth 20000 in
set_option maxHeartbeats 4000000 in
theorem has_any (v : Value) (E : En) (n x : ByteArray) (w : World) (hv : Hid (EntV w v E)) (hb : Hid (Bd E)) (hn : n.size ≤ 10000000) (hx : x.size ≤ 140737488351232) (hE : Hid (EnvE w)) :
  Calls Tryz.prog 19 #[v, .string n, .string x] w fun e w' => e = .returned (.bool (hasE E n.data.toList x)) ∧ Below w.heap.size w w' := by
 have HR0 : Hid (∀ W, Below w.heap.size w W → Calls Tryz.prog 26 #[v] W fun e w' => e = .returned (.bool (rightE E)) ∧ Below W.heap.size W w') := fun W h => right_any v E W (Lib.hid (entV_below hv.out h)) hb (Lib.hid (envE_below hE.out h))
 have HF0 : Hid (∀ W, Below w.heap.size w W → Calls Tryz.prog 70 #[.string n] W fun e w' => e = .returned (resT (findS (sml.lowL n.data.toList))) ∧ Below W.heap.size W w') := fun W h => find_any n W hn (Lib.hid (envE_below hE.out h).y)
 have HV0 : Hid (∀ m W, Below w.heap.size w W → Calls Tryz.prog 72 #[v, .string m] W fun e w' => ValsE (valsA E.ats m) W e w') := fun m W h => vals_any v E m W (Lib.hid (entV_below hv.out h)) hb
 have HK0 : Hid (∀ nm syn sg m a c k W, Hid (k = (valsA E.ats m).length) → Strs W a (valsA E.ats m) → EnvE W → Calls Tryz.prog 73 #[.agg #[.string nm, .int .i64 syn, .bool sg], .slice a k c, .string x] W fun e w' => e = .returned (.int .i64 (likeI syn (valsA E.ats m) x)) ∧ Below W.heap.size W w') := by
  intro nm syn sg m a c k W hk hs he
  have := like_any nm syn sg a c (valsA E.ats m) x W (Lib.hid hs) (by have := (vals_len hb.out m).1; omega) (vals_fit hb.out m) hx (Lib.hid he)
  rw [← hk.out] at this
  exact this
 have HRES : Hid (hasE E n.data.toList x = match findS (sml.lowL n.data.toList) with
  | none => false
  | some ty => rightE E && decide (0 ≤ likeI ty.syn (valsA E.ats (bs ty.name)) x)) := rfl
 rw [HRES.out]
 clear HRES
 obtain ⟨ro, rc, ao, ac, Nr, N, rfl, HN, HA, hac, HNr, HAv, hrc⟩ := ent_form hv.out
 have hNb : N ≤ 100000 := by rw [← HN.out]; exact hb.out.al
 obtain ⟨W1, hW1⟩ : ∃ W, w.alloc (.cells #[.slice ro Nr rc, .slice ao N ac] 25) = W := ⟨_, rfl⟩
 have hB1 : Below w.heap.size w W1 := by rw [← hW1]; exact (Below.refl _ _).alloc (Nat.le_refl _) _
 have HT1 : Hid (EntB W1 w.heap.size (.slice ro Nr rc) (.slice ao N ac)) := by rw [← hW1]; exact entB_new _ _ _
 have HB1 := Lib.hid hB1
 have hs1 := hB1.size
 obtain ⟨k0, k1⟩ := entB_cells HT1.out
 clear hB1
 have HF1 := Lib.hid (HF0.out W1 HB1.out)
 cases hf : findS (sml.lowL n.data.toList) with
 | none =>
  rw [hf] at HF1
  obtain ⟨nm, syn, sg, HF⟩ : ∃ nm syn sg, Hid (Calls Tryz.prog 70 #[.string n] W1 fun e w' => e = .returned (.tuple #[.agg #[.string nm, .int .i64 syn, .bool sg], .bool false]) ∧ Below W1.heap.size W1 w') := ⟨_, _, _, HF1⟩
  clear HF0 HF1 hf HR0 HV0 HK0
  go_enter Tryz.func19, Tryz.ntmps19
  go_wp2_with fail
  refine HF.out.mono ?_
  rintro e w2 ⟨rfl, hB2⟩
  have HB2 := Lib.hid (HB1.out.trans (hB2.mono hs1))
  obtain ⟨w3, hw3⟩ : ∃ W, w2.alloc (.cells #[.string nm, .int .i64 syn, .bool sg] 29) = W := ⟨_, rfl⟩
  have hB3 : Below w2.heap.size w2 w3 := by rw [← hw3]; exact (Below.refl _ _).alloc (Nat.le_refl _) _
  have HB3 := Lib.hid (HB2.out.trans (hB3.mono HB2.out.size))
  clear hB2 hB3 k0 k1 hW1
  go_wp2_with fail
  refine wp_region_held_drew (S := fun _ => True) (by kernel_rfl) (trivial) (fun hHeld => ?_)
  refine tk 0 ⟨some 14,_,_,_,_,_⟩ rfl ?_
  refine tk 1 ⟨some 15,_,_,_,_,_⟩ rfl ?_
  refine tu 2 ⟨some 16,_,_,_,_,_⟩ rfl ?_
  refine tu 3 ⟨some 17,_,_,_,_,_⟩ rfl ?_
  refine tk 4 ⟨some 18,_,_,_,_,_⟩ rfl ?_
  refine tk 5 ⟨some 19,_,_,_,_,_⟩ rfl ?_
  refine tu 6 ⟨some 20,_,_,_,_,_⟩ rfl ?_
  refine tu 7 ⟨some 21,_,_,_,_,_⟩ rfl ?_
  refine tu 8 ⟨some 22,_,_,_,_,_⟩ rfl ?_
  refine tu 9 ⟨some 23,_,_,_,_,_⟩ rfl ?_
  refine tu 10 ⟨some 24,_,_,_,_,_⟩ rfl ?_
  refine tu 11 ⟨some 25,_,_,_,_,_⟩ rfl ?_
  refine tu 12 ⟨some 26,_,_,_,_,_⟩ rfl ?_
  refine tu 13 ⟨some 27,_,_,_,_,_⟩ rfl ?_
  refine tk 14 ⟨some 28,_,_,_,_,_⟩ rfl ?_
  refine tk 15 ⟨some 6,_,_,_,_,_⟩ rfl ?_
  refine wpAnyH_done (by kernel_rfl) ?_ _
  clear hHeld
  go_wp2_with fail
  go_ret
  exact ⟨rfl, HB3.out.drew⟩
 | some ty =>
  rw [hf] at HF1
  have HF : Hid (Calls Tryz.prog 70 #[.string n] W1 fun e w' => e = .returned (.tuple #[.agg #[.string (bs ty.name), .int .i64 ty.syn, .bool ty.single], .bool true]) ∧ Below W1.heap.size W1 w') := HF1
  clear HF0 HF1 hf
  simp only
  generalize bs ty.name = nm at HF ⊢
  generalize ty.syn = syn at HF ⊢
  generalize ty.single = sg at HF
  cases hr : rightE E with
  | false =>
   rw [hr] at HR0
   clear hr HV0 HK0
   go_enter Tryz.func19, Tryz.ntmps19
   go_wp2_with fail
   refine HF.out.mono ?_
   rintro e w2 ⟨rfl, hB2⟩
   have HB2 := Lib.hid (HB1.out.trans (hB2.mono hs1))
   obtain ⟨w3, hw3⟩ : ∃ W, w2.alloc (.cells #[.string nm, .int .i64 syn, .bool sg] 29) = W := ⟨_, rfl⟩
   have hB3 : Below w2.heap.size w2 w3 := by rw [← hw3]; exact (Below.refl _ _).alloc (Nat.le_refl _) _
   have HB3 := Lib.hid (HB2.out.trans (hB3.mono HB2.out.size))
   obtain ⟨m0, m1⟩ := entB_cells (entB_below (entB_below HT1.out hB2) hB3)
   have hlm := World.block_lt_of_cell? w3 _ m0
   have HR : Hid (∀ W, Below w3.heap.size w3 W → _) := fun W h => HR0.out W (HB3.out.trans (h.mono HB3.out.size))
   clear hB2 hB3 k0 k1 hW1
   go_wp2_with fail
   refine wp_region_held_drew (S := fun W => W.cell? ⟨w.heap.size, 0, none⟩ = some (.slice ro Nr rc) ∧ W.cell? ⟨w.heap.size, 1, none⟩ = some (.slice ao N ac)) (by kernel_rfl) (⟨m0, m1⟩) (fun hHeld => ?_)
   refine tk 0 ⟨some 14,_,_,_,_,_⟩ rfl ?_
   refine tk 1 ⟨some 15,_,_,_,_,_⟩ rfl ?_
   refine tk 2 ⟨some 16,_,_,_,_,_⟩ rfl ?_
   refine tc 3 ⟨some 17,_,_,_,_,_⟩ rfl (fun K hK => ?_)
   go_simp
   go_at_call 26; refine (HR.out _ ((Below.refl w3.heap.size w3).drew)).mono ?_; rintro e w4 ⟨rfl, hB4⟩
   refine hK.out _ _ (⟨(hB4.cell (p := ⟨w.heap.size, 0, none⟩) hlm).trans (m0), (hB4.cell (p := ⟨w.heap.size, 1, none⟩) hlm).trans (m1)⟩) (fun hHeld => ?_)
   clear hK
   try simp only [Act.put, List.setIfInBounds_toArray, List.set_cons_zero, List.set_cons_succ]
   refine tk 4 ⟨some 18,_,_,_,_,_⟩ rfl ?_
   refine tk 5 ⟨some 19,_,_,_,_,_⟩ rfl ?_
   refine tu 6 ⟨some 20,_,_,_,_,_⟩ rfl ?_
   refine tu 7 ⟨some 21,_,_,_,_,_⟩ rfl ?_
   refine tu 8 ⟨some 22,_,_,_,_,_⟩ rfl ?_
   refine tu 9 ⟨some 23,_,_,_,_,_⟩ rfl ?_
   refine tu 10 ⟨some 24,_,_,_,_,_⟩ rfl ?_
   refine tu 11 ⟨some 25,_,_,_,_,_⟩ rfl ?_
   refine tu 12 ⟨some 26,_,_,_,_,_⟩ rfl ?_
   refine tu 13 ⟨some 27,_,_,_,_,_⟩ rfl ?_
   refine tk 14 ⟨some 28,_,_,_,_,_⟩ rfl ?_
   refine tk 15 ⟨some 6,_,_,_,_,_⟩ rfl ?_
   refine wpAnyH_done (by kernel_rfl) ?_ _
   have HB4 := Lib.hid (HB3.out.trans (((Below.refl w3.heap.size w3).drew.trans hB4).mono HB3.out.size))
   clear hHeld hB4 m0 m1
   go_wp2_with fail
   go_ret
   exact ⟨rfl, HB4.out⟩
  | true =>
   rw [hr] at HR0
   clear hr
   have HLI : Hid (∃ z, likeI syn (valsA E.ats nm) x = z) := ⟨_, rfl⟩
   have HK1 : Hid (∀ a c k W, Hid (k = (valsA E.ats nm).length) → Strs W a (valsA E.ats nm) → EnvE W → Calls Tryz.prog 73 #[.agg #[.string nm, .int .i64 syn, .bool sg], .slice a k c, .string x] W fun e w' => e = .returned (.int .i64 (likeI syn (valsA E.ats nm) x)) ∧ Below W.heap.size W w') := fun a c k W => HK0.out nm syn sg nm a c k W
   have HV1 : Hid (∀ W, Below w.heap.size w W → Calls Tryz.prog 72 #[.agg #[.slice ro Nr rc, .slice ao N ac], .string nm] W fun e w' => ValsE (valsA E.ats nm) W e w') := fun W h => HV0.out nm W h
   have HK := HK1
   clear HK0 HV0 HLI HK1
   generalize likeI syn (valsA E.ats nm) x = z at HK ⊢
   rw [Bool.true_and]
   go_enter Tryz.func19, Tryz.ntmps19
   go_wp2_with fail
   refine HF.out.mono ?_
   rintro e w2 ⟨rfl, hB2⟩
   have HB2 := Lib.hid (HB1.out.trans (hB2.mono hs1))
   obtain ⟨w3, hw3⟩ : ∃ W, w2.alloc (.cells #[.string nm, .int .i64 syn, .bool sg] 29) = W := ⟨_, rfl⟩
   have hB3 : Below w2.heap.size w2 w3 := by rw [← hw3]; exact (Below.refl _ _).alloc (Nat.le_refl _) _
   have HB3 := Lib.hid (HB2.out.trans (hB3.mono HB2.out.size))
   obtain ⟨m0, m1⟩ := entB_cells (entB_below (entB_below HT1.out hB2) hB3)
   have hlm := World.block_lt_of_cell? w3 _ m0
   obtain ⟨y0, y1, y2⟩ := tb_cells (w := w3) (p := w2.heap.size) (nm := nm) (syn := syn) (sg := sg) (by rw [← hw3]; exact tb_new _ _ _ _)
   have hly := World.block_lt_of_cell? w3 _ y0
   have HE3 := Lib.hid (envE_below hE.out HB3.out)
   have HR : Hid (∀ W, Below w3.heap.size w3 W → _) := fun W h => HR0.out W (HB3.out.trans (h.mono HB3.out.size))
   have HV : Hid (∀ W, Below w3.heap.size w3 W → _) := fun W h => HV1.out W (HB3.out.trans (h.mono HB3.out.size))
   clear hB2 hB3 k0 k1 hW1
   go_wp2_with fail
   refine wp_region_held_drew (S := fun W => W.cell? ⟨w.heap.size, 0, none⟩ = some (.slice ro Nr rc) ∧ W.cell? ⟨w.heap.size, 1, none⟩ = some (.slice ao N ac) ∧ W.cell? ⟨w2.heap.size, 0, none⟩ = some (.string nm) ∧ W.cell? ⟨w2.heap.size, 1, none⟩ = some (.int .i64 syn) ∧ W.cell? ⟨w2.heap.size, 2, none⟩ = some (.bool sg)) (by kernel_rfl) (⟨m0, m1, y0, y1, y2⟩) (fun hHeld => ?_)
   refine tk 0 ⟨some 14,_,_,_,_,_⟩ rfl ?_
   refine tk 1 ⟨some 15,_,_,_,_,_⟩ rfl ?_
   refine tk 2 ⟨some 16,_,_,_,_,_⟩ rfl ?_
   refine tc 3 ⟨some 17,_,_,_,_,_⟩ rfl (fun K hK => ?_)
   go_simp
   go_at_call 26; refine (HR.out _ ((Below.refl w3.heap.size w3).drew)).mono ?_; rintro e w4 ⟨rfl, hB4⟩
   refine hK.out _ _ (⟨(hB4.cell (p := ⟨w.heap.size, 0, none⟩) hlm).trans (m0), (hB4.cell (p := ⟨w.heap.size, 1, none⟩) hlm).trans (m1), (hB4.cell (p := ⟨w2.heap.size, 0, none⟩) hly).trans (y0), (hB4.cell (p := ⟨w2.heap.size, 1, none⟩) hly).trans (y1), (hB4.cell (p := ⟨w2.heap.size, 2, none⟩) hly).trans (y2)⟩) (fun hHeld => ?_)
   clear hK
   try simp only [Act.put, List.setIfInBounds_toArray, List.set_cons_zero, List.set_cons_succ]
   refine tk 4 ⟨some 18,_,_,_,_,_⟩ rfl ?_
   refine tk 5 ⟨some 19,_,_,_,_,_⟩ rfl ?_
   refine tk 6 ⟨some 20,_,_,_,_,_⟩ rfl ?_
   refine tk 7 ⟨some 21,_,_,_,_,_⟩ rfl ?_
   refine tk 8 ⟨some 22,_,_,_,_,_⟩ rfl ?_
   refine tk 9 ⟨some 23,_,_,_,_,_⟩ rfl ?_
   refine tk 11 ⟨some 25,_,_,_,_,_⟩ rfl ?_
   refine tc 10 ⟨some 24,_,_,_,_,_⟩ rfl (fun K hK => ?_)
   go_simp
   go_at_call 72; refine (HV.out _ (((Below.refl w3.heap.size w3).drew).trans hB4)).mono ?_; rintro e w5 ⟨x5, rfl, hx5, hB5⟩; obtain ⟨a5, n5, c5, rfl, hn5, hc5, hs5⟩ := elem_form hx5
   refine hK.out _ _ (⟨(hB5.cell (p := ⟨w.heap.size, 0, none⟩) (Nat.lt_of_lt_of_le hlm hB4.size)).trans ((hB4.cell (p := ⟨w.heap.size, 0, none⟩) hlm).trans (m0)), (hB5.cell (p := ⟨w.heap.size, 1, none⟩) (Nat.lt_of_lt_of_le hlm hB4.size)).trans ((hB4.cell (p := ⟨w.heap.size, 1, none⟩) hlm).trans (m1)), (hB5.cell (p := ⟨w2.heap.size, 0, none⟩) (Nat.lt_of_lt_of_le hly hB4.size)).trans ((hB4.cell (p := ⟨w2.heap.size, 0, none⟩) hly).trans (y0)), (hB5.cell (p := ⟨w2.heap.size, 1, none⟩) (Nat.lt_of_lt_of_le hly hB4.size)).trans ((hB4.cell (p := ⟨w2.heap.size, 1, none⟩) hly).trans (y1)), (hB5.cell (p := ⟨w2.heap.size, 2, none⟩) (Nat.lt_of_lt_of_le hly hB4.size)).trans ((hB4.cell (p := ⟨w2.heap.size, 2, none⟩) hly).trans (y2))⟩) (fun hHeld => ?_)
   clear hK
   try simp only [Act.put, List.setIfInBounds_toArray, List.set_cons_zero, List.set_cons_succ]
   refine tc 12 ⟨some 26,_,_,_,_,_⟩ rfl (fun K hK => ?_)
   go_simp
   go_at_call 73; refine (HK.out a5 c5 n5 _ hn5 hs5 (envE_below (envE_below HE3.out ((Below.refl w3.heap.size w3).drew.trans hB4)) hB5)).mono ?_; rintro e w6 ⟨rfl, hB6⟩
   refine hK.out _ _ (⟨(hB6.cell (p := ⟨w.heap.size, 0, none⟩) (Nat.lt_of_lt_of_le (Nat.lt_of_lt_of_le hlm hB4.size) hB5.size)).trans ((hB5.cell (p := ⟨w.heap.size, 0, none⟩) (Nat.lt_of_lt_of_le hlm hB4.size)).trans ((hB4.cell (p := ⟨w.heap.size, 0, none⟩) hlm).trans (m0))), (hB6.cell (p := ⟨w.heap.size, 1, none⟩) (Nat.lt_of_lt_of_le (Nat.lt_of_lt_of_le hlm hB4.size) hB5.size)).trans ((hB5.cell (p := ⟨w.heap.size, 1, none⟩) (Nat.lt_of_lt_of_le hlm hB4.size)).trans ((hB4.cell (p := ⟨w.heap.size, 1, none⟩) hlm).trans (m1))), (hB6.cell (p := ⟨w2.heap.size, 0, none⟩) (Nat.lt_of_lt_of_le (Nat.lt_of_lt_of_le hly hB4.size) hB5.size)).trans ((hB5.cell (p := ⟨w2.heap.size, 0, none⟩) (Nat.lt_of_lt_of_le hly hB4.size)).trans ((hB4.cell (p := ⟨w2.heap.size, 0, none⟩) hly).trans (y0))), (hB6.cell (p := ⟨w2.heap.size, 1, none⟩) (Nat.lt_of_lt_of_le (Nat.lt_of_lt_of_le hly hB4.size) hB5.size)).trans ((hB5.cell (p := ⟨w2.heap.size, 1, none⟩) (Nat.lt_of_lt_of_le hly hB4.size)).trans ((hB4.cell (p := ⟨w2.heap.size, 1, none⟩) hly).trans (y1))), (hB6.cell (p := ⟨w2.heap.size, 2, none⟩) (Nat.lt_of_lt_of_le (Nat.lt_of_lt_of_le hly hB4.size) hB5.size)).trans ((hB5.cell (p := ⟨w2.heap.size, 2, none⟩) (Nat.lt_of_lt_of_le hly hB4.size)).trans ((hB4.cell (p := ⟨w2.heap.size, 2, none⟩) hly).trans (y2)))⟩) (fun hHeld => ?_)
   clear hK
   try simp only [Act.put, List.setIfInBounds_toArray, List.set_cons_zero, List.set_cons_succ]
   refine tk 13 ⟨some 27,_,_,_,_,_⟩ rfl ?_
   refine tk 14 ⟨some 28,_,_,_,_,_⟩ rfl ?_
   refine tk 15 ⟨some 6,_,_,_,_,_⟩ rfl ?_
   refine wpAnyH_done (by kernel_rfl) ?_ _
   have HB6 := Lib.hid (HB3.out.trans ((((Below.refl w3.heap.size w3).drew.trans hB4).trans ((hB5.trans (hB6.mono hB5.size)).mono hB4.size)).mono HB3.out.size))
   clear hHeld hB4 hB5 hB6 hx5 hs5 m0 m1 y0 y1 y2
   go_wp2_with fail
   go_ret
   exact ⟨rfl, HB6.out⟩
end etw
end Go.Proofs.YtcolcogobdgejaaGreatDoor
/-! WithK -/
namespace Go.Proofs.YtcolcogobdgejaaGreatDoor
open Go.RowKit
namespace etw
open atp atw etp
open dnw (Av Avas)
open tupw (Strs strs_below)
set_option linter.unusedVariables false
set_option linter.unusedSimpArgs false
def NoS (v : Value) : Prop := ∀ s : ByteArray, v ≠ .string s
theorem noS_slice (a : Option Addr) (n c : Nat) : NoS (.slice a n c) := fun s h => by cases h
theorem entB_str {w : World} {p : Nat} {r a : Value} (h : EntB w p r a) (hr : NoS r) (ha : NoS a) (o : Nat) (s : ByteArray) : w.cell? ⟨p, o, none⟩ ≠ some (.string s) := by
 rw [Lib.cell_of_heap h]
 match o with
 | 0 => intro e; simp at e; exact hr s e
 | 1 => intro e; simp at e; exact ha s e
 | k + 2 => intro e; simp at e
theorem entB_set1 {w : World} {p : Nat} {r a : Value} (h : EntB w p r a) (u : Value) : EntB (w.setCell ⟨p, 1, none⟩ u) p r u := Joins.block_setCell h u
theorem entB_set0 {w : World} {p : Nat} {r a : Value} (h : EntB w p r a) (u : Value) : EntB (w.setCell ⟨p, 0, none⟩ u) p u a := Joins.block_setCell h u
theorem entB_other {w : World} {p q j : Nat} {r a : Value} (h : EntB w p r a) (hq : p ≠ q) (u : Value) : EntB (w.setCell ⟨q, j, none⟩ u) p r a := (Below.heap_setCell _ _ _ _ hq).trans h
theorem strs_set {w : World} {ao : Option Addr} {l : List ByteArray} {p : Nat} {r a : Value} (h : Strs w ao l) (hp : EntB w p r a) (hr : NoS r) (ha : NoS a) (j : Nat) (u : Value) : Strs (w.setCell ⟨p, j, none⟩ u) ao l := by
 intro i hi
 obtain ⟨b, o, e, hc⟩ := h i hi
 refine ⟨b, o, e, ?_⟩
 rw [World.cell?_setCell_other _ _ _ _ ?_, hc]
 intro e2
 injection e2 with e3 _ _
 subst e3
 exact entB_str hp hr ha _ _ hc
theorem elem_set {w : World} {x : Value} {l : List ByteArray} {p : Nat} {r a : Value} (h : ElemAt w x l) (hp : EntB w p r a) (hr : NoS r) (ha : NoS a) (j : Nat) (u : Value) : ElemAt (w.setCell ⟨p, j, none⟩ u) x l := by
 obtain ⟨b, c, h1, h2, h3⟩ := h
 exact ⟨b, c, h1, h2, strs_set h3 hp hr ha j u⟩
theorem avas_set {w : World} {ao : Option Addr} {l : List Av} {p : Nat} {r a : Value} (h : Avas w ao l) (hp : EntB w p r a) (hr : NoS r) (ha : NoS a) (j : Nat) (u : Value) : Avas (w.setCell ⟨p, j, none⟩ u) ao l := by
 intro i hi
 obtain ⟨b, o, e, h1, h2⟩ := h i hi
 have hb : b ≠ p := by
  rintro rfl
  exact entB_str hp hr ha _ _ h1
 refine ⟨b, o, e, ?_, ?_⟩
 ·rw [World.cell?_setCell_other _ _ _ _ (by intro e2; injection e2 with e3 _ _; exact hb e3.symm), h1]
 ·rw [World.cell?_setCell_other _ _ _ _ (by intro e2; injection e2 with e3 _ _; exact hb e3.symm), h2]
theorem ownA_ne {w : World} {B : Nat} {v : Value} {l : List AV} {p : Nat} {r a : Value} (h : OwnA w B v l) (hp : EntB w p r a) : v.ownBlock ≠ some p := by
 intro e
 rcases h.outer.2 with ⟨rfl, _⟩ | ⟨g, o, cap, pre, post, rfl, _, hg, _⟩
 ·cases e
 ·simp [Value.ownBlock] at e
  subst e
  unfold EntB at hp
  rw [hg] at hp
  simp at hp
theorem ownA_set {w : World} {B : Nat} {v : Value} {l : List AV} {p : Nat} {r a : Value} (h : OwnA w B v l) (hp : EntB w p r a) (hr : NoS r) (ha : NoS a) (j : Nat) (u : Value) : OwnA (w.setCell ⟨p, j, none⟩ u) B v l := by
 have hne := ownA_ne h hp
 refine ⟨kt.segX_same h.outer fun k hk => Below.heap_setCell _ _ _ _ (fun e => ?_), fun x hx => ⟨elem_set (h.inner x hx).1 hp hr ha j u, (h.inner x hx).2⟩⟩
 simp only at e
 subst e
 exact hne hk
theorem ownA_formC {w : World} {B : Nat} {v : Value} {l : List AV} (h : OwnA w B v l) : ∃ ao n cap, v = .slice ao n cap ∧ n ≤ cap := by
 obtain ⟨ao, n, cap, h1, _, h2⟩ := ownA_form h
 exact ⟨ao, n, cap, h1, h2⟩
def AppA (w : World) (B p : Nat) (rs av : Value) (t : ByteArray) (x : Value) (dl : List AV) (vs : List ByteArray) (w7 : World) (ao7 : Option Addr) (m7 cap7 : Nat) : Prop :=
 (Builtin.append_ #[23, 23] 23 #[av, .slice (some ⟨w.heap.size, 0, none⟩) 1 1]).run Tryz.prog (w.alloc (.cells #[.string t, x] 57)) = .ok (.slice ao7 m7 cap7) w7
theorem appA {w : World} {B p : Nat} {rs av : Value} (t : ByteArray) (x : Value) (vs : List ByteArray) (dl : List AV) (hO : OwnA w B av dl) (hp : EntB w p rs av) (hrs : NoS rs) (hx : ElemAt w x vs) (hne : vs ≠ [] → ∀ k, x.ownBlock = some k → av.ownBlock ≠ some k) (hl : dl.length ≤ 1000000) (hB : B ≤ w.heap.size) :
  ∃ ao7 m7 cap7 w7, AppA w B p rs av t x dl vs w7 ao7 m7 cap7 ∧ w7.frozen? ⟨p, 1, none⟩ = false ∧ (∃ u, w7.cell? ⟨p, 1, none⟩ = some u) ∧
   EntB (w7.setCell ⟨p, 1, none⟩ (.slice ao7 m7 cap7)) p rs (.slice ao7 m7 cap7) ∧ OwnA (w7.setCell ⟨p, 1, none⟩ (.slice ao7 m7 cap7)) B (.slice ao7 m7 cap7) (dl ++ [(⟨t, vs⟩, x)]) ∧ Below B w w7 ∧
   (∀ k, k < w.heap.size → av.ownBlock ≠ some k → w7.heap[k]? = w.heap[k]?) ∧ (∀ k, (Value.slice ao7 m7 cap7).ownBlock = some k → av.ownBlock = some k ∨ w.heap.size ≤ k) := by
 obtain ⟨ao7, m7, cap7, w7, h1, h2, h3, _, _, h4, _, h5, h6⟩ := ownA_app t x vs hO hx hne hl hB
 obtain ⟨ao, n, cap, rfl, _⟩ := ownA_formC hO
 have hp7 : EntB w7 p rs (.slice ao n cap) := (h5 p (kt.bld_lt hp) (ownA_ne hO hp)).trans hp
 exact ⟨ao7, m7, cap7, w7, h1, Lib.frozen_of_heap hp7 1, ⟨_, (entB_cells hp7).2⟩, entB_set1 hp7 _, ownA_set h2 hp7 hrs (noS_slice _ _ _) _ _, h3, h5, h6⟩
theorem grown_step {w4 wr w5 w7 : World} {p : Nat} (h : w4.grownBy wr (some p)) (h5 : Below wr.heap.size wr w5) (h7 : Below w4.heap.size w5 w7) (j : Nat) (u : Value) : w4.grownBy (w7.setCell ⟨p, j, none⟩ u) (some p) := by
 refine ⟨h7.os.trans (h5.os.trans h.os), h7.tape.trans (h5.tape.trans h.tape), h7.output.trans (h5.output.trans h.output), ?_, fun k hk hne => ?_⟩
 ·have := h.size; have := h5.size; have := h7.size; simp; omega
 ·rw [Below.heap_setCell _ _ _ _ (fun e => hne (by rw [e])), h7.block k hk, h5.block k (Nat.lt_of_lt_of_le hk h.size), h.block k hk hne]
theorem grown_below {w4 wr w5 : World} {p : Nat} (h : w4.grownBy wr (some p)) (h5 : Below wr.heap.size wr w5) : w4.grownBy w5 (some p) :=
 ⟨h5.os.trans h.os, h5.tape.trans h.tape, h5.output.trans h.output, Nat.le_trans h.size h5.size, fun k hk hne => (h5.block k (Nat.lt_of_lt_of_le hk h.size)).trans (h.block k hk hne)⟩
theorem grown_refl (w : World) (p : Nat) : w.grownBy w (some p) := ⟨rfl, rfl, rfl, Nat.le_refl _, fun _ _ _ => rfl⟩
theorem attrB_set {w : World} {A p j : Nat} {t : ByteArray} {v : Value} (h : AttrB w A t v) (hp : A ≠ p) (u : Value) : AttrB (w.setCell ⟨p, j, none⟩ u) A t v := (Below.heap_setCell _ _ _ _ hp).trans h
theorem ownT_new {w : World} {B : Nat} {x : Value} {l : List ByteArray} (h : prw.OwnT w B x l) : ∀ k, x.ownBlock = some k → B ≤ k := fun k hk => (World.ownsRow.lt h k hk).1
theorem ownA_old {w : World} {B : Nat} {v : Value} {l : List AV} (h : OwnA w B v l) : ∀ k, v.ownBlock = some k → k < w.heap.size := fun k hk => (kt.segX_lt h.outer k hk).2
theorem attrB_app {w w7 : World} {A p : Nat} {t : ByteArray} {v av u : Value} (h : AttrB w A t v) (hne : av.ownBlock ≠ some A) (hp : A ≠ p) (h5 : ∀ k, k < w.heap.size → av.ownBlock ≠ some k → w7.heap[k]? = w.heap[k]?) : AttrB (w7.setCell ⟨p, 1, none⟩ u) A t v :=
 attrB_set ((h5 A (kt.bld_lt h) hne).trans h) hp u
def EntE (E : En) (w : World) (e : Ending) (w' : World) : Prop := ∃ v, e = .returned v ∧ EntV w' v E ∧ Below w.heap.size w w'
theorem withF_step {n : ByteArray} {l : List ByteArray} {d : Bool} {L : List At} {i : Nat} (h : i < L.length) : withF n l d (L.drop i) = (if (!d && !ltB L[i].t n) = true then [⟨n, l⟩] else []) ++ ((if L[i].t = n then [] else [L[i]]) ++ withF n l (d || (!d && !ltB L[i].t n)) (L.drop (i + 1))) := by
 rw [List.drop_eq_getElem_cons h]
 show _ ++ _ ++ _ = _
 rw [List.append_assoc]
def avc (a : Av) : List Value := [.string a.t, .string a.v]
theorem avc_at {l : List Av} : ∀ {j : Nat} {u : Value}, (l.flatMap avc)[j]? = some u → ∃ i, ∃ hi : i < l.length, (j = i * 2 ∧ u = .string l[i].t) ∨ (j = i * 2 + 1 ∧ u = .string l[i].v) := by
 induction l with
 | nil => intro j u h; simp at h
 | cons a t ih =>
  intro j u h
  rw [List.flatMap_cons] at h
  match j, h with
  | 0, h => exact ⟨0, by simp, Or.inl ⟨rfl, by simp [avc] at h; exact h.symm⟩⟩
  | 1, h => exact ⟨0, by simp, Or.inr ⟨rfl, by simp [avc] at h; exact h.symm⟩⟩
  | k + 2, h =>
   rw [List.getElem?_append_right (by simp [avc])] at h
   obtain ⟨i, hi, h2⟩ := ih (j := k) (u := u) (by simpa [avc] using h)
   refine ⟨i + 1, by simpa using hi, ?_⟩
   rcases h2 with ⟨rfl, rfl⟩ | ⟨rfl, rfl⟩
   ·exact Or.inl ⟨by omega, rfl⟩
   ·exact Or.inr ⟨by omega, rfl⟩
theorem avc_len (l : List Av) : (l.flatMap avc).length = l.length * 2 := kt.flat_len avc 2 (fun _ => rfl) l
theorem infoAv : (Tryz.prog.info? 62).map (fun i => (i.zero, i.size, i.bytes)) = some (some (.agg #[.string ByteArray.empty, .string ByteArray.empty]), 2, 32) := by kernel_rfl
theorem segX_empty (w : World) (e : TypeId) (sz : Nat) (B : Nat) (hB : B ≤ w.heap.size) : kt.SegX (w.alloc (.cells #[] e)) B e sz (.slice (some ⟨w.heap.size, 0, none⟩) 0 0) 0 [] :=
 ⟨by simp, Or.inr ⟨w.heap.size, 0, 0, [], [], rfl, hB, heap_alloc_new w _, rfl, Nat.le_refl _, by unfold maxLen; omega, by simp⟩⟩
theorem seg_avas {w : World} {B : Nat} {v : Value} {l : List Av} (h : kt.SegX w B 62 2 v l.length (l.flatMap avc)) : ∃ ao cap, v = .slice ao l.length cap ∧ l.length ≤ cap ∧ Avas w ao l := by
 obtain ⟨ao, cap, rfl, hc⟩ := kt.segX_slice h
 refine ⟨ao, cap, rfl, hc, fun i hi => ?_⟩
 obtain ⟨g, o, cap', hv, _, _, hcell⟩ := kt.segX_cell h (by omega)
 simp only [Value.slice.injEq] at hv
 obtain ⟨rfl, _, rfl⟩ := hv
 have hj : ∀ j, j < 2 → (l.flatMap avc)[i * 2 + j]? = (avc l[i])[j]? := fun j hj => kt.flat_get avc 2 (fun _ => rfl) l i j hi hj
 refine ⟨g, o, rfl, ?_, ?_⟩
 ·exact hcell _ _ (hj 0 (by omega))
 ·rw [Nat.add_assoc]; exact hcell _ _ (hj 1 (by omega))
def ClonA (l : List Av) (w : World) (e : Ending) (w' : World) : Prop := ∃ ao cap, e = .returned (.slice ao l.length cap) ∧ l.length ≤ cap ∧ Avas w' ao l ∧ Below w.heap.size w w'
set_option maxRecDepth 20000 in
set_option maxHeartbeats 4000000 in
theorem cloneA_any (ao : Option Addr) (cap : Nat) (l : List Av) (w : World) (hA : Hid (Avas w ao l)) (hl : l.length ≤ 1000000) : Calls Tryz.prog 87 #[.slice ao l.length cap] w fun e w' => ClonA l w e w' := by
 have HRES : Hid (∀ ao' n' cap' w', n' = l.length → n' ≤ cap' → Avas w' ao' l → Below w.heap.size w w' → ClonA l w (.returned (.slice ao' n' cap')) w') := fun ao' n' cap' w' h1 h2 h3 h4 => by
  subst h1
  exact ⟨ao', cap', rfl, h2, h3, h4⟩
 cases ao with
 | none =>
  have h0 : l = [] := by
   cases l with
   | nil => rfl
   | cons a t =>
    obtain ⟨b, o, e, _⟩ := hA.out 0 (by simp)
    cases e
  subst h0
  have hnil : (binOp .eql 22 (.slice none 0 cap) (.slice none 0 0)).run Tryz.prog w = .ok (.bool true) w := Lib.run_eql_slice_nil w 22 62 none 0 cap 0 0 Tryz.underlying22
  go_enter Tryz.func87, Tryz.ntmps87
  go_wp2_with fail
  go_ret
  exact HRES.out none 0 0 _ rfl (Nat.le_refl _) (fun i hi => absurd hi (Nat.not_lt_zero i)) (Below.refl _ _)
 | some p =>
  have hp : l ≠ [] → p = ⟨p.block, p.off, none⟩ := by
   intro hne
   cases l with
   | nil => exact absurd rfl hne
   | cons a t =>
    obtain ⟨b, o, e, _⟩ := hA.out 0 (by simp)
    cases e
    rfl
  have hA0 : Below w.heap.size w (w.alloc (.cells #[] 62)) := (Below.refl _ _).alloc (Nat.le_refl _) _
  obtain ⟨v', w1, hap, hs, hg, _⟩ := kt.segX_append (P := Tryz.prog) (t := 22) (ty := 22) Tryz.underlying22 infoAv rfl (by omega) (w := w.alloc (.cells #[] 62)) (B := w.heap.size) p l.length cap (l.flatMap avc) (avc_len l) (fun j u hj => by
   obtain ⟨i, hi, h⟩ := avc_at hj
   obtain ⟨b, o, e, h1, h2⟩ := dnw.avas_below hA.out hA0 i hi
   have e' : p = ⟨b, o, none⟩ := by simpa using e
   rw [e', Addr.add_mid]
   rcases h with ⟨rfl, rfl⟩ | ⟨rfl, rfl⟩
   ·exact h1
   ·rw [← Nat.add_assoc]; exact h2) (by
    intro u hu
    obtain ⟨j, hj, rfl⟩ := List.mem_iff_getElem.1 hu
    obtain ⟨i, hi, h⟩ := avc_at (List.getElem?_eq_getElem hj)
    rcases h with ⟨_, h⟩ | ⟨_, h⟩ <;> rw [h] <;> rfl) (segX_empty w _ _ _ (Nat.le_refl _)) (by unfold maxLen; omega) (by omega) (by simp)
  rw [Nat.zero_add, List.nil_append] at hs
  obtain ⟨ao', cap', rfl, hc, hav⟩ := seg_avas hs
  have HAP := Lib.hid hap
  have HAV := Lib.hid hav
  have HB := Lib.hid (hA0.trans ((Below.refl _ _).grown hg (by simp) (fun k hk => by simp [Value.ownBlock] at hk; omega)))
  obtain ⟨N, hN⟩ : ∃ N, l.length = N := ⟨_, rfl⟩
  have HN := Lib.hid hN
  rw [hN] at HAP hc ⊢
  clear hap hs hg hav hp hA0 hN
  have hap := HAP.out
  clear HAP
  have hnil : (binOp .eql 22 (.slice (some p) N cap) (.slice none 0 0)).run Tryz.prog w = .ok (.bool false) w := Lib.run_eql_slice_nil w 22 62 (some p) N cap 0 0 Tryz.underlying22
  go_enter Tryz.func87, Tryz.ntmps87
  go_wp2_with (at_builtin; refine Lib.wpList_append_run _ rfl _ _ _ _ rfl _ _ rfl rfl _ _ hap ?_)
  go_ret
  exact HRES.out _ _ _ _ HN.out.symm hc HAV.out HB.out
end etw
end Go.Proofs.YtcolcogobdgejaaGreatDoor
