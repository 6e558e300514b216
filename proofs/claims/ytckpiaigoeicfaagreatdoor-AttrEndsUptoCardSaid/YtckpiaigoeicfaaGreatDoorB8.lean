/- One text out of several: TupW, DPrintW, KeyW, KeysW, PartR, TupR, CmpP, LessW, RKeyW, RKeyX, RKeysW, AttrP, NumP. -/
import Derived.Test.YtckpiaigoeicfaaGreatDoorB3
import Derived.Test.YtckpiaigoeicfaaGreatDoorB7
import Derived.Test.YtckpiaigoeicfaaGreatDoorB6
import Derived.Test.YtckpiaigoeicfaaGreatDoorB5
import Derived.Sort.OwnSorted
import Derived.Lib.Bytealg
import Derived.Test.YtckpiaigoeicfaaGreatDoorB1
import Derived.Test.YtckpiaigoeicfaaGreatDoorRows
import Derived.Deep.QuietTactic
import Derived.BigQuiet
import Derived.Lib.IndexMore
import Derived.Lib.AtoiAll
/-! TupW -/
namespace Go.Proofs.YtckpiaigoeicfaaGreatDoor
open Go.RowKit
namespace tupw
/-- a row of texts lies at a slice -/
def Strs (w : World) (ao : Option Addr) (l : List ByteArray) : Prop := ∀ (i : Nat) (h : i < l.length), ∃ b o, ao = some ⟨b, o, none⟩ ∧ w.cell? ⟨b, o + i, none⟩ = some (.string l[i])
theorem strs_below {w w' : World} {ao : Option Addr} {l : List ByteArray} (h : Strs w ao l) (hb : Below w.heap.size w w') : Strs w' ao l := by
  intro i hi
  obtain ⟨b, o, e, hc⟩ := h i hi
  exact ⟨b, o, e, (hb.cell (World.block_lt_of_cell? w _ hc)).trans hc⟩
theorem is_below {B b : Nat} {l : List UInt8} {w w' : World} (h : bld.Is B b l w) (hb : Below w.heap.size w w') : bld.Is B b l w' := by
  rcases h with h | h
  · obtain ⟨hB, v, hk, ho, hn⟩ := h
    exact Or.inl ⟨hB, v, (hb.block b (bld.lt_of_heap hk)).trans hk, kt.row_below ho hb, hn⟩
  · obtain ⟨hB, v, hk, ho, hn⟩ := h
    exact Or.inr ⟨hB, v, (hb.block b (bld.lt_of_heap hk)).trans hk, kt.row_below ho hb, hn⟩
def tupV (r : ByteArray × Int) : Value := .tuple #[.string r.1, .int .i64 r.2]

set_option maxHeartbeats 1100000 in
theorem tuple_any (ao : Option Addr) (cap : Nat) (l : List ByteArray) (w : World) (hE : Hid (trm.Env w)) (hl : Hid (Strs w ao l)) :
    Calls Tryz.prog 126 #[.slice ao l.length cap] w fun e w' => e = .returned (tupV (tup.out l)) ∧ Below w.heap.size w w' := by
  by_cases c16 : 16 < l.length
  · have hp : tup.out l = (⟨#[]⟩, 1) := by unfold tup.out; rw [if_pos c16]
    have HP := Lib.hid hp
    clear hp
    have c16' : 16 < (l.length : Int) := by omega
    go_enter Tryz.func126, Tryz.ntmps126
    go_wp2_with fail
    go_ret2
    exact ⟨by rw [HP.out]; rfl, Below.refl _ _⟩
  · have c16' : ¬ 16 < (l.length : Int) := by omega
    go_enter Tryz.func126, Tryz.ntmps126
    go_wp2_with fail
    go_loopw [12] (fun iv wr => ∃ i : Nat, i ≤ l.length ∧ iv = .int .i64 i ∧ Hid (∀ p ∈ l.take i, p.size ≤ 4096) ∧ Hid (bld.Is w.heap.size w.heap.size (tup.bytes (l.take i)) wr) ∧ Below w.heap.size w wr) (fun iv _ => l.length - (intOf iv).toNat)
    case atStart => exact ⟨0, Nat.zero_le _, rfl, fun p hp => by simp at hp, bld.fresh w, (Below.refl _ _).alloc (Nat.le_refl _) _⟩
    case round =>
      obtain ⟨i, hi, rfl, hsm, hI, hB⟩ := hrel
      have hsz := hB.size
      by_cases hil : i < l.length
      · obtain ⟨b, o, hao, hc0⟩ := hl.out i hil
        have hc := (hB.cell (World.block_lt_of_cell? w _ hc0)).trans hc0
        clear hc0
        obtain ⟨p, hp⟩ : ∃ p : ByteArray, Hid (p = l[i]) := ⟨l[i], rfl⟩
        rw [← hp.out] at hc
        subst hao
        by_cases cp : 4096 < p.size
        · have hbig : tup.out l = (⟨#[]⟩, 5) := by
            have := tup.bytes_mem (l := l) (p := l[i]) (List.getElem_mem hil)
            rw [← hp.out] at this
            unfold tup.out
            rw [if_neg c16, if_pos (by omega)]
          have HP := Lib.hid hbig
          clear hbig
          have cp' : 4096 < (p.size : Int) := by omega
          go_wp2_with fail
          go_ret2
          exact ⟨by rw [HP.out]; rfl, hB⟩
        · have cp' : ¬ 4096 < (p.size : Int) := by omega
          obtain ⟨⟨m, hm⟩, _⟩ := trm.env_below hE.out hB
          have hcl := Lib.count_le p.data.toList [0]
          have C := Tryz.strings_ReplaceAll p ⟨#[0]⟩ ⟨#[0, 255]⟩ m wr (by omega) hm (by decide) (by
            have : Lib.countB p ⟨#[0]⟩ ≤ p.size + 1 := by simpa [Lib.countB] using hcl
            show p.size + Lib.countB p ⟨#[0]⟩ * 2 ≤ _
            omega)
          rw [show (Lib.replaceAll p.data.toList (ByteArray.mk #[0]).data.toList (ByteArray.mk #[0, 255]).data.toList) = tup.esc p.data.toList from tup.replace_esc _] at C
          obtain ⟨q, hq⟩ : ∃ q : ByteArray, Hid (q = ⟨(tup.esc p.data.toList).toArray⟩) := ⟨_, rfl⟩
          rw [← hq.out] at C
          have hqs : q.size ≤ 8192 := by
            have := (tup.esc_length p.data.toList).2
            rw [kt.size_len] at this
            have h2 : q.size = (tup.esc p.data.toList).length := by rw [hq.out]; rfl
            omega
          have HC := Lib.hid C
          clear C hcl hm
          have hbl : (tup.bytes (l.take i)).length ≤ 131104 := by
            have := tup.bytes_small hsm.out
            rw [List.length_take] at this
            omega
          go_wp2_with fail
          refine HC.out.mono ?_
          rintro e w1 ⟨rfl, hB1⟩
          have hI1 := is_below hI.out hB1
          have W1 := Lib.hid (bld.writeString_any _ _ _ q w1 hI1 (by omega) (Nat.le_trans hsz hB1.size))
          clear hI1
          go_wp2_with fail
          refine W1.out.mono ?_
          rintro e w2 ⟨rfl, hI2, hB2⟩
          have hs2 : w.heap.size ≤ w2.heap.size := Nat.le_trans (Nat.le_trans hsz hB1.size) hB2.size
          have hqd : q.data.toList = tup.esc p.data.toList := by rw [hq.out]
          have W2 := Lib.hid (bld.writeString_any _ _ _ ⟨#[0, 1]⟩ w2 hI2 (by rw [List.length_append, kt.size_len]; show _ + 2 ≤ _; omega) hs2)
          clear hI2
          go_wp2_with fail
          refine W2.out.mono ?_
          rintro e w3 ⟨rfl, hI3, hB3⟩
          have hI3' := Lib.hid hI3
          clear hI3
          have ht : tup.bytes (l.take (i + 1)) = tup.bytes (l.take i) ++ q.data.toList ++ [0, 1] := by
            rw [List.take_succ_eq_append_getElem hil, tup.bytes_append, hqd, ← hp.out]
            simp [tup.bytes]
          have HT := Lib.hid ht
          have HS : Hid (∀ p ∈ l.take (i + 1), p.size ≤ 4096) := by
            rw [List.take_succ_eq_append_getElem hil]
            intro r hr
            rcases List.mem_append.1 hr with h | h
            · exact hsm.out r h
            · rw [List.mem_singleton.1 h, ← hp.out]; omega
          clear ht hqd
          go_wp2_with fail
          go_roundw
          case rel => exact ⟨i + 1, by omega, by go_num, HS, by rw [HT.out]; exact hI3'.out, ((hB.trans (hB1.mono hsz)).trans hB2).trans hB3⟩
          case measure => simp [intOf]; omega
      · obtain rfl : i = l.length := by omega
        have hI' := hI
        have hsm' := hsm.out
        rw [List.take_of_length_le (Nat.le_refl _)] at hI' hsm'
        have hbl := tup.bytes_small hsm'
        clear hsm hsm' hI
        have hL := (Tryz.Builder_Len _ _ _ wr hI'.out)
        rw [Lib.byteCells_length] at hL
        have HL := Lib.hid hL
        clear hL
        have hil' : ¬ (l.length : Int) < (l.length : Int) := by omega
        go_wp2_with fail
        refine HL.out.mono ?_
        rintro e w1 ⟨rfl, rfl⟩
        by_cases hb : 4096 < (tup.bytes l).length
        · have hp : tup.out l = (⟨#[]⟩, 5) := by unfold tup.out; rw [if_neg c16, if_pos hb]
          have HP := Lib.hid hp
          have hb' : 4096 < ((tup.bytes l).length : Int) := by omega
          clear hp hb
          go_wp2_with fail
          go_ret2
          exact ⟨by rw [HP.out]; rfl, hB⟩
        · have hp : tup.out l = (⟨(tup.bytes l).toArray⟩, 0) := by unfold tup.out; rw [if_neg c16, if_neg hb]
          have HP := Lib.hid hp
          have hb' : ¬ 4096 < ((tup.bytes l).length : Int) := by omega
          clear hp hb
          have HSt := Lib.hid (Tryz.Builder_String_any _ _ _ w1 hI'.out hsz)
          go_wp2_with fail
          refine HSt.out.mono ?_
          rintro e w2 ⟨rfl, hB2⟩
          go_wp2_with fail
          go_ret2
          exact ⟨by rw [HP.out]; rfl, hB.trans hB2⟩
end tupw
end Go.Proofs.YtckpiaigoeicfaaGreatDoor
/-! DPrintW -/
namespace Go.Proofs.YtckpiaigoeicfaaGreatDoor
open Go.RowKit
namespace dnw
open dnp
set_option linter.unusedVariables false
set_option linter.unusedSimpArgs false
theorem joinT {w : World} {B : Nat} {v : Value} {l : List ByteArray} (h : prw.OwnT w B v l) (sep : ByteArray) (hl : l.length ≤ 100000000) (hlen : (Lib.join (l.map (·.data.toList)) sep.data.toList).length ≤ 140737488355328) :
    Calls Tryz.prog 71 #[v, .string sep] w fun e w' => e = .returned (.string ⟨(Lib.join (l.map (·.data.toList)) sep.data.toList).toArray⟩) ∧ Below w.heap.size w w' := by
  obtain ⟨ao, cap, rfl, hcap, hcs⟩ := prw.ownT_cells h
  by_cases hne : l = []
  · subst hne
    refine (Tryz.strings_Join_none ao cap sep w).mono ?_
    rintro e w' ⟨rfl, h2⟩
    refine ⟨rfl, ?_⟩
    first
      | (rw [h2]; exact Below.refl _ _)
      | (rw [← h2]; exact Below.refl _ _)
  · obtain ⟨g, rfl, hg, hcc⟩ := hcs hne
    exact Tryz.strings_Join g 0 cap l sep w hcc hg (by omega) hcap hlen
def bytes (l : List UInt8) : ByteArray := ⟨l.toArray⟩
theorem bytes_data (l : List UInt8) : (bytes l).data.toList = l := rfl
/-- what Print leaves -/
def PrintE (n : List (List Av)) (e : Ending) : Prop := e = .returned (.tuple #[.string (bytes (printR n).1), .int .i64 (printR n).2])
theorem printE_no {n : List (List Av)} (h : nameOK n = false) : PrintE n (.returned (.tuple #[.string ⟨#[]⟩, .int .i64 4])) := by
  unfold PrintE printR
  rw [h]; rfl
theorem printE_long {n : List (List Av)} (h : nameOK n = true) (h2 : 1000 < (nameX n).length) : PrintE n (.returned (.tuple #[.string ⟨#[]⟩, .int .i64 5])) := by
  unfold PrintE printR
  rw [if_pos h, if_pos h2]; rfl
theorem printE_ok {n : List (List Av)} (h : nameOK n = true) (h2 : ¬ 1000 < (nameX n).length) : PrintE n (.returned (.tuple #[.string (bytes (nameX n)), .int .i64 0])) := by
  unfold PrintE printR
  rw [if_pos h, if_neg h2]; rfl
theorem ownT_below {w w' : World} {B : Nat} {v : Value} {l : List ByteArray} (h : prw.OwnT w B v l) (hb : Below w.heap.size w w') : prw.OwnT w' B v l := kt.row_below h hb
theorem ownT_appG {w : World} {B : Nat} {v : Value} {l : List ByteArray} (x : ByteArray) (hown : prw.OwnT w B v l) (hl : l.length ≤ 100000000) (hbase : B ≤ w.heap.size) :
    ∃ ao m cap w1, (Builtin.append_ #[31, 31] 31 #[v, .slice (some ⟨w.heap.size, 0, none⟩) 1 1]).run Tryz.prog (w.alloc (.cells #[.string x] 9)) = .ok (.slice ao m cap) w1 ∧ prw.OwnT w1 B (.slice ao m cap) (l ++ [x]) ∧ w.grownBy w1 v.ownBlock ∧ Below B w w1 := by
  obtain ⟨v', w1, h1, h2, h4, h3⟩ := kt.app1 (P := Tryz.prog) (t := 31) (ty := 31) Tryz.underlying31 prw.infoStr rfl (.string x) rfl hown (by rw [prw.scells_length]; unfold maxLen; omega) (by rw [prw.scells_length]; omega) hbase
  have h2' : prw.OwnT w1 B v' (l ++ [x]) := by
    unfold prw.OwnT
    have e : prw.scells (l ++ [x]) = prw.scells l ++ [.string x] := by simp [prw.scells]
    rw [e]
    exact h2
  obtain ⟨ao, cap, rfl, _, _⟩ := prw.ownT_cells h2'
  exact ⟨ao, _, cap, w1, h1, h2', h4, h3⟩
theorem cat_ptx (x : Av) : (x.t ++ (⟨#[61]⟩ : ByteArray)) ++ (⟨(textL x.v.data.toList).toArray⟩ : ByteArray) = bytes (ptx x) := by
  apply kt.str_eq
  rw [ByteArray.data_append, ByteArray.data_append, bytes_data]
  simp [ptx]
theorem ownT_form {w : World} {B : Nat} {v : Value} {l : List ByteArray} (h : prw.OwnT w B v l) : ∃ (ao : Option Addr) (m cap : Nat), v = .slice ao m cap ∧ Hid (m = l.length) := by
  obtain ⟨ao, cap, rfl, _, _⟩ := prw.ownT_cells h
  exact ⟨ao, _, cap, rfl, rfl⟩
theorem takeMap_step {α : Type} (f : α → ByteArray) (l : List α) (i : Nat) (hi : i < l.length) : (l.take (i + 1)).map f = (l.take i).map f ++ [f l[i]] := by
  rw [List.take_succ_eq_append_getElem hi, List.map_append]; rfl
theorem join_map (f : Av → List UInt8) (l : List Av) : (l.map fun a => bytes (f a)).map (·.data.toList) = l.map f := by
  rw [List.map_map]; rfl
end dnw
end Go.Proofs.YtckpiaigoeicfaaGreatDoor
/-! KeyW -/
namespace Go.Proofs.YtckpiaigoeicfaaGreatDoor
open Go.RowKit
namespace dnw
open dnp
set_option linter.unusedVariables false
set_option linter.unusedSimpArgs false
theorem trmEnv {w : World} (hE : prw.Env w) (hT : Tabs w) : trm.Env w := ⟨hE, hT⟩
theorem scells_enc (l : List ByteArray) : prw.scells l = (l.map (·.data.toList)).map encStr := by
  unfold prw.scells
  rw [List.map_map]
  rfl
theorem sortT {w : World} {B : Nat} {ao : Option Addr} {m cap : Nat} {l : List ByteArray} (h : prw.OwnT w B (.slice ao m cap) l) (hl : l.length ≤ 1100000) (hB : B ≤ w.heap.size) :
    Calls Tryz.prog 127 #[.slice ao m cap] w fun e w' => e = .returned (.tuple #[]) ∧ prw.OwnT w' B (.slice ao m cap) ((sortL (l.map (·.data.toList))).map bytes) ∧ Below B w w' := by
  obtain ⟨ss, hss⟩ : ∃ ss, ss = l.map (·.data.toList) := ⟨_, rfl⟩
  have hsl : ss.length = l.length := by rw [hss]; simp
  have hm : m = l.length := by
    obtain ⟨ao', cap', hv, _, _⟩ := prw.ownT_cells h
    simp only [Value.slice.injEq] at hv
    exact hv.2.1
  subst hm
  have hrow : w.ownsRow B 9 1 (.slice ao l.length cap) ss.length (ss.map encStr) := by
    have h1 : w.ownsRow B 9 1 (.slice ao l.length cap) (prw.scells l).length (prw.scells l) := h
    rw [scells_enc, ← hss, List.length_map] at h1
    exact h1
  have hsort : ((sortL ss).map bytes).map (·.data.toList) = sortL ss := by
    rw [List.map_map]
    conv => rhs; rw [← List.map_id (sortL ss)]
    apply List.map_congr_left
    intro x _
    rfl
  have hsn : (sortL ss).length = ss.length := by unfold sortL; simp
  rw [← hss]
  rcases hrow.2 with ⟨hv, h0⟩ | ⟨g, cap', cur, hv, hBg, hg, h1, h2, h3, h4⟩
  · simp only [Value.slice.injEq] at hv
    obtain ⟨rfl, hl0, rfl⟩ := hv
    have hs0 : ss = [] := List.eq_nil_of_length_eq_zero h0
    rw [hl0]
    refine (Tryz.slices_Sort_string_none none 0 w).mono ?_
    rintro e w' ⟨rfl, h2⟩
    have h2 : w' = w := by first | exact h2 | exact h2.symm
    subst h2
    refine ⟨rfl, ?_, Below.refl _ _⟩
    rw [hs0]
    have hn : sortL [] = [] := by unfold sortL; simp
    rw [hn]
    exact World.ownsRow_nil w' B _ _
  · simp only [Value.slice.injEq] at hv
    obtain ⟨rfl, _, rfl⟩ := hv
    rw [Nat.mul_one] at h4
    have hH := holds_of_block hg h4
    have CS := Tryz.slices_Sort_string g 0 cap ss w hH (bld.lt_of_heap hg) (by omega)
    rw [hsl] at CS
    refine CS.mono ?_
    rintro e w' ⟨rfl, n, os, rfl⟩
    have ho := ownsRow_sorted (n := n) (os := os) (ts := sortL ss) hsn hBg hg h1 h2 h3
    refine ⟨rfl, ?_, (Below.refl B w).grown (grownBy_sorted _) hB (fun k hk => by cases hk; exact hBg)⟩
    unfold prw.OwnT
    rw [scells_enc, hsort, List.length_map, hsn]
    rw [hsl] at ho ⊢
    exact ho
/-- what Tuple's part is, of a pair -/
theorem part_any (x : Av) (R : ByteArray) (hR : R = ⟨(rv x.v.data.toList).toArray⟩) (ao : Option Addr) (cap : Nat) (w : World) (hE : Hid (trm.Env w)) (hS : Hid (tupw.Strs w ao [x.t, R])) :
    Calls Tryz.prog 126 #[.slice ao 2 cap] w fun e w' => (∃ er : Int, e = .returned (.tuple #[.string (partB x), .int .i64 er])) ∧ Below w.heap.size w w' := by
  refine (tupw.tuple_any ao cap [x.t, R] w hE hS).mono ?_
  rintro e w' ⟨rfl, hb⟩
  exact ⟨⟨(tup.out [x.t, R]).2, by unfold tupw.tupV partB; rw [hR]⟩, hb⟩
set_option maxRecDepth 20000 in
set_option maxHeartbeats 4000000 in
theorem key_any (ao : Option Addr) (cap : Nat) (l : List Av) (w : World) (hA : Hid (Avas w ao l)) (hE : Hid (prw.Env w)) (hT : Hid (Tabs w)) (hok : rdnOK l = true) :
    Calls Tryz.prog 100 #[.slice ao l.length cap] w fun e w' => e = .returned (.string (bytes (keyL l))) ∧ Below w.heap.size w w' := by
  have h4 := (rdnOK_facts hok).2.1
  have HX := Lib.hid (rdnOK_av hok)
  obtain ⟨m, hm⟩ : ∃ m, m = l.length := ⟨_, rfl⟩
  have HM := Lib.hid hm
  rw [← hm] at h4 ⊢
  clear hm hok
  go_enter Tryz.func100, Tryz.ntmps100
  go_wp2_with fail
  go_loopw [3, 5, 6, 7, 8, 9, 12] (fun pv _ _ _ _ _ iv wr => ∃ (i : Nat), i ≤ m ∧ iv = .int .i64 (i : Int) ∧ Hid (prw.OwnT wr w.heap.size pv ((l.take i).map partB)) ∧ Below w.heap.size w wr) (fun _ _ _ _ _ _ iv _ => m - (intOf iv).toNat)
  case atStart => exact ⟨0, Nat.zero_le _, rfl, World.ownsRow_nil _ _ _ _, Below.refl _ _⟩
  case round =>
    obtain ⟨i, hi, rfl, hO, hB⟩ := hrel
    have hsz := hB.size
    obtain ⟨aoR, mR, capR, rfl, hmR⟩ := ownT_form hO.out
    by_cases hlt : i < m
    · have hlt' : (i : Int) < (m : Int) := by omega
      have hil : i < l.length := by rw [← HM.out]; exact hlt
      obtain ⟨b, o, hao, c0, c1⟩ := (avas_below hA.out hB) i hil
      subst hao
      have HST := takeMap_step partB l i hil
      have hxx := HX.out l[i] (List.getElem_mem hil)
      generalize l[i] = x at c0 c1 HST hxx
      obtain ⟨R, hR⟩ : ∃ R : ByteArray, R = ⟨(rv x.v.data.toList).toArray⟩ := ⟨_, rfl⟩
      have hvs : x.v.size ≤ 1100000 := by have := valOK_le hxx.2; rw [kt.size_len] at this; omega
      have HRD : Hid (∀ W, Below w.heap.size w W → Calls Tryz.prog 67 #[.string x.v, .bool true] W fun e w' => e = .returned (.tuple #[.string R, .int .i64 0]) ∧ Below W.heap.size W w') := by
        intro W hb
        have := prw.ready_any x.v true W hvs (Lib.hid (prw.env_below hE.out hb))
        rw [rv_ok hxx.2] at this
        rw [hR]
        exact this
      have HST := Lib.hid HST
      have HRe := Lib.hid hR
      obtain ⟨w5, hw5⟩ : ∃ w5, w5 = wr.alloc (.cells #[.string x.t, .string x.v] 96) := ⟨_, rfl⟩
      have e0 : w5.cell? ⟨wr.heap.size, 0, none⟩ = some (.string x.t) := by rw [hw5, World.cell?_alloc_new]; rfl
      have HB5 : Hid (Below w.heap.size w w5) := by
        show Below _ _ _
        rw [hw5]
        exact hB.alloc hsz _
      have HO5 : Hid (prw.OwnT w5 w.heap.size (.slice aoR mR capR) ((l.take i).map partB)) := by
        show prw.OwnT _ _ _ _
        rw [hw5]
        exact ownT_below hO.out ((Below.refl _ _).alloc (Nat.le_refl _) _)
      have HE0 := Lib.hid e0
      have hRD := HRD.out w5 HB5.out
      rw [hw5] at hRD
      have HW5 := Lib.hid hw5
      have HRD2 := Lib.hid hRD
      clear hR hvs hxx hw5 e0 hRD
      go_wp2_with fail
      refine HRD2.out.mono ?_
      rintro e w6 ⟨rfl, hB6⟩
      rw [← HW5.out] at hB6
      have hlt5 := World.block_lt_of_cell? w5 _ HE0.out
      have e6 := (hB6.cell hlt5).trans HE0.out
      have HB6 := Lib.hid (HB5.out.trans (hB6.mono HB5.out.size))
      have HO6 := Lib.hid (ownT_below HO5.out hB6)
      have HP := Lib.hid (part_any x R HRe.out (some ⟨w6.heap.size, 0, none⟩) 2 (w6.alloc (.cells #[.string x.t, .string R] 9)) (Lib.hid (trmEnv (prw.env_below hE.out (HB6.out.alloc HB6.out.size _)) (tabs_below hT.out (HB6.out.alloc HB6.out.size _)))) (Lib.hid (by
        intro j hj
        refine ⟨_, 0, rfl, ?_⟩
        rw [World.cell?_alloc_new]
        match j, hj with
        | 0, _ => rfl
        | 1, _ => rfl)))
      clear hB6 HRD2
      go_wp2_with fail
      refine HP.out.mono ?_
      rintro e w7 ⟨⟨er, rfl⟩, hB7⟩
      have hB67 : Below w6.heap.size w6 w7 := ((Below.refl w6.heap.size w6).alloc (Nat.le_refl _) _).trans (hB7.mono (by simp))
      have HB7 := Lib.hid (HB6.out.trans (hB67.mono HB6.out.size))
      obtain ⟨ao7, m7, cap7, w8, hap, hO8, _, hB8⟩ := ownT_appG (partB x) (ownT_below HO6.out hB67) (by rw [List.length_map, List.length_take]; omega) HB7.out.size
      have HO8 : Hid (prw.OwnT w8 w.heap.size (.slice ao7 m7 cap7) ((l.take (i + 1)).map partB)) := by
        show prw.OwnT _ _ _ _
        rw [HST.out]
        exact hO8
      have HB8 := Lib.hid (HB7.out.trans hB8)
      clear hB7 hB67 hO8 hB8 HP e6
      go_wp2_with (at_builtin; refine Lib.wpList_append_run _ rfl _ _ _ _ rfl _ _ rfl rfl _ _ hap ?_)
      go_roundw
      case rel => exact ⟨i + 1, by omega, by go_num, HO8, HB8.out⟩
      case measure => simp [intOf] <;> omega
    · obtain rfl : i = m := by omega
      have hO1 := hO.out
      rw [HM.out, List.take_length] at hO1
      have hll : (l.map partB).length ≤ 1100000 := by rw [List.length_map, ← HM.out]; omega
      have CS := Lib.hid (sortT hO1 hll hsz)
      have e1 : ((l.map partB).map (·.data.toList)) = partsL l := by rw [List.map_map]; rfl
      have hkl := keyL_len l
      clear hO1 hll
      go_wp2_with fail
      refine CS.out.mono ?_
      rintro e w2 ⟨rfl, hO2, hB2⟩
      rw [e1] at hO2
      have e2 : ((sortL (partsL l)).map bytes).map (·.data.toList) = sortL (partsL l) := by
        rw [List.map_map]
        conv => rhs; rw [← List.map_id (sortL (partsL l))]
        apply List.map_congr_left
        intro x _
        rfl
      have CJ := joinT hO2 ⟨#[]⟩ (by rw [List.length_map]; unfold sortL partsL; simp; rw [← HM.out]; omega) (by rw [e2]; show (Lib.join _ []).length ≤ _; rw [join_flat]; show (keyL l).length ≤ _; rw [← HM.out] at hkl; omega)
      rw [e2] at CJ
      have CJ' : Calls Tryz.prog 71 #[.slice aoR mR capR, .string ⟨#[]⟩] w2 fun e w' => e = .returned (.string (bytes (keyL l))) ∧ Below w2.heap.size w2 w' := by
        refine CJ.mono fun e w' h => ⟨?_, h.2⟩
        rw [h.1]
        show _ = Ending.returned (.string ⟨(keyL l).toArray⟩)
        have : Lib.join (sortL (partsL l)) (⟨#[]⟩ : ByteArray).data.toList = keyL l := join_flat _
        rw [this]
      have HJ := Lib.hid CJ'
      have HB2 := Lib.hid (hB.trans hB2)
      clear CJ CJ' e1 e2 hkl CS hB2 hO2
      go_wp2_with fail
      refine HJ.out.mono ?_
      rintro e w3 ⟨rfl, hB3⟩
      go_wp2_with fail
      go_ret
      exact ⟨rfl, HB2.out.trans (hB3.mono HB2.out.size)⟩
end dnw
end Go.Proofs.YtckpiaigoeicfaaGreatDoor
/-! KeysW -/
namespace Go.Proofs.YtckpiaigoeicfaaGreatDoor
open Go.RowKit
namespace dnw
open dnp
set_option linter.unusedVariables false
set_option linter.unusedSimpArgs false
/-- what Keys leaves -/
def KeysE (n : List (List Av)) (w : World) (e : Ending) (w' : World) : Prop :=
  Below w.heap.size w w' ∧ if nameOK n = true then ∃ ao cap, e = .returned (.tuple #[.slice ao n.length cap, .int .i64 0]) ∧ n.length ≤ cap ∧ tupw.Strs w' ao (keysB n) else e = .returned (.tuple #[.slice none 0 0, .int .i64 4])
theorem ownT_strs {w : World} {B : Nat} {ao : Option Addr} {m cap : Nat} {l : List ByteArray} (h : prw.OwnT w B (.slice ao m cap) l) : tupw.Strs w ao l ∧ m = l.length ∧ m ≤ cap := by
  obtain ⟨ao', cap', hv, hc, hcs⟩ := prw.ownT_cells h
  simp only [Value.slice.injEq] at hv
  obtain ⟨rfl, rfl, rfl⟩ := hv
  refine ⟨fun i hi => ?_, rfl, hc⟩
  obtain ⟨g, hg, _, hcell⟩ := hcs (by intro e; rw [e] at hi; simp at hi)
  exact ⟨g, 0, hg, hcell i _ (List.getElem?_eq_getElem hi)⟩
theorem revTake_step (n : List (List Av)) (i : Nat) (hi : i < n.length) : (n.reverse.take (i + 1)).map (fun l => bytes (keyL l)) = (n.reverse.take i).map (fun l => bytes (keyL l)) ++ [bytes (keyL (n[n.length - 1 - i]'(by omega)))] := by
  rw [List.take_succ_eq_append_getElem (by simpa using hi), List.map_append]
  simp only [List.getElem_reverse]
  rfl
set_option maxRecDepth 20000 in
set_option maxHeartbeats 4000000 in
theorem keys_any (ao : Option Addr) (cap : Nat) (n : List (List Av)) (w : World) (hA : Hid (Rdns w ao n)) (hE : Hid (prw.Env w)) (hT : Hid (Tabs w)) (hS : Hid (∀ l ∈ n, l.length ≤ 4 → Smalls l)) :
    Calls Tryz.prog 70 #[.slice ao n.length cap] w fun e w' => KeysE n w e w' := by
  have CR := right_any ao cap n w hA hE hS
  obtain ⟨m, hm⟩ : ∃ m, m = n.length := ⟨_, rfl⟩
  have HM := Lib.hid hm
  rw [← hm] at CR ⊢
  clear hm
  cases hok : nameOK n with
  | false =>
    rw [hok] at CR
    have HC := Lib.hid CR
    have HOK := Lib.hid hok
    clear CR hok
    go_enter Tryz.func70, Tryz.ntmps70
    go_wp2_with fail
    refine HC.out.mono ?_
    rintro e w1 ⟨rfl, hB1⟩
    go_wp2_with fail
    go_ret2
    refine ⟨hB1, ?_⟩
    rw [if_neg (by rw [HOK.out]; simp)]
    rfl
  | true =>
    rw [hok] at CR
    have HC := Lib.hid CR
    have HOK := Lib.hid hok
    have hf := nameOK_facts hok
    have hm12 : m ≤ 12 := by rw [HM.out]; exact hf.1
    have HL := Lib.hid hf.2
    clear CR hok hf
    go_enter Tryz.func70, Tryz.ntmps70
    go_wp2_with fail
    refine HC.out.mono ?_
    rintro e w1 ⟨rfl, hB1⟩
    have HB1 := Lib.hid hB1
    have hsz1 := hB1.size
    clear hB1 HC
    go_wp2_with fail
    go_loopw [4, 5, 11] (fun rv _ iv wr => ∃ (i : Nat), i ≤ m ∧ iv = .int .i64 (i : Int) ∧ Hid (prw.OwnT wr w1.heap.size rv ((n.reverse.take i).map fun l => bytes (keyL l))) ∧ Below w1.heap.size w1 wr) (fun _ _ iv _ => m - (intOf iv).toNat)
    case atStart => exact ⟨0, Nat.zero_le _, rfl, World.ownsRow_nil _ _ _ _, Below.refl _ _⟩
    case round =>
      obtain ⟨i, hi, rfl, hO, hB⟩ := hrel
      have hsz := hB.size
      obtain ⟨aoR, mR, capR, rfl, hmR⟩ := ownT_form hO.out
      by_cases hlt : i < m
      · have hlt' : (i : Int) < (m : Int) := by omega
        have hil : i < n.length := by rw [← HM.out]; exact hlt
        have HBT := Lib.hid (HB1.out.trans (hB.mono hsz1))
        obtain ⟨j, hj⟩ : ∃ j, j = m - 1 - i := ⟨_, rfl⟩
        have hjl : j < n.length := by rw [← HM.out]; omega
        have hjm : (j : Int) < (m : Int) := by omega
        have hj0 : (0 : Int) ≤ (j : Int) := by omega
        have ej : (m : Int) - 1 - (i : Int) = (j : Int) := by omega
        have w1e : IntKind.i64.wrap ((m : Int) - 1) = (m : Int) - 1 := IntWalk.i64_in _ (by omega)
        have w2e : IntKind.i64.wrap ((m : Int) - 1 - (i : Int)) = (j : Int) := by rw [ej]; exact IntWalk.i64_in _ (by omega)
        have HST := revTake_step n i hil
        have hje : n.length - 1 - i = j := by rw [← HM.out]; exact hj.symm
        have HST2 : (n.reverse.take (i + 1)).map (fun l => bytes (keyL l)) = (n.reverse.take i).map (fun l => bytes (keyL l)) ++ [bytes (keyL n[j])] := by
          rw [HST]
          congr 4
          simp only [hje]
        obtain ⟨b, o, ao', cap', hao, hc0, hcc, hAv⟩ := (rdns_below hA.out HBT.out) j hjl
        subst hao
        have hro := HL.out n[j] (List.getElem_mem hjl)
        have CK := key_any ao' cap' n[j] wr (Lib.hid hAv) (Lib.hid (prw.env_below hE.out HBT.out)) (Lib.hid (tabs_below hT.out HBT.out)) hro
        have hst := Lib.hid HST2
        generalize n[j] = l at hc0 CK hst
        obtain ⟨p, hp⟩ : ∃ p, p = l.length := ⟨_, rfl⟩
        rw [← hp] at hc0 CK
        have HCK := Lib.hid CK
        clear CK HST HST2 hje hro hAv hcc hp hj
        go_wp2_with fail
        refine HCK.out.mono ?_
        rintro e w2 ⟨rfl, hB2⟩
        obtain ⟨ao7, m7, cap7, w8, hap, hO8, _, hB8⟩ := ownT_appG (bytes (keyL l)) (ownT_below hO.out hB2) (by rw [List.length_map, List.length_take, List.length_reverse]; omega) (Nat.le_trans hsz hB2.size)
        have HO8 : Hid (prw.OwnT w8 w1.heap.size (.slice ao7 m7 cap7) ((n.reverse.take (i + 1)).map fun l => bytes (keyL l))) := by
          show prw.OwnT _ _ _ _
          rw [hst.out]
          exact hO8
        have HB8 := Lib.hid ((hB.trans (hB2.mono hsz)).trans hB8)
        clear hO8 hB8 hB2 HCK hst
        generalize bytes (keyL l) = KB at hap ⊢
        go_wp2_with (at_builtin; refine Lib.wpList_append_run _ rfl _ _ _ _ rfl _ _ rfl rfl _ _ hap ?_)
        go_roundw
        case rel => exact ⟨i + 1, by omega, by go_num, HO8, HB8.out⟩
        case measure => simp [intOf] <;> omega
      · obtain rfl : i = m := by omega
        have hO1 := hO.out
        rw [HM.out, List.take_of_length_le (by rw [List.length_reverse]; exact Nat.le_refl _)] at hO1
        obtain ⟨hst, hml, hmc⟩ := ownT_strs hO1
        rw [List.length_map, List.length_reverse] at hml
        have HST := Lib.hid hst
        have HML := Lib.hid hml
        clear hO1 hst hml
        go_wp2_with fail
        go_ret2
        refine ⟨HB1.out.trans (hB.mono hsz1), ?_⟩
        rw [if_pos HOK.out]
        have h1 := HML.out
        subst h1
        exact ⟨aoR, capR, rfl, hmc, HST.out⟩
end dnw
end Go.Proofs.YtckpiaigoeicfaaGreatDoor
/-! PartR -/
namespace Go.Proofs.YtckpiaigoeicfaaGreatDoor
open Go.RowKit
namespace tup
theorem esc_append (a b : List UInt8) : esc (a ++ b) = esc a ++ esc b := by
  induction a with
  | nil => rfl
  | cons c a ih =>
    show esc (c :: (a ++ b)) = _
    simp only [esc, ih]
    split <;> simp
end tup
namespace prt
open tupw
def OwnB (w : World) (B : Nat) (v : Value) (l : List UInt8) : Prop := w.ownsRow B 5 1 v (Lib.byteCells l).length (Lib.byteCells l)
theorem ownb_app {w : World} {B : Nat} {v : Value} {l : List UInt8} (h : OwnB w B v l) (x : UInt8) (hl : l.length ≤ 1100000) (hB : B ≤ w.heap.size) :
    ∃ v' w1, (Builtin.append_ #[82, 82] 82 #[v, .slice (some ⟨w.heap.size, 0, none⟩) 1 1]).run Tryz.prog (w.alloc (.cells #[.int .u8 (x.toNat : Int)] 5)) = .ok v' w1 ∧ OwnB w1 B v' (l ++ [x]) ∧ w.grownBy w1 v.ownBlock ∧ Below B w w1 := by
  obtain ⟨v', w1, h1, h2, h3, h4⟩ := kt.app1 (P := Tryz.prog) (ty := 82) (w := w) Tryz.underlying82 bld.infoByte rfl (.int .u8 (x.toNat : Int)) rfl h (by rw [Lib.byteCells_length]; unfold maxLen; omega) (by rw [Lib.byteCells_length]; omega) hB
  refine ⟨v', w1, h1, ?_, h3, h4⟩
  unfold OwnB
  rw [Lib.byteCells_append]
  exact h2
theorem ownb_new (w : World) (B : Nat) (hB : B ≤ w.heap.size) : OwnB (w.alloc (.cells #[] 5)) B (.slice (some ⟨w.heap.size, 0, none⟩) 0 0) [] :=
  World.ownsRow_made w #[] 0 hB (by unfold maxLen; omega) rfl
end prt
namespace fldw
theorem infoByte : (Tryz.prog.info? 5).map (fun i => (i.zero, i.size, i.bytes)) = some (some (.int .u8 0), 1, 1) := bld.infoByte
end fldw
end Go.Proofs.YtckpiaigoeicfaaGreatDoor
/-! TupR -/
namespace Go.Proofs.YtckpiaigoeicfaaGreatDoor
open Go.RowKit
namespace tupr
open tupw prt
/-- the reference's row while part i is laid, k bytes of it done -/
def Inv (l : List ByteArray) (i : Nat) (done : List UInt8) (b : List UInt8) : Prop :=
  b = tup.bytes (l.take i) ++ tup.esc done ∨ (4096 < b.length ∧ 4096 < (tup.bytes l).length)
theorem bytes_at (l : List ByteArray) (i : Nat) (h : i < l.length) : tup.bytes l = tup.bytes (l.take i) ++ (tup.esc l[i].data.toList ++ [0, 1] ++ tup.bytes (l.drop (i + 1))) := by
  have e : l = l.take i ++ (l[i] :: l.drop (i + 1)) := by
    rw [← List.drop_eq_getElem_cons h, List.take_append_drop]
  conv => lhs; rw [e]
  rw [tup.bytes_append, tup.bytes]
theorem esc_take (p : List UInt8) (k : Nat) : (tup.esc (p.take k)).length ≤ (tup.esc p).length := by
  conv => rhs; rw [← List.take_append_drop k p, tup.esc_append]
  simp
theorem inv_step {l : List ByteArray} {i k : Nat} {b : List UInt8} (h : i < l.length) (hk : k < l[i].size) (hI : Inv l i (l[i].data.toList.take k) b) (hb : b.length ≤ 4096) :
    Inv l i (l[i].data.toList.take (k + 1)) (b ++ (if l[i][k] = 0 then [0, 255] else [l[i][k]])) := by
  rcases hI with rfl | ⟨h1, _⟩
  · left
    rw [kt.take_snoc _ k hk, tup.esc_append, List.append_assoc]
    simp [tup.esc]
  · omega
theorem inv_done {l : List ByteArray} {i k : Nat} {b : List UInt8} (h : i < l.length) (hI : Inv l i (l[i].data.toList.take k) b) (hb : ¬ (k < l[i].size ∧ b.length ≤ 4096)) : Inv l (i + 1) [] (b ++ [0, 1]) := by
  have hat := bytes_at l i h
  rcases hI with rfl | ⟨h1, h2⟩
  · by_cases hk : k < l[i].size
    · right
      have hlen : ¬ (tup.bytes (l.take i) ++ tup.esc (l[i].data.toList.take k)).length ≤ 4096 := fun hh => hb ⟨hk, hh⟩
      have he := esc_take l[i].data.toList k
      rw [hat]
      simp only [List.length_append] at hlen ⊢
      omega
    · left
      rw [show l[i].data.toList.take k = l[i].data.toList from List.take_of_length_le (by rw [kt.size_len]; omega), List.take_succ_eq_append_getElem h, tup.bytes_append]
      simp [tup.bytes, tup.esc]
  · right
    simp only [List.length_append]
    omega
theorem inv_end {l : List ByteArray} {b : List UInt8} (hI : Inv l l.length [] b) (h16 : ¬ 16 < l.length) : tup.out l = if 4096 < b.length then (⟨#[]⟩, 5) else (⟨b.toArray⟩, 0) := by
  unfold tup.out
  rw [if_neg h16]
  rcases hI with rfl | ⟨h1, h2⟩
  · rw [List.take_of_length_le (Nat.le_refl _)]
    simp [tup.esc]
  · rw [if_pos h2, if_pos h1]
theorem ownb_app2 {w : World} {B : Nat} {v : Value} {l : List UInt8} (h : OwnB w B v l) (x y : UInt8) (hl : l.length ≤ 1100000) (hB : B ≤ w.heap.size) :
    ∃ v' w1, (Builtin.append_ #[82, 82] 82 #[v, .slice (some ⟨w.heap.size, 0, none⟩) 2 2]).run Tryz.prog (w.alloc (.cells #[.int .u8 (x.toNat : Int), .int .u8 (y.toNat : Int)] 5)) = .ok v' w1 ∧ OwnB w1 B v' (l ++ [x, y]) ∧ w.grownBy w1 v.ownBlock ∧ Below B w w1 := by
  obtain ⟨v', w1, h1, h2, h3, h4⟩ := kt.app2 (P := Tryz.prog) (ty := 82) (w := w) Tryz.underlying82 fldw.infoByte rfl (.int .u8 (x.toNat : Int)) (.int .u8 (y.toNat : Int)) rfl rfl h (by rw [Lib.byteCells_length]; unfold maxLen; omega) (by rw [Lib.byteCells_length]; omega) hB
  refine ⟨v', w1, h1, ?_, h3, h4⟩
  unfold OwnB
  rw [Lib.byteCells_append]
  exact h2
theorem ownb_len {w : World} {B : Nat} {v : Value} {l : List UInt8} (h : OwnB w B v l) : ∃ ao cap, v = .slice ao l.length cap := by
  obtain ⟨ao, cap, hv, _⟩ := kt.row_slice h
  rw [Lib.byteCells_length] at hv
  exact ⟨ao, cap, hv⟩
set_option maxRecDepth 20000 in
set_option maxHeartbeats 2000000 in
theorem rtuple_any (ao : Option Addr) (cap : Nat) (l : List ByteArray) (w : World) (hl : Hid (Strs w ao l)) (hsm : Hid (∀ p ∈ l, p.size ≤ 1100000)) :
    Calls Tryz.prog 107 #[.slice ao l.length cap] w fun e w' => e = .returned (tupV (tup.out l)) ∧ Below w.heap.size w w' := by
  by_cases c16 : 16 < l.length
  · have hp : tup.out l = (⟨#[]⟩, 1) := by unfold tup.out; rw [if_pos c16]
    have HP := Lib.hid hp
    clear hp
    have c16' : 16 < (l.length : Int) := by omega
    go_enter Tryz.func107, Tryz.ntmps107
    go_wp2_with fail
    go_ret2
    exact ⟨by rw [HP.out]; rfl, Below.refl _ _⟩
  · have c16' : ¬ 16 < (l.length : Int) := by omega
    go_enter Tryz.func107, Tryz.ntmps107
    go_wp2_with fail
    go_loopw [4, 5] (fun bv iv wr => ∃ (i : Nat) (b : List UInt8), i ≤ l.length ∧ iv = .int .i64 i ∧ Hid (Inv l i [] b) ∧ b.length ≤ 4098 + 2 * i ∧ Hid (OwnB wr w.heap.size bv b) ∧ Below w.heap.size w wr) (fun _ iv _ => l.length - (intOf iv).toNat)
    case atStart => exact ⟨0, [], Nat.zero_le _, rfl, Or.inl rfl, by simp, ownb_new w _ (Nat.le_refl _), (Below.refl _ _).alloc (Nat.le_refl _) _⟩
    case round =>
      obtain ⟨i, b, hi, rfl, hI, hbl, hOB, hB⟩ := hrel
      have hsz := hB.size
      by_cases hil : i < l.length
      · have hil' : (i : Int) < (l.length : Int) := by omega
        obtain ⟨p, hp⟩ : ∃ p : ByteArray, Hid (p = l[i]'hil) := ⟨l[i]'hil, rfl⟩
        have hps : p.size ≤ 1100000 := by rw [hp.out]; exact hsm.out _ (List.getElem_mem hil)
        obtain ⟨bl, of, hao, hc0⟩ := hl.out i hil
        rw [← hp.out] at hc0
        subst hao
        have hI0 : Hid (Inv l i (p.data.toList.take 0) b) := hI
        clear hI
        go_wp2_with fail
        go_loopw [4, 6] (fun bv kv wr => ∃ (k : Nat) (b : List UInt8), k ≤ p.size ∧ kv = .int .i64 k ∧ Hid (Inv l i (p.data.toList.take k) b) ∧ b.length ≤ 4098 + 2 * i ∧ Hid (OwnB wr w.heap.size bv b) ∧ Below w.heap.size w wr) (fun _ kv _ => p.size - (intOf kv).toNat)
        case atStart => exact ⟨0, b, Nat.zero_le _, rfl, hI0, hbl, hOB, hB⟩
        case round =>
          clear hI0 hOB hB hbl hsz
          obtain ⟨k, b, hk, rfl, hI, hbl, hOB, hB⟩ := hrel
          have hsz := hB.size
          have hc := (hB.cell (World.block_lt_of_cell? w _ hc0)).trans hc0
          obtain ⟨ao2, cap2, rfl⟩ := ownb_len hOB.out
          by_cases hgo : k < p.size ∧ b.length ≤ 4096
          · obtain ⟨hkp, hb4⟩ := hgo
            have hkp' : (k : Int) < (p.size : Int) := by omega
            have hb4' : (b.length : Int) ≤ 4096 := by omega
            obtain ⟨c, hcc⟩ : ∃ c : UInt8, Hid (c = p[k]'hkp) := ⟨p[k]'hkp, rfl⟩
            have ec : (p[k]'hkp).toNat = c.toNat := by rw [hcc.out]
            have hst : Inv l i (p.data.toList.take (k + 1)) (b ++ (if c = 0 then [0, 255] else [c])) := by
              have hpe := hp.out
              subst hpe
              have hce := hcc.out
              subst hce
              exact inv_step hil hkp hI.out hb4
            obtain ⟨v1, w1, hap, hO1, hgr, hB1⟩ := ownb_app hOB.out c (by omega) hsz
            have hs1 := hB1.size
            have hc1 := (hB1.cell (p := ⟨bl, of + i, none⟩) (World.block_lt_of_cell? w _ hc0)).trans hc
            by_cases c0 : c = 0
            · subst c0
              rw [if_pos rfl] at hst
              have HI2 := Lib.hid hst
              have ec' : (p[k]'hkp).toNat = 0 := ec
              clear hst ec hI
              obtain ⟨v2, w2, hap2, hO2, hgr2, hB2⟩ := ownb_app hO1 255 (by simp; omega) (Nat.le_trans hsz hs1)
              rw [List.append_assoc] at hO2
              have HO2 := Lib.hid hO2
              clear hO2 hgr hgr2 hO1
              change (Builtin.append_ _ _ #[_, .slice (some ⟨wr.heap.size, 0, none⟩) 1 1]).run _ (wr.alloc (.cells #[.int .u8 0] 5)) = .ok v1 w1 at hap
              change (Builtin.append_ _ _ #[_, .slice (some ⟨w1.heap.size, 0, none⟩) 1 1]).run _ (w1.alloc (.cells #[.int .u8 255] 5)) = .ok v2 w2 at hap2
              go_wp2_with (at_builtin; first | refine Lib.wpList_append_run _ rfl _ _ _ _ rfl _ _ rfl rfl _ _ hap ?_ | refine Lib.wpList_append_run _ rfl _ _ _ _ rfl _ _ rfl rfl _ _ hap2 ?_)
              go_roundw
              case rel => exact ⟨k + 1, b ++ [0, 255], by omega, by go_num, HI2, by simp; omega, HO2, (hB.trans hB1).trans hB2⟩
              case measure => simp [intOf]; omega
            · have n0 : ((c.toNat : Int) == 0) = false := by
                rw [beq_eq_false_iff_ne]
                intro h
                exact c0 (UInt8.toNat_inj.1 (by simpa using h))
              rw [if_neg c0] at hst
              have HI2 := Lib.hid hst
              have HO1 := Lib.hid hO1
              clear hst hI hO1 hgr
              go_wp2_with (at_builtin; refine Lib.wpList_append_run _ rfl _ _ _ _ rfl _ _ rfl rfl _ _ hap ?_)
              go_roundw
              case rel => exact ⟨k + 1, b ++ [c], by omega, by go_num, HI2, by simp; omega, HO1, hB.trans hB1⟩
              case measure => simp [intOf]; omega
          · have hdn : Inv l (i + 1) [] (b ++ [0, 1]) := by
              have hpe := hp.out
              subst hpe
              exact inv_done hil hI.out hgo
            have HI2 := Lib.hid hdn
            obtain ⟨v1, w1, hap, hO1, hgr, hB1⟩ := ownb_app2 hOB.out 0 1 (by omega) hsz
            have HO1 := Lib.hid hO1
            clear hdn hI hO1 hgr
            change (Builtin.append_ _ _ #[_, .slice (some ⟨wr.heap.size, 0, none⟩) 2 2]).run _ (wr.alloc (.cells #[.int .u8 0, .int .u8 1] 5)) = .ok v1 w1 at hap
            by_cases hkp : k < p.size
            · have hkp' : (k : Int) < (p.size : Int) := by omega
              have hb4' : ¬ (b.length : Int) ≤ 4096 := by omega
              go_wp2_with (at_builtin; refine Lib.wpList_append_run _ rfl _ _ _ _ rfl _ _ rfl rfl _ _ hap ?_)
              go_roundw
              case rel => exact ⟨i + 1, b ++ [0, 1], by omega, by go_num, HI2, by simp; omega, HO1, hB.trans hB1⟩
              case measure => simp [intOf]; omega
            · have hkp' : ¬ (k : Int) < (p.size : Int) := by omega
              go_wp2_with (at_builtin; refine Lib.wpList_append_run _ rfl _ _ _ _ rfl _ _ rfl rfl _ _ hap ?_)
              go_roundw
              case rel => exact ⟨i + 1, b ++ [0, 1], by omega, by go_num, HI2, by simp; omega, HO1, hB.trans hB1⟩
              case measure => simp [intOf]; omega
      · obtain rfl : i = l.length := by omega
        have hil' : ¬ (l.length : Int) < (l.length : Int) := by omega
        obtain ⟨ao2, cap2, rfl⟩ := ownb_len hOB.out
        have ho := inv_end hI.out c16
        by_cases hb4 : 4096 < b.length
        · have hb4' : 4096 < (b.length : Int) := by omega
          rw [if_pos hb4] at ho
          have HO := Lib.hid ho
          clear ho hI
          go_wp2_with fail
          go_ret2
          exact ⟨by rw [HO.out]; rfl, hB⟩
        · have hb4' : ¬ 4096 < (b.length : Int) := by omega
          rw [if_neg hb4] at ho
          obtain ⟨q, hq⟩ : ∃ q : ByteArray, Hid (q = ⟨b.toArray⟩) := ⟨_, rfl⟩
          have hst := kt.str_of_row (P := Tryz.prog) (dst := 9) Tryz.underlying82 Tryz.underlying5 Tryz.underlying9 hOB.out
          rw [← hq.out] at ho hst
          have HO := Lib.hid ho
          clear ho hI
          go_wp2_with fail
          go_ret2
          exact ⟨by rw [HO.out]; rfl, hB⟩
end tupr
end Go.Proofs.YtckpiaigoeicfaaGreatDoor
/-! CmpP -/
namespace Go.Proofs.YtckpiaigoeicfaaGreatDoor
namespace ord
open Go.Lib
theorem cmp_nil_cons (a : UInt8) (s : List UInt8) : compareBytes [] (a :: s) = -1 := rfl
theorem cmp_cons_nil (a : UInt8) (s : List UInt8) : compareBytes (a :: s) [] = 1 := rfl
theorem cmp_cons (a b : UInt8) (s t : List UInt8) : compareBytes (a :: s) (b :: t) = if a < b then -1 else if b < a then 1 else compareBytes s t := rfl
theorem cmp_same (a : UInt8) (s t : List UInt8) : compareBytes (a :: s) (a :: t) = compareBytes s t := by
  rw [cmp_cons]
  simp
theorem cmp_lt {a b : UInt8} (h : a < b) (s t : List UInt8) : compareBytes (a :: s) (b :: t) = -1 := by
  rw [cmp_cons, if_pos h]
theorem cmp_gt {a b : UInt8} (h : b < a) (s t : List UInt8) : compareBytes (a :: s) (b :: t) = 1 := by
  rw [cmp_cons, if_neg (fun h' => absurd h (by
    have h1 := UInt8.lt_iff_toNat_lt.1 h'
    intro h2
    have h3 := UInt8.lt_iff_toNat_lt.1 h2
    omega)), if_pos h]
theorem cmp_cases (a b : UInt8) : a < b ∨ b < a ∨ a = b := by
  rcases Nat.lt_trichotomy a.toNat b.toNat with h | h | h
  · exact Or.inl (UInt8.lt_iff_toNat_lt.2 h)
  · exact Or.inr (Or.inr (UInt8.toNat_inj.1 h))
  · exact Or.inr (Or.inl (UInt8.lt_iff_toNat_lt.2 h))
theorem cmp_three : ∀ a b : List UInt8, compareBytes a b = -1 ∨ compareBytes a b = 0 ∨ compareBytes a b = 1
  | [], [] => Or.inr (Or.inl rfl)
  | [], _ :: _ => Or.inl rfl
  | _ :: _, [] => Or.inr (Or.inr rfl)
  | a :: s, b :: t => by
    rcases cmp_cases a b with h | h | rfl
    · exact Or.inl (cmp_lt h s t)
    · exact Or.inr (Or.inr (cmp_gt h s t))
    · rw [cmp_same]; exact cmp_three s t
theorem cmp_neg : ∀ a b : List UInt8, compareBytes b a = - compareBytes a b
  | [], [] => rfl
  | [], _ :: _ => rfl
  | _ :: _, [] => rfl
  | a :: s, b :: t => by
    rcases cmp_cases a b with h | h | rfl
    · rw [cmp_lt h, cmp_gt h]; rfl
    · rw [cmp_gt h, cmp_lt h]
    · rw [cmp_same, cmp_same]; exact cmp_neg s t
theorem cmp_end (a b : List UInt8) (i : Nat) (hi : i ≤ a.length) (hb : i ≤ b.length) (h : a.length ≤ i ∨ b.length ≤ i) : compareBytes (a.drop i) (b.drop i) = if a.length < b.length then -1 else if b.length < a.length then 1 else 0 := by
  by_cases h1 : a.length ≤ i
  · rw [List.drop_eq_nil_of_le h1]
    by_cases h2 : b.length ≤ i
    · rw [List.drop_eq_nil_of_le h2, if_neg (by omega), if_neg (by omega)]
      rfl
    · rw [List.drop_eq_getElem_cons (by omega), if_pos (by omega)]
      rfl
  · rw [List.drop_eq_nil_of_le (show b.length ≤ i by omega), List.drop_eq_getElem_cons (by omega), if_neg (by omega), if_pos (by omega)]
    rfl
end ord
end Go.Proofs.YtckpiaigoeicfaaGreatDoor
/-! LessW -/
namespace Go.Proofs.YtckpiaigoeicfaaGreatDoor
open Go.RowKit
namespace ordw
open ord
theorem dr (s : ByteArray) (k : Nat) (h : k < s.size) : s.data.toList.drop k = s[k] :: s.data.toList.drop (k + 1) := by
  rw [List.drop_eq_getElem_cons (by rw [kt.size_len]; exact h)]
  rfl
set_option maxHeartbeats 1100000 in
theorem less_any (a b : ByteArray) (w : World) (ha : a.size ≤ 1100000) :
    Calls Tryz.prog 24 #[.string a, .string b] w fun e w' => e = .returned (.int .i64 (Lib.compareBytes a.data.toList b.data.toList)) ∧ ∃ n, w' = w.drewN n := by
  go_enter Tryz.func24, Tryz.ntmps24
  go_wp2_with fail
  go_loopw [5] (fun iv wr => ∃ (i : Nat), i ≤ a.size ∧ i ≤ b.size ∧ iv = .int .i64 i ∧ Hid (Lib.compareBytes a.data.toList b.data.toList = Lib.compareBytes (a.data.toList.drop i) (b.data.toList.drop i)) ∧ ∃ n, wr = w.drewN n) (fun iv _ => a.size - (intOf iv).toNat)
  case atStart => exact ⟨0, Nat.zero_le _, Nat.zero_le _, rfl, rfl, 0, rfl⟩
  case round =>
    obtain ⟨i, hia, hib, rfl, hE, n, rfl⟩ := hrel
    by_cases h : i < a.size ∧ i < b.size
    · obtain ⟨h1, h2⟩ := h
      have h1' : (i : Int) < (a.size : Int) := by omega
      have h2' : (i : Int) < (b.size : Int) := by omega
      obtain ⟨x, hx⟩ : ∃ x : UInt8, Hid (x = a[i]'h1) := ⟨a[i]'h1, rfl⟩
      obtain ⟨y, hy⟩ : ∃ y : UInt8, Hid (y = b[i]'h2) := ⟨b[i]'h2, rfl⟩
      have ex : (a[i]'h1).toNat = x.toNat := by rw [hx.out]
      have ey : (b[i]'h2).toNat = y.toNat := by rw [hy.out]
      have he := hE.out
      rw [dr a i h1, dr b i h2, ← hx.out, ← hy.out] at he
      rcases cmp_cases x y with c | c | c
      · rw [cmp_lt c] at he
        have HE := Lib.hid he
        have c' : (x.toNat : Int) < (y.toNat : Int) := by have := UInt8.lt_iff_toNat_lt.1 c; omega
        clear he c
        go_wp2_with fail
        go_quiet (fail)
        go_wp2_with fail
        go_ret
        exact ⟨by rw [HE.out]; rfl, _, World.drewN_drewN _ _ _⟩
      · rw [cmp_gt c] at he
        have HE := Lib.hid he
        have c' : ¬ (x.toNat : Int) < (y.toNat : Int) := by have := UInt8.lt_iff_toNat_lt.1 c; omega
        have c'' : (y.toNat : Int) < (x.toNat : Int) := by have := UInt8.lt_iff_toNat_lt.1 c; omega
        clear he c
        go_wp2_with fail
        go_quiet (fail)
        go_wp2_with fail
        go_quiet (fail)
        go_wp2_with fail
        go_ret
        exact ⟨by rw [HE.out]; rfl, _, by rw [World.drewN_drewN, World.drewN_drewN]⟩
      · subst c
        rw [cmp_same] at he
        have HE := Lib.hid he
        have c' : ¬ (x.toNat : Int) < (x.toNat : Int) := by omega
        have hh1 := Lib.hid h1
        have hh2 := Lib.hid h2
        clear he
        go_wp2_with fail
        go_quiet (fail)
        go_wp2_with fail
        go_quiet (fail)
        go_wp2_with fail
        go_roundw
        case rel => exact ⟨i + 1, hh1.out, hh2.out, by go_num, HE, _, rfl⟩
        case measure =>
          have := hh1.out
          simp [intOf]; omega
    · have he := hE.out
      rw [cmp_end _ _ i (by rw [kt.size_len]; exact hia) (by rw [kt.size_len]; exact hib) (by rw [kt.size_len, kt.size_len]; omega), kt.size_len, kt.size_len] at he
      have hq : (decide ((i : Int) < (a.size : Int)) && decide ((i : Int) < (b.size : Int))) = false := by
        rw [Bool.and_eq_false_iff, decide_eq_false_iff_not, decide_eq_false_iff_not]
        omega
      by_cases l1 : a.size < b.size
      · rw [if_pos l1] at he
        have HE := Lib.hid he
        have l1' : (a.size : Int) < (b.size : Int) := by omega
        have i1 : ¬ (i : Int) < (a.size : Int) := by omega
        clear he h
        go_wp2_with fail
        go_ret
        exact ⟨by rw [HE.out]; rfl, _, rfl⟩
      · rw [if_neg l1] at he
        have l1' : ¬ (a.size : Int) < (b.size : Int) := by omega
        by_cases l2 : b.size < a.size
        · rw [if_pos l2] at he
          have HE := Lib.hid he
          have l2' : (b.size : Int) < (a.size : Int) := by omega
          have i1 : (i : Int) < (a.size : Int) := by omega
          have i2 : ¬ (i : Int) < (b.size : Int) := by omega
          clear he h
          go_wp2_with fail
          go_ret
          exact ⟨by rw [HE.out]; rfl, _, rfl⟩
        · rw [if_neg l2] at he
          have HE := Lib.hid he
          have l2' : ¬ (b.size : Int) < (a.size : Int) := by omega
          have i1 : ¬ (i : Int) < (a.size : Int) := by omega
          clear he h
          go_wp2_with fail
          go_ret
          exact ⟨by rw [HE.out]; rfl, _, rfl⟩
end ordw
end Go.Proofs.YtckpiaigoeicfaaGreatDoor
/-! RKeyW -/
namespace Go.Proofs.YtckpiaigoeicfaaGreatDoor
open Go.RowKit
namespace dnw
open dnp
set_option linter.unusedVariables false
set_option linter.unusedSimpArgs false
/-- what Key answers -/
def KeyE (l : List Av) (e : Ending) : Prop := e = if rdnOK l = true then .returned (.tuple #[.string (bytes (keyL l)), .int .i64 0]) else .returned (.tuple #[.string ⟨#[]⟩, .int .i64 4])
theorem cmp_lt_iff : ∀ a b : List UInt8, Lib.compareBytes a b = -1 ↔ a < b
  | [], [] => by simp [Lib.compareBytes]
  | [], b :: t => by
    rw [ord.cmp_nil_cons]
    simp
  | a :: s, [] => by
    rw [ord.cmp_cons_nil]
    simp
  | a :: s, b :: t => by
    rw [List.cons_lt_cons_iff]
    rcases ord.cmp_cases a b with h | h | rfl
    · rw [ord.cmp_lt h]
      simp [h]
    · rw [ord.cmp_gt h]
      have h1 : ¬ a < b := by
        intro h'
        have h1 := UInt8.lt_iff_toNat_lt.1 h
        have h2 := UInt8.lt_iff_toNat_lt.1 h'
        omega
      have h2 : ¬ a = b := by rintro rfl; exact absurd (UInt8.lt_iff_toNat_lt.1 h) (by omega)
      simp [h1, h2]
    · rw [ord.cmp_same, cmp_lt_iff s t]
      have : ¬ a < a := by intro h; exact absurd (UInt8.lt_iff_toNat_lt.1 h) (by omega)
      simp [this]
/-- put at its place -/
def insAt (P : List ByteArray) (k : Nat) (s : ByteArray) : List ByteArray := (P.take k ++ [s]) ++ P.drop k
def dat (P : List ByteArray) : List (List UInt8) := P.map (·.data.toList)
def SortedB (P : List ByteArray) : Prop := (dat P).Pairwise (fun x y => x ≤ y)
theorem insAt_perm (P : List ByteArray) (k : Nat) (s : ByteArray) : (dat (insAt P k s)).Perm (s.data.toList :: dat P) := by
  have h : (insAt P k s).Perm (s :: P) := by
    unfold insAt
    conv => rhs; rw [← List.take_append_drop k P]
    rw [List.append_assoc]
    exact List.perm_middle
  exact h.map _
theorem insAt_sorted {P : List ByteArray} {k : Nat} {s : ByteArray} (h : SortedB P) (hk : k ≤ P.length) (h1 : ∀ j (hj : j < P.length), j < k → P[j].data.toList < s.data.toList) (h2 : ∀ hj : k < P.length, s.data.toList ≤ (P[k]'hj).data.toList) : SortedB (insAt P k s) := by
  unfold SortedB dat insAt at *
  rw [List.pairwise_map] at h ⊢
  rw [List.append_assoc, List.pairwise_append]
  have hle : ∀ x ∈ P.take k, x.data.toList ≤ s.data.toList := by
    intro x hx
    obtain ⟨j, hj, rfl⟩ := List.mem_iff_getElem.1 hx
    rw [List.length_take] at hj
    rw [List.getElem_take]
    exact List.le_of_lt (h1 j (by omega) (by omega))
  have hge : ∀ y ∈ P.drop k, s.data.toList ≤ y.data.toList := by
    intro y hy
    obtain ⟨j, hj, rfl⟩ := List.mem_iff_getElem.1 hy
    rw [List.length_drop] at hj
    rw [List.getElem_drop]
    have hkl : k < P.length := by omega
    have h3 := h2 hkl
    rcases Nat.eq_zero_or_pos j with rfl | hj0
    · exact h3
    · exact List.le_trans h3 ((List.pairwise_iff_getElem.1 h) k (k + j) hkl (by omega) (by omega))
  refine ⟨h.sublist (List.take_sublist _ _), ?_, ?_⟩
  · rw [List.singleton_append, List.pairwise_cons]
    exact ⟨hge, h.sublist (List.drop_sublist _ _)⟩
  · intro x hx y hy
    rw [List.singleton_append] at hy
    rcases List.mem_cons.1 hy with rfl | hy
    · exact hle x hx
    · exact List.le_trans (hle x hx) (hge y hy)
theorem ownT_mono {w : World} {B C : Nat} {v : Value} {l : List ByteArray} (h : prw.OwnT w B v l) (hc : C ≤ B) : prw.OwnT w C v l := by
  refine ⟨h.1, ?_⟩
  rcases h.2 with h0 | ⟨g, cap, cur, hv, hBg, hr⟩
  · exact Or.inl h0
  · exact Or.inr ⟨g, cap, cur, hv, Nat.le_trans hc hBg, hr⟩
theorem ownT_appN {w : World} {B : Nat} {v : Value} {l ys : List ByteArray} (g o c : Nat) (hys : ∀ j (hj : j < ys.length), w.cell? ⟨g, o + j, none⟩ = some (.string ys[j])) (hown : prw.OwnT w B v l) (hl : l.length ≤ 1100000) (hyl : ys.length ≤ 1100000) (hbase : B ≤ w.heap.size) :
    ∃ ao m cap w1, (Builtin.append_ #[31, 31] 31 #[v, .slice (some ⟨g, o, none⟩) ys.length c]).run Tryz.prog w = .ok (.slice ao m cap) w1 ∧ prw.OwnT w1 B (.slice ao m cap) (l ++ ys) ∧ Below B w w1 := by
  obtain ⟨v', w1, h1, h2, _, h3⟩ := kt.appN (P := Tryz.prog) (t := 31) (ty := 31) Tryz.underlying31 prw.infoStr rfl ⟨g, o, none⟩ ys.length c (prw.scells ys) (prw.scells_length ys) (fun j u hj => by
    have hj' := (List.getElem?_eq_some_iff.1 hj).1
    rw [prw.scells_length] at hj'
    rw [Addr.add_mid, hys j hj']
    rw [← hj]
    unfold prw.scells
    simp [List.getElem?_eq_getElem hj']) (fun u hu => by
    unfold prw.scells at hu
    obtain ⟨y, _, rfl⟩ := List.mem_map.1 hu
    rfl) hown (by rw [prw.scells_length]; unfold maxLen; omega) (by rw [prw.scells_length]; omega) hbase
  have h2' : prw.OwnT w1 B v' (l ++ ys) := by
    unfold prw.OwnT
    have e : prw.scells (l ++ ys) = prw.scells l ++ prw.scells ys := by simp [prw.scells]
    rw [e]
    exact h2
  obtain ⟨ao, cap, rfl, _, _⟩ := prw.ownT_cells h2'
  exact ⟨ao, _, cap, w1, h1, h2', h3⟩
theorem key_ok {l : List Av} {P : List ByteArray} (h1 : SortedB P) (h2 : (dat P).Perm (partsL l)) : (dat P).flatten = keyL l := by
  unfold keyL
  rw [sorted_eq h1 (sortL_sorted (partsL l)) (h2.trans (List.mergeSort_perm _ _).symm)]
end dnw
end Go.Proofs.YtckpiaigoeicfaaGreatDoor
/-! RKeyX -/
namespace Go.Proofs.YtckpiaigoeicfaaGreatDoor
open Go.RowKit
namespace dnw
open dnp
set_option linter.unusedVariables false
set_option linter.unusedSimpArgs false
theorem below_drewN2 {B : Nat} {a b : World} (h : Below B a b) (n : Nat) : Below B a (b.drewN n) := ⟨h.os, h.tape, h.output, h.size, h.block⟩
/-- an append's run, in a box: two of them are told apart by their arguments alone -/
structure ApR (P : Program) (t tn ty : TypeId) (vs vx : Value) (w : World) (v' : Value) (w' : World) : Prop where
  run : (Builtin.append_ #[t, tn] ty #[vs, vx]).run P w = .ok v' w'
theorem wp_apR {P : Program} {w : World} {ops : Array Oper} {rest : List Oper} {o : Oper} {a : Act} {Q : Exit → Act → World → Prop} (hgd : o.guard = none) (s x : Operand) (t tn : TypeId)
    (ho : o.op = .call { callee := .builtin .append, args := #[s, x], argTypes := #[t, tn] }) (v' : Value) (w' : World) (hr : ApR P t tn o.type (a.eval s) (a.eval x) w v' w') (h : wpList P ops Q rest (a.put o.dst v') w') : wpList P ops Q (o :: rest) a w :=
  Lib.wpList_append_run w hgd s x t tn ho _ _ rfl rfl v' w' hr.run h
set_option maxRecDepth 20000 in
set_option maxHeartbeats 8000000 in
theorem rkey_any (ao : Option Addr) (cap : Nat) (l : List Av) (w : World) (hA : Hid (Avas w ao l)) (hS : Hid (l.length ≤ 4 → Smalls l)) :
    Calls Tryz.prog 76 #[.slice ao l.length cap] w fun e w' => KeyE l e ∧ Below w.heap.size w w' := by
  have CR := rrdn_any ao cap l w hA hS
  obtain ⟨m, hm⟩ : ∃ m, m = l.length := ⟨_, rfl⟩
  have HM := Lib.hid hm
  rw [← hm] at CR ⊢
  clear hm
  cases hok : rdnOK l with
  | false =>
    rw [hok] at CR
    have HC := Lib.hid CR
    have HK : Hid (KeyE l (.returned (.tuple #[.string ⟨#[]⟩, .int .i64 4]))) := by
      show KeyE _ _
      unfold KeyE
      rw [hok]; rfl
    clear CR hok
    go_enter Tryz.func76, Tryz.ntmps76
    go_wp2_with fail
    refine HC.out.mono ?_
    rintro e w1 ⟨rfl, hB1⟩
    go_wp2_with fail
    go_ret2
    exact ⟨HK.out, hB1⟩
  | true =>
    rw [hok] at CR
    have HC := Lib.hid CR
    have h4 := (rdnOK_facts hok).2.1
    rw [← HM.out] at h4
    have HX := Lib.hid (rdnOK_av hok)
    have HKE : Hid (∀ T : ByteArray, T = bytes (keyL l) → KeyE l (.returned (.tuple #[.string T, .int .i64 0]))) := by
      intro T h
      unfold KeyE
      rw [hok, h]; rfl
    clear CR hok
    go_enter Tryz.func76, Tryz.ntmps76
    go_wp2_with fail
    refine HC.out.mono ?_
    rintro e w1 ⟨rfl, hB1⟩
    have HB1 := Lib.hid hB1
    have hsz1 := hB1.size
    clear hB1 HC
    go_wp2_with fail
    go_loopw [4, 5, 6, 7, 8, 9, 10, 11] (fun pv iv _ _ _ _ _ _ wr => ∃ (i : Nat) (P : List ByteArray) (g cp : Nat), i ≤ m ∧ iv = .int .i64 (i : Int) ∧ pv = .slice (some ⟨g, 0, none⟩) i cp ∧ i ≤ cp ∧ Hid (prw.OwnT wr w1.heap.size (.slice (some ⟨g, 0, none⟩) i cp) P) ∧ Hid (P.length = i) ∧ Hid (SortedB P) ∧ Hid ((dat P).Perm (partsL (l.take i))) ∧ Below w1.heap.size w1 wr) (fun _ iv _ _ _ _ _ _ _ => m - (intOf iv).toNat)
    case atStart =>
      refine ⟨0, [], _, 0, Nat.zero_le _, rfl, rfl, Nat.le_refl _, World.ownsRow_made w1 #[] 0 (Nat.le_refl _) (by unfold maxLen; omega) rfl, rfl, ?_, ?_, (Below.refl _ _).alloc (Nat.le_refl _) _⟩
      · show SortedB []
        unfold SortedB dat
        simp
      · show (dat []).Perm (partsL (l.take 0))
        simp [dat, partsL]
    case round =>
      obtain ⟨i, P, g, cp, hi, rfl, rfl, hcp, hO, hPl, hPs, hPp, hB⟩ := hrel
      have hsz := hB.size
      by_cases hlt : i < m
      · have hlt' : (i : Int) < (m : Int) := by omega
        have hil : i < l.length := by rw [← HM.out]; exact hlt
        have HBW := Lib.hid (HB1.out.trans (hB.mono hsz1))
        obtain ⟨b, o, hao, c0, c1⟩ := hA.out i hil
        subst hao
        have hTK : partsL (l.take (i + 1)) = partsL (l.take i) ++ [(partB l[i]).data.toList] := by
          unfold partsL
          rw [List.take_succ_eq_append_getElem hil, List.map_append]; rfl
        have hxx := HX.out l[i] (List.getElem_mem hil)
        generalize l[i] = x at c0 c1 hTK hxx
        have HC0 := Lib.hid c0
        have d1 := (HBW.out.cell (World.block_lt_of_cell? w _ c1)).trans c1
        obtain ⟨R, hR⟩ : ∃ R : ByteArray, R = ⟨(rv x.v.data.toList).toArray⟩ := ⟨_, rfl⟩
        have hvs : x.v.size ≤ 1100000 := by have := valOK_le hxx.2; rw [kt.size_len] at this; omega
        have hts : x.t.size ≤ 1100000 := by have := typeOK_le hxx.1; rw [kt.size_len] at this; omega
        have CRD := prw.rready_any x.v true wr hvs
        rw [rv_ok hxx.2] at CRD
        have HRD : Hid (Calls Tryz.prog 17 #[.string x.v, .bool true] wr fun e w' => e = .returned (.tuple #[.string R, .int .i64 0]) ∧ Below wr.heap.size wr w') := by
          rw [hR]; exact CRD
        have hRs : R.size ≤ 1100000 := by
          have h1 := prp.readyO_len (rv_ok hxx.2)
          rw [kt.size_len] at h1
          rw [hR, ← kt.size_len]
          show (rv _).length ≤ _
          omega
        have HRe := Lib.hid hR
        have HTK := Lib.hid hTK
        clear CRD hxx c0 c1 hR hTK hvs
        go_wp2_with fail
        refine HRD.out.mono ?_
        rintro e w6 ⟨rfl, hB6⟩
        have HB6 := Lib.hid (hB.trans (hB6.mono hsz))
        have d0 := ((HB1.out.trans (HB6.out.mono hsz1)).cell (World.block_lt_of_cell? w _ HC0.out)).trans HC0.out
        have HO6 := Lib.hid (ownT_below hO.out hB6)
        have CT := tupr.rtuple_any (some ⟨w6.heap.size, 0, none⟩) 2 [x.t, R] (w6.alloc (.cells #[.string x.t, .string R] 9)) (Lib.hid (by
          intro j hj
          refine ⟨_, 0, rfl, ?_⟩
          rw [World.cell?_alloc_new]
          match j, hj with
          | 0, _ => rfl
          | 1, _ => rfl)) (Lib.hid (by
          intro q hq
          simp only [List.mem_cons, List.not_mem_nil, or_false] at hq
          rcases hq with rfl | rfl
          · exact hts
          · exact hRs))
        have HT : Hid (Calls Tryz.prog 107 #[.slice (some ⟨w6.heap.size, 0, none⟩) 2 2] (w6.alloc (.cells #[.string x.t, .string R] 9)) fun e w' => (∃ er : Int, e = .returned (.tuple #[.string (partB x), .int .i64 er])) ∧ Below (w6.alloc (.cells #[.string x.t, .string R] 9)).heap.size (w6.alloc (.cells #[.string x.t, .string R] 9)) w') := by
          refine CT.mono ?_
          rintro e w' ⟨rfl, hb⟩
          exact ⟨⟨(tup.out [x.t, R]).2, by unfold tupw.tupV partB; rw [HRe.out]⟩, hb⟩
        clear CT hB6 hts hRs HRD d1
        go_wp2_with fail
        refine HT.out.mono ?_
        rintro e w7 ⟨⟨er, rfl⟩, hB7⟩
        have hB67 : Below w6.heap.size w6 w7 := ((Below.refl w6.heap.size w6).alloc (Nat.le_refl _) _).trans (hB7.mono (by simp))
        have HB7 := Lib.hid (HB6.out.trans (hB67.mono HB6.out.size))
        have HO7 := Lib.hid (ownT_below HO6.out hB67)
        obtain ⟨s, hs⟩ : ∃ s, s = partB x := ⟨_, rfl⟩
        have hss : s.size ≤ 4096 := by rw [hs]; exact partB_len x
        have HSx := Lib.hid hs
        rw [← hs]
        clear hB7 hB67 HT d0 hs
        go_wp2_with fail
        go_loopw [10] (fun kv wq => ∃ k : Nat, k ≤ i ∧ kv = .int .i64 (k : Int) ∧ Hid (∀ j (h : j < P.length), j < k → P[j].data.toList < s.data.toList) ∧ Below w7.heap.size w7 wq) (fun kv _ => i - (intOf kv).toNat)
        case atStart => exact ⟨0, Nat.zero_le _, rfl, fun j _ h => by omega, Below.refl _ _⟩
        case round =>
          obtain ⟨k, hk, rfl, hL, hBk⟩ := hrel
          have HOk := Lib.hid (ownT_below HO7.out hBk)
          have HBK := Lib.hid (HB7.out.trans (hBk.mono HB7.out.size))
          obtain ⟨ao0, cp0, hv0, hc0', hcs0⟩ := prw.ownT_cells HOk.out
          simp only [Value.slice.injEq] at hv0
          have hcell : ∀ j (hj : j < P.length), wr.cell? ⟨g, j, none⟩ = some (.string P[j]) := by
            intro j hj
            obtain ⟨g', hg', _, hcc⟩ := hcs0 (by intro e; rw [e] at hj; simp at hj)
            have e1 : some (⟨g, 0, none⟩ : Addr) = some ⟨g', 0, none⟩ := hv0.1.trans hg'
            cases e1
            have := hcc j _ (List.getElem?_eq_getElem hj)
            rw [Nat.zero_add] at this
            exact this
          have hglt : P ≠ [] → g < wr.heap.size := by
            intro h
            obtain ⟨g', hg', hlt, _⟩ := hcs0 h
            have e1 : some (⟨g, 0, none⟩ : Addr) = some ⟨g', 0, none⟩ := hv0.1.trans hg'
            cases e1
            exact hlt
          have hPmem : ∀ j (hj : j < P.length), P[j].size ≤ 4096 := by
            intro j hj
            have h1 : P[j].data.toList ∈ dat P := List.mem_map.2 ⟨P[j], List.getElem_mem hj, rfl⟩
            have h2 := hPp.out.mem_iff.1 h1
            unfold partsL at h2
            obtain ⟨a, _, ha⟩ := List.mem_map.1 h2
            rw [← kt.size_len, ← ha, kt.size_len]
            exact partB_len a
          have HCELL := Lib.hid hcell
          clear hv0 hc0' hcs0
          by_cases hki : k < i
          · have hki' : (k : Int) < (i : Int) := by omega
            have hkP : k < P.length := by rw [hPl.out]; exact hki
            have ck := hcell k hkP
            have CL := ordw.less_any P[k] s wr (by have := hPmem k hkP; omega)
            have hltk : Lib.compareBytes P[k].data.toList s.data.toList = -1 ↔ P[k].data.toList < s.data.toList := cmp_lt_iff _ _
            have hge : ¬ Lib.compareBytes P[k].data.toList s.data.toList = -1 → Hid (∀ hj : k < P.length, s.data.toList ≤ (P[k]'hj).data.toList) := fun h hj => List.not_lt.1 (fun h2 => h (hltk.2 h2))
            have hLN : P[k].data.toList < s.data.toList → Hid (∀ j (h : j < P.length), j < k + 1 → P[j].data.toList < s.data.toList) := by
              intro h j hj hjk
              by_cases e : j = k
              · subst e; exact h
              · exact hL.out j hj (by omega)
            have h3 := ord.cmp_three P[k].data.toList s.data.toList
            generalize Lib.compareBytes P[k].data.toList s.data.toList = cv at CL hltk hge h3
            have HGE := Lib.hid hge
            have HLN := Lib.hid hLN
            generalize P[k] = pk at ck CL hltk HLN
            by_cases hcv : cv = -1
            · have HN := HLN.out (hltk.1 hcv)
              subst hcv
              have HCL := Lib.hid CL
              clear CL hge hLN hltk h3 HGE HLN hcell hPmem hglt
              go_wp2_with fail
              refine HCL.out.mono ?_
              rintro e wz ⟨rfl, nn, rfl⟩
              go_wp2_with fail
              go_roundw
              case rel => exact ⟨k + 1, by omega, by go_num, HN, below_drewN2 hBk nn⟩
              case measure => simp [intOf] <;> omega
            · have HGE2 := HGE.out hcv
              have hc0 : ¬ cv < 0 := by omega
              have HCL := Lib.hid CL
              clear CL hge hLN hltk h3 HGE HLN hcell hcv
              have HPE : Hid (∀ nn, Below wr.heap.size wr (wr.drewN nn)) := fun nn => below_drewN2 (Below.refl _ _) nn
              go_wp2_with fail
              refine HCL.out.mono ?_
              rintro e wz ⟨rfl, nn, hwz⟩
              have HZ : Hid (Below wr.heap.size wr wz) := by show Below _ _ _; rw [hwz]; exact HPE.out nn
              have HCELLz : Hid (∀ j (hj : j < P.length), wz.cell? ⟨g, j, none⟩ = some (.string P[j])) := fun j hj => (HZ.out.cell (p := ⟨g, j, none⟩) (hglt (by intro e; rw [e] at hj; simp at hj))).trans (HCELL.out j hj)
              have hgltz : P ≠ [] → g < wz.heap.size := fun h => Nat.lt_of_lt_of_le (hglt h) HZ.out.size
              clear hglt hwz
              have hglt := hgltz
              clear hgltz
              have HBz : Hid (Below w7.heap.size w7 wz) := Lib.hid (hBk.trans (HZ.out.mono hBk.size))
              have hcz : ∀ j (hj : j < P.length), (wz.alloc (.cells #[] 9)).cell? ⟨g, j, none⟩ = some (.string P[j]) := by
                intro j hj
                have hne : P ≠ [] := by intro e; rw [e] at hj; simp at hj
                exact (((Below.refl wz.heap.size wz).alloc (Nat.le_refl _) _).cell (p := ⟨g, j, none⟩) (show g < wz.heap.size from hglt hne)).trans (show wz.cell? ⟨g, j, none⟩ = _ from HCELLz.out j hj)
              have hmade : prw.OwnT (wz.alloc (.cells #[] 9)) wz.heap.size (.slice (some ⟨wz.heap.size, 0, none⟩) 0 0) [] := World.ownsRow_made wz #[] 0 (Nat.le_refl _) (by unfold maxLen; omega) rfl
              have htkl : (P.take k).length = k := by rw [List.length_take, hPl.out]; omega
              have hdkl : (P.drop k).length = i - k := by rw [List.length_drop, hPl.out]
              obtain ⟨aoA, mA, capA, w10, hapA, hOA, hBA⟩ := ownT_appN (ys := P.take k) g 0 cp (fun j hj => by
                rw [List.length_take] at hj
                rw [Nat.zero_add, List.getElem_take]
                exact hcz j (by omega)) hmade (by simp) (by rw [htkl]; omega) (by simp)
              rw [htkl] at hapA
              obtain ⟨aoB, mB, capB, w11, hapB, hOB, hgB, hBB⟩ := ownT_appG s hOA (by rw [List.nil_append, htkl]; omega) (Nat.le_trans (by simp) hBA.size)
              have hBAB : Below wz.heap.size wz w11 := (((Below.refl wz.heap.size wz).alloc (Nat.le_refl _) _).trans hBA).trans hBB
              have hc11 : ∀ j (hj : j < P.length), w11.cell? ⟨g, j, none⟩ = some (.string P[j]) := by
                intro j hj
                have hne : P ≠ [] := by intro e; rw [e] at hj; simp at hj
                exact (hBAB.cell (p := ⟨g, j, none⟩) (show g < wz.heap.size from hglt hne)).trans (show wz.cell? ⟨g, j, none⟩ = _ from HCELLz.out j hj)
              have hszC : wz.heap.size ≤ w11.heap.size := hBAB.size
              have hSI := insAt_sorted hPs.out (by rw [hPl.out]; omega) hL.out HGE2.out
              have hPI : (dat (insAt P k s)).Perm (partsL (l.take (i + 1))) := by
                rw [HTK.out, ← HSx.out]
                exact (insAt_perm P k s).trans ((List.Perm.cons _ hPp.out).trans (List.perm_append_singleton _ _).symm)
              have HSI := Lib.hid hSI
              have HPI := Lib.hid hPI
              have hIl : (insAt P k s).length = i + 1 := by
                unfold insAt
                simp only [List.length_append, htkl, hdkl, List.length_cons, List.length_nil]
                try omega
              clear hSI hPI
              by_cases hck : cp = k
              · exfalso; omega
              · skip
                obtain ⟨aoC, mC, capC, w12, hapC, hOC, hBC⟩ := ownT_appN (ys := P.drop k) g k (cp - k) (fun j hj => by
                  rw [List.getElem_drop]
                  exact hc11 (k + j) (by rw [List.length_drop] at hj; omega)) hOB (by simp [htkl]; omega) (by rw [hdkl]; omega) hszC
                rw [hdkl] at hapC
                have hapA := ApR.mk hapA
                have hapB := ApR.mk hapB
                have hapC := ApR.mk hapC
                have hOI : prw.OwnT w12 wz.heap.size (.slice aoC mC capC) (insAt P k s) := by
                  have h := hOC
                  rw [List.nil_append] at h
                  exact h
                obtain ⟨aoI, cpI, hvI, hcI, hcsI⟩ := prw.ownT_cells hOI
                rw [hIl] at hvI hcI
                simp only [Value.slice.injEq] at hvI
                obtain ⟨rfl, rfl, rfl⟩ := hvI
                obtain ⟨gI, rfl, _, _⟩ := hcsI (by intro e; rw [e] at hIl; simp at hIl)
                have HREL : Hid (∃ (i' : Nat) (P' : List ByteArray) (g' cp' : Nat), i' ≤ m ∧ Value.int IntKind.i64 ((i : Int) + 1) = .int .i64 (i' : Int) ∧ Value.slice (some ⟨gI, 0, none⟩) (i + 1) capC = .slice (some ⟨g', 0, none⟩) i' cp' ∧ i' ≤ cp' ∧ Hid (prw.OwnT w12 w1.heap.size (.slice (some ⟨g', 0, none⟩) i' cp') P') ∧ Hid (P'.length = i') ∧ Hid (SortedB P') ∧ Hid ((dat P').Perm (partsL (l.take i'))) ∧ Below w1.heap.size w1 w12) :=
                  ⟨i + 1, insAt P k s, gI, capC, by omega, by go_num, rfl, hcI, Lib.hid (ownT_mono hOI (Nat.le_trans HB7.out.size HBz.out.size)), Lib.hid hIl, HSI, HPI, (HB7.out.trans (HBz.out.mono HB7.out.size)).trans ((hBAB.trans hBC).mono (Nat.le_trans HB7.out.size HBz.out.size))⟩
                clear hOI hOC hOB hOA hmade hcz hc11 hBA hBB hBC hgB hIl hcI hcsI hBAB htkl hdkl hglt hPmem
                go_wp2_with (first | (at_builtin; refine wp_apR rfl _ _ _ _ rfl _ _ hapA ?_) | (at_builtin; refine wp_apR rfl _ _ _ _ rfl _ _ hapB ?_) | (at_builtin; refine wp_apR rfl _ _ _ _ rfl _ _ hapC ?_))
                go_roundw
                case rel => exact HREL.out
                case measure => simp [intOf] <;> omega
          · obtain rfl : k = i := by omega
            have HGE2 : Hid (∀ hj : k < P.length, s.data.toList ≤ (P[k]'hj).data.toList) := fun hj => absurd hj (by rw [hPl.out]; omega)
            have HBz : Hid (Below w7.heap.size w7 wr) := Lib.hid hBk
            have hcz : ∀ j (hj : j < P.length), (wr.alloc (.cells #[] 9)).cell? ⟨g, j, none⟩ = some (.string P[j]) := by
              intro j hj
              have hne : P ≠ [] := by intro e; rw [e] at hj; simp at hj
              exact (((Below.refl wr.heap.size wr).alloc (Nat.le_refl _) _).cell (p := ⟨g, j, none⟩) (show g < wr.heap.size from hglt hne)).trans (show wr.cell? ⟨g, j, none⟩ = _ from HCELL.out j hj)
            have hmade : prw.OwnT (wr.alloc (.cells #[] 9)) wr.heap.size (.slice (some ⟨wr.heap.size, 0, none⟩) 0 0) [] := World.ownsRow_made wr #[] 0 (Nat.le_refl _) (by unfold maxLen; omega) rfl
            have htkl : (P.take k).length = k := by rw [List.length_take, hPl.out]; omega
            have hdkl : (P.drop k).length = 0 := by rw [List.length_drop, hPl.out]; omega
            obtain ⟨aoA, mA, capA, w10, hapA, hOA, hBA⟩ := ownT_appN (ys := P.take k) g 0 cp (fun j hj => by
              rw [List.length_take] at hj
              rw [Nat.zero_add, List.getElem_take]
              exact hcz j (by omega)) hmade (by simp) (by rw [htkl]; omega) (by simp)
            rw [htkl] at hapA
            obtain ⟨aoB, mB, capB, w11, hapB, hOB, hgB, hBB⟩ := ownT_appG s hOA (by rw [List.nil_append, htkl]; omega) (Nat.le_trans (by simp) hBA.size)
            have hBAB : Below wr.heap.size wr w11 := (((Below.refl wr.heap.size wr).alloc (Nat.le_refl _) _).trans hBA).trans hBB
            have hc11 : ∀ j (hj : j < P.length), w11.cell? ⟨g, j, none⟩ = some (.string P[j]) := by
              intro j hj
              have hne : P ≠ [] := by intro e; rw [e] at hj; simp at hj
              exact (hBAB.cell (p := ⟨g, j, none⟩) (show g < wr.heap.size from hglt hne)).trans (show wr.cell? ⟨g, j, none⟩ = _ from HCELL.out j hj)
            have hszC : wr.heap.size ≤ w11.heap.size := hBAB.size
            have hSI := insAt_sorted hPs.out (by rw [hPl.out]; omega) hL.out HGE2.out
            have hPI : (dat (insAt P k s)).Perm (partsL (l.take (k + 1))) := by
              rw [HTK.out, ← HSx.out]
              exact (insAt_perm P k s).trans ((List.Perm.cons _ hPp.out).trans (List.perm_append_singleton _ _).symm)
            have HSI := Lib.hid hSI
            have HPI := Lib.hid hPI
            have hIl : (insAt P k s).length = k + 1 := by
              unfold insAt
              simp only [List.length_append, htkl, hdkl, List.length_cons, List.length_nil]
              try omega
            clear hSI hPI
            by_cases hck : cp = k
            · subst hck
              obtain ⟨aoC, mC, capC, w12, hapC, hOC, hBC⟩ := ownT_appN (ys := P.drop cp) g 0 0 (fun j hj => absurd hj (by rw [hdkl]; omega)) hOB (by simp [htkl]; omega) (by rw [hdkl]; omega) hszC
              rw [hdkl] at hapC
              have hapA := ApR.mk hapA
              have hapB := ApR.mk hapB
              have hapC := ApR.mk hapC
              have hOI : prw.OwnT w12 wr.heap.size (.slice aoC mC capC) (insAt P cp s) := by
                have h := hOC
                rw [List.nil_append] at h
                exact h
              obtain ⟨aoI, cpI, hvI, hcI, hcsI⟩ := prw.ownT_cells hOI
              rw [hIl] at hvI hcI
              simp only [Value.slice.injEq] at hvI
              obtain ⟨rfl, rfl, rfl⟩ := hvI
              obtain ⟨gI, rfl, _, _⟩ := hcsI (by intro e; rw [e] at hIl; simp at hIl)
              have HREL : Hid (∃ (i' : Nat) (P' : List ByteArray) (g' cp' : Nat), i' ≤ m ∧ Value.int IntKind.i64 ((cp : Int) + 1) = .int .i64 (i' : Int) ∧ Value.slice (some ⟨gI, 0, none⟩) (cp + 1) capC = .slice (some ⟨g', 0, none⟩) i' cp' ∧ i' ≤ cp' ∧ Hid (prw.OwnT w12 w1.heap.size (.slice (some ⟨g', 0, none⟩) i' cp') P') ∧ Hid (P'.length = i') ∧ Hid (SortedB P') ∧ Hid ((dat P').Perm (partsL (l.take i'))) ∧ Below w1.heap.size w1 w12) :=
                ⟨cp + 1, insAt P cp s, gI, capC, by omega, by go_num, rfl, hcI, Lib.hid (ownT_mono hOI (Nat.le_trans HB7.out.size HBz.out.size)), Lib.hid hIl, HSI, HPI, (HB7.out.trans (HBz.out.mono HB7.out.size)).trans ((hBAB.trans hBC).mono (Nat.le_trans HB7.out.size HBz.out.size))⟩
              clear hOI hOC hOB hOA hmade hcz hc11 hBA hBB hBC hgB hIl hcI hcsI hBAB htkl hdkl hglt hPmem
              go_wp2_with (first | (at_builtin; refine wp_apR rfl _ _ _ _ rfl _ _ hapA ?_) | (at_builtin; refine wp_apR rfl _ _ _ _ rfl _ _ hapB ?_) | (at_builtin; refine wp_apR rfl _ _ _ _ rfl _ _ hapC ?_))
              go_roundw
              case rel => exact HREL.out
              case measure => simp [intOf] <;> omega
            · skip
              obtain ⟨aoC, mC, capC, w12, hapC, hOC, hBC⟩ := ownT_appN (ys := P.drop k) g k (cp - k) (fun j hj => by
                rw [List.getElem_drop]
                exact hc11 (k + j) (by rw [List.length_drop] at hj; omega)) hOB (by simp [htkl]; omega) (by rw [hdkl]; omega) hszC
              rw [hdkl] at hapC
              have hapA := ApR.mk hapA
              have hapB := ApR.mk hapB
              have hapC := ApR.mk hapC
              have hOI : prw.OwnT w12 wr.heap.size (.slice aoC mC capC) (insAt P k s) := by
                have h := hOC
                rw [List.nil_append] at h
                exact h
              obtain ⟨aoI, cpI, hvI, hcI, hcsI⟩ := prw.ownT_cells hOI
              rw [hIl] at hvI hcI
              simp only [Value.slice.injEq] at hvI
              obtain ⟨rfl, rfl, rfl⟩ := hvI
              obtain ⟨gI, rfl, _, _⟩ := hcsI (by intro e; rw [e] at hIl; simp at hIl)
              have HREL : Hid (∃ (i' : Nat) (P' : List ByteArray) (g' cp' : Nat), i' ≤ m ∧ Value.int IntKind.i64 ((k : Int) + 1) = .int .i64 (i' : Int) ∧ Value.slice (some ⟨gI, 0, none⟩) (k + 1) capC = .slice (some ⟨g', 0, none⟩) i' cp' ∧ i' ≤ cp' ∧ Hid (prw.OwnT w12 w1.heap.size (.slice (some ⟨g', 0, none⟩) i' cp') P') ∧ Hid (P'.length = i') ∧ Hid (SortedB P') ∧ Hid ((dat P').Perm (partsL (l.take i'))) ∧ Below w1.heap.size w1 w12) :=
                ⟨k + 1, insAt P k s, gI, capC, by omega, by go_num, rfl, hcI, Lib.hid (ownT_mono hOI (Nat.le_trans HB7.out.size HBz.out.size)), Lib.hid hIl, HSI, HPI, (HB7.out.trans (HBz.out.mono HB7.out.size)).trans ((hBAB.trans hBC).mono (Nat.le_trans HB7.out.size HBz.out.size))⟩
              clear hOI hOC hOB hOA hmade hcz hc11 hBA hBB hBC hgB hIl hcI hcsI hBAB htkl hdkl hglt hPmem
              go_wp2_with (first | (at_builtin; refine wp_apR rfl _ _ _ _ rfl _ _ hapA ?_) | (at_builtin; refine wp_apR rfl _ _ _ _ rfl _ _ hapB ?_) | (at_builtin; refine wp_apR rfl _ _ _ _ rfl _ _ hapC ?_))
              go_roundw
              case rel => exact HREL.out
              case measure => simp [intOf] <;> omega
      · obtain rfl : i = m := by omega
        have hPe : Hid ((dat P).Perm (partsL l)) := by
          have h := hPp.out
          rw [HM.out, List.take_length] at h
          exact h
        have HK := Lib.hid (key_ok hPs.out hPe.out)
        have hPmem : ∀ j (hj : j < P.length), P[j].size ≤ 4096 := by
          intro j hj
          have h1 : P[j].data.toList ∈ dat P := List.mem_map.2 ⟨P[j], List.getElem_mem hj, rfl⟩
          have h2 := hPe.out.mem_iff.1 h1
          unfold partsL at h2
          obtain ⟨a, _, ha⟩ := List.mem_map.1 h2
          rw [← kt.size_len, ← ha, kt.size_len]
          exact partB_len a
        have HMEM := Lib.hid hPmem
        obtain ⟨ao0, cp0, hv0, hc0', hcs0⟩ := prw.ownT_cells hO.out
        simp only [Value.slice.injEq] at hv0
        have hcell : ∀ j (hj : j < P.length), wr.cell? ⟨g, j, none⟩ = some (.string P[j]) := by
          intro j hj
          obtain ⟨g', hg', _, hcc⟩ := hcs0 (by intro e; rw [e] at hj; simp at hj)
          have e1 : some (⟨g, 0, none⟩ : Addr) = some ⟨g', 0, none⟩ := hv0.1.trans hg'
          cases e1
          have := hcc j _ (List.getElem?_eq_getElem hj)
          rw [Nat.zero_add] at this
          exact this
        have HCELL := Lib.hid hcell
        have HBW := Lib.hid (HB1.out.trans (hB.mono hsz1))
        clear hPp hPs hPe hPmem hcell hv0 hc0' hcs0 hO
        obtain ⟨wo, rfl⟩ : ∃ x, x = wr := ⟨_, rfl⟩
        go_wp2_with fail
        go_loopw [12, 13] (fun sv jv wq => ∃ (j : Nat) (T : ByteArray), j ≤ i ∧ jv = .int .i64 (j : Int) ∧ sv = .string T ∧ Hid (T = bytes (dat (P.take j)).flatten) ∧ T.size ≤ 4096 * j ∧ wo = wq) (fun _ jv _ => i - (intOf jv).toNat)
        case atStart => exact ⟨0, _, Nat.zero_le _, rfl, rfl, rfl, Nat.le_refl _, rfl⟩
        case round =>
          obtain ⟨j, T, hj, rfl, rfl, hT, hTs, rfl⟩ := hrel
          by_cases hjl : j < i
          · have hjl' : (j : Int) < (i : Int) := by omega
            have hjP : j < P.length := by rw [hPl.out]; exact hjl
            have ck := HCELL.out j hjP
            have hps := HMEM.out j hjP
            have hst : dat (P.take (j + 1)) = dat (P.take j) ++ [P[j].data.toList] := by
              unfold dat
              rw [List.take_succ_eq_append_getElem hjP, List.map_append]; rfl
            generalize P[j] = s at ck hps hst
            obtain ⟨T2, hT2⟩ : ∃ T2, T2 = T ++ s := ⟨_, rfl⟩
            have h2s : T2.size = T.size + s.size := by rw [hT2, ByteArray.size_append]
            have hadd : ∀ W, (Op.stringOp .add T s).run Tryz.prog W = .ok (.string T2) W := fun W => by rw [hT2]; exact run_string_add_sum W _ _ (by omega)
            have HT2 : Hid (T2 = bytes (dat (P.take (j + 1))).flatten) := by
              show _ = _
              rw [hst, List.flatten_append, hT2, hT.out]
              apply kt.str_eq
              rw [ByteArray.data_append, bytes_data]
              simp [bytes]
            have h2l : T2.size ≤ 4096 * (j + 1) := by omega
            clear hst hT2 h2s hps
            go_wp2_with fail
            go_roundw
            case rel => exact ⟨j + 1, T2, by omega, by go_num, rfl, HT2, h2l, trivial⟩
            case measure => simp [intOf] <;> omega
          · obtain rfl : j = i := by omega
            have hTT : T = bytes (keyL l) := by
              rw [hT.out, ← HK.out, List.take_of_length_le (by rw [hPl.out]; exact Nat.le_refl _)]
            have HKK := Lib.hid (HKE.out T hTT)
            clear hTT hT
            go_wp2_with fail
            go_ret2
            exact ⟨HKK.out, HBW.out⟩
end dnw
end Go.Proofs.YtckpiaigoeicfaaGreatDoor
/-! RKeysW -/
namespace Go.Proofs.YtckpiaigoeicfaaGreatDoor
open Go.RowKit
namespace dnw
open dnp
set_option linter.unusedVariables false
set_option linter.unusedSimpArgs false
theorem keyE_yes {l : List Av} (h : rdnOK l = true) : KeyE l (.returned (.tuple #[.string (bytes (keyL l)), .int .i64 0])) := by unfold KeyE; rw [if_pos h]
theorem keyE_no {l : List Av} (h : rdnOK l = false) : KeyE l (.returned (.tuple #[.string ⟨#[]⟩, .int .i64 4])) := by unfold KeyE; rw [if_neg (by rw [h]; simp)]
set_option maxRecDepth 20000 in
set_option maxHeartbeats 4000000 in
theorem rkeys_any (ao : Option Addr) (cap : Nat) (n : List (List Av)) (w : World) (hA : Hid (Rdns w ao n)) (hn : n.length ≤ 1000) (hS : Hid (∀ l ∈ n, l.length ≤ 4 → Smalls l)) :
    Calls Tryz.prog 46 #[.slice ao n.length cap] w fun e w' => KeysE n w e w' := by
  have CR := rright_any ao cap n w hA hn hS
  obtain ⟨m, hm⟩ : ∃ m, m = n.length := ⟨_, rfl⟩
  have HM := Lib.hid hm
  rw [← hm] at CR hn ⊢
  clear hm
  cases hok : nameOK n with
  | false =>
    rw [hok] at CR
    have HC := Lib.hid CR
    have HOK := Lib.hid hok
    clear CR hok
    go_enter Tryz.func46, Tryz.ntmps46
    go_wp2_with fail
    refine HC.out.mono ?_
    rintro e w1 ⟨rfl, hB1⟩
    go_wp2_with fail
    go_ret2
    refine ⟨hB1, ?_⟩
    rw [if_neg (by rw [HOK.out]; simp)]
    rfl
  | true =>
    rw [hok] at CR
    have HC := Lib.hid CR
    have HOK := Lib.hid hok
    have hf := nameOK_facts hok
    have hm12 : m ≤ 12 := by rw [HM.out]; exact hf.1
    have HL := Lib.hid hf.2
    have k0 : IntKind.i64.wrap ((m : Int) - 1) = (m : Int) - 1 := IntWalk.i64_in _ (by omega)
    clear CR hok hf
    go_enter Tryz.func46, Tryz.ntmps46
    go_wp2_with fail
    refine HC.out.mono ?_
    rintro e w1 ⟨rfl, hB1⟩
    have HB1 := Lib.hid hB1
    have hsz1 := hB1.size
    clear hB1 HC
    go_wp2_with fail
    go_loopw [4, 5, 6, 7] (fun rv iv _ _ wr => ∃ (c : Nat) (z : Int), c ≤ m ∧ iv = .int .i64 z ∧ z = (m : Int) - 1 - (c : Int) ∧ Hid (prw.OwnT wr w1.heap.size rv ((n.reverse.take c).map fun l => bytes (keyL l))) ∧ Below w1.heap.size w1 wr) (fun _ iv _ _ _ => (intOf iv + 1).toNat)
    case atStart => exact ⟨0, _, Nat.zero_le _, rfl, by simp, World.ownsRow_made w1 #[] 0 (Nat.le_refl _) (by unfold maxLen; omega) rfl, (Below.refl _ _).alloc (Nat.le_refl _) _⟩
    case round =>
      obtain ⟨c, z, hc, rfl, hz, hO, hB⟩ := hrel
      have HZ := Lib.hid hz
      have hsz := hB.size
      obtain ⟨aoR, mR, capR, rfl, hmR⟩ := ownT_form hO.out
      by_cases hlt : c < m
      · obtain ⟨j, hj⟩ : ∃ j, j = m - 1 - c := ⟨_, rfl⟩
        obtain rfl : z = (j : Int) := by omega
        clear hz
        have hjm : (j : Int) < (m : Int) := by omega
        have hj0 : (0 : Int) ≤ (j : Int) := by omega
        have hjl : j < n.length := by rw [← HM.out]; omega
        have hcl : c < n.length := by rw [← HM.out]; exact hlt
        have HBT := Lib.hid (HB1.out.trans (hB.mono hsz1))
        have HST := revTake_step n c hcl
        have hje : n.length - 1 - c = j := by rw [← HM.out]; exact hj.symm
        have HST2 : (n.reverse.take (c + 1)).map (fun l => bytes (keyL l)) = (n.reverse.take c).map (fun l => bytes (keyL l)) ++ [bytes (keyL n[j])] := by
          rw [HST]
          congr 4
          simp only [hje]
        obtain ⟨b, o, ao', cap', hao, hc0, hcc, hAv⟩ := (rdns_below hA.out HBT.out) j hjl
        subst hao
        have hro := HL.out n[j] (List.getElem_mem hjl)
        have CK := rkey_any ao' cap' n[j] wr (Lib.hid hAv) (Lib.hid (hS.out n[j] (List.getElem_mem hjl)))
        have hst := Lib.hid HST2
        have hEE : ∀ e, KeyE n[j] e → e = .returned (.tuple #[.string (bytes (keyL n[j])), .int .i64 0]) := by
          intro e h
          unfold KeyE at h
          rw [if_pos hro] at h
          exact h
        have k1 : IntKind.i64.wrap ((j : Int) - 1) = (j : Int) - 1 := IntWalk.i64_in _ (by omega)
        have HREL : Hid ((j : Int) - 1 = (m : Int) - 1 - ((c + 1 : Nat) : Int)) := by show _ = _; omega
        generalize n[j] = l at hc0 CK hst hEE
        obtain ⟨p, hp⟩ : ∃ p, p = l.length := ⟨_, rfl⟩
        rw [← hp] at hc0 CK
        have HCK : Hid (Calls Tryz.prog 76 #[.slice ao' p cap'] wr fun e w' => e = .returned (.tuple #[.string (bytes (keyL l)), .int .i64 0]) ∧ Below wr.heap.size wr w') := CK.mono fun e w' h => ⟨hEE e h.1, h.2⟩
        clear CK HST HST2 hje hro hAv hcc hp hj hEE
        generalize bytes (keyL l) = KB at HCK hst
        go_wp2_with fail
        refine HCK.out.mono ?_
        rintro e w2 ⟨rfl, hB2⟩
        obtain ⟨ao7, m7, cap7, w8, hap, hO8, _, hB8⟩ := ownT_appG KB (ownT_below hO.out hB2) (by rw [List.length_map, List.length_take, List.length_reverse]; omega) (Nat.le_trans hsz hB2.size)
        have HO8 : Hid (prw.OwnT w8 w1.heap.size (.slice ao7 m7 cap7) ((n.reverse.take (c + 1)).map fun l => bytes (keyL l))) := by
          show prw.OwnT _ _ _ _
          rw [hst.out]
          exact hO8
        have HB8 := Lib.hid ((hB.trans (hB2.mono hsz)).trans hB8)
        clear hO8 hB8 hB2 HCK hst
        go_wp2_with (at_builtin; refine Lib.wpList_append_run _ rfl _ _ _ _ rfl _ _ rfl rfl _ _ hap ?_)
        go_roundw
        case rel => exact ⟨c + 1, _, by omega, rfl, HREL.out, HO8, HB8.out⟩
        case measure => simp [intOf] <;> omega
      · obtain rfl : c = m := by omega
        have hzn : ¬ (0 : Int) ≤ z := by omega
        have hO1 := hO.out
        rw [HM.out, List.take_of_length_le (by rw [List.length_reverse]; exact Nat.le_refl _)] at hO1
        obtain ⟨hst, hml, hmc⟩ := ownT_strs hO1
        rw [List.length_map, List.length_reverse] at hml
        have HST := Lib.hid hst
        have HML := Lib.hid hml
        clear hO1 hst hml hz
        go_wp2_with fail
        go_ret2
        refine ⟨HB1.out.trans (hB.mono hsz1), ?_⟩
        rw [if_pos HOK.out]
        have h1 := HML.out
        subst h1
        exact ⟨aoR, capR, rfl, hmc, HST.out⟩
end dnw
end Go.Proofs.YtckpiaigoeicfaaGreatDoor
/-! AttrP -/
namespace Go.Proofs.YtckpiaigoeicfaaGreatDoor
namespace atp
set_option linter.unusedVariables false
set_option linter.unusedSimpArgs false
/-- an attribute's type: its name, its syntax, whether it has one value alone -/
structure Ty where
  name : List UInt8
  syn : Int
  single : Bool
deriving DecidableEq
/-- all of them -/
def tys : List Ty := [⟨[99, 110], 1, false⟩, ⟨[100, 99], 1, false⟩, ⟨[100, 101, 115, 99, 114, 105, 112, 116, 105, 111, 110], 1, false⟩, ⟨[101, 110, 97, 98, 108, 101, 100], 5, true⟩, ⟨[108], 1, false⟩, ⟨[108, 105, 109, 105, 116], 4, false⟩, ⟨[109, 97, 105, 108], 1, false⟩, ⟨[109, 101, 109, 98, 101, 114], 6, false⟩, ⟨[111], 1, false⟩, ⟨[111, 98, 106, 101, 99, 116, 99, 108, 97, 115, 115], 1, false⟩, ⟨[111, 117], 1, false⟩, ⟨[112, 104, 111, 116, 111], 3, false⟩, ⟨[115, 101, 101, 97, 108, 115, 111], 6, false⟩, ⟨[115, 101, 114, 105, 97, 108, 110, 117, 109, 98, 101, 114], 2, false⟩, ⟨[115, 110], 1, false⟩, ⟨[116, 101, 108, 101, 112, 104, 111, 110, 101, 110, 117, 109, 98, 101, 114], 7, false⟩, ⟨[116, 105, 116, 108, 101], 1, false⟩, ⟨[117, 105, 100], 1, false⟩, ⟨[117, 105, 100, 110, 117, 109, 98, 101, 114], 4, true⟩, ⟨[117, 115, 101, 114, 112, 97, 115, 115, 119, 111, 114, 100], 3, false⟩]
def noTy : Ty := ⟨[], 0, false⟩
/-- the attribute of a small name -/
def findS (n : List UInt8) : Option Ty := tys.find? (fun t => decide (t.name = n))
theorem findS_some {n : List UInt8} {t : Ty} (h : findS n = some t) : t ∈ tys ∧ t.name = n := by
  unfold findS at h
  refine ⟨List.mem_of_find?_eq_some h, ?_⟩
  have := List.find?_some h
  simpa using this
theorem findS_none {n : List UInt8} (h : findS n = none) : ∀ t ∈ tys, t.name ≠ n := by
  intro t ht
  unfold findS at h
  have := List.find?_eq_none.1 h t ht
  simpa using this
theorem findS_all : ∀ j : Fin 20, findS (tys[j.val]'(j.isLt)).name = some (tys[j.val]'(j.isLt)) := by decide +kernel
theorem findS_at (i : Nat) (hi : i < tys.length) : findS tys[i].name = some tys[i] := by
  exact findS_all ⟨i, hi⟩
theorem findS_not {n : List UInt8} (h : ∀ i (hi : i < tys.length), tys[i].name ≠ n) : findS n = none := by
  unfold findS
  rw [List.find?_eq_none]
  intro t ht
  obtain ⟨i, hi, rfl⟩ := List.mem_iff_getElem.1 ht
  simpa using h i hi
theorem tys_len : tys.length = 20 := rfl
/-- the digits of a number -/
def bare (l : List UInt8) : List UInt8 := if l.head? = some 45 then l.tail else l
def digit (c : UInt8) : Bool := decide (48 ≤ c.toNat ∧ c.toNat ≤ 57)
/-- is a text a number? -/
def numOK (l : List UInt8) : Bool := decide (l = [48]) || (decide (1 ≤ (bare l).length) && decide ((bare l).length ≤ 18) && decide ((bare l).head? ≠ some 48) && (bare l).all digit)
/-- what a number is worth -/
def worthN (l : List UInt8) : Nat := l.foldl (fun n c => 10 * n + (c.toNat - 48)) 0
def worth (l : List UInt8) : Int := if l.head? = some 45 then - (worthN (bare l) : Int) else (worthN (bare l) : Int)
/-- pieces sought one behind the other -/
def greedy : List (List UInt8) → List UInt8 → Bool
  | [], _ => true
  | p :: r, l => if Lib.index l p < 0 then false else greedy r (l.drop ((Lib.index l p).toNat + p.length))
/-- has a text these parts? -/
def partL (s a z : List UInt8) (mids : List (List UInt8)) : Bool :=
  a.isPrefixOf s && z.isSuffixOf (s.drop a.length) && greedy mids ((s.drop a.length).take ((s.drop a.length).length - z.length))
theorem partR_no {s a z : List UInt8} {mids : List (List UInt8)} (h : ¬ (a.length + z.length ≤ s.length ∧ s.take a.length = a ∧ s.drop (s.length - z.length) = z)) : partL s a z mids = false := by
  unfold partL
  rw [Bool.and_eq_false_iff, Bool.and_eq_false_iff]
  by_cases ha : a.isPrefixOf s = true
  · by_cases hz : z.isSuffixOf (s.drop a.length) = true
    · exfalso
      apply h
      obtain ⟨t, rfl⟩ := List.isPrefixOf_iff_prefix.1 ha
      rw [List.drop_left] at hz
      obtain ⟨u, rfl⟩ := List.isSuffixOf_iff_suffix.1 hz
      refine ⟨by simp, by simp, ?_⟩
      rw [← List.append_assoc, List.length_append, Nat.add_sub_cancel, List.drop_left]
    · exact Or.inl (Or.inr (Bool.eq_false_iff.2 hz))
  · exact Or.inl (Or.inl (Bool.eq_false_iff.2 ha))
theorem partR_yes {s a z : List UInt8} {mids : List (List UInt8)} (h1 : a.length + z.length ≤ s.length) (h2 : s.take a.length = a) (h3 : s.drop (s.length - z.length) = z) : partL s a z mids = greedy mids ((s.take (s.length - z.length)).drop a.length) := by
  unfold partL
  have ha : a.isPrefixOf s = true := by rw [List.isPrefixOf_iff_prefix, ← h2]; exact List.take_prefix _ _
  have hz : z.isSuffixOf (s.drop a.length) = true := by
    rw [List.isSuffixOf_iff_suffix]
    refine ⟨(s.drop a.length).take (s.length - z.length - a.length), ?_⟩
    have : s.drop (s.length - z.length) = (s.drop a.length).drop (s.length - z.length - a.length) := by rw [List.drop_drop]; congr 1; omega
    conv => lhs; rhs; rw [← h3, this]
    exact List.take_append_drop _ _
  rw [ha, hz]
  simp only [Bool.and_self, Bool.true_and]
  congr 1
  rw [List.drop_take, List.length_drop]
  congr 1
  omega
end atp
end Go.Proofs.YtckpiaigoeicfaaGreatDoor
/-! NumP -/
namespace Go.Proofs.YtckpiaigoeicfaaGreatDoor
namespace atp
set_option linter.unusedVariables false
set_option linter.unusedSimpArgs false
theorem all_digit {c : UInt8} {r : List UInt8} (h : (c :: r).all digit = true) : 48 ≤ c.toNat ∧ c.toNat ≤ 57 ∧ r.all digit = true := by
  rw [List.all_cons, Bool.and_eq_true] at h
  have := h.1
  unfold digit at this
  rw [decide_eq_true_iff] at this
  exact ⟨this.1, this.2, h.2⟩
theorem parse_fold : ∀ (l : List UInt8) (acc : Nat), l.all digit = true → (acc + 1) * 10 ^ l.length ≤ 1000000000000000000 → Lib.parseUint10 acc l = .ok (l.foldl (fun n c => 10 * n + (c.toNat - 48)) acc) ∧ l.foldl (fun n c => 10 * n + (c.toNat - 48)) acc < 1000000000000000000
  | [], acc, _, hb => by
    simp only [List.length_nil, Nat.pow_zero, Nat.mul_one] at hb
    exact ⟨rfl, by show acc < _; omega⟩
  | c :: r, acc, h, hb => by
    obtain ⟨h1, h2, h3⟩ := all_digit h
    rw [List.length_cons, Nat.pow_succ] at hb
    have hp : 0 < 10 ^ r.length := Nat.pos_of_ne_zero (by simp)
    have hacc : (acc + 1) * 10 ≤ 1000000000000000000 := by
      refine Nat.le_trans ?_ hb
      rw [Nat.mul_comm (10 ^ r.length) 10, ← Nat.mul_assoc]
      exact Nat.le_mul_of_pos_right _ hp
    have hstep : (acc * 10 + (c.toNat - 48) + 1) * 10 ^ r.length ≤ 1000000000000000000 := by
      refine Nat.le_trans (Nat.mul_le_mul_right _ (show acc * 10 + (c.toNat - 48) + 1 ≤ (acc + 1) * 10 by omega)) ?_
      rw [Nat.mul_assoc, Nat.mul_comm 10]
      exact hb
    obtain ⟨i1, i2⟩ := parse_fold r (acc * 10 + (c.toNat - 48)) h3 hstep
    have e : 10 * acc + (c.toNat - 48) = acc * 10 + (c.toNat - 48) := by omega
    rw [List.foldl_cons, e]
    refine ⟨?_, i2⟩
    unfold Lib.parseUint10
    rw [if_pos ⟨h1, h2⟩, if_neg (by omega), if_neg (by omega)]
    exact i1
theorem worthN_parse {l : List UInt8} (h : l.all digit = true) (hl : l.length ≤ 18) (h0 : l ≠ []) : Lib.parseMag l = .ok (worthN l) ∧ worthN l < 1000000000000000000 := by
  have hp : (0 + 1) * 10 ^ l.length ≤ 1000000000000000000 := by
    rw [Nat.zero_add, Nat.one_mul]
    refine Nat.le_trans (Nat.pow_le_pow_right (by omega) hl) ?_
    decide
  obtain ⟨i1, i2⟩ := parse_fold l 0 h hp
  unfold Lib.parseMag
  rw [if_neg h0]
  exact ⟨i1, i2⟩
theorem digit_45 : digit 45 = false := by decide
/-- Atoi on a number -/
theorem atoi_num {l : List UInt8} (h : numOK l = true) : Lib.atoiAll l = .ok (worth l) ∧ -1000000000000000000 < worth l ∧ worth l < 1000000000000000000 := by
  unfold numOK at h
  rw [Bool.or_eq_true] at h
  rcases h with h | h
  · rw [decide_eq_true_iff] at h
    subst h
    decide
  · simp only [Bool.and_eq_true, decide_eq_true_eq] at h
    obtain ⟨⟨⟨h1, h2⟩, h3⟩, h4⟩ := h
    have hne : bare l ≠ [] := by intro e; rw [e] at h1; simp at h1
    obtain ⟨i1, i2⟩ := worthN_parse h4 h2 hne
    unfold worth
    cases l with
    | nil => unfold bare at hne; simp at hne
    | cons c r =>
      by_cases hc : c = 45
      · subst hc
        have hb : bare (45 :: r) = r := by unfold bare; simp
        rw [hb] at i1 i2 ⊢
        rw [if_pos (by rfl)]
        refine ⟨?_, by omega, by omega⟩
        unfold Lib.atoiAll
        simp only []
        rw [if_pos (show (45 : UInt8).toNat = 43 ∨ (45 : UInt8).toNat = 45 from Or.inr rfl), i1]
        simp only [show (45 : UInt8).toNat = 45 from rfl, not_true_eq_false, false_and, if_false, true_and, if_true]
        rw [if_neg (by omega)]
      · have hb : bare (c :: r) = c :: r := by unfold bare; rw [if_neg (by simp [hc])]
        rw [hb] at i1 i2 h4 ⊢
        obtain ⟨d1, d2, _⟩ := all_digit h4
        have hn : ¬ (c.toNat = 43 ∨ c.toNat = 45) := by omega
        have hn2 : ¬ c.toNat = 45 := by omega
        rw [if_neg (by simp [hc])]
        refine ⟨?_, by omega, by omega⟩
        unfold Lib.atoiAll
        simp only []
        rw [if_neg hn, i1]
        simp only [hn2, not_false_eq_true, true_and, false_and, if_false]
        rw [if_neg (by omega)]
end atp
end Go.Proofs.YtckpiaigoeicfaaGreatDoor
