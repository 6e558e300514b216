/- The walk of the scanner's value: up to a sign that ends it. -/
import Derived.Test.YtjjbmhndakmkbaaGreatDoorEscW
import Derived.Test.YtjjbmhndakmkbaaGreatDoorBuildS
namespace Go.Proofs.YtjjbmhndakmkbaaGreatDoor
open Go.RowKit
namespace dnw
open dnp
set_option linter.unusedVariables false
set_option linter.unusedSimpArgs false
/-- what value leaves -/
def ValE (b : Nat) (s : ByteArray) (i : Nat) (w : World) (e : Ending) (w' : World) : Prop :=
  w.grownBy w' (some b) ∧ match valueP (s.data.toList.drop i) with
    | none => ∃ j, e = .returned (.tuple #[.string ⟨#[]⟩, .bool false]) ∧ Sc w' b s j
    | some (t, r) => ∃ j, e = .returned (.tuple #[.string ⟨t.toArray⟩, .bool true]) ∧ i ≤ j ∧ j ≤ s.size ∧ s.data.toList.drop j = r ∧ Sc w' b s j
theorem row_same {w w' : World} {B n : Nat} {e : TypeId} {sz : Nat} {v : Value} {xs : List Value} (h : w.ownsRow B e sz v n xs) (hb : ∀ k, v.ownBlock = some k → w'.heap[k]? = w.heap[k]?) : w'.ownsRow B e sz v n xs := by
  refine ⟨h.1, ?_⟩
  rcases h.2 with h0 | ⟨g, cap, cur, hv, hBg, hg, h1, h2, h3, h4⟩
  · exact Or.inl h0
  · exact Or.inr ⟨g, cap, cur, hv, hBg, (hb g (by rw [hv]; rfl)).trans hg, h1, h2, h3, h4⟩
/-- a row of bytes that the call owns -/
def OwnB (w : World) (B : Nat) (v : Value) (l : List UInt8) : Prop := w.ownsRow B 5 1 v (Lib.byteCells l).length (Lib.byteCells l)
theorem ownB_nil (w : World) (B : Nat) : OwnB w B (.slice none 0 0) [] := World.ownsRow_nil _ _ _ _
theorem ownB_set {w : World} {B b n : Nat} {v u : Value} {l : List UInt8} (h : OwnB w B v l) (hb : b < B) : OwnB ((w.drewN n).setCell ⟨b, 1, none⟩ u) B v l :=
  row_same (w := w) h fun k hk => by
    have := (World.ownsRow.lt h k hk).1
    exact Below.heap_setCell (w.drewN n) ⟨b, 1, none⟩ u k (by show k ≠ b; omega)
theorem ownB_drewN {w : World} {B n : Nat} {v : Value} {l : List UInt8} (h : OwnB w B v l) : OwnB (w.drewN n) B v l := row_same (w := w) h fun k _ => rfl
theorem ownB_form {w : World} {B : Nat} {v : Value} {l : List UInt8} (h : OwnB w B v l) : ∃ (ao : Option Addr) (cap : Nat), v = .slice ao l.length cap ∧ l.length ≤ cap := by
  obtain ⟨ao, cap, hv, _, hc⟩ := kt.row_slice h
  rw [Lib.byteCells_length] at hv hc
  exact ⟨ao, cap, hv, hc⟩
theorem ownB_gr {w w' : World} {B b : Nat} {v : Value} {l : List UInt8} (h : OwnB w B v l) (hb : b < B) (hg : w.grownBy w' (some b)) : OwnB w' B v l :=
  row_same h fun k hk => by
    obtain ⟨h1, h2⟩ := World.ownsRow.lt h k hk
    exact hg.block k h2 (by intro e; cases e; omega)
theorem ownB_app {w : World} {B : Nat} {v : Value} {l : List UInt8} (x : UInt8) (hown : OwnB w B v l) (hl : l.length ≤ 100000000) (hbase : B ≤ w.heap.size) :
    ∃ v' w1, (Builtin.append_ #[61, 61] 61 #[v, .slice (some ⟨w.heap.size, 0, none⟩) 1 1]).run Tryz.prog (w.alloc (.cells #[.int .u8 (x.toNat : Int)] 5)) = .ok v' w1 ∧ OwnB w1 B v' (l ++ [x]) ∧ Below B w w1 := by
  obtain ⟨v', w1, h1, h2, _, h3⟩ := kt.app1 (P := Tryz.prog) (t := 61) (ty := 61) Tryz.underlying61 bld.infoByte rfl (.int .u8 (x.toNat : Int)) rfl hown (by rw [Lib.byteCells_length]; unfold maxLen; omega) (by rw [Lib.byteCells_length]; omega) hbase
  refine ⟨v', w1, h1, ?_, h3⟩
  unfold OwnB
  rw [Lib.byteCells_append]
  exact h2
theorem ownB_str {w : World} {B k cap : Nat} {ao : Option Addr} {l : List UInt8} (h : OwnB w B (.slice ao l.length cap) l) (hk : k ≤ l.length) :
    (convert 61 9 (.slice ao k cap)).run Tryz.prog w = .ok (.string ⟨(l.take k).toArray⟩) w := by
  by_cases hl : l.length = 0
  · obtain rfl : l = [] := List.eq_nil_of_length_eq_zero hl
    obtain rfl : k = 0 := by simp at hk; exact hk
    rcases h.2 with ⟨hv, _⟩ | ⟨g, cap', cur, hv, _, hg, _⟩
    · simp only [Value.slice.injEq] at hv
      obtain ⟨rfl, _, rfl⟩ := hv
      exact Lib.run_convert_nil_bytes w 61 9 5 0 Tryz.underlying61 Tryz.underlying5 Tryz.underlying9
    · simp only [Value.slice.injEq] at hv
      obtain ⟨rfl, _, _⟩ := hv
      exact run_convert_bytes_back w 61 9 5 ⟨g, 0, none⟩ cap [] Tryz.underlying61 Tryz.underlying5 Tryz.underlying9 (fun j hj => by simp at hj)
  · have h' : w.ownsRow B 5 1 (.slice ao l.length cap) l.length (Lib.byteCells l) := by
      have := h
      unfold OwnB at this
      rw [Lib.byteCells_length] at this
      exact this
    obtain ⟨g, rfl, hc, _⟩ := kt.row_some h' (by omega)
    have hlen : (l.take k).length = k := by rw [List.length_take]; omega
    have := run_convert_bytes_back (P := Tryz.prog) w 61 9 5 ⟨g, 0, none⟩ cap (l.take k) Tryz.underlying61 Tryz.underlying5 Tryz.underlying9 (fun j hj => by
      rw [kt.addr_add]
      rw [hlen] at hj
      refine hc j _ ?_
      unfold Lib.byteCells
      rw [List.getElem?_map, List.getElem?_eq_getElem (by omega)]
      simp [List.getElem_take])
    rw [hlen] at this
    exact this
theorem trimR_snoc (B : List Sg) (x : Sg) : trimR (B ++ [x]) = if blankS x = true then trimR B else B ++ [x] := by
  unfold trimR
  rw [List.reverse_append, List.reverse_singleton, List.singleton_append, List.dropWhile_cons]
  split
  · rfl
  · simp
theorem trimR_len (B : List Sg) : (trimR B).length ≤ B.length := by
  obtain ⟨a, h1, _⟩ := trimR_split B
  have := congrArg List.length h1
  rw [List.length_append] at this
  omega
theorem trimR_take (B : List Sg) : (B.map (·.1)).take (trimR B).length = (trimR B).map (·.1) := by
  obtain ⟨a, h1, _⟩ := trimR_split B
  have h2 : B.map (·.1) = (trimR B).map (·.1) ++ a.map (·.1) := by
    rw [← List.map_append, ← h1]
  rw [h2, List.take_append_of_le_length (by rw [List.length_map]; exact Nat.le_refl _), List.take_of_length_le (by rw [List.length_map]; exact Nat.le_refl _)]
/-- how far the value's loop has gone -/
def ScanAt (s : ByteArray) (j1 j : Nat) (B : List Sg) : Prop := scan (s.data.toList.drop j1) = (scan (s.data.toList.drop j)).map fun p => (B ++ p.1, p.2)
theorem valE_none {b i j : Nat} {s : ByteArray} {w w' : World} (hg : w.grownBy w' (some b)) (hs : Sc w' b s j) (h : valueP (s.data.toList.drop i) = none) : ValE b s i w (.returned (.tuple #[.string ⟨#[]⟩, .bool false])) w' := by
  refine ⟨hg, ?_⟩
  rw [h]
  exact ⟨j, rfl, hs⟩
theorem valE_some {b i j : Nat} {s : ByteArray} {w w' : World} {t r : List UInt8} (hg : w.grownBy w' (some b)) (hs : Sc w' b s j) (h : valueP (s.data.toList.drop i) = some (t, r)) (hij : i ≤ j) (hj : j ≤ s.size) (hr : s.data.toList.drop j = r) : ValE b s i w (.returned (.tuple #[.string ⟨t.toArray⟩, .bool true])) w' := by
  refine ⟨hg, ?_⟩
  rw [h]
  exact ⟨j, rfl, hij, hj, hr, hs⟩
theorem valueP_at {s : ByteArray} {i j1 : Nat} (hD : s.data.toList.drop j1 = (s.data.toList.drop i).dropWhile (· = 32)) : valueP (s.data.toList.drop i) = if (s.data.toList.drop j1).head? = some 35 then none else (scan (s.data.toList.drop j1)).map fun p => ((trimR p.1).map (·.1), p.2) := by
  unfold valueP
  rw [← hD]
theorem u8_sep (c : UInt8) : isSep c = true ↔ (c.toNat : Int) = 44 ∨ (c.toNat : Int) = 59 ∨ (c.toNat : Int) = 43 := by
  have all : ∀ m : Fin 256, isSep (UInt8.ofNat m.val) = decide ((m.val : Int) = 44 ∨ (m.val : Int) = 59 ∨ (m.val : Int) = 43) := by decide +kernel
  have h := all ⟨c.toNat, c.toNat_lt⟩
  simp only [UInt8.ofNat_toNat] at h
  rw [h, decide_eq_true_iff]
theorem u8_bad (c : UInt8) : bad c = true ↔ (c.toNat : Int) = 34 ∨ (c.toNat : Int) = 60 ∨ (c.toNat : Int) = 62 := by
  have all : ∀ m : Fin 256, bad (UInt8.ofNat m.val) = decide ((m.val : Int) = 34 ∨ (m.val : Int) = 60 ∨ (m.val : Int) = 62) := by decide +kernel
  have h := all ⟨c.toNat, c.toNat_lt⟩
  simp only [UInt8.ofNat_toNat] at h
  rw [h, decide_eq_true_iff]
theorem scanAt_end {s : ByteArray} {j1 : Nat} {B : List Sg} (h : ScanAt s j1 s.size B) : scan (s.data.toList.drop j1) = some (B, []) := by
  unfold ScanAt at h
  rw [drop_end, scan_nil] at h
  simpa using h
theorem scanAt_sep {s : ByteArray} {j1 j : Nat} {B : List Sg} (h : ScanAt s j1 j B) (hj : j < s.size) (hc : isSep s[j] = true) : scan (s.data.toList.drop j1) = some (B, s.data.toList.drop j) := by
  unfold ScanAt at h
  rw [drop_cons s j hj, scan_sep _ _ hc] at h
  rw [h, drop_cons s j hj]
  simp
theorem scanAt_bad {s : ByteArray} {j1 j : Nat} {B : List Sg} (h : ScanAt s j1 j B) (hj : j < s.size) (hs : isSep s[j] = false) (hc : bad s[j] = true) : scan (s.data.toList.drop j1) = none := by
  unfold ScanAt at h
  rw [drop_cons s j hj, scan_bad _ _ hs hc] at h
  rw [h]; rfl
theorem scanAt_bare {s : ByteArray} {j1 j : Nat} {B : List Sg} (h : ScanAt s j1 j B) (hj : j < s.size) (hs : isSep s[j] = false) (hc : bad s[j] = false) (h92 : s[j] ≠ 92) : ScanAt s j1 (j + 1) (B ++ [(s[j], true)]) := by
  unfold ScanAt at *
  rw [drop_cons s j hj, scan_bare _ _ hs hc h92, Option.map_map] at h
  rw [h]
  congr 1
  funext p
  simp
theorem scanAt_none {s : ByteArray} {j1 j : Nat} {B : List Sg} (h : ScanAt s j1 j B) (hj : j < s.size) (hc : s[j] = 92) (he : esc (s.data.toList.drop (j + 1)) = none) : scan (s.data.toList.drop j1) = none := by
  unfold ScanAt at h
  rw [drop_cons s j hj, hc, scan_none _ he] at h
  rw [h]; rfl
theorem scanAt_esc {s : ByteArray} {j1 j n : Nat} {d : UInt8} {B : List Sg} (h : ScanAt s j1 j B) (hj : j < s.size) (hc : s[j] = 92) (he : esc (s.data.toList.drop (j + 1)) = some (d, n)) : ScanAt s j1 (j + 1 + n) (B ++ [(d, false)]) := by
  unfold ScanAt at *
  rw [drop_cons s j hj, hc, scan_esc _ _ _ he, Option.map_map, List.drop_drop] at h
  rw [h]
  congr 1
  funext p
  simp
theorem valueP_none {s : ByteArray} {i j1 : Nat} (hD : s.data.toList.drop j1 = (s.data.toList.drop i).dropWhile (· = 32)) (h : scan (s.data.toList.drop j1) = none) : valueP (s.data.toList.drop i) = none := by
  rw [valueP_at hD, h]; simp
theorem valueP_some {s : ByteArray} {i j1 : Nat} {B : List Sg} {r : List UInt8} (hD : s.data.toList.drop j1 = (s.data.toList.drop i).dropWhile (· = 32)) (h35 : ¬ (s.data.toList.drop j1).head? = some 35) (h : scan (s.data.toList.drop j1) = some (B, r)) : valueP (s.data.toList.drop i) = some ((trimR B).map (·.1), r) := by
  rw [valueP_at hD, if_neg h35, h]; rfl
/-- the value's loop: what is carried -/
def ValRel (w wr : World) (b : Nat) (s : ByteArray) (j1 j : Nat) (B : List Sg) (ao : Option Addr) (n cap K : Nat) : Prop :=
  Sc wr b s j ∧ w.grownBy wr (some b) ∧ OwnB wr w.heap.size (.slice ao n cap) (B.map (·.1)) ∧ n = B.length ∧ n ≤ cap ∧ K = (trimR B).length ∧ ScanAt s j1 j B ∧ B.length ≤ j
theorem valRel_str {w wr : World} {b j1 j n cap K : Nat} {s : ByteArray} {B : List Sg} {ao : Option Addr} (h : ValRel w wr b s j1 j B ao n cap K) : (convert 61 9 (.slice ao K cap)).run Tryz.prog wr = .ok (.string ⟨((trimR B).map (·.1)).toArray⟩) wr := by
  obtain ⟨_, _, h3, h4, _, h6, _⟩ := h
  have h3' : OwnB wr w.heap.size (.slice ao (B.map (·.1)).length cap) (B.map (·.1)) := by rw [List.length_map, ← h4]; exact h3
  have hk := trimR_len B
  have := ownB_str h3' (k := K) (by rw [List.length_map, h6]; exact hk)
  rw [this, h6, trimR_take]
theorem valRel_drewN {w wr : World} {b j1 j n cap K : Nat} {s : ByteArray} {B : List Sg} {ao : Option Addr} (h : ValRel w wr b s j1 j B ao n cap K) (q : Nat) : ValRel w (wr.drewN q) b s j1 j B ao n cap K :=
  ⟨sc_drewN h.1 q, gr_drewN h.2.1 q, ownB_drewN h.2.2.1, h.2.2.2⟩
/-- the step past a sign: the scanner moves on -/
theorem valRel_move {w wr : World} {b j1 j n cap K : Nat} {s : ByteArray} {B : List Sg} {ao : Option Addr} (h : ValRel w wr b s j1 j B ao n cap K) (hb : b < w.heap.size) : Sc (wr.setCell ⟨b, 1, none⟩ (.int .i64 ((j : Int) + 1))) b s (j + 1) ∧ w.grownBy (wr.setCell ⟨b, 1, none⟩ (.int .i64 ((j : Int) + 1))) (some b) ∧ OwnB (wr.setCell ⟨b, 1, none⟩ (.int .i64 ((j : Int) + 1))) w.heap.size (.slice ao n cap) (B.map (·.1)) :=
  ⟨sc_inc0 h.1, gr_set0 h.2.1 _, ownB_set (n := 0) h.2.2.1 hb⟩
/-- a sign laid behind -/
theorem valRel_app {w wr : World} {b j1 j j2 n cap K : Nat} {s : ByteArray} {B : List Sg} {ao : Option Addr} (x : Sg) (h : ValRel w wr b s j1 j B ao n cap K) (hs : s.size ≤ 10000) (hj : j ≤ s.size) (hb : b < w.heap.size) {w3 : World} (h1 : Sc w3 b s j2) (h2 : w.grownBy w3 (some b)) (h3 : OwnB w3 w.heap.size (.slice ao n cap) (B.map (·.1))) (hS : ScanAt s j1 j2 (B ++ [x])) (hj2 : j + 1 ≤ j2) :
    ∃ ao' cap' w4, (Builtin.append_ #[61, 61] 61 #[.slice ao n cap, .slice (some ⟨w3.heap.size, 0, none⟩) 1 1]).run Tryz.prog (w3.alloc (.cells #[.int .u8 (x.1.toNat : Int)] 5)) = .ok (.slice ao' (n + 1) cap') w4 ∧ n + 1 ≤ cap' ∧ posOf w4 b = j2 ∧
      ValRel w w4 b s j1 j2 (B ++ [x]) ao' (n + 1) cap' (if blankS x = true then K else n + 1) := by
  obtain ⟨_, _, _, k4, k5, k6, _, k8⟩ := h
  obtain ⟨v', w4, hap, hO4, hB4⟩ := ownB_app x.1 h3 (by rw [List.length_map]; omega) h2.size
  obtain ⟨ao', cap', rfl, hc'⟩ := ownB_form hO4
  have hl : (B.map (·.1) ++ [x.1]).length = n + 1 := by simp [k4]
  rw [hl] at hap hc' hO4
  have hS4 : Sc w4 b s j2 := (hB4.block b hb).trans h1
  refine ⟨ao', cap', w4, hap, hc', posOf_sc hS4, hS4, ⟨hB4.os.trans h2.os, hB4.tape.trans h2.tape, hB4.output.trans h2.output, Nat.le_trans h2.size hB4.size, fun k hk hne => (hB4.block k hk).trans (h2.block k hk hne)⟩, ?_, by simp [k4], hc', ?_, hS, by simp; omega⟩
  · have e : (B ++ [x]).map (·.1) = B.map (·.1) ++ [x.1] := by simp
    rw [e]
    exact hO4
  · rw [trimR_snoc]
    split
    · exact k6
    · simp [k4]
set_option maxRecDepth 100000 in
set_option maxHeartbeats 4000000 in
theorem value_any (b : Nat) (s : ByteArray) (i : Nat) (w : World) (hS : Hid (Sc w b s i)) (hi : i ≤ s.size) (hs : s.size ≤ 10000) :
    Calls Tryz.prog 28 #[.pointer (some ⟨b, 0, none⟩)] w fun e w' => ValE b s i w e w' := by
  have CB := Lib.hid (blanks_any b s i w hS hi (by omega))
  have hbw : b < w.heap.size := (sc_cells hS.out).2.2.2
  go_enter Tryz.func28, Tryz.ntmps28
  go_wp2_with fail
  refine CB.out.mono ?_
  rintro e w1 ⟨rfl, j1, hij1, hj1, hD1, hS1, hG1⟩
  obtain ⟨c0, c1, f1, hb1⟩ := sc_cells hS1
  have HS1 := Lib.hid hS1
  have HD1 := Lib.hid hD1
  have HG1 := Lib.hid hG1
  obtain ⟨U, hU⟩ : ∃ U : ByteArray, s.extract j1 s.size = U := ⟨_, rfl⟩
  have hUd : U.data.toList = s.data.toList.drop j1 := by rw [← hU, Lib.extract_to_end]
  have CP : ∀ W : World, Calls Tryz.prog 43 #[.string U, .string ⟨#[35]⟩] W fun e w' => e = .returned (.bool (Lib.hasPrefix U.data.toList [35])) ∧ w' = W := fun W => Tryz.strings_HasPrefix U ⟨#[35]⟩ W
  have hpx : Lib.hasPrefix U.data.toList [35] = true ↔ (s.data.toList.drop j1).head? = some 35 := by
    rw [hUd]
    unfold Lib.hasPrefix
    cases s.data.toList.drop j1 with
    | nil => simp [List.isPrefixOf]
    | cons c t => simp [List.isPrefixOf]; exact eq_comm
  have hj1' : (j1 : Int) ≤ (s.size : Int) := by omega
  have hj10 : (0 : Int) ≤ (j1 : Int) := by omega
  clear hS1 hD1 hG1 CB hUd
  by_cases h35 : (s.data.toList.drop j1).head? = some 35
  · have hp := hpx.2 h35
    rw [hp] at CP
    have HCP := Lib.hid CP
    have HN : Hid (valueP (s.data.toList.drop i) = none) := by show _ = _; rw [valueP_at HD1.out, if_pos h35]
    clear hpx h35 CP hp
    go_wp2_with fail
    go_quiet ((go_at_call 43; exact Calls.quiet_of_same (HCP.out _)))
    go_wp2_with fail
    go_ret2
    exact valE_none (gr_drewN HG1.out _) (sc_drewN HS1.out _) HN.out
  · have hp : Lib.hasPrefix U.data.toList [35] = false := by
      rw [Bool.eq_false_iff]
      exact fun e => h35 (hpx.1 e)
    rw [hp] at CP
    have HCP := Lib.hid CP
    have H35 := Lib.hid h35
    clear hpx h35 CP hp
    go_wp2_with fail
    go_quiet ((go_at_call 43; exact Calls.quiet_of_same (HCP.out _)))
    go_wp2_with fail
    have HS1' := Lib.hid (sc_drewN HS1.out nq)
    have HG1' := Lib.hid (gr_drewN HG1.out nq)
    clear c0 c1 f1 HS1 HG1 hU HCP
    generalize w1.drewN nq = w2 at HS1' HG1' ⊢
    go_loopw [4, 5, 6, 7, 8] (fun bv kv _ _ _ wr => ∃ (j n cap K : Nat) (B : List Sg) (ao : Option Addr), j1 ≤ j ∧ j ≤ s.size ∧ bv = .slice ao n cap ∧ kv = .int .i64 (K : Int) ∧ K ≤ n ∧ n ≤ cap ∧ Hid (ValRel w wr b s j1 j B ao n cap K)) (fun _ _ _ _ _ wr => s.size - posOf wr b)
    case atStart => exact ⟨j1, 0, 0, 0, [], none, Nat.le_refl _, hj1, rfl, rfl, Nat.le_refl _, Nat.le_refl _, HS1'.out, HG1'.out, ownB_nil _ _, rfl, Nat.le_refl _, rfl, by unfold ScanAt; simp, Nat.zero_le _⟩
    case round =>
      obtain ⟨j, n, cap, K, B, ao, hj1j, hj, rfl, rfl, hKn, hnc, hV⟩ := hrel
      obtain ⟨c0, c1, f1, hb⟩ := sc_cells hV.out.1
      by_cases hlt : j < s.size
      · have hlt' : (j : Int) < (s.size : Int) := by omega
        have hp2 := posOf_sc hV.out.1
        have HP2 := Lib.hid hp2
        clear hp2
        go_wp2_with fail
        go_quiet (fail)
        go_wp2_with fail
        have HV2 := Lib.hid (valRel_drewN hV.out nq)
        clear c0 c1 f1 hb hV
        generalize wr.drewN nq = wr2 at HV2 ⊢
        obtain ⟨c0, c1, f1, hb⟩ := sc_cells HV2.out.1
        go_quiet (fail)
        have HV3 := Lib.hid (valRel_drewN HV2.out nq)
        clear c0 c1 f1 hb HV2
        generalize wr2.drewN nq = wr3 at HV3 ⊢
        obtain ⟨c0, c1, f1, hb⟩ := sc_cells HV3.out.1
        have g256 : ((s[j]'hlt).toNat : Int) < 256 := by have := (s[j]'hlt).toNat_lt; omega
        by_cases hsep : isSep (s[j]'hlt) = true
        · have hst := valRel_str HV3.out
          have hcn := (u8_sep _).1 hsep
          have HR : Hid (valueP (s.data.toList.drop i) = some ((trimR B).map (·.1), s.data.toList.drop j)) := valueP_some HD1.out H35.out (scanAt_sep HV3.out.2.2.2.2.2.2.1 hlt hsep)
          clear hsep
          have hK2 : (K : Int) ≤ (cap : Int) := by omega
          go_wp2_with fail
          all_goals first
            | (go_ret2; exact valE_some HV3.out.2.1 HV3.out.1 HR.out (by omega) hj rfl)
            | (exfalso; simp only [beq_eq_false_iff_ne, ne_eq] at *; omega)
        · have hsep' : isSep (s[j]'hlt) = false := by simpa using hsep
          have hn3 : ¬ (((s[j]'hlt).toNat : Int) = 44 ∨ ((s[j]'hlt).toNat : Int) = 59 ∨ ((s[j]'hlt).toNat : Int) = 43) := fun e => hsep ((u8_sep _).2 e)
          have q44a : (((s[j]'hlt).toNat : Int) == 44) = false := by rw [beq_eq_false_iff_ne]; omega
          have q59a : (((s[j]'hlt).toNat : Int) == 59) = false := by rw [beq_eq_false_iff_ne]; omega
          have q43a : (((s[j]'hlt).toNat : Int) == 43) = false := by rw [beq_eq_false_iff_ne]; omega
          clear hn3 hsep
          by_cases hbad : bad (s[j]'hlt) = true
          · have HR : Hid (valueP (s.data.toList.drop i) = none) := valueP_none HD1.out (scanAt_bad HV3.out.2.2.2.2.2.2.1 hlt hsep' hbad)
            have hcn := (u8_bad _).1 hbad
            clear hbad hsep'
            go_wp2_with fail
            all_goals first
              | (go_ret2; exact valE_none HV3.out.2.1 HV3.out.1 HR.out)
              | (exfalso; simp only [beq_eq_false_iff_ne, ne_eq] at *; omega)
          · have hbad' : bad (s[j]'hlt) = false := by simpa using hbad
            have hn3 : ¬ (((s[j]'hlt).toNat : Int) = 34 ∨ ((s[j]'hlt).toNat : Int) = 60 ∨ ((s[j]'hlt).toNat : Int) = 62) := fun e => hbad ((u8_bad _).2 e)
            have q34a : (((s[j]'hlt).toNat : Int) == 34) = false := by rw [beq_eq_false_iff_ne]; omega
            have q60a : (((s[j]'hlt).toNat : Int) == 60) = false := by rw [beq_eq_false_iff_ne]; omega
            have q62a : (((s[j]'hlt).toNat : Int) == 62) = false := by rw [beq_eq_false_iff_ne]; omega
            clear hn3 hbad
            obtain ⟨m1, m2, m3⟩ := valRel_move HV3.out hbw
            have M1 := Lib.hid m1
            have M2 := Lib.hid m2
            have M3 := Lib.hid m3
            clear m1 m2 m3
            by_cases h92 : ((s[j]'hlt).toNat : Int) = 92
            · have q92 : (((s[j]'hlt).toNat : Int) == 92) = true := by rw [beq_iff_eq]; exact h92
              have h92' := Lib.hid (u8_eq (n := 92) (by omega) h92)
              clear h92
              have CE := escaped_any b s (j + 1) (wr3.setCell ⟨b, 1, none⟩ (.int .i64 ((j : Int) + 1))) M1 (by omega) hs
              cases he : esc (s.data.toList.drop (j + 1)) with
              | none =>
                have HR : Hid (valueP (s.data.toList.drop i) = none) := valueP_none HD1.out (scanAt_none HV3.out.2.2.2.2.2.2.1 hlt h92'.out he)
                have HCE : Hid (Calls Tryz.prog 44 #[.pointer (some ⟨b, 0, none⟩)] (wr3.setCell ⟨b, 1, none⟩ (.int .i64 ((j : Int) + 1))) fun e w' => (wr3.setCell ⟨b, 1, none⟩ (.int .i64 ((j : Int) + 1))).grownBy w' (some b) ∧ ∃ j', e = .returned (.tuple #[.int .u8 0, .bool false]) ∧ Sc w' b s j') := by
                  refine CE.mono fun e w' h => ?_
                  unfold EscE at h
                  rw [he] at h
                  exact h
                clear CE he hbad' hsep'
                go_wp2_with fail
                refine HCE.out.mono ?_
                rintro e w5 ⟨hg5, j', rfl, hS5⟩
                go_wp2_with fail
                go_ret2
                exact valE_none (gr_trans M2.out hg5) hS5 HR.out
              | some p =>
                obtain ⟨d, n'⟩ := p
                obtain ⟨hn1, hn2, hn3⟩ := esc_two he
                have hjn : j + 1 + n' ≤ s.size := by
                  rw [List.length_drop, kt.size_len] at hn3
                  omega
                have HSA := Lib.hid (scanAt_esc HV3.out.2.2.2.2.2.2.1 hlt h92'.out he)
                have HCE : Hid (Calls Tryz.prog 44 #[.pointer (some ⟨b, 0, none⟩)] (wr3.setCell ⟨b, 1, none⟩ (.int .i64 ((j : Int) + 1))) fun e w' => (wr3.setCell ⟨b, 1, none⟩ (.int .i64 ((j : Int) + 1))).grownBy w' (some b) ∧ e = .returned (.tuple #[.int .u8 (d.toNat : Int), .bool true]) ∧ Sc w' b s (j + 1 + n')) := by
                  refine CE.mono fun e w' h => ?_
                  unfold EscE at h
                  rw [he] at h
                  exact h
                clear CE he hbad' hsep' hn3
                go_wp2_with fail
                refine HCE.out.mono ?_
                rintro e w5 ⟨hg5, rfl, hS5⟩
                have HO5 := Lib.hid (ownB_gr M3.out hbw hg5)
                have HG5 := Lib.hid (gr_trans M2.out hg5)
                obtain ⟨ao', cap', w6, hap, hc6, hpos, hV6⟩ := valRel_app (x := (d, false)) HV3.out hs hj hbw hS5 HG5.out HO5.out HSA.out (by omega)
                dsimp only at hap
                rw [if_neg (show ¬ blankS (d, false) = true from by simp [blankS])] at hV6
                have HV6 := Lib.hid hV6
                have HPOS := Lib.hid hpos
                clear hV6 hpos hg5 hS5 HCE c0 c1 f1
                go_wp2_with (at_builtin; refine Lib.wpList_append_run _ rfl _ _ _ _ rfl _ _ rfl rfl _ _ hap ?_)
                go_roundw
                case rel => exact ⟨j + 1 + n', n + 1, cap', n + 1, _, ao', by omega, hjn, rfl, by go_num, Nat.le_refl _, hc6, HV6⟩
                case measure => rw [HPOS.out, HP2.out]; omega
            · have q92 : (((s[j]'hlt).toNat : Int) == 92) = false := by rw [beq_eq_false_iff_ne]; exact h92
              have h92' : s[j] ≠ 92 := u8_ne (n := 92) (by omega) h92
              have hSA := scanAt_bare HV3.out.2.2.2.2.2.2.1 hlt hsep' hbad' h92'
              obtain ⟨ao', cap', w4, hap, hc4, hpos, hV4⟩ := valRel_app (x := (s[j], true)) HV3.out hs hj hbw M1.out M2.out M3.out hSA (Nat.le_refl _)
              simp only [World.size_setCell] at hap
              have HPOS := Lib.hid hpos
              have hbl := blankS_bare (s[j]'hlt)
              by_cases h32 : ((s[j]'hlt).toNat : Int) = 32
              · have q32a : (((s[j]'hlt).toNat : Int) == 32) = true := by rw [beq_iff_eq]; exact h32
                have q32b : (((s[j]'hlt).toNat : Int) != 32) = false := by rw [bne_eq_false_iff_eq]; exact h32
                have hb32 : blankS (s[j], true) = true := by rw [hbl, decide_eq_true_iff]; exact u8_eq (n := 32) (by omega) h32
                rw [if_pos hb32] at hV4
                have HV4 := Lib.hid hV4
                clear hb32 hbl hV4 hSA h92 h92' h32 hsep' hbad' hpos
                go_wp2_with (at_builtin; refine Lib.wpList_append_run _ rfl _ _ _ _ rfl _ _ rfl rfl _ _ hap ?_)
                go_roundw
                case rel => exact ⟨j + 1, n + 1, cap', K, _, ao', by omega, by omega, rfl, rfl, by omega, hc4, HV4⟩
                case measure => rw [HPOS.out, HP2.out]; omega
              · have q32a : (((s[j]'hlt).toNat : Int) == 32) = false := by rw [beq_eq_false_iff_ne]; exact h32
                have q32b : (((s[j]'hlt).toNat : Int) != 32) = true := by rw [bne_iff_ne]; exact h32
                have hb32 : blankS (s[j], true) = false := by rw [hbl, decide_eq_false_iff_not]; exact u8_ne (n := 32) (by omega) h32
                rw [if_neg (by rw [hb32]; simp)] at hV4
                have HV4 := Lib.hid hV4
                clear hb32 hbl hV4 hSA h92 h92' h32 hsep' hbad' hpos
                go_wp2_with (at_builtin; refine Lib.wpList_append_run _ rfl _ _ _ _ rfl _ _ rfl rfl _ _ hap ?_)
                go_roundw
                case rel => exact ⟨j + 1, n + 1, cap', n + 1, _, ao', by omega, by omega, rfl, by go_num, Nat.le_refl _, hc4, HV4⟩
                case measure => rw [HPOS.out, HP2.out]; omega
      · obtain rfl : j = s.size := by omega
        have HR : Hid (valueP (s.data.toList.drop i) = some ((trimR B).map (·.1), [])) := valueP_some HD1.out H35.out (scanAt_end hV.out.2.2.2.2.2.2.1)
        have hK2 : (K : Int) ≤ (cap : Int) := by omega
        go_wp2_with fail
        go_quiet (fail)
        have HV2 := Lib.hid (valRel_drewN hV.out nq)
        clear c0 c1 f1 hb hV
        generalize wr.drewN nq = wr2 at HV2 ⊢
        have hst := valRel_str HV2.out
        go_wp2_with fail
        go_ret2
        exact valE_some HV2.out.2.1 HV2.out.1 HR.out (by omega) (Nat.le_refl _) (drop_end s)
end dnw
end Go.Proofs.YtjjbmhndakmkbaaGreatDoor
