/- The walk of may. -/
import Derived.Test.YtcmpepojokmhnaaPieceP
namespace Go.Proofs.Ytcmpepojokmhnaa
open Go.RowKit
namespace fre
set_option linter.unusedVariables false
set_option linter.unusedSimpArgs false
/-- of each page whether it was seen -/
def hcN (n : Nat) (here : Nat → Bool) : List Value := (List.range n).map fun k => Value.bool (here k)
def hcells (here : Nat → Bool) : Array Value := (hcN 512 here).toArray
theorem zeroH (w : World) : (zeroValue 53).run Try.prog w = .ok (.agg (hcells fun _ => false)) w := by kernel_rfl
theorem hcN_get (n : Nat) (h : Nat → Bool) (k : Nat) (hk : k < n) : (hcN n h)[k]? = some (.bool (h k)) := by
  unfold hcN
  rw [List.getElem?_map, List.getElem?_range hk]
  rfl
theorem hcells_get (h : Nat → Bool) (k : Nat) (hk : k < 512) : (hcells h)[k]? = some (.bool (h k)) := by
  unfold hcells
  rw [List.getElem?_toArray]
  exact hcN_get 512 h k hk
theorem hcN_set (n : Nat) (h : Nat → Bool) (k : Nat) (b : Bool) (hk : k < n) : (hcN n h).set k (.bool b) = hcN n fun j => if j = k then b else h j := by
  unfold hcN
  apply List.ext_getElem
  · simp
  · intro i h1 h2
    simp only [List.getElem_set, List.getElem_map, List.getElem_range]
    by_cases e : k = i
    · subst e; simp
    · rw [if_neg e, if_neg (fun h => e h.symm)]
theorem hcN_congr (n : Nat) {h k : Nat → Bool} (e : ∀ j, j < n → h j = k j) : hcN n h = hcN n k := by
  unfold hcN
  apply List.map_congr_left
  intro j hj
  rw [e j (by simpa using hj)]
theorem hcells_setk (h : Nat → Bool) (k : Nat) (b : Bool) (hk : k < 512) : (hcells h).setIfInBounds k (.bool b) = hcells (fun j => if j = k then b else h j) := by
  unfold hcells
  rw [List.setIfInBounds_toArray, hcN_set 512 h k b hk]
theorem hcells_congr {h k : Nat → Bool} (e : ∀ j, j < 512 → h j = k j) : hcells h = hcells k := by
  unfold hcells
  rw [hcN_congr 512 e]
theorem hereB_snoc (l : List Fre) (f : Fre) (g : Nat) (hg : f.page = (g : Int)) (j : Nat) : hereB (l ++ [f]) j = if j = g then true else hereB l j := by
  rw [Bool.eq_iff_iff]
  by_cases e : j = g
  · rw [if_pos e, hereB_iff]
    exact ⟨fun _ => rfl, fun _ => ⟨f, by simp, by rw [hg, e]⟩⟩
  · rw [if_neg e, hereB_iff, hereB_iff]
    constructor
    · rintro ⟨x, hx, hp⟩
      rcases List.mem_append.1 hx with hx | hx
      · exact ⟨x, hx, hp⟩
      · simp at hx; subst hx; rw [hg] at hp; omega
    · rintro ⟨x, hx, hp⟩
      exact ⟨x, by simp [hx], hp⟩
theorem okL_snoc {l : List Fre} {i : Nat} (hi : i < l.length) (h : OkL (l.take i)) (h1 : okF l[i]) (h2 : ¬ hereB (l.take i) l[i].page.toNat = true) (h3 : ∀ j, j + 1 = i → ∀ (hj : j < l.length), ltF l[j] l[i]) : OkL (l.take (i + 1)) := by
  rw [List.take_succ_eq_append_getElem hi]
  have hp : l[i].page = (l[i].page.toNat : Int) := by have := h1.2.2.1; omega
  refine ⟨?_, fun f hf => ?_, ?_⟩
  · refine List.pairwise_append.2 ⟨h.1, List.pairwise_singleton _ _, fun a ha b hb => ?_⟩
    rw [List.mem_singleton.1 hb]
    obtain ⟨k, hk, rfl⟩ := List.mem_iff_getElem.1 ha
    have hk' : k < i := by rw [List.length_take] at hk; omega
    rw [List.getElem_take]
    by_cases e : k + 1 = i
    · exact h3 k e (by omega)
    · have hl := h3 (i - 1) (by omega) (by omega)
      have := asc_get h.1 (i := k) (j := i - 1) (by omega) (by rw [List.length_take]; omega)
      rw [List.getElem_take, List.getElem_take] at this
      exact ltF_trans this hl
  · rcases List.mem_append.1 hf with h' | h'
    · exact h.2.1 f h'
    · rw [List.mem_singleton.1 h']; exact h1
  · rw [List.map_append, List.nodup_append]
    refine ⟨h.2.2, by simp, fun a ha b hb => ?_⟩
    simp only [List.map_cons, List.map_nil, List.mem_singleton] at hb
    rw [hb]
    rintro rfl
    obtain ⟨x, hx, e⟩ := List.mem_map.1 ha
    exact h2 ((hereB_iff _ _).2 ⟨x, hx, by rw [e]; exact hp⟩)
/-- what is asked of each -/
theorem okL_take_get {l : List Fre} (h : OkL l) (i : Nat) (hi : i < l.length) : okF l[i] ∧ ¬ hereB (l.take i) l[i].page.toNat = true ∧ ∀ j, j + 1 = i → ∀ (hj : j < l.length), ltF l[j] l[i] := by
  have h1 := h.2.1 l[i] (List.getElem_mem hi)
  refine ⟨h1, fun hh => ?_, fun j hj hj2 => asc_get h.1 (by omega) hi⟩
  obtain ⟨x, hx, e⟩ := (hereB_iff _ _).1 hh
  have hp : l[i].page = (l[i].page.toNat : Int) := by have := h1.2.2.1; omega
  have hn := h.2.2
  rw [← List.take_append_drop i l, List.map_append, List.drop_eq_getElem_cons hi, List.map_cons] at hn
  have := (List.nodup_append.1 hn).2.2 x.page (List.mem_map.2 ⟨x, hx, rfl⟩) l[i].page (by simp)
  exact this (by rw [e]; exact hp.symm)
def BoolAns (P : Prop) (e : Ending) : Prop := ∃ b : Bool, e = .returned (.bool b) ∧ (b = true ↔ P)
theorem ans_no {P Q : Prop} (h : P = Q) (hn : ¬ Q) : BoolAns P (.returned (.bool false)) := ⟨false, rfl, by rw [h]; exact ⟨fun h => absurd h (by decide), fun h => absurd h hn⟩⟩
theorem ans_yes {P Q : Prop} (h : P = Q) (hn : Q) : BoolAns P (.returned (.bool true)) := ⟨true, rfl, by rw [h]; exact ⟨fun _ => hn, fun _ => rfl⟩⟩
theorem lt_of {l : List Fre} {j : Nat} {c d : Fre} {h1 : j < l.length} {h2 : j + 1 < l.length} (h : ltF d c) (hd : d = l[j]) (hc : c = l[j + 1]) : ∀ k, k + 1 = j + 1 → ∀ (hk : k < l.length), ltF l[k] l[j + 1] := by
  intro k hk hk2
  obtain rfl : k = j := by omega
  rw [← hd, ← hc]; exact h
set_option maxRecDepth 20000 in
set_option maxHeartbeats 4000000 in
theorem may_any (next : Int) (ao : Option Addr) (cap : Nat) (l : List Fre) (w : World) (hl : Hid (Fres w ao l)) (hn : l.length ≤ 9223372036854775807) :
    Calls Try.prog 36 #[.int .i64 next, .slice ao l.length cap] w fun e w' => BoolAns (MayP next l) e ∧ Below w.heap.size w w' := by
  obtain ⟨Fp, hF⟩ : ∃ Fp : Prop, Hid (Fp = MayP next l) := ⟨_, rfl⟩
  rw [← hF.out]
  by_cases h0 : next < 0
  · have HN : Hid (¬ MayP next l) := fun h => by have := h.1; omega
    go_enter Try.func36, Try.ntmps36
    go_wp2_with fail
    go_ret
    exact ⟨ans_no hF.out HN.out, Below.refl _ _⟩
  · by_cases h1 : 512 ≤ next
    · have HN : Hid (¬ MayP next l) := fun h => by have := h.2.1; omega
      go_enter Try.func36, Try.ntmps36
      go_wp2_with fail
      go_ret
      exact ⟨ans_no hF.out HN.out, Below.refl _ _⟩
    · by_cases h2 : 40 < l.length
      · have HN : Hid (¬ MayP next l) := fun h => by have := h.2.2.1; omega
        have h2' : 40 < (l.length : Int) := by omega
        go_enter Try.func36, Try.ntmps36
        go_wp2_with fail
        go_ret
        exact ⟨ans_no hF.out HN.out, Below.refl _ _⟩
      · have h2' : ¬ 40 < (l.length : Int) := by omega
        have hl40 : l.length ≤ 40 := by omega
        obtain ⟨cs, hcs⟩ : ∃ cs : Array Value, Hid (cs = hcells fun _ => false) := ⟨_, rfl⟩
        have hz : ∀ w, (zeroValue 53).run Try.prog w = .ok (.agg cs) w := fun w => by rw [hcs.out]; exact zeroH w
        have D0 : Hid ((w.alloc (.cells cs 53)).heap[w.heap.size]? = some (.cells (hcells (hereB [])) 53 (0, 0))) := by
          show _ = _
          rw [heap_alloc_last, hcs.out]
          rfl
        go_enter Try.func36, Try.ntmps36
        go_wp2_with fail
        have HBW0 : Hid (Below w.heap.size w (w.alloc (.cells cs 53))) := (Below.refl _ _).alloc (Nat.le_refl _) _
        clear hz
        go_loopw [21] (fun iv wr => ∃ i : Nat, i ≤ l.length ∧ iv = .int .i64 i ∧ Hid (OkL (l.take i)) ∧ Hid (wr.heap[w.heap.size]? = some (.cells (hcells (hereB (l.take i))) 53 (0, 0))) ∧ Below w.heap.size w wr) (fun iv _ => l.length - (intOf iv).toNat)
        case atStart => exact ⟨0, Nat.zero_le _, rfl, ⟨List.Pairwise.nil, (fun f hf => by simp at hf), List.nodup_nil⟩, D0, HBW0.out⟩
        case round =>
          obtain ⟨i, hi, rfl, hOk, hD, hB⟩ := hrel
          have hsz := hB.size
          by_cases hil : i < l.length
          · have hil' : (i : Int) < (l.length : Int) := by omega
            obtain ⟨c, hc⟩ : ∃ c : Fre, Hid (c = l[i]'hil) := ⟨l[i]'hil, rfl⟩
            obtain ⟨b, o, hao, f0, f1⟩ := (fres_below hl.out hB) i hil
            rw [← hc.out] at f0 f1
            have hB1 : Below w.heap.size w (wr.alloc (.cells #[.int .i64 c.txn, .int .i64 c.page] 28)) := hB.alloc hsz _
            have hlw : w.heap.size < wr.heap.size := kt.bld_lt hD.out
            have hB1r : Below wr.heap.size wr (wr.alloc (.cells #[.int .i64 c.txn, .int .i64 c.page] 28)) := (Below.refl _ _).alloc (Nat.le_refl _) _
            have hx : (wr.alloc (.cells #[.int .i64 c.txn, .int .i64 c.page] 28)).heap[wr.heap.size]? = some (.cells #[.int .i64 c.txn, .int .i64 c.page] 28 (0, 0)) := heap_alloc_last wr _
            have hdd := (hB1r.block _ hlw).trans hD.out
            have hFr := fres_below hl.out hB1
            have HB1 := Lib.hid hB1
            have HX := Lib.hid hx
            have HDD := Lib.hid hdd
            have HFR := Lib.hid hFr
            subst hao
            have RI := Lib.hid (fun w => right_any c w)
            unfold Fre.v at RI
            clear hB1 hB1r hx hdd hFr
            by_cases hok : okF c
            · rw [decide_eq_true hok] at RI
              obtain ⟨g, hg⟩ := Int.eq_ofNat_of_zero_le (show 0 ≤ c.page by have := hok.2.2.1; omega)
              have hg512 : g < 512 := by have := hok.2.2.2; omega
              have hgt : l[i].page.toNat = g := by rw [← hc.out]; omega
              have hcok : okF l[i] := by rw [← hc.out]; exact hok
              have hgi0 : (0 : Int) ≤ (g : Int) := by omega
              have hgi1 : (g : Int) < 512 := by omega
              have HOK := Lib.hid hcok
              have HGT := Lib.hid hgt
              clear hok hcok hgt
              rw [hg] at RI HB1 HX HDD HFR f1
              have HG := Lib.hid hg
              clear hg
              by_cases hh : hereB (l.take i) g = true
              · have HN : Hid (¬ MayP next l) := fun h => (okL_take_get h.2.2.2 i hil).2.1 (by rw [HGT.out]; exact hh)
                go_wp2_with fail
                have hx := HX.out
                have hdd := HDD.out
                generalize wr.alloc (.cells #[.int .i64 c.txn, .int .i64 (g : Int)] 28) = W1 at hx hdd HB1 HFR ⊢
                have x0 : W1.cell? ⟨wr.heap.size, 0, none⟩ = some (.int .i64 c.txn) := by rw [Lib.cell_of_heap hx]; rfl
                have x1 : W1.cell? ⟨wr.heap.size, 1, none⟩ = some (.int .i64 (g : Int)) := by rw [Lib.cell_of_heap hx]; rfl
                have hlx : wr.heap.size < W1.heap.size := kt.bld_lt hx
                have s0 : W1.cell? ⟨w.heap.size, g, none⟩ = some (.bool (hereB (l.take i) g)) := by rw [Lib.cell_of_heap hdd]; exact hcells_get _ _ hg512
                have hls : w.heap.size < W1.heap.size := kt.bld_lt hdd
                rw [hh] at s0
                refine wp_region_held_drew (S := fun W => W.cell? ⟨wr.heap.size, 0, none⟩ = some (.int .i64 c.txn) ∧ W.cell? ⟨wr.heap.size, 1, none⟩ = some (.int .i64 (g : Int)) ∧ W.cell? ⟨w.heap.size, g, none⟩ = some (.bool true)) (by kernel_rfl) (⟨x0, x1, s0⟩) (fun hHeld => ?_)
                refine wpAnyH_take (i := 0) (oi := ⟨some 26, _, _, _, _, _⟩) (v := ?_) rfl (by kernel_rfl) (by kernel_rfl) (by kernel_rfl) (fun _ _ _ h => h) (Or.inl ⟨by rfl, ?_⟩) (by assumption) ?_
                rotate_left 1
                · intro w hSw; (try dsimp only at hSw); go_simp; all_goals with_reducible rfl
                try simp only [Act.put, List.setIfInBounds_toArray, List.set_cons_zero, List.set_cons_succ]
                refine wpAnyH_ready (rs := [1]) (by kernel_rfl) (by simp) ?_
                refine AllReadyH.cons (o := ⟨some 27, _, _, _, _, _⟩) rfl (fun K hK => ?_) AllReadyH.nil
                go_simp
                go_at_call 28; refine (RI.out _).mono ?_; rintro e w' ⟨rfl, hBn⟩
                refine hK.out _ _ (⟨(hBn.cell (p := ⟨wr.heap.size, 0, none⟩) hlx).trans x0, (hBn.cell (p := ⟨wr.heap.size, 1, none⟩) hlx).trans x1, (hBn.cell (p := ⟨w.heap.size, g, none⟩) hls).trans s0⟩) (fun hHeld => ?_)
                clear hK
                try simp only [Act.put, List.setIfInBounds_toArray, List.set_cons_zero, List.set_cons_succ]
                refine wpAnyH_take (i := 2) (oi := ⟨some 28, _, _, _, _, _⟩) (v := ?_) rfl (by kernel_rfl) (by kernel_rfl) (by kernel_rfl) (fun _ _ _ h => h) (Or.inl ⟨by rfl, ?_⟩) (by assumption) ?_
                rotate_left 1
                · intro w hSw; (try dsimp only at hSw); go_simp; all_goals with_reducible rfl
                try simp only [Act.put, List.setIfInBounds_toArray, List.set_cons_zero, List.set_cons_succ]
                refine wpAnyH_take (i := 3) (oi := ⟨some 29, _, _, _, _, _⟩) (v := ?_) rfl (by kernel_rfl) (by kernel_rfl) (by kernel_rfl) (fun _ _ _ h => h) (Or.inl ⟨by rfl, ?_⟩) (by assumption) ?_
                rotate_left 1
                · intro w hSw; (try dsimp only at hSw); go_simp; all_goals with_reducible rfl
                try simp only [Act.put, List.setIfInBounds_toArray, List.set_cons_zero, List.set_cons_succ]
                refine wpAnyH_take (i := 4) (oi := ⟨some 30, _, _, _, _, _⟩) (v := ?_) rfl (by kernel_rfl) (by kernel_rfl) (by kernel_rfl) (fun _ _ _ h => h) (Or.inl ⟨by rfl, ?_⟩) (by assumption) ?_
                rotate_left 1
                · intro w hSw; (try dsimp only at hSw); go_simp; all_goals with_reducible rfl
                try simp only [Act.put, List.setIfInBounds_toArray, List.set_cons_zero, List.set_cons_succ]
                refine wpAnyH_take (i := 5) (oi := ⟨some 31, _, _, _, _, _⟩) (v := ?_) rfl (by kernel_rfl) (by kernel_rfl) (by kernel_rfl) (fun _ _ _ h => h) (Or.inl ⟨by rfl, ?_⟩) (by assumption) ?_
                rotate_left 1
                · intro w hSw; (try dsimp only at hSw); go_simp; all_goals with_reducible rfl
                try simp only [Act.put, List.setIfInBounds_toArray, List.set_cons_zero, List.set_cons_succ]
                refine wpAnyH_take (i := 6) (oi := ⟨some 32, _, _, _, _, _⟩) (v := ?_) rfl (by kernel_rfl) (by kernel_rfl) (by kernel_rfl) (fun _ _ _ h => h) (Or.inl ⟨by rfl, ?_⟩) (by assumption) ?_
                rotate_left 1
                · intro w hSw; (try dsimp only at hSw); go_simp; all_goals with_reducible rfl
                try simp only [Act.put, List.setIfInBounds_toArray, List.set_cons_zero, List.set_cons_succ]
                refine wpAnyH_take (i := 7) (oi := ⟨some 33, _, _, _, _, _⟩) (v := ?_) rfl (by kernel_rfl) (by kernel_rfl) (by kernel_rfl) (fun _ _ _ h => h) (Or.inl ⟨by rfl, ?_⟩) (by assumption) ?_
                rotate_left 1
                · intro w hSw; (try dsimp only at hSw); go_simp; all_goals with_reducible rfl
                try simp only [Act.put, List.setIfInBounds_toArray, List.set_cons_zero, List.set_cons_succ]
                refine wpAnyH_take (i := 8) (oi := ⟨some 34, _, _, _, _, _⟩) (v := ?_) rfl (by kernel_rfl) (by kernel_rfl) (by kernel_rfl) (fun _ _ _ h => h) (Or.inl ⟨by rfl, ?_⟩) (by assumption) ?_
                rotate_left 1
                · intro w hSw; (try dsimp only at hSw); go_simp; all_goals with_reducible rfl
                try simp only [Act.put, List.setIfInBounds_toArray, List.set_cons_zero, List.set_cons_succ]
                refine wpAnyH_take (i := 9) (oi := ⟨some 35, _, _, _, _, _⟩) (v := ?_) rfl (by kernel_rfl) (by kernel_rfl) (by kernel_rfl) (fun _ _ _ h => h) (Or.inl ⟨by rfl, ?_⟩) (by assumption) ?_
                rotate_left 1
                · intro w hSw; (try dsimp only at hSw); go_simp; all_goals with_reducible rfl
                try simp only [Act.put, List.setIfInBounds_toArray, List.set_cons_zero, List.set_cons_succ]
                refine wpAnyH_take (i := 10) (oi := ⟨some 36, _, _, _, _, _⟩) (v := undef) rfl (by kernel_rfl) (by kernel_rfl) (by kernel_rfl) (fun _ _ _ h => h) (Or.inr ⟨by rfl, rfl⟩) (by assumption) ?_
                try simp only [Act.put, List.setIfInBounds_toArray, List.set_cons_zero, List.set_cons_succ]
                refine wpAnyH_take (i := 11) (oi := ⟨some 37, _, _, _, _, _⟩) (v := undef) rfl (by kernel_rfl) (by kernel_rfl) (by kernel_rfl) (fun _ _ _ h => h) (Or.inr ⟨by rfl, rfl⟩) (by assumption) ?_
                try simp only [Act.put, List.setIfInBounds_toArray, List.set_cons_zero, List.set_cons_succ]
                refine wpAnyH_take (i := 12) (oi := ⟨some 38, _, _, _, _, _⟩) (v := undef) rfl (by kernel_rfl) (by kernel_rfl) (by kernel_rfl) (fun _ _ _ h => h) (Or.inr ⟨by rfl, rfl⟩) (by assumption) ?_
                try simp only [Act.put, List.setIfInBounds_toArray, List.set_cons_zero, List.set_cons_succ]
                refine wpAnyH_take (i := 13) (oi := ⟨some 39, _, _, _, _, _⟩) (v := undef) rfl (by kernel_rfl) (by kernel_rfl) (by kernel_rfl) (fun _ _ _ h => h) (Or.inr ⟨by rfl, rfl⟩) (by assumption) ?_
                try simp only [Act.put, List.setIfInBounds_toArray, List.set_cons_zero, List.set_cons_succ]
                refine wpAnyH_take (i := 14) (oi := ⟨some 40, _, _, _, _, _⟩) (v := undef) rfl (by kernel_rfl) (by kernel_rfl) (by kernel_rfl) (fun _ _ _ h => h) (Or.inr ⟨by rfl, rfl⟩) (by assumption) ?_
                try simp only [Act.put, List.setIfInBounds_toArray, List.set_cons_zero, List.set_cons_succ]
                refine wpAnyH_take (i := 15) (oi := ⟨some 41, _, _, _, _, _⟩) (v := undef) rfl (by kernel_rfl) (by kernel_rfl) (by kernel_rfl) (fun _ _ _ h => h) (Or.inr ⟨by rfl, rfl⟩) (by assumption) ?_
                try simp only [Act.put, List.setIfInBounds_toArray, List.set_cons_zero, List.set_cons_succ]
                refine wpAnyH_take (i := 16) (oi := ⟨some 42, _, _, _, _, _⟩) (v := undef) rfl (by kernel_rfl) (by kernel_rfl) (by kernel_rfl) (fun _ _ _ h => h) (Or.inr ⟨by rfl, rfl⟩) (by assumption) ?_
                try simp only [Act.put, List.setIfInBounds_toArray, List.set_cons_zero, List.set_cons_succ]
                refine wpAnyH_take (i := 17) (oi := ⟨some 43, _, _, _, _, _⟩) (v := undef) rfl (by kernel_rfl) (by kernel_rfl) (by kernel_rfl) (fun _ _ _ h => h) (Or.inr ⟨by rfl, rfl⟩) (by assumption) ?_
                try simp only [Act.put, List.setIfInBounds_toArray, List.set_cons_zero, List.set_cons_succ]
                refine wpAnyH_take (i := 18) (oi := ⟨some 44, _, _, _, _, _⟩) (v := undef) rfl (by kernel_rfl) (by kernel_rfl) (by kernel_rfl) (fun _ _ _ h => h) (Or.inr ⟨by rfl, rfl⟩) (by assumption) ?_
                try simp only [Act.put, List.setIfInBounds_toArray, List.set_cons_zero, List.set_cons_succ]
                refine wpAnyH_take (i := 19) (oi := ⟨some 45, _, _, _, _, _⟩) (v := undef) rfl (by kernel_rfl) (by kernel_rfl) (by kernel_rfl) (fun _ _ _ h => h) (Or.inr ⟨by rfl, rfl⟩) (by assumption) ?_
                try simp only [Act.put, List.setIfInBounds_toArray, List.set_cons_zero, List.set_cons_succ]
                refine wpAnyH_take (i := 20) (oi := ⟨some 46, _, _, _, _, _⟩) (v := undef) rfl (by kernel_rfl) (by kernel_rfl) (by kernel_rfl) (fun _ _ _ h => h) (Or.inr ⟨by rfl, rfl⟩) (by assumption) ?_
                try simp only [Act.put, List.setIfInBounds_toArray, List.set_cons_zero, List.set_cons_succ]
                refine wpAnyH_take (i := 21) (oi := ⟨some 47, _, _, _, _, _⟩) (v := undef) rfl (by kernel_rfl) (by kernel_rfl) (by kernel_rfl) (fun _ _ _ h => h) (Or.inr ⟨by rfl, rfl⟩) (by assumption) ?_
                try simp only [Act.put, List.setIfInBounds_toArray, List.set_cons_zero, List.set_cons_succ]
                refine wpAnyH_take (i := 22) (oi := ⟨some 48, _, _, _, _, _⟩) (v := ?_) rfl (by kernel_rfl) (by kernel_rfl) (by kernel_rfl) (fun _ _ _ h => h) (Or.inl ⟨by rfl, ?_⟩) (by assumption) ?_
                rotate_left 1
                · intro w hSw; (try dsimp only at hSw); go_simp; all_goals with_reducible rfl
                try simp only [Act.put, List.setIfInBounds_toArray, List.set_cons_zero, List.set_cons_succ]
                refine wpAnyH_done (by kernel_rfl) ?_ _
                go_wp2_with fail
                go_ret
                exact ⟨ans_no hF.out HN.out, HB1.out.trans (((Below.refl _ _).drew.trans hBn).mono HB1.out.size)⟩
              · have hhf : hereB (l.take i) g = false := by simpa using hh
                have HH := Lib.hid hh
                clear hh
                cases i with
                | zero =>
                  rw [Nat.zero_mul, Nat.add_zero] at f0 f1
                  have e0 : ¬ (0 : Int) < ((0 : Nat) : Int) := by omega
                  go_wp2_with fail
                  have hx := HX.out
                  have hdd := HDD.out
                  generalize wr.alloc (.cells #[.int .i64 c.txn, .int .i64 (g : Int)] 28) = W1 at hx hdd HB1 HFR ⊢
                  have x0 : W1.cell? ⟨wr.heap.size, 0, none⟩ = some (.int .i64 c.txn) := by rw [Lib.cell_of_heap hx]; rfl
                  have x1 : W1.cell? ⟨wr.heap.size, 1, none⟩ = some (.int .i64 (g : Int)) := by rw [Lib.cell_of_heap hx]; rfl
                  have hlx : wr.heap.size < W1.heap.size := kt.bld_lt hx
                  have s0 : W1.cell? ⟨w.heap.size, g, none⟩ = some (.bool (hereB (l.take 0) g)) := by rw [Lib.cell_of_heap hdd]; exact hcells_get _ _ hg512
                  have hls : w.heap.size < W1.heap.size := kt.bld_lt hdd
                  rw [hhf] at s0
                  refine wp_region_held_drew (S := fun W => W.cell? ⟨wr.heap.size, 0, none⟩ = some (.int .i64 c.txn) ∧ W.cell? ⟨wr.heap.size, 1, none⟩ = some (.int .i64 (g : Int)) ∧ W.cell? ⟨w.heap.size, g, none⟩ = some (.bool false)) (by kernel_rfl) (⟨x0, x1, s0⟩) (fun hHeld => ?_)
                  refine wpAnyH_take (i := 0) (oi := ⟨some 26, _, _, _, _, _⟩) (v := ?_) rfl (by kernel_rfl) (by kernel_rfl) (by kernel_rfl) (fun _ _ _ h => h) (Or.inl ⟨by rfl, ?_⟩) (by assumption) ?_
                  rotate_left 1
                  · intro w hSw; (try dsimp only at hSw); go_simp; all_goals with_reducible rfl
                  try simp only [Act.put, List.setIfInBounds_toArray, List.set_cons_zero, List.set_cons_succ]
                  refine wpAnyH_ready (rs := [1]) (by kernel_rfl) (by simp) ?_
                  refine AllReadyH.cons (o := ⟨some 27, _, _, _, _, _⟩) rfl (fun K hK => ?_) AllReadyH.nil
                  go_simp
                  go_at_call 28; refine (RI.out _).mono ?_; rintro e w' ⟨rfl, hBn⟩
                  refine hK.out _ _ (⟨(hBn.cell (p := ⟨wr.heap.size, 0, none⟩) hlx).trans x0, (hBn.cell (p := ⟨wr.heap.size, 1, none⟩) hlx).trans x1, (hBn.cell (p := ⟨w.heap.size, g, none⟩) hls).trans s0⟩) (fun hHeld => ?_)
                  clear hK
                  try simp only [Act.put, List.setIfInBounds_toArray, List.set_cons_zero, List.set_cons_succ]
                  refine wpAnyH_take (i := 2) (oi := ⟨some 28, _, _, _, _, _⟩) (v := ?_) rfl (by kernel_rfl) (by kernel_rfl) (by kernel_rfl) (fun _ _ _ h => h) (Or.inl ⟨by rfl, ?_⟩) (by assumption) ?_
                  rotate_left 1
                  · intro w hSw; (try dsimp only at hSw); go_simp; all_goals with_reducible rfl
                  try simp only [Act.put, List.setIfInBounds_toArray, List.set_cons_zero, List.set_cons_succ]
                  refine wpAnyH_take (i := 3) (oi := ⟨some 29, _, _, _, _, _⟩) (v := ?_) rfl (by kernel_rfl) (by kernel_rfl) (by kernel_rfl) (fun _ _ _ h => h) (Or.inl ⟨by rfl, ?_⟩) (by assumption) ?_
                  rotate_left 1
                  · intro w hSw; (try dsimp only at hSw); go_simp; all_goals with_reducible rfl
                  try simp only [Act.put, List.setIfInBounds_toArray, List.set_cons_zero, List.set_cons_succ]
                  refine wpAnyH_take (i := 4) (oi := ⟨some 30, _, _, _, _, _⟩) (v := ?_) rfl (by kernel_rfl) (by kernel_rfl) (by kernel_rfl) (fun _ _ _ h => h) (Or.inl ⟨by rfl, ?_⟩) (by assumption) ?_
                  rotate_left 1
                  · intro w hSw; (try dsimp only at hSw); go_simp; all_goals with_reducible rfl
                  try simp only [Act.put, List.setIfInBounds_toArray, List.set_cons_zero, List.set_cons_succ]
                  refine wpAnyH_take (i := 5) (oi := ⟨some 31, _, _, _, _, _⟩) (v := ?_) rfl (by kernel_rfl) (by kernel_rfl) (by kernel_rfl) (fun _ _ _ h => h) (Or.inl ⟨by rfl, ?_⟩) (by assumption) ?_
                  rotate_left 1
                  · intro w hSw; (try dsimp only at hSw); go_simp; all_goals with_reducible rfl
                  try simp only [Act.put, List.setIfInBounds_toArray, List.set_cons_zero, List.set_cons_succ]
                  refine wpAnyH_take (i := 6) (oi := ⟨some 32, _, _, _, _, _⟩) (v := ?_) rfl (by kernel_rfl) (by kernel_rfl) (by kernel_rfl) (fun _ _ _ h => h) (Or.inl ⟨by rfl, ?_⟩) (by assumption) ?_
                  rotate_left 1
                  · intro w hSw; (try dsimp only at hSw); go_simp; all_goals with_reducible rfl
                  try simp only [Act.put, List.setIfInBounds_toArray, List.set_cons_zero, List.set_cons_succ]
                  refine wpAnyH_take (i := 7) (oi := ⟨some 33, _, _, _, _, _⟩) (v := ?_) rfl (by kernel_rfl) (by kernel_rfl) (by kernel_rfl) (fun _ _ _ h => h) (Or.inl ⟨by rfl, ?_⟩) (by assumption) ?_
                  rotate_left 1
                  · intro w hSw; (try dsimp only at hSw); go_simp; all_goals with_reducible rfl
                  try simp only [Act.put, List.setIfInBounds_toArray, List.set_cons_zero, List.set_cons_succ]
                  refine wpAnyH_take (i := 8) (oi := ⟨some 34, _, _, _, _, _⟩) (v := ?_) rfl (by kernel_rfl) (by kernel_rfl) (by kernel_rfl) (fun _ _ _ h => h) (Or.inl ⟨by rfl, ?_⟩) (by assumption) ?_
                  rotate_left 1
                  · intro w hSw; (try dsimp only at hSw); go_simp; all_goals with_reducible rfl
                  try simp only [Act.put, List.setIfInBounds_toArray, List.set_cons_zero, List.set_cons_succ]
                  refine wpAnyH_take (i := 9) (oi := ⟨some 35, _, _, _, _, _⟩) (v := ?_) rfl (by kernel_rfl) (by kernel_rfl) (by kernel_rfl) (fun _ _ _ h => h) (Or.inl ⟨by rfl, ?_⟩) (by assumption) ?_
                  rotate_left 1
                  · intro w hSw; (try dsimp only at hSw); go_simp; all_goals with_reducible rfl
                  try simp only [Act.put, List.setIfInBounds_toArray, List.set_cons_zero, List.set_cons_succ]
                  refine wpAnyH_take (i := 10) (oi := ⟨some 36, _, _, _, _, _⟩) (v := ?_) rfl (by kernel_rfl) (by kernel_rfl) (by kernel_rfl) (fun _ _ _ h => h) (Or.inl ⟨by rfl, ?_⟩) (by assumption) ?_
                  rotate_left 1
                  · intro w hSw; (try dsimp only at hSw); go_simp; all_goals with_reducible rfl
                  try simp only [Act.put, List.setIfInBounds_toArray, List.set_cons_zero, List.set_cons_succ]
                  refine wpAnyH_take (i := 11) (oi := ⟨some 37, _, _, _, _, _⟩) (v := ?_) rfl (by kernel_rfl) (by kernel_rfl) (by kernel_rfl) (fun _ _ _ h => h) (Or.inl ⟨by rfl, ?_⟩) (by assumption) ?_
                  rotate_left 1
                  · intro w hSw; (try dsimp only at hSw); go_simp; all_goals with_reducible rfl
                  try simp only [Act.put, List.setIfInBounds_toArray, List.set_cons_zero, List.set_cons_succ]
                  refine wpAnyH_take (i := 12) (oi := ⟨some 38, _, _, _, _, _⟩) (v := ?_) rfl (by kernel_rfl) (by kernel_rfl) (by kernel_rfl) (fun _ _ _ h => h) (Or.inl ⟨by rfl, ?_⟩) (by assumption) ?_
                  rotate_left 1
                  · intro w hSw; (try dsimp only at hSw); go_simp; all_goals with_reducible rfl
                  try simp only [Act.put, List.setIfInBounds_toArray, List.set_cons_zero, List.set_cons_succ]
                  refine wpAnyH_take (i := 13) (oi := ⟨some 39, _, _, _, _, _⟩) (v := undef) rfl (by kernel_rfl) (by kernel_rfl) (by kernel_rfl) (fun _ _ _ h => h) (Or.inr ⟨by rfl, rfl⟩) (by assumption) ?_
                  try simp only [Act.put, List.setIfInBounds_toArray, List.set_cons_zero, List.set_cons_succ]
                  refine wpAnyH_take (i := 14) (oi := ⟨some 40, _, _, _, _, _⟩) (v := undef) rfl (by kernel_rfl) (by kernel_rfl) (by kernel_rfl) (fun _ _ _ h => h) (Or.inr ⟨by rfl, rfl⟩) (by assumption) ?_
                  try simp only [Act.put, List.setIfInBounds_toArray, List.set_cons_zero, List.set_cons_succ]
                  refine wpAnyH_take (i := 15) (oi := ⟨some 41, _, _, _, _, _⟩) (v := undef) rfl (by kernel_rfl) (by kernel_rfl) (by kernel_rfl) (fun _ _ _ h => h) (Or.inr ⟨by rfl, rfl⟩) (by assumption) ?_
                  try simp only [Act.put, List.setIfInBounds_toArray, List.set_cons_zero, List.set_cons_succ]
                  refine wpAnyH_take (i := 16) (oi := ⟨some 42, _, _, _, _, _⟩) (v := undef) rfl (by kernel_rfl) (by kernel_rfl) (by kernel_rfl) (fun _ _ _ h => h) (Or.inr ⟨by rfl, rfl⟩) (by assumption) ?_
                  try simp only [Act.put, List.setIfInBounds_toArray, List.set_cons_zero, List.set_cons_succ]
                  refine wpAnyH_take (i := 17) (oi := ⟨some 43, _, _, _, _, _⟩) (v := undef) rfl (by kernel_rfl) (by kernel_rfl) (by kernel_rfl) (fun _ _ _ h => h) (Or.inr ⟨by rfl, rfl⟩) (by assumption) ?_
                  try simp only [Act.put, List.setIfInBounds_toArray, List.set_cons_zero, List.set_cons_succ]
                  refine wpAnyH_take (i := 18) (oi := ⟨some 44, _, _, _, _, _⟩) (v := undef) rfl (by kernel_rfl) (by kernel_rfl) (by kernel_rfl) (fun _ _ _ h => h) (Or.inr ⟨by rfl, rfl⟩) (by assumption) ?_
                  try simp only [Act.put, List.setIfInBounds_toArray, List.set_cons_zero, List.set_cons_succ]
                  refine wpAnyH_take (i := 19) (oi := ⟨some 45, _, _, _, _, _⟩) (v := undef) rfl (by kernel_rfl) (by kernel_rfl) (by kernel_rfl) (fun _ _ _ h => h) (Or.inr ⟨by rfl, rfl⟩) (by assumption) ?_
                  try simp only [Act.put, List.setIfInBounds_toArray, List.set_cons_zero, List.set_cons_succ]
                  refine wpAnyH_take (i := 20) (oi := ⟨some 46, _, _, _, _, _⟩) (v := undef) rfl (by kernel_rfl) (by kernel_rfl) (by kernel_rfl) (fun _ _ _ h => h) (Or.inr ⟨by rfl, rfl⟩) (by assumption) ?_
                  try simp only [Act.put, List.setIfInBounds_toArray, List.set_cons_zero, List.set_cons_succ]
                  refine wpAnyH_take (i := 21) (oi := ⟨some 47, _, _, _, _, _⟩) (v := ?_) rfl (by kernel_rfl) (by kernel_rfl) (by kernel_rfl) (fun _ _ _ h => h) (Or.inl ⟨by rfl, ?_⟩) (by assumption) ?_
                  rotate_left 1
                  · intro w hSw; (try dsimp only at hSw); go_simp; all_goals with_reducible rfl
                  try simp only [Act.put, List.setIfInBounds_toArray, List.set_cons_zero, List.set_cons_succ]
                  refine wpAnyH_take (i := 22) (oi := ⟨some 48, _, _, _, _, _⟩) (v := ?_) rfl (by kernel_rfl) (by kernel_rfl) (by kernel_rfl) (fun _ _ _ h => h) (Or.inl ⟨by rfl, ?_⟩) (by assumption) ?_
                  rotate_left 1
                  · intro w hSw; (try dsimp only at hSw); go_simp; all_goals with_reducible rfl
                  try simp only [Act.put, List.setIfInBounds_toArray, List.set_cons_zero, List.set_cons_succ]
                  refine wpAnyH_done (by kernel_rfl) ?_ _
                  have hBR : Hid (Below W1.heap.size W1 w') := (Below.refl _ _).drew.trans hBn
                  have hdw := (hBR.out.block _ hls).trans hdd
                  have hxw := (hBR.out.block _ hlx).trans hx
                  have t1 : w'.cell? ⟨wr.heap.size, 1, none⟩ = some (.int .i64 (g : Int)) := by rw [Lib.cell_of_heap hxw]; rfl
                  have t2 : w'.cell? ⟨w.heap.size, g, none⟩ = some (.bool (hereB (l.take 0) g)) := by rw [Lib.cell_of_heap hdw]; exact hcells_get _ _ hg512
                  have t3 : w'.frozen? ⟨w.heap.size, g, none⟩ = false := Lib.frozen_of_heap hdw _
                  have HDW := Lib.hid hdw
                  have HSN : Hid (OkL (l.take (0 + 1))) := okL_snoc hil hOk.out HOK.out (by rw [HGT.out]; exact HH.out) (fun j hj => by omega)
                  clear hdw hxw
                  go_wp2_with fail
                  go_roundw
                  case rel =>
                    refine ⟨0 + 1, by omega, by go_num, HSN, ?_, (HB1.out.trans (hBR.out.mono HB1.out.size)).setCell (Nat.le_refl _) _⟩
                    show _ = _
                    rw [List.take_succ_eq_append_getElem hil, hcells_congr (fun k _ => hereB_snoc _ _ g (by rw [← hc.out]; exact HG.out) k), ← hcells_setk _ _ _ hg512]
                    exact set_same (j := g) HDW.out _
                  case measure => simp [intOf]; omega
                | succ j =>
                  have e0 : (0 : Int) < ((j + 1 : Nat) : Int) := by omega
                  obtain ⟨d, hd⟩ : ∃ d : Fre, Hid (d = l[j]'(by omega)) := ⟨l[j]'(by omega), rfl⟩
                  have OR := Lib.hid (fun w => order_any d c w)
                  unfold Fre.v at OR
                  rw [HG.out] at OR
                  obtain ⟨b', o', hao', r0, r1⟩ := HFR.out j (by omega)
                  rw [← hd.out] at r0 r1
                  injection hao' with hao'
                  injection hao' with hb' ho' _
                  subst hb' ho'
                  have ew : IntKind.i64.wrap (((j + 1 : Nat) : Int) - 1) = (j : Int) := by rw [show (((j + 1 : Nat) : Int) - 1) = (j : Int) by omega]; exact kt.wrap_i64_nat _ (by omega)
                  have ew2 : IntKind.i64.wrap ((j : Int) + 1 - 1) = (j : Int) := by rw [show ((j : Int) + 1 - 1) = (j : Int) by omega]; exact kt.wrap_i64_nat _ (by omega)
                  have hlb : b < (wr.alloc (.cells #[.int .i64 c.txn, .int .i64 (g : Int)] 28)).heap.size := World.block_lt_of_cell? _ ⟨b, _, none⟩ r0
                  have HR0 := Lib.hid r0
                  have HR1 := Lib.hid r1
                  have HLB := Lib.hid hlb
                  have EW := Lib.hid ew
                  have EW2 := Lib.hid ew2
                  clear r0 r1 hlb ew ew2
                  by_cases hlt : ltF d c
                  · have eo : ordF d c = -1 := by
                      rcases ordF_cases d c with ⟨_, e⟩ | ⟨h, _⟩ | ⟨h, _⟩
                      · exact e
                      · exact absurd (ltF_trans hlt h) (ltF_irrefl _)
                      · rw [h] at hlt; exact absurd hlt (ltF_irrefl _)
                    rw [eo] at OR
                    have HLT := Lib.hid hlt
                    clear eo hlt
                    go_wp2_with fail
                    have hx := HX.out
                    have hdd := HDD.out
                    generalize wr.alloc (.cells #[.int .i64 c.txn, .int .i64 (g : Int)] 28) = W1 at hx hdd HB1 HFR HR0 HR1 HLB ⊢
                    have x0 : W1.cell? ⟨wr.heap.size, 0, none⟩ = some (.int .i64 c.txn) := by rw [Lib.cell_of_heap hx]; rfl
                    have x1 : W1.cell? ⟨wr.heap.size, 1, none⟩ = some (.int .i64 (g : Int)) := by rw [Lib.cell_of_heap hx]; rfl
                    have hlx : wr.heap.size < W1.heap.size := kt.bld_lt hx
                    have s0 : W1.cell? ⟨w.heap.size, g, none⟩ = some (.bool (hereB (l.take (j + 1)) g)) := by rw [Lib.cell_of_heap hdd]; exact hcells_get _ _ hg512
                    have hls : w.heap.size < W1.heap.size := kt.bld_lt hdd
                    rw [hhf] at s0
                    have r0 := HR0.out
                    have r1 := HR1.out
                    have hlb := HLB.out
                    have ew := EW.out
                    have ew2 := EW2.out
                    have ew3 : IntKind.i64.wrap (j : Int) = (j : Int) := kt.wrap_i64_nat _ (by omega)
                    have hj0 : (0 : Int) ≤ (j : Int) := by omega
                    have hj1 : (j : Int) < (l.length : Int) := by omega
                    refine wp_region_held_drew (S := fun W => W.cell? ⟨wr.heap.size, 0, none⟩ = some (.int .i64 c.txn) ∧ W.cell? ⟨wr.heap.size, 1, none⟩ = some (.int .i64 (g : Int)) ∧ W.cell? ⟨w.heap.size, g, none⟩ = some (.bool false) ∧ W.cell? ⟨b, o + j * 2, none⟩ = some (.int .i64 d.txn) ∧ W.cell? ⟨b, o + j * 2 + 1, none⟩ = some (.int .i64 d.page)) (by kernel_rfl) (⟨x0, x1, s0, r0, r1⟩) (fun hHeld => ?_)
                    refine wpAnyH_take (i := 0) (oi := ⟨some 26, _, _, _, _, _⟩) (v := ?_) rfl (by kernel_rfl) (by kernel_rfl) (by kernel_rfl) (fun _ _ _ h => h) (Or.inl ⟨by rfl, ?_⟩) (by assumption) ?_
                    rotate_left 1
                    · intro w hSw; (try dsimp only at hSw); go_simp; all_goals with_reducible rfl
                    try simp only [Act.put, List.setIfInBounds_toArray, List.set_cons_zero, List.set_cons_succ]
                    refine wpAnyH_ready (rs := [1]) (by kernel_rfl) (by simp) ?_
                    refine AllReadyH.cons (o := ⟨some 27, _, _, _, _, _⟩) rfl (fun K hK => ?_) AllReadyH.nil
                    go_simp
                    go_at_call 28; refine (RI.out _).mono ?_; rintro e w' ⟨rfl, hBn⟩
                    refine hK.out _ _ (⟨(hBn.cell (p := ⟨wr.heap.size, 0, none⟩) hlx).trans x0, (hBn.cell (p := ⟨wr.heap.size, 1, none⟩) hlx).trans x1, (hBn.cell (p := ⟨w.heap.size, g, none⟩) hls).trans s0, (hBn.cell (p := ⟨b, o + j * 2, none⟩) hlb).trans r0, (hBn.cell (p := ⟨b, o + j * 2 + 1, none⟩) hlb).trans r1⟩) (fun hHeld => ?_)
                    clear hK
                    try simp only [Act.put, List.setIfInBounds_toArray, List.set_cons_zero, List.set_cons_succ]
                    refine wpAnyH_take (i := 2) (oi := ⟨some 28, _, _, _, _, _⟩) (v := ?_) rfl (by kernel_rfl) (by kernel_rfl) (by kernel_rfl) (fun _ _ _ h => h) (Or.inl ⟨by rfl, ?_⟩) (by assumption) ?_
                    rotate_left 1
                    · intro w hSw; (try dsimp only at hSw); go_simp; all_goals with_reducible rfl
                    try simp only [Act.put, List.setIfInBounds_toArray, List.set_cons_zero, List.set_cons_succ]
                    refine wpAnyH_take (i := 3) (oi := ⟨some 29, _, _, _, _, _⟩) (v := ?_) rfl (by kernel_rfl) (by kernel_rfl) (by kernel_rfl) (fun _ _ _ h => h) (Or.inl ⟨by rfl, ?_⟩) (by assumption) ?_
                    rotate_left 1
                    · intro w hSw; (try dsimp only at hSw); go_simp; all_goals with_reducible rfl
                    try simp only [Act.put, List.setIfInBounds_toArray, List.set_cons_zero, List.set_cons_succ]
                    refine wpAnyH_take (i := 4) (oi := ⟨some 30, _, _, _, _, _⟩) (v := ?_) rfl (by kernel_rfl) (by kernel_rfl) (by kernel_rfl) (fun _ _ _ h => h) (Or.inl ⟨by rfl, ?_⟩) (by assumption) ?_
                    rotate_left 1
                    · intro w hSw; (try dsimp only at hSw); go_simp; all_goals with_reducible rfl
                    try simp only [Act.put, List.setIfInBounds_toArray, List.set_cons_zero, List.set_cons_succ]
                    refine wpAnyH_take (i := 5) (oi := ⟨some 31, _, _, _, _, _⟩) (v := ?_) rfl (by kernel_rfl) (by kernel_rfl) (by kernel_rfl) (fun _ _ _ h => h) (Or.inl ⟨by rfl, ?_⟩) (by assumption) ?_
                    rotate_left 1
                    · intro w hSw; (try dsimp only at hSw); go_simp; all_goals with_reducible rfl
                    try simp only [Act.put, List.setIfInBounds_toArray, List.set_cons_zero, List.set_cons_succ]
                    refine wpAnyH_take (i := 6) (oi := ⟨some 32, _, _, _, _, _⟩) (v := ?_) rfl (by kernel_rfl) (by kernel_rfl) (by kernel_rfl) (fun _ _ _ h => h) (Or.inl ⟨by rfl, ?_⟩) (by assumption) ?_
                    rotate_left 1
                    · intro w hSw; (try dsimp only at hSw); go_simp; all_goals with_reducible rfl
                    try simp only [Act.put, List.setIfInBounds_toArray, List.set_cons_zero, List.set_cons_succ]
                    refine wpAnyH_take (i := 7) (oi := ⟨some 33, _, _, _, _, _⟩) (v := ?_) rfl (by kernel_rfl) (by kernel_rfl) (by kernel_rfl) (fun _ _ _ h => h) (Or.inl ⟨by rfl, ?_⟩) (by assumption) ?_
                    rotate_left 1
                    · intro w hSw; (try dsimp only at hSw); go_simp; all_goals with_reducible rfl
                    try simp only [Act.put, List.setIfInBounds_toArray, List.set_cons_zero, List.set_cons_succ]
                    refine wpAnyH_take (i := 8) (oi := ⟨some 34, _, _, _, _, _⟩) (v := ?_) rfl (by kernel_rfl) (by kernel_rfl) (by kernel_rfl) (fun _ _ _ h => h) (Or.inl ⟨by rfl, ?_⟩) (by assumption) ?_
                    rotate_left 1
                    · intro w hSw; (try dsimp only at hSw); go_simp; all_goals with_reducible rfl
                    try simp only [Act.put, List.setIfInBounds_toArray, List.set_cons_zero, List.set_cons_succ]
                    refine wpAnyH_take (i := 9) (oi := ⟨some 35, _, _, _, _, _⟩) (v := ?_) rfl (by kernel_rfl) (by kernel_rfl) (by kernel_rfl) (fun _ _ _ h => h) (Or.inl ⟨by rfl, ?_⟩) (by assumption) ?_
                    rotate_left 1
                    · intro w hSw; (try dsimp only at hSw); go_simp; all_goals with_reducible rfl
                    try simp only [Act.put, List.setIfInBounds_toArray, List.set_cons_zero, List.set_cons_succ]
                    refine wpAnyH_take (i := 10) (oi := ⟨some 36, _, _, _, _, _⟩) (v := ?_) rfl (by kernel_rfl) (by kernel_rfl) (by kernel_rfl) (fun _ _ _ h => h) (Or.inl ⟨by rfl, ?_⟩) (by assumption) ?_
                    rotate_left 1
                    · intro w hSw; (try dsimp only at hSw); go_simp; all_goals with_reducible rfl
                    try simp only [Act.put, List.setIfInBounds_toArray, List.set_cons_zero, List.set_cons_succ]
                    refine wpAnyH_take (i := 11) (oi := ⟨some 37, _, _, _, _, _⟩) (v := ?_) rfl (by kernel_rfl) (by kernel_rfl) (by kernel_rfl) (fun _ _ _ h => h) (Or.inl ⟨by rfl, ?_⟩) (by assumption) ?_
                    rotate_left 1
                    · intro w hSw; (try dsimp only at hSw); go_simp; all_goals with_reducible rfl
                    try simp only [Act.put, List.setIfInBounds_toArray, List.set_cons_zero, List.set_cons_succ]
                    refine wpAnyH_take (i := 12) (oi := ⟨some 38, _, _, _, _, _⟩) (v := ?_) rfl (by kernel_rfl) (by kernel_rfl) (by kernel_rfl) (fun _ _ _ h => h) (Or.inl ⟨by rfl, ?_⟩) (by assumption) ?_
                    rotate_left 1
                    · intro w hSw; (try dsimp only at hSw); go_simp; all_goals with_reducible rfl
                    try simp only [Act.put, List.setIfInBounds_toArray, List.set_cons_zero, List.set_cons_succ]
                    refine wpAnyH_take (i := 13) (oi := ⟨some 39, _, _, _, _, _⟩) (v := ?_) rfl (by kernel_rfl) (by kernel_rfl) (by kernel_rfl) (fun _ _ _ h => h) (Or.inl ⟨by rfl, ?_⟩) (by assumption) ?_
                    rotate_left 1
                    · intro w hSw; (try dsimp only at hSw); go_simp; all_goals with_reducible rfl
                    try simp only [Act.put, List.setIfInBounds_toArray, List.set_cons_zero, List.set_cons_succ]
                    refine wpAnyH_take (i := 14) (oi := ⟨some 40, _, _, _, _, _⟩) (v := ?_) rfl (by kernel_rfl) (by kernel_rfl) (by kernel_rfl) (fun _ _ _ h => h) (Or.inl ⟨by rfl, ?_⟩) (by assumption) ?_
                    rotate_left 1
                    · intro w hSw; (try dsimp only at hSw); go_simp; all_goals with_reducible rfl
                    try simp only [Act.put, List.setIfInBounds_toArray, List.set_cons_zero, List.set_cons_succ]
                    refine wpAnyH_take (i := 15) (oi := ⟨some 41, _, _, _, _, _⟩) (v := ?_) rfl (by kernel_rfl) (by kernel_rfl) (by kernel_rfl) (fun _ _ _ h => h) (Or.inl ⟨by rfl, ?_⟩) (by assumption) ?_
                    rotate_left 1
                    · intro w hSw; (try dsimp only at hSw); go_simp; all_goals with_reducible rfl
                    try simp only [Act.put, List.setIfInBounds_toArray, List.set_cons_zero, List.set_cons_succ]
                    refine wpAnyH_take (i := 16) (oi := ⟨some 42, _, _, _, _, _⟩) (v := ?_) rfl (by kernel_rfl) (by kernel_rfl) (by kernel_rfl) (fun _ _ _ h => h) (Or.inl ⟨by rfl, ?_⟩) (by assumption) ?_
                    rotate_left 1
                    · intro w hSw; (try dsimp only at hSw); go_simp; all_goals with_reducible rfl
                    try simp only [Act.put, List.setIfInBounds_toArray, List.set_cons_zero, List.set_cons_succ]
                    refine wpAnyH_take (i := 17) (oi := ⟨some 43, _, _, _, _, _⟩) (v := ?_) rfl (by kernel_rfl) (by kernel_rfl) (by kernel_rfl) (fun _ _ _ h => h) (Or.inl ⟨by rfl, ?_⟩) (by assumption) ?_
                    rotate_left 1
                    · intro w hSw; (try dsimp only at hSw); go_simp; all_goals with_reducible rfl
                    try simp only [Act.put, List.setIfInBounds_toArray, List.set_cons_zero, List.set_cons_succ]
                    refine wpAnyH_take (i := 18) (oi := ⟨some 44, _, _, _, _, _⟩) (v := ?_) rfl (by kernel_rfl) (by kernel_rfl) (by kernel_rfl) (fun _ _ _ h => h) (Or.inl ⟨by rfl, ?_⟩) (by assumption) ?_
                    rotate_left 1
                    · intro w hSw; (try dsimp only at hSw); go_simp; all_goals with_reducible rfl
                    try simp only [Act.put, List.setIfInBounds_toArray, List.set_cons_zero, List.set_cons_succ]
                    refine wpAnyH_ready (rs := [19]) (by kernel_rfl) (by simp) ?_
                    refine AllReadyH.cons (o := ⟨some 45, _, _, _, _, _⟩) rfl (fun K hK => ?_) AllReadyH.nil
                    go_simp
                    go_at_call 30; refine (OR.out _).mono ?_; rintro e w'' ⟨rfl, hBm⟩
                    refine hK.out _ _ (⟨(hBm.cell (p := ⟨wr.heap.size, 0, none⟩) (Nat.lt_of_lt_of_le hlx hBn.size)).trans ((hBn.cell (p := ⟨wr.heap.size, 0, none⟩) hlx).trans x0), (hBm.cell (p := ⟨wr.heap.size, 1, none⟩) (Nat.lt_of_lt_of_le hlx hBn.size)).trans ((hBn.cell (p := ⟨wr.heap.size, 1, none⟩) hlx).trans x1), (hBm.cell (p := ⟨w.heap.size, g, none⟩) (Nat.lt_of_lt_of_le hls hBn.size)).trans ((hBn.cell (p := ⟨w.heap.size, g, none⟩) hls).trans s0), (hBm.cell (p := ⟨b, o + j * 2, none⟩) (Nat.lt_of_lt_of_le hlb hBn.size)).trans ((hBn.cell (p := ⟨b, o + j * 2, none⟩) hlb).trans r0), (hBm.cell (p := ⟨b, o + j * 2 + 1, none⟩) (Nat.lt_of_lt_of_le hlb hBn.size)).trans ((hBn.cell (p := ⟨b, o + j * 2 + 1, none⟩) hlb).trans r1)⟩) (fun hHeld => ?_)
                    clear hK
                    try simp only [Act.put, List.setIfInBounds_toArray, List.set_cons_zero, List.set_cons_succ]
                    refine wpAnyH_take (i := 20) (oi := ⟨some 46, _, _, _, _, _⟩) (v := ?_) rfl (by kernel_rfl) (by kernel_rfl) (by kernel_rfl) (fun _ _ _ h => h) (Or.inl ⟨by rfl, ?_⟩) (by assumption) ?_
                    rotate_left 1
                    · intro w hSw; (try dsimp only at hSw); go_simp; all_goals with_reducible rfl
                    try simp only [Act.put, List.setIfInBounds_toArray, List.set_cons_zero, List.set_cons_succ]
                    refine wpAnyH_take (i := 21) (oi := ⟨some 47, _, _, _, _, _⟩) (v := ?_) rfl (by kernel_rfl) (by kernel_rfl) (by kernel_rfl) (fun _ _ _ h => h) (Or.inl ⟨by rfl, ?_⟩) (by assumption) ?_
                    rotate_left 1
                    · intro w hSw; (try dsimp only at hSw); go_simp; all_goals with_reducible rfl
                    try simp only [Act.put, List.setIfInBounds_toArray, List.set_cons_zero, List.set_cons_succ]
                    refine wpAnyH_take (i := 22) (oi := ⟨some 48, _, _, _, _, _⟩) (v := ?_) rfl (by kernel_rfl) (by kernel_rfl) (by kernel_rfl) (fun _ _ _ h => h) (Or.inl ⟨by rfl, ?_⟩) (by assumption) ?_
                    rotate_left 1
                    · intro w hSw; (try dsimp only at hSw); go_simp; all_goals with_reducible rfl
                    try simp only [Act.put, List.setIfInBounds_toArray, List.set_cons_zero, List.set_cons_succ]
                    refine wpAnyH_done (by kernel_rfl) ?_ _
                    have hBR : Hid (Below W1.heap.size W1 w'') := ((Below.refl _ _).drew.trans hBn).trans (hBm.mono hBn.size)
                    have hdw := (hBR.out.block _ hls).trans hdd
                    have hxw := (hBR.out.block _ hlx).trans hx
                    have t1 : w''.cell? ⟨wr.heap.size, 1, none⟩ = some (.int .i64 (g : Int)) := by rw [Lib.cell_of_heap hxw]; rfl
                    have t2 : w''.cell? ⟨w.heap.size, g, none⟩ = some (.bool (hereB (l.take (j + 1)) g)) := by rw [Lib.cell_of_heap hdw]; exact hcells_get _ _ hg512
                    have t3 : w''.frozen? ⟨w.heap.size, g, none⟩ = false := Lib.frozen_of_heap hdw _
                    have HDW := Lib.hid hdw
                    have HSN : Hid (OkL (l.take ((j + 1) + 1))) := okL_snoc hil hOk.out HOK.out (by rw [HGT.out]; exact HH.out) (lt_of HLT.out hd.out hc.out)
                    clear hdw hxw
                    go_wp2_with fail
                    go_roundw
                    case rel =>
                      refine ⟨(j + 1) + 1, by omega, by go_num, HSN, ?_, (HB1.out.trans (hBR.out.mono HB1.out.size)).setCell (Nat.le_refl _) _⟩
                      show _ = _
                      rw [List.take_succ_eq_append_getElem hil, hcells_congr (fun k _ => hereB_snoc _ _ g (by rw [← hc.out]; exact HG.out) k), ← hcells_setk _ _ _ hg512]
                      exact set_same (j := g) HDW.out _
                    case measure => simp [intOf]; omega
                  · obtain ⟨z, hz, hz0⟩ : ∃ z : Int, ordF d c = z ∧ 0 ≤ z := by
                      rcases ordF_cases d c with ⟨h, _⟩ | ⟨_, e⟩ | ⟨_, e⟩
                      · exact absurd h hlt
                      · exact ⟨1, e, by omega⟩
                      · exact ⟨0, e, by omega⟩
                    rw [hz] at OR
                    have HN : Hid (¬ MayP next l) := fun h => hlt (by rw [hd.out, hc.out]; exact (okL_take_get h.2.2.2 (j + 1) hil).2.2 j rfl (by omega))
                    clear hz hlt
                    go_wp2_with fail
                    have hx := HX.out
                    have hdd := HDD.out
                    generalize wr.alloc (.cells #[.int .i64 c.txn, .int .i64 (g : Int)] 28) = W1 at hx hdd HB1 HFR HR0 HR1 HLB ⊢
                    have x0 : W1.cell? ⟨wr.heap.size, 0, none⟩ = some (.int .i64 c.txn) := by rw [Lib.cell_of_heap hx]; rfl
                    have x1 : W1.cell? ⟨wr.heap.size, 1, none⟩ = some (.int .i64 (g : Int)) := by rw [Lib.cell_of_heap hx]; rfl
                    have hlx : wr.heap.size < W1.heap.size := kt.bld_lt hx
                    have s0 : W1.cell? ⟨w.heap.size, g, none⟩ = some (.bool (hereB (l.take (j + 1)) g)) := by rw [Lib.cell_of_heap hdd]; exact hcells_get _ _ hg512
                    have hls : w.heap.size < W1.heap.size := kt.bld_lt hdd
                    rw [hhf] at s0
                    have r0 := HR0.out
                    have r1 := HR1.out
                    have hlb := HLB.out
                    have ew := EW.out
                    have ew2 := EW2.out
                    have ew3 : IntKind.i64.wrap (j : Int) = (j : Int) := kt.wrap_i64_nat _ (by omega)
                    have hj0 : (0 : Int) ≤ (j : Int) := by omega
                    have hj1 : (j : Int) < (l.length : Int) := by omega
                    refine wp_region_held_drew (S := fun W => W.cell? ⟨wr.heap.size, 0, none⟩ = some (.int .i64 c.txn) ∧ W.cell? ⟨wr.heap.size, 1, none⟩ = some (.int .i64 (g : Int)) ∧ W.cell? ⟨w.heap.size, g, none⟩ = some (.bool false) ∧ W.cell? ⟨b, o + j * 2, none⟩ = some (.int .i64 d.txn) ∧ W.cell? ⟨b, o + j * 2 + 1, none⟩ = some (.int .i64 d.page)) (by kernel_rfl) (⟨x0, x1, s0, r0, r1⟩) (fun hHeld => ?_)
                    refine wpAnyH_take (i := 0) (oi := ⟨some 26, _, _, _, _, _⟩) (v := ?_) rfl (by kernel_rfl) (by kernel_rfl) (by kernel_rfl) (fun _ _ _ h => h) (Or.inl ⟨by rfl, ?_⟩) (by assumption) ?_
                    rotate_left 1
                    · intro w hSw; (try dsimp only at hSw); go_simp; all_goals with_reducible rfl
                    try simp only [Act.put, List.setIfInBounds_toArray, List.set_cons_zero, List.set_cons_succ]
                    refine wpAnyH_ready (rs := [1]) (by kernel_rfl) (by simp) ?_
                    refine AllReadyH.cons (o := ⟨some 27, _, _, _, _, _⟩) rfl (fun K hK => ?_) AllReadyH.nil
                    go_simp
                    go_at_call 28; refine (RI.out _).mono ?_; rintro e w' ⟨rfl, hBn⟩
                    refine hK.out _ _ (⟨(hBn.cell (p := ⟨wr.heap.size, 0, none⟩) hlx).trans x0, (hBn.cell (p := ⟨wr.heap.size, 1, none⟩) hlx).trans x1, (hBn.cell (p := ⟨w.heap.size, g, none⟩) hls).trans s0, (hBn.cell (p := ⟨b, o + j * 2, none⟩) hlb).trans r0, (hBn.cell (p := ⟨b, o + j * 2 + 1, none⟩) hlb).trans r1⟩) (fun hHeld => ?_)
                    clear hK
                    try simp only [Act.put, List.setIfInBounds_toArray, List.set_cons_zero, List.set_cons_succ]
                    refine wpAnyH_take (i := 2) (oi := ⟨some 28, _, _, _, _, _⟩) (v := ?_) rfl (by kernel_rfl) (by kernel_rfl) (by kernel_rfl) (fun _ _ _ h => h) (Or.inl ⟨by rfl, ?_⟩) (by assumption) ?_
                    rotate_left 1
                    · intro w hSw; (try dsimp only at hSw); go_simp; all_goals with_reducible rfl
                    try simp only [Act.put, List.setIfInBounds_toArray, List.set_cons_zero, List.set_cons_succ]
                    refine wpAnyH_take (i := 3) (oi := ⟨some 29, _, _, _, _, _⟩) (v := ?_) rfl (by kernel_rfl) (by kernel_rfl) (by kernel_rfl) (fun _ _ _ h => h) (Or.inl ⟨by rfl, ?_⟩) (by assumption) ?_
                    rotate_left 1
                    · intro w hSw; (try dsimp only at hSw); go_simp; all_goals with_reducible rfl
                    try simp only [Act.put, List.setIfInBounds_toArray, List.set_cons_zero, List.set_cons_succ]
                    refine wpAnyH_take (i := 4) (oi := ⟨some 30, _, _, _, _, _⟩) (v := ?_) rfl (by kernel_rfl) (by kernel_rfl) (by kernel_rfl) (fun _ _ _ h => h) (Or.inl ⟨by rfl, ?_⟩) (by assumption) ?_
                    rotate_left 1
                    · intro w hSw; (try dsimp only at hSw); go_simp; all_goals with_reducible rfl
                    try simp only [Act.put, List.setIfInBounds_toArray, List.set_cons_zero, List.set_cons_succ]
                    refine wpAnyH_take (i := 5) (oi := ⟨some 31, _, _, _, _, _⟩) (v := ?_) rfl (by kernel_rfl) (by kernel_rfl) (by kernel_rfl) (fun _ _ _ h => h) (Or.inl ⟨by rfl, ?_⟩) (by assumption) ?_
                    rotate_left 1
                    · intro w hSw; (try dsimp only at hSw); go_simp; all_goals with_reducible rfl
                    try simp only [Act.put, List.setIfInBounds_toArray, List.set_cons_zero, List.set_cons_succ]
                    refine wpAnyH_take (i := 6) (oi := ⟨some 32, _, _, _, _, _⟩) (v := ?_) rfl (by kernel_rfl) (by kernel_rfl) (by kernel_rfl) (fun _ _ _ h => h) (Or.inl ⟨by rfl, ?_⟩) (by assumption) ?_
                    rotate_left 1
                    · intro w hSw; (try dsimp only at hSw); go_simp; all_goals with_reducible rfl
                    try simp only [Act.put, List.setIfInBounds_toArray, List.set_cons_zero, List.set_cons_succ]
                    refine wpAnyH_take (i := 7) (oi := ⟨some 33, _, _, _, _, _⟩) (v := ?_) rfl (by kernel_rfl) (by kernel_rfl) (by kernel_rfl) (fun _ _ _ h => h) (Or.inl ⟨by rfl, ?_⟩) (by assumption) ?_
                    rotate_left 1
                    · intro w hSw; (try dsimp only at hSw); go_simp; all_goals with_reducible rfl
                    try simp only [Act.put, List.setIfInBounds_toArray, List.set_cons_zero, List.set_cons_succ]
                    refine wpAnyH_take (i := 8) (oi := ⟨some 34, _, _, _, _, _⟩) (v := ?_) rfl (by kernel_rfl) (by kernel_rfl) (by kernel_rfl) (fun _ _ _ h => h) (Or.inl ⟨by rfl, ?_⟩) (by assumption) ?_
                    rotate_left 1
                    · intro w hSw; (try dsimp only at hSw); go_simp; all_goals with_reducible rfl
                    try simp only [Act.put, List.setIfInBounds_toArray, List.set_cons_zero, List.set_cons_succ]
                    refine wpAnyH_take (i := 9) (oi := ⟨some 35, _, _, _, _, _⟩) (v := ?_) rfl (by kernel_rfl) (by kernel_rfl) (by kernel_rfl) (fun _ _ _ h => h) (Or.inl ⟨by rfl, ?_⟩) (by assumption) ?_
                    rotate_left 1
                    · intro w hSw; (try dsimp only at hSw); go_simp; all_goals with_reducible rfl
                    try simp only [Act.put, List.setIfInBounds_toArray, List.set_cons_zero, List.set_cons_succ]
                    refine wpAnyH_take (i := 10) (oi := ⟨some 36, _, _, _, _, _⟩) (v := ?_) rfl (by kernel_rfl) (by kernel_rfl) (by kernel_rfl) (fun _ _ _ h => h) (Or.inl ⟨by rfl, ?_⟩) (by assumption) ?_
                    rotate_left 1
                    · intro w hSw; (try dsimp only at hSw); go_simp; all_goals with_reducible rfl
                    try simp only [Act.put, List.setIfInBounds_toArray, List.set_cons_zero, List.set_cons_succ]
                    refine wpAnyH_take (i := 11) (oi := ⟨some 37, _, _, _, _, _⟩) (v := ?_) rfl (by kernel_rfl) (by kernel_rfl) (by kernel_rfl) (fun _ _ _ h => h) (Or.inl ⟨by rfl, ?_⟩) (by assumption) ?_
                    rotate_left 1
                    · intro w hSw; (try dsimp only at hSw); go_simp; all_goals with_reducible rfl
                    try simp only [Act.put, List.setIfInBounds_toArray, List.set_cons_zero, List.set_cons_succ]
                    refine wpAnyH_take (i := 12) (oi := ⟨some 38, _, _, _, _, _⟩) (v := ?_) rfl (by kernel_rfl) (by kernel_rfl) (by kernel_rfl) (fun _ _ _ h => h) (Or.inl ⟨by rfl, ?_⟩) (by assumption) ?_
                    rotate_left 1
                    · intro w hSw; (try dsimp only at hSw); go_simp; all_goals with_reducible rfl
                    try simp only [Act.put, List.setIfInBounds_toArray, List.set_cons_zero, List.set_cons_succ]
                    refine wpAnyH_take (i := 13) (oi := ⟨some 39, _, _, _, _, _⟩) (v := ?_) rfl (by kernel_rfl) (by kernel_rfl) (by kernel_rfl) (fun _ _ _ h => h) (Or.inl ⟨by rfl, ?_⟩) (by assumption) ?_
                    rotate_left 1
                    · intro w hSw; (try dsimp only at hSw); go_simp; all_goals with_reducible rfl
                    try simp only [Act.put, List.setIfInBounds_toArray, List.set_cons_zero, List.set_cons_succ]
                    refine wpAnyH_take (i := 14) (oi := ⟨some 40, _, _, _, _, _⟩) (v := ?_) rfl (by kernel_rfl) (by kernel_rfl) (by kernel_rfl) (fun _ _ _ h => h) (Or.inl ⟨by rfl, ?_⟩) (by assumption) ?_
                    rotate_left 1
                    · intro w hSw; (try dsimp only at hSw); go_simp; all_goals with_reducible rfl
                    try simp only [Act.put, List.setIfInBounds_toArray, List.set_cons_zero, List.set_cons_succ]
                    refine wpAnyH_take (i := 15) (oi := ⟨some 41, _, _, _, _, _⟩) (v := ?_) rfl (by kernel_rfl) (by kernel_rfl) (by kernel_rfl) (fun _ _ _ h => h) (Or.inl ⟨by rfl, ?_⟩) (by assumption) ?_
                    rotate_left 1
                    · intro w hSw; (try dsimp only at hSw); go_simp; all_goals with_reducible rfl
                    try simp only [Act.put, List.setIfInBounds_toArray, List.set_cons_zero, List.set_cons_succ]
                    refine wpAnyH_take (i := 16) (oi := ⟨some 42, _, _, _, _, _⟩) (v := ?_) rfl (by kernel_rfl) (by kernel_rfl) (by kernel_rfl) (fun _ _ _ h => h) (Or.inl ⟨by rfl, ?_⟩) (by assumption) ?_
                    rotate_left 1
                    · intro w hSw; (try dsimp only at hSw); go_simp; all_goals with_reducible rfl
                    try simp only [Act.put, List.setIfInBounds_toArray, List.set_cons_zero, List.set_cons_succ]
                    refine wpAnyH_take (i := 17) (oi := ⟨some 43, _, _, _, _, _⟩) (v := ?_) rfl (by kernel_rfl) (by kernel_rfl) (by kernel_rfl) (fun _ _ _ h => h) (Or.inl ⟨by rfl, ?_⟩) (by assumption) ?_
                    rotate_left 1
                    · intro w hSw; (try dsimp only at hSw); go_simp; all_goals with_reducible rfl
                    try simp only [Act.put, List.setIfInBounds_toArray, List.set_cons_zero, List.set_cons_succ]
                    refine wpAnyH_take (i := 18) (oi := ⟨some 44, _, _, _, _, _⟩) (v := ?_) rfl (by kernel_rfl) (by kernel_rfl) (by kernel_rfl) (fun _ _ _ h => h) (Or.inl ⟨by rfl, ?_⟩) (by assumption) ?_
                    rotate_left 1
                    · intro w hSw; (try dsimp only at hSw); go_simp; all_goals with_reducible rfl
                    try simp only [Act.put, List.setIfInBounds_toArray, List.set_cons_zero, List.set_cons_succ]
                    refine wpAnyH_ready (rs := [19]) (by kernel_rfl) (by simp) ?_
                    refine AllReadyH.cons (o := ⟨some 45, _, _, _, _, _⟩) rfl (fun K hK => ?_) AllReadyH.nil
                    go_simp
                    go_at_call 30; refine (OR.out _).mono ?_; rintro e w'' ⟨rfl, hBm⟩
                    refine hK.out _ _ (⟨(hBm.cell (p := ⟨wr.heap.size, 0, none⟩) (Nat.lt_of_lt_of_le hlx hBn.size)).trans ((hBn.cell (p := ⟨wr.heap.size, 0, none⟩) hlx).trans x0), (hBm.cell (p := ⟨wr.heap.size, 1, none⟩) (Nat.lt_of_lt_of_le hlx hBn.size)).trans ((hBn.cell (p := ⟨wr.heap.size, 1, none⟩) hlx).trans x1), (hBm.cell (p := ⟨w.heap.size, g, none⟩) (Nat.lt_of_lt_of_le hls hBn.size)).trans ((hBn.cell (p := ⟨w.heap.size, g, none⟩) hls).trans s0), (hBm.cell (p := ⟨b, o + j * 2, none⟩) (Nat.lt_of_lt_of_le hlb hBn.size)).trans ((hBn.cell (p := ⟨b, o + j * 2, none⟩) hlb).trans r0), (hBm.cell (p := ⟨b, o + j * 2 + 1, none⟩) (Nat.lt_of_lt_of_le hlb hBn.size)).trans ((hBn.cell (p := ⟨b, o + j * 2 + 1, none⟩) hlb).trans r1)⟩) (fun hHeld => ?_)
                    clear hK
                    try simp only [Act.put, List.setIfInBounds_toArray, List.set_cons_zero, List.set_cons_succ]
                    refine wpAnyH_take (i := 20) (oi := ⟨some 46, _, _, _, _, _⟩) (v := ?_) rfl (by kernel_rfl) (by kernel_rfl) (by kernel_rfl) (fun _ _ _ h => h) (Or.inl ⟨by rfl, ?_⟩) (by assumption) ?_
                    rotate_left 1
                    · intro w hSw; (try dsimp only at hSw); go_simp; all_goals with_reducible rfl
                    try simp only [Act.put, List.setIfInBounds_toArray, List.set_cons_zero, List.set_cons_succ]
                    refine wpAnyH_take (i := 21) (oi := ⟨some 47, _, _, _, _, _⟩) (v := ?_) rfl (by kernel_rfl) (by kernel_rfl) (by kernel_rfl) (fun _ _ _ h => h) (Or.inl ⟨by rfl, ?_⟩) (by assumption) ?_
                    rotate_left 1
                    · intro w hSw; (try dsimp only at hSw); go_simp; all_goals with_reducible rfl
                    try simp only [Act.put, List.setIfInBounds_toArray, List.set_cons_zero, List.set_cons_succ]
                    refine wpAnyH_take (i := 22) (oi := ⟨some 48, _, _, _, _, _⟩) (v := ?_) rfl (by kernel_rfl) (by kernel_rfl) (by kernel_rfl) (fun _ _ _ h => h) (Or.inl ⟨by rfl, ?_⟩) (by assumption) ?_
                    rotate_left 1
                    · intro w hSw; (try dsimp only at hSw); go_simp; all_goals with_reducible rfl
                    try simp only [Act.put, List.setIfInBounds_toArray, List.set_cons_zero, List.set_cons_succ]
                    refine wpAnyH_done (by kernel_rfl) ?_ _
                    go_wp2_with fail
                    go_ret
                    exact ⟨ans_no hF.out HN.out, HB1.out.trans ((((Below.refl _ _).drew.trans hBn).trans (hBm.mono hBn.size)).mono HB1.out.size)⟩
            · rw [decide_eq_false hok] at RI
              have HN : Hid (¬ MayP next l) := fun h => hok (by rw [hc.out]; exact (okL_take_get h.2.2.2 i hil).1)
              clear hok
              go_wp2_with fail
              have hx := HX.out
              have hdd := HDD.out
              generalize wr.alloc (.cells #[.int .i64 c.txn, .int .i64 c.page] 28) = W1 at hx hdd HB1 HFR ⊢
              have x0 : W1.cell? ⟨wr.heap.size, 0, none⟩ = some (.int .i64 c.txn) := by rw [Lib.cell_of_heap hx]; rfl
              have x1 : W1.cell? ⟨wr.heap.size, 1, none⟩ = some (.int .i64 c.page) := by rw [Lib.cell_of_heap hx]; rfl
              have hlx : wr.heap.size < W1.heap.size := kt.bld_lt hx
              refine wp_region_held_drew (S := fun W => W.cell? ⟨wr.heap.size, 0, none⟩ = some (.int .i64 c.txn) ∧ W.cell? ⟨wr.heap.size, 1, none⟩ = some (.int .i64 c.page)) (by kernel_rfl) (⟨x0, x1⟩) (fun hHeld => ?_)
              refine wpAnyH_take (i := 0) (oi := ⟨some 26, _, _, _, _, _⟩) (v := ?_) rfl (by kernel_rfl) (by kernel_rfl) (by kernel_rfl) (fun _ _ _ h => h) (Or.inl ⟨by rfl, ?_⟩) (by assumption) ?_
              rotate_left 1
              · intro w hSw; (try dsimp only at hSw); go_simp; all_goals with_reducible rfl
              try simp only [Act.put, List.setIfInBounds_toArray, List.set_cons_zero, List.set_cons_succ]
              refine wpAnyH_ready (rs := [1]) (by kernel_rfl) (by simp) ?_
              refine AllReadyH.cons (o := ⟨some 27, _, _, _, _, _⟩) rfl (fun K hK => ?_) AllReadyH.nil
              go_simp
              go_at_call 28; refine (RI.out _).mono ?_; rintro e w' ⟨rfl, hBn⟩
              refine hK.out _ _ (⟨(hBn.cell (p := ⟨wr.heap.size, 0, none⟩) hlx).trans x0, (hBn.cell (p := ⟨wr.heap.size, 1, none⟩) hlx).trans x1⟩) (fun hHeld => ?_)
              clear hK
              try simp only [Act.put, List.setIfInBounds_toArray, List.set_cons_zero, List.set_cons_succ]
              refine wpAnyH_take (i := 2) (oi := ⟨some 28, _, _, _, _, _⟩) (v := ?_) rfl (by kernel_rfl) (by kernel_rfl) (by kernel_rfl) (fun _ _ _ h => h) (Or.inl ⟨by rfl, ?_⟩) (by assumption) ?_
              rotate_left 1
              · intro w hSw; (try dsimp only at hSw); go_simp; all_goals with_reducible rfl
              try simp only [Act.put, List.setIfInBounds_toArray, List.set_cons_zero, List.set_cons_succ]
              refine wpAnyH_take (i := 3) (oi := ⟨some 29, _, _, _, _, _⟩) (v := ?_) rfl (by kernel_rfl) (by kernel_rfl) (by kernel_rfl) (fun _ _ _ h => h) (Or.inl ⟨by rfl, ?_⟩) (by assumption) ?_
              rotate_left 1
              · intro w hSw; (try dsimp only at hSw); go_simp; all_goals with_reducible rfl
              try simp only [Act.put, List.setIfInBounds_toArray, List.set_cons_zero, List.set_cons_succ]
              refine wpAnyH_take (i := 4) (oi := ⟨some 30, _, _, _, _, _⟩) (v := undef) rfl (by kernel_rfl) (by kernel_rfl) (by kernel_rfl) (fun _ _ _ h => h) (Or.inr ⟨by rfl, rfl⟩) (by assumption) ?_
              try simp only [Act.put, List.setIfInBounds_toArray, List.set_cons_zero, List.set_cons_succ]
              refine wpAnyH_take (i := 5) (oi := ⟨some 31, _, _, _, _, _⟩) (v := undef) rfl (by kernel_rfl) (by kernel_rfl) (by kernel_rfl) (fun _ _ _ h => h) (Or.inr ⟨by rfl, rfl⟩) (by assumption) ?_
              try simp only [Act.put, List.setIfInBounds_toArray, List.set_cons_zero, List.set_cons_succ]
              refine wpAnyH_take (i := 6) (oi := ⟨some 32, _, _, _, _, _⟩) (v := undef) rfl (by kernel_rfl) (by kernel_rfl) (by kernel_rfl) (fun _ _ _ h => h) (Or.inr ⟨by rfl, rfl⟩) (by assumption) ?_
              try simp only [Act.put, List.setIfInBounds_toArray, List.set_cons_zero, List.set_cons_succ]
              refine wpAnyH_take (i := 7) (oi := ⟨some 33, _, _, _, _, _⟩) (v := undef) rfl (by kernel_rfl) (by kernel_rfl) (by kernel_rfl) (fun _ _ _ h => h) (Or.inr ⟨by rfl, rfl⟩) (by assumption) ?_
              try simp only [Act.put, List.setIfInBounds_toArray, List.set_cons_zero, List.set_cons_succ]
              refine wpAnyH_take (i := 8) (oi := ⟨some 34, _, _, _, _, _⟩) (v := ?_) rfl (by kernel_rfl) (by kernel_rfl) (by kernel_rfl) (fun _ _ _ h => h) (Or.inl ⟨by rfl, ?_⟩) (by assumption) ?_
              rotate_left 1
              · intro w hSw; (try dsimp only at hSw); go_simp; all_goals with_reducible rfl
              try simp only [Act.put, List.setIfInBounds_toArray, List.set_cons_zero, List.set_cons_succ]
              refine wpAnyH_take (i := 9) (oi := ⟨some 35, _, _, _, _, _⟩) (v := ?_) rfl (by kernel_rfl) (by kernel_rfl) (by kernel_rfl) (fun _ _ _ h => h) (Or.inl ⟨by rfl, ?_⟩) (by assumption) ?_
              rotate_left 1
              · intro w hSw; (try dsimp only at hSw); go_simp; all_goals with_reducible rfl
              try simp only [Act.put, List.setIfInBounds_toArray, List.set_cons_zero, List.set_cons_succ]
              refine wpAnyH_take (i := 10) (oi := ⟨some 36, _, _, _, _, _⟩) (v := undef) rfl (by kernel_rfl) (by kernel_rfl) (by kernel_rfl) (fun _ _ _ h => h) (Or.inr ⟨by rfl, rfl⟩) (by assumption) ?_
              try simp only [Act.put, List.setIfInBounds_toArray, List.set_cons_zero, List.set_cons_succ]
              refine wpAnyH_take (i := 11) (oi := ⟨some 37, _, _, _, _, _⟩) (v := undef) rfl (by kernel_rfl) (by kernel_rfl) (by kernel_rfl) (fun _ _ _ h => h) (Or.inr ⟨by rfl, rfl⟩) (by assumption) ?_
              try simp only [Act.put, List.setIfInBounds_toArray, List.set_cons_zero, List.set_cons_succ]
              refine wpAnyH_take (i := 12) (oi := ⟨some 38, _, _, _, _, _⟩) (v := undef) rfl (by kernel_rfl) (by kernel_rfl) (by kernel_rfl) (fun _ _ _ h => h) (Or.inr ⟨by rfl, rfl⟩) (by assumption) ?_
              try simp only [Act.put, List.setIfInBounds_toArray, List.set_cons_zero, List.set_cons_succ]
              refine wpAnyH_take (i := 13) (oi := ⟨some 39, _, _, _, _, _⟩) (v := undef) rfl (by kernel_rfl) (by kernel_rfl) (by kernel_rfl) (fun _ _ _ h => h) (Or.inr ⟨by rfl, rfl⟩) (by assumption) ?_
              try simp only [Act.put, List.setIfInBounds_toArray, List.set_cons_zero, List.set_cons_succ]
              refine wpAnyH_take (i := 14) (oi := ⟨some 40, _, _, _, _, _⟩) (v := undef) rfl (by kernel_rfl) (by kernel_rfl) (by kernel_rfl) (fun _ _ _ h => h) (Or.inr ⟨by rfl, rfl⟩) (by assumption) ?_
              try simp only [Act.put, List.setIfInBounds_toArray, List.set_cons_zero, List.set_cons_succ]
              refine wpAnyH_take (i := 15) (oi := ⟨some 41, _, _, _, _, _⟩) (v := undef) rfl (by kernel_rfl) (by kernel_rfl) (by kernel_rfl) (fun _ _ _ h => h) (Or.inr ⟨by rfl, rfl⟩) (by assumption) ?_
              try simp only [Act.put, List.setIfInBounds_toArray, List.set_cons_zero, List.set_cons_succ]
              refine wpAnyH_take (i := 16) (oi := ⟨some 42, _, _, _, _, _⟩) (v := undef) rfl (by kernel_rfl) (by kernel_rfl) (by kernel_rfl) (fun _ _ _ h => h) (Or.inr ⟨by rfl, rfl⟩) (by assumption) ?_
              try simp only [Act.put, List.setIfInBounds_toArray, List.set_cons_zero, List.set_cons_succ]
              refine wpAnyH_take (i := 17) (oi := ⟨some 43, _, _, _, _, _⟩) (v := undef) rfl (by kernel_rfl) (by kernel_rfl) (by kernel_rfl) (fun _ _ _ h => h) (Or.inr ⟨by rfl, rfl⟩) (by assumption) ?_
              try simp only [Act.put, List.setIfInBounds_toArray, List.set_cons_zero, List.set_cons_succ]
              refine wpAnyH_take (i := 18) (oi := ⟨some 44, _, _, _, _, _⟩) (v := undef) rfl (by kernel_rfl) (by kernel_rfl) (by kernel_rfl) (fun _ _ _ h => h) (Or.inr ⟨by rfl, rfl⟩) (by assumption) ?_
              try simp only [Act.put, List.setIfInBounds_toArray, List.set_cons_zero, List.set_cons_succ]
              refine wpAnyH_take (i := 19) (oi := ⟨some 45, _, _, _, _, _⟩) (v := undef) rfl (by kernel_rfl) (by kernel_rfl) (by kernel_rfl) (fun _ _ _ h => h) (Or.inr ⟨by rfl, rfl⟩) (by assumption) ?_
              try simp only [Act.put, List.setIfInBounds_toArray, List.set_cons_zero, List.set_cons_succ]
              refine wpAnyH_take (i := 20) (oi := ⟨some 46, _, _, _, _, _⟩) (v := undef) rfl (by kernel_rfl) (by kernel_rfl) (by kernel_rfl) (fun _ _ _ h => h) (Or.inr ⟨by rfl, rfl⟩) (by assumption) ?_
              try simp only [Act.put, List.setIfInBounds_toArray, List.set_cons_zero, List.set_cons_succ]
              refine wpAnyH_take (i := 21) (oi := ⟨some 47, _, _, _, _, _⟩) (v := undef) rfl (by kernel_rfl) (by kernel_rfl) (by kernel_rfl) (fun _ _ _ h => h) (Or.inr ⟨by rfl, rfl⟩) (by assumption) ?_
              try simp only [Act.put, List.setIfInBounds_toArray, List.set_cons_zero, List.set_cons_succ]
              refine wpAnyH_take (i := 22) (oi := ⟨some 48, _, _, _, _, _⟩) (v := ?_) rfl (by kernel_rfl) (by kernel_rfl) (by kernel_rfl) (fun _ _ _ h => h) (Or.inl ⟨by rfl, ?_⟩) (by assumption) ?_
              rotate_left 1
              · intro w hSw; (try dsimp only at hSw); go_simp; all_goals with_reducible rfl
              try simp only [Act.put, List.setIfInBounds_toArray, List.set_cons_zero, List.set_cons_succ]
              refine wpAnyH_done (by kernel_rfl) ?_ _
              go_wp2_with fail
              go_ret
              exact ⟨ans_no hF.out HN.out, HB1.out.trans (((Below.refl _ _).drew.trans hBn).mono HB1.out.size)⟩
          · obtain rfl : i = l.length := by omega
            have hil' : ¬ (l.length : Int) < (l.length : Int) := by omega
            have HY : Hid (MayP next l) := by
              have h := hOk.out
              rw [List.take_of_length_le (Nat.le_refl _)] at h
              exact ⟨by omega, by omega, hl40, h⟩
            go_wp2_with fail
            go_ret
            exact ⟨ans_yes hF.out HY.out, hB⟩
end fre
end Go.Proofs.Ytcmpepojokmhnaa
