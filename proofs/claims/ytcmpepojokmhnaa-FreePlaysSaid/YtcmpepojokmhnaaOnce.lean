/- The walk of the statement FreeOnce. -/
import Derived.Test.YtcmpepojokmhnaaActs
namespace Go.Proofs.Ytcmpepojokmhnaa
open Go.RowKit
namespace fre
set_option linter.unusedVariables false
set_option linter.unusedSimpArgs false
/-- each that is free lies in the row, under its page -/
def Marks (l : List Fre) (f : Nat → Int) : Prop := ∀ x ∈ l, f x.page.toNat = x.txn
theorem marks_add {l : List Fre} {f : Nat → Int} {c : Fre} (h : Marks l f) (hl : OkL l) (ha : (addP l c).2 = 0) (g : Nat) (hg : c.page = (g : Int)) : Marks (addP l c).1 (fun j => if j = g then c.txn else f j) := by
  unfold addP at ha ⊢
  split at ha
  · rename_i hok
    split at ha
    · cases ha
    · rename_i hh
      rw [if_pos hok, if_neg hh]
      intro x hx
      rcases mem_insF.1 hx with rfl | hx
      · show (if _ then _ else _) = _
        rw [if_pos (by omega)]
      · have hne : x.page.toNat ≠ g := by
          intro e
          apply hh
          rw [hereB_iff]
          have := (hl.2.1 x hx).2.2.1
          exact ⟨x, hx, by omega⟩
        show (if _ then _ else _) = _
        rw [if_neg hne]
        exact h x hx
  · cases ha
theorem addP_zero {l : List Fre} {c : Fre} (ha : (addP l c).2 = 0) : okF c := by
  unfold addP at ha
  split at ha
  · assumption
  · cases ha
theorem addP_len (l : List Fre) (c : Fre) : (addP l c).1.length ≤ l.length + 1 := by
  unfold addP
  split
  · split
    · simp
    · rw [insF_len]; exact Nat.le_refl _
  · simp
theorem addP_same {l : List Fre} {c : Fre} (ha : ¬ (addP l c).2 = 0) : (addP l c).1 = l := by
  unfold addP at ha ⊢
  split at ha
  · rename_i h1
    split at ha
    · rename_i h2; rw [if_pos h1, if_pos h2]
    · exact absurd rfl ha
  · rename_i h1; rw [if_neg h1]
theorem takeP_no {l : List Fre} {u : Int} (h : (takeP l u).2.2 = false) : (takeP l u).1 = l := by
  unfold takeP at h ⊢
  split at h
  · rfl
  · split at h
    · rename_i h2; rw [if_pos h2]
    · cases h
theorem takeP_yes {l : List Fre} {u : Int} (h : (takeP l u).2.2 = true) : ∃ a r, l = a :: r ∧ takeP l u = (r, a.page, true) ∧ a.txn ≤ u := by
  unfold takeP at h ⊢
  split at h
  · cases h
  · rename_i a r
    split at h
    · cases h
    · rename_i h2
      exact ⟨a, r, rfl, by simp only [h2, if_false], by omega⟩
theorem takeP_len (l : List Fre) (u : Int) : (takeP l u).1.length ≤ l.length := by
  unfold takeP
  split
  · exact Nat.le_refl _
  · split
    · exact Nat.le_refl _
    · simp
theorem marks_tail {a : Fre} {r : List Fre} {f : Nat → Int} (h : Marks (a :: r) f) (hl : OkL (a :: r)) (g : Nat) (hg : a.page = (g : Int)) (b : Int) : Marks r (fun j => if j = g then b else f j) := by
  intro x hx
  have hne : x.page.toNat ≠ g := by
    intro e
    have hn := (List.nodup_cons.1 (by simpa using hl.2.2 : (a.page :: r.map Fre.page).Nodup)).1
    have := (hl.2.1 x (by simp [hx])).2.2.1
    exact hn (List.mem_map.2 ⟨x, hx, by omega⟩)
  show (if _ then _ else _) = _
  rw [if_neg hne]
  exact h x (by simp [hx])
theorem below_drewN {B : Nat} {a b : World} (h : Below B a b) (n : Nat) : Below B a (b.drewN n) := ⟨h.os, h.tape, h.output, h.size, h.block⟩
theorem ints_congr {w : World} {q : Nat} {f g : Nat → Int} (h : Ints w q f) (e : ∀ j, j < 512 → f j = g j) : Ints w q g := by
  unfold Ints at h ⊢
  rw [h, icN_congr 512 e]
/-- the list is not touched by a store into the row -/
theorem own_set {W w : World} {B p q k : Nat} {v : Value} {l : List Fre} {x : Value} (h : Own W w B p v l) (hp : q ≠ p) (hv : v.ownBlock ≠ some q) (hq : B ≤ q) : Own W (w.setCell ⟨q, k, none⟩ x) B p v l :=
  ⟨⟨h.1.1, (Below.heap_setCell _ _ _ _ (fun e => hp e.symm)).trans h.1.2.1, kt.segX_same h.1.2.2.1 (fun j hj => Below.heap_setCell _ _ _ _ (fun e => hv (by have e' : j = q := e; rw [← e']; exact hj))), h.1.2.2.2⟩, h.2.1, h.2.2.1.setCell hq _, by rw [World.size_setCell]; exact h.2.2.2⟩
theorem own_below {W w w' : World} {B p : Nat} {v : Value} {l : List Fre} (h : Own W w B p v l) (hb : Below w.heap.size w w') : Own W w' B p v l :=
  ⟨isList_below h.1 hb, h.2.1, h.2.2.1.trans (hb.mono h.2.2.2), Nat.le_trans h.2.2.2 hb.size⟩
theorem ints_touch {w w' : World} {p q : Nat} {v : Value} {f : Nat → Int} (h : Ints w q f) (ht : Touch w w' p v) (hp : q ≠ p) (hv : v.ownBlock ≠ some q) : Ints w' q f := (ht.block q (kt.bld_lt h) hp hv).trans h
theorem acts_touch {w w' : World} {ao : Option Addr} {l : List Act} {B : Nat} (h : Acts w ao l) (hb : Below B w w') (hB : ∀ b o, ao = some ⟨b, o, none⟩ → b < B) : Acts w' ao l := by
  intro i hi
  obtain ⟨b, o, e, h0, h1, h2, h3⟩ := h i hi
  have hlt : b < B := hB b o e
  exact ⟨b, o, e, (hb.cell hlt).trans h0, (hb.cell hlt).trans h1, (hb.cell hlt).trans h2, (hb.cell hlt).trans h3⟩
set_option maxRecDepth 20000 in
set_option maxHeartbeats 4000000 in
theorem once_any (ao : Option Addr) (cap : Nat) (l : List Act) (w : World) (hl : Hid (Acts w ao l)) (hn : l.length ≤ 9223372036854775807) :
    Calls Try.prog 3 #[.slice ao l.length cap] w fun e w' => e = .returned (.bool true) ∧ Below w.heap.size w w' := by
  have A := Lib.hid awake_true
  have N := Lib.hid new_any
  have MK := Lib.hid make512
  go_enter Try.func3, Try.ntmps3
  go_wp2_with fail
  refine (A.out _).mono ?_
  rintro e w1 ⟨rfl, hB1⟩
  go_wp2_with fail
  refine (N.out _).mono ?_
  rintro e w2 ⟨rfl, rfl⟩
  have hO := own_new w1
  have hz2 : w1.heap.size < (w1.alloc (.cells (lcells (.slice none 0 0) fun _ => false) 55)).heap.size := by rw [size1]; omega
  generalize w1.alloc (.cells (lcells (.slice none 0 0) fun _ => false) 55) = w2 at hO hz2 ⊢
  obtain ⟨w3, hmk, hI, hB3⟩ := MK.out w2
  have HO3 : Hid (Own w1 w3 w1.heap.size w1.heap.size (.slice none 0 0) []) := own_below hO hB3
  have HI := Lib.hid hI
  have HB1 := Lib.hid hB1
  have HLT : Hid (w1.heap.size < w2.heap.size) := hz2
  clear hO hI hB3 hz2 hB1
  go_wp2_with fail
  go_loopw [5] (fun iv wr => ∃ i : Nat, i ≤ 512 ∧ iv = .int .i64 i ∧ Hid (Ints wr w2.heap.size (fun k => if k < i then -1 else 0)) ∧ Hid (Own w1 wr w1.heap.size w1.heap.size (.slice none 0 0) [])) (fun iv _ => 512 - (intOf iv).toNat)
  case atStart => exact ⟨0, Nat.zero_le _, rfl, ints_congr HI.out (fun j _ => by simp), HO3⟩
  case round =>
    obtain ⟨i, hi, rfl, hI, hO⟩ := hrel
    by_cases hil : i < 512
    · have hil' : (i : Int) < 512 := by omega
      have hi0 : (0 : Int) ≤ (i : Int) := by omega
      obtain ⟨c0, c1⟩ := ints_cell hI.out i hil
      go_wp2_with fail
      go_roundw
      case rel =>
        refine ⟨i + 1, by omega, by go_num, ?_, own_set hO.out (by have := HLT.out; omega) (by intro h; cases h) (by have := HLT.out; omega)⟩
        refine ints_congr (ints_set hI.out i hil (-1)) (fun j _ => ?_)
        by_cases e : j = i
        · subst e; simp
        · by_cases e2 : j < i
          · simp [e, e2, show j < i + 1 by omega]
          · simp [e, e2, show ¬ j < i + 1 by omega]
      case measure => simp [intOf]; omega
    · obtain rfl : i = 512 := by omega
      have hil' : ¬ (512 : Int) < 512 := by omega
      have hil2 : ¬ ((512 : Nat) : Int) < 512 := by omega
      have HI5 : Hid (Ints wr w2.heap.size (fun _ => -1)) := ints_congr hI.out (fun j hj => by simp [hj])
      clear hI HI
      go_wp2_with fail
      go_loopw [6] (fun iv wk => ∃ (i : Nat) (v : Value) (l2 : List Fre) (f : Nat → Int), i ≤ l.length ∧ i ≤ 80 ∧ iv = .int .i64 i ∧ Hid (l2.length ≤ i) ∧ Hid (Marks l2 f) ∧ Hid (Ints wk w2.heap.size f) ∧ Hid (Own w1 wk w1.heap.size w1.heap.size v l2) ∧ Hid (v.ownBlock ≠ some w2.heap.size)) (fun iv _ => 80 - (intOf iv).toNat)
      case atStart => exact ⟨0, .slice none 0 0, [], fun _ => -1, Nat.zero_le _, Nat.zero_le _, rfl, Nat.le_refl _, (fun x hx => by simp at hx), HI5, hO.out, (by intro h; cases h)⟩
      case round =>
        obtain ⟨i, v, l2, f, hi, hi80, rfl, hlen, hM, hI, hO, hne⟩ := hrel
        have HBW : Hid (Below w1.heap.size w1 wr) := hO.out.2.2.1
        by_cases hil : i < l.length
        · by_cases h80 : i < 80
          · have hil3 : (i : Int) < (l.length : Int) := by omega
            have hi0 : (0 : Int) ≤ (i : Int) := by omega
            obtain ⟨c, hc⟩ : ∃ c : Act, Hid (c = l[i]'hil) := ⟨l[i]'hil, rfl⟩
            have hacts := acts_below (acts_below hl.out HB1.out) HBW.out
            obtain ⟨b, o, hao, f0, f1, f2, f3⟩ := hacts i hil
            rw [← hc.out] at f0 f1 f2 f3
            subst hao
            have hlb : b < wr.heap.size := World.block_lt_of_cell? wr ⟨b, _, none⟩ f0
            have hbq : ∀ o', (some (⟨b, o, none⟩ : Addr)) = some ⟨b, o', none⟩ → b < w.heap.size := fun _ _ => by
              obtain ⟨b', o'', e, h0, _⟩ := hl.out i hil
              cases e
              exact World.block_lt_of_cell? w ⟨b, _, none⟩ h0
            have hbw : b < w1.heap.size := Nat.lt_of_lt_of_le (hbq o rfl) HB1.out.size
            by_cases hk : c.kind = 1
            · have hk' : (c.kind == 1) = true := by simpa using hk
              have AD := Lib.hid (own_add hO.out c.f (by have := hlen.out; omega))
              unfold Fre.v at AD
              have hal := addP_len l2 c.f
              have HZ : Hid ((addP l2 c.f).2 = 0 → okF c.f) := addP_zero
              have HMA : Hid (∀ g : Nat, (addP l2 c.f).2 = 0 → c.f.page = (g : Int) → Marks (addP l2 c.f).1 (fun j => if j = g then c.f.txn else f j)) := fun g h1 h2 => marks_add hM.out hO.out.2.1 h1 g h2
              have HMS : Hid (¬ (addP l2 c.f).2 = 0 → Marks (addP l2 c.f).1 f) := fun h => by rw [addP_same h]; exact hM.out
              generalize addP l2 c.f = ad at AD hal HZ HMA HMS
              obtain ⟨l3, z⟩ := ad
              dsimp only at AD hal HZ HMA HMS
              have HAL : Hid (l3.length ≤ i + 1) := by have := hlen.out; show _ ≤ _; omega
              clear hal hk
              go_wp2_with fail
              refine AD.out.mono ?_
              rintro e w4 ⟨rfl, v4, hO4, hsn, ht⟩
              have HI4 : Hid (Ints w4 w2.heap.size f) := ints_touch hI.out ht (by have := HLT.out; omega) hne.out
              have HNE4 : Hid (v4.ownBlock ≠ some w2.heap.size) := fun h => by
                rcases hsn _ h with h' | h'
                · exact hne.out h'
                · have := kt.bld_lt hI.out
                  omega
              clear hsn ht
              by_cases hz : z = 0
              · subst hz
                have hok := HZ.out rfl
                obtain ⟨g, hg⟩ := Int.eq_ofNat_of_zero_le (show 0 ≤ c.f.page by have := hok.2.2.1; omega)
                have hg512 : g < 512 := by have := hok.2.2.2; omega
                have hgi0 : (0 : Int) ≤ (g : Int) := by omega
                have hgi1 : (g : Int) < 512 := by omega
                have HMG := Lib.hid (HMA.out g rfl hg)
                rw [hg] at f2
                have hB4 : Below w1.heap.size w1 w4 := hO4.out.2.2.1
                obtain ⟨b', o', e', r0, r1, r2, r3⟩ := acts_below (acts_below hl.out HB1.out) hB4 i hil
                cases e'
                rw [← hc.out] at r1 r2
                rw [hg] at r2
                obtain ⟨s0, s1⟩ := ints_cell HI4.out g hg512
                clear hok hg HMA HMS HZ r0 r3 hB4 f0 f1 f2 f3
                go_wp2_with fail
                refine wp_region_held_drew (S := fun W => W.cell? ⟨b, o + i * 4 + 1, none⟩ = some (.int .i64 c.f.txn) ∧ W.cell? ⟨b, o + i * 4 + 1 + 1, none⟩ = some (.int .i64 (g : Int))) (by kernel_rfl) (⟨r1, r2⟩) (fun hHeld => ?_)
                refine wpAnyH_take (i := 0) (oi := ⟨some 46, _, _, _, _, _⟩) (v := ?_) rfl (by kernel_rfl) (by kernel_rfl) (by kernel_rfl) (fun _ _ _ h => h) (Or.inl ⟨by rfl, ?_⟩) (by assumption) ?_
                rotate_left 1
                · intro w hSw; (try dsimp only at hSw); go_simp; all_goals with_reducible rfl
                try simp only [Act.put, List.setIfInBounds_toArray, List.set_cons_zero, List.set_cons_succ]
                refine wpAnyH_take (i := 1) (oi := ⟨some 47, _, _, _, _, _⟩) (v := ?_) rfl (by kernel_rfl) (by kernel_rfl) (by kernel_rfl) (fun _ _ _ h => h) (Or.inl ⟨by rfl, ?_⟩) (by assumption) ?_
                rotate_left 1
                · intro w hSw; (try dsimp only at hSw); go_simp; all_goals with_reducible rfl
                try simp only [Act.put, List.setIfInBounds_toArray, List.set_cons_zero, List.set_cons_succ]
                refine wpAnyH_take (i := 2) (oi := ⟨some 48, _, _, _, _, _⟩) (v := ?_) rfl (by kernel_rfl) (by kernel_rfl) (by kernel_rfl) (fun _ _ _ h => h) (Or.inl ⟨by rfl, ?_⟩) (by assumption) ?_
                rotate_left 1
                · intro w hSw; (try dsimp only at hSw); go_simp; all_goals with_reducible rfl
                try simp only [Act.put, List.setIfInBounds_toArray, List.set_cons_zero, List.set_cons_succ]
                refine wpAnyH_take (i := 3) (oi := ⟨some 49, _, _, _, _, _⟩) (v := ?_) rfl (by kernel_rfl) (by kernel_rfl) (by kernel_rfl) (fun _ _ _ h => h) (Or.inl ⟨by rfl, ?_⟩) (by assumption) ?_
                rotate_left 1
                · intro w hSw; (try dsimp only at hSw); go_simp; all_goals with_reducible rfl
                try simp only [Act.put, List.setIfInBounds_toArray, List.set_cons_zero, List.set_cons_succ]
                refine wpAnyH_take (i := 4) (oi := ⟨some 50, _, _, _, _, _⟩) (v := ?_) rfl (by kernel_rfl) (by kernel_rfl) (by kernel_rfl) (fun _ _ _ h => h) (Or.inl ⟨by rfl, ?_⟩) (by assumption) ?_
                rotate_left 1
                · intro w hSw; (try dsimp only at hSw); go_simp; all_goals with_reducible rfl
                try simp only [Act.put, List.setIfInBounds_toArray, List.set_cons_zero, List.set_cons_succ]
                refine wpAnyH_take (i := 5) (oi := ⟨some 51, _, _, _, _, _⟩) (v := ?_) rfl (by kernel_rfl) (by kernel_rfl) (by kernel_rfl) (fun _ _ _ h => h) (Or.inl ⟨by rfl, ?_⟩) (by assumption) ?_
                rotate_left 1
                · intro w hSw; (try dsimp only at hSw); go_simp; all_goals with_reducible rfl
                try simp only [Act.put, List.setIfInBounds_toArray, List.set_cons_zero, List.set_cons_succ]
                refine wpAnyH_take (i := 6) (oi := ⟨some 52, _, _, _, _, _⟩) (v := ?_) rfl (by kernel_rfl) (by kernel_rfl) (by kernel_rfl) (fun _ _ _ h => h) (Or.inl ⟨by rfl, ?_⟩) (by assumption) ?_
                rotate_left 1
                · intro w hSw; (try dsimp only at hSw); go_simp; all_goals with_reducible rfl
                try simp only [Act.put, List.setIfInBounds_toArray, List.set_cons_zero, List.set_cons_succ]
                refine wpAnyH_take (i := 7) (oi := ⟨some 53, _, _, _, _, _⟩) (v := ?_) rfl (by kernel_rfl) (by kernel_rfl) (by kernel_rfl) (fun _ _ _ h => h) (Or.inl ⟨by rfl, ?_⟩) (by assumption) ?_
                rotate_left 1
                · intro w hSw; (try dsimp only at hSw); go_simp; all_goals with_reducible rfl
                try simp only [Act.put, List.setIfInBounds_toArray, List.set_cons_zero, List.set_cons_succ]
                refine wpAnyH_take (i := 8) (oi := ⟨some 54, _, _, _, _, _⟩) (v := ?_) rfl (by kernel_rfl) (by kernel_rfl) (by kernel_rfl) (fun _ _ _ h => h) (Or.inl ⟨by rfl, ?_⟩) (by assumption) ?_
                rotate_left 1
                · intro w hSw; (try dsimp only at hSw); go_simp; all_goals with_reducible rfl
                try simp only [Act.put, List.setIfInBounds_toArray, List.set_cons_zero, List.set_cons_succ]
                refine wpAnyH_take (i := 9) (oi := ⟨some 55, _, _, _, _, _⟩) (v := ?_) rfl (by kernel_rfl) (by kernel_rfl) (by kernel_rfl) (fun _ _ _ h => h) (Or.inl ⟨by rfl, ?_⟩) (by assumption) ?_
                rotate_left 1
                · intro w hSw; (try dsimp only at hSw); go_simp; all_goals with_reducible rfl
                try simp only [Act.put, List.setIfInBounds_toArray, List.set_cons_zero, List.set_cons_succ]
                refine wpAnyH_take (i := 10) (oi := ⟨some 56, _, _, _, _, _⟩) (v := ?_) rfl (by kernel_rfl) (by kernel_rfl) (by kernel_rfl) (fun _ _ _ h => h) (Or.inl ⟨by rfl, ?_⟩) (by assumption) ?_
                rotate_left 1
                · intro w hSw; (try dsimp only at hSw); go_simp; all_goals with_reducible rfl
                try simp only [Act.put, List.setIfInBounds_toArray, List.set_cons_zero, List.set_cons_succ]
                refine wpAnyH_take (i := 11) (oi := ⟨some 57, _, _, _, _, _⟩) (v := ?_) rfl (by kernel_rfl) (by kernel_rfl) (by kernel_rfl) (fun _ _ _ h => h) (Or.inl ⟨by rfl, ?_⟩) (by assumption) ?_
                rotate_left 1
                · intro w hSw; (try dsimp only at hSw); go_simp; all_goals with_reducible rfl
                try simp only [Act.put, List.setIfInBounds_toArray, List.set_cons_zero, List.set_cons_succ]
                refine wpAnyH_take (i := 12) (oi := ⟨some 58, _, _, _, _, _⟩) (v := ?_) rfl (by kernel_rfl) (by kernel_rfl) (by kernel_rfl) (fun _ _ _ h => h) (Or.inl ⟨by rfl, ?_⟩) (by assumption) ?_
                rotate_left 1
                · intro w hSw; (try dsimp only at hSw); go_simp; all_goals with_reducible rfl
                try simp only [Act.put, List.setIfInBounds_toArray, List.set_cons_zero, List.set_cons_succ]
                refine wpAnyH_take (i := 13) (oi := ⟨some 59, _, _, _, _, _⟩) (v := ?_) rfl (by kernel_rfl) (by kernel_rfl) (by kernel_rfl) (fun _ _ _ h => h) (Or.inl ⟨by rfl, ?_⟩) (by assumption) ?_
                rotate_left 1
                · intro w hSw; (try dsimp only at hSw); go_simp; all_goals with_reducible rfl
                try simp only [Act.put, List.setIfInBounds_toArray, List.set_cons_zero, List.set_cons_succ]
                refine wpAnyH_ready (rs := [14]) (by kernel_rfl) (by simp) ?_
                refine AllReadyH.cons (o := ⟨none, _, _, _, _, _⟩) rfl (fun K hK => ?_) AllReadyH.nil
                go_simp
                skip
                refine hK.out _ _ (⟨by show (World.setCell _ _ _).cell? _ = _; rw [World.cell?_setCell_other _ _ _ _ (fun e => by injection e with e; have := HLT.out; omega)]; exact r1, by show (World.setCell _ _ _).cell? _ = _; rw [World.cell?_setCell_other _ _ _ _ (fun e => by injection e with e; have := HLT.out; omega)]; exact r2⟩) (fun hHeld => ?_)
                clear hK
                try simp only [Act.put, List.setIfInBounds_toArray, List.set_cons_zero, List.set_cons_succ]
                refine wpAnyH_done (by kernel_rfl) ?_ _
                go_wp2_with fail
                go_roundw
                case rel => exact ⟨i + 1, v4, l3, _, by omega, by omega, by go_num, HAL, HMG, ints_set (w := w4.drew) HI4.out g hg512 c.f.txn, own_set (w := w4.drew) (own_below hO4.out (Below.refl _ _).drew) (by have := HLT.out; omega) HNE4.out (by have := HLT.out; omega), HNE4⟩
                case measure => simp [intOf]; omega
              · have hz' : (z == 0) = false := by simpa using hz
                have HM4 := Lib.hid (HMS.out hz)
                clear hz HMA HMS HZ
                go_wp2_with fail
                go_roundw
                case rel => exact ⟨i + 1, v4, l3, f, by omega, by omega, by go_num, HAL, HM4, HI4, hO4, HNE4⟩
                case measure => simp [intOf]; omega
            · have hk' : (c.kind == 1) = false := by simpa using hk
              clear hk
              have TA := Lib.hid (own_take hO.out c.n)
              have htl := takeP_len l2 c.n
              have HNO : Hid ((takeP l2 c.n).2.2 = false → (takeP l2 c.n).1 = l2) := takeP_no
              have HYES : Hid ((takeP l2 c.n).2.2 = true → ∃ a r, l2 = a :: r ∧ takeP l2 c.n = (r, a.page, true) ∧ a.txn ≤ c.n) := takeP_yes
              generalize takeP l2 c.n = tk at TA htl HNO HYES
              obtain ⟨l3, pg, ok⟩ := tk
              dsimp only at TA htl HNO HYES
              have HTL : Hid (l3.length ≤ i + 1) := by have := hlen.out; show _ ≤ _; omega
              clear htl
              go_wp2_with fail
              refine TA.out.mono ?_
              rintro e w4 ⟨rfl, v4, hO4, hsn, ht⟩
              have HI4 : Hid (Ints w4 w2.heap.size f) := ints_touch hI.out ht (by have := HLT.out; omega) hne.out
              have HNE4 : Hid (v4.ownBlock ≠ some w2.heap.size) := fun h => by
                rcases hsn _ h with h' | h'
                · exact hne.out h'
                · have := kt.bld_lt hI.out
                  omega
              clear hsn ht
              cases ok with
              | false =>
                have HM4 : Hid (Marks l3 f) := by have := HNO.out rfl; show Marks _ _; rw [this]; exact hM.out
                clear HNO HYES
                go_wp2_with fail
                go_roundw
                case rel => exact ⟨i + 1, v4, l3, f, by omega, by omega, by go_num, HTL, HM4, HI4, hO4, HNE4⟩
                case measure => simp [intOf]; omega
              | true =>
                obtain ⟨a, r, hl2, hT, hat⟩ := HYES.out rfl
                simp only [Prod.mk.injEq, and_true] at hT
                obtain ⟨rfl, rfl⟩ := hT
                have hokl := hO.out.2.1
                rw [hl2] at hokl
                have hMr := hM.out
                rw [hl2] at hMr
                have hoka := hokl.2.1 a (by simp)
                obtain ⟨g, hg⟩ := Int.eq_ofNat_of_zero_le (show 0 ≤ a.page by have := hoka.2.2.1; omega)
                have hg1 : 1 ≤ g := by have := hoka.2.2.1; omega
                have hg512 : g < 512 := by have := hoka.2.2.2; omega
                have hfg : f g = a.txn := by have := hMr a (by simp); rwa [show a.page.toNat = g by omega] at this
                have ht0 : 0 ≤ f g := by rw [hfg]; exact hoka.1
                have htn : f g ≤ c.n := by rw [hfg]; exact hat
                have hgi0 : (0 : Int) ≤ (g : Int) := by omega
                have hgi1 : (g : Int) < 512 := by omega
                have hgi2 : ¬ (g : Int) < 1 := by omega
                have hgi3 : ¬ (512 : Int) ≤ (g : Int) := by omega
                have ht1 : ¬ f g < 0 := by omega
                have ht2 : ¬ c.n < f g := by omega
                have HMG := Lib.hid (marks_tail hMr hokl g hg (-1))
                rw [hg]
                have hB4 : Below w1.heap.size w1 w4 := hO4.out.2.2.1
                obtain ⟨b', o', e', r0, r1, r2, r3⟩ := acts_below (acts_below hl.out HB1.out) hB4 i hil
                cases e'
                rw [← hc.out] at r3
                obtain ⟨s0, s1⟩ := ints_cell HI4.out g hg512
                have HL2 := Lib.hid hl2
                clear hokl hMr hoka hg hfg hat HNO HYES r0 r1 r2 hB4 f0 f1 f2 f3 hl2
                go_wp2_with fail
                go_quiet (fail)
                go_wp2_with fail
                go_roundw
                case rel => exact ⟨i + 1, v4, l3, _, by omega, by omega, by go_num, HTL, HMG, ints_set (w := w4.drewN nq) HI4.out g hg512 (-1), own_set (w := w4.drewN nq) (own_below hO4.out (below_drewN (Below.refl _ _) nq)) (by have := HLT.out; omega) HNE4.out (by have := HLT.out; omega), HNE4⟩
                case measure => simp [intOf]; omega
          · obtain rfl : i = 80 := by omega
            have hil3 : ((80 : Nat) : Int) < (l.length : Int) := by omega
            have hil4 : (80 : Int) < (l.length : Int) := by omega
            go_wp2_with fail
            go_ret
            exact ⟨rfl, HB1.out.trans (HBW.out.mono HB1.out.size)⟩
        · obtain rfl : i = l.length := by omega
          have hil3 : ¬ (l.length : Int) < (l.length : Int) := by omega
          go_wp2_with fail
          go_ret
          exact ⟨rfl, HB1.out.trans (HBW.out.mono HB1.out.size)⟩
end fre
end Go.Proofs.Ytcmpepojokmhnaa
