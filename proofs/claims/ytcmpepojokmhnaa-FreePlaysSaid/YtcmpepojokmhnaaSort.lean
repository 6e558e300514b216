/- The walk of the reference's Sorted. -/
import Derived.Test.YtcmpepojokmhnaaRTak
namespace Go.Proofs.Ytcmpepojokmhnaa
open Go.RowKit
namespace fre
set_option linter.unusedVariables false
set_option linter.unusedSimpArgs false
theorem ownF_mono {w : World} {B C : Nat} {v : Value} {l : List Fre} (h : OwnF w B v l) (hc : C ≤ B) : OwnF w C v l := by
  refine ⟨h.1, ?_⟩
  rcases h.2 with h0 | ⟨g, cap, cur, e, hb, hr⟩
  · exact Or.inl h0
  · exact Or.inr ⟨g, cap, cur, e, Nat.le_trans hc hb, hr⟩
theorem ownF_below {w w' : World} {B : Nat} {v : Value} {l : List Fre} (h : OwnF w B v l) (hb : Below w.heap.size w w') : OwnF w' B v l := by
  refine ⟨h.1, ?_⟩
  rcases h.2 with h0 | ⟨g, cap, cur, e, hb', hg, hr⟩
  · exact Or.inl h0
  · exact Or.inr ⟨g, cap, cur, e, hb', (hb.block g (kt.bld_lt hg)).trans hg, hr⟩
theorem ownF_addr {w : World} {B : Nat} {v : Value} {l : List Fre} (h : OwnF w B v l) (hl : 0 < l.length) : ∃ g cap, v = .slice (some ⟨g, 0, none⟩) l.length cap ∧ l.length ≤ cap := by
  rcases h.2 with ⟨_, h0⟩ | ⟨g, cap, cur, e, hb', hg, hc, hr⟩
  · omega
  · exact ⟨g, cap, e, hc⟩
theorem ownF_cells {w : World} {B g cap : Nat} {l : List Fre} (h : OwnF w B (.slice (some ⟨g, 0, none⟩) l.length cap) l) : ∀ j u, (l.flatMap Fre.cells)[j]? = some u → w.cell? ⟨g, j, none⟩ = some u := by
  intro j u hj
  rcases h.2 with ⟨e, _⟩ | ⟨g', cap', cur, e, hb', hg, hc, hm, hs, ht⟩
  · cases e
  · cases e
    rw [Lib.cell_of_heap hg]
    rw [← ht, List.getElem?_take] at hj
    split at hj
    · rw [← Array.getElem?_toList]; exact hj
    · cases hj
theorem cells_lenF (l : List Fre) : (l.flatMap Fre.cells).length = l.length * 2 := by
  induction l with
  | nil => rfl
  | cons a r ih => simp [Fre.cells, ih]; omega
theorem take_flat {l : List Fre} {k j : Nat} {u : Value} (h : ((l.take k).flatMap Fre.cells)[j]? = some u) : (l.flatMap Fre.cells)[j]? = some u := by
  have hj := (List.getElem?_eq_some_iff.1 h).1
  conv => lhs; rw [← List.take_append_drop k l, List.flatMap_append]
  rw [List.getElem?_append_left hj]
  exact h
theorem drop_flat {l : List Fre} {k j : Nat} {u : Value} (hk : k ≤ l.length) (h : ((l.drop k).flatMap Fre.cells)[j]? = some u) : (l.flatMap Fre.cells)[k * 2 + j]? = some u := by
  have hl : ((l.take k).flatMap Fre.cells).length = k * 2 := by rw [cells_lenF, List.length_take, Nat.min_eq_left hk]
  conv => lhs; rw [← List.take_append_drop k l, List.flatMap_append]
  rw [List.getElem?_append_right (by omega), hl, Nat.add_sub_cancel_left]
  exact h
theorem ownF_apps {w : World} {B : Nat} {v : Value} {l : List Fre} (c : List Fre) (ad : Addr) (cp : Nat) (hc : ∀ j u, (c.flatMap Fre.cells)[j]? = some u → w.cell? (ad.add j) = some u) (h : OwnF w B v l) (hn : l.length + c.length ≤ 1000000) (hb : B ≤ w.heap.size) :
    ∃ v' w1, (Builtin.append_ #[39, 39] 39 #[v, .slice (some ad) c.length cp]).run Try.prog w = .ok v' w1 ∧ OwnF w1 B v' (l ++ c) ∧ Below B w w1 := by
  obtain ⟨i0, hi, hz0, hz1, hz2⟩ := info_parts infoF
  obtain ⟨v', w1, hrun, hown', hgr, _⟩ := run_append_own (P := Try.prog) w B 39 39 28 i0 _ 2 16 Try.underlying39 hi hz0 hz1 hz2 rfl (by omega) v l.length (l.flatMap Fre.cells) h ad c.length cp (c.flatMap Fre.cells) (cells_lenF c) hc
    (fun u hu => by
      obtain ⟨x, hx, hu⟩ := List.mem_flatMap.1 hu
      exact cells_one x u hu) (by unfold maxLen; omega) (by omega) hb
  refine ⟨v', w1, hrun, ?_, (Below.refl B w).grown hgr hb (fun k hk => ownF_lt h k hk)⟩
  show World.ownsRow _ _ _ _ _ _ _
  rw [List.length_append, List.flatMap_append]
  exact hown'
theorem ins_run {w W : World} {B g cap : Nat} {o : List Fre} (c : Fre) (k cp1 cp3 : Nat) (ad3 : Addr) (hO : OwnF W B (.slice (some ⟨g, 0, none⟩) o.length cap) o) (hk : k ≤ o.length) (hn : o.length ≤ 900000) (had : (ad3 = ⟨g, 0, none⟩ ∧ o.length = k) ∨ ad3 = ⟨g, k * 2, none⟩) :
    ∃ v1 w1 v2 w2 v3 w3, (Builtin.append_ #[39, 39] 39 #[.slice (some ⟨W.heap.size, 0, none⟩) 0 0, .slice (some ⟨g, 0, none⟩) k cp1]).run Try.prog (W.alloc (.cells #[] 28)) = .ok v1 w1 ∧
      (Builtin.append_ #[39, 39] 39 #[v1, .slice (some ⟨w1.heap.size, 0, none⟩) 1 1]).run Try.prog (w1.alloc (.cells #[.int .i64 c.txn, .int .i64 c.page] 28)) = .ok v2 w2 ∧
      (Builtin.append_ #[39, 39] 39 #[v2, .slice (some ad3) (o.length - k) cp3]).run Try.prog w2 = .ok v3 w3 ∧
      OwnF w3 W.heap.size v3 (o.take k ++ c :: o.drop k) ∧ Below W.heap.size W w1 ∧ Below W.heap.size W w3 := by
  have hlt : ∀ j u, (o.flatMap Fre.cells)[j]? = some u → g < W.heap.size := fun j u h => World.block_lt_of_cell? W ⟨g, j, none⟩ (ownF_cells hO j u h)
  have hB0 : Below W.heap.size W (W.alloc (.cells #[] 28)) := (Below.refl _ _).alloc (Nat.le_refl _) _
  have h0 : OwnF (W.alloc (.cells #[] 28)) W.heap.size (.slice (some ⟨W.heap.size, 0, none⟩) 0 0) [] := World.ownsRow_made W #[] 0 (Nat.le_refl _) (by unfold maxLen; omega) rfl
  obtain ⟨v1, w1, r1, o1, b1⟩ := ownF_apps (o.take k) ⟨g, 0, none⟩ cp1 (fun j u hj => by
    rw [kt.addr_add]
    have hj' := take_flat hj
    simpa using (hB0.cell (p := ⟨g, j, none⟩) (hlt j u hj')).trans (ownF_cells hO j u hj')) h0 (by rw [List.length_take]; simp; omega) hB0.size
  have hB1 : Below W.heap.size W w1 := hB0.trans b1
  obtain ⟨v2, w2, r2, o2, b2⟩ := ownF_app c o1 (by rw [List.length_append, List.length_take]; simp; omega) hB1.size
  have hB2 : Below W.heap.size W w2 := hB1.trans b2
  obtain ⟨v3, w3, r3, o3, b3⟩ := ownF_apps (o.drop k) ad3 cp3 (fun j u hj => by
    rcases had with ⟨rfl, e⟩ | rfl
    · rw [List.drop_of_length_le (by omega)] at hj
      simp at hj
    · rw [Lib.addr_add]
      have hj' := drop_flat hk hj
      exact (hB2.cell (p := ⟨g, k * 2 + j, none⟩) (hlt _ u hj')).trans (ownF_cells hO _ u hj')) o2 (by rw [List.length_append, List.length_append, List.length_take, List.length_drop]; simp; omega) hB2.size
  refine ⟨v1, w1, v2, w2, v3, w3, ?_, r2, ?_, ?_, hB1, hB2.trans b3⟩
  · rw [List.length_take, Nat.min_eq_left hk] at r1
    exact r1
  · rw [List.length_drop] at r3
    exact r3
  · rw [List.append_assoc] at o3
    exact o3
/-- where the next one goes -/
def LtUp (o : List Fre) (c : Fre) (k : Nat) : Prop := ∀ j (hj : j < o.length), j < k → ltF o[j] c
theorem ltUp_ins {o : List Fre} {c : Fre} {k : Nat} (hk : k ≤ o.length) (h : LtUp o c k) (ha : Asc o) (hn : ∀ hk : k < o.length, ¬ ltF o[k] c) : o.take k ++ c :: o.drop k = insF o c := by
  have := insF_at o c k hk h (fun j hj hkj => by
    by_cases e : j = k
    · subst e; exact hn hj
    · intro hl
      exact hn (by omega) (ltF_tr (asc_get ha (show k < j by omega) hj) hl))
  rw [← this]
  simp
theorem sort_step {l o : List Fre} {c : Fre} {i : Nat} (hi : i < l.length) (hc : c = l[i]) (hnd : l.Nodup) (hA : Asc o ∧ o.Perm (l.take i)) : Asc (insF o c) ∧ (insF o c).Perm (l.take (i + 1)) := by
  subst hc
  refine ⟨asc_insF hA.1 (fun hm => ?_), ?_⟩
  · obtain ⟨j, hj, e⟩ := List.mem_iff_getElem.1 (hA.2.mem_iff.1 hm)
    have hj' : j < i := by rw [List.length_take] at hj; omega
    rw [List.getElem_take] at e
    exact (List.pairwise_iff_getElem.1 hnd) j i (by omega) hi hj' e
  · rw [List.take_succ_eq_append_getElem hi]
    exact (insF_perm o _).trans ((List.Perm.cons _ hA.2).trans (List.perm_append_singleton _ _).symm)
theorem sort_end {l o : List Fre} {c : Fre} {i B W : Nat} {w3 : World} {v3 : Value} (hi : i < l.length) (hc : c = l[i]) (hnd : l.Nodup) (hA : Asc o ∧ o.Perm (l.take i)) (hol : o.length = i) {k : Nat} (hI : o.take k ++ c :: o.drop k = insF o c) (h3 : OwnF w3 W v3 (o.take k ++ c :: o.drop k)) (hBW : B ≤ W) :
    ∃ (g cp : Nat) (o' : List Fre), v3 = .slice (some ⟨g, 0, none⟩) (i + 1) cp ∧ i + 1 ≤ cp ∧ Hid (o'.length = i + 1) ∧ Hid (OwnF w3 B (.slice (some ⟨g, 0, none⟩) o'.length cp) o') ∧ Hid (Asc o' ∧ o'.Perm (l.take (i + 1))) := by
  rw [hI] at h3
  have hlen : (insF o c).length = i + 1 := by rw [insF_len, hol]
  obtain ⟨g, cp, e3, hc3⟩ := ownF_addr h3 (by omega)
  rw [e3] at h3
  rw [hlen] at e3 hc3
  exact ⟨g, cp, insF o c, e3, hc3, hlen, ownF_mono h3 hBW, sort_step hi hc hnd hA⟩
def SortE (l : List Fre) (e : Ending) (w' : World) : Prop := ∃ ao cap s, e = .returned (.slice ao (List.length s) cap) ∧ Fres w' ao s ∧ Asc s ∧ s.Perm l
set_option maxRecDepth 20000 in
set_option maxHeartbeats 4000000 in
theorem rsorted_any (ao : Option Addr) (cap : Nat) (l : List Fre) (w : World) (hl : Hid (Fres w ao l)) (hn : l.length ≤ 900000) (hnd : Hid l.Nodup) :
    Calls Try.prog 23 #[.slice ao l.length cap] w fun e w' => SortE l e w' ∧ Below w.heap.size w w' := by
  go_enter Try.func23, Try.ntmps23
  go_wp2_with fail
  go_loopw [3, 4] (fun ov iv wr => ∃ (i g cp : Nat) (o : List Fre), i ≤ l.length ∧ iv = .int .i64 i ∧ ov = .slice (some ⟨g, 0, none⟩) i cp ∧ i ≤ cp ∧ Hid (o.length = i) ∧ Hid (OwnF wr w.heap.size (.slice (some ⟨g, 0, none⟩) o.length cp) o) ∧ Hid (Asc o ∧ o.Perm (l.take i)) ∧ Hid (Below w.heap.size w wr)) (fun _ iv _ => l.length - (intOf iv).toNat)
  case atStart => exact ⟨0, w.heap.size, 0, [], Nat.zero_le _, rfl, rfl, Nat.le_refl _, rfl, World.ownsRow_made _ #[] 0 (Nat.le_refl _) (by unfold maxLen; omega) rfl, ⟨List.Pairwise.nil, by simp⟩, (Below.refl _ _).alloc (Nat.le_refl _) _⟩
  case round =>
    obtain ⟨i, g, cp, o, hi, rfl, rfl, hcp, hol, hO, hA, hB⟩ := hrel
    have hsz := hB.out.size
    by_cases hil : i < l.length
    · have hil' : (i : Int) < (l.length : Int) := by omega
      have hi0 : (0 : Int) ≤ (i : Int) := by omega
      obtain ⟨c, hc⟩ : ∃ c : Fre, Hid (c = l[i]'hil) := ⟨l[i]'hil, rfl⟩
      rename World => wo
      go_wp2_with fail
      go_loopw [5] (fun kv wr => ∃ k : Nat, k ≤ i ∧ kv = .int .i64 k ∧ Hid (LtUp o c k) ∧ Hid (Below wo.heap.size wo wr)) (fun kv _ => i - (intOf kv).toNat)
      case atStart => exact ⟨0, Nat.zero_le _, rfl, fun j _ h => by omega, Below.refl _ _⟩
      case round =>
        obtain ⟨k, hk, rfl, hU, hBk⟩ := hrel
        have hszk := hBk.out.size
        have hBW : Hid (Below w.heap.size w wr) := hB.out.trans (hBk.out.mono hsz)
        have hk0 : (0 : Int) ≤ (k : Int) := by omega
        obtain ⟨b, p, hao, f0, f1⟩ := (fres_below hl.out hBW.out) i hil
        rw [← hc.out] at f0 f1
        have hlb : b < wr.heap.size := World.block_lt_of_cell? wr ⟨b, _, none⟩ f0
        by_cases hkn : k < i
        · have hkn' : (k : Int) < (i : Int) := by omega
          have hok : k < o.length := by have := hol.out; omega
          obtain ⟨d, hd⟩ : ∃ d : Fre, Hid (d = o[k]'hok) := ⟨o[k]'hok, rfl⟩
          have hO2 := ownF_below hO.out hBk.out
          obtain ⟨ao2, cp2, e2, hF2⟩ := ownF_slice hO2
          cases e2
          obtain ⟨b2, p2, e2, r0, r1⟩ := hF2 k hok
          cases e2
          rw [← hd.out] at r0 r1
          have hlg : g < wr.heap.size := World.block_lt_of_cell? wr ⟨g, _, none⟩ r0
          simp only [Nat.zero_add] at r0 r1
          have LS := Lib.hid (fun w => rless_any d c w)
          unfold Fre.v at LS
          subst hao
          clear hF2 hO2
          by_cases hlt : ltF d c
          · rw [decide_eq_true hlt] at LS
            have HU : Hid (LtUp o c (k + 1)) := fun j hj hjk => by
              by_cases e : j = k
              · subst e; rw [← hd.out]; exact hlt
              · exact hU.out j hj (by omega)
            clear hlt
            go_wp2_with fail
            refine wp_region_held_drew (S := fun W => W.cell? ⟨b, p + i * 2, none⟩ = some (.int .i64 c.txn) ∧ W.cell? ⟨b, p + i * 2 + 1, none⟩ = some (.int .i64 c.page) ∧ W.cell? ⟨g, k * 2, none⟩ = some (.int .i64 d.txn) ∧ W.cell? ⟨g, k * 2 + 1, none⟩ = some (.int .i64 d.page)) (by kernel_rfl) (⟨f0, f1, r0, r1⟩) (fun hHeld => ?_)
            refine wpAnyH_take (i := 0) (oi := ⟨some 14, _, _, _, _, _⟩) (v := ?_) rfl (by kernel_rfl) (by kernel_rfl) (by kernel_rfl) (fun _ _ _ h => h) (Or.inl ⟨by rfl, ?_⟩) (by assumption) ?_
            rotate_left 1
            · intro w hSw; (try dsimp only at hSw); go_simp; all_goals with_reducible rfl
            try simp only [Act.put, List.setIfInBounds_toArray, List.set_cons_zero, List.set_cons_succ]
            refine wpAnyH_take (i := 1) (oi := ⟨some 15, _, _, _, _, _⟩) (v := ?_) rfl (by kernel_rfl) (by kernel_rfl) (by kernel_rfl) (fun _ _ _ h => h) (Or.inl ⟨by rfl, ?_⟩) (by assumption) ?_
            rotate_left 1
            · intro w hSw; (try dsimp only at hSw); go_simp; all_goals with_reducible rfl
            try simp only [Act.put, List.setIfInBounds_toArray, List.set_cons_zero, List.set_cons_succ]
            refine wpAnyH_take (i := 2) (oi := ⟨some 16, _, _, _, _, _⟩) (v := ?_) rfl (by kernel_rfl) (by kernel_rfl) (by kernel_rfl) (fun _ _ _ h => h) (Or.inl ⟨by rfl, ?_⟩) (by assumption) ?_
            rotate_left 1
            · intro w hSw; (try dsimp only at hSw); go_simp; all_goals with_reducible rfl
            try simp only [Act.put, List.setIfInBounds_toArray, List.set_cons_zero, List.set_cons_succ]
            refine wpAnyH_take (i := 3) (oi := ⟨some 17, _, _, _, _, _⟩) (v := ?_) rfl (by kernel_rfl) (by kernel_rfl) (by kernel_rfl) (fun _ _ _ h => h) (Or.inl ⟨by rfl, ?_⟩) (by assumption) ?_
            rotate_left 1
            · intro w hSw; (try dsimp only at hSw); go_simp; all_goals with_reducible rfl
            try simp only [Act.put, List.setIfInBounds_toArray, List.set_cons_zero, List.set_cons_succ]
            refine wpAnyH_take (i := 4) (oi := ⟨some 18, _, _, _, _, _⟩) (v := ?_) rfl (by kernel_rfl) (by kernel_rfl) (by kernel_rfl) (fun _ _ _ h => h) (Or.inl ⟨by rfl, ?_⟩) (by assumption) ?_
            rotate_left 1
            · intro w hSw; (try dsimp only at hSw); go_simp; all_goals with_reducible rfl
            try simp only [Act.put, List.setIfInBounds_toArray, List.set_cons_zero, List.set_cons_succ]
            refine wpAnyH_take (i := 5) (oi := ⟨some 19, _, _, _, _, _⟩) (v := ?_) rfl (by kernel_rfl) (by kernel_rfl) (by kernel_rfl) (fun _ _ _ h => h) (Or.inl ⟨by rfl, ?_⟩) (by assumption) ?_
            rotate_left 1
            · intro w hSw; (try dsimp only at hSw); go_simp; all_goals with_reducible rfl
            try simp only [Act.put, List.setIfInBounds_toArray, List.set_cons_zero, List.set_cons_succ]
            refine wpAnyH_take (i := 6) (oi := ⟨some 20, _, _, _, _, _⟩) (v := ?_) rfl (by kernel_rfl) (by kernel_rfl) (by kernel_rfl) (fun _ _ _ h => h) (Or.inl ⟨by rfl, ?_⟩) (by assumption) ?_
            rotate_left 1
            · intro w hSw; (try dsimp only at hSw); go_simp; all_goals with_reducible rfl
            try simp only [Act.put, List.setIfInBounds_toArray, List.set_cons_zero, List.set_cons_succ]
            refine wpAnyH_take (i := 7) (oi := ⟨some 21, _, _, _, _, _⟩) (v := ?_) rfl (by kernel_rfl) (by kernel_rfl) (by kernel_rfl) (fun _ _ _ h => h) (Or.inl ⟨by rfl, ?_⟩) (by assumption) ?_
            rotate_left 1
            · intro w hSw; (try dsimp only at hSw); go_simp; all_goals with_reducible rfl
            try simp only [Act.put, List.setIfInBounds_toArray, List.set_cons_zero, List.set_cons_succ]
            refine wpAnyH_take (i := 8) (oi := ⟨some 22, _, _, _, _, _⟩) (v := ?_) rfl (by kernel_rfl) (by kernel_rfl) (by kernel_rfl) (fun _ _ _ h => h) (Or.inl ⟨by rfl, ?_⟩) (by assumption) ?_
            rotate_left 1
            · intro w hSw; (try dsimp only at hSw); go_simp; all_goals with_reducible rfl
            try simp only [Act.put, List.setIfInBounds_toArray, List.set_cons_zero, List.set_cons_succ]
            refine wpAnyH_take (i := 9) (oi := ⟨some 23, _, _, _, _, _⟩) (v := ?_) rfl (by kernel_rfl) (by kernel_rfl) (by kernel_rfl) (fun _ _ _ h => h) (Or.inl ⟨by rfl, ?_⟩) (by assumption) ?_
            rotate_left 1
            · intro w hSw; (try dsimp only at hSw); go_simp; all_goals with_reducible rfl
            try simp only [Act.put, List.setIfInBounds_toArray, List.set_cons_zero, List.set_cons_succ]
            refine wpAnyH_take (i := 10) (oi := ⟨some 24, _, _, _, _, _⟩) (v := ?_) rfl (by kernel_rfl) (by kernel_rfl) (by kernel_rfl) (fun _ _ _ h => h) (Or.inl ⟨by rfl, ?_⟩) (by assumption) ?_
            rotate_left 1
            · intro w hSw; (try dsimp only at hSw); go_simp; all_goals with_reducible rfl
            try simp only [Act.put, List.setIfInBounds_toArray, List.set_cons_zero, List.set_cons_succ]
            refine wpAnyH_take (i := 11) (oi := ⟨some 25, _, _, _, _, _⟩) (v := ?_) rfl (by kernel_rfl) (by kernel_rfl) (by kernel_rfl) (fun _ _ _ h => h) (Or.inl ⟨by rfl, ?_⟩) (by assumption) ?_
            rotate_left 1
            · intro w hSw; (try dsimp only at hSw); go_simp; all_goals with_reducible rfl
            try simp only [Act.put, List.setIfInBounds_toArray, List.set_cons_zero, List.set_cons_succ]
            refine wpAnyH_take (i := 12) (oi := ⟨some 26, _, _, _, _, _⟩) (v := ?_) rfl (by kernel_rfl) (by kernel_rfl) (by kernel_rfl) (fun _ _ _ h => h) (Or.inl ⟨by rfl, ?_⟩) (by assumption) ?_
            rotate_left 1
            · intro w hSw; (try dsimp only at hSw); go_simp; all_goals with_reducible rfl
            try simp only [Act.put, List.setIfInBounds_toArray, List.set_cons_zero, List.set_cons_succ]
            refine wpAnyH_ready (rs := [13]) (by kernel_rfl) (by simp) ?_
            refine AllReadyH.cons (o := ⟨some 27, _, _, _, _, _⟩) rfl (fun K hK => ?_) AllReadyH.nil
            go_simp
            go_at_call 33; refine (LS.out _).mono ?_; rintro e w' ⟨rfl, hBn⟩
            refine hK.out _ _ (⟨(hBn.cell (p := ⟨b, p + i * 2, none⟩) hlb).trans f0, (hBn.cell (p := ⟨b, p + i * 2 + 1, none⟩) hlb).trans f1, (hBn.cell (p := ⟨g, k * 2, none⟩) hlg).trans r0, (hBn.cell (p := ⟨g, k * 2 + 1, none⟩) hlg).trans r1⟩) (fun hHeld => ?_)
            clear hK
            try simp only [Act.put, List.setIfInBounds_toArray, List.set_cons_zero, List.set_cons_succ]
            refine wpAnyH_take (i := 14) (oi := ⟨some 28, _, _, _, _, _⟩) (v := ?_) rfl (by kernel_rfl) (by kernel_rfl) (by kernel_rfl) (fun _ _ _ h => h) (Or.inl ⟨by rfl, ?_⟩) (by assumption) ?_
            rotate_left 1
            · intro w hSw; (try dsimp only at hSw); go_simp; all_goals with_reducible rfl
            try simp only [Act.put, List.setIfInBounds_toArray, List.set_cons_zero, List.set_cons_succ]
            refine wpAnyH_done (by kernel_rfl) ?_ _
            go_wp2_with fail
            go_roundw
            case rel => exact ⟨k + 1, by omega, by go_num, HU, hBk.out.trans (((Below.refl _ _).drew.trans hBn).mono hszk)⟩
            case measure => simp [intOf]; omega
          · rw [decide_eq_false hlt] at LS
            have HI : Hid (o.take k ++ c :: o.drop k = insF o c) := ltUp_ins (by omega) hU.out hA.out.1 (fun hk => by rw [← hd.out]; exact hlt)
            clear hlt
            go_wp2_with fail
            refine wp_region_held_drew (S := fun W => W.cell? ⟨b, p + i * 2, none⟩ = some (.int .i64 c.txn) ∧ W.cell? ⟨b, p + i * 2 + 1, none⟩ = some (.int .i64 c.page) ∧ W.cell? ⟨g, k * 2, none⟩ = some (.int .i64 d.txn) ∧ W.cell? ⟨g, k * 2 + 1, none⟩ = some (.int .i64 d.page)) (by kernel_rfl) (⟨f0, f1, r0, r1⟩) (fun hHeld => ?_)
            refine wpAnyH_take (i := 0) (oi := ⟨some 14, _, _, _, _, _⟩) (v := ?_) rfl (by kernel_rfl) (by kernel_rfl) (by kernel_rfl) (fun _ _ _ h => h) (Or.inl ⟨by rfl, ?_⟩) (by assumption) ?_
            rotate_left 1
            · intro w hSw; (try dsimp only at hSw); go_simp; all_goals with_reducible rfl
            try simp only [Act.put, List.setIfInBounds_toArray, List.set_cons_zero, List.set_cons_succ]
            refine wpAnyH_take (i := 1) (oi := ⟨some 15, _, _, _, _, _⟩) (v := ?_) rfl (by kernel_rfl) (by kernel_rfl) (by kernel_rfl) (fun _ _ _ h => h) (Or.inl ⟨by rfl, ?_⟩) (by assumption) ?_
            rotate_left 1
            · intro w hSw; (try dsimp only at hSw); go_simp; all_goals with_reducible rfl
            try simp only [Act.put, List.setIfInBounds_toArray, List.set_cons_zero, List.set_cons_succ]
            refine wpAnyH_take (i := 2) (oi := ⟨some 16, _, _, _, _, _⟩) (v := ?_) rfl (by kernel_rfl) (by kernel_rfl) (by kernel_rfl) (fun _ _ _ h => h) (Or.inl ⟨by rfl, ?_⟩) (by assumption) ?_
            rotate_left 1
            · intro w hSw; (try dsimp only at hSw); go_simp; all_goals with_reducible rfl
            try simp only [Act.put, List.setIfInBounds_toArray, List.set_cons_zero, List.set_cons_succ]
            refine wpAnyH_take (i := 3) (oi := ⟨some 17, _, _, _, _, _⟩) (v := ?_) rfl (by kernel_rfl) (by kernel_rfl) (by kernel_rfl) (fun _ _ _ h => h) (Or.inl ⟨by rfl, ?_⟩) (by assumption) ?_
            rotate_left 1
            · intro w hSw; (try dsimp only at hSw); go_simp; all_goals with_reducible rfl
            try simp only [Act.put, List.setIfInBounds_toArray, List.set_cons_zero, List.set_cons_succ]
            refine wpAnyH_take (i := 4) (oi := ⟨some 18, _, _, _, _, _⟩) (v := ?_) rfl (by kernel_rfl) (by kernel_rfl) (by kernel_rfl) (fun _ _ _ h => h) (Or.inl ⟨by rfl, ?_⟩) (by assumption) ?_
            rotate_left 1
            · intro w hSw; (try dsimp only at hSw); go_simp; all_goals with_reducible rfl
            try simp only [Act.put, List.setIfInBounds_toArray, List.set_cons_zero, List.set_cons_succ]
            refine wpAnyH_take (i := 5) (oi := ⟨some 19, _, _, _, _, _⟩) (v := ?_) rfl (by kernel_rfl) (by kernel_rfl) (by kernel_rfl) (fun _ _ _ h => h) (Or.inl ⟨by rfl, ?_⟩) (by assumption) ?_
            rotate_left 1
            · intro w hSw; (try dsimp only at hSw); go_simp; all_goals with_reducible rfl
            try simp only [Act.put, List.setIfInBounds_toArray, List.set_cons_zero, List.set_cons_succ]
            refine wpAnyH_take (i := 6) (oi := ⟨some 20, _, _, _, _, _⟩) (v := ?_) rfl (by kernel_rfl) (by kernel_rfl) (by kernel_rfl) (fun _ _ _ h => h) (Or.inl ⟨by rfl, ?_⟩) (by assumption) ?_
            rotate_left 1
            · intro w hSw; (try dsimp only at hSw); go_simp; all_goals with_reducible rfl
            try simp only [Act.put, List.setIfInBounds_toArray, List.set_cons_zero, List.set_cons_succ]
            refine wpAnyH_take (i := 7) (oi := ⟨some 21, _, _, _, _, _⟩) (v := ?_) rfl (by kernel_rfl) (by kernel_rfl) (by kernel_rfl) (fun _ _ _ h => h) (Or.inl ⟨by rfl, ?_⟩) (by assumption) ?_
            rotate_left 1
            · intro w hSw; (try dsimp only at hSw); go_simp; all_goals with_reducible rfl
            try simp only [Act.put, List.setIfInBounds_toArray, List.set_cons_zero, List.set_cons_succ]
            refine wpAnyH_take (i := 8) (oi := ⟨some 22, _, _, _, _, _⟩) (v := ?_) rfl (by kernel_rfl) (by kernel_rfl) (by kernel_rfl) (fun _ _ _ h => h) (Or.inl ⟨by rfl, ?_⟩) (by assumption) ?_
            rotate_left 1
            · intro w hSw; (try dsimp only at hSw); go_simp; all_goals with_reducible rfl
            try simp only [Act.put, List.setIfInBounds_toArray, List.set_cons_zero, List.set_cons_succ]
            refine wpAnyH_take (i := 9) (oi := ⟨some 23, _, _, _, _, _⟩) (v := ?_) rfl (by kernel_rfl) (by kernel_rfl) (by kernel_rfl) (fun _ _ _ h => h) (Or.inl ⟨by rfl, ?_⟩) (by assumption) ?_
            rotate_left 1
            · intro w hSw; (try dsimp only at hSw); go_simp; all_goals with_reducible rfl
            try simp only [Act.put, List.setIfInBounds_toArray, List.set_cons_zero, List.set_cons_succ]
            refine wpAnyH_take (i := 10) (oi := ⟨some 24, _, _, _, _, _⟩) (v := ?_) rfl (by kernel_rfl) (by kernel_rfl) (by kernel_rfl) (fun _ _ _ h => h) (Or.inl ⟨by rfl, ?_⟩) (by assumption) ?_
            rotate_left 1
            · intro w hSw; (try dsimp only at hSw); go_simp; all_goals with_reducible rfl
            try simp only [Act.put, List.setIfInBounds_toArray, List.set_cons_zero, List.set_cons_succ]
            refine wpAnyH_take (i := 11) (oi := ⟨some 25, _, _, _, _, _⟩) (v := ?_) rfl (by kernel_rfl) (by kernel_rfl) (by kernel_rfl) (fun _ _ _ h => h) (Or.inl ⟨by rfl, ?_⟩) (by assumption) ?_
            rotate_left 1
            · intro w hSw; (try dsimp only at hSw); go_simp; all_goals with_reducible rfl
            try simp only [Act.put, List.setIfInBounds_toArray, List.set_cons_zero, List.set_cons_succ]
            refine wpAnyH_take (i := 12) (oi := ⟨some 26, _, _, _, _, _⟩) (v := ?_) rfl (by kernel_rfl) (by kernel_rfl) (by kernel_rfl) (fun _ _ _ h => h) (Or.inl ⟨by rfl, ?_⟩) (by assumption) ?_
            rotate_left 1
            · intro w hSw; (try dsimp only at hSw); go_simp; all_goals with_reducible rfl
            try simp only [Act.put, List.setIfInBounds_toArray, List.set_cons_zero, List.set_cons_succ]
            refine wpAnyH_ready (rs := [13]) (by kernel_rfl) (by simp) ?_
            refine AllReadyH.cons (o := ⟨some 27, _, _, _, _, _⟩) rfl (fun K hK => ?_) AllReadyH.nil
            go_simp
            go_at_call 33; refine (LS.out _).mono ?_; rintro e w' ⟨rfl, hBn⟩
            refine hK.out _ _ (⟨(hBn.cell (p := ⟨b, p + i * 2, none⟩) hlb).trans f0, (hBn.cell (p := ⟨b, p + i * 2 + 1, none⟩) hlb).trans f1, (hBn.cell (p := ⟨g, k * 2, none⟩) hlg).trans r0, (hBn.cell (p := ⟨g, k * 2 + 1, none⟩) hlg).trans r1⟩) (fun hHeld => ?_)
            clear hK
            try simp only [Act.put, List.setIfInBounds_toArray, List.set_cons_zero, List.set_cons_succ]
            refine wpAnyH_take (i := 14) (oi := ⟨some 28, _, _, _, _, _⟩) (v := ?_) rfl (by kernel_rfl) (by kernel_rfl) (by kernel_rfl) (fun _ _ _ h => h) (Or.inl ⟨by rfl, ?_⟩) (by assumption) ?_
            rotate_left 1
            · intro w hSw; (try dsimp only at hSw); go_simp; all_goals with_reducible rfl
            try simp only [Act.put, List.setIfInBounds_toArray, List.set_cons_zero, List.set_cons_succ]
            refine wpAnyH_done (by kernel_rfl) ?_ _
            have hBX : Hid (Below wo.heap.size wo w') := hBk.out.trans (((Below.refl _ _).drew.trans hBn).mono hszk)
            clear hBn
            have hO3 : OwnF (w') w.heap.size (.slice (some ⟨g, 0, none⟩) o.length cp) o := ownF_below hO.out hBX.out
            have hkc : (k : Int) ≤ (cp : Int) := by omega
            have hki : (k : Int) ≤ (i : Int) := by omega
            obtain ⟨v1, w1, v2, w2, v3, w3, q1, q2, q3, o3, b1, b3⟩ := ins_run (w := w) (W := w') c k cp (cp - k) (⟨g, k * 2, none⟩) hO3 (by have := hol.out; omega) (by have := hol.out; omega) (Or.inr rfl)
            rw [hol.out] at q3
            have hBX0 : Below w.heap.size w (w') := hB.out.trans (hBX.out.mono hsz)
            have hB1 : Below w.heap.size w w1 := hBX0.trans (b1.mono hBX0.size)
            obtain ⟨b', p', e', t0, t1⟩ := (fres_below hl.out hB1) i hil
            rw [← hc.out] at t0 t1
            cases e'
            have HEND := Lib.hid (sort_end hil hc.out hnd.out hA.out hol.out HI.out o3 hBX0.size)
            have HB3 : Hid (Below w.heap.size w w3) := hBX0.trans (b3.mono hBX0.size)
            clear hO3 o3 b1 b3 hBX0 hB1 f0 f1
            go_wp2_with (at_builtin; first | (refine Lib.wpList_append_run _ rfl _ _ _ _ rfl _ _ rfl rfl _ _ q1 ?_) | (refine Lib.wpList_append_run _ rfl _ _ _ _ rfl _ _ rfl rfl _ _ q2 ?_) | (refine Lib.wpList_append_run _ rfl _ _ _ _ rfl _ _ rfl rfl _ _ q3 ?_))
            obtain ⟨g2, cp2, o2, e2, hc2, hl2, hO2, hA2⟩ := HEND.out
            go_roundw
            case rel => exact ⟨i + 1, g2, cp2, o2, by omega, by go_num, e2, hc2, hl2, hO2, hA2, HB3⟩
            case measure => simp [intOf]; omega
        · obtain rfl : k = i := by omega
          subst hao
          have hkn' : decide ((k : Int) < (k : Int)) = false := by simp
          have HI : Hid (o.take k ++ c :: o.drop k = insF o c) := ltUp_ins (by have := hol.out; omega) hU.out hA.out.1 (fun h => by have := hol.out; omega)
          go_wp2_with fail
          refine wp_region_held_drew (S := fun W => True) (by kernel_rfl) (trivial) (fun hHeld => ?_)
          refine wpAnyH_take (i := 0) (oi := ⟨some 14, _, _, _, _, _⟩) (v := ?_) rfl (by kernel_rfl) (by kernel_rfl) (by kernel_rfl) (fun _ _ _ h => h) (Or.inl ⟨by rfl, ?_⟩) (by assumption) ?_
          rotate_left 1
          · intro w hSw; (try dsimp only at hSw); go_simp; all_goals with_reducible rfl
          try simp only [Act.put, List.setIfInBounds_toArray, List.set_cons_zero, List.set_cons_succ]
          refine wpAnyH_take (i := 1) (oi := ⟨some 15, _, _, _, _, _⟩) (v := ?_) rfl (by kernel_rfl) (by kernel_rfl) (by kernel_rfl) (fun _ _ _ h => h) (Or.inl ⟨by rfl, ?_⟩) (by assumption) ?_
          rotate_left 1
          · intro w hSw; (try dsimp only at hSw); go_simp; all_goals with_reducible rfl
          try simp only [Act.put, List.setIfInBounds_toArray, List.set_cons_zero, List.set_cons_succ]
          refine wpAnyH_take (i := 2) (oi := ⟨some 16, _, _, _, _, _⟩) (v := ?_) rfl (by kernel_rfl) (by kernel_rfl) (by kernel_rfl) (fun _ _ _ h => h) (Or.inl ⟨by rfl, ?_⟩) (by assumption) ?_
          rotate_left 1
          · intro w hSw; (try dsimp only at hSw); go_simp; all_goals with_reducible rfl
          try simp only [Act.put, List.setIfInBounds_toArray, List.set_cons_zero, List.set_cons_succ]
          refine wpAnyH_take (i := 3) (oi := ⟨some 17, _, _, _, _, _⟩) (v := ?_) rfl (by kernel_rfl) (by kernel_rfl) (by kernel_rfl) (fun _ _ _ h => h) (Or.inl ⟨by rfl, ?_⟩) (by assumption) ?_
          rotate_left 1
          · intro w hSw; (try dsimp only at hSw); go_simp; all_goals with_reducible rfl
          try simp only [Act.put, List.setIfInBounds_toArray, List.set_cons_zero, List.set_cons_succ]
          refine wpAnyH_take (i := 4) (oi := ⟨some 18, _, _, _, _, _⟩) (v := ?_) rfl (by kernel_rfl) (by kernel_rfl) (by kernel_rfl) (fun _ _ _ h => h) (Or.inl ⟨by rfl, ?_⟩) (by assumption) ?_
          rotate_left 1
          · intro w hSw; (try dsimp only at hSw); go_simp; all_goals with_reducible rfl
          try simp only [Act.put, List.setIfInBounds_toArray, List.set_cons_zero, List.set_cons_succ]
          refine wpAnyH_take (i := 5) (oi := ⟨some 19, _, _, _, _, _⟩) (v := undef) rfl (by kernel_rfl) (by kernel_rfl) (by kernel_rfl) (fun _ _ _ h => h) (Or.inr ⟨by rfl, rfl⟩) (by assumption) ?_
          try simp only [Act.put, List.setIfInBounds_toArray, List.set_cons_zero, List.set_cons_succ]
          refine wpAnyH_take (i := 6) (oi := ⟨some 20, _, _, _, _, _⟩) (v := undef) rfl (by kernel_rfl) (by kernel_rfl) (by kernel_rfl) (fun _ _ _ h => h) (Or.inr ⟨by rfl, rfl⟩) (by assumption) ?_
          try simp only [Act.put, List.setIfInBounds_toArray, List.set_cons_zero, List.set_cons_succ]
          refine wpAnyH_take (i := 7) (oi := ⟨some 21, _, _, _, _, _⟩) (v := undef) rfl (by kernel_rfl) (by kernel_rfl) (by kernel_rfl) (fun _ _ _ h => h) (Or.inr ⟨by rfl, rfl⟩) (by assumption) ?_
          try simp only [Act.put, List.setIfInBounds_toArray, List.set_cons_zero, List.set_cons_succ]
          refine wpAnyH_take (i := 8) (oi := ⟨some 22, _, _, _, _, _⟩) (v := undef) rfl (by kernel_rfl) (by kernel_rfl) (by kernel_rfl) (fun _ _ _ h => h) (Or.inr ⟨by rfl, rfl⟩) (by assumption) ?_
          try simp only [Act.put, List.setIfInBounds_toArray, List.set_cons_zero, List.set_cons_succ]
          refine wpAnyH_take (i := 9) (oi := ⟨some 23, _, _, _, _, _⟩) (v := undef) rfl (by kernel_rfl) (by kernel_rfl) (by kernel_rfl) (fun _ _ _ h => h) (Or.inr ⟨by rfl, rfl⟩) (by assumption) ?_
          try simp only [Act.put, List.setIfInBounds_toArray, List.set_cons_zero, List.set_cons_succ]
          refine wpAnyH_take (i := 10) (oi := ⟨some 24, _, _, _, _, _⟩) (v := undef) rfl (by kernel_rfl) (by kernel_rfl) (by kernel_rfl) (fun _ _ _ h => h) (Or.inr ⟨by rfl, rfl⟩) (by assumption) ?_
          try simp only [Act.put, List.setIfInBounds_toArray, List.set_cons_zero, List.set_cons_succ]
          refine wpAnyH_take (i := 11) (oi := ⟨some 25, _, _, _, _, _⟩) (v := undef) rfl (by kernel_rfl) (by kernel_rfl) (by kernel_rfl) (fun _ _ _ h => h) (Or.inr ⟨by rfl, rfl⟩) (by assumption) ?_
          try simp only [Act.put, List.setIfInBounds_toArray, List.set_cons_zero, List.set_cons_succ]
          refine wpAnyH_take (i := 12) (oi := ⟨some 26, _, _, _, _, _⟩) (v := undef) rfl (by kernel_rfl) (by kernel_rfl) (by kernel_rfl) (fun _ _ _ h => h) (Or.inr ⟨by rfl, rfl⟩) (by assumption) ?_
          try simp only [Act.put, List.setIfInBounds_toArray, List.set_cons_zero, List.set_cons_succ]
          refine wpAnyH_take (i := 13) (oi := ⟨some 27, _, _, _, _, _⟩) (v := undef) rfl (by kernel_rfl) (by kernel_rfl) (by kernel_rfl) (fun _ _ _ h => h) (Or.inr ⟨by rfl, rfl⟩) (by assumption) ?_
          try simp only [Act.put, List.setIfInBounds_toArray, List.set_cons_zero, List.set_cons_succ]
          refine wpAnyH_take (i := 14) (oi := ⟨some 28, _, _, _, _, _⟩) (v := ?_) rfl (by kernel_rfl) (by kernel_rfl) (by kernel_rfl) (fun _ _ _ h => h) (Or.inl ⟨by rfl, ?_⟩) (by assumption) ?_
          rotate_left 1
          · intro w hSw; (try dsimp only at hSw); go_simp; all_goals with_reducible rfl
          try simp only [Act.put, List.setIfInBounds_toArray, List.set_cons_zero, List.set_cons_succ]
          refine wpAnyH_done (by kernel_rfl) ?_ _
          have hBX : Hid (Below wo.heap.size wo wr.drew) := hBk.out.drew
          by_cases hck : cp = k
          · subst hck
            have hO3 : OwnF (wr.drew) w.heap.size (.slice (some ⟨g, 0, none⟩) o.length cp) o := ownF_below hO.out hBX.out
            have hkc : (cp : Int) ≤ (cp : Int) := by omega
            have hki : (cp : Int) ≤ (cp : Int) := by omega
            obtain ⟨v1, w1, v2, w2, v3, w3, q1, q2, q3, o3, b1, b3⟩ := ins_run (w := w) (W := wr.drew) c cp cp (0) (⟨g, 0, none⟩) hO3 (by have := hol.out; omega) (by have := hol.out; omega) (Or.inl ⟨rfl, hol.out⟩)
            rw [hol.out, Nat.sub_self] at q3
            have hBX0 : Below w.heap.size w (wr.drew) := hB.out.trans (hBX.out.mono hsz)
            have hB1 : Below w.heap.size w w1 := hBX0.trans (b1.mono hBX0.size)
            obtain ⟨b', p', e', t0, t1⟩ := (fres_below hl.out hB1) cp hil
            rw [← hc.out] at t0 t1
            cases e'
            have HEND := Lib.hid (sort_end hil hc.out hnd.out hA.out hol.out HI.out o3 hBX0.size)
            have HB3 : Hid (Below w.heap.size w w3) := hBX0.trans (b3.mono hBX0.size)
            clear hO3 o3 b1 b3 hBX0 hB1 f0 f1
            go_wp2_with (at_builtin; first | (refine Lib.wpList_append_run _ rfl _ _ _ _ rfl _ _ rfl rfl _ _ q1 ?_) | (refine Lib.wpList_append_run _ rfl _ _ _ _ rfl _ _ rfl rfl _ _ q2 ?_) | (refine Lib.wpList_append_run _ rfl _ _ _ _ rfl _ _ rfl rfl _ _ q3 ?_))
            obtain ⟨g2, cp2, o2, e2, hc2, hl2, hO2, hA2⟩ := HEND.out
            go_roundw
            case rel => exact ⟨cp + 1, g2, cp2, o2, by omega, by go_num, e2, hc2, hl2, hO2, hA2, HB3⟩
            case measure => simp [intOf]; omega
          · have hO3 : OwnF (wr.drew) w.heap.size (.slice (some ⟨g, 0, none⟩) o.length cp) o := ownF_below hO.out hBX.out
            have hkc : (k : Int) ≤ (cp : Int) := by omega
            have hki : (k : Int) ≤ (k : Int) := by omega
            obtain ⟨v1, w1, v2, w2, v3, w3, q1, q2, q3, o3, b1, b3⟩ := ins_run (w := w) (W := wr.drew) c k cp (cp - k) (⟨g, k * 2, none⟩) hO3 (by have := hol.out; omega) (by have := hol.out; omega) (Or.inr rfl)
            rw [hol.out, Nat.sub_self] at q3
            have hBX0 : Below w.heap.size w (wr.drew) := hB.out.trans (hBX.out.mono hsz)
            have hB1 : Below w.heap.size w w1 := hBX0.trans (b1.mono hBX0.size)
            obtain ⟨b', p', e', t0, t1⟩ := (fres_below hl.out hB1) k hil
            rw [← hc.out] at t0 t1
            cases e'
            have HEND := Lib.hid (sort_end hil hc.out hnd.out hA.out hol.out HI.out o3 hBX0.size)
            have HB3 : Hid (Below w.heap.size w w3) := hBX0.trans (b3.mono hBX0.size)
            clear hO3 o3 b1 b3 hBX0 hB1 f0 f1
            go_wp2_with (at_builtin; first | (refine Lib.wpList_append_run _ rfl _ _ _ _ rfl _ _ rfl rfl _ _ q1 ?_) | (refine Lib.wpList_append_run _ rfl _ _ _ _ rfl _ _ rfl rfl _ _ q2 ?_) | (refine Lib.wpList_append_run _ rfl _ _ _ _ rfl _ _ rfl rfl _ _ q3 ?_))
            obtain ⟨g2, cp2, o2, e2, hc2, hl2, hO2, hA2⟩ := HEND.out
            go_roundw
            case rel => exact ⟨k + 1, g2, cp2, o2, by omega, by go_num, e2, hc2, hl2, hO2, hA2, HB3⟩
            case measure => simp [intOf]; omega
    · obtain rfl : i = l.length := by omega
      have hil' : ¬ (l.length : Int) < (l.length : Int) := by omega
      go_wp2_with fail
      go_ret
      have hO' := hO.out
      rw [hol.out] at hO'
      refine ⟨⟨_, _, o, by rw [hol.out]; rfl, ?_, hA.out.1, by have := hA.out.2; rwa [List.take_length] at this⟩, hB.out⟩
      obtain ⟨ao2, cp2, e2, hF2⟩ := ownF_slice hO.out
      cases e2
      exact hF2
end fre
end Go.Proofs.Ytcmpepojokmhnaa
