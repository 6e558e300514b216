/- The walk of slices.Insert at one free page. -/
import Derived.Test.YtcmpepojokmhnaaFre
import Derived.Test.YtcmpepojokmhnaaSegS
import Derived.Deep.RegionLaw
import Derived.Laws.Externs
namespace Go.Proofs.Ytcmpepojokmhnaa
open Go.RowKit
namespace fre
set_option linter.unusedVariables false
theorem infoF : (Try.prog.info? 28).map (fun i => (i.zero, i.size, i.bytes)) = some (some (.agg #[.int .i64 0, .int .i64 0]), 2, 16) := by kernel_rfl
theorem sizeF : (Try.prog.info? 28).map (·.size) = some 2 := by kernel_rfl
theorem cells_one (c : Fre) : ∀ u ∈ c.cells, u.oneCell' = true := by
  intro u hu
  simp [Fre.cells] at hu
  rcases hu with rfl | rfl <;> rfl
/-- what Insert answers -/
def InsE (w : World) (v : Value) (B : Nat) (n : Nat) (ys : List Value) (e : Ending) (w' : World) : Prop := ∃ v', e = .returned v' ∧ kt.SegX w' B 28 2 v' (n + 1) ys ∧ kt.SameOrNew w v v'
theorem new_cells {w : World} {vb : Nat} {f : Fre} (hvb : w.heap[vb]? = some (.cells #[.int .i64 f.txn, .int .i64 f.page] 28 (0, 0))) : ∀ j u, f.cells[j]? = some u → w.cell? ((⟨vb, 0, none⟩ : Addr).add j) = some u := by
  intro j u hj
  rw [kt.addr_add, Lib.cell_of_heap hvb]
  simpa [Fre.cells] using hj
set_option maxHeartbeats 1000000 in
theorem ins_end {B n : Nat} {v : Value} {xs : List Value} (f : Fre) (vb : Nat) (w : World) (hseg : kt.SegX w B 28 2 v n xs) (hn : n ≤ 100000) (hvb : w.heap[vb]? = some (.cells #[.int .i64 f.txn, .int .i64 f.page] 28 (0, 0))) (hbase : B ≤ w.heap.size) :
    Calls Try.prog 31 #[v, .int .i64 (n : Int), .slice (some ⟨vb, 0, none⟩) 1 1] w fun e w' => InsE w v B n (xs ++ f.cells) e w' ∧ w.grownBy w' v.ownBlock := by
  obtain ⟨v', w1, hr, hs, hg, hsn⟩ := kt.segX_append (P := Try.prog) (ty := 39) Try.underlying39 infoF rfl (by omega) ⟨vb, 0, none⟩ 1 1 f.cells rfl (new_cells hvb) (cells_one f) hseg (by unfold maxLen; omega) (by omega) hbase
  have HS := Lib.hid hs
  have HG := Lib.hid hg
  have HSN := Lib.hid hsn
  have hq := hseg.2
  have hxl := hseg.1
  have HSEG := Lib.hid hseg
  have HVB := Lib.hid hvb
  clear hs hg hseg hvb hsn
  rcases hq with ⟨rfl, rfl⟩ | ⟨g, o, cap, pre, post, rfl, hB, hgc, hp, hc, hm, hpost⟩
  · clear hxl
    go_enter Try.func31, Try.ntmps31
    go_wp2_with (at_builtin; refine Lib.wpList_append_run _ rfl _ _ _ _ rfl _ _ rfl rfl _ _ hr ?_)
    go_ret
    exact ⟨⟨v', rfl, HS.out, HSN.out⟩, HG.out⟩
  · clear hxl hgc hp hpost
    by_cases hcap : cap = n
    · subst hcap
      go_enter Try.func31, Try.ntmps31
      go_wp2_with (at_builtin; refine Lib.wpList_append_run _ rfl _ _ _ _ rfl _ _ rfl rfl _ _ hr ?_)
      go_ret
      exact ⟨⟨v', rfl, HS.out, HSN.out⟩, HG.out⟩
    · go_enter Try.func31, Try.ntmps31
      go_wp2_with (at_builtin; refine Lib.wpList_append_run _ rfl _ _ _ _ rfl _ _ rfl rfl _ _ hr ?_)
      go_ret
      exact ⟨⟨v', rfl, HS.out, HSN.out⟩, HG.out⟩
theorem overlaps_no (w : World) (vb g o la ca lb cb : Nat) (hne : vb ≠ g) {cs ds : Array Value} (h1 : w.heap[vb]? = some (.cells cs 28 (0, 0))) (h2 : w.heap[g]? = some (.cells ds 28 (0, 0))) (h0 : ds.size ≠ 0) :
    (callFunc 42 #[.slice (some ⟨vb, 0, none⟩) la ca, .slice (some ⟨g, o, none⟩) lb cb]).run Try.prog w = .ok (.value (.bool false)) w := by
  rw [run_callFunc_extern Try.func42 (by kernel_rfl) (by kernel_rfl) (by kernel_rfl) (e := Extern.SlicesOverlaps.overlaps #[39, 39] #[4]) (by kernel_rfl),
    Lib.run_overlaps_apart w 39 4 28 Try.underlying39 2 (fun w => by kernel_rfl) ⟨vb, 0, none⟩ ⟨g, o, none⟩ la ca lb cb hne 28 28 cs.size ds.size (by simp [World.shape?, h1]) (by simp [World.shape?, h2]) h0 (Lib.frozen_of_heap h1 _) (Lib.frozen_of_heap h1 _)]
  rfl
theorem splice1 {pre a b q r : List Value} {o : Nat} (h : pre.length + a.length + q.length = o) : (pre ++ (a ++ b) ++ (q ++ r)).take o ++ b ++ (pre ++ (a ++ b) ++ (q ++ r)).drop (o + b.length) = (pre ++ a) ++ ((b ++ q).take q.length ++ b ++ r) := by
  have e0 : pre ++ (a ++ b) ++ (q ++ r) = (pre ++ a) ++ ((b ++ q) ++ r) := by simp
  rw [e0]
  have e1 : ((pre ++ a) ++ ((b ++ q) ++ r)).take o = (pre ++ a) ++ (b ++ q).take q.length := by
    rw [List.take_append, List.take_of_length_le (by rw [List.length_append]; omega)]
    congr 1
    rw [List.length_append, show o - (pre.length + a.length) = q.length by omega, List.take_append_of_le_length (by rw [List.length_append]; omega)]
  have e2 : ((pre ++ a) ++ ((b ++ q) ++ r)).drop (o + b.length) = r := by
    rw [← List.append_assoc]
    exact List.drop_left' (by simp; omega)
  rw [e1, e2]
  simp
theorem splice2 {P Q R V : List Value} {o : Nat} (h : P.length = o) (hq : Q.length = V.length) : (P ++ (Q ++ R)).take o ++ V ++ (P ++ (Q ++ R)).drop (o + V.length) = P ++ (V ++ R) := by
  have e2 : (P ++ (Q ++ R)).drop (o + V.length) = R := by
    rw [← List.append_assoc]
    exact List.drop_left' (by simp; omega)
  rw [List.take_left' h, e2]
  simp
set_option maxHeartbeats 2000000 in
theorem ins_room {B n : Nat} {xs : List Value} (i g o cap : Nat) (pre post : List Value) (f : Fre) (vb : Nat) (w : World) (hxl : xs.length = n * 2) (hg : w.heap[g]? = some (.cells (pre ++ xs ++ post).toArray 28 (0, 0))) (hp : pre.length = o) (hB : B ≤ g) (hm : cap ≤ maxLen) (hpost : (cap - n) * 2 ≤ post.length) (h1 : ∀ u ∈ xs, u.oneCell' = true)
    (hi : i < n) (hroom : n + 1 ≤ cap) (hn : n ≤ 100000) (hvb : w.heap[vb]? = some (.cells #[.int .i64 f.txn, .int .i64 f.page] 28 (0, 0))) (hne : vb ≠ g) :
    Calls Try.prog 31 #[.slice (some ⟨g, o, none⟩) n cap, .int .i64 (i : Int), .slice (some ⟨vb, 0, none⟩) 1 1] w fun e w' => InsE w (.slice (some ⟨g, o, none⟩) n cap) B n (xs.take (i * 2) ++ f.cells ++ xs.drop (i * 2)) e w' ∧ w.grownBy w' (some g) := by
  obtain ⟨q, r, rfl, hql⟩ : ∃ q r, post = q ++ r ∧ q.length = 2 := ⟨post.take 2, post.drop 2, (List.take_append_drop 2 post).symm, by rw [List.length_take]; omega⟩
  obtain ⟨a, b, rfl, hal⟩ : ∃ a b, xs = a ++ b ∧ a.length = i * 2 := ⟨xs.take (i * 2), xs.drop (i * 2), (List.take_append_drop _ _).symm, by rw [List.length_take]; omega⟩
  have hbl : b.length = (n - i) * 2 := by rw [List.length_append] at hxl; omega
  have hta : (a ++ b).take (i * 2) = a := List.take_left' hal
  have hda : (a ++ b).drop (i * 2) = b := List.drop_left' hal
  have hov := fun lb cb => overlaps_no w vb g (o + (i + 1) * 2) 1 1 lb cb hne hvb hg (by rw [List.size_toArray]; simp only [List.length_append]; omega)
  have hcp1 : ∀ ty dl dc sl sc, dl = n - i → sl = n + 1 - i → (Builtin.copy_ #[39, 39] ty #[.slice (some ⟨g, o + (i + 1) * 2, none⟩) dl dc, .slice (some ⟨g, o + i * 2, none⟩) sl sc]).run Try.prog w.drew = .ok (goInt (n - i : Nat)) (w.drew.setRow g ((pre ++ a) ++ ((b ++ q).take q.length ++ b ++ r)).toArray) := by
    intro ty dl dc sl sc hdl hsl
    subst hdl hsl
    rw [← splice1 (o := o + (i + 1) * 2) (by omega)]
    refine kt.run_copy_at w.drew 39 39 ty 28 2 g (o + (i + 1) * 2) _ dc ⟨g, o + i * 2, none⟩ _ sc _ 28 b Try.underlying39 sizeF hg (n - i) (by simp only [Nat.min_def]; split <;> omega) hbl ?_ (by simp; omega) (fun u hu => h1 u (by simp [hu]))
    intro j u hj
    have hj' := (List.getElem?_eq_some_iff.1 hj).1
    rw [Addr.add_mid]
    show w.cell? _ = _
    rw [Lib.cell_of_heap hg]
    simp only [List.getElem?_toArray]
    rw [show pre ++ (a ++ b) ++ (q ++ r) = (pre ++ a) ++ (b ++ (q ++ r)) by simp, List.getElem?_append_right (by rw [List.length_append]; omega), List.length_append, show o + i * 2 + j - (pre.length + a.length) = j by omega, List.getElem?_append_left hj']
    exact hj
  obtain ⟨W1, hW1⟩ : ∃ W1, W1 = w.drew.setRow g ((pre ++ a) ++ ((b ++ q).take q.length ++ b ++ r)).toArray := ⟨_, rfl⟩
  have hg1 : W1.heap[g]? = some (.cells ((pre ++ a) ++ ((b ++ q).take q.length ++ b ++ r)).toArray 28 (0, 0)) := by rw [hW1]; exact setRow_heap _ _ _ _ _ _ hg
  have hv1 : W1.heap[vb]? = some (.cells #[.int .i64 f.txn, .int .i64 f.page] 28 (0, 0)) := by rw [hW1, setRow_other _ _ _ _ hne]; exact hvb
  have hgr1 : w.grownBy W1 (some g) := by
    rw [hW1]
    exact ⟨rfl, rfl, rfl, by simp, fun j hj hne => setRow_other w.drew g j _ (fun h => hne (by rw [h]))⟩
  rw [← hW1] at hcp1
  have hcp2 : ∀ ty dl dc, dl = n + 1 - i → (Builtin.copy_ #[39, 39] ty #[.slice (some ⟨g, o + i * 2, none⟩) dl dc, .slice (some ⟨vb, 0, none⟩) 1 1]).run Try.prog W1 = .ok (goInt (1 : Nat)) (W1.setRow g ((pre ++ a) ++ (f.cells ++ (b ++ r))).toArray) := by
    intro ty dl dc hdl
    subst hdl
    have e := splice2 (P := pre ++ a) (Q := (b ++ q).take q.length) (R := b ++ r) (V := f.cells) (o := o + i * 2) (by rw [List.length_append]; omega) (by rw [List.length_take, List.length_append, hql]; simp [Fre.cells])
    rw [← e]
    rw [show (pre ++ a) ++ ((b ++ q).take q.length ++ b ++ r) = (pre ++ a) ++ ((b ++ q).take q.length ++ (b ++ r)) by simp] at hg1
    refine kt.run_copy_at W1 39 39 ty 28 2 g (o + i * 2) _ dc ⟨vb, 0, none⟩ _ 1 _ 28 f.cells Try.underlying39 sizeF hg1 1 (by simp only [Nat.min_def]; split <;> omega) rfl (new_cells hv1) ?_ (cells_one f)
    simp [Fre.cells]
    omega
  have HG1 := Lib.hid hg1
  have HR1 := Lib.hid hgr1
  have HA := Lib.hid hal
  have HBL := Lib.hid hbl
  have HP := Lib.hid hp
  have HPOST := Lib.hid hpost
  have HQ := Lib.hid hql
  rw [hta, hda]
  have hz1 : ¬ ((i : Int) = (n : Int)) := by omega
  have hw1 : IntKind.i64.wrap ((i : Int) + 1) = (i : Int) + 1 := by rw [IntKind.wrap_i64]; omega
  have hb1 : (0 : Int) ≤ (i : Int) + 1 := by omega
  have htn : ((i : Int) + 1).toNat = i + 1 := by omega
  have hb2 : ¬ (cap = i + 1) := by omega
  have hb3 : (i : Int) ≤ (n : Int) + 1 := by omega
  have hb4 : ¬ (cap = i) := by omega
  have hin : i ≤ n := by omega
  clear hW1 hg1 hv1 hgr1 hta hda hal hbl hp hpost hql hg hvb hxl h1
  unfold maxLen at hm
  go_enter Try.func31, Try.ntmps31
  go_wp2_with (simp only [hov])
  go_region_law (refine kt.step_copy_known rfl _ _ 39 39 rfl _ _ (by simp [Act.eval, Act.put]) (by simp [Act.eval, Act.put]) (hcp1 _ _ _ _ _ (by omega) (by omega)) ?_)
  go_wp2_with (at_builtin; refine kt.wpList_copy_known _ rfl _ _ 39 39 rfl _ _ rfl rfl (hcp2 _ _ _ (by omega)) ?_)
  go_ret
  have hxl2 : (a ++ f.cells ++ b).length = (n + 1) * 2 := by
    have h1 := HA.out
    have h2 := HBL.out
    have h3 : f.cells.length = 2 := rfl
    simp only [List.length_append]
    omega
  have hpo : (cap - (n + 1)) * 2 ≤ r.length := by
    have h1 := HPOST.out
    have h2 := HQ.out
    rw [List.length_append] at h1
    omega
  have hgr : ∀ L : List Value, L = pre ++ (a ++ f.cells ++ b) ++ r → (W1.setRow g L.toArray).heap[g]? = some (.cells (pre ++ (a ++ f.cells ++ b) ++ r).toArray 28 (0, 0)) := by
    intro L hL
    rw [setRow_heap _ _ _ _ _ _ HG1.out, hL]
  exact ⟨⟨_, rfl, ⟨hxl2, Or.inr ⟨g, o, cap, pre, r, rfl, hB, hgr _ (by simp), HP.out, hroom, by unfold maxLen; exact hm, hpo⟩⟩, fun k hk => Or.inl hk⟩, kt.grown_trans HR1.out (kt.grown_row _ _ _)⟩
set_option maxHeartbeats 2000000 in
theorem ins_grow {B n : Nat} {xs : List Value} (i g o cap : Nat) (pre post : List Value) (f : Fre) (vb : Nat) (w : World) (hxl : xs.length = n * 2) (hg : w.heap[g]? = some (.cells (pre ++ xs ++ post).toArray 28 (0, 0))) (hp : pre.length = o) (hB : B ≤ w.heap.size) (hcn : n ≤ cap) (h1 : ∀ u ∈ xs, u.oneCell' = true)
    (hi : i < n) (hroom : cap < n + 1) (hn : n ≤ 100000) (hvb : w.heap[vb]? = some (.cells #[.int .i64 f.txn, .int .i64 f.page] 28 (0, 0))) :
    Calls Try.prog 31 #[.slice (some ⟨g, o, none⟩) n cap, .int .i64 (i : Int), .slice (some ⟨vb, 0, none⟩) 1 1] w fun e w' => InsE w (.slice (some ⟨g, o, none⟩) n cap) B n (xs.take (i * 2) ++ f.cells ++ xs.drop (i * 2)) e w' ∧ w.grownBy w' (some g) := by
  obtain ⟨a, b, rfl, hal⟩ : ∃ a b, xs = a ++ b ∧ a.length = i * 2 := ⟨xs.take (i * 2), xs.drop (i * 2), (List.take_append_drop _ _).symm, by rw [List.length_take]; omega⟩
  have hbl : b.length = (n - i) * 2 := by rw [List.length_append] at hxl; omega
  have hta : (a ++ b).take (i * 2) = a := List.take_left' hal
  have hda : (a ++ b).drop (i * 2) = b := List.drop_left' hal
  obtain ⟨i0, hi0, hz0, hz1, hz2⟩ := info_parts infoF
  have hold : (Builtin.firstCells i0.size i (.slice (some ⟨g, o, none⟩) i cap)).run Try.prog w.drew = .ok a.toArray w.drew := by
    refine run_firstCells_some (P := Try.prog) w.drew i0.size i ⟨g, o, none⟩ i cap a (by rw [hz1]; exact hal) ?_
    intro j u hj
    have hj' := (List.getElem?_eq_some_iff.1 hj).1
    rw [Addr.add_mid]
    show w.cell? _ = _
    rw [Lib.cell_of_heap hg]
    simp only [List.getElem?_toArray]
    rw [show pre ++ (a ++ b) ++ post = pre ++ (a ++ (b ++ post)) by simp, List.getElem?_append_right (by omega), show o + j - pre.length = j by omega, List.getElem?_append_left hj']
    exact hj
  have hap := fun ty => Lib.run_append_grow_zeros (P := Try.prog) w 39 3 ty 28 i0 _ .i64 .i64 Try.underlying39 Try.underlying3 hi0 hz0 (some ⟨g, o, none⟩) i cap a hold (n + 1 - i) (by omega) (by omega) (by omega) (by omega) (by rw [hz2]; omega) (growslice_fits (by omega) (by rw [hz2]; omega))
  rw [show i + (n + 1 - i) = n + 1 by omega, show ((n + 1 - i : Nat) : Int) = (n : Int) + 1 - (i : Int) by omega] at hap
  have hge := grownCap_ge w (n + 1) cap 28
  have hgm := grownCap_le_maxLen w (n + 1) cap 28 (by unfold maxLen; omega)
  generalize grownCap w (n + 1) cap 28 = c at hap hge hgm
  obtain ⟨q, s, r, hz, hql, hsl, hrl⟩ : ∃ q s r : List Value, (Builtin.zeroCells (Value.agg #[.int .i64 0, .int .i64 0]).cells (n + 1 - i)).toList ++ (Builtin.zeroCells (Value.agg #[.int .i64 0, .int .i64 0]).cells (c - (n + 1))).toList = q ++ (s ++ r) ∧ q.length = 2 ∧ s.length = (n - i) * 2 ∧ r.length = (c - (n + 1)) * 2 := by
    generalize hZ : (Builtin.zeroCells (Value.agg #[.int .i64 0, .int .i64 0]).cells (n + 1 - i)).toList ++ (Builtin.zeroCells (Value.agg #[.int .i64 0, .int .i64 0]).cells (c - (n + 1))).toList = Z
    have hl : Z.length = (n + 1 - i) * 2 + (c - (n + 1)) * 2 := by
      rw [← hZ, List.length_append, Array.length_toList, Array.length_toList, size_zeroCells, size_zeroCells]
      rfl
    refine ⟨Z.take 2, (Z.drop 2).take ((n - i) * 2), (Z.drop 2).drop ((n - i) * 2), by rw [List.take_append_drop, List.take_append_drop], ?_, ?_, ?_⟩
    · rw [List.length_take]; omega
    · rw [List.length_take, List.length_drop]; omega
    · rw [List.length_drop, List.length_drop]; omega
  obtain ⟨W0, hW0⟩ : ∃ W0, W0 = w.drew.alloc (.cells (a ++ (q ++ (s ++ r))).toArray 28) := ⟨_, rfl⟩
  have harr : a.toArray ++ Builtin.zeroCells (Value.agg #[.int .i64 0, .int .i64 0]).cells (n + 1 - i) ++ Builtin.zeroCells (Value.agg #[.int .i64 0, .int .i64 0]).cells (c - (n + 1)) = (a ++ (q ++ (s ++ r))).toArray := by
    rw [← hz]
    apply Array.toList_inj.1
    simp
  rw [harr, ← hW0] at hap
  have hG0 : W0.heap[w.heap.size]? = some (.cells (a ++ (q ++ (s ++ r))).toArray 28 (0, 0)) := by rw [hW0]; exact heap_alloc_last w.drew _
  have hv0 : W0.heap[vb]? = some (.cells #[.int .i64 f.txn, .int .i64 f.page] 28 (0, 0)) := by rw [hW0, Below.heap_alloc w.drew _ _ (kt.bld_lt hvb)]; exact hvb
  have hg0 : W0.heap[g]? = some (.cells (pre ++ (a ++ b) ++ post).toArray 28 (0, 0)) := by rw [hW0, Below.heap_alloc w.drew _ _ (kt.bld_lt hg)]; exact hg
  have hgr0 : w.grownBy W0 (some g) := by rw [hW0]; exact ⟨rfl, rfl, rfl, by simp, fun j hj _ => Below.heap_alloc w.drew _ _ hj⟩
  have hcp1 : ∀ ty dl dc, dl = n + 1 - i → (Builtin.copy_ #[39, 39] ty #[.slice (some ⟨w.heap.size, i * 2, none⟩) dl dc, .slice (some ⟨vb, 0, none⟩) 1 1]).run Try.prog W0 = .ok (goInt (1 : Nat)) (W0.setRow w.heap.size (a ++ (f.cells ++ (s ++ r))).toArray) := by
    intro ty dl dc hdl
    subst hdl
    rw [← splice2 (P := a) (Q := q) (R := s ++ r) (V := f.cells) (o := i * 2) hal (by rw [hql]; rfl)]
    refine kt.run_copy_at W0 39 39 ty 28 2 w.heap.size (i * 2) _ dc ⟨vb, 0, none⟩ _ 1 _ 28 f.cells Try.underlying39 sizeF hG0 1 (by simp only [Nat.min_def]; split <;> omega) rfl (new_cells hv0) ?_ (cells_one f)
    rw [List.size_toArray]
    simp only [List.length_append, Fre.cells, List.length_cons, List.length_nil]
    omega
  obtain ⟨W1, hW1⟩ : ∃ W1, W1 = W0.setRow w.heap.size (a ++ (f.cells ++ (s ++ r))).toArray := ⟨_, rfl⟩
  have hG1 : W1.heap[w.heap.size]? = some (.cells (a ++ (f.cells ++ (s ++ r))).toArray 28 (0, 0)) := by rw [hW1]; exact setRow_heap _ _ _ _ _ _ hG0
  have hg1 : W1.heap[g]? = some (.cells (pre ++ (a ++ b) ++ post).toArray 28 (0, 0)) := by rw [hW1, setRow_other _ _ _ _ (by have := kt.bld_lt hg; omega)]; exact hg0
  have hgr1 : w.grownBy W1 (some g) := by
    rw [hW1]
    refine ⟨hgr0.os, hgr0.tape, hgr0.output, by have := hgr0.size; simpa using this, fun j hj hne => ?_⟩
    rw [setRow_other _ _ _ _ (by omega)]
    exact hgr0.block j hj hne
  rw [← hW1] at hcp1
  have hcp2 : ∀ ty dl dc sl sc, dl = n - i → sl = n - i → (Builtin.copy_ #[39, 39] ty #[.slice (some ⟨w.heap.size, (i + 1) * 2, none⟩) dl dc, .slice (some ⟨g, o + i * 2, none⟩) sl sc]).run Try.prog W1.drew = .ok (goInt (n - i : Nat)) (W1.drew.setRow w.heap.size ((a ++ f.cells) ++ (b ++ r)).toArray) := by
    intro ty dl dc sl sc hdl hsl'
    subst hdl hsl'
    rw [← splice2 (P := a ++ f.cells) (Q := s) (R := r) (V := b) (o := (i + 1) * 2) (by rw [List.length_append, hal]; simp only [Fre.cells, List.length_cons, List.length_nil]; omega) (by omega)]
    rw [show a ++ (f.cells ++ (s ++ r)) = (a ++ f.cells) ++ (s ++ r) by simp] at hG1
    refine kt.run_copy_at W1.drew 39 39 ty 28 2 w.heap.size ((i + 1) * 2) _ dc ⟨g, o + i * 2, none⟩ _ sc _ 28 b Try.underlying39 sizeF hG1 (n - i) (by simp only [Nat.min_def]; split <;> omega) hbl ?_ ?_ (fun u hu => h1 u (by simp [hu]))
    · intro j u hj
      have hj' := (List.getElem?_eq_some_iff.1 hj).1
      rw [Addr.add_mid]
      show W1.cell? _ = _
      rw [Lib.cell_of_heap hg1]
      simp only [List.getElem?_toArray]
      rw [show pre ++ (a ++ b) ++ post = (pre ++ a) ++ (b ++ post) by simp, List.getElem?_append_right (by rw [List.length_append]; omega), List.length_append, show o + i * 2 + j - (pre.length + a.length) = j by omega, List.getElem?_append_left hj']
      exact hj
    · rw [List.size_toArray]
      simp only [List.length_append, Fre.cells, List.length_cons, List.length_nil]
      omega
  have HG1 := Lib.hid hG1
  have HR1 := Lib.hid hgr1
  have HA := Lib.hid hal
  have HBL := Lib.hid hbl
  have HRL := Lib.hid hrl
  rw [hta, hda]
  have hz1' : ¬ ((i : Int) = (n : Int)) := by omega
  have hw1 : IntKind.i64.wrap ((i : Int) + 1) = (i : Int) + 1 := by rw [IntKind.wrap_i64]; omega
  have hb1 : (0 : Int) ≤ (i : Int) + 1 := by omega
  have htn : ((i : Int) + 1).toNat = i + 1 := by omega
  have hb2 : ¬ (c = i + 1) := by omega
  have hb3 : (i : Int) ≤ (n : Int) := by omega
  have hb4 : ¬ (cap = i) := by omega
  have hb5 : ¬ (c = i) := by omega
  have hin : i ≤ n := by omega
  have hic : i ≤ cap := by omega
  clear hW0 hW1 hG0 hG1 hv0 hg0 hg1 hgr0 hgr1 hta hda hal hbl hp hql hsl hrl hg hvb hxl h1 hold hi0 hz0 hz1 hz2 harr hz
  unfold maxLen at hgm
  go_enter Try.func31, Try.ntmps31
  go_wp2_with (first | (at_builtin; refine Lib.wpList_append_run _ rfl _ _ _ _ rfl _ _ rfl rfl _ _ (hap _) ?_) | (refine kt.wpList_copy_known _ rfl _ _ 39 39 rfl _ _ rfl rfl (hcp1 _ _ _ (by omega)) ?_))
  go_region_law (refine kt.step_copy_known rfl _ _ 39 39 rfl _ _ (by simp [Act.eval, Act.put]) (by simp [Act.eval, Act.put]) (hcp2 _ _ _ _ _ (by omega) (by omega)) ?_)
  go_wp2_with fail
  go_ret
  have hxl2 : (a ++ f.cells ++ b).length = (n + 1) * 2 := by
    have h1 := HA.out
    have h2 := HBL.out
    have h3 : f.cells.length = 2 := rfl
    simp only [List.length_append]
    omega
  have hpo : (c - (n + 1)) * 2 ≤ r.length := by rw [HRL.out]; exact Nat.le_refl _
  have hgr : ∀ L : List Value, L = [] ++ (a ++ f.cells ++ b) ++ r → (W1.drew.setRow w.heap.size L.toArray).heap[w.heap.size]? = some (.cells ([] ++ (a ++ f.cells ++ b) ++ r).toArray 28 (0, 0)) := by
    intro L hL
    have hg : W1.drew.heap[w.heap.size]? = _ := HG1.out
    rw [setRow_heap _ _ _ _ _ _ hg, hL]
  refine ⟨⟨_, rfl, ⟨hxl2, Or.inr ⟨w.heap.size, 0, c, [], r, rfl, hB, hgr _ (by simp), rfl, hge, by unfold maxLen; exact hgm, hpo⟩⟩, fun k hk => Or.inr (by cases hk; exact Nat.le_refl _)⟩, ⟨HR1.out.os, HR1.out.tape, HR1.out.output, by have := HR1.out.size; simpa using this, fun j hj hne => ?_⟩⟩
  refine (setRow_other W1.drew _ _ _ (by omega)).trans ?_
  exact HR1.out.block j hj hne
/-- slices.Insert at one free page: whatever the room -/
theorem ins_any {B n : Nat} {v : Value} {xs : List Value} (i : Nat) (f : Fre) (vb : Nat) (w : World) (hseg : kt.SegX w B 28 2 v n xs) (h1 : ∀ u ∈ xs, u.oneCell' = true) (hi : i ≤ n) (hn : n ≤ 100000) (hvb : w.heap[vb]? = some (.cells #[.int .i64 f.txn, .int .i64 f.page] 28 (0, 0))) (hne : v.ownBlock ≠ some vb) (hbase : B ≤ w.heap.size) :
    Calls Try.prog 31 #[v, .int .i64 (i : Int), .slice (some ⟨vb, 0, none⟩) 1 1] w fun e w' => InsE w v B n (xs.take (i * 2) ++ f.cells ++ xs.drop (i * 2)) e w' ∧ w.grownBy w' v.ownBlock := by
  by_cases he : i = n
  · subst he
    rw [List.take_of_length_le (by rw [hseg.1]; exact Nat.le_refl _), List.drop_of_length_le (by rw [hseg.1]; exact Nat.le_refl _), List.append_nil]
    exact ins_end f vb w hseg hn hvb hbase
  · rcases hseg.2 with ⟨rfl, rfl⟩ | ⟨g, o, cap, pre, post, rfl, hB, hg, hp, hc, hm, hpost⟩
    · omega
    · by_cases hroom : n + 1 ≤ cap
      · exact ins_room i g o cap pre post f vb w hseg.1 hg hp hB hm hpost h1 (by omega) hroom hn hvb (fun h => hne (by rw [h]; rfl))
      · exact ins_grow i g o cap pre post f vb w hseg.1 hg hp hbase hc h1 (by omega) (by omega) hn hvb
end fre
end Go.Proofs.Ytcmpepojokmhnaa
