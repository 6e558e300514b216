/- The walks of the reference's Same (at the same records) and of awake; LdifParses. -/
import Derived.Test.YtifplgnabkkbjaaDoorParseV
import Derived.Test.YtifplgnabkkbjaaDoorRParseW
namespace Go.Proofs.YtifplgnabkkbjaaDoor
open Go.RowKit
namespace ldw
open ldp
set_option linter.unusedVariables false
set_option linter.unusedSimpArgs false
theorem dr_drewN {B : Nat} {w w' : World} (h : Below B w w') (n : Nat) : Below B w (w'.drewN n) := below_drewN h n
theorem foldL_len (M : Nat) : ∀ (rows : List Row) (i : Nat) (recs : List Rec) (op : Bool) (out : List Rec), (∀ r ∈ recs, r.pairs.length ≤ M) → foldL i recs op rows = .inr out → out.length ≤ recs.length + rows.length ∧ ∀ r ∈ out, r.pairs.length ≤ M + rows.length
  | [], i, recs, op, out, h, e => by
    unfold foldL foldR at e
    cases e
    exact ⟨by simp, fun r hr => by have := h r hr; simp; omega⟩
  | x :: t, i, recs, op, out, h, e => by
    unfold foldL foldR at e
    have step : ∀ recs' op', recs'.length ≤ recs.length + 1 → (∀ r ∈ recs', r.pairs.length ≤ M + 1) → foldL (i + 1) recs' op' t = .inr out → out.length ≤ recs.length + (x :: t).length ∧ ∀ r ∈ out, r.pairs.length ≤ M + (x :: t).length := by
      intro recs' op' h1 h2 h3
      obtain ⟨k1, k2⟩ := foldL_len (M + 1) t (i + 1) recs' op' out h2 h3
      refine ⟨by rw [List.length_cons]; omega, fun r hr => ?_⟩
      have := k2 r hr
      rw [List.length_cons]; omega
    have h' : ∀ r ∈ recs, r.pairs.length ≤ M + 1 := fun r hr => by have := h r hr; omega
    split at e
    · cases e
    · split at e
      · exact step recs op (by omega) h' e
      · split at e
        · exact step recs false (by omega) h' e
        · split at e
          · cases e
          · split at e
            · cases e
            · split at e
              · refine step _ true ?_ ?_ e
                · unfold addPair
                  split
                  · omega
                  · rw [List.length_append, List.length_dropLast]
                    simp
                · intro r hr
                  unfold addPair at hr
                  split at hr
                  · exact h' r hr
                  · rename_i y hy
                    rcases List.mem_append.1 hr with hr | hr
                    · exact h' r (List.dropLast_subset _ hr)
                    · simp only [List.mem_singleton] at hr
                      subst hr
                      have := h y (List.mem_of_getLast? hy)
                      simp
                      omega
              · refine step _ true (by simp) ?_ e
                intro r hr
                rcases List.mem_append.1 hr with hr | hr
                · exact h' r hr
                · simp only [List.mem_singleton] at hr
                  subst hr
                  simp
/-- how records are read -/
def RdR (w : World) (ao : Option Addr) (l : List Rec) : Prop := ∀ i (hi : i < l.length), ∃ g o, ao = some ⟨g, o, none⟩ ∧ w.cell? ⟨g, o + i * 2, none⟩ = some (.string (bs l[i].name)) ∧
  ∃ a c, w.cell? ⟨g, o + i * 2 + 1, none⟩ = some (.slice a l[i].pairs.length c) ∧ ∀ j (hj : j < l[i].pairs.length), ∃ g' o', a = some ⟨g', o', none⟩ ∧ w.cell? ⟨g', o' + j * 2, none⟩ = some (.string (bs l[i].pairs[j].1)) ∧ w.cell? ⟨g', o' + j * 2 + 1, none⟩ = some (.string (bs l[i].pairs[j].2))
theorem rdR_nil (w : World) (ao : Option Addr) : RdR w ao [] := fun i hi => by simp at hi
theorem rdR_below {w w' : World} {ao : Option Addr} {l : List Rec} (h : RdR w ao l) (hb : Below w.heap.size w w') : RdR w' ao l := by
  intro i hi
  obtain ⟨g, o, h1, h2, a, c, h3, h4⟩ := h i hi
  refine ⟨g, o, h1, (hb.cell (World.block_lt_of_cell? w _ h2)).trans h2, a, c, (hb.cell (World.block_lt_of_cell? w _ h3)).trans h3, fun j hj => ?_⟩
  obtain ⟨g', o', k1, k2, k3⟩ := h4 j hj
  exact ⟨g', o', k1, (hb.cell (World.block_lt_of_cell? w _ k2)).trans k2, (hb.cell (World.block_lt_of_cell? w _ k3)).trans k3⟩
theorem rdR_of {w : World} {B n cap : Nat} {ao : Option Addr} {l : List RV} (h : Recs w B (.slice ao n cap) l) : n = l.length ∧ RdR w ao (l.map (·.1)) := by
  obtain ⟨ao', n', cap', hv, hn, _⟩ := recs_form h
  simp only [Value.slice.injEq] at hv
  refine ⟨by rw [hv.2.1, hn.out], fun i hi => ?_⟩
  rw [List.length_map] at hi
  obtain ⟨g, o, h1, h2, h3, a, m, c, h4, h5, h6⟩ := recs_at h i hi
  simp only [List.getElem_map]
  subst h5
  rw [h4] at h3
  exact ⟨g, o, h1, h2, a, c, h3, h6⟩
set_option maxRecDepth 20000 in
set_option maxHeartbeats 4000000 in
theorem same_eq (ao bo : Option Addr) (n ca cb : Nat) (l : List Rec) (w : World) (hn : Hid (n = l.length)) (hA : Hid (RdR w ao l)) (hB : Hid (RdR w bo l)) (hnb : n ≤ 1000000) (hpl : Hid (∀ r ∈ l, r.pairs.length ≤ 1000000)) :
    Calls Tryd.prog 7 #[.slice ao n ca, .slice bo n cb] w fun e w' => e = .returned (.bool true) ∧ Below w.heap.size w w' := by
  go_enter Tryd.func7, Tryd.ntmps7
  go_wp2_with fail
  go_loopw [5, 6] (fun iv _ wr => ∃ i : Nat, i ≤ n ∧ iv = .int .i64 (i : Int) ∧ Below w.heap.size w wr) (fun iv _ _ => n - (intOf iv).toNat)
  case atStart => exact ⟨0, Nat.zero_le _, rfl, Below.refl _ _⟩
  case round =>
    obtain ⟨i, hi, rfl, hBw⟩ := hrel
    obtain ⟨wo, rfl⟩ : ∃ x, x = wr := ⟨_, rfl⟩
    by_cases hlt : i < n
    · have hlt' : (i : Int) < (n : Int) := by omega
      have hil : i < l.length := by rw [← hn.out]; exact hlt
      obtain ⟨g, o, e1, c0, a, ca2, c1, hp⟩ := (rdR_below hA.out hBw) i hil
      obtain ⟨g2, o2, e2, d0, a2, cb2, d1, hq⟩ := (rdR_below hB.out hBw) i hil
      have hpb := hpl.out l[i] (List.getElem_mem hil)
      subst e1 e2
      have HP := Lib.hid hp
      have HQ := Lib.hid hq
      clear hp hq
      generalize l[i] = r at hpb c0 c1 d0 d1 HP HQ
      obtain ⟨m, hm⟩ : ∃ m, m = r.pairs.length := ⟨_, rfl⟩
      rw [← hm] at c1 d1 hpb
      have HM := Lib.hid hm
      obtain ⟨nm, hnm⟩ : ∃ nm, bs r.name = nm := ⟨_, rfl⟩
      rw [hnm] at c0 d0
      have C1 := Lib.hid c1
      have D1 := Lib.hid d1
      clear hm hnm
      go_wp2_with fail
      go_quiet (fail)
      have HBQ := Lib.hid (dr_drewN hBw nq)
      have HBR : Hid (Below wo.heap.size wo (wo.drewN nq)) := dr_drewN (Below.refl _ _) nq
      generalize wo.drewN nq = wq at HBQ HBR ⊢
      go_wp2_with fail
      go_loopw [6] (fun kv wz => ∃ k : Nat, k ≤ m ∧ kv = .int .i64 (k : Int) ∧ Below wo.heap.size wo wz) (fun kv _ => m - (intOf kv).toNat)
      case atStart => exact ⟨0, Nat.zero_le _, rfl, HBR.out⟩
      case round =>
        clear c1 d1
        obtain ⟨k, hk, rfl, hBk⟩ := hrel
        have c1 := (hBk.cell (World.block_lt_of_cell? wo _ C1.out)).trans C1.out
        have d1 := (hBk.cell (World.block_lt_of_cell? wo _ D1.out)).trans D1.out
        have HBF : Hid (Below w.heap.size w wr) := hBw.trans (hBk.mono hBw.size)
        by_cases hkm : k < m
        · have hkm' : (k : Int) < (m : Int) := by omega
          obtain ⟨g3, o3, e3, x0, x1⟩ := HP.out k (by rw [← HM.out]; exact hkm)
          obtain ⟨g4, o4, e4, y0, y1⟩ := HQ.out k (by rw [← HM.out]; exact hkm)
          subst e3 e4
          have x0 := (hBk.cell (World.block_lt_of_cell? wo _ x0)).trans x0
          have x1 := (hBk.cell (World.block_lt_of_cell? wo _ x1)).trans x1
          have y0 := (hBk.cell (World.block_lt_of_cell? wo _ y0)).trans y0
          have y1 := (hBk.cell (World.block_lt_of_cell? wo _ y1)).trans y1
          clear C1 D1
          go_wp2_with fail
          go_quiet (fail)
          have HBQ2 := Lib.hid (dr_drewN hBk nq)
          generalize wr.drewN nq = wq2 at HBQ2 ⊢
          go_wp2_with fail
          go_roundw
          case rel => exact ⟨k + 1, by omega, by go_num, HBQ2.out⟩
          case measure => simp [intOf]; omega
        · obtain rfl : k = m := by omega
          go_wp2_with fail
          go_roundw
          case rel => exact ⟨i + 1, by omega, by go_num, HBF.out⟩
          case measure => simp [intOf]; omega
    · obtain rfl : i = n := by omega
      go_wp2_with fail
      go_ret
      exact ⟨rfl, hBw⟩
def exT : ByteArray := ⟨#[100, 110, 58, 32, 99, 110, 61, 97, 10, 99, 110, 58, 32, 97, 10, 10]⟩
def exR : List Rec := [⟨[99, 110, 61, 97], [([99, 110], [97])]⟩]
theorem ex_parse : parseL exT.data.toList = .inr exR := by kernel_rfl
set_option maxRecDepth 100000 in
set_option maxHeartbeats 4000000 in
theorem awake_any (w : World) : Calls Tryd.prog 4 #[] w fun e w' => e = .returned (.bool true) ∧ Below w.heap.size w w' := by
  have HC : Hid (Calls Tryd.prog 5 #[.string ⟨#[100, 110, 58, 32, 99, 110, 61, 97, 10, 99, 110, 58, 32, 97, 10, 10]⟩] w fun e w' => Below w.heap.size w w' ∧ ∃ ao cap, e = .returned (.tuple #[.slice ao 1 cap, .int .i64 0, .int .i64 0]) ∧ RdR w' ao exR) := by
    refine (parse_any exT w (by decide)).mono fun e w' h => ?_
    obtain ⟨h1, h2⟩ := h
    rw [ex_parse] at h2
    obtain ⟨ao, n, cap, l, rfl, hr, hl⟩ := h2
    obtain ⟨k1, k2⟩ := rdR_of hr
    rw [hl] at k2
    have : n = 1 := by have h9 := congrArg List.length hl; rw [List.length_map] at h9; rw [k1, h9]; rfl
    subst this
    exact ⟨h1, ao, cap, rfl, k2⟩
  go_enter Tryd.func4, Tryd.ntmps4
  go_wp2_with fail
  refine HC.out.mono ?_
  rintro e w1 ⟨hB1, ao, cap, rfl, hR⟩
  obtain ⟨g, o, e1, c0, a, c, c1, hp⟩ := hR 0 (by decide)
  obtain ⟨g2, o2, e2, d0, d1⟩ := hp 0 (by decide)
  subst e1 e2
  have k0 : w1.cell? ⟨g, o, none⟩ = some (.string ⟨#[99, 110, 61, 97]⟩) := c0
  have k1 : w1.cell? ⟨g, o + 1, none⟩ = some (.slice (some ⟨g2, o2, none⟩) 1 c) := by simpa [exR] using c1
  have k2 : w1.cell? ⟨g2, o2, none⟩ = some (.string ⟨#[99, 110]⟩) := d0
  have k3 : w1.cell? ⟨g2, o2 + 1, none⟩ = some (.string ⟨#[97]⟩) := by simpa [exR, bs] using d1
  have HB1 := Lib.hid hB1
  clear c0 c1 d0 d1 hR hp hB1 HC
  go_wp2_with fail
  go_ret
  exact ⟨rfl, HB1.out⟩
set_option maxRecDepth 20000 in
set_option maxHeartbeats 4000000 in
theorem ldifparses_any (s : ByteArray) (w : World) (hs : s.size ≤ 140737488351232) :
    Calls Tryd.prog 3 #[.string s] w fun e w' => e = .returned (.bool true) ∧ Below w.heap.size w w' := by
  have CA := Lib.hid (awake_any w)
  by_cases h3 : 20000 < s.size
  · have h3' : 20000 < (s.size : Int) := by omega
    go_enter Tryd.func3, Tryd.ntmps3
    go_wp2_with fail
    refine CA.out.mono ?_
    rintro e w1 ⟨rfl, hB1⟩
    go_wp2_with fail
    go_ret
    exact ⟨rfl, hB1⟩
  · have h3' : ¬ 20000 < (s.size : Int) := by omega
    have hP : ∃ (n : Nat) (l : List Rec) (at' er : Int), Hid (n = l.length) ∧ n ≤ 1000000 ∧ Hid (∀ r ∈ l, r.pairs.length ≤ 1000000) ∧ Hid (∀ o w e w', o = parseL s.data.toList → ParseE o w e w' → Below w.heap.size w w' ∧ ∃ ao cap, e = .returned (.tuple #[.slice ao n cap, .int .i64 at', .int .i64 er]) ∧ RdR w' ao l) := by
      cases ho : parseL s.data.toList with
      | inl k =>
        refine ⟨0, [], k, 4, rfl, by omega, (fun r hr => by cases hr), ?_⟩
        intro o w e w' e1 h
        subst e1
        exact ⟨h.1, none, 0, h.2, rdR_nil _ _⟩
      | inr recs =>
        have hlen := foldL_len 0 (rowsR [] 0 (raw s.data.toList)) 0 [] false recs (fun r hr => by cases hr) ho
        have hall := rowsR_all 20000 (raw s.data.toList) [] 0 (fun x hx => by cases hx) (by have := raw_sum _ s.data.toList (Nat.le_refl _); rw [kt.size_len] at this; omega)
        have hlen0 := raw_len _ s.data.toList (Nat.le_refl _)
        rw [kt.size_len] at hlen0
        have h1 := hall.1
        simp only [List.length_nil] at h1 hlen
        refine ⟨recs.length, recs, 0, 0, rfl, by omega, (fun r hr => by have := hlen.2 r hr; omega), ?_⟩
        intro o w e w' e1 h
        subst e1
        obtain ⟨h1, ao, n, cap, l, rfl, hr, hl⟩ := h
        obtain ⟨k1, k2⟩ := rdR_of hr
        rw [hl] at k2
        have : n = recs.length := by have h9 := congrArg List.length hl; rw [List.length_map] at h9; rw [k1, h9]
        subst this
        exact ⟨h1, ao, cap, rfl, k2⟩
    obtain ⟨n, l, at', er, hn, hnb, hpl, hE⟩ := hP
    have HP : Hid (∀ W, Calls Tryd.prog 5 #[.string s] W fun e w' => Below W.heap.size W w' ∧ ∃ ao cap, e = .returned (.tuple #[.slice ao n cap, .int .i64 at', .int .i64 er]) ∧ RdR w' ao l) :=
      fun W => (parse_any s W (by omega)).mono fun e w' h => hE.out _ _ _ _ rfl h
    have HR : Hid (∀ W, Calls Tryd.prog 6 #[.string s] W fun e w' => Below W.heap.size W w' ∧ ∃ ao cap, e = .returned (.tuple #[.slice ao n cap, .int .i64 at', .int .i64 er]) ∧ RdR w' ao l) :=
      fun W => (rparse_any s W (by omega)).mono fun e w' h => hE.out _ _ _ _ rfl h
    have q1 : (at' == at') = true := by rw [beq_iff_eq]
    have q2 : (er == er) = true := by rw [beq_iff_eq]
    clear hE
    go_enter Tryd.func3, Tryd.ntmps3
    go_wp2_with fail
    refine CA.out.mono ?_
    rintro e w1 ⟨rfl, hB1⟩
    have HB1 := Lib.hid hB1
    clear hB1
    go_wp2_with fail
    refine (HP.out _).mono ?_
    rintro e w2 ⟨hB2, ao, ca, rfl, hA⟩
    have HB2 := Lib.hid (HB1.out.trans (hB2.mono HB1.out.size))
    have HA := Lib.hid hA
    clear hB2 hA
    go_wp2_with fail
    refine (HR.out _).mono ?_
    rintro e w3 ⟨hB3, bo, cb, rfl, hBr⟩
    have HB3 := Lib.hid (HB2.out.trans (hB3.mono HB2.out.size))
    have HA3 := Lib.hid (rdR_below HA.out hB3)
    have HBr := Lib.hid hBr
    clear hB3 hBr
    go_wp2_with fail
    refine (same_eq ao bo n ca cb l w3 hn HA3 HBr hnb hpl).mono ?_
    rintro e w4 ⟨rfl, hB4⟩
    have HB4 := Lib.hid (HB3.out.trans (hB4.mono HB3.out.size))
    clear hB4
    go_wp2_with fail
    go_ret
    exact ⟨rfl, HB4.out⟩
end ldw
end Go.Proofs.YtifplgnabkkbjaaDoor
