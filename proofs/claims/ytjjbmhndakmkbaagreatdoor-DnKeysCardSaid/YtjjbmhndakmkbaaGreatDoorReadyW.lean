/- The walks of the program's Ready, Phone, Same. -/
import Derived.Test.YtjjbmhndakmkbaaGreatDoorPrepW
namespace Go.Proofs.YtjjbmhndakmkbaaGreatDoor
open Go.RowKit
namespace prw
open run prp
set_option linter.unusedVariables false
set_option linter.unusedSimpArgs false
theorem infoStr : (Tryz.prog.info? 9).map (fun i => (i.zero, i.size, i.bytes)) = some (some (.string ByteArray.empty), 1, 16) := by kernel_rfl
def scells (l : List ByteArray) : List Value := l.map Value.string
theorem scells_length (l : List ByteArray) : (scells l).length = l.length := by simp [scells]
/-- a row of texts that the call owns -/
def OwnT (w : World) (B : Nat) (v : Value) (l : List ByteArray) : Prop := w.ownsRow B 9 1 v (scells l).length (scells l)
theorem ownT_app {w : World} {B : Nat} {v : Value} {l : List ByteArray} (x : ByteArray) (hown : OwnT w B v l) (hl : l.length ≤ 100000000) (hbase : B ≤ w.heap.size) :
    ∃ v' w1, (Builtin.append_ #[28, 28] 28 #[v, .slice (some ⟨w.heap.size, 0, none⟩) 1 1]).run Tryz.prog (w.alloc (.cells #[.string x] 9)) = .ok v' w1 ∧ OwnT w1 B v' (l ++ [x]) ∧ Below B w w1 := by
  obtain ⟨v', w1, h1, h2, _, h3⟩ := kt.app1 (P := Tryz.prog) (t := 28) (ty := 28) Tryz.underlying28 infoStr rfl (.string x) rfl hown (by rw [scells_length]; unfold maxLen; omega) (by rw [scells_length]; omega) hbase
  refine ⟨v', w1, h1, ?_, h3⟩
  unfold OwnT
  have e : scells (l ++ [x]) = scells l ++ [.string x] := by simp [scells]
  rw [e]
  exact h2
theorem ownT_cells {w : World} {B : Nat} {v : Value} {l : List ByteArray} (h : OwnT w B v l) : ∃ (ao : Option Addr) (cap : Nat), v = .slice ao l.length cap ∧ l.length ≤ cap ∧ (l ≠ [] → ∃ g, ao = some ⟨g, 0, none⟩ ∧ g < w.heap.size ∧ ∀ (j : Nat) x, l[j]? = some x → w.cell? ⟨g, 0 + j, none⟩ = some (.string x)) := by
  obtain ⟨ao, cap, hv, _, hc⟩ := kt.row_slice h
  rw [scells_length] at hv hc
  subst hv
  refine ⟨ao, cap, rfl, hc, fun hne => ?_⟩
  have h' : w.ownsRow B 9 1 (.slice ao l.length cap) l.length (scells l) := by
    have := h
    unfold OwnT at this
    rw [scells_length] at this
    exact this
  obtain ⟨g, rfl, hcc, _⟩ := kt.row_some h' (List.length_pos_iff.2 hne)
  have hcell : ∀ (j : Nat) x, l[j]? = some x → w.cell? ⟨g, 0 + j, none⟩ = some (.string x) := by
    intro j x hj
    rw [Nat.zero_add]
    exact hcc j _ (by simp [scells, hj])
  refine ⟨g, rfl, ?_, hcell⟩
  obtain ⟨x, t, rfl⟩ := List.exists_cons_of_ne_nil hne
  exact World.block_lt_of_cell? w ⟨g, 0 + 0, none⟩ (hcell 0 x rfl)
theorem split_pieces (t : ByteArray) : (Lib.splitB ⟨#[32]⟩ 0 (Lib.countB t ⟨#[32]⟩) t).map (·.data.toList) = pieces 32 t.data.toList ∧ (Lib.splitB ⟨#[32]⟩ 0 (Lib.countB t ⟨#[32]⟩) t).length = Lib.countB t ⟨#[32]⟩ + 1 ∧ Lib.countB t ⟨#[32]⟩ ≤ t.size := by
  refine ⟨?_, Lib.splitB_all _ (by decide) 0 _ t rfl, Lib.countB_le _ (by decide) _ t (Nat.le_refl _)⟩
  rw [Lib.splitB_data]
  show Lib.splitK [32] 0 (Lib.countB t ⟨#[32]⟩) t.data.toList = _
  have : Lib.countB t ⟨#[32]⟩ = t.data.toList.count 32 := by
    show Lib.count t.data.toList [32] = _
    exact Lib.count_one 32 _
  rw [this]
  exact splitK_pieces 32 _ _ rfl
def neE (x : ByteArray) : Bool := decide (x.data.toList ≠ [])
theorem words_eq (ps : List ByteArray) : (ps.filter neE).map (·.data.toList) = (ps.map (·.data.toList)).filter (· ≠ []) := by
  rw [List.filter_map]; rfl
theorem wf_keep {m : List ByteArray} {i : Nat} (hi : i < m.length) (h : neE m[i] = true) : (m.take (i + 1)).filter neE = (m.take i).filter neE ++ [m[i]] := by
  rw [List.take_succ_eq_append_getElem hi, List.filter_append]; simp [h]
theorem wf_drop {m : List ByteArray} {i : Nat} (hi : i < m.length) (h : neE m[i] = false) : (m.take (i + 1)).filter neE = (m.take i).filter neE := by
  rw [List.take_succ_eq_append_getElem hi, List.filter_append]; simp [h]
theorem wf_len (m : List ByteArray) (i : Nat) : ((m.take i).filter neE).length ≤ i := by
  refine Nat.le_trans (List.length_filter_le _ _) ?_
  rw [List.length_take]; omega
theorem neE_false {x : ByteArray} (h : neE x = false) : x = ⟨#[]⟩ := by
  apply kt.str_eq
  unfold neE at h
  simpa using h
theorem pairV_some (t : List UInt8) : pairV (some t) = .tuple #[.string ⟨t.toArray⟩, .int .i64 0] := rfl
set_option maxRecDepth 20000 in
set_option maxHeartbeats 4000000 in
theorem ready_any (s : ByteArray) (fold : Bool) (w : World) (hs : s.size ≤ 1000000) (hE : Hid (Env w)) : Calls Tryz.prog 33 #[.string s, .bool fold] w fun e w' => e = .returned (pairV (readyO s.data.toList fold)) ∧ Below w.heap.size w w' := by
  have CR := map_any s fold w hs
  have HM := Lib.hid (readyO_of_map s.data.toList fold)
  have HL := @readyO_len s.data.toList
  cases hrs : mapO s.data.toList fold with
  | none =>
    rw [hrs] at CR HM
    have CH := Lib.hid CR
    clear hrs CR HL
    go_enter Tryz.func33, Tryz.ntmps33
    go_wp2_with fail
    refine CH.out.mono ?_
    rintro e w1 ⟨rfl, hB1⟩
    unfold pairV
    go_wp2_with fail
    go_ret2
    refine ⟨?_, hB1⟩
    rw [HM.out]; rfl
  | some t =>
    rw [hrs] at CR HM
    have htl := mapO_len hrs
    rw [kt.size_len] at htl
    have hjl := HL HM.out
    obtain ⟨ta, hta⟩ : ∃ ta : ByteArray, ta = ⟨t.toArray⟩ := ⟨_, rfl⟩
    have htd : ta.data.toList = t := by rw [hta]
    rw [pairV_some, ← hta] at CR
    have CH := Lib.hid CR
    obtain ⟨hp1, hp2, hp3⟩ := split_pieces ta
    rw [htd] at hp1
    have hts : ta.size ≤ 1000000 := by rw [← kt.size_len, htd]; omega
    have CSP : ∀ (W : World) (m : Int), W.cell? ⟨0, 0, none⟩ = some (.int .i64 m) → _ := fun W m hm => Tryz.strings_Split ta ⟨#[32]⟩ m W (by omega) hm (by decide)
    generalize hps : Lib.splitB ⟨#[32]⟩ 0 (Lib.countB ta ⟨#[32]⟩) ta = ps at hp1 hp2 CSP
    generalize hcn : Lib.countB ta ⟨#[32]⟩ = cn at hp2 hp3 CSP
    rw [← hp2] at CSP
    have hpl : ps.length ≤ 1000001 := by omega
    have HSP := Lib.hid CSP
    have hW := words_eq ps
    rw [hp1] at hW
    simp only [Option.map_some] at HM hjl
    rw [← hW] at HM hjl
    have HJL := Lib.hid hjl
    clear hrs CR HL hta htd htl hjl hp1 hp2 hp3 hps hcn CSP hW hts
    go_enter Tryz.func33, Tryz.ntmps33
    go_wp2_with fail
    refine CH.out.mono ?_
    rintro e w1 ⟨rfl, hB1⟩
    obtain ⟨mx, hmx⟩ := env_below hE.out hB1
    have HSP1 := Lib.hid (HSP.out w1 mx hmx)
    clear hmx
    have hsz1 := hB1.size
    go_wp2_with fail
    refine HSP1.out.mono ?_
    rintro e w2 ⟨rfl, hw2⟩
    have hB2 : Below w1.heap.size w1 w2 := by rw [hw2]; exact (Below.refl _ _).alloc (Nat.le_refl _) _
    have hsz2 : w1.heap.size < w2.heap.size := by rw [hw2]; simp
    have HC2 : Hid (∀ (j : Nat) (hj : j < ps.length), w2.cell? ⟨w1.heap.size, j, none⟩ = some (.string ps[j])) := by
      intro j hj
      rw [hw2, World.cell?_alloc_new]
      simp [hj]
    clear hw2 HSP HSP1 CH
    go_wp2_with fail
    go_loopw [8, 10, 23] (fun wv pv iv wr => ∃ (i : Nat), i ≤ ps.length ∧ iv = .int .i64 (i : Int) ∧ Hid (OwnT wr w2.heap.size wv ((ps.take i).filter neE)) ∧ Below w2.heap.size w2 wr) (fun _ _ iv _ => ps.length - (intOf iv).toNat)
    case atStart => exact ⟨0, Nat.zero_le _, rfl, World.ownsRow_nil _ _ _ _, Below.refl _ _⟩
    case round =>
      obtain ⟨i, hi, rfl, hO, hB⟩ := hrel
      have hsz := hB.size
      by_cases hlt : i < ps.length
      · have hlt' : (i : Int) < (ps.length : Int) := by omega
        have hc := (hB.cell (p := ⟨w1.heap.size, i, none⟩) hsz2).trans (HC2.out i hlt)
        have q1 := wf_keep hlt
        have q2 := wf_drop hlt
        have q3 := wf_len ps i
        generalize ps[i] = p at hc q1 q2
        by_cases hp : neE p = true
        · obtain ⟨v', w3, hap, hO1, hB3⟩ := ownT_app p hO.out (by omega) hsz
          rw [← q1 hp] at hO1
          have HO1 := Lib.hid hO1
          have g1 : (p.toList == []) = false := by
            rw [beq_eq_false_iff_ne, Lib.toList_data]
            unfold neE at hp
            simpa using hp
          have g2 : ¬ p.toList = [] := by simpa using g1
          clear q1 q2 q3 hp hO1
          go_wp2_with (at_builtin; refine Lib.wpList_append_run _ rfl _ _ _ _ rfl _ _ rfl rfl _ _ hap ?_)
          go_roundw
          case rel => exact ⟨i + 1, by omega, by go_num, HO1, hB.trans hB3⟩
          case measure => simp [intOf]; omega
        · have hp' : neE p = false := by simpa using hp
          have hO1 := hO.out
          rw [← q2 hp'] at hO1
          have HO1 := Lib.hid hO1
          obtain rfl := neE_false hp'
          clear q1 q2 q3 hp hp' hO1
          go_wp2_with fail
          go_roundw
          case rel => exact ⟨i + 1, by omega, by go_num, HO1, hB⟩
          case measure => simp [intOf]; omega
      · obtain rfl : i = ps.length := by omega
        have hO1 := hO.out
        rw [List.take_length] at hO1
        have q3 := wf_len ps ps.length
        rw [List.take_length] at q3
        obtain ⟨ao, cap, rfl, hcap, hcs⟩ := ownT_cells hO1
        generalize ps.filter neE = ws at hO1 q3 hcap hcs HM HJL
        by_cases hne : ws = []
        · subst hne
          have CJ := Lib.hid (Tryz.strings_Join_none ao cap ⟨#[32]⟩ wr)
          clear hO1 q3 hcap hcs
          go_wp2_with fail
          refine CJ.out.mono ?_
          rintro e w3 ⟨rfl, rfl⟩
          go_wp2_with fail
          go_ret2
          refine ⟨?_, hB1.trans ((hB2.trans (hB.mono (by omega))).mono hsz1)⟩
          rw [HM.out]; rfl
        · obtain ⟨g, rfl, hg, hcc⟩ := hcs hne
          have CJ := Lib.hid (Tryz.strings_Join g 0 cap ws ⟨#[32]⟩ wr hcc hg (by omega) hcap (by have := HJL.out; show (Lib.join _ [32]).length ≤ _; rw [kt.size_len] at this; omega))
          clear hO1 q3 hcap hcs hne hcc
          go_wp2_with fail
          refine CJ.out.mono ?_
          rintro e w3 ⟨rfl, hB3⟩
          go_wp2_with fail
          go_ret2
          refine ⟨?_, hB1.trans ((hB2.trans ((hB.trans (hB3.mono hsz)).mono (by omega))).mono hsz1)⟩
          rw [HM.out]; rfl
end prw
end Go.Proofs.YtjjbmhndakmkbaaGreatDoor
