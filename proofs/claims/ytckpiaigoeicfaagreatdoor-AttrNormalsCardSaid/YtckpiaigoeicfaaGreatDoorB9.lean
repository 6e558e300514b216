/- One text out of several: PartP, PartW, StanW, AwP, AwakeW, TyF, StrsOf, NamesW, CmpT, CmpB, OrdQ, EndsP. -/
import Derived.Test.YtckpiaigoeicfaaGreatDoorB8
import Derived.Lib.IndexLaws
import Derived.Lib.LaidU8
import Derived.Deep.Strs
import Derived.SliceStrings
import Derived.Deep.MidRow
import Derived.WalkKit
import Derived.Lib.Walk
/-! PartP -/
namespace Go.Proofs.YtckpiaigoeicfaaGreatDoor
open Go.RowKit
namespace atw
open atp tupw prw
set_option linter.unusedVariables false
set_option linter.unusedSimpArgs false
def gotP (syn : Int) (x : ByteArray) : List UInt8 := (pieceO syn x.data.toList).getD []
def allP (syn : Int) (L : List ByteArray) : Bool := L.all fun x => (pieceO syn x.data.toList).isSome
def partE (syn : Int) (value first last : ByteArray) (mids : List ByteArray) : Bool × Int :=
  if ¬ (syn = 1 ∨ syn = 2 ∨ syn = 7) then (false, 20) else if 8 < mids.length then (false, 20) else if (first :: (mids ++ [last])).any neB = false then (false, 20)
  else if (normL syn value.data.toList).2 ≠ 0 then (false, (normL syn value.data.toList).2)
  else if allP syn (first :: (mids ++ [last])) = false then (false, 19)
  else (partL (normL syn value.data.toList).1 (gotP syn first) (gotP syn last) (mids.map (gotP syn)), 0)
theorem gotP_len (syn : Int) (x : ByteArray) : (gotP syn x).length ≤ x.size := by
  unfold gotP
  cases h : pieceO syn x.data.toList with
  | none => simp
  | some o =>
    have := piece_len h
    rw [kt.size_len] at this
    exact this
theorem norm_len {syn : Int} {a : List UInt8} (h : syn = 1 ∨ syn = 2 ∨ syn = 7) : (normL syn a).1.length ≤ 1000 := by
  by_cases h7 : syn = 7
  · subst h7
    by_cases h1 : 1000 < a.length
    · rw [normL_long (by omega) h1]; simp
    by_cases h2 : a = []
    · rw [normL_nil (by omega) h2]; simp
    rw [normL_form (by omega) (by omega) h2]
    have he : formO 7 a = ne0 (prp.phoneO a) := rfl
    rw [he]
    cases hp : prp.phoneO a with
    | none => simp [ne0]
    | some o =>
      have := piece_len (syn := 7) (l := a) (o := o) hp
      unfold ne0
      by_cases ho : o = []
      · simp [ho]
      · simp only [ho, if_false]; omega
  · exact norm_text_len (by omega)
theorem below_dr {B : Nat} {a b : World} (h : Below B a b) (n : Nat) : Below B a (b.drewN n) := ⟨h.os, h.tape, h.output, h.size, h.block⟩
/-- a row of texts, its block by name -/
theorem own_open {w : World} {B : Nat} {v : Value} {l : List ByteArray} (h : OwnT w B v l) (hne : l ≠ []) : ∃ g cap, v = .slice (some ⟨g, 0, none⟩) l.length cap ∧ B ≤ g ∧ l.length ≤ cap ∧ OwnT w B (.slice (some ⟨g, 0, none⟩) l.length cap) l := by
  obtain ⟨ao, cap, rfl, hc, h1⟩ := ownT_cells h
  obtain ⟨g, rfl, hg, _⟩ := h1 hne
  refine ⟨g, cap, rfl, ?_, hc, h⟩
  have h' : w.ownsRow B 9 1 (.slice (some ⟨g, 0, none⟩) l.length cap) l.length (scells l) := by
    have := h
    unfold OwnT at this
    rw [scells_length] at this
    exact this
  obtain ⟨g', e, _, hB⟩ := kt.row_some h' (List.length_pos_iff.2 hne)
  injection e with e
  injection e with e
  omega
def OwnG (w : World) (B g k cap : Nat) (l : List ByteArray) : Prop := w.ownsRow B 9 1 (.slice (some ⟨g, 0, none⟩) k cap) k (scells l) ∧ l.length = k
theorem ownG_of {w : World} {B g cap : Nat} {l : List ByteArray} (h : OwnT w B (.slice (some ⟨g, 0, none⟩) l.length cap) l) : OwnG w B g l.length cap l := by
  unfold OwnT at h
  rw [scells_length] at h
  exact ⟨h, rfl⟩
theorem ownG_cell {w : World} {B g k cap : Nat} {l : List ByteArray} (h : OwnG w B g k cap l) (j : Nat) (hj : j < l.length) : w.cell? ⟨g, j, none⟩ = some (.string l[j]) := by
  obtain ⟨g', e, hc, _⟩ := kt.row_some h.1 (by rw [← h.2]; omega)
  injection e with e
  injection e with e
  subst e
  exact hc j _ (by simp [scells, hj])
theorem ownG_at {w : World} {B g k cap : Nat} {l : List ByteArray} (h : OwnG w B g k cap l) (j : Nat) {x : ByteArray} (hx : l[j]? = some x) : w.cell? ⟨g, j, none⟩ = some (.string x) := by
  obtain ⟨hj, rfl⟩ := List.getElem?_eq_some_iff.1 hx
  exact ownG_cell h j hj
theorem ownG_frozen {w : World} {B g k cap : Nat} {l : List ByteArray} (h : OwnG w B g k cap l) (j : Nat) : w.frozen? ⟨g, j, none⟩ = false := h.1.frozenAt j
theorem ownG_set {w : World} {B g k cap : Nat} {l : List ByteArray} (h : OwnG w B g k cap l) (j : Nat) (x : ByteArray) : OwnG (w.setCell ⟨g, j, none⟩ (.string x)) B g k cap (l.set j x) := by
  refine ⟨?_, by rw [List.length_set]; exact h.2⟩
  have := (h.1.stored j (.string x)).1
  have e : scells (l.set j x) = (scells l).set j (.string x) := by unfold scells; rw [List.map_set]
  rw [e]
  exact this
theorem ownG_below {w w' : World} {B g k cap : Nat} {l : List ByteArray} (h : OwnG w B g k cap l) (hb : Below w.heap.size w w') : OwnG w' B g k cap l := by
  refine ⟨?_, h.2⟩
  have := kt.row_below (w := w) (w' := w') h.1 hb
  exact this
/-- the row while i pieces are sought out -/
def mix (syn : Int) (L : List ByteArray) (i : Nat) : List ByteArray := (L.take i).map (fun x => bs (gotP syn x)) ++ L.drop i
theorem mix_zero (syn : Int) (L : List ByteArray) : mix syn L 0 = L := rfl
theorem mix_len (syn : Int) (L : List ByteArray) (i : Nat) : (mix syn L i).length = L.length := by
  unfold mix
  rw [List.length_append, List.length_map, List.length_take, List.length_drop]
  omega
theorem mix_at {syn : Int} {L : List ByteArray} {i : Nat} (h : i < L.length) (h' : i < (mix syn L i).length) : (mix syn L i)[i] = L[i] := by
  apply Option.some.inj
  rw [← List.getElem?_eq_getElem h', ← List.getElem?_eq_getElem h]
  unfold mix
  rw [List.getElem?_append_right (by rw [List.length_map, List.length_take]; omega), List.length_map, List.length_take, List.getElem?_drop]
  congr 1
  omega
theorem mix_step {syn : Int} {L : List ByteArray} {i : Nat} (h : i < L.length) : (mix syn L i).set i (bs (gotP syn L[i])) = mix syn L (i + 1) := by
  unfold mix
  rw [List.set_append_right _ _ (by rw [List.length_map, List.length_take]; omega), List.take_succ_eq_append_getElem h, List.map_append, List.append_assoc]
  congr 1
  rw [List.length_map, List.length_take, show i - min i L.length = 0 by omega, List.drop_eq_getElem_cons h]
  rfl
theorem mix_all (syn : Int) (L : List ByteArray) : mix syn L L.length = L.map (fun x => bs (gotP syn x)) := by
  unfold mix
  rw [List.take_length, List.drop_length, List.append_nil]
theorem allP_step {syn : Int} {L : List ByteArray} {i : Nat} (h : i < L.length) : allP syn (L.take (i + 1)) = (allP syn (L.take i) && (pieceO syn L[i].data.toList).isSome) := by
  unfold allP
  rw [List.take_succ_eq_append_getElem h, List.all_append]
  simp
theorem allP_no {syn : Int} {L : List ByteArray} {i : Nat} (h : i < L.length) (hn : pieceO syn L[i].data.toList = none) : allP syn L = false := by
  unfold allP
  rw [List.all_eq_false]
  exact ⟨L[i], List.getElem_mem _, by rw [hn]; simp⟩
theorem allP_all {syn : Int} {L : List ByteArray} (h : allP syn (L.take L.length) = true) : allP syn L = true := by rwa [List.take_length] at h
/-- what is left to be found -/
theorem cut_yes {s p : List UInt8} {r : List (List UInt8)} : greedy (p :: r) s = ((Lib.cut s p).2.2 && greedy r (Lib.cut s p).2.1) := by
  show (if Lib.index s p < 0 then false else greedy r (s.drop ((Lib.index s p).toNat + p.length))) = _
  unfold Lib.cut
  by_cases h : Lib.index s p < 0
  · rw [if_pos h, if_neg (by omega)]; rfl
  · rw [if_neg h, if_pos (by omega)]; rfl
theorem cut_len (s p : List UInt8) : (Lib.cut s p).2.1.length ≤ s.length := by
  unfold Lib.cut
  split
  · rw [List.length_drop]; omega
  · simp
theorem partL_no {s a z : List UInt8} {m : List (List UInt8)} (h : Lib.hasPrefix s a = false) : partL s a z m = false := by
  unfold partL
  unfold Lib.hasPrefix at h
  rw [h]; rfl
theorem partL_cut {s a z : List UInt8} {m : List (List UInt8)} (h : Lib.hasPrefix s a = true) : partL s a z m = (Lib.hasSuffix (Lib.trimPrefix s a) z && greedy m (Lib.trimSuffix (Lib.trimPrefix s a) z)) := by
  have e : Lib.trimPrefix s a = s.drop a.length := by unfold Lib.trimPrefix; rw [if_pos h]
  rw [e]
  unfold partL
  unfold Lib.hasPrefix at h
  rw [h, Bool.true_and]
  unfold Lib.trimSuffix Lib.hasSuffix
  cases hz : z.isSuffixOf (s.drop a.length) with
  | true => simp
  | false => simp
theorem trim_len (s a z : List UInt8) : (Lib.trimSuffix (Lib.trimPrefix s a) z).length ≤ s.length := by
  have h1 : (Lib.trimPrefix s a).length ≤ s.length := by
    unfold Lib.trimPrefix; split
    · rw [List.length_drop]; omega
    · omega
  refine Nat.le_trans ?_ h1
  unfold Lib.trimSuffix; split
  · rw [List.length_take]; omega
  · omega
end atw
end Go.Proofs.YtckpiaigoeicfaaGreatDoor
/-! PartW -/
namespace Go.Proofs.YtckpiaigoeicfaaGreatDoor
open Go.RowKit
namespace atw
open atp tupw prw
set_option linter.unusedVariables false
set_option linter.unusedSimpArgs false
theorem fit_cases (syn : Int) : (syn = 1 ∨ syn = 2 ∨ syn = 7) ∨ (¬ (syn = 1 ∨ syn = 2 ∨ syn = 7) ∧ (syn == 1) = false ∧ (syn == 2) = false ∧ (syn == 7) = false) := by
  by_cases h : syn = 1 ∨ syn = 2 ∨ syn = 7
  · exact Or.inl h
  · exact Or.inr ⟨h, by rw [beq_eq_false_iff_ne]; omega, by rw [beq_eq_false_iff_ne]; omega, by rw [beq_eq_false_iff_ne]; omega⟩
set_option maxRecDepth 20000 in
set_option maxHeartbeats 8000000 in
theorem part_any (nm : ByteArray) (syn : Int) (sg : Bool) (value first last : ByteArray) (mids : List ByteArray) (ao : Option Addr) (cap : Nat) (w : World)
    (hS : Hid (Strs w ao mids)) (hn : Hid (ao = none → cap = 0)) (hN : mids.length ≤ 20) (hv : value.size ≤ 140737488351232) (hz : Hid (∀ x ∈ first :: (mids ++ [last]), x.size ≤ 1100000)) (hE : Hid (prw.Env w)) (hT : Hid (dnw.Tabs w)) :
    Calls Tryz.prog 14 #[.agg #[.string nm, .int .i64 syn, .bool sg], .string value, .string first, .slice ao mids.length cap, .string last] w fun e w' => e = .returned (.tuple #[.bool (partE syn value first last mids).1, .int .i64 (partE syn value first last mids).2]) ∧ Below w.heap.size w w' := by
  obtain ⟨W0, hW0⟩ : ∃ W, w.alloc (.cells #[.string nm, .int .i64 syn, .bool sg] 23) = W := ⟨_, rfl⟩
  have hB0 : Below w.heap.size w W0 := by rw [← hW0]; exact (Below.refl _ _).alloc (Nat.le_refl _) _
  have hw0 : w.heap.size ≤ W0.heap.size := hB0.size
  have HTB0 : Hid (TB W0 w.heap.size nm syn sg) := by rw [← hW0]; exact tb_new w nm syn sg
  obtain ⟨k0, k1, k2⟩ := tb_cells HTB0.out
  obtain ⟨WA, hWA⟩ : ∃ W, W0.alloc (.cells #[.string first] 9) = W := ⟨_, rfl⟩
  have bA : Below W0.heap.size W0 WA := by rw [← hWA]; exact (Below.refl _ _).alloc (Nat.le_refl _) _
  have cA : WA.cell? ⟨W0.heap.size, 0, none⟩ = some (.string first) := by rw [← hWA, World.cell?_alloc_new]; rfl
  obtain ⟨WB, hWB⟩ : ∃ W, WA.alloc (.cells #[.string last] 9) = W := ⟨_, rfl⟩
  have bB : Below WA.heap.size WA WB := by rw [← hWB]; exact (Below.refl _ _).alloc (Nat.le_refl _) _
  have cB : WB.cell? ⟨WA.heap.size, 0, none⟩ = some (.string last) := by rw [← hWB, World.cell?_alloc_new]; rfl
  obtain ⟨WC, hWC⟩ : ∃ W, WB.alloc (.cells #[.slice (some ⟨W0.heap.size, 0, none⟩) 1 1, .slice ao mids.length cap, .slice (some ⟨WA.heap.size, 0, none⟩) 1 1] 31) = W := ⟨_, rfl⟩
  have bC : Below WB.heap.size WB WC := by rw [← hWC]; exact (Below.refl _ _).alloc (Nat.le_refl _) _
  have c0 : WC.cell? ⟨WB.heap.size, 0, none⟩ = some (.slice (some ⟨W0.heap.size, 0, none⟩) 1 1) := by rw [← hWC, World.cell?_alloc_new]; rfl
  have c1 : WC.cell? ⟨WB.heap.size, 1, none⟩ = some (.slice ao mids.length cap) := by rw [← hWC, World.cell?_alloc_new]; rfl
  have c2 : WC.cell? ⟨WB.heap.size, 2, none⟩ = some (.slice (some ⟨WA.heap.size, 0, none⟩) 1 1) := by rw [← hWC, World.cell?_alloc_new]; rfl
  have sA := bA.size
  have sB := bB.size
  have sC := bC.size
  have bAC : Below WA.heap.size WA WC := bB.trans (bC.mono sB)
  have b0C : Below W0.heap.size W0 WC := bA.trans (bAC.mono sA)
  have bwC : Below w.heap.size w WC := hB0.trans (b0C.mono hw0)
  have cA' : WC.cell? ⟨W0.heap.size, 0, none⟩ = some (.string first) := (bAC.cell (p := ⟨W0.heap.size, 0, none⟩) (World.block_lt_of_cell? WA _ cA)).trans cA
  have cB' : WC.cell? ⟨WA.heap.size, 0, none⟩ = some (.string last) := (bC.cell (p := ⟨WA.heap.size, 0, none⟩) (World.block_lt_of_cell? WB _ cB)).trans cB
  obtain ⟨AL, hAL⟩ : ∃ L, first :: (mids ++ [last]) = L := ⟨_, rfl⟩
  have hfl : [[first], mids, [last]].flatten = AL := by rw [← hAL]; simp
  have hALn : AL.length = mids.length + 2 := by rw [← hAL]; simp
  have hR : Rws WC WB.heap.size [[first], mids, [last]] := by
    intro i hi
    match i, hi with
    | 0, _ => exact ⟨_, _, c0, (fun i hi => by obtain rfl : i = 0 := by { simp at hi; omega }; exact ⟨_, _, rfl, cA'⟩), fun e => by cases e⟩
    | 1, _ => exact ⟨_, _, c1, strs_below hS.out bwC, hn.out⟩
    | 2, _ => exact ⟨_, _, c2, (fun i hi => by obtain rfl : i = 0 := by { simp at hi; omega }; exact ⟨_, _, rfl, cB'⟩), fun e => by cases e⟩
  have HCC0 := concat_any WB.heap.size WC.heap.size 3 [[first], mids, [last]] WC (Lib.hid hR) (by simp) (by rw [hfl, hALn]; omega) (by rw [hfl, hALn]; omega) (Nat.le_refl _)
  rw [hfl] at HCC0
  have HCC : Hid (Calls Tryz.prog 31 #[.slice (some ⟨WB.heap.size, 0, none⟩) 3 3] WC fun e w' => ∃ v, e = .returned v ∧ Hid (OwnT w' WC.heap.size v AL) ∧ Below WC.heap.size WC w') := HCC0
  have HBWC := Lib.hid bwC
  have HB0C := Lib.hid b0C
  have hwc : w.heap.size ≤ WC.heap.size := bwC.size
  have hw0c : W0.heap.size ≤ WC.heap.size := b0C.size
  have HALn := Lib.hid hALn
  have HALe := Lib.hid hAL
  have HSZ : Hid (∀ x ∈ AL, x.size ≤ 1100000) := by rw [← hAL]; exact hz.out
  have HNRM : Hid (∀ w, prw.Env w → dnw.Tabs w → Calls Tryz.prog 19 #[.agg #[.string nm, .int .i64 syn, .bool sg], .string value] w fun e w' => e = .returned (normV (normL syn value.data.toList)) ∧ Below w.heap.size w w') := fun w h1 h2 => normal_any nm syn sg value w hv (Lib.hid h1) (Lib.hid h2)
  have HPC : Hid (∀ x ∈ AL, ∀ w, prw.Env w → Calls Tryz.prog 33 #[.agg #[.string nm, .int .i64 syn, .bool sg], .string x] w fun e w' => e = .returned (prw.pairV (pieceO syn x.data.toList)) ∧ Below w.heap.size w w') := fun x hx w h => piece_any nm syn sg x w (HSZ.out x hx) (Lib.hid h)
  obtain ⟨N, hNe⟩ : ∃ N, mids.length = N := ⟨_, rfl⟩
  obtain ⟨K, hKe⟩ : ∃ K, AL.length = K := ⟨_, rfl⟩
  have hKN : K = N + 2 := by rw [← hKe, ← hNe]; exact hALn
  have HANY : Hid (∀ (g cp : Nat) (w : World), Strs w (some ⟨g, 0, none⟩) AL → Calls Tryz.prog 32 #[.slice (some ⟨g, 0, none⟩) K cp, .func (.func 30) #[] #[]] w fun e w' => e = .returned (.bool (AL.any neB)) ∧ w = w') := by
    intro g cp w h
    rw [← hKe]
    exact contains_any (some ⟨g, 0, none⟩) cp AL w (Lib.hid h) (by omega)
  have HKe := Lib.hid hKe
  have HNe := Lib.hid hNe
  have HKN := Lib.hid hKN
  have hK1 : 1 ≤ K := by omega
  obtain ⟨M, hM⟩ : ∃ M, N + 1 = M := ⟨_, rfl⟩
  have HM := Lib.hid hM
  have hKM : (K : Int) - 1 = (M : Int) := by omega
  have hMK : M < K := by omega
  have hMN : (M : Int) - 1 = (N : Int) := by omega
  have hK0 : 0 < K := by omega
  have hKb : K ≤ 22 := by omega
  have HPE : Hid (partE syn value first last mids = if ¬ (syn = 1 ∨ syn = 2 ∨ syn = 7) then (false, 20) else if 8 < N then (false, 20) else if AL.any neB = false then (false, 20) else if (normL syn value.data.toList).2 ≠ 0 then (false, (normL syn value.data.toList).2) else if allP syn AL = false then (false, 19) else (partL (normL syn value.data.toList).1 (gotP syn first) (gotP syn last) (mids.map (gotP syn)), 0)) := by
    rw [← hNe, ← hAL]
    rfl
  rw [hNe] at hN hWC ⊢
  rw [HPE.out]
  have HTBC : Hid (TB WC w.heap.size nm syn sg) := tb_below HTB0.out HB0C.out
  have HEC := Lib.hid (prw.env_below hE.out HBWC.out)
  have HTC := Lib.hid (dnw.tabs_below hT.out HBWC.out)
  clear bA bB bC c0 c1 c2 cA cB cA' cB' bAC b0C bwC hR HCC0 hfl hALn hAL hKe hNe hB0 hE hT hKN hM sA sB sC hS hz HPE
  rcases fit_cases syn with hsy | ⟨hno, q1, q2, q7⟩
  · rw [if_neg (not_not_intro hsy)]
    by_cases h8 : 8 < N
    · rw [if_pos h8]
      have h8I : (8 : Int) < (N : Int) := by omega
      clear h8
      rcases hsy with rfl | rfl | rfl
      all_goals
        go_enter Tryz.func14, Tryz.ntmps14
        go_wp2_with fail
        refine (HCC.out).mono ?_
        rintro e w1 ⟨v1, rfl, hO1, hB1⟩
        have HB1 := Lib.hid (HBWC.out.trans (hB1.mono hwc))
        have HBC1 := Lib.hid hB1
        obtain ⟨g, cp, rfl, hgB, hcp, hO2⟩ := own_open hO1.out (by intro e; have := HALn.out; rw [e] at this; simp at this)
        have HG1 : Hid (OwnG w1 WC.heap.size g K cp AL) := by
          have := ownG_of hO2
          rw [HKe.out] at this
          exact this
        rw [HKe.out] at hcp
        rw [HKe.out]
        have HTB1 := Lib.hid (tb_below HTB0.out (HB0C.out.trans (hB1.mono hw0c)))
        obtain ⟨m0, m1, m2⟩ := tb_cells HTB1.out
        have hw1 : w.heap.size ≤ w1.heap.size := HB1.out.size
        clear hO1 hO2 hB1 hW0 hWA hWB hWC k0 k1 k2
        have HSTR : Hid (Strs w1 (some ⟨g, 0, none⟩) AL) := fun i hi => ⟨g, 0, rfl, by rw [Nat.zero_add]; exact ownG_cell HG1.out i hi⟩
        have HAN1 := Lib.hid (HANY.out g cp w1 HSTR.out)
        go_wp2_with fail
        go_ret2
        exact ⟨rfl, HB1.out⟩
    · rw [if_neg h8]
      have h8I : (N : Int) ≤ 8 := by omega
      have h8D : decide ((8 : Int) < (N : Int)) = false := by rw [decide_eq_false_iff_not]; omega
      by_cases hsome : AL.any neB = false
      · rw [if_pos hsome]
        have HSOME := Lib.hid hsome
        clear hsome h8
        rcases hsy with rfl | rfl | rfl
        all_goals
          go_enter Tryz.func14, Tryz.ntmps14
          go_wp2_with fail
          refine (HCC.out).mono ?_
          rintro e w1 ⟨v1, rfl, hO1, hB1⟩
          have HB1 := Lib.hid (HBWC.out.trans (hB1.mono hwc))
          have HBC1 := Lib.hid hB1
          obtain ⟨g, cp, rfl, hgB, hcp, hO2⟩ := own_open hO1.out (by intro e; have := HALn.out; rw [e] at this; simp at this)
          have HG1 : Hid (OwnG w1 WC.heap.size g K cp AL) := by
            have := ownG_of hO2
            rw [HKe.out] at this
            exact this
          rw [HKe.out] at hcp
          rw [HKe.out]
          have HTB1 := Lib.hid (tb_below HTB0.out (HB0C.out.trans (hB1.mono hw0c)))
          obtain ⟨m0, m1, m2⟩ := tb_cells HTB1.out
          have hw1 : w.heap.size ≤ w1.heap.size := HB1.out.size
          clear hO1 hO2 hB1 hW0 hWA hWB hWC k0 k1 k2
          have HSTR : Hid (Strs w1 (some ⟨g, 0, none⟩) AL) := fun i hi => ⟨g, 0, rfl, by rw [Nat.zero_add]; exact ownG_cell HG1.out i hi⟩
          have HAN1 := Lib.hid (HANY.out g cp w1 HSTR.out)
          rw [HSOME.out] at HAN1
          go_wp2_with fail
          refine (HAN1.out).mono ?_
          rintro e w2 ⟨rfl, rfl⟩
          go_wp2_with fail
          go_ret2
          exact ⟨rfl, HB1.out⟩
      · rw [if_neg hsome]
        have HSOME : Hid (AL.any neB = true) := by cases hq : AL.any neB with | true => rfl | false => exact absurd hq hsome
        clear hsome h8
        obtain ⟨nl, hnl⟩ : ∃ u, normL syn value.data.toList = u := ⟨_, rfl⟩
        have hnlen : nl.1.length ≤ 1000 := by rw [← hnl]; exact norm_len hsy
        rw [hnl] at HNRM ⊢
        clear hnl
        obtain ⟨u, er⟩ := nl
        have hul : u.length ≤ 1000 := hnlen
        have HNRM2 : Hid (∀ w, prw.Env w → dnw.Tabs w → Calls Tryz.prog 19 #[.agg #[.string nm, .int .i64 syn, .bool sg], .string value] w fun e w' => e = .returned (.tuple #[.string (bs u), .int .i64 er]) ∧ Below w.heap.size w w') := HNRM
        clear HNRM hnlen
        by_cases her : er ≠ 0
        · rw [if_pos her]
          have q : (er != 0) = true := by rw [bne_iff_ne]; exact her
          clear her
          rcases hsy with rfl | rfl | rfl
          all_goals
            go_enter Tryz.func14, Tryz.ntmps14
            go_wp2_with fail
            refine (HCC.out).mono ?_
            rintro e w1 ⟨v1, rfl, hO1, hB1⟩
            have HB1 := Lib.hid (HBWC.out.trans (hB1.mono hwc))
            have HBC1 := Lib.hid hB1
            obtain ⟨g, cp, rfl, hgB, hcp, hO2⟩ := own_open hO1.out (by intro e; have := HALn.out; rw [e] at this; simp at this)
            have HG1 : Hid (OwnG w1 WC.heap.size g K cp AL) := by
              have := ownG_of hO2
              rw [HKe.out] at this
              exact this
            rw [HKe.out] at hcp
            rw [HKe.out]
            have HTB1 := Lib.hid (tb_below HTB0.out (HB0C.out.trans (hB1.mono hw0c)))
            obtain ⟨m0, m1, m2⟩ := tb_cells HTB1.out
            have hw1 : w.heap.size ≤ w1.heap.size := HB1.out.size
            clear hO1 hO2 hB1 hW0 hWA hWB hWC k0 k1 k2
            have HSTR : Hid (Strs w1 (some ⟨g, 0, none⟩) AL) := fun i hi => ⟨g, 0, rfl, by rw [Nat.zero_add]; exact ownG_cell HG1.out i hi⟩
            have HAN1 := Lib.hid (HANY.out g cp w1 HSTR.out)
            rw [HSOME] at HAN1
            go_wp2_with fail
            refine (HAN1.out).mono ?_
            rintro e wz ⟨rfl, rfl⟩
            go_wp2_with fail
            refine (HNRM2.out _ (prw.env_below HEC.out HBC1.out) (dnw.tabs_below HTC.out HBC1.out)).mono ?_
            rintro e w2 ⟨rfl, hB2⟩
            have HBC2 := Lib.hid (HBC1.out.trans (hB2.mono HBC1.out.size))
            have HW12 := Lib.hid hB2
            clear hB2 m0 m1 m2
            go_wp2_with fail
            go_ret2
            exact ⟨rfl, HBWC.out.trans (HBC2.out.mono hwc)⟩
        · rw [if_neg her]
          obtain rfl : er = 0 := Classical.not_not.1 her
          clear her
          obtain ⟨R, hR⟩ : ∃ R, (if allP syn AL = false then (false, 19) else (partL u (gotP syn first) (gotP syn last) (mids.map (gotP syn)), 0) : Bool × Int) = R := ⟨_, rfl⟩
          have HNO : Hid (∀ i (h : i < AL.length), pieceO syn AL[i].data.toList = none → R = (false, 19)) := by
            intro i h hp
            rw [← hR, if_pos (allP_no h hp)]
          have HYES : Hid (allP syn AL = true → R = (partL u (gotP syn first) (gotP syn last) (mids.map (gotP syn)), 0)) := by
            intro h
            rw [← hR, if_neg (by rw [h]; simp)]
          have hRr : (if allP syn AL = false then (false, 19) else (partL u (gotP syn first) (gotP syn last) (mids.map (gotP syn)), 0) : Bool × Int) = R := hR
          simp only at hRr ⊢
          rw [hRr]
          clear hR hRr
          obtain ⟨sy, hsye⟩ : ∃ z : Int, syn = z := ⟨_, rfl⟩
          have HPS : Hid (∀ x ∈ AL, ∀ w, prw.Env w → Calls Tryz.prog 33 #[.agg #[.string nm, .int .i64 syn, .bool sg], .string x] w fun e w' => e = .returned (prw.pairV (pieceO sy x.data.toList)) ∧ Below w.heap.size w w') := by rw [← hsye]; exact HPC.out
          rw [hsye] at HNO HYES
          clear hsye HPC
          rcases hsy with rfl | rfl | rfl
          · skip
            go_enter Tryz.func14, Tryz.ntmps14
            go_wp2_with fail
            refine (HCC.out).mono ?_
            rintro e w1 ⟨v1, rfl, hO1, hB1⟩
            have HB1 := Lib.hid (HBWC.out.trans (hB1.mono hwc))
            have HBC1 := Lib.hid hB1
            obtain ⟨g, cp, rfl, hgB, hcp, hO2⟩ := own_open hO1.out (by intro e; have := HALn.out; rw [e] at this; simp at this)
            have HG1 : Hid (OwnG w1 WC.heap.size g K cp AL) := by
              have := ownG_of hO2
              rw [HKe.out] at this
              exact this
            rw [HKe.out] at hcp
            rw [HKe.out]
            have HTB1 := Lib.hid (tb_below HTB0.out (HB0C.out.trans (hB1.mono hw0c)))
            obtain ⟨m0, m1, m2⟩ := tb_cells HTB1.out
            have hw1 : w.heap.size ≤ w1.heap.size := HB1.out.size
            clear hO1 hO2 hB1 hW0 hWA hWB hWC k0 k1 k2
            have HSTR : Hid (Strs w1 (some ⟨g, 0, none⟩) AL) := fun i hi => ⟨g, 0, rfl, by rw [Nat.zero_add]; exact ownG_cell HG1.out i hi⟩
            have HAN1 := Lib.hid (HANY.out g cp w1 HSTR.out)
            rw [HSOME] at HAN1
            go_wp2_with fail
            refine (HAN1.out).mono ?_
            rintro e wz ⟨rfl, rfl⟩
            go_wp2_with fail
            refine (HNRM2.out _ (prw.env_below HEC.out HBC1.out) (dnw.tabs_below HTC.out HBC1.out)).mono ?_
            rintro e w2 ⟨rfl, hB2⟩
            have HBC2 := Lib.hid (HBC1.out.trans (hB2.mono HBC1.out.size))
            have HW12 := Lib.hid hB2
            clear hB2 m0 m1 m2
            go_wp2_with fail
            have HG2 := Lib.hid (ownG_below HG1.out HW12.out)
            go_loopw [17, 18, 19, 20, 68] (fun _ _ _ _ iv wr => ∃ i : Nat, i ≤ K ∧ iv = .int .i64 (i : Int) ∧ Hid (allP sy (AL.take i) = true) ∧ Hid (OwnG wr WC.heap.size g K cp (mix sy AL i)) ∧ Hid (Below WC.heap.size WC wr)) (fun _ _ _ _ iv _ => K - (intOf iv).toNat)
            case atStart => exact ⟨0, Nat.zero_le _, rfl, rfl, HG2, HBC2⟩
            case round =>
              obtain ⟨i, hi, rfl, hall, hO, hBr⟩ := hrel
              by_cases hlt : i < K
              · have hltI : (i : Int) < (K : Int) := by omega
                have hil : i < AL.length := by rw [HKe.out]; exact hlt
                have hsz := hBr.out.size
                have CE := ownG_cell hO.out i (by rw [mix_len]; exact hil)
                rw [mix_at hil] at CE
                have hEr := prw.env_below HEC.out hBr.out
                have HP0 := HPS.out AL[i] (List.getElem_mem _) wr hEr
                have HSET := Lib.hid (mix_step (syn := sy) hil)
                have HAL := Lib.hid (allP_step (syn := sy) hil)
                have HNOi := Lib.hid (HNO.out i hil)
                obtain ⟨n0, n1, n2⟩ := tb_cells (tb_below HTBC.out hBr.out)
                have HGP : Hid (∀ o, pieceO sy AL[i].data.toList = some o → gotP sy AL[i] = o) := by
                  intro o ho
                  unfold gotP
                  rw [ho]; rfl
                generalize AL[i] = x at CE HP0 HSET HAL HNOi HGP
                clear hEr
                cases hp : pieceO sy x.data.toList with
                | none =>
                  have HR := Lib.hid (HNOi.out hp)
                  rw [hp] at HP0
                  have HP1 : Hid (Calls Tryz.prog 33 #[.agg #[.string nm, .int .i64 1, .bool sg], .string x] wr fun e w' => e = .returned (.tuple #[.string ⟨#[]⟩, .int .i64 19]) ∧ Below wr.heap.size wr w') := HP0
                  clear HP0 HNOi HGP hp HSET HAL
                  go_wp2_with fail
                  refine (HP1.out).mono ?_
                  rintro e w3 ⟨rfl, hB3⟩
                  have HBC3 := Lib.hid (hBr.out.trans (hB3.mono hsz))
                  clear hB3 CE n0 n1 n2
                  go_wp2_with fail
                  go_ret2
                  exact ⟨by (rw [HR.out] <;> rfl), HBWC.out.trans (HBC3.out.mono hwc)⟩
                | some o =>
                  have hgo := HGP.out o hp
                  rw [hp] at HP0 HAL
                  rw [hgo] at HSET
                  have HP1 : Hid (Calls Tryz.prog 33 #[.agg #[.string nm, .int .i64 1, .bool sg], .string x] wr fun e w' => e = .returned (.tuple #[.string (bs o), .int .i64 0]) ∧ Below wr.heap.size wr w') := HP0
                  have HALL : Hid (allP sy (AL.take (i + 1)) = true) := by rw [HAL.out, hall.out]; rfl
                  clear HP0 HNOi HGP hp hgo HAL
                  go_wp2_with fail
                  refine (HP1.out).mono ?_
                  rintro e w3 ⟨rfl, hB3⟩
                  have HBC3 := Lib.hid (hBr.out.trans (hB3.mono hsz))
                  have hO3 := Lib.hid (ownG_below hO.out hB3)
                  have hfz := ownG_frozen hO3.out i
                  have CE3 := (hB3.cell (p := ⟨g, i, none⟩) (World.block_lt_of_cell? wr _ CE)).trans CE
                  have HO4 : Hid (OwnG (w3.setCell ⟨g, i, none⟩ (.string (bs o))) WC.heap.size g K cp (mix sy AL (i + 1))) := by rw [← HSET.out]; exact ownG_set hO3.out i (bs o)
                  have HBC4 : Hid (Below WC.heap.size WC (w3.setCell ⟨g, i, none⟩ (.string (bs o)))) := HBC3.out.setCell (p := ⟨g, i, none⟩) hgB _
                  clear hB3 CE n0 n1 n2 HSET
                  go_wp2_with fail
                  go_roundw
                  case rel => exact ⟨i + 1, by omega, by go_num, HALL, HO4, HBC4⟩
                  case measure => simp [intOf]; omega
              · obtain rfl : i = K := by omega
                have hyes := HYES.out (by have := hall.out; rw [← HKe.out, List.take_length] at this; exact this)
                have HOZ : Hid (OwnG wr WC.heap.size g i cp (AL.map fun x => bs (gotP sy x))) := by
                  have h := hO.out
                  have e : mix sy AL i = AL.map fun x => bs (gotP sy x) := by rw [← HKe.out]; exact mix_all sy AL
                  rw [e] at h
                  exact h
                have ca : wr.cell? ⟨g, 0, none⟩ = some (.string (bs (gotP sy first))) := ownG_at HOZ.out 0 (by rw [← HALe.out]; rfl)
                have cz : wr.cell? ⟨g, M, none⟩ = some (.string (bs (gotP sy last))) := ownG_at HOZ.out M (by
                  rw [← HALe.out, ← HM.out, List.getElem?_map, List.getElem?_cons_succ, List.getElem?_append_right (by rw [HNe.out]; exact Nat.le_refl _), HNe.out, Nat.sub_self]
                  rfl)
                have cm : Hid (∀ j (h : j < N), ∃ p, wr.cell? ⟨g, 1 + j, none⟩ = some (.string (bs p)) ∧ (mids.map (gotP sy)).drop j = p :: (mids.map (gotP sy)).drop (j + 1)) := by
                  intro j h
                  have hj : j < mids.length := by rw [HNe.out]; exact h
                  refine ⟨gotP sy mids[j], ownG_at HOZ.out (1 + j) ?_, ?_⟩
                  · rw [← HALe.out, Nat.add_comm 1 j, List.getElem?_map, List.getElem?_cons_succ, List.getElem?_append_left hj, List.getElem?_eq_getElem hj]
                    rfl
                  · rw [List.drop_eq_getElem_cons (by rw [List.length_map]; exact hj), List.getElem_map]
                have hmsl : Hid (∀ l, greedy ((mids.map (gotP sy)).drop N) l = true) := by
                  intro l
                  rw [List.drop_eq_nil_of_le (by rw [List.length_map, HNe.out]; exact Nat.le_refl _)]
                  rfl
                have HCP : Hid (∀ w, Calls Tryz.prog 34 #[.string (bs u), .string (bs (gotP sy first))] w fun e w' => e = .returned (.tuple #[.string (bs (Lib.trimPrefix u (gotP sy first))), .bool (Lib.hasPrefix u (gotP sy first))]) ∧ w = w') := by
                  intro w
                  refine (Tryz.strings_CutPrefix (bs u) (bs (gotP sy first)) w).mono ?_
                  rintro e w' ⟨rfl, rfl⟩
                  exact ⟨rfl, rfl⟩
                have HBWr := Lib.hid (HBWC.out.trans (hBr.out.mono hwc))
                have hEr := Lib.hid (prw.env_below HEC.out hBr.out)
                generalize mids.map (gotP sy) = ms at hyes cm hmsl
                have hpn := fun h => partL_no (s := u) (a := gotP sy first) (z := gotP sy last) (m := ms) h
                have hpc := fun h => partL_cut (s := u) (a := gotP sy first) (z := gotP sy last) (m := ms) h
                have htl := trim_len u (gotP sy first) (gotP sy last)
                have htp : (Lib.trimPrefix u (gotP sy first)).length ≤ u.length := by
                  unfold Lib.trimPrefix; split
                  · rw [List.length_drop]; omega
                  · omega
                generalize gotP sy first = a at *
                generalize gotP sy last = z at *
                clear HYES HNO HPS hO HOZ hall HSZ HTBC HNRM2 HCC HANY HAN1
                cases hpre : Lib.hasPrefix u a with
                | false =>
                  rw [hpre] at HCP
                  have HR : Hid (R = (false, 0)) := by rw [hyes, hpn hpre]; exact rfl
                  clear hyes hpn hpc hpre
                  go_wp2_with fail
                  refine (HCP.out _).mono ?_
                  rintro e w4 ⟨rfl, rfl⟩
                  go_wp2_with fail
                  go_ret2
                  exact ⟨by (rw [HR.out] <;> rfl), HBWr.out⟩
                | true =>
                  rw [hpre] at HCP
                  have HR := Lib.hid (hyes.trans (by rw [hpc hpre]))
                  clear hyes hpn hpc hpre
                  have htp2 : (Lib.trimPrefix u a).length ≤ 1000 := by omega
                  have HCS : Hid (∀ w, Calls Tryz.prog 35 #[.string (bs (Lib.trimPrefix u a)), .string (bs z)] w fun e w' => e = .returned (.tuple #[.string (bs (Lib.trimSuffix (Lib.trimPrefix u a) z)), .bool (Lib.hasSuffix (Lib.trimPrefix u a) z)]) ∧ w = w') := by
                    intro w
                    refine (Tryz.strings_CutSuffix (bs (Lib.trimPrefix u a)) (bs z) w (by rw [bs_size]; omega)).mono ?_
                    rintro e w' ⟨rfl, rfl⟩
                    exact ⟨rfl, rfl⟩
                  have htl2 : (Lib.trimSuffix (Lib.trimPrefix u a) z).length ≤ 1000 := by omega
                  have HTL := Lib.hid htl2
                  generalize Lib.trimSuffix (Lib.trimPrefix u a) z = t2 at HCS HR HTL
                  generalize Lib.hasSuffix (Lib.trimPrefix u a) z = bo at HCS HR
                  generalize Lib.trimPrefix u a = t1 at HCS HCP
                  clear htl htl2 htp htp2
                  go_wp2_with fail
                  refine (HCP.out _).mono ?_
                  rintro e w4 ⟨rfl, rfl⟩
                  go_wp2_with fail
                  refine (HCS.out _).mono ?_
                  rintro e w4 ⟨rfl, rfl⟩
                  clear ca cz
                  go_wp2_with fail
                  go_loopw [15, 21, 23, 114] (fun sv ov _ iv w5 => ∃ j : Nat, j ≤ N ∧ iv = .int .i64 (j : Int) ∧ ∃ (t : List UInt8) (b : Bool), sv = .string (bs t) ∧ ov = .bool b ∧ Hid (t.length ≤ 1000) ∧ Hid (R = (b && greedy (ms.drop j) t, 0)) ∧ Hid (Below wr.heap.size wr w5)) (fun _ _ _ iv _ => N - (intOf iv).toNat)
                  case atStart => exact ⟨0, Nat.zero_le _, rfl, t2, bo, rfl, rfl, HTL, HR, Below.refl _ _⟩
                  case round =>
                    obtain ⟨j, hj, rfl, t, b, rfl, rfl, htn, hRj, hB5⟩ := hrel
                    by_cases hlt2 : j < N
                    · have hltJ : (j : Int) < (N : Int) := by omega
                      obtain ⟨p, cp0, hdr⟩ := cm.out j hlt2
                      have cp1 := (hB5.out.cell (p := ⟨g, 1 + j, none⟩) (World.block_lt_of_cell? _ _ cp0)).trans cp0
                      have hRd := hRj.out
                      rw [hdr] at hRd
                      cases b with
                      | false =>
                        have HR3 : Hid (R = (false, 0)) := hRd
                        clear hRd hdr cp0
                        go_wp2_with fail
                        go_ret2
                        exact ⟨by (rw [HR3.out] <;> rfl), HBWr.out.trans (hB5.out.mono HBWr.out.size)⟩
                      | true =>
                        rw [cut_yes, Bool.true_and] at hRd
                        obtain ⟨mx, hmx⟩ := prw.env_below hEr.out hB5.out
                        have HCT : Hid (Calls Tryz.prog 36 #[.string (bs t), .string (bs p)] wr fun e w' => e = .returned (.tuple #[.string (bs (Lib.cut t p).1), .string (bs (Lib.cut t p).2.1), .bool (Lib.cut t p).2.2]) ∧ ∃ n, w' = wr.drewN n) := Tryz.strings_Cut (bs t) (bs p) mx wr (by have := htn.out; rw [bs_size]; omega) hmx
                        have htn2 : Hid ((Lib.cut t p).2.1.length ≤ 1000) := Nat.le_trans (cut_len t p) htn.out
                        have HR3 := Lib.hid hRd
                        clear hRd hdr cp0 hmx hRj
                        generalize (Lib.cut t p).2.2 = b2 at HCT HR3
                        generalize (Lib.cut t p).2.1 = t3 at HCT HR3 htn2
                        generalize (Lib.cut t p).1 = t4 at HCT
                        go_wp2_with fail
                        refine (HCT.out).mono ?_
                        rintro e w6 ⟨rfl, nd, rfl⟩
                        have HB6 := Lib.hid (below_dr hB5.out nd)
                        go_wp2_with fail
                        go_roundw
                        case rel => exact ⟨j + 1, by omega, by go_num, t3, b2, rfl, rfl, htn2, HR3, HB6⟩
                        case measure => simp [intOf]; omega
                    · obtain rfl : j = N := by omega
                      have HR3 : Hid (R = (b, 0)) := by rw [hRj.out, hmsl.out, Bool.and_true]; exact rfl
                      go_wp2_with fail
                      go_ret2
                      exact ⟨by (rw [HR3.out] <;> rfl), HBWr.out.trans (hB5.out.mono HBWr.out.size)⟩
          · skip
            go_enter Tryz.func14, Tryz.ntmps14
            go_wp2_with fail
            refine (HCC.out).mono ?_
            rintro e w1 ⟨v1, rfl, hO1, hB1⟩
            have HB1 := Lib.hid (HBWC.out.trans (hB1.mono hwc))
            have HBC1 := Lib.hid hB1
            obtain ⟨g, cp, rfl, hgB, hcp, hO2⟩ := own_open hO1.out (by intro e; have := HALn.out; rw [e] at this; simp at this)
            have HG1 : Hid (OwnG w1 WC.heap.size g K cp AL) := by
              have := ownG_of hO2
              rw [HKe.out] at this
              exact this
            rw [HKe.out] at hcp
            rw [HKe.out]
            have HTB1 := Lib.hid (tb_below HTB0.out (HB0C.out.trans (hB1.mono hw0c)))
            obtain ⟨m0, m1, m2⟩ := tb_cells HTB1.out
            have hw1 : w.heap.size ≤ w1.heap.size := HB1.out.size
            clear hO1 hO2 hB1 hW0 hWA hWB hWC k0 k1 k2
            have HSTR : Hid (Strs w1 (some ⟨g, 0, none⟩) AL) := fun i hi => ⟨g, 0, rfl, by rw [Nat.zero_add]; exact ownG_cell HG1.out i hi⟩
            have HAN1 := Lib.hid (HANY.out g cp w1 HSTR.out)
            rw [HSOME] at HAN1
            go_wp2_with fail
            refine (HAN1.out).mono ?_
            rintro e wz ⟨rfl, rfl⟩
            go_wp2_with fail
            refine (HNRM2.out _ (prw.env_below HEC.out HBC1.out) (dnw.tabs_below HTC.out HBC1.out)).mono ?_
            rintro e w2 ⟨rfl, hB2⟩
            have HBC2 := Lib.hid (HBC1.out.trans (hB2.mono HBC1.out.size))
            have HW12 := Lib.hid hB2
            clear hB2 m0 m1 m2
            go_wp2_with fail
            have HG2 := Lib.hid (ownG_below HG1.out HW12.out)
            go_loopw [17, 18, 19, 20, 68] (fun _ _ _ _ iv wr => ∃ i : Nat, i ≤ K ∧ iv = .int .i64 (i : Int) ∧ Hid (allP sy (AL.take i) = true) ∧ Hid (OwnG wr WC.heap.size g K cp (mix sy AL i)) ∧ Hid (Below WC.heap.size WC wr)) (fun _ _ _ _ iv _ => K - (intOf iv).toNat)
            case atStart => exact ⟨0, Nat.zero_le _, rfl, rfl, HG2, HBC2⟩
            case round =>
              obtain ⟨i, hi, rfl, hall, hO, hBr⟩ := hrel
              by_cases hlt : i < K
              · have hltI : (i : Int) < (K : Int) := by omega
                have hil : i < AL.length := by rw [HKe.out]; exact hlt
                have hsz := hBr.out.size
                have CE := ownG_cell hO.out i (by rw [mix_len]; exact hil)
                rw [mix_at hil] at CE
                have hEr := prw.env_below HEC.out hBr.out
                have HP0 := HPS.out AL[i] (List.getElem_mem _) wr hEr
                have HSET := Lib.hid (mix_step (syn := sy) hil)
                have HAL := Lib.hid (allP_step (syn := sy) hil)
                have HNOi := Lib.hid (HNO.out i hil)
                obtain ⟨n0, n1, n2⟩ := tb_cells (tb_below HTBC.out hBr.out)
                have HGP : Hid (∀ o, pieceO sy AL[i].data.toList = some o → gotP sy AL[i] = o) := by
                  intro o ho
                  unfold gotP
                  rw [ho]; rfl
                generalize AL[i] = x at CE HP0 HSET HAL HNOi HGP
                clear hEr
                cases hp : pieceO sy x.data.toList with
                | none =>
                  have HR := Lib.hid (HNOi.out hp)
                  rw [hp] at HP0
                  have HP1 : Hid (Calls Tryz.prog 33 #[.agg #[.string nm, .int .i64 2, .bool sg], .string x] wr fun e w' => e = .returned (.tuple #[.string ⟨#[]⟩, .int .i64 19]) ∧ Below wr.heap.size wr w') := HP0
                  clear HP0 HNOi HGP hp HSET HAL
                  go_wp2_with fail
                  refine (HP1.out).mono ?_
                  rintro e w3 ⟨rfl, hB3⟩
                  have HBC3 := Lib.hid (hBr.out.trans (hB3.mono hsz))
                  clear hB3 CE n0 n1 n2
                  go_wp2_with fail
                  go_ret2
                  exact ⟨by (rw [HR.out] <;> rfl), HBWC.out.trans (HBC3.out.mono hwc)⟩
                | some o =>
                  have hgo := HGP.out o hp
                  rw [hp] at HP0 HAL
                  rw [hgo] at HSET
                  have HP1 : Hid (Calls Tryz.prog 33 #[.agg #[.string nm, .int .i64 2, .bool sg], .string x] wr fun e w' => e = .returned (.tuple #[.string (bs o), .int .i64 0]) ∧ Below wr.heap.size wr w') := HP0
                  have HALL : Hid (allP sy (AL.take (i + 1)) = true) := by rw [HAL.out, hall.out]; rfl
                  clear HP0 HNOi HGP hp hgo HAL
                  go_wp2_with fail
                  refine (HP1.out).mono ?_
                  rintro e w3 ⟨rfl, hB3⟩
                  have HBC3 := Lib.hid (hBr.out.trans (hB3.mono hsz))
                  have hO3 := Lib.hid (ownG_below hO.out hB3)
                  have hfz := ownG_frozen hO3.out i
                  have CE3 := (hB3.cell (p := ⟨g, i, none⟩) (World.block_lt_of_cell? wr _ CE)).trans CE
                  have HO4 : Hid (OwnG (w3.setCell ⟨g, i, none⟩ (.string (bs o))) WC.heap.size g K cp (mix sy AL (i + 1))) := by rw [← HSET.out]; exact ownG_set hO3.out i (bs o)
                  have HBC4 : Hid (Below WC.heap.size WC (w3.setCell ⟨g, i, none⟩ (.string (bs o)))) := HBC3.out.setCell (p := ⟨g, i, none⟩) hgB _
                  clear hB3 CE n0 n1 n2 HSET
                  go_wp2_with fail
                  go_roundw
                  case rel => exact ⟨i + 1, by omega, by go_num, HALL, HO4, HBC4⟩
                  case measure => simp [intOf]; omega
              · obtain rfl : i = K := by omega
                have hyes := HYES.out (by have := hall.out; rw [← HKe.out, List.take_length] at this; exact this)
                have HOZ : Hid (OwnG wr WC.heap.size g i cp (AL.map fun x => bs (gotP sy x))) := by
                  have h := hO.out
                  have e : mix sy AL i = AL.map fun x => bs (gotP sy x) := by rw [← HKe.out]; exact mix_all sy AL
                  rw [e] at h
                  exact h
                have ca : wr.cell? ⟨g, 0, none⟩ = some (.string (bs (gotP sy first))) := ownG_at HOZ.out 0 (by rw [← HALe.out]; rfl)
                have cz : wr.cell? ⟨g, M, none⟩ = some (.string (bs (gotP sy last))) := ownG_at HOZ.out M (by
                  rw [← HALe.out, ← HM.out, List.getElem?_map, List.getElem?_cons_succ, List.getElem?_append_right (by rw [HNe.out]; exact Nat.le_refl _), HNe.out, Nat.sub_self]
                  rfl)
                have cm : Hid (∀ j (h : j < N), ∃ p, wr.cell? ⟨g, 1 + j, none⟩ = some (.string (bs p)) ∧ (mids.map (gotP sy)).drop j = p :: (mids.map (gotP sy)).drop (j + 1)) := by
                  intro j h
                  have hj : j < mids.length := by rw [HNe.out]; exact h
                  refine ⟨gotP sy mids[j], ownG_at HOZ.out (1 + j) ?_, ?_⟩
                  · rw [← HALe.out, Nat.add_comm 1 j, List.getElem?_map, List.getElem?_cons_succ, List.getElem?_append_left hj, List.getElem?_eq_getElem hj]
                    rfl
                  · rw [List.drop_eq_getElem_cons (by rw [List.length_map]; exact hj), List.getElem_map]
                have hmsl : Hid (∀ l, greedy ((mids.map (gotP sy)).drop N) l = true) := by
                  intro l
                  rw [List.drop_eq_nil_of_le (by rw [List.length_map, HNe.out]; exact Nat.le_refl _)]
                  rfl
                have HCP : Hid (∀ w, Calls Tryz.prog 34 #[.string (bs u), .string (bs (gotP sy first))] w fun e w' => e = .returned (.tuple #[.string (bs (Lib.trimPrefix u (gotP sy first))), .bool (Lib.hasPrefix u (gotP sy first))]) ∧ w = w') := by
                  intro w
                  refine (Tryz.strings_CutPrefix (bs u) (bs (gotP sy first)) w).mono ?_
                  rintro e w' ⟨rfl, rfl⟩
                  exact ⟨rfl, rfl⟩
                have HBWr := Lib.hid (HBWC.out.trans (hBr.out.mono hwc))
                have hEr := Lib.hid (prw.env_below HEC.out hBr.out)
                generalize mids.map (gotP sy) = ms at hyes cm hmsl
                have hpn := fun h => partL_no (s := u) (a := gotP sy first) (z := gotP sy last) (m := ms) h
                have hpc := fun h => partL_cut (s := u) (a := gotP sy first) (z := gotP sy last) (m := ms) h
                have htl := trim_len u (gotP sy first) (gotP sy last)
                have htp : (Lib.trimPrefix u (gotP sy first)).length ≤ u.length := by
                  unfold Lib.trimPrefix; split
                  · rw [List.length_drop]; omega
                  · omega
                generalize gotP sy first = a at *
                generalize gotP sy last = z at *
                clear HYES HNO HPS hO HOZ hall HSZ HTBC HNRM2 HCC HANY HAN1
                cases hpre : Lib.hasPrefix u a with
                | false =>
                  rw [hpre] at HCP
                  have HR : Hid (R = (false, 0)) := by rw [hyes, hpn hpre]; exact rfl
                  clear hyes hpn hpc hpre
                  go_wp2_with fail
                  refine (HCP.out _).mono ?_
                  rintro e w4 ⟨rfl, rfl⟩
                  go_wp2_with fail
                  go_ret2
                  exact ⟨by (rw [HR.out] <;> rfl), HBWr.out⟩
                | true =>
                  rw [hpre] at HCP
                  have HR := Lib.hid (hyes.trans (by rw [hpc hpre]))
                  clear hyes hpn hpc hpre
                  have htp2 : (Lib.trimPrefix u a).length ≤ 1000 := by omega
                  have HCS : Hid (∀ w, Calls Tryz.prog 35 #[.string (bs (Lib.trimPrefix u a)), .string (bs z)] w fun e w' => e = .returned (.tuple #[.string (bs (Lib.trimSuffix (Lib.trimPrefix u a) z)), .bool (Lib.hasSuffix (Lib.trimPrefix u a) z)]) ∧ w = w') := by
                    intro w
                    refine (Tryz.strings_CutSuffix (bs (Lib.trimPrefix u a)) (bs z) w (by rw [bs_size]; omega)).mono ?_
                    rintro e w' ⟨rfl, rfl⟩
                    exact ⟨rfl, rfl⟩
                  have htl2 : (Lib.trimSuffix (Lib.trimPrefix u a) z).length ≤ 1000 := by omega
                  have HTL := Lib.hid htl2
                  generalize Lib.trimSuffix (Lib.trimPrefix u a) z = t2 at HCS HR HTL
                  generalize Lib.hasSuffix (Lib.trimPrefix u a) z = bo at HCS HR
                  generalize Lib.trimPrefix u a = t1 at HCS HCP
                  clear htl htl2 htp htp2
                  go_wp2_with fail
                  refine (HCP.out _).mono ?_
                  rintro e w4 ⟨rfl, rfl⟩
                  go_wp2_with fail
                  refine (HCS.out _).mono ?_
                  rintro e w4 ⟨rfl, rfl⟩
                  clear ca cz
                  go_wp2_with fail
                  go_loopw [15, 21, 23, 114] (fun sv ov _ iv w5 => ∃ j : Nat, j ≤ N ∧ iv = .int .i64 (j : Int) ∧ ∃ (t : List UInt8) (b : Bool), sv = .string (bs t) ∧ ov = .bool b ∧ Hid (t.length ≤ 1000) ∧ Hid (R = (b && greedy (ms.drop j) t, 0)) ∧ Hid (Below wr.heap.size wr w5)) (fun _ _ _ iv _ => N - (intOf iv).toNat)
                  case atStart => exact ⟨0, Nat.zero_le _, rfl, t2, bo, rfl, rfl, HTL, HR, Below.refl _ _⟩
                  case round =>
                    obtain ⟨j, hj, rfl, t, b, rfl, rfl, htn, hRj, hB5⟩ := hrel
                    by_cases hlt2 : j < N
                    · have hltJ : (j : Int) < (N : Int) := by omega
                      obtain ⟨p, cp0, hdr⟩ := cm.out j hlt2
                      have cp1 := (hB5.out.cell (p := ⟨g, 1 + j, none⟩) (World.block_lt_of_cell? _ _ cp0)).trans cp0
                      have hRd := hRj.out
                      rw [hdr] at hRd
                      cases b with
                      | false =>
                        have HR3 : Hid (R = (false, 0)) := hRd
                        clear hRd hdr cp0
                        go_wp2_with fail
                        go_ret2
                        exact ⟨by (rw [HR3.out] <;> rfl), HBWr.out.trans (hB5.out.mono HBWr.out.size)⟩
                      | true =>
                        rw [cut_yes, Bool.true_and] at hRd
                        obtain ⟨mx, hmx⟩ := prw.env_below hEr.out hB5.out
                        have HCT : Hid (Calls Tryz.prog 36 #[.string (bs t), .string (bs p)] wr fun e w' => e = .returned (.tuple #[.string (bs (Lib.cut t p).1), .string (bs (Lib.cut t p).2.1), .bool (Lib.cut t p).2.2]) ∧ ∃ n, w' = wr.drewN n) := Tryz.strings_Cut (bs t) (bs p) mx wr (by have := htn.out; rw [bs_size]; omega) hmx
                        have htn2 : Hid ((Lib.cut t p).2.1.length ≤ 1000) := Nat.le_trans (cut_len t p) htn.out
                        have HR3 := Lib.hid hRd
                        clear hRd hdr cp0 hmx hRj
                        generalize (Lib.cut t p).2.2 = b2 at HCT HR3
                        generalize (Lib.cut t p).2.1 = t3 at HCT HR3 htn2
                        generalize (Lib.cut t p).1 = t4 at HCT
                        go_wp2_with fail
                        refine (HCT.out).mono ?_
                        rintro e w6 ⟨rfl, nd, rfl⟩
                        have HB6 := Lib.hid (below_dr hB5.out nd)
                        go_wp2_with fail
                        go_roundw
                        case rel => exact ⟨j + 1, by omega, by go_num, t3, b2, rfl, rfl, htn2, HR3, HB6⟩
                        case measure => simp [intOf]; omega
                    · obtain rfl : j = N := by omega
                      have HR3 : Hid (R = (b, 0)) := by rw [hRj.out, hmsl.out, Bool.and_true]; exact rfl
                      go_wp2_with fail
                      go_ret2
                      exact ⟨by (rw [HR3.out] <;> rfl), HBWr.out.trans (hB5.out.mono HBWr.out.size)⟩
          · skip
            go_enter Tryz.func14, Tryz.ntmps14
            go_wp2_with fail
            refine (HCC.out).mono ?_
            rintro e w1 ⟨v1, rfl, hO1, hB1⟩
            have HB1 := Lib.hid (HBWC.out.trans (hB1.mono hwc))
            have HBC1 := Lib.hid hB1
            obtain ⟨g, cp, rfl, hgB, hcp, hO2⟩ := own_open hO1.out (by intro e; have := HALn.out; rw [e] at this; simp at this)
            have HG1 : Hid (OwnG w1 WC.heap.size g K cp AL) := by
              have := ownG_of hO2
              rw [HKe.out] at this
              exact this
            rw [HKe.out] at hcp
            rw [HKe.out]
            have HTB1 := Lib.hid (tb_below HTB0.out (HB0C.out.trans (hB1.mono hw0c)))
            obtain ⟨m0, m1, m2⟩ := tb_cells HTB1.out
            have hw1 : w.heap.size ≤ w1.heap.size := HB1.out.size
            clear hO1 hO2 hB1 hW0 hWA hWB hWC k0 k1 k2
            have HSTR : Hid (Strs w1 (some ⟨g, 0, none⟩) AL) := fun i hi => ⟨g, 0, rfl, by rw [Nat.zero_add]; exact ownG_cell HG1.out i hi⟩
            have HAN1 := Lib.hid (HANY.out g cp w1 HSTR.out)
            rw [HSOME] at HAN1
            go_wp2_with fail
            refine (HAN1.out).mono ?_
            rintro e wz ⟨rfl, rfl⟩
            go_wp2_with fail
            refine (HNRM2.out _ (prw.env_below HEC.out HBC1.out) (dnw.tabs_below HTC.out HBC1.out)).mono ?_
            rintro e w2 ⟨rfl, hB2⟩
            have HBC2 := Lib.hid (HBC1.out.trans (hB2.mono HBC1.out.size))
            have HW12 := Lib.hid hB2
            clear hB2 m0 m1 m2
            go_wp2_with fail
            have HG2 := Lib.hid (ownG_below HG1.out HW12.out)
            go_loopw [17, 18, 19, 20, 68] (fun _ _ _ _ iv wr => ∃ i : Nat, i ≤ K ∧ iv = .int .i64 (i : Int) ∧ Hid (allP sy (AL.take i) = true) ∧ Hid (OwnG wr WC.heap.size g K cp (mix sy AL i)) ∧ Hid (Below WC.heap.size WC wr)) (fun _ _ _ _ iv _ => K - (intOf iv).toNat)
            case atStart => exact ⟨0, Nat.zero_le _, rfl, rfl, HG2, HBC2⟩
            case round =>
              obtain ⟨i, hi, rfl, hall, hO, hBr⟩ := hrel
              by_cases hlt : i < K
              · have hltI : (i : Int) < (K : Int) := by omega
                have hil : i < AL.length := by rw [HKe.out]; exact hlt
                have hsz := hBr.out.size
                have CE := ownG_cell hO.out i (by rw [mix_len]; exact hil)
                rw [mix_at hil] at CE
                have hEr := prw.env_below HEC.out hBr.out
                have HP0 := HPS.out AL[i] (List.getElem_mem _) wr hEr
                have HSET := Lib.hid (mix_step (syn := sy) hil)
                have HAL := Lib.hid (allP_step (syn := sy) hil)
                have HNOi := Lib.hid (HNO.out i hil)
                obtain ⟨n0, n1, n2⟩ := tb_cells (tb_below HTBC.out hBr.out)
                have HGP : Hid (∀ o, pieceO sy AL[i].data.toList = some o → gotP sy AL[i] = o) := by
                  intro o ho
                  unfold gotP
                  rw [ho]; rfl
                generalize AL[i] = x at CE HP0 HSET HAL HNOi HGP
                clear hEr
                cases hp : pieceO sy x.data.toList with
                | none =>
                  have HR := Lib.hid (HNOi.out hp)
                  rw [hp] at HP0
                  have HP1 : Hid (Calls Tryz.prog 33 #[.agg #[.string nm, .int .i64 7, .bool sg], .string x] wr fun e w' => e = .returned (.tuple #[.string ⟨#[]⟩, .int .i64 19]) ∧ Below wr.heap.size wr w') := HP0
                  clear HP0 HNOi HGP hp HSET HAL
                  go_wp2_with fail
                  refine (HP1.out).mono ?_
                  rintro e w3 ⟨rfl, hB3⟩
                  have HBC3 := Lib.hid (hBr.out.trans (hB3.mono hsz))
                  clear hB3 CE n0 n1 n2
                  go_wp2_with fail
                  go_ret2
                  exact ⟨by (rw [HR.out] <;> rfl), HBWC.out.trans (HBC3.out.mono hwc)⟩
                | some o =>
                  have hgo := HGP.out o hp
                  rw [hp] at HP0 HAL
                  rw [hgo] at HSET
                  have HP1 : Hid (Calls Tryz.prog 33 #[.agg #[.string nm, .int .i64 7, .bool sg], .string x] wr fun e w' => e = .returned (.tuple #[.string (bs o), .int .i64 0]) ∧ Below wr.heap.size wr w') := HP0
                  have HALL : Hid (allP sy (AL.take (i + 1)) = true) := by rw [HAL.out, hall.out]; rfl
                  clear HP0 HNOi HGP hp hgo HAL
                  go_wp2_with fail
                  refine (HP1.out).mono ?_
                  rintro e w3 ⟨rfl, hB3⟩
                  have HBC3 := Lib.hid (hBr.out.trans (hB3.mono hsz))
                  have hO3 := Lib.hid (ownG_below hO.out hB3)
                  have hfz := ownG_frozen hO3.out i
                  have CE3 := (hB3.cell (p := ⟨g, i, none⟩) (World.block_lt_of_cell? wr _ CE)).trans CE
                  have HO4 : Hid (OwnG (w3.setCell ⟨g, i, none⟩ (.string (bs o))) WC.heap.size g K cp (mix sy AL (i + 1))) := by rw [← HSET.out]; exact ownG_set hO3.out i (bs o)
                  have HBC4 : Hid (Below WC.heap.size WC (w3.setCell ⟨g, i, none⟩ (.string (bs o)))) := HBC3.out.setCell (p := ⟨g, i, none⟩) hgB _
                  clear hB3 CE n0 n1 n2 HSET
                  go_wp2_with fail
                  go_roundw
                  case rel => exact ⟨i + 1, by omega, by go_num, HALL, HO4, HBC4⟩
                  case measure => simp [intOf]; omega
              · obtain rfl : i = K := by omega
                have hyes := HYES.out (by have := hall.out; rw [← HKe.out, List.take_length] at this; exact this)
                have HOZ : Hid (OwnG wr WC.heap.size g i cp (AL.map fun x => bs (gotP sy x))) := by
                  have h := hO.out
                  have e : mix sy AL i = AL.map fun x => bs (gotP sy x) := by rw [← HKe.out]; exact mix_all sy AL
                  rw [e] at h
                  exact h
                have ca : wr.cell? ⟨g, 0, none⟩ = some (.string (bs (gotP sy first))) := ownG_at HOZ.out 0 (by rw [← HALe.out]; rfl)
                have cz : wr.cell? ⟨g, M, none⟩ = some (.string (bs (gotP sy last))) := ownG_at HOZ.out M (by
                  rw [← HALe.out, ← HM.out, List.getElem?_map, List.getElem?_cons_succ, List.getElem?_append_right (by rw [HNe.out]; exact Nat.le_refl _), HNe.out, Nat.sub_self]
                  rfl)
                have cm : Hid (∀ j (h : j < N), ∃ p, wr.cell? ⟨g, 1 + j, none⟩ = some (.string (bs p)) ∧ (mids.map (gotP sy)).drop j = p :: (mids.map (gotP sy)).drop (j + 1)) := by
                  intro j h
                  have hj : j < mids.length := by rw [HNe.out]; exact h
                  refine ⟨gotP sy mids[j], ownG_at HOZ.out (1 + j) ?_, ?_⟩
                  · rw [← HALe.out, Nat.add_comm 1 j, List.getElem?_map, List.getElem?_cons_succ, List.getElem?_append_left hj, List.getElem?_eq_getElem hj]
                    rfl
                  · rw [List.drop_eq_getElem_cons (by rw [List.length_map]; exact hj), List.getElem_map]
                have hmsl : Hid (∀ l, greedy ((mids.map (gotP sy)).drop N) l = true) := by
                  intro l
                  rw [List.drop_eq_nil_of_le (by rw [List.length_map, HNe.out]; exact Nat.le_refl _)]
                  rfl
                have HCP : Hid (∀ w, Calls Tryz.prog 34 #[.string (bs u), .string (bs (gotP sy first))] w fun e w' => e = .returned (.tuple #[.string (bs (Lib.trimPrefix u (gotP sy first))), .bool (Lib.hasPrefix u (gotP sy first))]) ∧ w = w') := by
                  intro w
                  refine (Tryz.strings_CutPrefix (bs u) (bs (gotP sy first)) w).mono ?_
                  rintro e w' ⟨rfl, rfl⟩
                  exact ⟨rfl, rfl⟩
                have HBWr := Lib.hid (HBWC.out.trans (hBr.out.mono hwc))
                have hEr := Lib.hid (prw.env_below HEC.out hBr.out)
                generalize mids.map (gotP sy) = ms at hyes cm hmsl
                have hpn := fun h => partL_no (s := u) (a := gotP sy first) (z := gotP sy last) (m := ms) h
                have hpc := fun h => partL_cut (s := u) (a := gotP sy first) (z := gotP sy last) (m := ms) h
                have htl := trim_len u (gotP sy first) (gotP sy last)
                have htp : (Lib.trimPrefix u (gotP sy first)).length ≤ u.length := by
                  unfold Lib.trimPrefix; split
                  · rw [List.length_drop]; omega
                  · omega
                generalize gotP sy first = a at *
                generalize gotP sy last = z at *
                clear HYES HNO HPS hO HOZ hall HSZ HTBC HNRM2 HCC HANY HAN1
                cases hpre : Lib.hasPrefix u a with
                | false =>
                  rw [hpre] at HCP
                  have HR : Hid (R = (false, 0)) := by rw [hyes, hpn hpre]; exact rfl
                  clear hyes hpn hpc hpre
                  go_wp2_with fail
                  refine (HCP.out _).mono ?_
                  rintro e w4 ⟨rfl, rfl⟩
                  go_wp2_with fail
                  go_ret2
                  exact ⟨by (rw [HR.out] <;> rfl), HBWr.out⟩
                | true =>
                  rw [hpre] at HCP
                  have HR := Lib.hid (hyes.trans (by rw [hpc hpre]))
                  clear hyes hpn hpc hpre
                  have htp2 : (Lib.trimPrefix u a).length ≤ 1000 := by omega
                  have HCS : Hid (∀ w, Calls Tryz.prog 35 #[.string (bs (Lib.trimPrefix u a)), .string (bs z)] w fun e w' => e = .returned (.tuple #[.string (bs (Lib.trimSuffix (Lib.trimPrefix u a) z)), .bool (Lib.hasSuffix (Lib.trimPrefix u a) z)]) ∧ w = w') := by
                    intro w
                    refine (Tryz.strings_CutSuffix (bs (Lib.trimPrefix u a)) (bs z) w (by rw [bs_size]; omega)).mono ?_
                    rintro e w' ⟨rfl, rfl⟩
                    exact ⟨rfl, rfl⟩
                  have htl2 : (Lib.trimSuffix (Lib.trimPrefix u a) z).length ≤ 1000 := by omega
                  have HTL := Lib.hid htl2
                  generalize Lib.trimSuffix (Lib.trimPrefix u a) z = t2 at HCS HR HTL
                  generalize Lib.hasSuffix (Lib.trimPrefix u a) z = bo at HCS HR
                  generalize Lib.trimPrefix u a = t1 at HCS HCP
                  clear htl htl2 htp htp2
                  go_wp2_with fail
                  refine (HCP.out _).mono ?_
                  rintro e w4 ⟨rfl, rfl⟩
                  go_wp2_with fail
                  refine (HCS.out _).mono ?_
                  rintro e w4 ⟨rfl, rfl⟩
                  clear ca cz
                  go_wp2_with fail
                  go_loopw [15, 21, 23, 114] (fun sv ov _ iv w5 => ∃ j : Nat, j ≤ N ∧ iv = .int .i64 (j : Int) ∧ ∃ (t : List UInt8) (b : Bool), sv = .string (bs t) ∧ ov = .bool b ∧ Hid (t.length ≤ 1000) ∧ Hid (R = (b && greedy (ms.drop j) t, 0)) ∧ Hid (Below wr.heap.size wr w5)) (fun _ _ _ iv _ => N - (intOf iv).toNat)
                  case atStart => exact ⟨0, Nat.zero_le _, rfl, t2, bo, rfl, rfl, HTL, HR, Below.refl _ _⟩
                  case round =>
                    obtain ⟨j, hj, rfl, t, b, rfl, rfl, htn, hRj, hB5⟩ := hrel
                    by_cases hlt2 : j < N
                    · have hltJ : (j : Int) < (N : Int) := by omega
                      obtain ⟨p, cp0, hdr⟩ := cm.out j hlt2
                      have cp1 := (hB5.out.cell (p := ⟨g, 1 + j, none⟩) (World.block_lt_of_cell? _ _ cp0)).trans cp0
                      have hRd := hRj.out
                      rw [hdr] at hRd
                      cases b with
                      | false =>
                        have HR3 : Hid (R = (false, 0)) := hRd
                        clear hRd hdr cp0
                        go_wp2_with fail
                        go_ret2
                        exact ⟨by (rw [HR3.out] <;> rfl), HBWr.out.trans (hB5.out.mono HBWr.out.size)⟩
                      | true =>
                        rw [cut_yes, Bool.true_and] at hRd
                        obtain ⟨mx, hmx⟩ := prw.env_below hEr.out hB5.out
                        have HCT : Hid (Calls Tryz.prog 36 #[.string (bs t), .string (bs p)] wr fun e w' => e = .returned (.tuple #[.string (bs (Lib.cut t p).1), .string (bs (Lib.cut t p).2.1), .bool (Lib.cut t p).2.2]) ∧ ∃ n, w' = wr.drewN n) := Tryz.strings_Cut (bs t) (bs p) mx wr (by have := htn.out; rw [bs_size]; omega) hmx
                        have htn2 : Hid ((Lib.cut t p).2.1.length ≤ 1000) := Nat.le_trans (cut_len t p) htn.out
                        have HR3 := Lib.hid hRd
                        clear hRd hdr cp0 hmx hRj
                        generalize (Lib.cut t p).2.2 = b2 at HCT HR3
                        generalize (Lib.cut t p).2.1 = t3 at HCT HR3 htn2
                        generalize (Lib.cut t p).1 = t4 at HCT
                        go_wp2_with fail
                        refine (HCT.out).mono ?_
                        rintro e w6 ⟨rfl, nd, rfl⟩
                        have HB6 := Lib.hid (below_dr hB5.out nd)
                        go_wp2_with fail
                        go_roundw
                        case rel => exact ⟨j + 1, by omega, by go_num, t3, b2, rfl, rfl, htn2, HR3, HB6⟩
                        case measure => simp [intOf]; omega
                    · obtain rfl : j = N := by omega
                      have HR3 : Hid (R = (b, 0)) := by rw [hRj.out, hmsl.out, Bool.and_true]; exact rfl
                      go_wp2_with fail
                      go_ret2
                      exact ⟨by (rw [HR3.out] <;> rfl), HBWr.out.trans (hB5.out.mono HBWr.out.size)⟩
  · rw [if_pos hno]
    clear hno
    go_enter Tryz.func14, Tryz.ntmps14
    go_wp2_with fail
    refine (HCC.out).mono ?_
    rintro e w1 ⟨v1, rfl, hO1, hB1⟩
    have HB1 := Lib.hid (HBWC.out.trans (hB1.mono hwc))
    have HBC1 := Lib.hid hB1
    obtain ⟨g, cp, rfl, hgB, hcp, hO2⟩ := own_open hO1.out (by intro e; have := HALn.out; rw [e] at this; simp at this)
    have HG1 : Hid (OwnG w1 WC.heap.size g K cp AL) := by
      have := ownG_of hO2
      rw [HKe.out] at this
      exact this
    rw [HKe.out] at hcp
    rw [HKe.out]
    have HTB1 := Lib.hid (tb_below HTB0.out (HB0C.out.trans (hB1.mono hw0c)))
    obtain ⟨m0, m1, m2⟩ := tb_cells HTB1.out
    have hw1 : w.heap.size ≤ w1.heap.size := HB1.out.size
    clear hO1 hO2 hB1 hW0 hWA hWB hWC k0 k1 k2
    have HSTR : Hid (Strs w1 (some ⟨g, 0, none⟩) AL) := fun i hi => ⟨g, 0, rfl, by rw [Nat.zero_add]; exact ownG_cell HG1.out i hi⟩
    have HAN1 := Lib.hid (HANY.out g cp w1 HSTR.out)
    go_wp2_with fail
    go_ret2
    exact ⟨rfl, HB1.out⟩
end atw
end Go.Proofs.YtckpiaigoeicfaaGreatDoor
/-! StanW -/
namespace Go.Proofs.YtckpiaigoeicfaaGreatDoor
open Go.RowKit
namespace atw
open atp tupw prw
set_option linter.unusedVariables false
set_option linter.unusedSimpArgs false
/-- the least place from at on -/
def standL (s p : List UInt8) (at_ : Nat) : Int := if s.length < at_ + p.length ∨ Lib.index (s.drop at_) p < 0 then -1 else (at_ : Int) + Lib.index (s.drop at_) p
theorem stand_eq {s p : List UInt8} {k : Nat} (hk : k ≤ s.length) : standL s p k = if Lib.index (s.drop k) p < 0 then -1 else (k : Int) + Lib.index (s.drop k) p := by
  unfold standL
  by_cases h0 : Lib.index (s.drop k) p < 0
  · rw [if_pos (Or.inr h0), if_pos h0]
  · have := Lib.index_room (s.drop k) p (by omega)
    rw [List.length_drop] at this
    rw [if_neg (by omega), if_neg h0]
theorem stand_hit {s p : List UInt8} {k : Nat} (h : k + p.length ≤ s.length) (e : (s.drop k).take p.length = p) : Lib.index (s.drop k) p = 0 := by
  have ho : Lib.occAt (s.drop k) p 0 = true := by
    unfold Lib.occAt
    rw [List.drop_zero, List.isPrefixOf_iff_prefix]
    refine ⟨(s.drop k).drop p.length, ?_⟩
    conv => lhs; lhs; rw [← e]
    exact List.take_append_drop _ _
  exact Lib.index_first (i := 0) (Nat.zero_le _) ho (fun j hj => absurd hj (Nat.not_lt_zero _))
theorem stand_miss {s p : List UInt8} {k : Nat} (h : k + p.length ≤ s.length) (e : (s.drop k).take p.length ≠ p) : standL s p k = standL s p (k + 1) := by
  have hne : s.drop k ≠ [] := by
    intro h0
    have h1 : s.length ≤ k := by simpa using h0
    have h2 : p.length = 0 := by omega
    have h3 := List.eq_nil_of_length_eq_zero h2
    subst h3
    exact e (by simp)
  obtain ⟨c, t, hct⟩ := List.exists_cons_of_ne_nil hne
  have htl : s.drop (k + 1) = t := by
    have : s.drop (k + 1) = (s.drop k).drop 1 := by rw [List.drop_drop]
    rw [this, hct]; rfl
  have hpre : p.isPrefixOf (c :: t) = false := by
    rw [Bool.eq_false_iff]
    intro hp
    rw [List.isPrefixOf_iff_prefix] at hp
    obtain ⟨r, hr⟩ := hp
    apply e
    rw [hct, ← hr]
    simp
  have hg := Lib.index_ge t p
  have hidx : Lib.index (c :: t) p = if Lib.index t p == -1 then -1 else Lib.index t p + 1 := by
    show (if p.isPrefixOf (c :: t) then 0 else _) = _
    rw [hpre]; rfl
  have hlt : k + 1 ≤ s.length := by
    have : (s.drop k).length = t.length + 1 := by rw [hct]; rfl
    rw [List.length_drop] at this
    omega
  rw [stand_eq (by omega), stand_eq hlt, htl, hct, hidx]
  by_cases h1 : Lib.index t p = -1
  · rw [h1]; rfl
  · have hb : (Lib.index t p == -1) = false := by rw [beq_eq_false_iff_ne]; exact h1
    rw [hb]
    simp only [Bool.false_eq_true, if_false]
    rw [if_neg (by omega), if_neg (by omega)]
    omega
theorem ext_take (s : ByteArray) (k n : Nat) (h : k + n ≤ s.size) : (s.extract k (k + n)).data.toList = (s.data.toList.drop k).take n := by
  rw [ByteArray.data_extract, Array.toList_extract, List.extract_eq_take_drop]
  congr 1
  omega
set_option maxRecDepth 20000 in
set_option maxHeartbeats 4000000 in
theorem stands_any (s p : ByteArray) (k0 : Nat) (w : World) (hs : s.size ≤ 1100000) (hp : p.size ≤ 1100000) (hk0 : k0 ≤ 1100000) : Calls Tryz.prog 38 #[.string s, .string p, .int .i64 (k0 : Int)] w fun e w' => e = .returned (.int .i64 (standL s.data.toList p.data.toList k0)) ∧ w = w' := by
  have hsl := kt.size_len s
  have hpl := kt.size_len p
  have HSL := Lib.hid hsl
  have HPL := Lib.hid hpl
  have HOUT : Hid (∀ k, s.size < k + p.size → standL s.data.toList p.data.toList k = -1) := by
    intro k h
    unfold standL
    rw [if_pos (Or.inl (by rw [hsl, hpl]; exact h))]
  have HHIT : Hid (∀ k, k + p.size ≤ s.size → s.extract k (k + p.size) = p → standL s.data.toList p.data.toList k = (k : Int)) := by
    intro k h e
    have := stand_hit (s := s.data.toList) (p := p.data.toList) (k := k) (by rw [hsl, hpl]; exact h) (by
      rw [hpl, ← ext_take s k p.size h, e])
    rw [stand_eq (by rw [hsl]; omega), this]; simp
  have HMISS : Hid (∀ k, k + p.size ≤ s.size → s.extract k (k + p.size) ≠ p → standL s.data.toList p.data.toList k = standL s.data.toList p.data.toList (k + 1)) := by
    intro k h e
    refine stand_miss (by rw [hsl, hpl]; exact h) (fun e2 => e ?_)
    apply kt.str_eq
    rw [ext_take s k p.size h, ← e2, hpl]
  obtain ⟨R, hR⟩ : ∃ R, standL s.data.toList p.data.toList k0 = R := ⟨_, rfl⟩
  have HR := Lib.hid hR
  rw [hR]
  clear hR hsl hpl
  generalize hF : standL s.data.toList p.data.toList = F at HOUT HHIT HMISS HR
  clear hF
  have hpI : (0 : Int) ≤ (p.size : Int) := by omega
  go_enter Tryz.func38, Tryz.ntmps38
  go_wp2_with fail
  go_loop [2] (fun iv => ∃ k : Nat, k ≤ 2000000 ∧ iv = .int .i64 (k : Int) ∧ Hid (F k = R)) (fun iv => s.size + 1 - (intOf iv).toNat)
  case atStart => exact ⟨k0, by omega, rfl, HR⟩
  case round =>
    obtain ⟨k, hk, rfl, hF⟩ := hrel
    by_cases hle : k + p.size ≤ s.size
    · have hleI : (k : Int) + (p.size : Int) ≤ (s.size : Int) := by omega
      by_cases he : s.extract k (k + p.size) = p
      · have HE := Lib.hid ((HHIT.out k hle he).symm.trans hF.out)
        have q : ((s.extract k (k + p.size)).toList == p.toList) = true := by rw [he]; simp
        clear he
        go_wp2_with fail
        go_ret
        exact ⟨by (rw [HE.out] <;> rfl), rfl⟩
      · have HE := Lib.hid ((HMISS.out k hle he).symm.trans hF.out)
        have q : ((s.extract k (k + p.size)).toList == p.toList) = false := by
          rw [beq_eq_false_iff_ne, Lib.toList_data, Lib.toList_data]
          exact fun h => he (kt.str_eq h)
        clear he
        go_wp2_with fail
        go_round
        case rel => exact ⟨k + 1, by omega, by go_num, HE⟩
        case measure => simp [intOf]; omega
    · have HE := Lib.hid ((HOUT.out k (by omega)).symm.trans hF.out)
      have hleI : ¬ ((k : Int) + (p.size : Int) ≤ (s.size : Int)) := by omega
      have hleD : decide ((k : Int) + (p.size : Int) ≤ (s.size : Int)) = false := decide_eq_false hleI
      clear hle
      go_wp2_with fail
      go_ret
      exact ⟨by (rw [HE.out] <;> rfl), rfl⟩
end atw
end Go.Proofs.YtckpiaigoeicfaaGreatDoor
/-! AwP -/
namespace Go.Proofs.YtckpiaigoeicfaaGreatDoor
open Go.RowKit
namespace atw
open atp tupw prw
set_option maxRecDepth 100000 in
theorem aw_eq : eqL 1 [65, 110, 110, 32, 32, 66] [97, 110, 110, 32, 98] = (true, 0) := by decide +kernel
set_option maxRecDepth 100000 in
theorem aw_ord : ordL 4 [57] [49, 48] = (-1, 0) := by decide +kernel
set_option maxRecDepth 100000 in
theorem aw_part : partE 1 ⟨#[65, 110, 110, 97, 98, 101, 108]⟩ ⟨#[97, 110]⟩ ⟨#[101, 108]⟩ [] = (true, 0) := by decide +kernel
end atw
end Go.Proofs.YtckpiaigoeicfaaGreatDoor
/-! AwakeW -/
namespace Go.Proofs.YtckpiaigoeicfaaGreatDoor
open Go.RowKit
namespace atw
open atp tupw prw
set_option linter.unusedVariables false
set_option linter.unusedSimpArgs false
theorem aw_cn : resT (findS (sml.lowL [67, 78])) = .tuple #[.agg #[.string (bs [99, 110]), .int .i64 1, .bool false], .bool true] := by rfl
theorem aw_un : resT (findS (sml.lowL [117, 105, 100, 110, 117, 109, 98, 101, 114])) = .tuple #[.agg #[.string (bs [117, 105, 100, 110, 117, 109, 98, 101, 114]), .int .i64 4, .bool true], .bool true] := by rfl
set_option maxRecDepth 20000 in
set_option maxHeartbeats 4000000 in
theorem awake_any (w : World) (hE : Hid (prw.Env w)) (hT : Hid (dnw.Tabs w)) (hY : Hid (TyEnv w)) : Calls Tryz.prog 9 #[] w fun e w' => e = .returned (.bool true) ∧ Below w.heap.size w w' := by
  have HF1 : Hid (∀ w, TyEnv w → Calls Tryz.prog 16 #[.string ⟨#[67, 78]⟩] w fun e w' => e = .returned (.tuple #[.agg #[.string (bs [99, 110]), .int .i64 1, .bool false], .bool true]) ∧ Below w.heap.size w w') := by
    intro w h
    rw [← aw_cn]
    exact find_any ⟨#[67, 78]⟩ w (by decide) (Lib.hid h)
  have HF2 : Hid (∀ w, TyEnv w → Calls Tryz.prog 16 #[.string ⟨#[117, 105, 100, 110, 117, 109, 98, 101, 114]⟩] w fun e w' => e = .returned (.tuple #[.agg #[.string (bs [117, 105, 100, 110, 117, 109, 98, 101, 114]), .int .i64 4, .bool true], .bool true]) ∧ Below w.heap.size w w') := by
    intro w h
    rw [← aw_un]
    exact find_any ⟨#[117, 105, 100, 110, 117, 109, 98, 101, 114]⟩ w (by decide) (Lib.hid h)
  have HEQ0 : Hid (∀ w nm, prw.Env w → dnw.Tabs w → Calls Tryz.prog 10 #[.agg #[.string nm, .int .i64 1, .bool false], .string ⟨#[65, 110, 110, 32, 32, 66]⟩, .string ⟨#[97, 110, 110, 32, 98]⟩] w fun e w' => e = .returned (.tuple #[.bool true, .int .i64 0]) ∧ Below w.heap.size w w') := by
    intro w nm h1 h2
    have := equal_any nm 1 false ⟨#[65, 110, 110, 32, 32, 66]⟩ ⟨#[97, 110, 110, 32, 98]⟩ w (by decide) (by decide) (Lib.hid h1) (Lib.hid h2)
    rw [show (⟨#[65, 110, 110, 32, 32, 66]⟩ : ByteArray).data.toList = [65, 110, 110, 32, 32, 66] from rfl, show (⟨#[97, 110, 110, 32, 98]⟩ : ByteArray).data.toList = [97, 110, 110, 32, 98] from rfl, aw_eq] at this
    exact this
  have HOR0 : Hid (∀ w nm, prw.Env w → dnw.Tabs w → Calls Tryz.prog 12 #[.agg #[.string nm, .int .i64 4, .bool true], .string ⟨#[57]⟩, .string ⟨#[49, 48]⟩] w fun e w' => e = .returned (.tuple #[.int .i64 (-1), .int .i64 0]) ∧ Below w.heap.size w w') := by
    intro w nm h1 h2
    have := order_any nm 4 true ⟨#[57]⟩ ⟨#[49, 48]⟩ w (by decide) (by decide) (Lib.hid h1) (Lib.hid h2)
    rw [show (⟨#[57]⟩ : ByteArray).data.toList = [57] from rfl, show (⟨#[49, 48]⟩ : ByteArray).data.toList = [49, 48] from rfl, aw_ord] at this
    exact this
  have HPA0 : Hid (∀ w nm, prw.Env w → dnw.Tabs w → Calls Tryz.prog 14 #[.agg #[.string nm, .int .i64 1, .bool false], .string ⟨#[65, 110, 110, 97, 98, 101, 108]⟩, .string ⟨#[97, 110]⟩, .slice none 0 0, .string ⟨#[101, 108]⟩] w fun e w' => e = .returned (.tuple #[.bool true, .int .i64 0]) ∧ Below w.heap.size w w') := by
    intro w nm h1 h2
    have := part_any nm 1 false ⟨#[65, 110, 110, 97, 98, 101, 108]⟩ ⟨#[97, 110]⟩ ⟨#[101, 108]⟩ [] none 0 w (fun i hi => absurd hi (Nat.not_lt_zero _)) (fun _ => rfl) (by decide) (by decide) (by intro x hx; simp at hx; rcases hx with rfl | rfl <;> decide) (Lib.hid h1) (Lib.hid h2)
    rw [aw_part] at this
    exact this
  generalize bs [99, 110] = c0 at HF1
  generalize bs [117, 105, 100, 110, 117, 109, 98, 101, 114] = n0 at HF2
  go_enter Tryz.func9, Tryz.ntmps9
  go_wp2_with fail
  refine (HF1.out _ hY.out).mono ?_
  rintro e w1 ⟨rfl, hB1⟩
  have HB1 := Lib.hid hB1
  clear hB1
  obtain ⟨W1, hW1⟩ : ∃ W, w1.alloc (.cells #[.string c0, .int .i64 1, .bool false] 23) = W := ⟨_, rfl⟩
  have HT1 : Hid (TB W1 w1.heap.size c0 1 false) := by rw [← hW1]; exact tb_new w1 c0 1 false
  have HBW1 : Hid (Below w.heap.size w W1) := by rw [← hW1]; exact HB1.out.alloc (HB1.out.size) _
  have hw1 : w.heap.size ≤ W1.heap.size := HBW1.out.size
  have HW1 := Lib.hid hW1
  clear hW1
  go_wp2_with fail
  rw [HW1.out]
  refine (HF2.out _ (tyEnv_below hY.out HBW1.out)).mono ?_
  rintro e w2 ⟨rfl, hB2⟩
  have HB2 := Lib.hid (HBW1.out.trans (hB2.mono hw1))
  have HT2 := Lib.hid (tb_below HT1.out hB2)
  clear hB2
  obtain ⟨W2, hW2⟩ : ∃ W, w2.alloc (.cells #[.string n0, .int .i64 4, .bool true] 23) = W := ⟨_, rfl⟩
  have HU2 : Hid (TB W2 w2.heap.size n0 4 true) := by rw [← hW2]; exact tb_new w2 n0 4 true
  have HTW2 : Hid (TB W2 w1.heap.size c0 1 false) := tb_below HT2.out (by rw [← hW2]; exact (Below.refl _ _).alloc (Nat.le_refl _) _)
  have HBW2 : Hid (Below w.heap.size w W2) := by rw [← hW2]; exact HB2.out.alloc (HB2.out.size) _
  have hw2 : w.heap.size ≤ W2.heap.size := HBW2.out.size
  have HW2 := Lib.hid hW2
  have HTX : TB (w2.alloc (.cells #[.string n0, .int .i64 4, .bool true] 23)) w1.heap.size c0 1 false := by rw [HW2.out]; exact HTW2.out
  obtain ⟨k0, k1, k2⟩ := tb_cells HTX
  clear hW2 HTX
  go_wp2_with fail
  rw [HW2.out]
  refine (HEQ0.out _ c0 (prw.env_below hE.out HBW2.out) (dnw.tabs_below hT.out HBW2.out)).mono ?_
  rintro e w3 ⟨rfl, hB3⟩
  have HB3 := Lib.hid (HBW2.out.trans (hB3.mono hw2))
  have HT3 := Lib.hid (tb_below HTW2.out hB3)
  have HU3 := Lib.hid (tb_below HU2.out hB3)
  obtain ⟨m0, m1, m2⟩ := tb_cells HT3.out
  obtain ⟨n0', n1, n2⟩ := tb_cells HU3.out
  clear hB3 k0 k1 k2
  go_wp2_with fail
  refine (HOR0.out _ n0 (prw.env_below hE.out HB3.out) (dnw.tabs_below hT.out HB3.out)).mono ?_
  rintro e w4 ⟨rfl, hB4⟩
  have HB4 := Lib.hid (HB3.out.trans (hB4.mono HB3.out.size))
  have HT4 := Lib.hid (tb_below HT3.out hB4)
  obtain ⟨p0, p1, p2⟩ := tb_cells HT4.out
  clear hB4 m0 m1 m2 n0' n1 n2
  go_wp2_with fail
  refine (HPA0.out _ c0 (prw.env_below hE.out HB4.out) (dnw.tabs_below hT.out HB4.out)).mono ?_
  rintro e w5 ⟨rfl, hB5⟩
  have HB5 := Lib.hid (HB4.out.trans (hB5.mono HB4.out.size))
  clear hB5 p0 p1 p2
  go_wp2_with fail
  go_ret
  exact ⟨rfl, HB5.out⟩
end atw
end Go.Proofs.YtckpiaigoeicfaaGreatDoor
/-! TyF -/
namespace Go.Proofs.YtckpiaigoeicfaaGreatDoor
open Go.RowKit
namespace atw
open atp
set_option linter.unusedVariables false
set_option linter.unusedSimpArgs false
def tyData : DataW Unit := .agg (tys.map fun t => .agg [.lit (.string t.name), .lit (.int .i64 t.syn), .lit (.bool t.single)])
theorem rows_take {α β : Type} (f : β → List α) (n : Nat) : ∀ (l : List β) (cs : List α), (∀ i (h : i < l.length), (cs.drop (i * n)).take n = f l[i]) → cs.take (l.length * n) = l.flatMap f := by
  intro l
  induction l with
  | nil => intro cs _; simp
  | cons b r ih =>
    intro cs h
    have h0 := h 0 (by simp)
    rw [Nat.zero_mul, List.drop_zero] at h0
    have h1 := ih (cs.drop n) (by
      intro i hi
      have := h (i + 1) (by simp; omega)
      rw [List.drop_drop, show n + i * n = (i + 1) * n by rw [Nat.add_mul, Nat.one_mul, Nat.add_comm]]
      exact this)
    rw [List.flatMap_cons, List.length_cons, show (r.length + 1) * n = n + r.length * n by rw [Nat.add_mul, Nat.one_mul, Nat.add_comm], List.take_add, h0, h1]
    rfl
set_option maxRecDepth 20000 in
theorem trod_ty {H : Type} {enc : TypeId × Value → H} {w : World} {base : Nat} {sp : Nat → Bool} {held : Bool} {fuel : Nat} {cs : List Value} {q : List MemPlace} {t : Ty}
    (h : DataW.trod enc Tryz.prog w base sp held fuel 23 cs = some (.agg [.lit (.string t.name), .lit (.int .i64 t.syn), .lit (.bool t.single)], q)) : cs = tval t := by
  obtain ⟨y0, y1, y2, n, hx, hl, h0, h1, h2⟩ := Deep.trod_struct3 Tryz.underlying23 h
  obtain ⟨s, e0, rfl, _⟩ := DataW.trod_string Tryz.underlying9 h0
  obtain ⟨z, e1, rfl, _⟩ := DataW.trod_int Tryz.underlying3 h1
  obtain ⟨b, e2, rfl⟩ := DataW.trod_bool Tryz.underlying4 h2
  have hx1 := congrArg Prod.fst hx
  simp only [DataW.agg.injEq, List.cons.injEq, DataW.lit.injEq, Lit.string.injEq, Lit.int.injEq, Lit.bool.injEq, true_and, and_true] at hx1
  obtain ⟨x0, x1, x2⟩ := hx1
  have k0 : Tryz.prog.cellsOf 9 = 1 := by kernel_rfl
  have k1 : Tryz.prog.cellsOf 3 = 1 := by kernel_rfl
  have k2 : Tryz.prog.cellsOf 4 = 1 := by kernel_rfl
  have k3 : Tryz.prog.cellsOf 23 = 3 := by kernel_rfl
  rw [k3] at hl
  obtain ⟨a, b', c, rfl⟩ : ∃ a b' c, cs = [a, b', c] := by
    match cs, hl with
    | [a, b', c], _ => exact ⟨a, b', c, rfl⟩
  · skip
    have e0' : [a] = [Value.string s] := by simpa [k0] using e0
    have e1' : [b'] = [Value.int .i64 z] := by simpa [k1] using e1
    have e2' : [c] = [Value.bool b] := by simpa [k2] using e2
    cases e0'; cases e1'; cases e2'
    unfold tval bs
    rw [x0, x1, x2]
/-- WHAT THE ROW's LIST GIVES: the table lies where it was laid. -/
theorem tyEnv_of_reads {w : World} (h : Lib.VarReads Tryz.prog w "rollbook/attr.types" tyData) : Hid (TyEnv w) := by
  obtain ⟨g, t, cs, fuel, p, hg, hty, hvar, hd⟩ := h
  obtain rfl := Option.some.inj ((show Tryz.prog.globalNamed "rollbook/attr.types" = some 0 by kernel_rfl).symm.trans hg)
  obtain rfl := Option.some.inj ((show (Tryz.prog.globals[0]?).map (·.type) = some 63 by kernel_rfl).symm.trans hty)
  have k3 : Tryz.prog.cellsOf 23 = 3 := by kernel_rfl
  have hall := rows_take tval 3 tys cs.toList (by
    intro i hi
    obtain ⟨fuel', d, q, hdi, he⟩ := Lib.array_elem Tryz.underlying63 hd i hi
    rw [List.getElem?_map, List.getElem?_eq_getElem hi] at hdi
    simp only [Option.map_some, Option.some.injEq] at hdi
    subst hdi
    rw [k3] at he
    exact trod_ty he)
  intro j v hj
  have hlt : j < 60 := by
    have h1 := (List.getElem?_eq_some_iff.1 hj).1
    have h2 : tcells.length = 60 := by kernel_rfl
    omega
  have hj2 : (cs.toList.take (tys.length * 3))[j]? = some v := by rw [hall]; exact hj
  rw [List.getElem?_take, if_pos (by rw [tys_len]; omega)] at hj2
  rw [Nat.zero_add, World.var?_cell hg hvar j, ← Array.getElem?_toList]
  exact hj2
end atw
end Go.Proofs.YtckpiaigoeicfaaGreatDoor
/-! StrsOf -/
namespace Go.Proofs.YtckpiaigoeicfaaGreatDoor
open Go.RowKit
namespace tupo
open tupw
theorem cell_spot {w : World} {b o : Nat} {sp : Option Nat} {v : Value} (h : w.cell? ⟨b, o, sp⟩ = some v) : sp = none := by
  cases sp with
  | none => rfl
  | some x =>
    unfold World.cell? at h
    simp at h
    split at h <;> cases h
/-- a list of texts that came in -/
theorem texts_of {H : Type} {enc : TypeId × Value → H} {P : Program} {w : World} {base : Nat} {sp : Nat → Bool} {held : Bool} {t e : TypeId} {d : DataW H} {p : List MemPlace} {ao : Option Addr} {len cap : Nat}
    (ht : P.underlying t = some (.slice e)) (he : P.underlying e = some .string) (hc : P.cellsOf e = 1)
    (h : ∃ fuel, DataW.trod enc P w base sp held fuel t [.slice ao len cap] = some (d, p)) : ∃ l : List ByteArray, len = l.length ∧ Strs w ao l ∧ (∀ s ∈ l, s.size ≤ maxLen) ∧ len ≤ maxLen ∧ len ≤ cap ∧ (ao = none → len = 0 ∧ cap = 0) := by
  obtain ⟨fuel, h⟩ := h
  rcases ChangeShapes.open_strings ht he hc h with ⟨hcs, _⟩ | ⟨a, len', cap', ss, hcs, _, hlc, hcm, hlen, _, hcell, hsm⟩
  · simp at hcs
    obtain ⟨rfl, rfl, rfl⟩ := hcs
    exact ⟨[], rfl, fun i hi => by simp at hi, fun s hs => by simp at hs, by omega, by omega, fun _ => ⟨rfl, rfl⟩⟩
  · simp at hcs
    obtain ⟨rfl, rfl, rfl⟩ := hcs
    have hle : len ≤ ss.length := by rw [hlen]; split <;> omega
    refine ⟨ss.take len, by simp; omega, fun i hi => ?_, fun s hs => hsm s (List.mem_of_mem_take hs), by omega, hlc, fun e => by simp at e⟩
    have hi' : i < len := by simp at hi; omega
    have hc2 := hcell i (by omega)
    obtain ⟨b, o, spt⟩ := a
    have hsp : spt = none := by
      cases spt with
      | none => rfl
      | some x =>
        exfalso
        have hz := hcell 0 (by omega)
        have e0 : (⟨b, o, some x⟩ : Addr).add 0 = ⟨b, o, some x⟩ := by unfold Addr.add; rfl
        rw [e0] at hz
        exact absurd (cell_spot hz) (by simp)
    subst hsp
    refine ⟨b, o, rfl, ?_⟩
    rw [Addr.add_mid] at hc2
    rw [hc2, List.getElem_take]
    simp [List.getD, List.getElem?_eq_getElem (show i < ss.length by omega)]

end tupo
end Go.Proofs.YtckpiaigoeicfaaGreatDoor
/-! NamesW -/
namespace Go.Proofs.YtckpiaigoeicfaaGreatDoor
open Go.RowKit
namespace atw
open atp tupw prw
set_option linter.unusedVariables false
set_option linter.unusedSimpArgs false
/-- all names -/
def namesL : List ByteArray := tys.map fun t => bs t.name
theorem namesL_len : namesL.length = 20 := rfl
theorem namesL_at (i : Nat) (h : i < 20) (h' : i < namesL.length) : namesL[i] = bs (tys[i]'h).name := List.getElem_map (fun t : Ty => bs t.name)
set_option maxRecDepth 20000 in
set_option maxHeartbeats 4000000 in
theorem names_any (w : World) (hE : Hid (TyEnv w)) : Calls Tryz.prog 23 #[] w fun e w' => ∃ v, e = .returned v ∧ Hid (OwnT w' w.heap.size v namesL) ∧ Below w.heap.size w w' := by
  obtain ⟨cs, hcs⟩ : ∃ cs : List Value, Hid (cs = tcells) := ⟨_, rfl⟩
  have HIX : Hid (∀ (i : Nat) (hi : i < 20) w, (Instr.index 63 (.agg cs.toArray) (.int .i64 (i : Int))).run Tryz.prog w = .ok (.agg #[.string (bs (tys[i]'hi).name), .int .i64 (tys[i]'hi).syn, .bool (tys[i]'hi).single]) w) := by
    rw [hcs.out]
    exact tix
  have HTI : Hid ((Tryz.prog.info? 63).map (·.size) = some cs.length) := by rw [hcs.out]; exact tinfo
  have hr : w.rangeAt 0 0 cs := by rw [hcs.out]; exact hE.out
  clear hcs
  go_enter Tryz.func23, Tryz.ntmps23
  go_wp2_with (refine wpList_load_mid rfl 63 _ rfl 0 0 rfl cs _ hr Tryz.underlying63 rfl HTI.out ?_)
  clear hr
  go_loopw [1, 5] (fun lv iv wr => ∃ i : Nat, i ≤ 20 ∧ iv = .int .i64 (i : Int) ∧ Hid (OwnT wr w.heap.size lv ((tys.take i).map fun t => bs t.name)) ∧ Hid (Below w.heap.size w wr)) (fun _ iv _ => 20 - (intOf iv).toNat)
  case atStart => exact ⟨0, by omega, rfl, World.ownsRow_nil _ _ _ _, Below.refl _ _⟩
  case round =>
    obtain ⟨i, hi, rfl, hO, hB⟩ := hrel
    obtain ⟨aoR, mR, capR, rfl, hmR⟩ := dnw.ownT_form hO.out
    by_cases hlt : i < 20
    · have hlt' : (i : Int) < 20 := by omega
      have hix := HIX.out i hlt
      have HST := Lib.hid (dnw.takeMap_step (fun t : Ty => bs t.name) tys i hlt)
      have hml : ((tys.take i).map fun t => bs t.name).length ≤ 20 := by rw [List.length_map, List.length_take]; omega
      have HML := Lib.hid hml
      generalize (tys[i]'hlt) = t at hix HST
      obtain ⟨W, hW⟩ : ∃ W, wr.alloc (.cells #[.string (bs t.name), .int .i64 t.syn, .bool t.single] 23) = W := ⟨_, rfl⟩
      have hBW : Below wr.heap.size wr W := by rw [← hW]; exact (Below.refl _ _).alloc (Nat.le_refl _) _
      have hBX : Below w.heap.size w W := hB.out.trans (hBW.mono hB.out.size)
      have k0 : W.cell? ⟨wr.heap.size, 0, none⟩ = some (.string (bs t.name)) := by rw [← hW, World.cell?_alloc_new]; rfl
      have k1 : W.cell? ⟨wr.heap.size, 1, none⟩ = some (.int .i64 t.syn) := by rw [← hW, World.cell?_alloc_new]; rfl
      have k2 : W.cell? ⟨wr.heap.size, 2, none⟩ = some (.bool t.single) := by rw [← hW, World.cell?_alloc_new]; rfl
      obtain ⟨ao7, m7, cap7, w7, hap, hO7, hg7, hB7⟩ := dnw.ownT_appG (bs t.name) (dnw.ownT_below hO.out hBW) (Nat.le_trans HML.out (by omega)) hBX.size
      have HO7 := Lib.hid hO7
      have HB7 := Lib.hid (hBX.trans hB7)
      clear hO7 hg7 hB7 hBW hBX hml
      go_wp2_with (at_builtin; refine Lib.wpList_append_run _ rfl _ _ _ _ rfl _ _ rfl rfl _ _ hap ?_)
      go_roundw
      case rel =>
        refine ⟨i + 1, by omega, by go_num, ?_, HB7⟩
        show prw.OwnT _ _ _ _
        rw [HST.out]
        exact HO7.out
      case measure => simp [intOf]; omega
    · obtain rfl : i = 20 := by omega
      go_wp2_with fail
      go_ret
      exact ⟨_, rfl, hO, hB.out⟩
end atw
end Go.Proofs.YtckpiaigoeicfaaGreatDoor
/-! CmpT -/
namespace Go.Proofs.YtckpiaigoeicfaaGreatDoor
namespace ord
open Go.Lib
theorem u8_trans {a b c : UInt8} (h : a < b) (k : b < c) : a < c := by
  have h1 := UInt8.lt_iff_toNat_lt.1 h
  have h2 := UInt8.lt_iff_toNat_lt.1 k
  exact UInt8.lt_iff_toNat_lt.2 (by omega)
theorem cmp_trans : ∀ {a b c : List UInt8}, compareBytes a b = -1 → compareBytes b c = -1 → compareBytes a c = -1
  | [], [], _, h, _ => by cases h
  | [], _ :: _, [], _, h => by cases h
  | [], _ :: _, _ :: _, _, _ => rfl
  | _ :: _, [], _, h, _ => by cases h
  | _ :: _, _ :: _, [], _, h => by cases h
  | a :: s, b :: t, c :: u, h, k => by
    rcases cmp_cases a b with h1 | h1 | rfl
    · rcases cmp_cases b c with k1 | k1 | rfl
      · exact cmp_lt (u8_trans h1 k1) _ _
      · rw [cmp_gt k1] at k; cases k
      · exact cmp_lt h1 _ _
    · rw [cmp_gt h1] at h; cases h
    · rcases cmp_cases a c with k1 | k1 | rfl
      · exact cmp_lt k1 _ _
      · rw [cmp_gt k1] at k; cases k
      · rw [cmp_same] at h k ⊢
        exact cmp_trans h k
end ord
end Go.Proofs.YtckpiaigoeicfaaGreatDoor
/-! CmpB -/
namespace Go.Proofs.YtckpiaigoeicfaaGreatDoor
namespace ord
open Go.Lib
theorem less_cmp : ∀ a b : List UInt8, Op.bytesLess a b = decide (compareBytes a b = -1)
  | [], [] => rfl
  | [], _ :: _ => rfl
  | _ :: _, [] => rfl
  | a :: s, b :: t => by
    rcases cmp_cases a b with h | h | rfl
    · rw [cmp_lt h]
      simp [Op.bytesLess, h]
    · rw [cmp_gt h]
      have hn : ¬ a < b := by
        intro h'
        have h1 := UInt8.lt_iff_toNat_lt.1 h
        have h2 := UInt8.lt_iff_toNat_lt.1 h'
        omega
      have hne : ¬ a = b := by rintro rfl; exact absurd (UInt8.lt_iff_toNat_lt.1 h) (by omega)
      simp [Op.bytesLess, hn, hne]
    · rw [cmp_same, ← less_cmp s t]
      simp [Op.bytesLess]
theorem cmp_zero : ∀ a b : List UInt8, compareBytes a b = 0 ↔ a = b
  | [], [] => by simp [compareBytes]
  | [], _ :: _ => by simp [compareBytes]
  | _ :: _, [] => by simp [compareBytes]
  | a :: s, b :: t => by
    rcases cmp_cases a b with h | h | rfl
    · rw [cmp_lt h]
      have : a ≠ b := by rintro rfl; exact absurd (UInt8.lt_iff_toNat_lt.1 h) (by omega)
      simp [this]
    · rw [cmp_gt h]
      have : a ≠ b := by rintro rfl; exact absurd (UInt8.lt_iff_toNat_lt.1 h) (by omega)
      simp [this]
    · rw [cmp_same, cmp_zero s t]
      simp
/-- the three ways, as the walk asks them -/
theorem ways (a b : ByteArray) :
    (compareBytes a.data.toList b.data.toList = -1 ∧ Op.bytesLess a.toList b.toList = true ∧ (a.toList == b.toList) = false ∧ Op.bytesLess b.toList a.toList = false) ∨
    (compareBytes a.data.toList b.data.toList = 0 ∧ a = b) ∨
    (compareBytes a.data.toList b.data.toList = 1 ∧ Op.bytesLess a.toList b.toList = false ∧ (a.toList == b.toList) = false ∧ Op.bytesLess b.toList a.toList = true) := by
  rw [Lib.toList_data, Lib.toList_data, less_cmp, less_cmp, cmp_neg a.data.toList b.data.toList]
  rcases cmp_three a.data.toList b.data.toList with h | h | h
  · left
    refine ⟨h, by rw [h]; rfl, ?_, by rw [h]; rfl⟩
    rw [beq_eq_false_iff_ne]
    intro e
    have := (cmp_zero _ _).2 e
    omega
  · right; left
    refine ⟨h, ?_⟩
    have e := (cmp_zero _ _).1 h
    cases a; cases b
    simp at e
    simp [e]
  · right; right
    refine ⟨h, by rw [h]; rfl, ?_, by rw [h]; rfl⟩
    rw [beq_eq_false_iff_ne]
    intro e
    have := (cmp_zero _ _).2 e
    omega
end ord
end Go.Proofs.YtckpiaigoeicfaaGreatDoor
/-! OrdQ -/
namespace Go.Proofs.YtckpiaigoeicfaaGreatDoor
namespace atp
open atw
set_option linter.unusedVariables false
set_option linter.unusedSimpArgs false
theorem worth_acc : ∀ (l : List UInt8) (n : Nat), l.foldl (fun n c => 10 * n + (c.toNat - 48)) n = n * 10 ^ l.length + worthN l
  | [], n => by simp [worthN]
  | c :: t, n => by
    have h1 := worth_acc t (10 * n + (c.toNat - 48))
    have h2 := worth_acc t (10 * 0 + (c.toNat - 48))
    show t.foldl _ (10 * n + (c.toNat - 48)) = _ + t.foldl _ (10 * 0 + (c.toNat - 48))
    rw [h1, h2, List.length_cons, Nat.pow_succ, Nat.add_mul, Nat.mul_zero, Nat.zero_add, Nat.mul_assoc, ← Nat.mul_assoc n, Nat.mul_comm (n * 10 ^ t.length) 10]
    omega
theorem worth_cons (c : UInt8) (t : List UInt8) : worthN (c :: t) = (c.toNat - 48) * 10 ^ t.length + worthN t := by
  have := worth_acc t (10 * 0 + (c.toNat - 48))
  have e : 10 * 0 + (c.toNat - 48) = c.toNat - 48 := by omega
  show t.foldl _ (10 * 0 + (c.toNat - 48)) = _
  rw [this, e]
theorem digit_le {c : UInt8} (h : digit c = true) : 48 ≤ c.toNat ∧ c.toNat ≤ 57 := by unfold digit at h; exact of_decide_eq_true h
theorem worth_lt : ∀ l : List UInt8, l.all digit = true → worthN l < 10 ^ l.length
  | [], _ => by simp [worthN]
  | c :: t, h => by
    rw [List.all_cons, Bool.and_eq_true] at h
    have h1 := worth_lt t h.2
    have h2 := digit_le h.1
    have h3 : (c.toNat - 48) * 10 ^ t.length ≤ 9 * 10 ^ t.length := Nat.mul_le_mul_right _ (by omega)
    rw [worth_cons, List.length_cons, Nat.pow_succ]
    omega
theorem worth_inj : ∀ l m : List UInt8, l.all digit = true → m.all digit = true → l.length = m.length → worthN l = worthN m → l = m
  | [], [], _, _, _, _ => rfl
  | [], _ :: _, _, _, h, _ => by cases h
  | _ :: _, [], _, _, h, _ => by cases h
  | c :: t, d :: u, hl, hm, hlen, hw => by
    rw [List.all_cons, Bool.and_eq_true] at hl hm
    have hlen' : t.length = u.length := by simpa using hlen
    have h1 := worth_lt t hl.2
    have h2 := worth_lt u hm.2
    have hc := digit_le hl.1
    have hd := digit_le hm.1
    rw [worth_cons, worth_cons, ← hlen'] at hw
    rw [← hlen'] at h2
    have e : c.toNat = d.toNat := by
      rcases Nat.lt_trichotomy c.toNat d.toNat with h | h | h
      · have : (c.toNat - 48 + 1) * 10 ^ t.length ≤ (d.toNat - 48) * 10 ^ t.length := Nat.mul_le_mul_right _ (by omega)
        rw [Nat.add_mul, Nat.one_mul] at this
        omega
      · exact h
      · have : (d.toNat - 48 + 1) * 10 ^ t.length ≤ (c.toNat - 48) * 10 ^ t.length := Nat.mul_le_mul_right _ (by omega)
        rw [Nat.add_mul, Nat.one_mul] at this
        omega
    rw [e] at hw
    have e2 : c = d := UInt8.toNat_inj.1 e
    rw [e2, worth_inj t u hl.2 hm.2 hlen' (by omega)]
def Good (l : List UInt8) : Prop := l.all digit = true ∧ l.head? ≠ some 48 ∧ l ≠ []
theorem good_ge {l : List UInt8} (h : Good l) : 10 ^ (l.length - 1) ≤ worthN l := by
  obtain ⟨h1, h2, h3⟩ := h
  cases l with
  | nil => exact absurd rfl h3
  | cons c t =>
    rw [List.all_cons, Bool.and_eq_true] at h1
    have hc := digit_le h1.1
    have hne : c.toNat ≠ 48 := by
      intro e
      apply h2
      have : c = 48 := UInt8.toNat_inj.1 e
      rw [this]; rfl
    have : 1 * 10 ^ t.length ≤ (c.toNat - 48) * 10 ^ t.length := Nat.mul_le_mul_right _ (by omega)
    rw [worth_cons, List.length_cons, Nat.add_sub_cancel]
    omega
theorem good_pos {l : List UInt8} (h : Good l) : 0 < worthN l := Nat.lt_of_lt_of_le (Nat.pow_pos (by omega)) (good_ge h)
theorem good_inj {l m : List UInt8} (hl : Good l) (hm : Good m) (h : worthN l = worthN m) : l = m := by
  refine worth_inj l m hl.1 hm.1 ?_ h
  have a1 := good_ge hl
  have a2 := good_ge hm
  have b1 := worth_lt l hl.1
  have b2 := worth_lt m hm.1
  have c1 : 0 < l.length := List.length_pos_iff.2 hl.2.2
  have c2 : 0 < m.length := List.length_pos_iff.2 hm.2.2
  rcases Nat.lt_trichotomy l.length m.length with e | e | e
  · have : 10 ^ l.length ≤ 10 ^ (m.length - 1) := Nat.pow_le_pow_right (by omega) (by omega)
    omega
  · exact e
  · have : 10 ^ m.length ≤ 10 ^ (l.length - 1) := Nat.pow_le_pow_right (by omega) (by omega)
    omega
theorem num_cases {l : List UInt8} (h : numOK l = true) : (l = [48] ∧ worth l = 0) ∨ (∃ t, l = 45 :: t ∧ Good t ∧ worth l = -(worthN t : Int)) ∨ (Good l ∧ worth l = (worthN l : Int)) := by
  unfold numOK at h
  rw [Bool.or_eq_true] at h
  rcases h with h | h
  · rw [decide_eq_true_iff] at h
    subst h
    exact Or.inl ⟨rfl, by decide⟩
  · simp only [Bool.and_eq_true, decide_eq_true_eq] at h
    obtain ⟨⟨⟨h1, h2⟩, h3⟩, h4⟩ := h
    have hg : Good (bare l) := ⟨h4, h3, List.length_pos_iff.1 h1⟩
    by_cases h45 : l.head? = some 45
    · refine Or.inr (Or.inl ?_)
      cases l with
      | nil => cases h45
      | cons c t =>
        simp only [List.head?_cons, Option.some.injEq] at h45
        subst h45
        exact ⟨t, rfl, hg, rfl⟩
    · refine Or.inr (Or.inr ?_)
      have e : bare l = l := by unfold bare; rw [if_neg h45]
      rw [e] at hg
      refine ⟨hg, ?_⟩
      unfold worth
      rw [if_neg h45, e]
theorem num_inj {l m : List UInt8} (hl : numOK l = true) (hm : numOK m = true) (h : worth l = worth m) : l = m := by
  rcases num_cases hl with ⟨e1, w1⟩ | ⟨t, e1, g1, w1⟩ | ⟨g1, w1⟩ <;> rcases num_cases hm with ⟨e2, w2⟩ | ⟨u, e2, g2, w2⟩ | ⟨g2, w2⟩
  · rw [e1, e2]
  · have := good_pos g2; omega
  · have := good_pos g2; omega
  · have := good_pos g1; omega
  · rw [e1, e2, good_inj g1 g2 (by omega)]
  · have := good_pos g1; have := good_pos g2; omega
  · have := good_pos g1; omega
  · have := good_pos g1; have := good_pos g2; omega
  · exact good_inj g1 g2 (by omega)
theorem both_ok {syn : Int} {a b : List UInt8} (ha : (normL syn a).2 = 0) (hb : (normL syn b).2 = 0) : bothL syn a b = ((normL syn a).1, (normL syn b).1, 0) := by
  unfold bothL
  rw [if_neg (not_not_intro ha), if_neg (not_not_intro hb)]
theorem both_err {syn : Int} {a b : List UInt8} : (bothL syn a b).2.2 = 0 ↔ (normL syn a).2 = 0 ∧ (normL syn b).2 = 0 := by
  unfold bothL
  by_cases ha : (normL syn a).2 = 0
  · by_cases hb : (normL syn b).2 = 0
    · rw [if_neg (not_not_intro ha), if_neg (not_not_intro hb)]; exact ⟨fun _ => ⟨ha, hb⟩, fun _ => rfl⟩
    · rw [if_neg (not_not_intro ha), if_pos hb]; exact ⟨fun h => absurd h hb, fun h => absurd h.2 hb⟩
  · rw [if_pos ha]; exact ⟨fun h => absurd h ha, fun h => absurd h.1 ha⟩
theorem eq_ok {syn : Int} {a b : List UInt8} (ha : (normL syn a).2 = 0) (hb : (normL syn b).2 = 0) : eqL syn a b = (decide ((normL syn a).1 = (normL syn b).1), 0) := by
  unfold eqL
  rw [both_ok ha hb]
  rfl
theorem eq_err {syn : Int} {a b : List UInt8} : (eqL syn a b).2 = 0 ↔ (normL syn a).2 = 0 ∧ (normL syn b).2 = 0 := both_err
/-- what an order is: three-way, both ways, in a row -/
structure IsOrd (f : List UInt8 → List UInt8 → Int) (p : List UInt8 → Prop) : Prop where
  three : ∀ a b, f a b = -1 ∨ f a b = 0 ∨ f a b = 1
  zero : ∀ a b, p a → p b → (f a b = 0 ↔ a = b)
  neg : ∀ a b, f b a = - f a b
  trans : ∀ a b c, p a → p b → p c → f a b ≤ 0 → f b c ≤ 0 → f a c ≤ 0
theorem ord_bytes : IsOrd Lib.compareBytes (fun _ => True) where
  three := ord.cmp_three
  zero a b _ _ := ord.cmp_zero a b
  neg := ord.cmp_neg
  trans a b c _ _ _ h1 h2 := by
    rcases ord.cmp_three a b with e | e | e
    · rcases ord.cmp_three b c with e2 | e2 | e2
      · rw [ord.cmp_trans e e2]; omega
      · rw [(ord.cmp_zero b c).1 e2] at e; omega
      · omega
    · rw [(ord.cmp_zero a b).1 e]; exact h2
    · omega
theorem ci_lt {x y : Int} (h : x < y) : Lib.compareInt x y = -1 := by unfold Lib.compareInt; rw [if_pos h]
theorem ci_gt {x y : Int} (h : y < x) : Lib.compareInt x y = 1 := by unfold Lib.compareInt; rw [if_neg (by omega), if_pos h]
theorem ci_eq {x y : Int} (h : x = y) : Lib.compareInt x y = 0 := by unfold Lib.compareInt; rw [if_neg (by omega), if_neg (by omega)]
theorem ord_nums : IsOrd (fun a b => Lib.compareInt (worth a) (worth b)) (fun a => numOK a = true) where
  three a b := by
    rcases Int.lt_trichotomy (worth a) (worth b) with h | h | h
    · exact Or.inl (ci_lt h)
    · exact Or.inr (Or.inl (ci_eq h))
    · exact Or.inr (Or.inr (ci_gt h))
  zero a b ha hb := by
    constructor
    · intro h
      apply num_inj ha hb
      rcases Int.lt_trichotomy (worth a) (worth b) with h' | h' | h'
      · rw [ci_lt h'] at h; omega
      · exact h'
      · rw [ci_gt h'] at h; omega
    · rintro rfl; exact ci_eq rfl
  neg a b := by
    rcases Int.lt_trichotomy (worth a) (worth b) with h | h | h
    · rw [ci_lt h, ci_gt h]; rfl
    · rw [ci_eq h, ci_eq h.symm]; rfl
    · rw [ci_gt h, ci_lt h]
  trans a b c ha hb hc h1 h2 := by
    rcases Int.lt_trichotomy (worth a) (worth b) with h | h | h <;> rcases Int.lt_trichotomy (worth b) (worth c) with h' | h' | h'
    all_goals first
      | (exfalso; rw [ci_gt h] at h1; omega)
      | (exfalso; rw [ci_gt h'] at h2; omega)
      | (rw [ci_lt (show worth a < worth c by omega)]; omega)
      | (rw [ci_eq (show worth a = worth c by omega)]; omega)
/-- the order of values that may be -/
theorem ord_laws {syn : Int} (hs : ordS syn = true) : ∃ f p, IsOrd f p ∧ (∀ a, (normL syn a).2 = 0 → p (normL syn a).1) ∧ ∀ a b, (normL syn a).2 = 0 → (normL syn b).2 = 0 → ordL syn a b = (f (normL syn a).1 (normL syn b).1, 0) := by
  by_cases h4 : syn = 4
  · subst h4
    refine ⟨_, _, ord_nums, fun a h => (norm_num h).1, fun a b ha hb => ?_⟩
    rw [ordL_num (both_err.2 ⟨ha, hb⟩), both_ok ha hb]
  · refine ⟨_, _, ord_bytes, fun _ _ => trivial, fun a b ha hb => ?_⟩
    rw [ordL_txt hs h4 (both_err.2 ⟨ha, hb⟩), both_ok ha hb]
end atp
end Go.Proofs.YtckpiaigoeicfaaGreatDoor
/-! EndsP -/
namespace Go.Proofs.YtckpiaigoeicfaaGreatDoor
namespace atp
open atw run prp
set_option linter.unusedVariables false
set_option linter.unusedSimpArgs false
theorem runes_text' {m : List Int} (h : ∀ v ∈ m, okR v) : runes (text m) = some m := by
  have := runes_of m [] h
  rw [List.append_nil, runes_nil] at this
  rw [this]
  simp
theorem mapped_self {m : List Int} (h1 : ∀ x ∈ m, dropB x = false) (h2 : ∀ x ∈ m, blankB x = true → x = 32) : mapped false m = m := by
  unfold mapped
  rw [List.filter_eq_self.2 (by intro x hx; rw [h1 x hx]; rfl)]
  conv => rhs; rw [← List.map_id m]
  refine List.map_congr_left fun x hx => ?_
  unfold mapR
  by_cases hb : blankB x = true
  · rw [if_pos hb, h2 x hx hb]; rfl
  · rw [if_neg hb, if_neg (by simp)]; rfl
/-- runes that stay as they are -/
def Stay (m : List Int) : Prop := (∀ v ∈ m, okR v) ∧ (∀ x ∈ m, dropB x = false) ∧ (∀ x ∈ m, blankB x = true → x = 32)
theorem stay_left {a b : List Int} (h : Stay (a ++ b)) : Stay a := ⟨fun v hv => h.1 v (List.mem_append_left _ hv), fun v hv => h.2.1 v (List.mem_append_left _ hv), fun v hv => h.2.2 v (List.mem_append_left _ hv)⟩
theorem stay_right {a b : List Int} (h : Stay (a ++ b)) : Stay b := ⟨fun v hv => h.1 v (List.mem_append_right _ hv), fun v hv => h.2.1 v (List.mem_append_right _ hv), fun v hv => h.2.2 v (List.mem_append_right _ hv)⟩
theorem stay_piece {m : List Int} (h : Stay m) : pieceO 2 (text m) = some (text m) := by
  unfold pieceO
  rw [if_neg (by decide)]
  show mapO (text m) false = _
  unfold mapO
  rw [runes_text' h.1]
  show some (text (mapped false m)) = _
  rw [mapped_self h.2.1 h.2.2]
theorem ready_stay {l s : List UInt8} (h : readyO l false = some s) : ∃ r, s = text r ∧ Stay r ∧ readyR false r = r := by
  unfold readyO at h
  obtain ⟨m, hm, rfl⟩ := Option.map_eq_some_iff.1 h
  obtain ⟨_, hok⟩ := runes_text _ l m (Nat.le_refl _) hm
  refine ⟨readyR false m, rfl, ⟨ready_ok hok, ?_, ?_⟩, ready_ready false false m⟩
  · intro x hx
    exact (mapped_keeps false m).1 x (sq_mem _ _ _ x hx)
  · intro x hx
    exact (mapped_keeps false m).2 x (sq_mem _ _ _ x hx)
theorem ready_norm {l s : List UInt8} (h : readyO l false = some s) (h1 : s ≠ []) (h2 : s.length ≤ 1000) : normL 2 s = (s, 0) := by
  obtain ⟨r, rfl, hs, hr⟩ := ready_stay h
  rw [normL_form (by omega) h2 h1]
  have e : formO 2 (text r) = ne0 (readyO (text r) false) := rfl
  have e2 : readyO (text r) false = some (text r) := by
    unfold readyO
    rw [runes_text' hs.1]
    show some (text (readyR false r)) = _
    rw [hr]
  rw [e, e2, ne0_some h1]
theorem enc_tail {v : Int} (h : okR v) (j : Nat) (c : UInt8) (hj : 0 < j) (hc : (enc v)[j]? = some c) : 128 ≤ c.toNat ∧ c.toNat < 192 := by
  obtain ⟨h0, h1, h2⟩ := h
  by_cases a1 : v ≤ 127
  · rw [enc_one h0 a1] at hc
    match j, hj with
    | j + 1, _ => simp at hc
  · by_cases a2 : v ≤ 2047
    · rw [enc_two (by omega) a2] at hc
      match j, hj with
      | 1, _ =>
        simp only [List.getElem?_cons_succ, List.getElem?_cons_zero, Option.some.injEq] at hc
        rw [← hc, u8z _ (by omega) (by omega)]; omega
      | j + 2, _ => simp at hc
    · by_cases a3 : v ≤ 65535
      · rw [enc_three (by omega)] at hc
        match j, hj with
        | 1, _ =>
          simp only [List.getElem?_cons_succ, List.getElem?_cons_zero, Option.some.injEq] at hc
          rw [← hc, u8z _ (by omega) (by omega)]; omega
        | 2, _ =>
          simp only [List.getElem?_cons_succ, List.getElem?_cons_zero, Option.some.injEq] at hc
          rw [← hc, u8z _ (by omega) (by omega)]; omega
        | j + 3, _ => simp at hc
      · rw [enc_four (by omega) h1] at hc
        match j, hj with
        | 1, _ =>
          simp only [List.getElem?_cons_succ, List.getElem?_cons_zero, Option.some.injEq] at hc
          rw [← hc, u8z _ (by omega) (by omega)]; omega
        | 2, _ =>
          simp only [List.getElem?_cons_succ, List.getElem?_cons_zero, Option.some.injEq] at hc
          rw [← hc, u8z _ (by omega) (by omega)]; omega
        | 3, _ =>
          simp only [List.getElem?_cons_succ, List.getElem?_cons_zero, Option.some.injEq] at hc
          rw [← hc, u8z _ (by omega) (by omega)]; omega
        | j + 4, _ => simp at hc
/-- a place where a rune begins, or the end -/
def Brk (l : List UInt8) (k : Nat) : Prop := k ≤ l.length ∧ ∀ c, l[k]? = some c → ¬ (128 ≤ c.toNat ∧ c.toNat < 192)
theorem cut_runes : ∀ (r : List Int) (k : Nat), (∀ v ∈ r, okR v) → Brk (text r) k → ∃ r1 r2, r = r1 ++ r2 ∧ text r1 = (text r).take k ∧ text r2 = (text r).drop k
  | [], k, _, h => by
    have hk : k = 0 := by have := h.1; simp [text_nil] at this; exact this
    subst hk
    exact ⟨[], [], rfl, rfl, rfl⟩
  | v :: r, k, hok, h => by
    by_cases hk : k = 0
    · subst hk
      exact ⟨[], v :: r, rfl, rfl, rfl⟩
    · rw [text_cons] at h ⊢
      by_cases hlt : k < (enc v).length
      · exfalso
        obtain ⟨c, hc⟩ : ∃ c, (enc v)[k]? = some c := ⟨_, List.getElem?_eq_getElem hlt⟩
        refine h.2 c ?_ (enc_tail (hok v (by simp)) k c (by omega) hc)
        rw [List.getElem?_append_left hlt, hc]
      · have hb : Brk (text r) (k - (enc v).length) := by
          refine ⟨by have := h.1; rw [List.length_append] at this; omega, fun c hc => h.2 c ?_⟩
          rw [List.getElem?_append_right (by omega), hc]
        obtain ⟨r1, r2, e, e1, e2⟩ := cut_runes r (k - (enc v).length) (fun u hu => hok u (by simp [hu])) hb
        refine ⟨v :: r1, r2, by rw [e]; rfl, ?_, ?_⟩
        · rw [text_cons, e1, List.take_append, List.take_of_length_le (Nat.le_of_not_lt hlt)]
        · rw [e2, List.drop_append, List.drop_of_length_le (Nat.le_of_not_lt hlt)]
          rfl
theorem index_self (p : List UInt8) : Lib.index p p = 0 := by
  have := stand_hit (s := p) (p := p) (k := 0) (by omega) (by simp)
  simpa using this
theorem partL_three (A M Z : List UInt8) : partL (A ++ (M ++ Z)) A Z [M] = true := by
  have h3 : (A ++ (M ++ Z)).length - Z.length = (A ++ M).length := by simp only [List.length_append]; omega
  rw [partR_yes (by simp only [List.length_append]; omega) (by rw [List.take_left]) (by rw [h3, ← List.append_assoc, List.drop_left]), h3, ← List.append_assoc, List.take_left, List.drop_left]
  show (if Lib.index M M < 0 then false else _) = true
  rw [index_self, if_neg (by omega)]
  rfl
theorem partL_two (A M Z : List UInt8) : partL (A ++ (M ++ Z)) A Z [] = true := by
  have h3 : (A ++ (M ++ Z)).length - Z.length = (A ++ M).length := by simp only [List.length_append]; omega
  rw [partR_yes (by simp only [List.length_append]; omega) (by rw [List.take_left]) (by rw [h3, ← List.append_assoc, List.drop_left])]
  rfl
theorem part_yes {S first last : ByteArray} {mids : List ByteArray} (hn : normL 2 S.data.toList = (S.data.toList, 0)) (h8 : mids.length ≤ 8) (hs : (first :: (mids ++ [last])).any neB = true)
    (hp : ∀ x ∈ first :: (mids ++ [last]), pieceO 2 x.data.toList = some x.data.toList) (hc : partL S.data.toList first.data.toList last.data.toList (mids.map (·.data.toList)) = true) : partE 2 S first last mids = (true, 0) := by
  have hall : allP 2 (first :: (mids ++ [last])) = true := by
    unfold allP
    rw [List.all_eq_true]
    intro x hx
    rw [hp x hx]; rfl
  have hg : ∀ x ∈ first :: (mids ++ [last]), gotP 2 x = x.data.toList := by
    intro x hx
    unfold gotP
    rw [hp x hx]; rfl
  have hm : mids.map (gotP 2) = mids.map (·.data.toList) := List.map_congr_left fun x hx => hg x (by simp [hx])
  unfold partE
  rw [if_neg (by omega), if_neg (by omega), hs, if_neg (by simp), hn, if_neg (by simp), hall, if_neg (by simp), hg first (by simp), hg last (by simp), hm, hc]
theorem take_mid (l : List UInt8) {a b : Nat} (h : a ≤ b) : l = l.take a ++ ((l.drop a).take (b - a) ++ l.drop b) := by
  have h1 : l.drop b = (l.drop a).drop (b - a) := by rw [List.drop_drop]; congr 1; omega
  rw [h1, List.take_append_drop, List.take_append_drop]
/-- WHAT IS CUT OUT OF A READY TEXT AT ITS RUNES STAYS AS IT IS. -/
theorem ready_cut {l : List UInt8} {S : List UInt8} (h : readyO l false = some S) {a b : Nat} (ha : Brk S a) (hb : Brk S b) (hab : a ≤ b) :
    pieceO 2 (S.take a) = some (S.take a) ∧ pieceO 2 ((S.drop a).take (b - a)) = some ((S.drop a).take (b - a)) ∧ pieceO 2 (S.drop b) = some (S.drop b) := by
  obtain ⟨r, rfl, hs, _⟩ := ready_stay h
  obtain ⟨r1, r2, rfl, e1, e2⟩ := cut_runes r a hs.1 ha
  have hb2 : Brk (text r2) (b - a) := by
    rw [e2]
    refine ⟨by have := hb.1; rw [List.length_drop]; omega, fun c hc => hb.2 c ?_⟩
    rw [List.getElem?_drop] at hc
    rw [show b = a + (b - a) by omega]
    exact hc
  obtain ⟨r3, r4, rfl, e3, e4⟩ := cut_runes r2 (b - a) (stay_right hs).1 hb2
  refine ⟨?_, ?_, ?_⟩
  · rw [← e1]; exact stay_piece (stay_left hs)
  · rw [← e2, ← e3]; exact stay_piece (stay_left (stay_right hs))
  · have : (text (r1 ++ (r3 ++ r4))).drop b = text r4 := by
      rw [e4, e2, List.drop_drop]; congr 1; omega
    rw [this]; exact stay_piece (stay_right (stay_right hs))
theorem piece_nil : pieceO 2 [] = some [] := by decide +kernel
end atp
end Go.Proofs.YtckpiaigoeicfaaGreatDoor
