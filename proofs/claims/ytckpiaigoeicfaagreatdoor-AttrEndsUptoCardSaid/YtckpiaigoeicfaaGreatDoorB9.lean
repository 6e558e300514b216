/- One text out of several: SmallW, LowerW, ParseV, NormP, FindW, SynW. -/
import Derived.Test.YtckpiaigoeicfaaGreatDoorB1
import Derived.Test.YtckpiaigoeicfaaGreatDoorRows
import Derived.Test.YtckpiaigoeicfaaGreatDoorB6
import Derived.Test.YtckpiaigoeicfaaGreatDoorB8
import Derived.Test.YtckpiaigoeicfaaGreatDoorB7
import Derived.Test.YtckpiaigoeicfaaGreatDoorB3
import Derived.Deep.MidRow
/-! SmallW -/
namespace Go.Proofs.YtckpiaigoeicfaaGreatDoor
open Go.RowKit
namespace sml
set_option linter.unusedVariables false
set_option linter.unusedSimpArgs false
def low (c : UInt8) : UInt8 := if 65 ≤ c.toNat ∧ c.toNat ≤ 90 then UInt8.ofNat (c.toNat + 32) else c
def lowL (l : List UInt8) : List UInt8 := l.map low
theorem low_nat (c : UInt8) : ((low c).toNat : Int) = if 65 ≤ (c.toNat : Int) ∧ (c.toNat : Int) ≤ 90 then (c.toNat : Int) + 32 else (c.toNat : Int) := by
  unfold low
  by_cases h : 65 ≤ c.toNat ∧ c.toNat ≤ 90
  · rw [if_pos h, if_pos (by omega), UInt8.toNat_ofNat']; omega
  · rw [if_neg h, if_neg (by omega)]
theorem infoByte : (Tryz.prog.info? 5).map (fun i => (i.zero, i.size, i.bytes)) = some (some (.int .u8 0), 1, 1) := by kernel_rfl
theorem emptyRow (w : World) (e : TypeId) : (w.alloc (.cells #[] e)).ownsRow w.heap.size e 1 (.slice (some ⟨w.heap.size, 0, none⟩) 0 0) ([] : List Value).length [] :=
  World.ownsRow_made w #[] 0 (Nat.le_refl _) (by unfold maxLen; omega) rfl
set_option maxRecDepth 20000 in
set_option maxHeartbeats 4000000 in
theorem small_any (s : ByteArray) (w : World) (hs : s.size ≤ 10000000) :
    Calls Tryz.prog 48 #[.string s] w fun e w' => e = .returned (.string ⟨(lowL s.data.toList).toArray⟩) ∧ Below w.heap.size w w' := by
  go_enter Tryz.func48, Tryz.ntmps48
  go_wp2_with fail
  go_loopw [3, 4, 5] (fun bv iv _ wr => ∃ k : Nat, k ≤ s.size ∧ iv = .int .i64 (k : Int) ∧ Hid (wr.ownsRow w.heap.size 5 1 bv (Lib.byteCells (lowL (s.data.toList.take k))).length (Lib.byteCells (lowL (s.data.toList.take k)))) ∧ Below w.heap.size w wr) (fun _ iv _ _ => s.size - (intOf iv).toNat)
  case atStart => exact ⟨0, Nat.zero_le _, rfl, emptyRow w _, (Below.refl _ _).alloc (Nat.le_refl _) _⟩
  case round =>
    obtain ⟨k, hk, rfl, hO, hB⟩ := hrel
    have hsz := hB.size
    by_cases hlt : k < s.size
    · have hlt' : (k : Int) < (s.size : Int) := by omega
      have HT := kt.take_snoc s k hlt
      obtain ⟨c, hc⟩ : ∃ c, s[k]'hlt = c := ⟨_, rfl⟩
      rw [hc] at HT
      have hcn := c.toNat_lt
      have hlen : (Lib.byteCells (lowL (s.data.toList.take k))).length ≤ k := by rw [Lib.byteCells_length]; unfold lowL; rw [List.length_map]; exact List.length_take_le _ _
      obtain ⟨v', w1, hap, hO1, hg1, hB1⟩ := kt.app1 (P := Tryz.prog) (ty := 82) (w := wr) Tryz.underlying82 infoByte rfl (.int .u8 ((low c).toNat : Int)) rfl hO.out (by unfold maxLen; omega) (by omega) hsz
      have HO1 : Hid (w1.ownsRow w.heap.size 5 1 v' (Lib.byteCells (lowL (s.data.toList.take (k + 1)))).length (Lib.byteCells (lowL (s.data.toList.take (k + 1))))) := by
        show World.ownsRow _ _ _ _ _ _ _
        rw [HT]
        unfold lowL at hO1 ⊢
        rw [List.map_append, Lib.byteCells_append]
        exact hO1
      have HB1 := Lib.hid (hB.trans hB1)
      clear HT hO1 hg1 hB1 hlen
      have hlow := low_nat c
      by_cases hup : 65 ≤ (c.toNat : Int) ∧ (c.toNat : Int) ≤ 90
      · rw [if_pos hup] at hlow
        rw [hlow] at hap
        obtain ⟨u1, u2⟩ := hup
        have r1 : IntKind.u8.wrap ((c.toNat : Int) + 32) = (c.toNat : Int) + 32 := IntWalk.u8_in _ (by omega)
        clear hlow
        go_wp2_with (at_builtin; refine Lib.wpList_append_run _ rfl _ _ _ _ rfl _ _ rfl rfl _ _ hap ?_)
        go_roundw
        case rel => exact ⟨k + 1, by omega, by go_num, HO1, HB1.out⟩
        case measure => simp [intOf]; omega
      · rw [if_neg hup] at hlow
        rw [hlow] at hap
        clear hlow
        by_cases h65 : 65 ≤ (c.toNat : Int)
        · have h90 : decide ((c.toNat : Int) ≤ 90) = false := by rw [decide_eq_false_iff_not]; omega
          clear hup
          go_wp2_with (at_builtin; refine Lib.wpList_append_run _ rfl _ _ _ _ rfl _ _ rfl rfl _ _ hap ?_)
          go_roundw
          case rel => exact ⟨k + 1, by omega, by go_num, HO1, HB1.out⟩
          case measure => simp [intOf]; omega
        · clear hup
          go_wp2_with (at_builtin; refine Lib.wpList_append_run _ rfl _ _ _ _ rfl _ _ rfl rfl _ _ hap ?_)
          go_roundw
          case rel => exact ⟨k + 1, by omega, by go_num, HO1, HB1.out⟩
          case measure => simp [intOf]; omega
    · obtain rfl : k = s.size := by omega
      have hO2 := hO.out
      rw [List.take_of_length_le (by simp)] at hO2
      have hst := kt.str_of_row (P := Tryz.prog) (dst := 9) Tryz.underlying82 Tryz.underlying5 Tryz.underlying9 hO2
      clear hO2
      go_wp2_with fail
      go_ret
      exact ⟨rfl, hB⟩
end sml
end Go.Proofs.YtckpiaigoeicfaaGreatDoor
/-! LowerW -/
namespace Go.Proofs.YtckpiaigoeicfaaGreatDoor
open Go.RowKit
namespace atw
set_option linter.unusedVariables false
set_option linter.unusedSimpArgs false
def bs (l : List UInt8) : ByteArray := ⟨l.toArray⟩
theorem bs_data (l : List UInt8) : (bs l).data.toList = l := rfl
theorem bs_of (s : ByteArray) : bs s.data.toList = s := kt.str_eq rfl
theorem bs_size (l : List UInt8) : (bs l).size = l.length := by rw [← kt.size_len]; rfl
def midL (l : List UInt8) (k : Nat) : List UInt8 := (sml.lowL l).take k ++ l.drop k
theorem midL_len (l : List UInt8) (k : Nat) : (midL l k).length = l.length := by
  unfold midL sml.lowL
  simp
  omega
theorem midL_at {l : List UInt8} {k : Nat} (h : k < l.length) : (midL l k)[k]'(by rw [midL_len]; exact h) = l[k] := by
  unfold midL sml.lowL
  rw [List.getElem_append_right (by simp; omega)]
  simp [Nat.min_eq_left (Nat.le_of_lt h)]
theorem midL_set {l : List UInt8} {k : Nat} (h : k < l.length) : (midL l k).set k (sml.low l[k]) = midL l (k + 1) := by
  unfold midL sml.lowL
  have h1 : ((l.map sml.low).take k).length = k := by simp; omega
  rw [List.set_append_right _ _ (by omega), h1, Nat.sub_self, List.drop_eq_getElem_cons h, List.set_cons_zero, List.take_succ_eq_append_getElem (by simpa using h), List.append_assoc]
  simp
theorem midL_keep {l : List UInt8} {k : Nat} (h : k < l.length) (hl : sml.low l[k] = l[k]) : midL l k = midL l (k + 1) := by
  rw [← midL_set h, hl]
  apply List.ext_getElem (by simp)
  intro i h1 h2
  by_cases e : k = i
  · subst e
    rw [List.getElem_set_self, midL_at h]
  · rw [List.getElem_set_ne e]
set_option maxRecDepth 20000 in
set_option maxHeartbeats 4000000 in
theorem lower_any (s : ByteArray) (w : World) (hs : s.size ≤ 10000000) :
    Calls Tryz.prog 39 #[.string s] w fun e w' => e = .returned (.string (bs (sml.lowL s.data.toList))) ∧ Below w.heap.size w w' := by
  obtain ⟨W1, cap, hrun, hrow, hB1⟩ := kt.bytes_of (P := Tryz.prog) (src := 9) (dst := 82) (e := 5) Tryz.underlying9 Tryz.underlying82 Tryz.underlying5 w s
  have HB1 := Lib.hid hB1
  have HROW := Lib.hid hrow
  obtain ⟨B, hB⟩ : ∃ B, w.heap.size = B := ⟨_, rfl⟩
  rw [hB] at hrun HROW
  have HBB := Lib.hid hB
  have hsl : s.data.toList.length = s.size := kt.size_len s
  have HSL := Lib.hid hsl
  clear hB1 hrow hB hsl
  go_enter Tryz.func39, Tryz.ntmps39
  go_wp2_with fail
  go_loopw [4, 5, 10] (fun _ _ iv wr => ∃ k : Nat, k ≤ s.size ∧ iv = .int .i64 (k : Int) ∧ Hid (kt.ByteRow wr B (midL s.data.toList k)) ∧ Hid (Below w.heap.size w wr)) (fun _ _ iv _ => s.size - (intOf iv).toNat)
  case atStart => exact ⟨0, Nat.zero_le _, rfl, (by show kt.ByteRow _ _ _; unfold midL; simpa using HROW.out), HB1.out⟩
  case round =>
    clear hrun
    obtain ⟨k, hk, rfl, hR, hB⟩ := hrel
    by_cases hlt : k < s.size
    · have hlt' : (k : Int) < (s.size : Int) := by omega
      have hkl : k < s.data.toList.length := by rw [HSL.out]; exact hlt
      obtain ⟨c0, f0⟩ := hR.out k (by rw [midL_len]; exact hkl)
      rw [midL_at hkl] at c0
      have HSET := Lib.hid (midL_set hkl)
      have HKEEP := Lib.hid (midL_keep hkl)
      have hset := fun x => kt.byterow_set hR.out k x
      generalize s.data.toList[k] = c at c0 HSET HKEEP
      have hcn := c.toNat_lt
      have hlow := sml.low_nat c
      by_cases hup : 65 ≤ (c.toNat : Int) ∧ (c.toNat : Int) ≤ 90
      · rw [if_pos hup] at hlow
        obtain ⟨u1, u2⟩ := hup
        have r1 : IntKind.u8.wrap ((c.toNat : Int) + 32) = (c.toNat : Int) + 32 := IntWalk.u8_in _ (by omega)
        have h2 := hset (sml.low c)
        rw [hlow, HSET.out] at h2
        have H2 := Lib.hid h2
        clear hlow hset h2
        go_wp2_with fail
        go_roundw
        case rel => exact ⟨k + 1, by omega, by go_num, H2, hB.out.setCell (p := ⟨B, k, none⟩) (by rw [HBB.out]; exact Nat.le_refl _) _⟩
        case measure => simp [intOf]; omega
      · rw [if_neg hup] at hlow
        have hl : sml.low c = c := by
          apply UInt8.toNat_inj.1
          omega
        have H2 : Hid (kt.ByteRow wr B (midL s.data.toList (k + 1))) := by
          show kt.ByteRow _ _ _
          rw [← HKEEP.out hl]
          exact hR.out
        clear hlow hset hl
        go_wp2_with fail
        all_goals first
          | (go_roundw
             case rel => exact ⟨k + 1, by omega, by go_num, H2, hB⟩
             case measure => simp [intOf]; omega)
          | (exfalso; simp only [decide_eq_true_eq] at *; omega)
    · obtain rfl : k = s.size := by omega
      have hst := kt.byterow_str (P := Tryz.prog) (n := s.size) (cap := cap) Tryz.underlying82 Tryz.underlying5 Tryz.underlying9 hR.out (by rw [midL_len, HSL.out])
      have hm : midL s.data.toList s.size = sml.lowL s.data.toList := by
        unfold midL sml.lowL
        rw [List.take_of_length_le (by simp), List.drop_of_length_le (by simp), List.append_nil]
      rw [hm] at hst
      have hst2 : (convert 82 9 (.slice (some ⟨B, 0, none⟩) s.size cap)).run Tryz.prog wr = .ok (.string (bs (sml.lowL s.data.toList))) wr := hst
      clear hst hm
      go_wp2_with fail
      go_ret
      exact ⟨rfl, hB.out⟩
end atw
end Go.Proofs.YtckpiaigoeicfaaGreatDoor
/-! ParseV -/
namespace Go.Proofs.YtckpiaigoeicfaaGreatDoor
open Go.RowKit
namespace dnw
open dnp
set_option linter.unusedVariables false
set_option linter.unusedSimpArgs false
theorem parseR_ok {l : List UInt8} {n : List (List Av)} (h : parseR l = some n) : nameOK n = true := by
  unfold parseR at h
  split at h
  · cases h; rfl
  · split at h
    · cases h
    · split at h
      · cases h; assumption
      · cases h
def parseV (s : ByteArray) : List (List Av) × Int := if 1000 < s.size then ([], 5) else match parseR s.data.toList with
  | none => ([], 4)
  | some n => (n, 0)
theorem parseV_small (s : ByteArray) : (parseV s).1.length ≤ 12 ∧ ∀ l ∈ (parseV s).1, l.length ≤ 4 := by
  unfold parseV
  split
  · simp
  · cases h : parseR s.data.toList with
    | none => simp
    | some n =>
      have hn := nameOK_facts (parseR_ok h)
      exact ⟨hn.1, fun l hl => (rdnOK_facts (hn.2 l hl)).2.1⟩
theorem parseE_V {s : ByteArray} {w : World} {e : Ending} {w' : World} (h : ParseE s w e w') : Below w.heap.size w w' ∧ ∃ ao cap, e = .returned (.tuple #[.slice ao (parseV s).1.length cap, .int .i64 (parseV s).2]) ∧ Rdns w' ao (parseV s).1 := by
  obtain ⟨h1, h2⟩ := h
  refine ⟨h1, ?_⟩
  unfold parseV
  split at h2
  · rename_i hl
    rw [if_pos hl]
    exact ⟨none, 0, h2, fun i hi => by simp at hi⟩
  · rename_i hl
    rw [if_neg hl]
    cases hp : parseR s.data.toList with
    | none =>
      rw [hp] at h2
      exact ⟨none, 0, h2, fun i hi => by simp at hi⟩
    | some n =>
      rw [hp] at h2
      obtain ⟨ao, cap, h3, _, h4, _⟩ := h2
      exact ⟨ao, cap, h3, h4⟩
end dnw
end Go.Proofs.YtckpiaigoeicfaaGreatDoor
/-! NormP -/
namespace Go.Proofs.YtckpiaigoeicfaaGreatDoor
namespace atp
open atw (bs)
set_option linter.unusedVariables false
set_option linter.unusedSimpArgs false
def tT : List UInt8 := [84, 82, 85, 69]
def tF : List UInt8 := [70, 65, 76, 83, 69]
def ne0 (o : Option (List UInt8)) : Option (List UInt8) := match o with
  | none => none
  | some u => if u = [] then none else some u
theorem ne0_some {u : List UInt8} (h : u ≠ []) : ne0 (some u) = some u := by unfold ne0; exact if_neg h
def joinK (l : List ByteArray) : List UInt8 := (l.map (·.data.toList)).flatten
/-- a name's keys, one behind the other -/
def nameK (l : List UInt8) : Option (List UInt8) := match dnw.parseR l with
  | none => none
  | some n => some (joinK (dnw.keysB n))
def formO (syn : Int) (l : List UInt8) : Option (List UInt8) :=
  if syn = 1 then ne0 (prp.readyO l true) else if syn = 2 then ne0 (prp.readyO l false) else if syn = 7 then ne0 (prp.phoneO l)
  else if syn = 4 then (if numOK l = true then some l else none)
  else if syn = 5 then (if l = tT ∨ l = tF then some l else none)
  else if syn = 6 then nameK l
  else some l
/-- a value's normal form, or the error -/
def normL (syn : Int) (l : List UInt8) : List UInt8 × Int :=
  if ¬ (1 ≤ syn ∧ syn ≤ 7) then ([], 14) else if 1000 < l.length then ([], 5) else if l = [] then ([], 4) else match formO syn l with
    | none => ([], 4)
    | some u => (u, 0)
theorem normL_bad {syn : Int} {l : List UInt8} (h : ¬ (1 ≤ syn ∧ syn ≤ 7)) : normL syn l = ([], 14) := by unfold normL; rw [if_pos h]
theorem normL_long {syn : Int} {l : List UInt8} (h : 1 ≤ syn ∧ syn ≤ 7) (h1 : 1000 < l.length) : normL syn l = ([], 5) := by unfold normL; rw [if_neg (not_not_intro h), if_pos h1]
theorem normL_nil {syn : Int} {l : List UInt8} (h : 1 ≤ syn ∧ syn ≤ 7) (h1 : l = []) : normL syn l = ([], 4) := by unfold normL; rw [if_neg (not_not_intro h), if_neg (by rw [h1]; simp), if_pos h1]
theorem normL_form {syn : Int} {l : List UInt8} (h : 1 ≤ syn ∧ syn ≤ 7) (h1 : l.length ≤ 1000) (h2 : l ≠ []) : normL syn l = match formO syn l with
    | none => ([], 4)
    | some u => (u, 0) := by unfold normL; rw [if_neg (not_not_intro h), if_neg (by omega), if_neg h2]
/-- a name that may be has small parts -/
theorem name_smalls {n : List (List dnw.Av)} (h : dnw.nameOK n = true) : ∀ l ∈ n, dnw.Smalls l := by
  intro l hl x hx
  unfold dnw.nameOK at h
  rw [Bool.and_eq_true] at h
  have h1 := List.all_eq_true.1 h.2 l hl
  unfold dnw.rdnOK at h1
  simp only [Bool.and_eq_true] at h1
  obtain ⟨i, hi, rfl⟩ := List.mem_iff_getElem.1 hx
  have h2 := List.all_eq_true.1 h1.2 i (List.mem_range.2 hi)
  rw [List.getElem?_eq_getElem hi] at h2
  simp only at h2
  unfold dnw.pairB at h2
  simp only [Bool.and_eq_true] at h2
  have h3 := (dnw.typeOK_iff _).1 h2.1.2
  have h4 := h2.2
  unfold dnw.valOK at h4
  rw [Bool.and_eq_true, decide_eq_true_eq] at h4
  have e1 := h3.2.1
  have e2 := h4.1
  rw [kt.size_len] at e1 e2
  exact ⟨by omega, by omega⟩
theorem parseR_ok {l : List UInt8} {n : List (List dnw.Av)} (h : dnw.parseR l = some n) : dnw.nameOK n = true := by
  unfold dnw.parseR at h
  split at h
  · cases h; decide
  · split at h
    · cases h
    · split at h
      · cases h; assumption
      · cases h
theorem joinK_len (n : List (List dnw.Av)) (h : dnw.nameOK n = true) : (joinK (dnw.keysB n)).length ≤ 200000 := by
  have hn : n.length ≤ 12 := by
    unfold dnw.nameOK at h
    rw [Bool.and_eq_true, decide_eq_true_eq] at h
    exact h.1
  have hl : ∀ l ∈ n, l.length ≤ 4 := by
    intro l hl
    unfold dnw.nameOK at h
    rw [Bool.and_eq_true] at h
    have h1 := List.all_eq_true.1 h.2 l hl
    unfold dnw.rdnOK at h1
    simp only [Bool.and_eq_true, decide_eq_true_eq] at h1
    exact h1.1.2
  have h2 := dnw.flatten_len_le 16384 ((dnw.keysB n).map (·.data.toList)) (by
    intro x hx
    unfold dnw.keysB at hx
    rw [List.map_map] at hx
    obtain ⟨l, hl2, rfl⟩ := List.mem_map.1 hx
    have := dnw.keyL_len l
    have := hl l (List.mem_reverse.1 hl2)
    show (dnw.keyL l).length ≤ _
    omega)
  unfold joinK
  rw [List.length_map, dnw.keysB_len] at h2
  omega
theorem text_filter (p : Int → Bool) (m : List Int) : (run.text (m.filter p)).length ≤ (run.text m).length := by
  induction m with
  | nil => exact Nat.le_refl _
  | cons v m ih =>
    rw [List.filter_cons]
    split
    · rw [run.text_cons, run.text_cons, List.length_append, List.length_append]; omega
    · rw [run.text_cons, List.length_append]; omega
theorem phoneO_len {l o : List UInt8} (h : prp.phoneO l = some o) : o.length ≤ l.length := by
  unfold prp.phoneO at h
  obtain ⟨m, hm, rfl⟩ := Option.map_eq_some_iff.1 h
  obtain ⟨h1, h2⟩ := run.runes_text _ l m (Nat.le_refl _) hm
  have h3 := prp.mapped_len true m h2
  rw [h1] at h3
  unfold prp.phoneR
  exact Nat.le_trans (text_filter _ _) h3
theorem ne0_len {o : Option (List UInt8)} {u : List UInt8} (h : ne0 o = some u) : o = some u ∧ u ≠ [] := by
  cases o with
  | none => cases h
  | some v =>
    unfold ne0 at h
    simp only at h
    split at h
    · cases h
    · cases h; exact ⟨rfl, by assumption⟩
theorem formO_len {syn : Int} {l u : List UInt8} (h : formO syn l = some u) (hl : l.length ≤ 1000) : u.length ≤ 200000 := by
  unfold formO at h
  split at h
  · have := prp.readyO_len (ne0_len h).1; omega
  · split at h
    · have := prp.readyO_len (ne0_len h).1; omega
    · split at h
      · have := phoneO_len (ne0_len h).1
        omega
      · split at h
        · split at h
          · cases h; omega
          · cases h
        · split at h
          · split at h
            · cases h; omega
            · cases h
          · split at h
            · unfold nameK at h
              cases hp : dnw.parseR l with
              | none => rw [hp] at h; cases h
              | some n =>
                rw [hp] at h
                cases h
                exact joinK_len n (parseR_ok hp)
            · cases h; omega
theorem normL_len (syn : Int) (l : List UInt8) : (normL syn l).1.length ≤ 200000 := by
  unfold normL
  split
  · simp
  · split
    · simp
    · split
      · simp
      · cases hf : formO syn l with
        | none => simp
        | some u => exact formO_len hf (by omega)
end atp
end Go.Proofs.YtckpiaigoeicfaaGreatDoor
/-! FindW -/
namespace Go.Proofs.YtckpiaigoeicfaaGreatDoor
open Go.RowKit
namespace atw
open atp
set_option linter.unusedVariables false
set_option linter.unusedSimpArgs false
def tval (t : Ty) : List Value := [.string (bs t.name), .int .i64 t.syn, .bool t.single]
def tcells : List Value := tys.flatMap tval
/-- the table lies where it was laid -/
def TyEnv (w : World) : Prop := w.rangeAt 0 0 tcells
theorem tyEnv_below {w w' : World} (h : TyEnv w) (hb : Below w.heap.size w w') : TyEnv w' := fun j u hj => (hb.cell (World.block_lt_of_cell? w _ (h j u hj))).trans (h j u hj)
theorem tinfo : (Tryz.prog.info? 63).map (·.size) = some tcells.length := by kernel_rfl
theorem tix0 (w : World) : (Instr.index 63 (.agg tcells.toArray) (.int .i64 (0 : Nat))).run Tryz.prog w = .ok (.agg (tval (tys[0]'(by decide))).toArray) w := by kernel_rfl
theorem tix1 (w : World) : (Instr.index 63 (.agg tcells.toArray) (.int .i64 (1 : Nat))).run Tryz.prog w = .ok (.agg (tval (tys[1]'(by decide))).toArray) w := by kernel_rfl
theorem tix2 (w : World) : (Instr.index 63 (.agg tcells.toArray) (.int .i64 (2 : Nat))).run Tryz.prog w = .ok (.agg (tval (tys[2]'(by decide))).toArray) w := by kernel_rfl
theorem tix3 (w : World) : (Instr.index 63 (.agg tcells.toArray) (.int .i64 (3 : Nat))).run Tryz.prog w = .ok (.agg (tval (tys[3]'(by decide))).toArray) w := by kernel_rfl
theorem tix4 (w : World) : (Instr.index 63 (.agg tcells.toArray) (.int .i64 (4 : Nat))).run Tryz.prog w = .ok (.agg (tval (tys[4]'(by decide))).toArray) w := by kernel_rfl
theorem tix5 (w : World) : (Instr.index 63 (.agg tcells.toArray) (.int .i64 (5 : Nat))).run Tryz.prog w = .ok (.agg (tval (tys[5]'(by decide))).toArray) w := by kernel_rfl
theorem tix6 (w : World) : (Instr.index 63 (.agg tcells.toArray) (.int .i64 (6 : Nat))).run Tryz.prog w = .ok (.agg (tval (tys[6]'(by decide))).toArray) w := by kernel_rfl
theorem tix7 (w : World) : (Instr.index 63 (.agg tcells.toArray) (.int .i64 (7 : Nat))).run Tryz.prog w = .ok (.agg (tval (tys[7]'(by decide))).toArray) w := by kernel_rfl
theorem tix8 (w : World) : (Instr.index 63 (.agg tcells.toArray) (.int .i64 (8 : Nat))).run Tryz.prog w = .ok (.agg (tval (tys[8]'(by decide))).toArray) w := by kernel_rfl
theorem tix9 (w : World) : (Instr.index 63 (.agg tcells.toArray) (.int .i64 (9 : Nat))).run Tryz.prog w = .ok (.agg (tval (tys[9]'(by decide))).toArray) w := by kernel_rfl
theorem tix10 (w : World) : (Instr.index 63 (.agg tcells.toArray) (.int .i64 (10 : Nat))).run Tryz.prog w = .ok (.agg (tval (tys[10]'(by decide))).toArray) w := by kernel_rfl
theorem tix11 (w : World) : (Instr.index 63 (.agg tcells.toArray) (.int .i64 (11 : Nat))).run Tryz.prog w = .ok (.agg (tval (tys[11]'(by decide))).toArray) w := by kernel_rfl
theorem tix12 (w : World) : (Instr.index 63 (.agg tcells.toArray) (.int .i64 (12 : Nat))).run Tryz.prog w = .ok (.agg (tval (tys[12]'(by decide))).toArray) w := by kernel_rfl
theorem tix13 (w : World) : (Instr.index 63 (.agg tcells.toArray) (.int .i64 (13 : Nat))).run Tryz.prog w = .ok (.agg (tval (tys[13]'(by decide))).toArray) w := by kernel_rfl
theorem tix14 (w : World) : (Instr.index 63 (.agg tcells.toArray) (.int .i64 (14 : Nat))).run Tryz.prog w = .ok (.agg (tval (tys[14]'(by decide))).toArray) w := by kernel_rfl
theorem tix15 (w : World) : (Instr.index 63 (.agg tcells.toArray) (.int .i64 (15 : Nat))).run Tryz.prog w = .ok (.agg (tval (tys[15]'(by decide))).toArray) w := by kernel_rfl
theorem tix16 (w : World) : (Instr.index 63 (.agg tcells.toArray) (.int .i64 (16 : Nat))).run Tryz.prog w = .ok (.agg (tval (tys[16]'(by decide))).toArray) w := by kernel_rfl
theorem tix17 (w : World) : (Instr.index 63 (.agg tcells.toArray) (.int .i64 (17 : Nat))).run Tryz.prog w = .ok (.agg (tval (tys[17]'(by decide))).toArray) w := by kernel_rfl
theorem tix18 (w : World) : (Instr.index 63 (.agg tcells.toArray) (.int .i64 (18 : Nat))).run Tryz.prog w = .ok (.agg (tval (tys[18]'(by decide))).toArray) w := by kernel_rfl
theorem tix19 (w : World) : (Instr.index 63 (.agg tcells.toArray) (.int .i64 (19 : Nat))).run Tryz.prog w = .ok (.agg (tval (tys[19]'(by decide))).toArray) w := by kernel_rfl
theorem tix (i : Nat) (hi : i < 20) (w : World) : (Instr.index 63 (.agg tcells.toArray) (.int .i64 (i : Int))).run Tryz.prog w = .ok (.agg (tval (tys[i]'hi)).toArray) w := by
  match i, hi with
  | 0, _ => exact tix0 w
  | 1, _ => exact tix1 w
  | 2, _ => exact tix2 w
  | 3, _ => exact tix3 w
  | 4, _ => exact tix4 w
  | 5, _ => exact tix5 w
  | 6, _ => exact tix6 w
  | 7, _ => exact tix7 w
  | 8, _ => exact tix8 w
  | 9, _ => exact tix9 w
  | 10, _ => exact tix10 w
  | 11, _ => exact tix11 w
  | 12, _ => exact tix12 w
  | 13, _ => exact tix13 w
  | 14, _ => exact tix14 w
  | 15, _ => exact tix15 w
  | 16, _ => exact tix16 w
  | 17, _ => exact tix17 w
  | 18, _ => exact tix18 w
  | 19, _ => exact tix19 w
  | n + 20, h => exact absurd h (by omega)
/-- what is found, as a result -/
def resT : Option Ty → Value
  | some t => .tuple #[.agg #[.string (bs t.name), .int .i64 t.syn, .bool t.single], .bool true]
  | none => .tuple #[.agg #[.string ⟨#[]⟩, .int .i64 0, .bool false], .bool false]
def AC (w : World) (p : Nat) : Prop := ∃ x i b, w.heap[p]? = some (.cells #[.string x, .int .i64 i, .bool b] 23 (0, 0))
theorem ac_lt {w : World} {p : Nat} (h : AC w p) : p < w.heap.size := by
  obtain ⟨x, i, b, h⟩ := h
  exact kt.bld_lt h
theorem ac_below {w w' : World} {p : Nat} (h : AC w p) (hb : Below w.heap.size w w') : AC w' p := by
  have hlt := ac_lt h
  obtain ⟨x, i, b, h⟩ := h
  exact ⟨x, i, b, (hb.block p hlt).trans h⟩
theorem ac_cells {w : World} {p : Nat} (h : AC w p) : (∃ x, w.cell? ⟨p, 0, none⟩ = some (.string x)) ∧ (∃ i, w.cell? ⟨p, 1, none⟩ = some (.int .i64 i)) ∧ (∃ b, w.cell? ⟨p, 2, none⟩ = some (.bool b)) ∧ w.frozen? ⟨p, 0, none⟩ = false ∧ w.frozen? ⟨p, 1, none⟩ = false ∧ w.frozen? ⟨p, 2, none⟩ = false := by
  obtain ⟨x, i, b, h⟩ := h
  exact ⟨⟨x, by rw [Lib.cell_of_heap h]; rfl⟩, ⟨i, by rw [Lib.cell_of_heap h]; rfl⟩, ⟨b, by rw [Lib.cell_of_heap h]; rfl⟩, Lib.frozen_of_heap h 0, Lib.frozen_of_heap h 1, Lib.frozen_of_heap h 2⟩
theorem ac_new (w : World) (x : ByteArray) (i : Int) (b : Bool) : AC (w.alloc (.cells #[.string x, .int .i64 i, .bool b] 23)) w.heap.size := ⟨x, i, b, heap_alloc_new w _⟩
def put3 (w : World) (p : Nat) (a b c : Value) : World := ((w.setCell ⟨p, 0, none⟩ a).setCell ⟨p, 1, none⟩ b).setCell ⟨p, 2, none⟩ c
theorem ac_store {w : World} {p : Nat} (h : AC w p) (a b c : Value) : (((w.setCell ⟨p, 0, none⟩ a).setCell ⟨p, 1, none⟩ b).setCell ⟨p, 2, none⟩ c).cell? ⟨p, 0, none⟩ = some a ∧ (((w.setCell ⟨p, 0, none⟩ a).setCell ⟨p, 1, none⟩ b).setCell ⟨p, 2, none⟩ c).cell? ⟨p, 1, none⟩ = some b ∧ (((w.setCell ⟨p, 0, none⟩ a).setCell ⟨p, 1, none⟩ b).setCell ⟨p, 2, none⟩ c).cell? ⟨p, 2, none⟩ = some c := by
  obtain ⟨⟨x, h0⟩, ⟨y, h1⟩, ⟨z, h2⟩, _⟩ := ac_cells h
  have n01 : (⟨p, 0, none⟩ : Addr) ≠ ⟨p, 1, none⟩ := by intro hh; injection hh with _ h _; cases h
  have n02 : (⟨p, 0, none⟩ : Addr) ≠ ⟨p, 2, none⟩ := by intro hh; injection hh with _ h _; cases h
  have n12 : (⟨p, 1, none⟩ : Addr) ≠ ⟨p, 2, none⟩ := by intro hh; injection hh with _ h _; cases h
  have k0 := World.cell?_setCell_same w ⟨p, 0, none⟩ a h0
  have k1 : (w.setCell ⟨p, 0, none⟩ a).cell? ⟨p, 1, none⟩ = some (.int .i64 y) := by rw [World.cell?_setCell_other _ _ _ _ n01, h1]
  have k2 : (w.setCell ⟨p, 0, none⟩ a).cell? ⟨p, 2, none⟩ = some (.bool z) := by rw [World.cell?_setCell_other _ _ _ _ n02, h2]
  have m1 := World.cell?_setCell_same _ ⟨p, 1, none⟩ b k1
  have m0 : ((w.setCell ⟨p, 0, none⟩ a).setCell ⟨p, 1, none⟩ b).cell? ⟨p, 0, none⟩ = some a := by rw [World.cell?_setCell_other _ _ _ _ n01.symm, k0]
  have m2 : ((w.setCell ⟨p, 0, none⟩ a).setCell ⟨p, 1, none⟩ b).cell? ⟨p, 2, none⟩ = some (.bool z) := by rw [World.cell?_setCell_other _ _ _ _ n12, k2]
  refine ⟨?_, ?_, World.cell?_setCell_same _ _ _ m2⟩
  · rw [World.cell?_setCell_other _ _ _ _ n02.symm, m0]
  · rw [World.cell?_setCell_other _ _ _ _ n12.symm, m1]
theorem below_put3 {B : Nat} {w w' : World} (h : Below B w w') {p : Nat} (hp : B ≤ p) (a b c : Value) : Below B w (((w'.setCell ⟨p, 0, none⟩ a).setCell ⟨p, 1, none⟩ b).setCell ⟨p, 2, none⟩ c) :=
  ((h.setCell (p := ⟨p, 0, none⟩) hp a).setCell (p := ⟨p, 1, none⟩) hp b).setCell (p := ⟨p, 2, none⟩) hp c
theorem bs_beq (a b : List UInt8) : ((bs a).toList == (bs b).toList) = decide (a = b) := by
  rw [Lib.toList_data, Lib.toList_data, bs_data, bs_data, Bool.eq_iff_iff, beq_iff_eq, decide_eq_true_iff]
set_option maxRecDepth 20000 in
set_option maxHeartbeats 4000000 in
theorem find_any (s : ByteArray) (w : World) (hs : s.size ≤ 10000000) (hE : Hid (TyEnv w)) :
    Calls Tryz.prog 16 #[.string s] w fun e w' => e = .returned (resT (findS (sml.lowL s.data.toList))) ∧ Below w.heap.size w w' := by
  obtain ⟨n, hn⟩ : ∃ n, n = sml.lowL s.data.toList := ⟨_, rfl⟩
  have HL : Hid (∀ w, Calls Tryz.prog 39 #[.string s] w fun e w' => e = .returned (.string (bs n)) ∧ Below w.heap.size w w') := fun w => by rw [hn]; exact lower_any s w hs
  rw [← hn]
  clear hn
  obtain ⟨cs, hcs⟩ : ∃ cs : List Value, Hid (cs = tcells) := ⟨_, rfl⟩
  have HIX : Hid (∀ (i : Nat) (hi : i < 20) w, (Instr.index 63 (.agg cs.toArray) (.int .i64 (i : Int))).run Tryz.prog w = .ok (.agg #[.string (bs (tys[i]'hi).name), .int .i64 (tys[i]'hi).syn, .bool (tys[i]'hi).single]) w) := by
    rw [hcs.out]
    exact tix
  have HPC0 := Lib.hid (ac_new w ByteArray.empty 0 false)
  have HTI : Hid ((Tryz.prog.info? 63).map (·.size) = some cs.length) := by rw [hcs.out]; exact tinfo
  have HTE : Hid (∀ w', Below w.heap.size w w' → w'.rangeAt 0 0 cs) := by rw [hcs.out]; exact fun w' h => tyEnv_below hE.out h
  clear hcs
  go_enter Tryz.func16, Tryz.ntmps16
  go_wp2_with fail
  refine (HL.out _).mono ?_
  rintro e w1 ⟨rfl, hB1⟩
  have HPC1 := Lib.hid (ac_below HPC0.out hB1)
  have HB1 : Hid (Below w.heap.size w w1) := ((Below.refl _ w).alloc (Nat.le_refl _) _).trans (hB1.mono (by simp))
  have hw1 : w.heap.size < w1.heap.size := ac_lt HPC1.out
  have hr := HTE.out w1 HB1.out
  clear hB1
  go_wp2_with (refine wpList_load_mid rfl 63 _ rfl 0 0 rfl cs _ hr Tryz.underlying63 rfl HTI.out ?_)
  clear hr
  go_loopw [9] (fun iv wr => ∃ i : Nat, i ≤ 20 ∧ iv = .int .i64 (i : Int) ∧ Hid (∀ j (hj : j < tys.length), j < i → tys[j].name ≠ n) ∧ Hid (AC wr w.heap.size) ∧ Hid (Below w.heap.size w wr)) (fun iv _ => 20 - (intOf iv).toNat)
  case atStart => exact ⟨0, by omega, rfl, fun j hj h => by omega, HPC1, HB1⟩
  case round =>
    obtain ⟨i, hi, rfl, hN, hA, hB⟩ := hrel
    have hwr : w.heap.size < wr.heap.size := ac_lt hA.out
    by_cases hlt : i < 20
    · have hlt' : (i : Int) < 20 := by omega
      have hix := HIX.out i hlt
      have HS := Lib.hid (findS_at i hlt)
      have HNX : Hid ((tys[i]'hlt).name ≠ n → ∀ j (hj : j < tys.length), j < i + 1 → tys[j].name ≠ n) := by
        intro h j hj hji
        by_cases e : j = i
        · subst e; exact h
        · exact hN.out j hj (by omega)
      generalize (tys[i]'hlt) = t at hix HS HNX
      have hbeq := bs_beq t.name n
      have HAX : Hid (AC (wr.alloc (.cells #[.string (bs t.name), .int .i64 t.syn, .bool t.single] 23)) w.heap.size) := ac_below hA.out ((Below.refl _ _).alloc (Nat.le_refl _) _)
      have HBX : Hid (Below w.heap.size w (wr.alloc (.cells #[.string (bs t.name), .int .i64 t.syn, .bool t.single] 23))) := hB.out.alloc (by omega) _
      by_cases htn : t.name = n
      · have hbeq2 : ((bs t.name).toList == (bs n).toList) = true := by rw [hbeq]; exact decide_eq_true htn
        have HF : Hid (findS n = some t) := by rw [← htn]; exact HS.out
        obtain ⟨W, hW⟩ : ∃ W, wr.alloc (.cells #[.string (bs t.name), .int .i64 t.syn, .bool t.single] 23) = W := ⟨_, rfl⟩
        rw [hW] at HAX HBX
        have k0 : W.cell? ⟨wr.heap.size, 0, none⟩ = some (.string (bs t.name)) := by rw [← hW, World.cell?_alloc_new]; rfl
        have k1 : W.cell? ⟨wr.heap.size, 1, none⟩ = some (.int .i64 t.syn) := by rw [← hW, World.cell?_alloc_new]; rfl
        have k2 : W.cell? ⟨wr.heap.size, 2, none⟩ = some (.bool t.single) := by rw [← hW, World.cell?_alloc_new]; rfl
        obtain ⟨⟨x0, c0⟩, ⟨y0, c1⟩, ⟨z0, c2⟩, f0, f1, f2⟩ := ac_cells HAX.out
        obtain ⟨e0, e1, e2⟩ := ac_store HAX.out (.string (bs t.name)) (.int .i64 t.syn) (.bool t.single)
        clear hbeq htn
        go_wp2_with fail
        (try simp only [Exit.inBlock, Exit.then])
        refine bodyPost_ret (v := .tuple #[.agg #[.string (bs t.name), .int .i64 t.syn, .bool t.single], .bool true]) (by rw [results_cell_tmp rfl]; go_simp) rfl ?_
        exact ⟨by rw [HF.out]; rfl, below_put3 HBX.out (Nat.le_refl _) _ _ _⟩
      · have hbeq2 : ((bs t.name).toList == (bs n).toList) = false := by rw [hbeq]; exact decide_eq_false htn
        have HN2 := Lib.hid (HNX.out htn)
        clear hbeq htn
        go_wp2_with fail
        go_roundw
        case rel => exact ⟨i + 1, by omega, by go_num, HN2, HAX, HBX⟩
        case measure => simp [intOf]; omega
    · obtain rfl : i = 20 := by omega
      have HF : Hid (findS n = none) := findS_not (fun j hj => hN.out j hj hj)
      obtain ⟨⟨x0, c0⟩, ⟨y0, c1⟩, ⟨z0, c2⟩, f0, f1, f2⟩ := ac_cells hA.out
      obtain ⟨e0, e1, e2⟩ := ac_store hA.out (.string ⟨#[]⟩) (.int .i64 0) (.bool false)
      go_wp2_with fail
      (try simp only [Exit.inBlock, Exit.then])
      refine bodyPost_ret (v := .tuple #[.agg #[.string ⟨#[]⟩, .int .i64 0, .bool false], .bool false]) (by rw [results_cell_tmp rfl]; go_simp) rfl ?_
      exact ⟨by rw [HF.out]; rfl, below_put3 hB.out (Nat.le_refl _) _ _ _⟩
end atw
end Go.Proofs.YtckpiaigoeicfaaGreatDoor
/-! SynW -/
namespace Go.Proofs.YtckpiaigoeicfaaGreatDoor
open Go.RowKit
namespace atw
open atp
set_option linter.unusedVariables false
set_option linter.unusedSimpArgs false
def synL (n : List UInt8) : Int := match findS n with
  | some t => t.syn
  | none => 0
theorem bs_lit (n m : List UInt8) : ((bs n).toList == m) = decide (n = m) := by rw [Lib.toList_data, bs_data, Bool.eq_iff_iff, beq_iff_eq, decide_eq_true_iff]
theorem str_no {s : ByteArray} {m : List UInt8} (h : s.data.toList ≠ m) : (s.toList == m) = false := by rw [Lib.toList_data]; simpa using h
theorem str_is {s : ByteArray} {m : List UInt8} (h : s.data.toList = m) : (s.toList == m) = true := by rw [Lib.toList_data, h]; simp
set_option maxRecDepth 20000 in
set_option maxHeartbeats 4000000 in
theorem syn_0 (s : ByteArray) (w : World) (h : s.data.toList = [99, 110]) : Calls Tryz.prog 49 #[.string s] w fun e w' => e = .returned (.int .i64 1) ∧ w = w' := by
  have f0 := str_is h
  have f1 : (s.toList == [100, 99]) = false := str_no (by rw [h]; decide)
  have f2 : (s.toList == [100, 101, 115, 99, 114, 105, 112, 116, 105, 111, 110]) = false := str_no (by rw [h]; decide)
  have f3 : (s.toList == [101, 110, 97, 98, 108, 101, 100]) = false := str_no (by rw [h]; decide)
  have f4 : (s.toList == [108]) = false := str_no (by rw [h]; decide)
  have f5 : (s.toList == [108, 105, 109, 105, 116]) = false := str_no (by rw [h]; decide)
  have f6 : (s.toList == [109, 97, 105, 108]) = false := str_no (by rw [h]; decide)
  have f7 : (s.toList == [109, 101, 109, 98, 101, 114]) = false := str_no (by rw [h]; decide)
  have f8 : (s.toList == [111]) = false := str_no (by rw [h]; decide)
  have f9 : (s.toList == [111, 98, 106, 101, 99, 116, 99, 108, 97, 115, 115]) = false := str_no (by rw [h]; decide)
  have f10 : (s.toList == [111, 117]) = false := str_no (by rw [h]; decide)
  have f11 : (s.toList == [112, 104, 111, 116, 111]) = false := str_no (by rw [h]; decide)
  have f12 : (s.toList == [115, 101, 101, 97, 108, 115, 111]) = false := str_no (by rw [h]; decide)
  have f13 : (s.toList == [115, 101, 114, 105, 97, 108, 110, 117, 109, 98, 101, 114]) = false := str_no (by rw [h]; decide)
  have f14 : (s.toList == [115, 110]) = false := str_no (by rw [h]; decide)
  have f15 : (s.toList == [116, 101, 108, 101, 112, 104, 111, 110, 101, 110, 117, 109, 98, 101, 114]) = false := str_no (by rw [h]; decide)
  have f16 : (s.toList == [116, 105, 116, 108, 101]) = false := str_no (by rw [h]; decide)
  have f17 : (s.toList == [117, 105, 100]) = false := str_no (by rw [h]; decide)
  have f18 : (s.toList == [117, 105, 100, 110, 117, 109, 98, 101, 114]) = false := str_no (by rw [h]; decide)
  have f19 : (s.toList == [117, 115, 101, 114, 112, 97, 115, 115, 119, 111, 114, 100]) = false := str_no (by rw [h]; decide)
  clear h
  go_enter Tryz.func49, Tryz.ntmps49
  go_wp2_with fail
  go_ret
  exact ⟨rfl, rfl⟩
set_option maxRecDepth 20000 in
set_option maxHeartbeats 4000000 in
theorem syn_1 (s : ByteArray) (w : World) (h : s.data.toList = [100, 99]) : Calls Tryz.prog 49 #[.string s] w fun e w' => e = .returned (.int .i64 1) ∧ w = w' := by
  have f0 : (s.toList == [99, 110]) = false := str_no (by rw [h]; decide)
  have f1 := str_is h
  have f2 : (s.toList == [100, 101, 115, 99, 114, 105, 112, 116, 105, 111, 110]) = false := str_no (by rw [h]; decide)
  have f3 : (s.toList == [101, 110, 97, 98, 108, 101, 100]) = false := str_no (by rw [h]; decide)
  have f4 : (s.toList == [108]) = false := str_no (by rw [h]; decide)
  have f5 : (s.toList == [108, 105, 109, 105, 116]) = false := str_no (by rw [h]; decide)
  have f6 : (s.toList == [109, 97, 105, 108]) = false := str_no (by rw [h]; decide)
  have f7 : (s.toList == [109, 101, 109, 98, 101, 114]) = false := str_no (by rw [h]; decide)
  have f8 : (s.toList == [111]) = false := str_no (by rw [h]; decide)
  have f9 : (s.toList == [111, 98, 106, 101, 99, 116, 99, 108, 97, 115, 115]) = false := str_no (by rw [h]; decide)
  have f10 : (s.toList == [111, 117]) = false := str_no (by rw [h]; decide)
  have f11 : (s.toList == [112, 104, 111, 116, 111]) = false := str_no (by rw [h]; decide)
  have f12 : (s.toList == [115, 101, 101, 97, 108, 115, 111]) = false := str_no (by rw [h]; decide)
  have f13 : (s.toList == [115, 101, 114, 105, 97, 108, 110, 117, 109, 98, 101, 114]) = false := str_no (by rw [h]; decide)
  have f14 : (s.toList == [115, 110]) = false := str_no (by rw [h]; decide)
  have f15 : (s.toList == [116, 101, 108, 101, 112, 104, 111, 110, 101, 110, 117, 109, 98, 101, 114]) = false := str_no (by rw [h]; decide)
  have f16 : (s.toList == [116, 105, 116, 108, 101]) = false := str_no (by rw [h]; decide)
  have f17 : (s.toList == [117, 105, 100]) = false := str_no (by rw [h]; decide)
  have f18 : (s.toList == [117, 105, 100, 110, 117, 109, 98, 101, 114]) = false := str_no (by rw [h]; decide)
  have f19 : (s.toList == [117, 115, 101, 114, 112, 97, 115, 115, 119, 111, 114, 100]) = false := str_no (by rw [h]; decide)
  clear h
  go_enter Tryz.func49, Tryz.ntmps49
  go_wp2_with fail
  go_ret
  exact ⟨rfl, rfl⟩
set_option maxRecDepth 20000 in
set_option maxHeartbeats 4000000 in
theorem syn_2 (s : ByteArray) (w : World) (h : s.data.toList = [100, 101, 115, 99, 114, 105, 112, 116, 105, 111, 110]) : Calls Tryz.prog 49 #[.string s] w fun e w' => e = .returned (.int .i64 1) ∧ w = w' := by
  have f0 : (s.toList == [99, 110]) = false := str_no (by rw [h]; decide)
  have f1 : (s.toList == [100, 99]) = false := str_no (by rw [h]; decide)
  have f2 := str_is h
  have f3 : (s.toList == [101, 110, 97, 98, 108, 101, 100]) = false := str_no (by rw [h]; decide)
  have f4 : (s.toList == [108]) = false := str_no (by rw [h]; decide)
  have f5 : (s.toList == [108, 105, 109, 105, 116]) = false := str_no (by rw [h]; decide)
  have f6 : (s.toList == [109, 97, 105, 108]) = false := str_no (by rw [h]; decide)
  have f7 : (s.toList == [109, 101, 109, 98, 101, 114]) = false := str_no (by rw [h]; decide)
  have f8 : (s.toList == [111]) = false := str_no (by rw [h]; decide)
  have f9 : (s.toList == [111, 98, 106, 101, 99, 116, 99, 108, 97, 115, 115]) = false := str_no (by rw [h]; decide)
  have f10 : (s.toList == [111, 117]) = false := str_no (by rw [h]; decide)
  have f11 : (s.toList == [112, 104, 111, 116, 111]) = false := str_no (by rw [h]; decide)
  have f12 : (s.toList == [115, 101, 101, 97, 108, 115, 111]) = false := str_no (by rw [h]; decide)
  have f13 : (s.toList == [115, 101, 114, 105, 97, 108, 110, 117, 109, 98, 101, 114]) = false := str_no (by rw [h]; decide)
  have f14 : (s.toList == [115, 110]) = false := str_no (by rw [h]; decide)
  have f15 : (s.toList == [116, 101, 108, 101, 112, 104, 111, 110, 101, 110, 117, 109, 98, 101, 114]) = false := str_no (by rw [h]; decide)
  have f16 : (s.toList == [116, 105, 116, 108, 101]) = false := str_no (by rw [h]; decide)
  have f17 : (s.toList == [117, 105, 100]) = false := str_no (by rw [h]; decide)
  have f18 : (s.toList == [117, 105, 100, 110, 117, 109, 98, 101, 114]) = false := str_no (by rw [h]; decide)
  have f19 : (s.toList == [117, 115, 101, 114, 112, 97, 115, 115, 119, 111, 114, 100]) = false := str_no (by rw [h]; decide)
  clear h
  go_enter Tryz.func49, Tryz.ntmps49
  go_wp2_with fail
  go_ret
  exact ⟨rfl, rfl⟩
set_option maxRecDepth 20000 in
set_option maxHeartbeats 4000000 in
theorem syn_3 (s : ByteArray) (w : World) (h : s.data.toList = [101, 110, 97, 98, 108, 101, 100]) : Calls Tryz.prog 49 #[.string s] w fun e w' => e = .returned (.int .i64 5) ∧ w = w' := by
  have f0 : (s.toList == [99, 110]) = false := str_no (by rw [h]; decide)
  have f1 : (s.toList == [100, 99]) = false := str_no (by rw [h]; decide)
  have f2 : (s.toList == [100, 101, 115, 99, 114, 105, 112, 116, 105, 111, 110]) = false := str_no (by rw [h]; decide)
  have f3 := str_is h
  have f4 : (s.toList == [108]) = false := str_no (by rw [h]; decide)
  have f5 : (s.toList == [108, 105, 109, 105, 116]) = false := str_no (by rw [h]; decide)
  have f6 : (s.toList == [109, 97, 105, 108]) = false := str_no (by rw [h]; decide)
  have f7 : (s.toList == [109, 101, 109, 98, 101, 114]) = false := str_no (by rw [h]; decide)
  have f8 : (s.toList == [111]) = false := str_no (by rw [h]; decide)
  have f9 : (s.toList == [111, 98, 106, 101, 99, 116, 99, 108, 97, 115, 115]) = false := str_no (by rw [h]; decide)
  have f10 : (s.toList == [111, 117]) = false := str_no (by rw [h]; decide)
  have f11 : (s.toList == [112, 104, 111, 116, 111]) = false := str_no (by rw [h]; decide)
  have f12 : (s.toList == [115, 101, 101, 97, 108, 115, 111]) = false := str_no (by rw [h]; decide)
  have f13 : (s.toList == [115, 101, 114, 105, 97, 108, 110, 117, 109, 98, 101, 114]) = false := str_no (by rw [h]; decide)
  have f14 : (s.toList == [115, 110]) = false := str_no (by rw [h]; decide)
  have f15 : (s.toList == [116, 101, 108, 101, 112, 104, 111, 110, 101, 110, 117, 109, 98, 101, 114]) = false := str_no (by rw [h]; decide)
  have f16 : (s.toList == [116, 105, 116, 108, 101]) = false := str_no (by rw [h]; decide)
  have f17 : (s.toList == [117, 105, 100]) = false := str_no (by rw [h]; decide)
  have f18 : (s.toList == [117, 105, 100, 110, 117, 109, 98, 101, 114]) = false := str_no (by rw [h]; decide)
  have f19 : (s.toList == [117, 115, 101, 114, 112, 97, 115, 115, 119, 111, 114, 100]) = false := str_no (by rw [h]; decide)
  clear h
  go_enter Tryz.func49, Tryz.ntmps49
  go_wp2_with fail
  go_ret
  exact ⟨rfl, rfl⟩
set_option maxRecDepth 20000 in
set_option maxHeartbeats 4000000 in
theorem syn_4 (s : ByteArray) (w : World) (h : s.data.toList = [108]) : Calls Tryz.prog 49 #[.string s] w fun e w' => e = .returned (.int .i64 1) ∧ w = w' := by
  have f0 : (s.toList == [99, 110]) = false := str_no (by rw [h]; decide)
  have f1 : (s.toList == [100, 99]) = false := str_no (by rw [h]; decide)
  have f2 : (s.toList == [100, 101, 115, 99, 114, 105, 112, 116, 105, 111, 110]) = false := str_no (by rw [h]; decide)
  have f3 : (s.toList == [101, 110, 97, 98, 108, 101, 100]) = false := str_no (by rw [h]; decide)
  have f4 := str_is h
  have f5 : (s.toList == [108, 105, 109, 105, 116]) = false := str_no (by rw [h]; decide)
  have f6 : (s.toList == [109, 97, 105, 108]) = false := str_no (by rw [h]; decide)
  have f7 : (s.toList == [109, 101, 109, 98, 101, 114]) = false := str_no (by rw [h]; decide)
  have f8 : (s.toList == [111]) = false := str_no (by rw [h]; decide)
  have f9 : (s.toList == [111, 98, 106, 101, 99, 116, 99, 108, 97, 115, 115]) = false := str_no (by rw [h]; decide)
  have f10 : (s.toList == [111, 117]) = false := str_no (by rw [h]; decide)
  have f11 : (s.toList == [112, 104, 111, 116, 111]) = false := str_no (by rw [h]; decide)
  have f12 : (s.toList == [115, 101, 101, 97, 108, 115, 111]) = false := str_no (by rw [h]; decide)
  have f13 : (s.toList == [115, 101, 114, 105, 97, 108, 110, 117, 109, 98, 101, 114]) = false := str_no (by rw [h]; decide)
  have f14 : (s.toList == [115, 110]) = false := str_no (by rw [h]; decide)
  have f15 : (s.toList == [116, 101, 108, 101, 112, 104, 111, 110, 101, 110, 117, 109, 98, 101, 114]) = false := str_no (by rw [h]; decide)
  have f16 : (s.toList == [116, 105, 116, 108, 101]) = false := str_no (by rw [h]; decide)
  have f17 : (s.toList == [117, 105, 100]) = false := str_no (by rw [h]; decide)
  have f18 : (s.toList == [117, 105, 100, 110, 117, 109, 98, 101, 114]) = false := str_no (by rw [h]; decide)
  have f19 : (s.toList == [117, 115, 101, 114, 112, 97, 115, 115, 119, 111, 114, 100]) = false := str_no (by rw [h]; decide)
  clear h
  go_enter Tryz.func49, Tryz.ntmps49
  go_wp2_with fail
  go_ret
  exact ⟨rfl, rfl⟩
set_option maxRecDepth 20000 in
set_option maxHeartbeats 4000000 in
theorem syn_5 (s : ByteArray) (w : World) (h : s.data.toList = [108, 105, 109, 105, 116]) : Calls Tryz.prog 49 #[.string s] w fun e w' => e = .returned (.int .i64 4) ∧ w = w' := by
  have f0 : (s.toList == [99, 110]) = false := str_no (by rw [h]; decide)
  have f1 : (s.toList == [100, 99]) = false := str_no (by rw [h]; decide)
  have f2 : (s.toList == [100, 101, 115, 99, 114, 105, 112, 116, 105, 111, 110]) = false := str_no (by rw [h]; decide)
  have f3 : (s.toList == [101, 110, 97, 98, 108, 101, 100]) = false := str_no (by rw [h]; decide)
  have f4 : (s.toList == [108]) = false := str_no (by rw [h]; decide)
  have f5 := str_is h
  have f6 : (s.toList == [109, 97, 105, 108]) = false := str_no (by rw [h]; decide)
  have f7 : (s.toList == [109, 101, 109, 98, 101, 114]) = false := str_no (by rw [h]; decide)
  have f8 : (s.toList == [111]) = false := str_no (by rw [h]; decide)
  have f9 : (s.toList == [111, 98, 106, 101, 99, 116, 99, 108, 97, 115, 115]) = false := str_no (by rw [h]; decide)
  have f10 : (s.toList == [111, 117]) = false := str_no (by rw [h]; decide)
  have f11 : (s.toList == [112, 104, 111, 116, 111]) = false := str_no (by rw [h]; decide)
  have f12 : (s.toList == [115, 101, 101, 97, 108, 115, 111]) = false := str_no (by rw [h]; decide)
  have f13 : (s.toList == [115, 101, 114, 105, 97, 108, 110, 117, 109, 98, 101, 114]) = false := str_no (by rw [h]; decide)
  have f14 : (s.toList == [115, 110]) = false := str_no (by rw [h]; decide)
  have f15 : (s.toList == [116, 101, 108, 101, 112, 104, 111, 110, 101, 110, 117, 109, 98, 101, 114]) = false := str_no (by rw [h]; decide)
  have f16 : (s.toList == [116, 105, 116, 108, 101]) = false := str_no (by rw [h]; decide)
  have f17 : (s.toList == [117, 105, 100]) = false := str_no (by rw [h]; decide)
  have f18 : (s.toList == [117, 105, 100, 110, 117, 109, 98, 101, 114]) = false := str_no (by rw [h]; decide)
  have f19 : (s.toList == [117, 115, 101, 114, 112, 97, 115, 115, 119, 111, 114, 100]) = false := str_no (by rw [h]; decide)
  clear h
  go_enter Tryz.func49, Tryz.ntmps49
  go_wp2_with fail
  go_ret
  exact ⟨rfl, rfl⟩
set_option maxRecDepth 20000 in
set_option maxHeartbeats 4000000 in
theorem syn_6 (s : ByteArray) (w : World) (h : s.data.toList = [109, 97, 105, 108]) : Calls Tryz.prog 49 #[.string s] w fun e w' => e = .returned (.int .i64 1) ∧ w = w' := by
  have f0 : (s.toList == [99, 110]) = false := str_no (by rw [h]; decide)
  have f1 : (s.toList == [100, 99]) = false := str_no (by rw [h]; decide)
  have f2 : (s.toList == [100, 101, 115, 99, 114, 105, 112, 116, 105, 111, 110]) = false := str_no (by rw [h]; decide)
  have f3 : (s.toList == [101, 110, 97, 98, 108, 101, 100]) = false := str_no (by rw [h]; decide)
  have f4 : (s.toList == [108]) = false := str_no (by rw [h]; decide)
  have f5 : (s.toList == [108, 105, 109, 105, 116]) = false := str_no (by rw [h]; decide)
  have f6 := str_is h
  have f7 : (s.toList == [109, 101, 109, 98, 101, 114]) = false := str_no (by rw [h]; decide)
  have f8 : (s.toList == [111]) = false := str_no (by rw [h]; decide)
  have f9 : (s.toList == [111, 98, 106, 101, 99, 116, 99, 108, 97, 115, 115]) = false := str_no (by rw [h]; decide)
  have f10 : (s.toList == [111, 117]) = false := str_no (by rw [h]; decide)
  have f11 : (s.toList == [112, 104, 111, 116, 111]) = false := str_no (by rw [h]; decide)
  have f12 : (s.toList == [115, 101, 101, 97, 108, 115, 111]) = false := str_no (by rw [h]; decide)
  have f13 : (s.toList == [115, 101, 114, 105, 97, 108, 110, 117, 109, 98, 101, 114]) = false := str_no (by rw [h]; decide)
  have f14 : (s.toList == [115, 110]) = false := str_no (by rw [h]; decide)
  have f15 : (s.toList == [116, 101, 108, 101, 112, 104, 111, 110, 101, 110, 117, 109, 98, 101, 114]) = false := str_no (by rw [h]; decide)
  have f16 : (s.toList == [116, 105, 116, 108, 101]) = false := str_no (by rw [h]; decide)
  have f17 : (s.toList == [117, 105, 100]) = false := str_no (by rw [h]; decide)
  have f18 : (s.toList == [117, 105, 100, 110, 117, 109, 98, 101, 114]) = false := str_no (by rw [h]; decide)
  have f19 : (s.toList == [117, 115, 101, 114, 112, 97, 115, 115, 119, 111, 114, 100]) = false := str_no (by rw [h]; decide)
  clear h
  go_enter Tryz.func49, Tryz.ntmps49
  go_wp2_with fail
  go_ret
  exact ⟨rfl, rfl⟩
set_option maxRecDepth 20000 in
set_option maxHeartbeats 4000000 in
theorem syn_7 (s : ByteArray) (w : World) (h : s.data.toList = [109, 101, 109, 98, 101, 114]) : Calls Tryz.prog 49 #[.string s] w fun e w' => e = .returned (.int .i64 6) ∧ w = w' := by
  have f0 : (s.toList == [99, 110]) = false := str_no (by rw [h]; decide)
  have f1 : (s.toList == [100, 99]) = false := str_no (by rw [h]; decide)
  have f2 : (s.toList == [100, 101, 115, 99, 114, 105, 112, 116, 105, 111, 110]) = false := str_no (by rw [h]; decide)
  have f3 : (s.toList == [101, 110, 97, 98, 108, 101, 100]) = false := str_no (by rw [h]; decide)
  have f4 : (s.toList == [108]) = false := str_no (by rw [h]; decide)
  have f5 : (s.toList == [108, 105, 109, 105, 116]) = false := str_no (by rw [h]; decide)
  have f6 : (s.toList == [109, 97, 105, 108]) = false := str_no (by rw [h]; decide)
  have f7 := str_is h
  have f8 : (s.toList == [111]) = false := str_no (by rw [h]; decide)
  have f9 : (s.toList == [111, 98, 106, 101, 99, 116, 99, 108, 97, 115, 115]) = false := str_no (by rw [h]; decide)
  have f10 : (s.toList == [111, 117]) = false := str_no (by rw [h]; decide)
  have f11 : (s.toList == [112, 104, 111, 116, 111]) = false := str_no (by rw [h]; decide)
  have f12 : (s.toList == [115, 101, 101, 97, 108, 115, 111]) = false := str_no (by rw [h]; decide)
  have f13 : (s.toList == [115, 101, 114, 105, 97, 108, 110, 117, 109, 98, 101, 114]) = false := str_no (by rw [h]; decide)
  have f14 : (s.toList == [115, 110]) = false := str_no (by rw [h]; decide)
  have f15 : (s.toList == [116, 101, 108, 101, 112, 104, 111, 110, 101, 110, 117, 109, 98, 101, 114]) = false := str_no (by rw [h]; decide)
  have f16 : (s.toList == [116, 105, 116, 108, 101]) = false := str_no (by rw [h]; decide)
  have f17 : (s.toList == [117, 105, 100]) = false := str_no (by rw [h]; decide)
  have f18 : (s.toList == [117, 105, 100, 110, 117, 109, 98, 101, 114]) = false := str_no (by rw [h]; decide)
  have f19 : (s.toList == [117, 115, 101, 114, 112, 97, 115, 115, 119, 111, 114, 100]) = false := str_no (by rw [h]; decide)
  clear h
  go_enter Tryz.func49, Tryz.ntmps49
  go_wp2_with fail
  go_ret
  exact ⟨rfl, rfl⟩
set_option maxRecDepth 20000 in
set_option maxHeartbeats 4000000 in
theorem syn_8 (s : ByteArray) (w : World) (h : s.data.toList = [111]) : Calls Tryz.prog 49 #[.string s] w fun e w' => e = .returned (.int .i64 1) ∧ w = w' := by
  have f0 : (s.toList == [99, 110]) = false := str_no (by rw [h]; decide)
  have f1 : (s.toList == [100, 99]) = false := str_no (by rw [h]; decide)
  have f2 : (s.toList == [100, 101, 115, 99, 114, 105, 112, 116, 105, 111, 110]) = false := str_no (by rw [h]; decide)
  have f3 : (s.toList == [101, 110, 97, 98, 108, 101, 100]) = false := str_no (by rw [h]; decide)
  have f4 : (s.toList == [108]) = false := str_no (by rw [h]; decide)
  have f5 : (s.toList == [108, 105, 109, 105, 116]) = false := str_no (by rw [h]; decide)
  have f6 : (s.toList == [109, 97, 105, 108]) = false := str_no (by rw [h]; decide)
  have f7 : (s.toList == [109, 101, 109, 98, 101, 114]) = false := str_no (by rw [h]; decide)
  have f8 := str_is h
  have f9 : (s.toList == [111, 98, 106, 101, 99, 116, 99, 108, 97, 115, 115]) = false := str_no (by rw [h]; decide)
  have f10 : (s.toList == [111, 117]) = false := str_no (by rw [h]; decide)
  have f11 : (s.toList == [112, 104, 111, 116, 111]) = false := str_no (by rw [h]; decide)
  have f12 : (s.toList == [115, 101, 101, 97, 108, 115, 111]) = false := str_no (by rw [h]; decide)
  have f13 : (s.toList == [115, 101, 114, 105, 97, 108, 110, 117, 109, 98, 101, 114]) = false := str_no (by rw [h]; decide)
  have f14 : (s.toList == [115, 110]) = false := str_no (by rw [h]; decide)
  have f15 : (s.toList == [116, 101, 108, 101, 112, 104, 111, 110, 101, 110, 117, 109, 98, 101, 114]) = false := str_no (by rw [h]; decide)
  have f16 : (s.toList == [116, 105, 116, 108, 101]) = false := str_no (by rw [h]; decide)
  have f17 : (s.toList == [117, 105, 100]) = false := str_no (by rw [h]; decide)
  have f18 : (s.toList == [117, 105, 100, 110, 117, 109, 98, 101, 114]) = false := str_no (by rw [h]; decide)
  have f19 : (s.toList == [117, 115, 101, 114, 112, 97, 115, 115, 119, 111, 114, 100]) = false := str_no (by rw [h]; decide)
  clear h
  go_enter Tryz.func49, Tryz.ntmps49
  go_wp2_with fail
  go_ret
  exact ⟨rfl, rfl⟩
set_option maxRecDepth 20000 in
set_option maxHeartbeats 4000000 in
theorem syn_9 (s : ByteArray) (w : World) (h : s.data.toList = [111, 98, 106, 101, 99, 116, 99, 108, 97, 115, 115]) : Calls Tryz.prog 49 #[.string s] w fun e w' => e = .returned (.int .i64 1) ∧ w = w' := by
  have f0 : (s.toList == [99, 110]) = false := str_no (by rw [h]; decide)
  have f1 : (s.toList == [100, 99]) = false := str_no (by rw [h]; decide)
  have f2 : (s.toList == [100, 101, 115, 99, 114, 105, 112, 116, 105, 111, 110]) = false := str_no (by rw [h]; decide)
  have f3 : (s.toList == [101, 110, 97, 98, 108, 101, 100]) = false := str_no (by rw [h]; decide)
  have f4 : (s.toList == [108]) = false := str_no (by rw [h]; decide)
  have f5 : (s.toList == [108, 105, 109, 105, 116]) = false := str_no (by rw [h]; decide)
  have f6 : (s.toList == [109, 97, 105, 108]) = false := str_no (by rw [h]; decide)
  have f7 : (s.toList == [109, 101, 109, 98, 101, 114]) = false := str_no (by rw [h]; decide)
  have f8 : (s.toList == [111]) = false := str_no (by rw [h]; decide)
  have f9 := str_is h
  have f10 : (s.toList == [111, 117]) = false := str_no (by rw [h]; decide)
  have f11 : (s.toList == [112, 104, 111, 116, 111]) = false := str_no (by rw [h]; decide)
  have f12 : (s.toList == [115, 101, 101, 97, 108, 115, 111]) = false := str_no (by rw [h]; decide)
  have f13 : (s.toList == [115, 101, 114, 105, 97, 108, 110, 117, 109, 98, 101, 114]) = false := str_no (by rw [h]; decide)
  have f14 : (s.toList == [115, 110]) = false := str_no (by rw [h]; decide)
  have f15 : (s.toList == [116, 101, 108, 101, 112, 104, 111, 110, 101, 110, 117, 109, 98, 101, 114]) = false := str_no (by rw [h]; decide)
  have f16 : (s.toList == [116, 105, 116, 108, 101]) = false := str_no (by rw [h]; decide)
  have f17 : (s.toList == [117, 105, 100]) = false := str_no (by rw [h]; decide)
  have f18 : (s.toList == [117, 105, 100, 110, 117, 109, 98, 101, 114]) = false := str_no (by rw [h]; decide)
  have f19 : (s.toList == [117, 115, 101, 114, 112, 97, 115, 115, 119, 111, 114, 100]) = false := str_no (by rw [h]; decide)
  clear h
  go_enter Tryz.func49, Tryz.ntmps49
  go_wp2_with fail
  go_ret
  exact ⟨rfl, rfl⟩
set_option maxRecDepth 20000 in
set_option maxHeartbeats 4000000 in
theorem syn_10 (s : ByteArray) (w : World) (h : s.data.toList = [111, 117]) : Calls Tryz.prog 49 #[.string s] w fun e w' => e = .returned (.int .i64 1) ∧ w = w' := by
  have f0 : (s.toList == [99, 110]) = false := str_no (by rw [h]; decide)
  have f1 : (s.toList == [100, 99]) = false := str_no (by rw [h]; decide)
  have f2 : (s.toList == [100, 101, 115, 99, 114, 105, 112, 116, 105, 111, 110]) = false := str_no (by rw [h]; decide)
  have f3 : (s.toList == [101, 110, 97, 98, 108, 101, 100]) = false := str_no (by rw [h]; decide)
  have f4 : (s.toList == [108]) = false := str_no (by rw [h]; decide)
  have f5 : (s.toList == [108, 105, 109, 105, 116]) = false := str_no (by rw [h]; decide)
  have f6 : (s.toList == [109, 97, 105, 108]) = false := str_no (by rw [h]; decide)
  have f7 : (s.toList == [109, 101, 109, 98, 101, 114]) = false := str_no (by rw [h]; decide)
  have f8 : (s.toList == [111]) = false := str_no (by rw [h]; decide)
  have f9 : (s.toList == [111, 98, 106, 101, 99, 116, 99, 108, 97, 115, 115]) = false := str_no (by rw [h]; decide)
  have f10 := str_is h
  have f11 : (s.toList == [112, 104, 111, 116, 111]) = false := str_no (by rw [h]; decide)
  have f12 : (s.toList == [115, 101, 101, 97, 108, 115, 111]) = false := str_no (by rw [h]; decide)
  have f13 : (s.toList == [115, 101, 114, 105, 97, 108, 110, 117, 109, 98, 101, 114]) = false := str_no (by rw [h]; decide)
  have f14 : (s.toList == [115, 110]) = false := str_no (by rw [h]; decide)
  have f15 : (s.toList == [116, 101, 108, 101, 112, 104, 111, 110, 101, 110, 117, 109, 98, 101, 114]) = false := str_no (by rw [h]; decide)
  have f16 : (s.toList == [116, 105, 116, 108, 101]) = false := str_no (by rw [h]; decide)
  have f17 : (s.toList == [117, 105, 100]) = false := str_no (by rw [h]; decide)
  have f18 : (s.toList == [117, 105, 100, 110, 117, 109, 98, 101, 114]) = false := str_no (by rw [h]; decide)
  have f19 : (s.toList == [117, 115, 101, 114, 112, 97, 115, 115, 119, 111, 114, 100]) = false := str_no (by rw [h]; decide)
  clear h
  go_enter Tryz.func49, Tryz.ntmps49
  go_wp2_with fail
  go_ret
  exact ⟨rfl, rfl⟩
set_option maxRecDepth 20000 in
set_option maxHeartbeats 4000000 in
theorem syn_11 (s : ByteArray) (w : World) (h : s.data.toList = [112, 104, 111, 116, 111]) : Calls Tryz.prog 49 #[.string s] w fun e w' => e = .returned (.int .i64 3) ∧ w = w' := by
  have f0 : (s.toList == [99, 110]) = false := str_no (by rw [h]; decide)
  have f1 : (s.toList == [100, 99]) = false := str_no (by rw [h]; decide)
  have f2 : (s.toList == [100, 101, 115, 99, 114, 105, 112, 116, 105, 111, 110]) = false := str_no (by rw [h]; decide)
  have f3 : (s.toList == [101, 110, 97, 98, 108, 101, 100]) = false := str_no (by rw [h]; decide)
  have f4 : (s.toList == [108]) = false := str_no (by rw [h]; decide)
  have f5 : (s.toList == [108, 105, 109, 105, 116]) = false := str_no (by rw [h]; decide)
  have f6 : (s.toList == [109, 97, 105, 108]) = false := str_no (by rw [h]; decide)
  have f7 : (s.toList == [109, 101, 109, 98, 101, 114]) = false := str_no (by rw [h]; decide)
  have f8 : (s.toList == [111]) = false := str_no (by rw [h]; decide)
  have f9 : (s.toList == [111, 98, 106, 101, 99, 116, 99, 108, 97, 115, 115]) = false := str_no (by rw [h]; decide)
  have f10 : (s.toList == [111, 117]) = false := str_no (by rw [h]; decide)
  have f11 := str_is h
  have f12 : (s.toList == [115, 101, 101, 97, 108, 115, 111]) = false := str_no (by rw [h]; decide)
  have f13 : (s.toList == [115, 101, 114, 105, 97, 108, 110, 117, 109, 98, 101, 114]) = false := str_no (by rw [h]; decide)
  have f14 : (s.toList == [115, 110]) = false := str_no (by rw [h]; decide)
  have f15 : (s.toList == [116, 101, 108, 101, 112, 104, 111, 110, 101, 110, 117, 109, 98, 101, 114]) = false := str_no (by rw [h]; decide)
  have f16 : (s.toList == [116, 105, 116, 108, 101]) = false := str_no (by rw [h]; decide)
  have f17 : (s.toList == [117, 105, 100]) = false := str_no (by rw [h]; decide)
  have f18 : (s.toList == [117, 105, 100, 110, 117, 109, 98, 101, 114]) = false := str_no (by rw [h]; decide)
  have f19 : (s.toList == [117, 115, 101, 114, 112, 97, 115, 115, 119, 111, 114, 100]) = false := str_no (by rw [h]; decide)
  clear h
  go_enter Tryz.func49, Tryz.ntmps49
  go_wp2_with fail
  go_ret
  exact ⟨rfl, rfl⟩
set_option maxRecDepth 20000 in
set_option maxHeartbeats 4000000 in
theorem syn_12 (s : ByteArray) (w : World) (h : s.data.toList = [115, 101, 101, 97, 108, 115, 111]) : Calls Tryz.prog 49 #[.string s] w fun e w' => e = .returned (.int .i64 6) ∧ w = w' := by
  have f0 : (s.toList == [99, 110]) = false := str_no (by rw [h]; decide)
  have f1 : (s.toList == [100, 99]) = false := str_no (by rw [h]; decide)
  have f2 : (s.toList == [100, 101, 115, 99, 114, 105, 112, 116, 105, 111, 110]) = false := str_no (by rw [h]; decide)
  have f3 : (s.toList == [101, 110, 97, 98, 108, 101, 100]) = false := str_no (by rw [h]; decide)
  have f4 : (s.toList == [108]) = false := str_no (by rw [h]; decide)
  have f5 : (s.toList == [108, 105, 109, 105, 116]) = false := str_no (by rw [h]; decide)
  have f6 : (s.toList == [109, 97, 105, 108]) = false := str_no (by rw [h]; decide)
  have f7 : (s.toList == [109, 101, 109, 98, 101, 114]) = false := str_no (by rw [h]; decide)
  have f8 : (s.toList == [111]) = false := str_no (by rw [h]; decide)
  have f9 : (s.toList == [111, 98, 106, 101, 99, 116, 99, 108, 97, 115, 115]) = false := str_no (by rw [h]; decide)
  have f10 : (s.toList == [111, 117]) = false := str_no (by rw [h]; decide)
  have f11 : (s.toList == [112, 104, 111, 116, 111]) = false := str_no (by rw [h]; decide)
  have f12 := str_is h
  have f13 : (s.toList == [115, 101, 114, 105, 97, 108, 110, 117, 109, 98, 101, 114]) = false := str_no (by rw [h]; decide)
  have f14 : (s.toList == [115, 110]) = false := str_no (by rw [h]; decide)
  have f15 : (s.toList == [116, 101, 108, 101, 112, 104, 111, 110, 101, 110, 117, 109, 98, 101, 114]) = false := str_no (by rw [h]; decide)
  have f16 : (s.toList == [116, 105, 116, 108, 101]) = false := str_no (by rw [h]; decide)
  have f17 : (s.toList == [117, 105, 100]) = false := str_no (by rw [h]; decide)
  have f18 : (s.toList == [117, 105, 100, 110, 117, 109, 98, 101, 114]) = false := str_no (by rw [h]; decide)
  have f19 : (s.toList == [117, 115, 101, 114, 112, 97, 115, 115, 119, 111, 114, 100]) = false := str_no (by rw [h]; decide)
  clear h
  go_enter Tryz.func49, Tryz.ntmps49
  go_wp2_with fail
  go_ret
  exact ⟨rfl, rfl⟩
set_option maxRecDepth 20000 in
set_option maxHeartbeats 4000000 in
theorem syn_13 (s : ByteArray) (w : World) (h : s.data.toList = [115, 101, 114, 105, 97, 108, 110, 117, 109, 98, 101, 114]) : Calls Tryz.prog 49 #[.string s] w fun e w' => e = .returned (.int .i64 2) ∧ w = w' := by
  have f0 : (s.toList == [99, 110]) = false := str_no (by rw [h]; decide)
  have f1 : (s.toList == [100, 99]) = false := str_no (by rw [h]; decide)
  have f2 : (s.toList == [100, 101, 115, 99, 114, 105, 112, 116, 105, 111, 110]) = false := str_no (by rw [h]; decide)
  have f3 : (s.toList == [101, 110, 97, 98, 108, 101, 100]) = false := str_no (by rw [h]; decide)
  have f4 : (s.toList == [108]) = false := str_no (by rw [h]; decide)
  have f5 : (s.toList == [108, 105, 109, 105, 116]) = false := str_no (by rw [h]; decide)
  have f6 : (s.toList == [109, 97, 105, 108]) = false := str_no (by rw [h]; decide)
  have f7 : (s.toList == [109, 101, 109, 98, 101, 114]) = false := str_no (by rw [h]; decide)
  have f8 : (s.toList == [111]) = false := str_no (by rw [h]; decide)
  have f9 : (s.toList == [111, 98, 106, 101, 99, 116, 99, 108, 97, 115, 115]) = false := str_no (by rw [h]; decide)
  have f10 : (s.toList == [111, 117]) = false := str_no (by rw [h]; decide)
  have f11 : (s.toList == [112, 104, 111, 116, 111]) = false := str_no (by rw [h]; decide)
  have f12 : (s.toList == [115, 101, 101, 97, 108, 115, 111]) = false := str_no (by rw [h]; decide)
  have f13 := str_is h
  have f14 : (s.toList == [115, 110]) = false := str_no (by rw [h]; decide)
  have f15 : (s.toList == [116, 101, 108, 101, 112, 104, 111, 110, 101, 110, 117, 109, 98, 101, 114]) = false := str_no (by rw [h]; decide)
  have f16 : (s.toList == [116, 105, 116, 108, 101]) = false := str_no (by rw [h]; decide)
  have f17 : (s.toList == [117, 105, 100]) = false := str_no (by rw [h]; decide)
  have f18 : (s.toList == [117, 105, 100, 110, 117, 109, 98, 101, 114]) = false := str_no (by rw [h]; decide)
  have f19 : (s.toList == [117, 115, 101, 114, 112, 97, 115, 115, 119, 111, 114, 100]) = false := str_no (by rw [h]; decide)
  clear h
  go_enter Tryz.func49, Tryz.ntmps49
  go_wp2_with fail
  go_ret
  exact ⟨rfl, rfl⟩
set_option maxRecDepth 20000 in
set_option maxHeartbeats 4000000 in
theorem syn_14 (s : ByteArray) (w : World) (h : s.data.toList = [115, 110]) : Calls Tryz.prog 49 #[.string s] w fun e w' => e = .returned (.int .i64 1) ∧ w = w' := by
  have f0 : (s.toList == [99, 110]) = false := str_no (by rw [h]; decide)
  have f1 : (s.toList == [100, 99]) = false := str_no (by rw [h]; decide)
  have f2 : (s.toList == [100, 101, 115, 99, 114, 105, 112, 116, 105, 111, 110]) = false := str_no (by rw [h]; decide)
  have f3 : (s.toList == [101, 110, 97, 98, 108, 101, 100]) = false := str_no (by rw [h]; decide)
  have f4 : (s.toList == [108]) = false := str_no (by rw [h]; decide)
  have f5 : (s.toList == [108, 105, 109, 105, 116]) = false := str_no (by rw [h]; decide)
  have f6 : (s.toList == [109, 97, 105, 108]) = false := str_no (by rw [h]; decide)
  have f7 : (s.toList == [109, 101, 109, 98, 101, 114]) = false := str_no (by rw [h]; decide)
  have f8 : (s.toList == [111]) = false := str_no (by rw [h]; decide)
  have f9 : (s.toList == [111, 98, 106, 101, 99, 116, 99, 108, 97, 115, 115]) = false := str_no (by rw [h]; decide)
  have f10 : (s.toList == [111, 117]) = false := str_no (by rw [h]; decide)
  have f11 : (s.toList == [112, 104, 111, 116, 111]) = false := str_no (by rw [h]; decide)
  have f12 : (s.toList == [115, 101, 101, 97, 108, 115, 111]) = false := str_no (by rw [h]; decide)
  have f13 : (s.toList == [115, 101, 114, 105, 97, 108, 110, 117, 109, 98, 101, 114]) = false := str_no (by rw [h]; decide)
  have f14 := str_is h
  have f15 : (s.toList == [116, 101, 108, 101, 112, 104, 111, 110, 101, 110, 117, 109, 98, 101, 114]) = false := str_no (by rw [h]; decide)
  have f16 : (s.toList == [116, 105, 116, 108, 101]) = false := str_no (by rw [h]; decide)
  have f17 : (s.toList == [117, 105, 100]) = false := str_no (by rw [h]; decide)
  have f18 : (s.toList == [117, 105, 100, 110, 117, 109, 98, 101, 114]) = false := str_no (by rw [h]; decide)
  have f19 : (s.toList == [117, 115, 101, 114, 112, 97, 115, 115, 119, 111, 114, 100]) = false := str_no (by rw [h]; decide)
  clear h
  go_enter Tryz.func49, Tryz.ntmps49
  go_wp2_with fail
  go_ret
  exact ⟨rfl, rfl⟩
set_option maxRecDepth 20000 in
set_option maxHeartbeats 4000000 in
theorem syn_15 (s : ByteArray) (w : World) (h : s.data.toList = [116, 101, 108, 101, 112, 104, 111, 110, 101, 110, 117, 109, 98, 101, 114]) : Calls Tryz.prog 49 #[.string s] w fun e w' => e = .returned (.int .i64 7) ∧ w = w' := by
  have f0 : (s.toList == [99, 110]) = false := str_no (by rw [h]; decide)
  have f1 : (s.toList == [100, 99]) = false := str_no (by rw [h]; decide)
  have f2 : (s.toList == [100, 101, 115, 99, 114, 105, 112, 116, 105, 111, 110]) = false := str_no (by rw [h]; decide)
  have f3 : (s.toList == [101, 110, 97, 98, 108, 101, 100]) = false := str_no (by rw [h]; decide)
  have f4 : (s.toList == [108]) = false := str_no (by rw [h]; decide)
  have f5 : (s.toList == [108, 105, 109, 105, 116]) = false := str_no (by rw [h]; decide)
  have f6 : (s.toList == [109, 97, 105, 108]) = false := str_no (by rw [h]; decide)
  have f7 : (s.toList == [109, 101, 109, 98, 101, 114]) = false := str_no (by rw [h]; decide)
  have f8 : (s.toList == [111]) = false := str_no (by rw [h]; decide)
  have f9 : (s.toList == [111, 98, 106, 101, 99, 116, 99, 108, 97, 115, 115]) = false := str_no (by rw [h]; decide)
  have f10 : (s.toList == [111, 117]) = false := str_no (by rw [h]; decide)
  have f11 : (s.toList == [112, 104, 111, 116, 111]) = false := str_no (by rw [h]; decide)
  have f12 : (s.toList == [115, 101, 101, 97, 108, 115, 111]) = false := str_no (by rw [h]; decide)
  have f13 : (s.toList == [115, 101, 114, 105, 97, 108, 110, 117, 109, 98, 101, 114]) = false := str_no (by rw [h]; decide)
  have f14 : (s.toList == [115, 110]) = false := str_no (by rw [h]; decide)
  have f15 := str_is h
  have f16 : (s.toList == [116, 105, 116, 108, 101]) = false := str_no (by rw [h]; decide)
  have f17 : (s.toList == [117, 105, 100]) = false := str_no (by rw [h]; decide)
  have f18 : (s.toList == [117, 105, 100, 110, 117, 109, 98, 101, 114]) = false := str_no (by rw [h]; decide)
  have f19 : (s.toList == [117, 115, 101, 114, 112, 97, 115, 115, 119, 111, 114, 100]) = false := str_no (by rw [h]; decide)
  clear h
  go_enter Tryz.func49, Tryz.ntmps49
  go_wp2_with fail
  go_ret
  exact ⟨rfl, rfl⟩
set_option maxRecDepth 20000 in
set_option maxHeartbeats 4000000 in
theorem syn_16 (s : ByteArray) (w : World) (h : s.data.toList = [116, 105, 116, 108, 101]) : Calls Tryz.prog 49 #[.string s] w fun e w' => e = .returned (.int .i64 1) ∧ w = w' := by
  have f0 : (s.toList == [99, 110]) = false := str_no (by rw [h]; decide)
  have f1 : (s.toList == [100, 99]) = false := str_no (by rw [h]; decide)
  have f2 : (s.toList == [100, 101, 115, 99, 114, 105, 112, 116, 105, 111, 110]) = false := str_no (by rw [h]; decide)
  have f3 : (s.toList == [101, 110, 97, 98, 108, 101, 100]) = false := str_no (by rw [h]; decide)
  have f4 : (s.toList == [108]) = false := str_no (by rw [h]; decide)
  have f5 : (s.toList == [108, 105, 109, 105, 116]) = false := str_no (by rw [h]; decide)
  have f6 : (s.toList == [109, 97, 105, 108]) = false := str_no (by rw [h]; decide)
  have f7 : (s.toList == [109, 101, 109, 98, 101, 114]) = false := str_no (by rw [h]; decide)
  have f8 : (s.toList == [111]) = false := str_no (by rw [h]; decide)
  have f9 : (s.toList == [111, 98, 106, 101, 99, 116, 99, 108, 97, 115, 115]) = false := str_no (by rw [h]; decide)
  have f10 : (s.toList == [111, 117]) = false := str_no (by rw [h]; decide)
  have f11 : (s.toList == [112, 104, 111, 116, 111]) = false := str_no (by rw [h]; decide)
  have f12 : (s.toList == [115, 101, 101, 97, 108, 115, 111]) = false := str_no (by rw [h]; decide)
  have f13 : (s.toList == [115, 101, 114, 105, 97, 108, 110, 117, 109, 98, 101, 114]) = false := str_no (by rw [h]; decide)
  have f14 : (s.toList == [115, 110]) = false := str_no (by rw [h]; decide)
  have f15 : (s.toList == [116, 101, 108, 101, 112, 104, 111, 110, 101, 110, 117, 109, 98, 101, 114]) = false := str_no (by rw [h]; decide)
  have f16 := str_is h
  have f17 : (s.toList == [117, 105, 100]) = false := str_no (by rw [h]; decide)
  have f18 : (s.toList == [117, 105, 100, 110, 117, 109, 98, 101, 114]) = false := str_no (by rw [h]; decide)
  have f19 : (s.toList == [117, 115, 101, 114, 112, 97, 115, 115, 119, 111, 114, 100]) = false := str_no (by rw [h]; decide)
  clear h
  go_enter Tryz.func49, Tryz.ntmps49
  go_wp2_with fail
  go_ret
  exact ⟨rfl, rfl⟩
set_option maxRecDepth 20000 in
set_option maxHeartbeats 4000000 in
theorem syn_17 (s : ByteArray) (w : World) (h : s.data.toList = [117, 105, 100]) : Calls Tryz.prog 49 #[.string s] w fun e w' => e = .returned (.int .i64 1) ∧ w = w' := by
  have f0 : (s.toList == [99, 110]) = false := str_no (by rw [h]; decide)
  have f1 : (s.toList == [100, 99]) = false := str_no (by rw [h]; decide)
  have f2 : (s.toList == [100, 101, 115, 99, 114, 105, 112, 116, 105, 111, 110]) = false := str_no (by rw [h]; decide)
  have f3 : (s.toList == [101, 110, 97, 98, 108, 101, 100]) = false := str_no (by rw [h]; decide)
  have f4 : (s.toList == [108]) = false := str_no (by rw [h]; decide)
  have f5 : (s.toList == [108, 105, 109, 105, 116]) = false := str_no (by rw [h]; decide)
  have f6 : (s.toList == [109, 97, 105, 108]) = false := str_no (by rw [h]; decide)
  have f7 : (s.toList == [109, 101, 109, 98, 101, 114]) = false := str_no (by rw [h]; decide)
  have f8 : (s.toList == [111]) = false := str_no (by rw [h]; decide)
  have f9 : (s.toList == [111, 98, 106, 101, 99, 116, 99, 108, 97, 115, 115]) = false := str_no (by rw [h]; decide)
  have f10 : (s.toList == [111, 117]) = false := str_no (by rw [h]; decide)
  have f11 : (s.toList == [112, 104, 111, 116, 111]) = false := str_no (by rw [h]; decide)
  have f12 : (s.toList == [115, 101, 101, 97, 108, 115, 111]) = false := str_no (by rw [h]; decide)
  have f13 : (s.toList == [115, 101, 114, 105, 97, 108, 110, 117, 109, 98, 101, 114]) = false := str_no (by rw [h]; decide)
  have f14 : (s.toList == [115, 110]) = false := str_no (by rw [h]; decide)
  have f15 : (s.toList == [116, 101, 108, 101, 112, 104, 111, 110, 101, 110, 117, 109, 98, 101, 114]) = false := str_no (by rw [h]; decide)
  have f16 : (s.toList == [116, 105, 116, 108, 101]) = false := str_no (by rw [h]; decide)
  have f17 := str_is h
  have f18 : (s.toList == [117, 105, 100, 110, 117, 109, 98, 101, 114]) = false := str_no (by rw [h]; decide)
  have f19 : (s.toList == [117, 115, 101, 114, 112, 97, 115, 115, 119, 111, 114, 100]) = false := str_no (by rw [h]; decide)
  clear h
  go_enter Tryz.func49, Tryz.ntmps49
  go_wp2_with fail
  go_ret
  exact ⟨rfl, rfl⟩
set_option maxRecDepth 20000 in
set_option maxHeartbeats 4000000 in
theorem syn_18 (s : ByteArray) (w : World) (h : s.data.toList = [117, 105, 100, 110, 117, 109, 98, 101, 114]) : Calls Tryz.prog 49 #[.string s] w fun e w' => e = .returned (.int .i64 4) ∧ w = w' := by
  have f0 : (s.toList == [99, 110]) = false := str_no (by rw [h]; decide)
  have f1 : (s.toList == [100, 99]) = false := str_no (by rw [h]; decide)
  have f2 : (s.toList == [100, 101, 115, 99, 114, 105, 112, 116, 105, 111, 110]) = false := str_no (by rw [h]; decide)
  have f3 : (s.toList == [101, 110, 97, 98, 108, 101, 100]) = false := str_no (by rw [h]; decide)
  have f4 : (s.toList == [108]) = false := str_no (by rw [h]; decide)
  have f5 : (s.toList == [108, 105, 109, 105, 116]) = false := str_no (by rw [h]; decide)
  have f6 : (s.toList == [109, 97, 105, 108]) = false := str_no (by rw [h]; decide)
  have f7 : (s.toList == [109, 101, 109, 98, 101, 114]) = false := str_no (by rw [h]; decide)
  have f8 : (s.toList == [111]) = false := str_no (by rw [h]; decide)
  have f9 : (s.toList == [111, 98, 106, 101, 99, 116, 99, 108, 97, 115, 115]) = false := str_no (by rw [h]; decide)
  have f10 : (s.toList == [111, 117]) = false := str_no (by rw [h]; decide)
  have f11 : (s.toList == [112, 104, 111, 116, 111]) = false := str_no (by rw [h]; decide)
  have f12 : (s.toList == [115, 101, 101, 97, 108, 115, 111]) = false := str_no (by rw [h]; decide)
  have f13 : (s.toList == [115, 101, 114, 105, 97, 108, 110, 117, 109, 98, 101, 114]) = false := str_no (by rw [h]; decide)
  have f14 : (s.toList == [115, 110]) = false := str_no (by rw [h]; decide)
  have f15 : (s.toList == [116, 101, 108, 101, 112, 104, 111, 110, 101, 110, 117, 109, 98, 101, 114]) = false := str_no (by rw [h]; decide)
  have f16 : (s.toList == [116, 105, 116, 108, 101]) = false := str_no (by rw [h]; decide)
  have f17 : (s.toList == [117, 105, 100]) = false := str_no (by rw [h]; decide)
  have f18 := str_is h
  have f19 : (s.toList == [117, 115, 101, 114, 112, 97, 115, 115, 119, 111, 114, 100]) = false := str_no (by rw [h]; decide)
  clear h
  go_enter Tryz.func49, Tryz.ntmps49
  go_wp2_with fail
  go_ret
  exact ⟨rfl, rfl⟩
set_option maxRecDepth 20000 in
set_option maxHeartbeats 4000000 in
theorem syn_19 (s : ByteArray) (w : World) (h : s.data.toList = [117, 115, 101, 114, 112, 97, 115, 115, 119, 111, 114, 100]) : Calls Tryz.prog 49 #[.string s] w fun e w' => e = .returned (.int .i64 3) ∧ w = w' := by
  have f0 : (s.toList == [99, 110]) = false := str_no (by rw [h]; decide)
  have f1 : (s.toList == [100, 99]) = false := str_no (by rw [h]; decide)
  have f2 : (s.toList == [100, 101, 115, 99, 114, 105, 112, 116, 105, 111, 110]) = false := str_no (by rw [h]; decide)
  have f3 : (s.toList == [101, 110, 97, 98, 108, 101, 100]) = false := str_no (by rw [h]; decide)
  have f4 : (s.toList == [108]) = false := str_no (by rw [h]; decide)
  have f5 : (s.toList == [108, 105, 109, 105, 116]) = false := str_no (by rw [h]; decide)
  have f6 : (s.toList == [109, 97, 105, 108]) = false := str_no (by rw [h]; decide)
  have f7 : (s.toList == [109, 101, 109, 98, 101, 114]) = false := str_no (by rw [h]; decide)
  have f8 : (s.toList == [111]) = false := str_no (by rw [h]; decide)
  have f9 : (s.toList == [111, 98, 106, 101, 99, 116, 99, 108, 97, 115, 115]) = false := str_no (by rw [h]; decide)
  have f10 : (s.toList == [111, 117]) = false := str_no (by rw [h]; decide)
  have f11 : (s.toList == [112, 104, 111, 116, 111]) = false := str_no (by rw [h]; decide)
  have f12 : (s.toList == [115, 101, 101, 97, 108, 115, 111]) = false := str_no (by rw [h]; decide)
  have f13 : (s.toList == [115, 101, 114, 105, 97, 108, 110, 117, 109, 98, 101, 114]) = false := str_no (by rw [h]; decide)
  have f14 : (s.toList == [115, 110]) = false := str_no (by rw [h]; decide)
  have f15 : (s.toList == [116, 101, 108, 101, 112, 104, 111, 110, 101, 110, 117, 109, 98, 101, 114]) = false := str_no (by rw [h]; decide)
  have f16 : (s.toList == [116, 105, 116, 108, 101]) = false := str_no (by rw [h]; decide)
  have f17 : (s.toList == [117, 105, 100]) = false := str_no (by rw [h]; decide)
  have f18 : (s.toList == [117, 105, 100, 110, 117, 109, 98, 101, 114]) = false := str_no (by rw [h]; decide)
  have f19 := str_is h
  clear h
  go_enter Tryz.func49, Tryz.ntmps49
  go_wp2_with fail
  go_ret
  exact ⟨rfl, rfl⟩
set_option maxRecDepth 20000 in
set_option maxHeartbeats 4000000 in
theorem syn_none (s : ByteArray) (w : World) (h : ∀ t ∈ tys, t.name ≠ s.data.toList) : Calls Tryz.prog 49 #[.string s] w fun e w' => e = .returned (.int .i64 0) ∧ w = w' := by
  have f0 : (s.toList == [99, 110]) = false := str_no (fun e => h (tys[0]'(by decide)) (List.getElem_mem _) e.symm)
  have f1 : (s.toList == [100, 99]) = false := str_no (fun e => h (tys[1]'(by decide)) (List.getElem_mem _) e.symm)
  have f2 : (s.toList == [100, 101, 115, 99, 114, 105, 112, 116, 105, 111, 110]) = false := str_no (fun e => h (tys[2]'(by decide)) (List.getElem_mem _) e.symm)
  have f3 : (s.toList == [101, 110, 97, 98, 108, 101, 100]) = false := str_no (fun e => h (tys[3]'(by decide)) (List.getElem_mem _) e.symm)
  have f4 : (s.toList == [108]) = false := str_no (fun e => h (tys[4]'(by decide)) (List.getElem_mem _) e.symm)
  have f5 : (s.toList == [108, 105, 109, 105, 116]) = false := str_no (fun e => h (tys[5]'(by decide)) (List.getElem_mem _) e.symm)
  have f6 : (s.toList == [109, 97, 105, 108]) = false := str_no (fun e => h (tys[6]'(by decide)) (List.getElem_mem _) e.symm)
  have f7 : (s.toList == [109, 101, 109, 98, 101, 114]) = false := str_no (fun e => h (tys[7]'(by decide)) (List.getElem_mem _) e.symm)
  have f8 : (s.toList == [111]) = false := str_no (fun e => h (tys[8]'(by decide)) (List.getElem_mem _) e.symm)
  have f9 : (s.toList == [111, 98, 106, 101, 99, 116, 99, 108, 97, 115, 115]) = false := str_no (fun e => h (tys[9]'(by decide)) (List.getElem_mem _) e.symm)
  have f10 : (s.toList == [111, 117]) = false := str_no (fun e => h (tys[10]'(by decide)) (List.getElem_mem _) e.symm)
  have f11 : (s.toList == [112, 104, 111, 116, 111]) = false := str_no (fun e => h (tys[11]'(by decide)) (List.getElem_mem _) e.symm)
  have f12 : (s.toList == [115, 101, 101, 97, 108, 115, 111]) = false := str_no (fun e => h (tys[12]'(by decide)) (List.getElem_mem _) e.symm)
  have f13 : (s.toList == [115, 101, 114, 105, 97, 108, 110, 117, 109, 98, 101, 114]) = false := str_no (fun e => h (tys[13]'(by decide)) (List.getElem_mem _) e.symm)
  have f14 : (s.toList == [115, 110]) = false := str_no (fun e => h (tys[14]'(by decide)) (List.getElem_mem _) e.symm)
  have f15 : (s.toList == [116, 101, 108, 101, 112, 104, 111, 110, 101, 110, 117, 109, 98, 101, 114]) = false := str_no (fun e => h (tys[15]'(by decide)) (List.getElem_mem _) e.symm)
  have f16 : (s.toList == [116, 105, 116, 108, 101]) = false := str_no (fun e => h (tys[16]'(by decide)) (List.getElem_mem _) e.symm)
  have f17 : (s.toList == [117, 105, 100]) = false := str_no (fun e => h (tys[17]'(by decide)) (List.getElem_mem _) e.symm)
  have f18 : (s.toList == [117, 105, 100, 110, 117, 109, 98, 101, 114]) = false := str_no (fun e => h (tys[18]'(by decide)) (List.getElem_mem _) e.symm)
  have f19 : (s.toList == [117, 115, 101, 114, 112, 97, 115, 115, 119, 111, 114, 100]) = false := str_no (fun e => h (tys[19]'(by decide)) (List.getElem_mem _) e.symm)
  clear h
  go_enter Tryz.func49, Tryz.ntmps49
  go_wp2_with fail
  go_ret
  exact ⟨rfl, rfl⟩
theorem syntax_any (s : ByteArray) (w : World) : Calls Tryz.prog 49 #[.string s] w fun e w' => e = .returned (.int .i64 (synL s.data.toList)) ∧ w = w' := by
  unfold synL
  cases hf : findS s.data.toList with
  | none => exact syn_none s w (findS_none hf)
  | some t =>
    obtain ⟨ht, hn⟩ := findS_some hf
    obtain ⟨i, hi, rfl⟩ := List.mem_iff_getElem.1 ht
    clear hf ht
    match i, hi, hn with
    | 0, _, hn => exact syn_0 s w hn.symm
    | 1, _, hn => exact syn_1 s w hn.symm
    | 2, _, hn => exact syn_2 s w hn.symm
    | 3, _, hn => exact syn_3 s w hn.symm
    | 4, _, hn => exact syn_4 s w hn.symm
    | 5, _, hn => exact syn_5 s w hn.symm
    | 6, _, hn => exact syn_6 s w hn.symm
    | 7, _, hn => exact syn_7 s w hn.symm
    | 8, _, hn => exact syn_8 s w hn.symm
    | 9, _, hn => exact syn_9 s w hn.symm
    | 10, _, hn => exact syn_10 s w hn.symm
    | 11, _, hn => exact syn_11 s w hn.symm
    | 12, _, hn => exact syn_12 s w hn.symm
    | 13, _, hn => exact syn_13 s w hn.symm
    | 14, _, hn => exact syn_14 s w hn.symm
    | 15, _, hn => exact syn_15 s w hn.symm
    | 16, _, hn => exact syn_16 s w hn.symm
    | 17, _, hn => exact syn_17 s w hn.symm
    | 18, _, hn => exact syn_18 s w hn.symm
    | 19, _, hn => exact syn_19 s w hn.symm
    | n + 20, h, _ => exact absurd h (by rw [tys_len]; omega)
theorem single_eq (n : List UInt8) (t : Ty) (h : findS n = some t) : t.single = (decide (n = [117, 105, 100, 110, 117, 109, 98, 101, 114]) || decide (n = [101, 110, 97, 98, 108, 101, 100])) := by
  obtain ⟨ht, rfl⟩ := findS_some h
  have all : ∀ t ∈ tys, t.single = (decide (t.name = [117, 105, 100, 110, 117, 109, 98, 101, 114]) || decide (t.name = [101, 110, 97, 98, 108, 101, 100])) := by decide
  exact all t ht
theorem syn_pos (t : Ty) (h : t ∈ tys) : 1 ≤ t.syn ∧ t.syn ≤ 7 := by
  have all : ∀ t ∈ tys, 1 ≤ t.syn ∧ t.syn ≤ 7 := by decide
  exact all t h
set_option maxRecDepth 20000 in
set_option maxHeartbeats 4000000 in
theorem rfind_any (s : ByteArray) (w : World) (hs : s.size ≤ 10000000) :
    Calls Tryz.prog 22 #[.string s] w fun e w' => e = .returned (resT (findS (sml.lowL s.data.toList))) ∧ Below w.heap.size w w' := by
  obtain ⟨n, hn⟩ : ∃ n, n = sml.lowL s.data.toList := ⟨_, rfl⟩
  have HL : Hid (∀ w, Calls Tryz.prog 48 #[.string s] w fun e w' => e = .returned (.string (bs n)) ∧ Below w.heap.size w w') := fun w => by rw [hn]; exact sml.small_any s w hs
  rw [← hn]
  clear hn
  have HPC0 := Lib.hid (ac_new w ByteArray.empty 0 false)
  have HSY : Hid (∀ w, Calls Tryz.prog 49 #[.string (bs n)] w fun e w' => e = .returned (.int .i64 (synL n)) ∧ w = w') := fun w => syntax_any (bs n) w
  cases hf : findS n with
  | none =>
    have hsy : synL n = 0 := by unfold synL; rw [hf]
    rw [hsy] at HSY
    clear hsy hf
    go_enter Tryz.func22, Tryz.ntmps22
    go_wp2_with fail
    refine (HL.out _).mono ?_
    rintro e w1 ⟨rfl, hB1⟩
    have HPC1 := Lib.hid (ac_below HPC0.out hB1)
    have HB1 : Hid (Below w.heap.size w w1) := ((Below.refl _ w).alloc (Nat.le_refl _) _).trans (hB1.mono (by simp))
    clear hB1
    obtain ⟨⟨x0, c0⟩, ⟨y0, c1⟩, ⟨z0, c2⟩, f0, f1, f2⟩ := ac_cells HPC1.out
    obtain ⟨e0, e1, e2⟩ := ac_store HPC1.out (.string ⟨#[]⟩) (.int .i64 0) (.bool false)
    go_wp2_with fail
    refine (HSY.out _).mono ?_
    rintro e w2 ⟨rfl, rfl⟩
    go_wp2_with fail
    (try simp only [Exit.inBlock, Exit.then])
    refine bodyPost_ret (v := .tuple #[.agg #[.string ⟨#[]⟩, .int .i64 0, .bool false], .bool false]) (by rw [results_cell_tmp rfl]; go_simp) rfl ?_
    exact ⟨rfl, below_put3 HB1.out (Nat.le_refl _) _ _ _⟩
  | some t =>
    have hsy : synL n = t.syn := by unfold synL; rw [hf]
    rw [hsy] at HSY
    have hsg := single_eq n t hf
    obtain ⟨ht, hname⟩ := findS_some hf
    have hp := syn_pos t ht
    have q0 : (t.syn == 0) = false := by rw [beq_eq_false_iff_ne]; omega
    have g1 : ((bs n).toList == [117, 105, 100, 110, 117, 109, 98, 101, 114]) = decide (n = [117, 105, 100, 110, 117, 109, 98, 101, 114]) := bs_lit n _
    have g2 : ((bs n).toList == [101, 110, 97, 98, 108, 101, 100]) = decide (n = [101, 110, 97, 98, 108, 101, 100]) := bs_lit n _
    rw [← g1, ← g2] at hsg
    have hpart : ((bs n).toList == [117, 105, 100, 110, 117, 109, 98, 101, 114]) = true ∨ ((bs n).toList == [117, 105, 100, 110, 117, 109, 98, 101, 114]) = false := by cases ((bs n).toList == [117, 105, 100, 110, 117, 109, 98, 101, 114]) <;> simp
    subst hname
    obtain ⟨sg, hsg2⟩ : ∃ sg, t.single = sg := ⟨_, rfl⟩
    obtain ⟨sy, hsy2⟩ : ∃ sg, t.syn = sg := ⟨_, rfl⟩
    have HRES : Hid (resT (some t) = .tuple #[.agg #[.string (bs t.name), .int .i64 sy, .bool sg], .bool true]) := by rw [← hsg2, ← hsy2]; exact rfl
    rw [hsg2] at hsg
    rw [hsy2] at HSY q0
    clear hsy hf g1 g2 ht hp hsg2 hsy2
    rcases hpart with p1 | p1
    · rw [p1] at hsg
      simp only [Bool.true_or] at hsg
      subst hsg
      go_enter Tryz.func22, Tryz.ntmps22
      go_wp2_with fail
      refine (HL.out _).mono ?_
      rintro e w1 ⟨rfl, hB1⟩
      have HPC1 := Lib.hid (ac_below HPC0.out hB1)
      have HB1 : Hid (Below w.heap.size w w1) := ((Below.refl _ w).alloc (Nat.le_refl _) _).trans (hB1.mono (by simp))
      clear hB1
      obtain ⟨⟨x0, c0⟩, ⟨y0, c1⟩, ⟨z0, c2⟩, f0, f1, f2⟩ := ac_cells HPC1.out
      go_wp2_with fail
      refine (HSY.out _).mono ?_
      rintro e w2 ⟨rfl, rfl⟩
      obtain ⟨e0, e1, e2⟩ := ac_store HPC1.out (.string (bs t.name)) (.int .i64 sy) (.bool true)
      go_wp2_with fail
      (try simp only [Exit.inBlock, Exit.then])
      refine bodyPost_ret (v := .tuple #[.agg #[.string (bs t.name), .int .i64 sy, .bool true], .bool true]) (by rw [results_cell_tmp rfl]; go_simp) rfl ?_
      exact ⟨by rw [HRES.out], below_put3 HB1.out (Nat.le_refl _) _ _ _⟩
    · rw [p1] at hsg
      simp only [Bool.false_or] at hsg
      have p2 := hsg.symm
      clear hsg
      go_enter Tryz.func22, Tryz.ntmps22
      go_wp2_with fail
      refine (HL.out _).mono ?_
      rintro e w1 ⟨rfl, hB1⟩
      have HPC1 := Lib.hid (ac_below HPC0.out hB1)
      have HB1 : Hid (Below w.heap.size w w1) := ((Below.refl _ w).alloc (Nat.le_refl _) _).trans (hB1.mono (by simp))
      clear hB1
      obtain ⟨⟨x0, c0⟩, ⟨y0, c1⟩, ⟨z0, c2⟩, f0, f1, f2⟩ := ac_cells HPC1.out
      go_wp2_with fail
      refine (HSY.out _).mono ?_
      rintro e w2 ⟨rfl, rfl⟩
      obtain ⟨e0, e1, e2⟩ := ac_store HPC1.out (.string (bs t.name)) (.int .i64 sy) (.bool sg)
      go_wp2_with fail
      (try simp only [Exit.inBlock, Exit.then])
      refine bodyPost_ret (v := .tuple #[.agg #[.string (bs t.name), .int .i64 sy, .bool sg], .bool true]) (by rw [results_cell_tmp rfl]; go_simp) rfl ?_
      exact ⟨by rw [HRES.out], below_put3 HB1.out (Nat.le_refl _) _ _ _⟩
end atw
end Go.Proofs.YtckpiaigoeicfaaGreatDoor
