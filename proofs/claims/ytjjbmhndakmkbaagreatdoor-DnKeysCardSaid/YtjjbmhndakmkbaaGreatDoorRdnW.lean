/- The walks of rightRdn and Right. -/
import Derived.Test.YtjjbmhndakmkbaaGreatDoorAvaP
namespace Go.Proofs.YtjjbmhndakmkbaaGreatDoor
open Go.RowKit
namespace dnw
open dnp
set_option linter.unusedVariables false
set_option linter.unusedSimpArgs false
theorem str_beq (a b : ByteArray) : (a.toList == b.toList) = decide (a.data.toList = b.data.toList) := by
  rw [Lib.toList_data, Lib.toList_data]
  by_cases h : a.data.toList = b.data.toList
  · rw [h]; simp
  · rw [decide_eq_false h, beq_eq_false_iff_ne]; exact h
/-- the closure: is a pair's type the one at hand? -/
theorem clo_any (x : Av) (p : Nat) (t : ByteArray) (W : World) (hc : W.cell? ⟨p, 0, none⟩ = some (.string t)) : Calls Tryz.prog 37 #[.agg #[.string x.t, .string x.v], .pointer (some ⟨p, 0, none⟩)] W fun e w' => e = .returned (.bool (decide (x.t.data.toList = t.data.toList))) ∧ Below W.heap.size W w' := by
  have hlt : p < W.heap.size := World.block_lt_of_cell? W _ hc
  have hc1 : (W.alloc (.cells #[.string x.t, .string x.v] 40)).cell? ⟨p, 0, none⟩ = some (.string t) := (((Below.refl _ W).alloc (Nat.le_refl _) _).cell (p := ⟨p, 0, none⟩) hlt).trans hc
  have hb := str_beq x.t t
  go_enter Tryz.func37, Tryz.ntmps37
  go_wp2_with fail
  go_ret
  exact ⟨kt.ret_bool (by simp only [Array.toList_inj]), (Below.refl _ _).alloc (Nat.le_refl _) _⟩
/-- does one of the first k pairs have the type? -/
def Has (l : List Av) (k : Nat) (t : ByteArray) : Prop := ∃ i, ∃ hi : i < l.length, i < k ∧ l[i].t.data.toList = t.data.toList
def IxE (l : List Av) (k : Nat) (t : ByteArray) (w : World) (e : Ending) (w' : World) : Prop := ∃ r : Int, e = .returned (.int .i64 r) ∧ (0 ≤ r ↔ Has l k t) ∧ Below w.heap.size w w'
set_option maxRecDepth 20000 in
set_option maxHeartbeats 1000000 in
theorem index_any (ao : Option Addr) (k cap p : Nat) (l : List Av) (t : ByteArray) (w : World) (hA : Hid (Avas w ao l)) (hk : k ≤ l.length) (hkb : k ≤ 1000) (hp : w.cell? ⟨p, 0, none⟩ = some (.string t)) :
    Calls Tryz.prog 57 #[.slice ao k cap, .func (.func 37) #[] #[.pointer (some ⟨p, 0, none⟩)]] w fun e w' => IxE l k t w e w' := by
  have HP := Lib.hid hp
  have hlt : p < w.heap.size := World.block_lt_of_cell? w _ hp
  clear hp
  go_enter Tryz.func57, Tryz.ntmps57
  go_wp2_with fail
  go_loopw [5, 8] (fun _ iv wr => ∃ i : Nat, i ≤ k ∧ iv = .int .i64 (i : Int) ∧ Hid (¬ Has l i t) ∧ Below w.heap.size w wr) (fun _ iv _ => k - (intOf iv).toNat)
  case atStart => exact ⟨0, Nat.zero_le _, rfl, fun ⟨_, _, h, _⟩ => by omega, Below.refl _ _⟩
  case round =>
    obtain ⟨i, hi, rfl, hN, hB⟩ := hrel
    have hsz := hB.size
    by_cases hlt2 : i < k
    · have hlt' : (i : Int) < (k : Int) := by omega
      have hil : i < l.length := by omega
      obtain ⟨b, o, hao, hc0, hc1⟩ := (avas_below hA.out hB) i hil
      subst hao
      have hpc := (hB.cell (p := ⟨p, 0, none⟩) hlt).trans HP.out
      have CC := clo_any l[i] p t wr hpc
      by_cases he : l[i].t.data.toList = t.data.toList
      · have HH : Hid (0 ≤ (i : Int) ↔ Has l k t) := ⟨fun _ => ⟨i, hil, hlt2, he⟩, fun _ => by omega⟩
        rw [decide_eq_true he] at CC
        have HC := Lib.hid CC
        generalize l[i] = x at hc0 hc1 HC
        clear CC he hpc
        go_wp2_with fail
        refine HC.out.mono ?_
        rintro e w2 ⟨rfl, hB2⟩
        go_wp2_with fail
        go_ret
        exact ⟨(i : Int), rfl, HH.out, hB.trans (hB2.mono hsz)⟩
      · have HN2 : Hid (¬ Has l (i + 1) t) := by
          rintro ⟨j, hj, h1, h2⟩
          by_cases e : j = i
          · subst e; exact he h2
          · exact hN.out ⟨j, hj, by omega, h2⟩
        rw [decide_eq_false he] at CC
        have HC := Lib.hid CC
        generalize l[i] = x at hc0 hc1 HC
        clear CC he hpc
        go_wp2_with fail
        refine HC.out.mono ?_
        rintro e w2 ⟨rfl, hB2⟩
        go_wp2_with fail
        go_roundw
        case rel => exact ⟨i + 1, by omega, by go_num, HN2, hB.trans (hB2.mono hsz)⟩
        case measure => simp [intOf]; omega
    · obtain rfl : i = k := by omega
      go_wp2_with fail
      go_ret
      exact ⟨-1, rfl, ⟨fun h => by omega, fun h => absurd h hN.out⟩, hB⟩
def hasB (l : List Av) (k : Nat) (t : ByteArray) : Bool := (l.take k).any fun x => decide (x.t.data.toList = t.data.toList)
theorem hasB_iff (l : List Av) (k : Nat) (t : ByteArray) : hasB l k t = true ↔ Has l k t := by
  unfold hasB Has
  rw [List.any_eq_true]
  constructor
  · rintro ⟨x, hx, h⟩
    obtain ⟨i, hi, rfl⟩ := List.mem_iff_getElem.1 hx
    rw [List.length_take] at hi
    rw [List.getElem_take] at h
    exact ⟨i, by omega, by omega, by simpa using h⟩
  · rintro ⟨i, hi, h1, h2⟩
    refine ⟨l[i], ?_, by simpa using h2⟩
    rw [List.mem_iff_getElem]
    exact ⟨i, by rw [List.length_take]; omega, by rw [List.getElem_take]⟩
set_option maxRecDepth 20000 in
theorem contains_any (ao : Option Addr) (k cap p : Nat) (l : List Av) (t : ByteArray) (w : World) (hA : Hid (Avas w ao l)) (hk : k ≤ l.length) (hkb : k ≤ 1000) (hp : w.cell? ⟨p, 0, none⟩ = some (.string t)) :
    Calls Tryz.prog 36 #[.slice ao k cap, .func (.func 37) #[] #[.pointer (some ⟨p, 0, none⟩)]] w fun e w' => e = .returned (.bool (hasB l k t)) ∧ Below w.heap.size w w' := by
  have CI := Lib.hid (index_any ao k cap p l t w hA hk hkb hp)
  have hI := hasB_iff l k t
  clear hp
  by_cases hH : hasB l k t = true
  · have HH := Lib.hid (hI.1 hH)
    rw [hH]
    clear hI hH
    go_enter Tryz.func36, Tryz.ntmps36
    go_wp2_with fail
    refine CI.out.mono ?_
    rintro e w1 ⟨r, rfl, h1, hB1⟩
    have h2 : 0 ≤ r := h1.2 HH.out
    clear h1
    go_wp2_with fail
    go_ret
    exact ⟨kt.ret_bool (by first | rfl | exact decide_eq_true h2), hB1⟩
  · have HH := Lib.hid (fun h => hH (hI.2 h))
    have hH' : hasB l k t = false := by simpa using hH
    rw [hH']
    clear hI hH hH'
    go_enter Tryz.func36, Tryz.ntmps36
    go_wp2_with fail
    refine CI.out.mono ?_
    rintro e w1 ⟨r, rfl, h1, hB1⟩
    have h2 : ¬ 0 ≤ r := fun h => HH.out (h1.1 h)
    clear h1
    go_wp2_with fail
    go_ret
    exact ⟨kt.ret_bool (by simpa using h2), hB1⟩
/-- may a pair stand at place i? -/
def pairB (l : List Av) (i : Nat) (x : Av) : Bool := !hasB l i x.t && typeOK x.t.data.toList && valOK x.v.data.toList
def rdnOK (l : List Av) : Bool := decide (1 ≤ l.length) && decide (l.length ≤ 4) && (List.range l.length).all fun i => match l[i]? with
  | none => false
  | some x => pairB l i x
theorem rdnOK_len {l : List Av} (h : l.length < 1 ∨ 4 < l.length) : false = rdnOK l := by
  unfold rdnOK
  rcases h with h | h
  · rw [decide_eq_false (by omega : ¬ 1 ≤ l.length)]; rfl
  · rw [decide_eq_false (by omega : ¬ l.length ≤ 4)]; simp
theorem rdnOK_no {l : List Av} {i : Nat} (hi : i < l.length) (h : pairB l i l[i] = false) : false = rdnOK l := by
  symm
  unfold rdnOK
  rw [Bool.and_eq_false_iff]
  right
  rw [Bool.eq_false_iff]
  intro e
  have := List.all_eq_true.1 e i (List.mem_range.2 hi)
  rw [List.getElem?_eq_getElem hi] at this
  simp only [] at this
  rw [h] at this
  cases this
theorem rdnOK_yes {l : List Av} (h1 : 1 ≤ l.length) (h4 : l.length ≤ 4) (h : ∀ i (hi : i < l.length), pairB l i l[i] = true) : true = rdnOK l := by
  symm
  unfold rdnOK
  rw [decide_eq_true h1, decide_eq_true h4]
  simp only [Bool.true_and]
  rw [List.all_eq_true]
  intro i hi
  have hi' := List.mem_range.1 hi
  rw [List.getElem?_eq_getElem hi']
  exact h i hi'
/-- sizes that can be gone through -/
def Smalls (l : List Av) : Prop := ∀ x ∈ l, x.t.size ≤ 100000 ∧ x.v.size ≤ 1000000
set_option maxRecDepth 20000 in
set_option maxHeartbeats 4000000 in
theorem rightRdn_any (ao : Option Addr) (cap : Nat) (l : List Av) (w : World) (hA : Hid (Avas w ao l)) (hE : Hid (prw.Env w)) (hS : Hid (l.length ≤ 4 → Smalls l)) (hlc : l.length ≤ cap) :
    Calls Tryz.prog 22 #[.slice ao l.length cap] w fun e w' => e = .returned (.bool (rdnOK l)) ∧ Below w.heap.size w w' := by
  by_cases h1 : l.length < 1
  · have h1' : (l.length : Int) < 1 := by omega
    have HN := Lib.hid (rdnOK_len (l := l) (Or.inl h1))
    go_enter Tryz.func22, Tryz.ntmps22
    go_wp2_with fail
    go_ret
    exact ⟨kt.ret_bool HN.out, Below.refl _ _⟩
  · have h1' : ¬ (l.length : Int) < 1 := by omega
    by_cases h4 : 4 < l.length
    · have h4' : 4 < (l.length : Int) := by omega
      have HN := Lib.hid (rdnOK_len (l := l) (Or.inr h4))
      go_enter Tryz.func22, Tryz.ntmps22
      go_wp2_with fail
      go_ret
      exact ⟨kt.ret_bool HN.out, Below.refl _ _⟩
    · have h4' : ¬ 4 < (l.length : Int) := by omega
      have HSm := Lib.hid (hS.out (by omega))
      have h1n : 1 ≤ l.length := by omega
      have h4n : l.length ≤ 4 := by omega
      go_enter Tryz.func22, Tryz.ntmps22
      go_wp2_with fail
      go_loopw [3, 4, 5, 16] (fun _ _ _ iv wr => ∃ i : Nat, i ≤ l.length ∧ iv = .int .i64 (i : Int) ∧ Hid (∀ j (hj : j < l.length), j < i → pairB l j l[j] = true) ∧ Below w.heap.size w wr) (fun _ _ _ iv _ => l.length - (intOf iv).toNat)
      case atStart => exact ⟨0, Nat.zero_le _, rfl, fun j _ h => by omega, Below.refl _ _⟩
      case round =>
        obtain ⟨i, hi, rfl, hP, hB⟩ := hrel
        have hsz := hB.size
        by_cases hlt : i < l.length
        · have hlt' : (i : Int) < (l.length : Int) := by omega
          obtain ⟨b, o, hao, hc0, hc1⟩ := (avas_below hA.out hB) i hlt
          obtain ⟨hts, hvs⟩ := HSm.out l[i] (by simp)
          have hpn := fun h => rdnOK_no (l := l) hlt h
          have hpy : pairB l i l[i] = true → ∀ j (hj : j < l.length), j < i + 1 → pairB l j l[j] = true := by
            intro h j hj hji
            by_cases e : j = i
            · subst e; exact h
            · exact hP.out j hj (by omega)
          have hBA : ∀ x : Av, Below w.heap.size w (wr.alloc (.cells #[.string x.t, .string x.v] 40)) := fun x => hB.alloc hsz _
          have CC : ∀ x : Av, Calls Tryz.prog 36 #[.slice ao i cap, .func (.func 37) #[] #[.pointer (some ⟨wr.heap.size, 0, none⟩)]] (wr.alloc (.cells #[.string x.t, .string x.v] 40)) fun e w' => e = .returned (.bool (hasB l i x.t)) ∧ Below (wr.alloc (.cells #[.string x.t, .string x.v] 40)).heap.size (wr.alloc (.cells #[.string x.t, .string x.v] 40)) w' :=
            fun x => contains_any ao i cap wr.heap.size l x.t _ (Lib.hid (avas_below hA.out (hBA x))) hi (by omega) (by rw [World.cell?_alloc_new]; rfl)
          subst hao
          have hx : pairB l i l[i] = (!hasB l i l[i].t && typeOK l[i].t.data.toList && valOK l[i].v.data.toList) := rfl
          have CC1 := CC l[i]
          have hBA1 := Lib.hid (hBA l[i])
          generalize l[i] = x at hc0 hc1 hts hvs hpn hpy CC1 hx hBA1
          have HTy : Hid (∀ W, Calls Tryz.prog 38 #[.string x.t] W fun e w' => e = .returned (.bool (typeOK x.t.data.toList)) ∧ W = w') := fun W => rightType_any x.t W hts
          have HVa : Hid (∀ W, Hid (prw.Env W) → Calls Tryz.prog 39 #[.string x.v] W fun e w' => e = .returned (.bool (valOK x.v.data.toList)) ∧ Below W.heap.size W w') := fun W h => rightValue_any x.v W hvs h
          generalize hasB l i x.t = b1 at CC1 hx
          generalize typeOK x.t.data.toList = b2 at HTy hx
          generalize valOK x.v.data.toList = b3 at HVa hx
          have HC := Lib.hid CC1
          clear CC CC1 hBA
          go_wp2_with fail
          refine HC.out.mono ?_
          rintro e w2 ⟨rfl, hC2⟩
          have hnb : wr.heap.size < (wr.alloc (.cells #[.string x.t, .string x.v] 40)).heap.size := by simp
          have y0 : w2.cell? ⟨wr.heap.size, 0, none⟩ = some (.string x.t) := (hC2.cell (p := ⟨wr.heap.size, 0, none⟩) hnb).trans (by rw [World.cell?_alloc_new]; rfl)
          have y1 : w2.cell? ⟨wr.heap.size, 1, none⟩ = some (.string x.v) := (hC2.cell (p := ⟨wr.heap.size, 1, none⟩) hnb).trans (by rw [World.cell?_alloc_new]; rfl)
          have hB2 := hBA1.out.trans (hC2.mono hBA1.out.size)
          have HE2 := Lib.hid (prw.env_below hE.out hB2)
          have hsz2 := hB2.size
          clear hc0 hc1 hC2 hnb HC
          cases b1 with
          | true =>
            have HN := Lib.hid (hpn (by rw [hx]; rfl))
            clear hpn hpy hx
            go_wp2_with fail
            go_ret
            exact ⟨kt.ret_bool HN.out, hB2⟩
          | false =>
            cases b2 with
            | false =>
              have HN := Lib.hid (hpn (by rw [hx]; rfl))
              clear hpn hpy hx
              go_wp2_with fail
              refine (HTy.out _).mono ?_
              rintro e w3 ⟨rfl, rfl⟩
              go_wp2_with fail
              go_ret
              exact ⟨kt.ret_bool HN.out, hB2⟩
            | true =>
              have HV2 := Lib.hid (HVa.out w2 HE2)
              cases b3 with
              | false =>
                have HN := Lib.hid (hpn (by rw [hx]; rfl))
                clear hpn hpy hx
                go_wp2_with fail
                refine (HTy.out _).mono ?_
                rintro e w3 ⟨rfl, rfl⟩
                go_wp2_with fail
                refine HV2.out.mono ?_
                rintro e w4 ⟨rfl, hB4⟩
                go_wp2_with fail
                go_ret
                exact ⟨kt.ret_bool HN.out, hB2.trans (hB4.mono hsz2)⟩
              | true =>
                have HY := Lib.hid (hpy (by rw [hx]; rfl))
                clear hpn hpy hx
                go_wp2_with fail
                refine (HTy.out _).mono ?_
                rintro e w3 ⟨rfl, rfl⟩
                go_wp2_with fail
                refine HV2.out.mono ?_
                rintro e w4 ⟨rfl, hB4⟩
                go_wp2_with fail
                go_roundw
                case rel => exact ⟨i + 1, by omega, by go_num, HY, hB2.trans (hB4.mono hsz2)⟩
                case measure => simp [intOf]; omega
        · obtain rfl : i = l.length := by omega
          have HN := Lib.hid (rdnOK_yes (l := l) (by omega) (by omega) (fun j hj => hP.out j hj hj))
          go_wp2_with fail
          go_ret
          exact ⟨kt.ret_bool HN.out, hB⟩
end dnw
end Go.Proofs.YtjjbmhndakmkbaaGreatDoor
