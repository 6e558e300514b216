/- The walk of the statement NodeParts. -/
import Derived.Test.YtkeheaempbmmaaaSeek
import Derived.Test.YtkeheaempbmmaaaArgs
namespace Go.Proofs.Ytkeheaempbmmaaa
open Go.RowKit
namespace nod
set_option linter.unusedVariables false
open fldw ord
theorem below_drewN' {B : Nat} {a b : World} (h : Below B a b) (n : Nat) : Below B a (b.drewN n) := below_drewN h n
/-- what the law asks of a place: how its key stands to the key that is sought -/
def PlaceOk (i k : Nat) (n : Int) (ex : Bool) : Prop := (i < k → n = -1) ∧ (k < i → n = 1) ∧ (i = k → (n = 0 ↔ ex = true)) ∧ (n = -1 ∨ n = 0 ∨ n = 1)
theorem place_ok {l : List Cel} {key : ByteArray} {k : Nat} {ex : Bool} (hf : Fit true l) (h1 : ∀ j (h : j < l.length), j < k → geB key l[j] = false) (h2 : ∀ j (h : j < l.length), k ≤ j → geB key l[j] = true) (h3 : ex = true ↔ ∃ h : k < l.length, l[k].key = key)
    (i : Nat) (hi : i < l.length) : PlaceOk i k (Lib.compareBytes l[i].key.data.toList key.data.toList) ex := by
  refine ⟨fun h => ?_, fun h => ?_, ?_, cmp_three _ _⟩
  · have := h1 i hi h
    unfold geB at this
    rw [Lib.toList_data, Lib.toList_data, less_cmp] at this
    simpa using this
  · have e1 := h2 (i - 1) (by omega) (by omega)
    have e2 := (hf.2 i hi).2 (i - 1) (by omega) (by omega)
    unfold geB at e1
    rw [Lib.toList_data, Lib.toList_data, less_cmp] at e1
    simp only [Bool.not_eq_true', decide_eq_false_iff_not] at e1
    rcases cmp_three l[i].key.data.toList key.data.toList with e | e | e
    · exact absurd (cmp_trans e2 e) e1
    · have := (cmp_zero _ _).1 e
      rw [this] at e2
      exact absurd e2 e1
    · exact e
  · rintro rfl
    rw [h3, cmp_zero]
    constructor
    · intro h; exact ⟨hi, kt.str_eq h⟩
    · rintro ⟨_, h⟩; rw [h]
set_option maxRecDepth 20000 in
set_option maxHeartbeats 4000000 in
theorem parts_any (ao : Option Addr) (cap : Nat) (l : List Cel) (key : ByteArray) (w : World) (hl : Hid (Cels w ao l)) (hn : l.length ≤ 9223372036854775807) (hk : key.size ≤ 140737488351232) :
    Calls Try.prog 5 #[.slice ao l.length cap, .string key] w fun e w' => e = .returned (.bool true) ∧ Below w.heap.size w w' := by
  have A := Lib.hid (fun w => awake_true w)
  have L := Lib.hid (fun w' (h : Below w.heap.size w w') => longl_any ao cap l w' (cels_below hl.out h) hn)
  have HN := Lib.hid hn
  clear hn
  by_cases h2 : 2000 < key.size
  · have h2' : 2000 < (key.size : Int) := by omega
    clear h2
    go_enter Try.func5, Try.ntmps5
    go_wp2_with fail
    refine (A.out _).mono ?_
    rintro e w1 ⟨rfl, hB1⟩
    go_wp2_with fail
    refine (L.out _ hB1).mono ?_
    rintro e w2 ⟨⟨b, rfl, hb⟩, hB2⟩
    clear hb
    cases b <;>
    · go_wp2_with fail
      go_ret
      exact ⟨rfl, hB1.trans (hB2.mono hB1.size)⟩
  · have h2' : ¬ 2000 < (key.size : Int) := by omega
    clear h2
    go_enter Try.func5, Try.ntmps5
    go_wp2_with fail
    refine (A.out _).mono ?_
    rintro e w1 ⟨rfl, hB1⟩
    go_wp2_with fail
    refine (L.out _ hB1).mono ?_
    rintro e w2 ⟨⟨b, rfl, hb⟩, hB2⟩
    have HB2 : Hid (Below w.heap.size w w2) := hB1.trans (hB2.mono hB1.size)
    cases b with
    | true =>
      clear hb
      go_wp2_with fail
      go_ret
      exact ⟨rfl, HB2.out⟩
    | false =>
      obtain ⟨hlen, hsm⟩ := hb rfl
      have HS : Hid (∀ c ∈ l, c.key.size ≤ 1000000 ∧ c.val.size ≤ 1000000) := fun c hc => by have := hsm c hc; omega
      clear hb hsm
      have E := Lib.hid (fun w' (h : Below w.heap.size w w') => encode_any true ao cap l w' (Lib.hid (cels_below hl.out h)) HS (by omega))
      go_wp2_with fail
      refine (E.out _ HB2.out).mono ?_
      rintro e w3 ⟨⟨x, er, rfl, hE⟩, hB3⟩
      have HB3 : Hid (Below w.heap.size w w3) := HB2.out.trans (hB3.mono HB2.out.size)
      by_cases he : er = 0
      · subst he
        have HG : Hid (Good true l x) := dec_yes hE rfl
        have S := Lib.hid (fun w => seek_any l x key w HG)
        clear hE
        go_wp2_with fail
        refine (S.out _).mono ?_
        rintro e w4 ⟨⟨k, c, ex, rfl, hk0, hk1, hk2, hk3⟩, hB4⟩
        have HB4 : Hid (Below w.heap.size w w4) := HB3.out.trans (hB4.mono HB3.out.size)
        have HP : Hid (∀ i (hi : i < l.length), PlaceOk i k (Lib.compareBytes l[i].key.data.toList key.data.toList) ex) := place_ok HG.out.1 hk1 hk2 hk3
        have HX : Hid (ex = true → k < l.length) := fun h => (hk3.1 h).1
        clear hk1 hk2 hk3
        unfold Cel.v
        go_wp2_with fail
        go_loopw [10] (fun iv wr => ∃ i : Nat, i ≤ l.length ∧ iv = .int .i64 i ∧ Below w.heap.size w wr) (fun iv _ => l.length - (intOf iv).toNat)
        case atStart => exact ⟨0, Nat.zero_le _, rfl, HB4.out.alloc HB4.out.size _⟩
        case round =>
          obtain ⟨i, hi, rfl, hB⟩ := hrel
          have hsz := hB.size
          by_cases hil : i < l.length
          · have hil' : (i : Int) < (l.length : Int) := by omega
            obtain ⟨d, hd⟩ : ∃ d : Cel, Hid (d = l[i]'hil) := ⟨l[i]'hil, rfl⟩
            obtain ⟨b, o, hao, f0, f1, f2, f3, f4⟩ := (cels_below hl.out hB) i hil
            rw [← hd.out] at f0 f1 f2 f3 f4
            subst hao
            have hpo := HP.out i hil
            rw [← hd.out] at hpo
            have LS := Lib.hid (ordw.less_any d.key key wr (by rw [hd.out]; exact (HS.out _ (List.getElem_mem hil)).1))
            generalize Lib.compareBytes d.key.data.toList key.data.toList = n at hpo LS
            obtain ⟨o1, o2, o3, o4⟩ := hpo
            have O3 := Lib.hid o3
            clear o3
            have HSZ := Lib.hid hsz
            clear f1 f2 f3 f4
            rcases Nat.lt_trichotomy i k with hik | hik | hik
            · obtain rfl := o1 hik
              have e1 : (i : Int) < (k : Int) := by omega
              have e2 : ¬ (k : Int) < (i : Int) := by omega
              have e3 : ((i : Int) == (k : Int)) = false := by rw [beq_eq_false_iff_ne]; omega
              clear o1 o2 o4
              go_wp2_with fail
              refine LS.out.mono ?_
              rintro e w5 ⟨rfl, nq, rfl⟩
              go_wp2_with fail
              go_roundw
              case rel => exact ⟨i + 1, by omega, by go_num, below_drewN hB nq⟩
              case measure => simp [intOf]; omega
            · subst hik
              have e3 : ((i : Int) == (i : Int)) = true := by simp
              have O3' := O3.out rfl
              have HO := Lib.hid O3'
              obtain ⟨z, hz⟩ : ∃ z : Bool, Hid (z = (n == 0)) := ⟨_, rfl⟩
              have hz1 : (n == 0) = z := hz.out.symm
              have hzx : z = ex := by rw [Bool.eq_iff_iff, ← O3', ← hz1]; simp
              subst hzx
              clear o1 o2 o4 O3'
              go_wp2_with fail
              refine LS.out.mono ?_
              rintro e w5 ⟨rfl, nq, rfl⟩
              go_wp2_with fail
              go_roundw
              case rel => exact ⟨i + 1, by omega, by go_num, below_drewN hB nq⟩
              case measure => simp [intOf]; omega
            · obtain rfl := o2 hik
              have e1 : ¬ (i : Int) < (k : Int) := by omega
              have e2 : (k : Int) < (i : Int) := by omega
              have e3 : ((i : Int) == (k : Int)) = false := by rw [beq_eq_false_iff_ne]; omega
              clear o1 o2 o4
              go_wp2_with fail
              refine LS.out.mono ?_
              rintro e w5 ⟨rfl, nq, rfl⟩
              go_wp2_with fail
              go_roundw
              case rel => exact ⟨i + 1, by omega, by go_num, below_drewN hB nq⟩
              case measure => simp [intOf]; omega
          · obtain rfl : i = l.length := by omega
            have hil' : ¬ (l.length : Int) < (l.length : Int) := by omega
            have hkl : (k : Int) ≤ (l.length : Int) := by omega
            cases ex with
            | false =>
              by_cases hk' : k < l.length
              · have hk2 : (k : Int) < (l.length : Int) := by omega
                go_wp2_with fail
                go_ret
                exact ⟨rfl, hB⟩
              · have hk2 : ¬ (k : Int) < (l.length : Int) := by omega
                go_wp2_with fail
                go_ret
                exact ⟨rfl, hB⟩
            | true =>
              have hk' := HX.out rfl
              have hk2 : (k : Int) < (l.length : Int) := by omega
              go_wp2_with fail
              go_ret
              exact ⟨rfl, hB⟩
      · have he' : (er != 0) = true := by simpa using he
        have he2 : (er == 0) = false := by simpa using he
        clear hE he
        go_wp2_with fail
        go_ret
        exact ⟨rfl, HB3.out⟩
end nod
end Go.Proofs.Ytkeheaempbmmaaa
