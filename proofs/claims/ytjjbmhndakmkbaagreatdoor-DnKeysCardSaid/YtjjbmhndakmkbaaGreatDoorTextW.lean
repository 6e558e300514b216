/- The walks of the reference's Bytes and Text: the bytes of runes. -/
import Derived.Test.YtjjbmhndakmkbaaGreatDoorRunesW
namespace Go.Proofs.YtjjbmhndakmkbaaGreatDoor
open Go.RowKit
namespace prw
open run prp
set_option linter.unusedVariables false
set_option linter.unusedSimpArgs false
theorem infoByte : (Tryz.prog.info? 5).map (fun i => (i.zero, i.size, i.bytes)) = some (some (.int .u8 0), 1, 1) := by kernel_rfl
theorem lit_row (w : World) (e : TypeId) (l : List Value) (hl : l.length ≤ 1000) : (w.alloc (.cells l.toArray e)).ownsRow w.heap.size e 1 (.slice (some ⟨w.heap.size, 0, none⟩) l.length l.length) l.length l := by
  refine ⟨by omega, Or.inr ⟨w.heap.size, l.length, l.toArray, rfl, Nat.le_refl _, heap_alloc_new w _, Nat.le_refl _, by unfold maxLen; omega, by simp, ?_⟩⟩
  rw [Nat.mul_one, List.toList_toArray, List.take_of_length_le (by omega)]
/-- what Bytes hands back: a new row -/
def BytesE (l : List UInt8) (w : World) (e : Ending) (w' : World) : Prop :=
  ∃ g cap : Nat, e = .returned (.slice (some ⟨g, 0, none⟩) l.length cap) ∧ (∀ j u, (Lib.byteCells l)[j]? = some u → w'.cell? ⟨g, j, none⟩ = some u) ∧ Below w.heap.size w w'
theorem bytesE_lit (w : World) (l : List UInt8) (zs : List Int) (h : l = zs.map fun x => x.toNat.toUInt8) (hz : ∀ x ∈ zs, 0 ≤ x ∧ x < 256) :
    BytesE l w (.returned (.slice (some ⟨w.heap.size, 0, none⟩) zs.length zs.length)) (w.alloc (.cells (zs.map (Value.int .u8 ·)).toArray 5)) := by
  refine ⟨w.heap.size, zs.length, by rw [h]; simp, ?_, (Below.refl _ _).alloc (Nat.le_refl _) _⟩
  intro j u hj
  have e1 : Lib.byteCells l = zs.map (Value.int .u8 ·) := by
    rw [h]
    unfold Lib.byteCells
    rw [List.map_map]
    apply List.map_congr_left
    intro x hx
    obtain ⟨h0, h1⟩ := hz x hx
    simp only [Function.comp, Value.int.injEq, true_and]
    rw [u8z x h0 h1]; omega
  rw [e1] at hj
  rw [World.cell?_alloc_new]
  simpa using hj
set_option maxRecDepth 20000 in
set_option maxHeartbeats 2000000 in
theorem bytes_any (r : Int) (w : World) (hr : Hid (okR r)) : Calls Tryz.prog 62 #[.int .i32 r] w fun e w' => BytesE (enc r) w e w' := by
  have r0 : 0 ≤ r := hr.out.1
  have r1 : r ≤ 1114111 := hr.out.2.1
  by_cases a1 : r < 128
  · have E := Lib.hid (enc_one r0 (by omega))
    go_enter Tryz.func62, Tryz.ntmps62
    go_wp2_with fail
    go_ret
    exact bytesE_lit w _ [r] E.out (by intro x hx; simp at hx; omega)
  · by_cases a2 : r < 2048
    · have E := Lib.hid (enc_two (v := r) (by omega) (by omega))
      go_enter Tryz.func62, Tryz.ntmps62
      go_wp2_with fail
      go_ret
      exact bytesE_lit w _ [192 + r / 64, 128 + r % 64] E.out (by intro x hx; simp at hx; omega)
    · by_cases a3 : r < 65536
      · have E := Lib.hid (enc_three (v := r) (by have := hr.out.2.2; omega))
        go_enter Tryz.func62, Tryz.ntmps62
        go_wp2_with fail
        go_ret
        exact bytesE_lit w _ [224 + r / 4096, 128 + r / 64 % 64, 128 + r % 64] E.out (by intro x hx; simp at hx; omega)
      · have E := Lib.hid (enc_four (v := r) (by omega) (by omega))
        go_enter Tryz.func62, Tryz.ntmps62
        go_wp2_with fail
        go_ret
        exact bytesE_lit w _ [240 + r / 262144, 128 + r / 4096 % 64, 128 + r / 64 % 64, 128 + r % 64] E.out (by intro x hx; simp at hx; omega)
/-- where a row of runes lies -/
def Runs (w : World) (ao : Option Addr) (m : List Int) : Prop := ∀ i (hi : i < m.length), ∃ b o, ao = some ⟨b, o, none⟩ ∧ w.cell? ⟨b, o + i, none⟩ = some (.int .i32 m[i])
theorem runs_below {w w' : World} {ao : Option Addr} {m : List Int} (h : Runs w ao m) (hb : Below w.heap.size w w') : Runs w' ao m := by
  intro i hi
  obtain ⟨b, o, h1, h2⟩ := h i hi
  exact ⟨b, o, h1, (hb.cell (World.block_lt_of_cell? w _ h2)).trans h2⟩
theorem runs_of {w : World} {B : Nat} {v : Value} {m : List Int} (h : OwnR w B v m) : ∃ (ao : Option Addr) (cap : Nat), v = .slice ao m.length cap ∧ Runs w ao m := by
  obtain ⟨ao, cap, rfl⟩ := ownR_form h
  refine ⟨ao, cap, rfl, ?_⟩
  intro i hi
  have h' : w.ownsRow B 21 1 (.slice ao m.length cap) m.length (rcells m) := by
    have := h
    unfold OwnR at this
    rw [rcells_length] at this
    exact this
  obtain ⟨g, rfl, hc, _⟩ := kt.row_some h' (by omega)
  refine ⟨g, 0, rfl, ?_⟩
  rw [Nat.zero_add]
  exact hc i _ (by simp [rcells, hi])
theorem text_take (m : List Int) (i : Nat) (hi : i < m.length) : text (m.take (i + 1)) = text (m.take i) ++ enc m[i] := by
  rw [List.take_succ_eq_append_getElem hi, text_append]
  simp [text]
theorem text_len4 : ∀ m : List Int, (text m).length ≤ 4 * m.length
  | [] => by simp [text]
  | v :: m => by
    have h1 := enc_len v
    have h2 := text_len4 m
    rw [text_cons, List.length_append, List.length_cons]; omega
set_option maxRecDepth 20000 in
set_option maxHeartbeats 2000000 in
theorem text_any (ao : Option Addr) (cap : Nat) (m : List Int) (w : World) (hm : m.length ≤ 1000000) (hS : Hid (Runs w ao m)) (hok : Hid (∀ v ∈ m, okR v)) :
    Calls Tryz.prog 41 #[.slice ao m.length cap] w fun e w' => e = .returned (.string ⟨(text m).toArray⟩) ∧ Below w.heap.size w w' := by
  go_enter Tryz.func41, Tryz.ntmps41
  go_wp2_with fail
  go_loopw [3, 4] (fun bv iv wr => ∃ (i : Nat), i ≤ m.length ∧ iv = .int .i64 (i : Int) ∧ Hid (wr.ownsRow w.heap.size 5 1 bv (Lib.byteCells (text (m.take i))).length (Lib.byteCells (text (m.take i)))) ∧ Below w.heap.size w wr) (fun _ iv _ => m.length - (intOf iv).toNat)
  case atStart =>
    refine ⟨0, Nat.zero_le _, rfl, ?_, (Below.refl _ _).alloc (Nat.le_refl _) _⟩
    exact World.ownsRow_made _ #[] 0 (by simp) (by unfold maxLen; omega) rfl
  case round =>
    obtain ⟨i, hi, rfl, hO, hB⟩ := hrel
    have hsz := hB.size
    by_cases hlt : i < m.length
    · have hlt' : (i : Int) < (m.length : Int) := by omega
      obtain ⟨b, o, hao, hc⟩ := runs_below hS.out hB i hlt
      subst hao
      have hT := text_take m i hlt
      have h4 := text_len4 (m.take i)
      have h5 := enc_len m[i]
      rw [List.length_take] at h4
      have hokm := hok.out m[i] (by simp)
      generalize m[i] = x at hc hT h5 hokm
      have HX := Lib.hid hokm
      have CB := Lib.hid (bytes_any x wr HX)
      have HT := Lib.hid hT
      have H4 := Lib.hid h4
      have H5 := Lib.hid h5
      clear hT h4 hokm h5
      go_wp2_with fail
      refine CB.out.mono ?_
      rintro e w1 ⟨g, cp, rfl, hg, hB1⟩
      have hO1 := kt.row_below hO.out hB1
      have h6 := Lib.byteCells_length (text (m.take i))
      obtain ⟨v', w2, hap, hO2, hg2, hB2⟩ := kt.appN (P := Tryz.prog) (t := 61) (ty := 61) Tryz.underlying61 infoByte rfl ⟨g, 0, none⟩ (enc x).length cp (Lib.byteCells (enc x)) (Lib.byteCells_length _) (fun j u hj => by rw [kt.addr_add]; exact hg j u hj) (by intro u hu; unfold Lib.byteCells at hu; obtain ⟨y, _, rfl⟩ := List.mem_map.1 hu; rfl) hO1 (by have := H4.out; have := H5.out; rw [h6]; unfold maxLen; omega) (by have := H4.out; have := H5.out; rw [h6]; omega) (Nat.le_trans hsz hB1.size)
      have HO2 : Hid (w2.ownsRow w.heap.size 5 1 v' (Lib.byteCells (text (m.take (i + 1)))).length (Lib.byteCells (text (m.take (i + 1))))) := by
        show World.ownsRow _ _ _ _ _ _ _
        rw [HT.out, Lib.byteCells_append]
        exact hO2
      have HB2 : Hid (Below w.heap.size w w2) := (hB.trans (hB1.mono hsz)).trans hB2
      clear hO1 hO2 hg hg2 hB1 hB2 h6
      go_wp2_with (at_builtin; refine Lib.wpList_append_run _ rfl _ _ _ _ rfl _ _ rfl rfl _ _ hap ?_)
      go_roundw
      case rel => exact ⟨i + 1, by omega, by go_num, HO2, HB2.out⟩
      case measure => simp [intOf]; omega
    · obtain rfl : i = m.length := by omega
      have hst := kt.str_of_row (P := Tryz.prog) (dst := 9) Tryz.underlying61 Tryz.underlying5 Tryz.underlying9 hO.out
      rw [List.take_length] at hst
      go_wp2_with fail
      go_ret
      exact ⟨rfl, hB⟩
end prw
end Go.Proofs.YtjjbmhndakmkbaaGreatDoor
