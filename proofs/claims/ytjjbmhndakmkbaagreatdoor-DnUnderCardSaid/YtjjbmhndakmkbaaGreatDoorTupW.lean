/- The walk of Tuple. -/
import Derived.Test.YtjjbmhndakmkbaaGreatDoorBuildS
import Derived.Test.YtjjbmhndakmkbaaGreatDoorTupP
import Derived.Test.YtjjbmhndakmkbaaGreatDoorTrim
namespace Go.Proofs.YtjjbmhndakmkbaaGreatDoor
open Go.RowKit
namespace tupw
/-- a row of texts lies at a slice -/
def Strs (w : World) (ao : Option Addr) (l : List ByteArray) : Prop := ∀ (i : Nat) (h : i < l.length), ∃ b o, ao = some ⟨b, o, none⟩ ∧ w.cell? ⟨b, o + i, none⟩ = some (.string l[i])
theorem strs_below {w w' : World} {ao : Option Addr} {l : List ByteArray} (h : Strs w ao l) (hb : Below w.heap.size w w') : Strs w' ao l := by
  intro i hi
  obtain ⟨b, o, e, hc⟩ := h i hi
  exact ⟨b, o, e, (hb.cell (World.block_lt_of_cell? w _ hc)).trans hc⟩
theorem is_below {B b : Nat} {l : List UInt8} {w w' : World} (h : bld.Is B b l w) (hb : Below w.heap.size w w') : bld.Is B b l w' := by
  rcases h with h | h
  · obtain ⟨hB, v, hk, ho, hn⟩ := h
    exact Or.inl ⟨hB, v, (hb.block b (bld.lt_of_heap hk)).trans hk, kt.row_below ho hb, hn⟩
  · obtain ⟨hB, v, hk, ho, hn⟩ := h
    exact Or.inr ⟨hB, v, (hb.block b (bld.lt_of_heap hk)).trans hk, kt.row_below ho hb, hn⟩
def tupV (r : ByteArray × Int) : Value := .tuple #[.string r.1, .int .i64 r.2]

set_option maxHeartbeats 1000000 in
theorem tuple_any (ao : Option Addr) (cap : Nat) (l : List ByteArray) (w : World) (hE : Hid (trm.Env w)) (hl : Hid (Strs w ao l)) :
    Calls Tryz.prog 34 #[.slice ao l.length cap] w fun e w' => e = .returned (tupV (tup.out l)) ∧ Below w.heap.size w w' := by
  by_cases c16 : 16 < l.length
  · have hp : tup.out l = (⟨#[]⟩, 1) := by unfold tup.out; rw [if_pos c16]
    have HP := Lib.hid hp
    clear hp
    have c16' : 16 < (l.length : Int) := by omega
    go_enter Tryz.func34, Tryz.ntmps34
    go_wp2_with fail
    go_ret2
    exact ⟨by rw [HP.out]; rfl, Below.refl _ _⟩
  · have c16' : ¬ 16 < (l.length : Int) := by omega
    go_enter Tryz.func34, Tryz.ntmps34
    go_wp2_with fail
    go_loopw [12] (fun iv wr => ∃ i : Nat, i ≤ l.length ∧ iv = .int .i64 i ∧ Hid (∀ p ∈ l.take i, p.size ≤ 4096) ∧ Hid (bld.Is w.heap.size w.heap.size (tup.bytes (l.take i)) wr) ∧ Below w.heap.size w wr) (fun iv _ => l.length - (intOf iv).toNat)
    case atStart => exact ⟨0, Nat.zero_le _, rfl, fun p hp => by simp at hp, bld.fresh w, (Below.refl _ _).alloc (Nat.le_refl _) _⟩
    case round =>
      obtain ⟨i, hi, rfl, hsm, hI, hB⟩ := hrel
      have hsz := hB.size
      by_cases hil : i < l.length
      · obtain ⟨b, o, hao, hc0⟩ := hl.out i hil
        have hc := (hB.cell (World.block_lt_of_cell? w _ hc0)).trans hc0
        clear hc0
        obtain ⟨p, hp⟩ : ∃ p : ByteArray, Hid (p = l[i]) := ⟨l[i], rfl⟩
        rw [← hp.out] at hc
        subst hao
        by_cases cp : 4096 < p.size
        · have hbig : tup.out l = (⟨#[]⟩, 5) := by
            have := tup.bytes_mem (l := l) (p := l[i]) (List.getElem_mem hil)
            rw [← hp.out] at this
            unfold tup.out
            rw [if_neg c16, if_pos (by omega)]
          have HP := Lib.hid hbig
          clear hbig
          have cp' : 4096 < (p.size : Int) := by omega
          go_wp2_with fail
          go_ret2
          exact ⟨by rw [HP.out]; rfl, hB⟩
        · have cp' : ¬ 4096 < (p.size : Int) := by omega
          obtain ⟨⟨m, hm⟩, _⟩ := trm.env_below hE.out hB
          have hcl := Lib.count_le p.data.toList [0]
          have C := Tryz.strings_ReplaceAll p ⟨#[0]⟩ ⟨#[0, 255]⟩ m wr (by omega) hm (by decide) (by
            have : Lib.countB p ⟨#[0]⟩ ≤ p.size + 1 := by simpa [Lib.countB] using hcl
            show p.size + Lib.countB p ⟨#[0]⟩ * 2 ≤ _
            omega)
          rw [show (Lib.replaceAll p.data.toList (ByteArray.mk #[0]).data.toList (ByteArray.mk #[0, 255]).data.toList) = tup.esc p.data.toList from tup.replace_esc _] at C
          obtain ⟨q, hq⟩ : ∃ q : ByteArray, Hid (q = ⟨(tup.esc p.data.toList).toArray⟩) := ⟨_, rfl⟩
          rw [← hq.out] at C
          have hqs : q.size ≤ 8192 := by
            have := (tup.esc_length p.data.toList).2
            rw [kt.size_len] at this
            have h2 : q.size = (tup.esc p.data.toList).length := by rw [hq.out]; rfl
            omega
          have HC := Lib.hid C
          clear C hcl hm
          have hbl : (tup.bytes (l.take i)).length ≤ 131104 := by
            have := tup.bytes_small hsm.out
            rw [List.length_take] at this
            omega
          go_wp2_with fail
          refine HC.out.mono ?_
          rintro e w1 ⟨rfl, hB1⟩
          have hI1 := is_below hI.out hB1
          have W1 := Lib.hid (bld.writeString_any _ _ _ q w1 hI1 (by omega) (Nat.le_trans hsz hB1.size))
          clear hI1
          go_wp2_with fail
          refine W1.out.mono ?_
          rintro e w2 ⟨rfl, hI2, hB2⟩
          have hs2 : w.heap.size ≤ w2.heap.size := Nat.le_trans (Nat.le_trans hsz hB1.size) hB2.size
          have hqd : q.data.toList = tup.esc p.data.toList := by rw [hq.out]
          have W2 := Lib.hid (bld.writeString_any _ _ _ ⟨#[0, 1]⟩ w2 hI2 (by rw [List.length_append, kt.size_len]; show _ + 2 ≤ _; omega) hs2)
          clear hI2
          go_wp2_with fail
          refine W2.out.mono ?_
          rintro e w3 ⟨rfl, hI3, hB3⟩
          have hI3' := Lib.hid hI3
          clear hI3
          have ht : tup.bytes (l.take (i + 1)) = tup.bytes (l.take i) ++ q.data.toList ++ [0, 1] := by
            rw [List.take_succ_eq_append_getElem hil, tup.bytes_append, hqd, ← hp.out]
            simp [tup.bytes]
          have HT := Lib.hid ht
          have HS : Hid (∀ p ∈ l.take (i + 1), p.size ≤ 4096) := by
            rw [List.take_succ_eq_append_getElem hil]
            intro r hr
            rcases List.mem_append.1 hr with h | h
            · exact hsm.out r h
            · rw [List.mem_singleton.1 h, ← hp.out]; omega
          clear ht hqd
          go_wp2_with fail
          go_roundw
          case rel => exact ⟨i + 1, by omega, by go_num, HS, by rw [HT.out]; exact hI3'.out, ((hB.trans (hB1.mono hsz)).trans hB2).trans hB3⟩
          case measure => simp [intOf]; omega
      · obtain rfl : i = l.length := by omega
        have hI' := hI
        have hsm' := hsm.out
        rw [List.take_of_length_le (Nat.le_refl _)] at hI' hsm'
        have hbl := tup.bytes_small hsm'
        clear hsm hsm' hI
        have hL := (Tryz.Builder_Len _ _ _ wr hI'.out)
        rw [Lib.byteCells_length] at hL
        have HL := Lib.hid hL
        clear hL
        have hil' : ¬ (l.length : Int) < (l.length : Int) := by omega
        go_wp2_with fail
        refine HL.out.mono ?_
        rintro e w1 ⟨rfl, rfl⟩
        by_cases hb : 4096 < (tup.bytes l).length
        · have hp : tup.out l = (⟨#[]⟩, 5) := by unfold tup.out; rw [if_neg c16, if_pos hb]
          have HP := Lib.hid hp
          have hb' : 4096 < ((tup.bytes l).length : Int) := by omega
          clear hp hb
          go_wp2_with fail
          go_ret2
          exact ⟨by rw [HP.out]; rfl, hB⟩
        · have hp : tup.out l = (⟨(tup.bytes l).toArray⟩, 0) := by unfold tup.out; rw [if_neg c16, if_neg hb]
          have HP := Lib.hid hp
          have hb' : ¬ 4096 < ((tup.bytes l).length : Int) := by omega
          clear hp hb
          have HSt := Lib.hid (Tryz.Builder_String_any _ _ _ w1 hI'.out hsz)
          go_wp2_with fail
          refine HSt.out.mono ?_
          rintro e w2 ⟨rfl, hB2⟩
          go_wp2_with fail
          go_ret2
          exact ⟨by rw [HP.out]; rfl, hB.trans hB2⟩
end tupw
end Go.Proofs.YtjjbmhndakmkbaaGreatDoor
