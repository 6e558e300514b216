/- The walks of the reference's Tuple and of long. -/
import Derived.Test.YthbofgfdgpidcaaDoorPartR
namespace Go.Proofs.YthbofgfdgpidcaaDoor
open Go.RowKit
namespace tupr
open tupw prt
/-- the reference's row while part i is laid, k bytes of it done -/
def Inv (l : List ByteArray) (i : Nat) (done : List UInt8) (b : List UInt8) : Prop :=
  b = tup.bytes (l.take i) ++ tup.esc done ∨ (4096 < b.length ∧ 4096 < (tup.bytes l).length)
theorem bytes_at (l : List ByteArray) (i : Nat) (h : i < l.length) : tup.bytes l = tup.bytes (l.take i) ++ (tup.esc l[i].data.toList ++ [0, 1] ++ tup.bytes (l.drop (i + 1))) := by
  have e : l = l.take i ++ (l[i] :: l.drop (i + 1)) := by
    rw [← List.drop_eq_getElem_cons h, List.take_append_drop]
  conv => lhs; rw [e]
  rw [tup.bytes_append, tup.bytes]
theorem esc_take (p : List UInt8) (k : Nat) : (tup.esc (p.take k)).length ≤ (tup.esc p).length := by
  conv => rhs; rw [← List.take_append_drop k p, tup.esc_append]
  simp
theorem inv_step {l : List ByteArray} {i k : Nat} {b : List UInt8} (h : i < l.length) (hk : k < l[i].size) (hI : Inv l i (l[i].data.toList.take k) b) (hb : b.length ≤ 4096) :
    Inv l i (l[i].data.toList.take (k + 1)) (b ++ (if l[i][k] = 0 then [0, 255] else [l[i][k]])) := by
  rcases hI with rfl | ⟨h1, _⟩
  · left
    rw [kt.take_snoc _ k hk, tup.esc_append, List.append_assoc]
    simp [tup.esc]
  · omega
theorem inv_done {l : List ByteArray} {i k : Nat} {b : List UInt8} (h : i < l.length) (hI : Inv l i (l[i].data.toList.take k) b) (hb : ¬ (k < l[i].size ∧ b.length ≤ 4096)) : Inv l (i + 1) [] (b ++ [0, 1]) := by
  have hat := bytes_at l i h
  rcases hI with rfl | ⟨h1, h2⟩
  · by_cases hk : k < l[i].size
    · right
      have hlen : ¬ (tup.bytes (l.take i) ++ tup.esc (l[i].data.toList.take k)).length ≤ 4096 := fun hh => hb ⟨hk, hh⟩
      have he := esc_take l[i].data.toList k
      rw [hat]
      simp only [List.length_append] at hlen ⊢
      omega
    · left
      rw [show l[i].data.toList.take k = l[i].data.toList from List.take_of_length_le (by rw [kt.size_len]; omega), List.take_succ_eq_append_getElem h, tup.bytes_append]
      simp [tup.bytes, tup.esc]
  · right
    simp only [List.length_append]
    omega
theorem inv_end {l : List ByteArray} {b : List UInt8} (hI : Inv l l.length [] b) (h16 : ¬ 16 < l.length) : tup.out l = if 4096 < b.length then (⟨#[]⟩, 5) else (⟨b.toArray⟩, 0) := by
  unfold tup.out
  rw [if_neg h16]
  rcases hI with rfl | ⟨h1, h2⟩
  · rw [List.take_of_length_le (Nat.le_refl _)]
    simp [tup.esc]
  · rw [if_pos h2, if_pos h1]
theorem ownb_app2 {w : World} {B : Nat} {v : Value} {l : List UInt8} (h : OwnB w B v l) (x y : UInt8) (hl : l.length ≤ 1000000) (hB : B ≤ w.heap.size) :
    ∃ v' w1, (Builtin.append_ #[46, 46] 46 #[v, .slice (some ⟨w.heap.size, 0, none⟩) 2 2]).run Tryd.prog (w.alloc (.cells #[.int .u8 (x.toNat : Int), .int .u8 (y.toNat : Int)] 5)) = .ok v' w1 ∧ OwnB w1 B v' (l ++ [x, y]) ∧ w.grownBy w1 v.ownBlock ∧ Below B w w1 := by
  obtain ⟨v', w1, h1, h2, h3, h4⟩ := kt.app2 (P := Tryd.prog) (ty := 46) (w := w) Tryd.underlying46 fldw.infoByte rfl (.int .u8 (x.toNat : Int)) (.int .u8 (y.toNat : Int)) rfl rfl h (by rw [Lib.byteCells_length]; unfold maxLen; omega) (by rw [Lib.byteCells_length]; omega) hB
  refine ⟨v', w1, h1, ?_, h3, h4⟩
  unfold OwnB
  rw [Lib.byteCells_append]
  exact h2
theorem ownb_len {w : World} {B : Nat} {v : Value} {l : List UInt8} (h : OwnB w B v l) : ∃ ao cap, v = .slice ao l.length cap := by
  obtain ⟨ao, cap, hv, _⟩ := kt.row_slice h
  rw [Lib.byteCells_length] at hv
  exact ⟨ao, cap, hv⟩
set_option maxHeartbeats 2000000 in
theorem rtuple_any (ao : Option Addr) (cap : Nat) (l : List ByteArray) (w : World) (hl : Hid (Strs w ao l)) (hsm : Hid (∀ p ∈ l, p.size ≤ 1000000)) :
    Calls Tryd.prog 20 #[.slice ao l.length cap] w fun e w' => e = .returned (tupV (tup.out l)) ∧ Below w.heap.size w w' := by
  by_cases c16 : 16 < l.length
  · have hp : tup.out l = (⟨#[]⟩, 1) := by unfold tup.out; rw [if_pos c16]
    have HP := Lib.hid hp
    clear hp
    have c16' : 16 < (l.length : Int) := by omega
    go_enter Tryd.func20, Tryd.ntmps20
    go_wp2_with fail
    go_ret2
    exact ⟨by rw [HP.out]; rfl, Below.refl _ _⟩
  · have c16' : ¬ 16 < (l.length : Int) := by omega
    go_enter Tryd.func20, Tryd.ntmps20
    go_wp2_with fail
    go_loopw [4, 5] (fun bv iv wr => ∃ (i : Nat) (b : List UInt8), i ≤ l.length ∧ iv = .int .i64 i ∧ Hid (Inv l i [] b) ∧ b.length ≤ 4098 + 2 * i ∧ Hid (OwnB wr w.heap.size bv b) ∧ Below w.heap.size w wr) (fun _ iv _ => l.length - (intOf iv).toNat)
    case atStart => exact ⟨0, [], Nat.zero_le _, rfl, Or.inl rfl, by simp, ownb_new w _ (Nat.le_refl _), (Below.refl _ _).alloc (Nat.le_refl _) _⟩
    case round =>
      obtain ⟨i, b, hi, rfl, hI, hbl, hOB, hB⟩ := hrel
      have hsz := hB.size
      by_cases hil : i < l.length
      · have hil' : (i : Int) < (l.length : Int) := by omega
        obtain ⟨p, hp⟩ : ∃ p : ByteArray, Hid (p = l[i]'hil) := ⟨l[i]'hil, rfl⟩
        have hps : p.size ≤ 1000000 := by rw [hp.out]; exact hsm.out _ (List.getElem_mem hil)
        obtain ⟨bl, of, hao, hc0⟩ := hl.out i hil
        rw [← hp.out] at hc0
        subst hao
        have hI0 : Hid (Inv l i (p.data.toList.take 0) b) := hI
        clear hI
        go_wp2_with fail
        go_loopw [4, 6] (fun bv kv wr => ∃ (k : Nat) (b : List UInt8), k ≤ p.size ∧ kv = .int .i64 k ∧ Hid (Inv l i (p.data.toList.take k) b) ∧ b.length ≤ 4098 + 2 * i ∧ Hid (OwnB wr w.heap.size bv b) ∧ Below w.heap.size w wr) (fun _ kv _ => p.size - (intOf kv).toNat)
        case atStart => exact ⟨0, b, Nat.zero_le _, rfl, hI0, hbl, hOB, hB⟩
        case round =>
          clear hI0 hOB hB hbl hsz
          obtain ⟨k, b, hk, rfl, hI, hbl, hOB, hB⟩ := hrel
          have hsz := hB.size
          have hc := (hB.cell (World.block_lt_of_cell? w _ hc0)).trans hc0
          obtain ⟨ao2, cap2, rfl⟩ := ownb_len hOB.out
          by_cases hgo : k < p.size ∧ b.length ≤ 4096
          · obtain ⟨hkp, hb4⟩ := hgo
            have hkp' : (k : Int) < (p.size : Int) := by omega
            have hb4' : (b.length : Int) ≤ 4096 := by omega
            obtain ⟨c, hcc⟩ : ∃ c : UInt8, Hid (c = p[k]'hkp) := ⟨p[k]'hkp, rfl⟩
            have ec : (p[k]'hkp).toNat = c.toNat := by rw [hcc.out]
            have hst : Inv l i (p.data.toList.take (k + 1)) (b ++ (if c = 0 then [0, 255] else [c])) := by
              have hpe := hp.out
              subst hpe
              have hce := hcc.out
              subst hce
              exact inv_step hil hkp hI.out hb4
            obtain ⟨v1, w1, hap, hO1, hgr, hB1⟩ := ownb_app hOB.out c (by omega) hsz
            have hs1 := hB1.size
            have hc1 := (hB1.cell (p := ⟨bl, of + i, none⟩) (World.block_lt_of_cell? w _ hc0)).trans hc
            by_cases c0 : c = 0
            · subst c0
              rw [if_pos rfl] at hst
              have HI2 := Lib.hid hst
              have ec' : (p[k]'hkp).toNat = 0 := ec
              clear hst ec hI
              obtain ⟨v2, w2, hap2, hO2, hgr2, hB2⟩ := ownb_app hO1 255 (by simp; omega) (Nat.le_trans hsz hs1)
              rw [List.append_assoc] at hO2
              have HO2 := Lib.hid hO2
              clear hO2 hgr hgr2 hO1
              change (Builtin.append_ _ _ #[_, .slice (some ⟨wr.heap.size, 0, none⟩) 1 1]).run _ (wr.alloc (.cells #[.int .u8 0] 5)) = .ok v1 w1 at hap
              change (Builtin.append_ _ _ #[_, .slice (some ⟨w1.heap.size, 0, none⟩) 1 1]).run _ (w1.alloc (.cells #[.int .u8 255] 5)) = .ok v2 w2 at hap2
              go_wp2_with (at_builtin; first | refine Lib.wpList_append_run _ rfl _ _ _ _ rfl _ _ rfl rfl _ _ hap ?_ | refine Lib.wpList_append_run _ rfl _ _ _ _ rfl _ _ rfl rfl _ _ hap2 ?_)
              go_roundw
              case rel => exact ⟨k + 1, b ++ [0, 255], by omega, by go_num, HI2, by simp; omega, HO2, (hB.trans hB1).trans hB2⟩
              case measure => simp [intOf]; omega
            · have n0 : ((c.toNat : Int) == 0) = false := by
                rw [beq_eq_false_iff_ne]
                intro h
                exact c0 (UInt8.toNat_inj.1 (by simpa using h))
              rw [if_neg c0] at hst
              have HI2 := Lib.hid hst
              have HO1 := Lib.hid hO1
              clear hst hI hO1 hgr
              go_wp2_with (at_builtin; refine Lib.wpList_append_run _ rfl _ _ _ _ rfl _ _ rfl rfl _ _ hap ?_)
              go_roundw
              case rel => exact ⟨k + 1, b ++ [c], by omega, by go_num, HI2, by simp; omega, HO1, hB.trans hB1⟩
              case measure => simp [intOf]; omega
          · have hdn : Inv l (i + 1) [] (b ++ [0, 1]) := by
              have hpe := hp.out
              subst hpe
              exact inv_done hil hI.out hgo
            have HI2 := Lib.hid hdn
            obtain ⟨v1, w1, hap, hO1, hgr, hB1⟩ := ownb_app2 hOB.out 0 1 (by omega) hsz
            have HO1 := Lib.hid hO1
            clear hdn hI hO1 hgr
            change (Builtin.append_ _ _ #[_, .slice (some ⟨wr.heap.size, 0, none⟩) 2 2]).run _ (wr.alloc (.cells #[.int .u8 0, .int .u8 1] 5)) = .ok v1 w1 at hap
            by_cases hkp : k < p.size
            · have hkp' : (k : Int) < (p.size : Int) := by omega
              have hb4' : ¬ (b.length : Int) ≤ 4096 := by omega
              go_wp2_with (at_builtin; refine Lib.wpList_append_run _ rfl _ _ _ _ rfl _ _ rfl rfl _ _ hap ?_)
              go_roundw
              case rel => exact ⟨i + 1, b ++ [0, 1], by omega, by go_num, HI2, by simp; omega, HO1, hB.trans hB1⟩
              case measure => simp [intOf]; omega
            · have hkp' : ¬ (k : Int) < (p.size : Int) := by omega
              go_wp2_with (at_builtin; refine Lib.wpList_append_run _ rfl _ _ _ _ rfl _ _ rfl rfl _ _ hap ?_)
              go_roundw
              case rel => exact ⟨i + 1, b ++ [0, 1], by omega, by go_num, HI2, by simp; omega, HO1, hB.trans hB1⟩
              case measure => simp [intOf]; omega
      · obtain rfl : i = l.length := by omega
        have hil' : ¬ (l.length : Int) < (l.length : Int) := by omega
        obtain ⟨ao2, cap2, rfl⟩ := ownb_len hOB.out
        have ho := inv_end hI.out c16
        by_cases hb4 : 4096 < b.length
        · have hb4' : 4096 < (b.length : Int) := by omega
          rw [if_pos hb4] at ho
          have HO := Lib.hid ho
          clear ho hI
          go_wp2_with fail
          go_ret2
          exact ⟨by rw [HO.out]; rfl, hB⟩
        · have hb4' : ¬ 4096 < (b.length : Int) := by omega
          rw [if_neg hb4] at ho
          obtain ⟨q, hq⟩ : ∃ q : ByteArray, Hid (q = ⟨b.toArray⟩) := ⟨_, rfl⟩
          have hst := kt.str_of_row (P := Tryd.prog) (dst := 9) Tryd.underlying46 Tryd.underlying5 Tryd.underlying9 hOB.out
          rw [← hq.out] at ho hst
          have HO := Lib.hid ho
          clear ho hI
          go_wp2_with fail
          go_ret2
          exact ⟨by rw [HO.out]; rfl, hB⟩
end tupr
end Go.Proofs.YthbofgfdgpidcaaDoor
