/- The walk of Unhex. -/
import Derived.Test.YtjjbmhndakmkbaaGreatDoorHexD
import Derived.Test.YtjjbmhndakmkbaaGreatDoorBuildS
namespace Go.Proofs.YtjjbmhndakmkbaaGreatDoor
open Go.RowKit

/-- what Unhex leaves -/
def UhRes (o : Option (List UInt8)) (w : World) (e : Ending) (w' : World) : Prop := e = .returned (b64p.uhV o) ∧ Below w.heap.size w w'

set_option maxHeartbeats 1000000 in
set_option maxRecDepth 20000 in
theorem unhex_any (s : ByteArray) (w : World) (hs : s.size ≤ 10000) :
    Calls Tryz.prog 66 #[.string s] w (UhRes (b64p.unhex s.data.toList) w) := by
  by_cases hodd : s.size % 2 = 1
  · have ho := b64p.unhex_odd _ s.data.toList (Nat.le_refl _) (by rw [kt.size_len]; exact hodd)
    have HO := Lib.hid ho
    have q1 : ((s.size : Int) % 2 != 0) = true := by rw [bne_iff_ne]; omega
    clear ho hodd
    go_enter Tryz.func66, Tryz.ntmps66
    go_wp2_with fail
    go_ret2
    exact ⟨by rw [HO.out]; rfl, Below.refl _ _⟩
  · have q1 : ((s.size : Int) % 2 != 0) = false := by rw [bne_eq_false_iff_eq]; omega
    have hodd' := Lib.hid hodd
    clear hodd
    go_enter Tryz.func66, Tryz.ntmps66
    go_wp2_with fail
    go_loopw [4, 5] (fun bv iv wr => ∃ (i : Nat) (d : List UInt8), i ≤ s.size ∧ Hid (i % 2 = 0) ∧ d.length ≤ i ∧ iv = .int .i64 i ∧ Hid (wr.ownsRow w.heap.size 5 1 bv (Lib.byteCells d).length (Lib.byteCells d)) ∧ Hid (b64p.unhex s.data.toList = (b64p.unhex (s.data.toList.drop i)).map (d ++ ·)) ∧ Below w.heap.size w wr) (fun _ iv _ => s.size - (intOf iv).toNat)
    case atStart => exact ⟨0, [], Nat.zero_le _, rfl, by simp, rfl, World.ownsRow_nil _ _ _ _, by show _ = _; simp, Below.refl _ _⟩
    case round =>
      obtain ⟨i, d, hi, hpar, hd, rfl, hO, hU, hB⟩ := hrel
      have hsz := hB.size
      by_cases hlt : i < s.size
      · have hi1 : i + 1 < s.size := by have := hpar.out; have := hodd'.out; omega
        have hstep := b64p.unhex_step s.data.toList i (by rw [kt.size_len]; exact hi1)
        have g1 : s.data.toList[i]'(by rw [kt.size_len]; exact hlt) = s[i] := rfl
        have g2 : s.data.toList[i + 1]'(by rw [kt.size_len]; exact hi1) = s[i + 1] := rfl
        rw [g1, g2] at hstep
        have hstep' := Lib.hid hstep
        clear hstep g1 g2
        obtain ⟨a, ha⟩ : ∃ a : Int, Hid (a = b64p.valI s[i]) := ⟨b64p.valI s[i], rfl⟩
        obtain ⟨b, hb⟩ : ∃ b : Int, Hid (b = b64p.valI s[i + 1]) := ⟨b64p.valI s[i + 1], rfl⟩
        have va : -1 ≤ a ∧ a ≤ 15 := by rw [ha.out]; exact b64p.valI_le _
        have vb : -1 ≤ b ∧ b ≤ 15 := by rw [hb.out]; exact b64p.valI_le _
        obtain ⟨va1, va2⟩ := va
        obtain ⟨vb1, vb2⟩ := vb
        obtain ⟨n1, en1⟩ : ∃ n : Nat, s[i].toNat = n := ⟨_, rfl⟩
        obtain ⟨n2, en2⟩ : ∃ n : Nat, s[i + 1].toNat = n := ⟨_, rfl⟩
        have DA : Hid (∀ W : World, Calls Tryz.prog 92 #[.int .u8 (n1 : Int)] W fun e w' => e = .returned (.int .i64 a) ∧ w' = W) := by
          intro W; rw [ha.out, ← en1]; exact kt.flip (digit_any _ W)
        have DB : Hid (∀ W : World, Calls Tryz.prog 92 #[.int .u8 (n2 : Int)] W fun e w' => e = .returned (.int .i64 b) ∧ w' = W) := by
          intro W; rw [hb.out, ← en2]; exact kt.flip (digit_any _ W)
        have f1 : (0 : Int) ≤ (i : Int) := by omega
        have f2 : (i : Int) < (s.size : Int) := by omega
        have f3 : (0 : Int) ≤ (i : Int) + 1 := by omega
        have f4 : (i : Int) + 1 < (s.size : Int) := by omega
        have f5 : IntKind.i64.wrap ((i : Int) + 1) = (i : Int) + 1 := IntWalk.i64_in _ (by omega)
        have f6 : ((i : Int) + 1).toNat = i + 1 := by omega
        go_wp2_with fail
        go_quiet ((first | (go_at_call_of 92 (Value.int IntKind.u8 (n1 : Int)); exact Calls.quiet_of_same (DA.out _)) | (go_at_call_of 92 (Value.int IntKind.u8 (n2 : Int)); exact Calls.quiet_of_same (DB.out _))))
        by_cases hneg : a < 0 ∨ b < 0
        · have hnone : b64p.unhex s.data.toList = none := by
            rw [hU.out, hstep'.out, if_pos (by rw [← ha.out, ← hb.out]; exact hneg)]; rfl
          have HN := Lib.hid hnone
          clear hnone
          by_cases ha0 : a < 0
          · clear hneg
            go_wp2_with fail
            go_ret2
            exact ⟨by rw [HN.out]; rfl, hB.trans (hx_drewN (Below.refl _ _) _)⟩
          · have hb0 : b < 0 := by omega
            clear hneg
            go_wp2_with fail
            go_ret2
            exact ⟨by rw [HN.out]; rfl, hB.trans (hx_drewN (Below.refl _ _) _)⟩
        · have ha0 : 0 ≤ a := by omega
          have hb0 : 0 ≤ b := by omega
          have hsome : b64p.unhex s.data.toList = (b64p.unhex (s.data.toList.drop (i + 2))).map ((d ++ [UInt8.ofNat (16 * a + b).toNat]) ++ ·) := by
            rw [hU.out, hstep'.out, if_neg (by rw [← ha.out, ← hb.out]; exact hneg), ← ha.out, ← hb.out, Option.map_map]
            congr 1
            funext x
            simp
          have HS := Lib.hid hsome
          clear hsome hneg
          obtain ⟨A, rfl⟩ := Int.eq_ofNat_of_zero_le ha0
          obtain ⟨B, rfl⟩ := Int.eq_ofNat_of_zero_le hb0
          obtain ⟨m, hm⟩ : ∃ m : UInt8, Hid (m = UInt8.ofNat (16 * (A : Int) + (B : Int)).toNat) := ⟨_, rfl⟩
          have em : (m.toNat : Int) = 16 * A + B := by
            rw [hm.out, UInt8.toNat_ofNat']
            omega
          have e1 : bits .or .i64 ((A : Int) * 16) (B : Int) = (m.toNat : Int) := by
            have h := kt.i64_or_low 4 A B (by omega) (by omega)
            rw [em, show (A : Int) * 16 = ((2 ^ 4 * A : Nat) : Int) from by omega, h]
            omega
          have e2 : (m.toNat : Int) % 256 = (m.toNat : Int) := by have := m.toNat_lt; omega
          obtain ⟨v', w1, hap, hO1, hg1, hB1⟩ := kt.app1 (P := Tryz.prog) (ty := 61) (w := wr.drewN nq) Tryz.underlying61 bld.infoByte rfl (.int .u8 (m.toNat : Int)) rfl hO.out (by rw [Lib.byteCells_length]; unfold maxLen; omega) (by rw [Lib.byteCells_length]; omega) hsz
          have HO1 := Lib.hid hO1
          have HG1 := Lib.hid hg1
          have EM := Lib.hid em
          clear hO1 hg1 em
          go_wp2_with (at_builtin; refine Lib.wpList_append_run _ rfl _ _ _ _ rfl _ _ rfl rfl _ _ hap ?_)
          go_roundw
          case rel =>
            refine ⟨i + 2, d ++ [m], by omega, by show _ = _; have := hpar.out; omega, by simp; omega, by go_num, ?_, ?_, (hB.trans (hx_drewN (Below.refl _ _) _)).trans hB1⟩
            · show World.ownsRow _ _ _ _ _ _ _
              rw [Lib.byteCells_append]
              exact HO1.out
            · show _ = _
              rw [hm.out]
              exact HS.out
          case measure => simp [intOf]; omega
      · obtain rfl : i = s.size := by omega
        have hst := kt.str_of_row (P := Tryz.prog) (dst := 9) Tryz.underlying61 Tryz.underlying5 Tryz.underlying9 hO.out
        have hfin : b64p.unhex s.data.toList = some d := by
          rw [hU.out, List.drop_of_length_le (by simp)]
          simp [b64p.unhex]
        have HF := Lib.hid hfin
        clear hfin
        go_wp2_with fail
        go_ret2
        exact ⟨by rw [HF.out]; rfl, hB⟩
end Go.Proofs.YtjjbmhndakmkbaaGreatDoor
