/- The walk of the reference's Unhex, and of the law B64Hexes. -/
import Derived.Test.YtjkhplpjmiclhaaHexes2
namespace Go.Proofs.Ytjkhplpjmiclhaa
open Go.RowKit

set_option maxHeartbeats 2000000 in
theorem runhex_any (s : ByteArray) (w : World) (hs : s.size ≤ 10000) :
    Calls Try.prog 11 #[.string s] w (UhRes (b64p.unhex s.data.toList) w) := by
  go_enter Try.func11, Try.ntmps11
  go_wp2_with fail
  go_loopw [4, 5] (fun bv iv wr => ∃ (i : Nat) (d : List UInt8), i ≤ s.size ∧ d.length ≤ i ∧ iv = .int .i64 i ∧ Hid (wr.ownsRow w.heap.size 5 1 bv (Lib.byteCells d).length (Lib.byteCells d)) ∧ Hid (b64p.unhex s.data.toList = (b64p.unhex (s.data.toList.drop i)).map (d ++ ·)) ∧ Below w.heap.size w wr) (fun _ iv _ => s.size - (intOf iv).toNat)
  case atStart => exact ⟨0, [], Nat.zero_le _, by simp, rfl, emptyRow w _, by show _ = _; simp, (Below.refl _ _).alloc (Nat.le_refl _) _⟩
  case round =>
    obtain ⟨i, d, hi, hd, rfl, hO, hU, hB⟩ := hrel
    have hsz := hB.size
    by_cases hlt : i < s.size
    · by_cases hi1 : i + 1 < s.size
      · have hstep := b64p.unhex_step s.data.toList i (by rw [kt.size_len]; exact hi1)
        have g1 : s.data.toList[i]'(by rw [kt.size_len]; exact hlt) = s[i] := rfl
        have g2 : s.data.toList[i + 1]'(by rw [kt.size_len]; exact hi1) = s[i + 1] := rfl
        rw [g1, g2] at hstep
        have hstep' := Lib.hid hstep
        clear hstep g1 g2
        obtain ⟨a, ha⟩ : ∃ a : Int, Hid (a = b64p.valI s[i]) := ⟨b64p.valI s[i], rfl⟩
        obtain ⟨b, hb⟩ : ∃ b : Int, Hid (b = b64p.valI s[i + 1]) := ⟨b64p.valI s[i + 1], rfl⟩
        have va : -1 ≤ a ∧ a ≤ 15 := by rw [ha.out]; exact b64p.valI_le _
        have vb : -1 ≤ b ∧ b ≤ 15 := by rw [hb.out]; exact b64p.valI_le _
        obtain ⟨va1, va2⟩ := va
        obtain ⟨vb1, vb2⟩ := vb
        obtain ⟨n1, en1⟩ : ∃ n : Nat, s[i].toNat = n := ⟨_, rfl⟩
        obtain ⟨n2, en2⟩ : ∃ n : Nat, s[i + 1].toNat = n := ⟨_, rfl⟩
        have DA : Hid (∀ W : World, Calls Try.prog 20 #[.int .u8 (n1 : Int)] W fun e w' => e = .returned (.int .i64 a) ∧ W = w') := by
          intro W; rw [ha.out, ← en1]; exact value_any _ W
        have DB : Hid (∀ W : World, Calls Try.prog 20 #[.int .u8 (n2 : Int)] W fun e w' => e = .returned (.int .i64 b) ∧ W = w') := by
          intro W; rw [hb.out, ← en2]; exact value_any _ W
        have f1 : (0 : Int) ≤ (i : Int) := by omega
        have f2 : (i : Int) < (s.size : Int) := by omega
        have f3 : (0 : Int) ≤ (i : Int) + 1 := by omega
        have f4 : (i : Int) + 1 < (s.size : Int) := by omega
        have f5 : IntKind.i64.wrap ((i : Int) + 1) = (i : Int) + 1 := IntWalk.i64_in _ (by omega)
        have f6 : ((i : Int) + 1).toNat = i + 1 := by omega
        by_cases hneg : a < 0 ∨ b < 0
        · have hnone : b64p.unhex s.data.toList = none := by
            rw [hU.out, hstep'.out, if_pos (by rw [← ha.out, ← hb.out]; exact hneg)]; rfl
          have HN := Lib.hid hnone
          clear hnone
          by_cases ha0 : a < 0
          · clear hneg
            go_wp2_with fail
            refine (DA.out _).mono ?_
            rintro e w' ⟨rfl, rfl⟩
            go_wp2_with fail
            go_ret2
            exact ⟨by rw [HN.out]; rfl, hB⟩
          · have hb0 : b < 0 := by omega
            clear hneg
            go_wp2_with fail
            refine (DA.out _).mono ?_
            rintro e w' ⟨rfl, rfl⟩
            go_wp2_with fail
            refine (DB.out _).mono ?_
            rintro e w' ⟨rfl, rfl⟩
            go_wp2_with fail
            go_ret2
            exact ⟨by rw [HN.out]; rfl, hB⟩
        · have ha0 : 0 ≤ a := by omega
          have hb0 : 0 ≤ b := by omega
          have hsome : b64p.unhex s.data.toList = (b64p.unhex (s.data.toList.drop (i + 2))).map ((d ++ [UInt8.ofNat (16 * a + b).toNat]) ++ ·) := by
            rw [hU.out, hstep'.out, if_neg (by rw [← ha.out, ← hb.out]; exact hneg), ← ha.out, ← hb.out, Option.map_map]
            congr 1
            funext x
            simp
          have HS := Lib.hid hsome
          clear hsome hneg
          obtain ⟨m, hm⟩ : ∃ m : UInt8, Hid (m = UInt8.ofNat (16 * a + b).toNat) := ⟨_, rfl⟩
          have em : (m.toNat : Int) = 16 * a + b := by
            rw [hm.out, UInt8.toNat_ofNat']
            omega
          have r1 : IntKind.i64.wrap (16 * a) = 16 * a := IntWalk.i64_in _ (by omega)
          have r2 : IntKind.i64.wrap (16 * a + b) = (m.toNat : Int) := by rw [IntWalk.i64_in _ (by omega), em]
          have r3 : IntKind.u8.wrap (m.toNat : Int) = (m.toNat : Int) := by rw [IntKind.wrap_u8']; have := m.toNat_lt; omega
          obtain ⟨v', w1, hap, hO1, hg1, hB1⟩ := kt.app1 (P := Try.prog) (ty := 32) (w := wr.drew) Try.underlying32 bld.infoByte rfl (.int .u8 (m.toNat : Int)) rfl hO.out (by rw [Lib.byteCells_length]; unfold maxLen; omega) (by rw [Lib.byteCells_length]; omega) hsz
          have HO1 := Lib.hid hO1
          have HG1 := Lib.hid hg1
          have EM := Lib.hid em
          clear hO1 hg1 em
          go_wp2_with fail
          refine (DA.out _).mono ?_
          rintro e w' ⟨rfl, rfl⟩
          go_wp2_with fail
          refine (DB.out _).mono ?_
          rintro e w' ⟨rfl, rfl⟩
          go_wp2_with fail
          go_region_held3 (fun _ => True) (trivial)
            (first | (go_at_call_of 20 (Value.int IntKind.u8 (n1 : Int)); refine (DA.out _).mono ?_; rintro e w' ⟨rfl, rfl⟩) | (go_at_call_of 20 (Value.int IntKind.u8 (n2 : Int)); refine (DB.out _).mono ?_; rintro e w' ⟨rfl, rfl⟩) | (refine kt.step_append_run rfl _ _ _ _ rfl _ _ rfl rfl _ _ hap ?_))
          all_goals
            go_wp2_with fail
            go_roundw
            case rel =>
              refine ⟨i + 2, d ++ [m], by omega, by simp; omega, by go_num, ?_, ?_, hB.drew.trans hB1⟩
              · show World.ownsRow _ _ _ _ _ _ _
                rw [Lib.byteCells_append]
                exact HO1.out
              · show _ = _
                rw [hm.out]
                exact HS.out
            case measure => simp [intOf]; omega
      · have hnone : b64p.unhex s.data.toList = none := by
          rw [hU.out, b64p.unhex_last _ i (by rw [kt.size_len]; omega)]; rfl
        have HN := Lib.hid hnone
        clear hnone
        go_wp2_with fail
        go_ret2
        exact ⟨by rw [HN.out]; rfl, hB⟩
    · obtain rfl : i = s.size := by omega
      have hst := kt.str_of_row (P := Try.prog) (dst := 9) Try.underlying32 Try.underlying5 Try.underlying9 hO.out
      have hfin : b64p.unhex s.data.toList = some d := by
        rw [hU.out, List.drop_of_length_le (by simp)]
        simp [b64p.unhex]
      have HF := Lib.hid hfin
      clear hfin
      go_wp2_with fail
      go_ret2
      exact ⟨by rw [HF.out]; rfl, hB⟩

set_option maxHeartbeats 1000000 in
theorem hexes_any (s : ByteArray) (w : World) (hs : s.size ≤ 140737488351232) :
    Calls Try.prog 4 #[.string s] w fun e w' => e = .returned (.bool true) ∧ Below w.heap.size w w' := by
  by_cases hbig : 3000 < s.size
  · have C := Lib.hid (awake_any w)
    go_enter Try.func4, Try.ntmps4
    go_wp2_with fail
    refine C.out.mono ?_
    rintro e w1 ⟨rfl, hB1⟩
    go_wp2_with fail
    go_ret
    exact ⟨rfl, hB1⟩
  · obtain ⟨h, hh⟩ : ∃ h : ByteArray, Hid (h = ⟨(b64p.hex s.data.toList).toArray⟩) := ⟨⟨(b64p.hex s.data.toList).toArray⟩, rfl⟩
    have hhs : h.size ≤ 10000 := by
      have : h.size = (b64p.hex s.data.toList).length := by rw [hh.out]; rfl
      rw [this, b64p.hex_length, kt.size_len]; omega
    have C := Lib.hid (awake_any w)
    have C2 : Hid (∀ w, Calls Try.prog 9 #[.string s] w fun e w' => e = .returned (.string h) ∧ Below w.heap.size w w') := by
      intro w; rw [hh.out]; exact hex_any s w (by omega)
    have C3 : Hid (∀ w, Calls Try.prog 12 #[.string s] w fun e w' => e = .returned (.string h) ∧ Below w.heap.size w w') := by
      intro w; rw [hh.out]; exact rhex_any s w (by omega)
    have C4 : Hid (∀ w, Calls Try.prog 10 #[.string h] w fun e w' => e = .returned (.tuple #[.string s, .int .i64 0]) ∧ Below w.heap.size w w') := by
      intro w
      have := unhex_any h w hhs
      rw [show h.data.toList = b64p.hex s.data.toList from by rw [hh.out], b64p.unhex_hex] at this
      have e : b64p.uhV (some s.data.toList) = .tuple #[.string s, .int .i64 0] := rfl
      unfold UhRes at this
      rw [e] at this
      exact this
    obtain ⟨t, n, ht⟩ : ∃ (t : ByteArray) (n : Int), Hid (b64p.uhV (b64p.unhex s.data.toList) = .tuple #[.string t, .int .i64 n]) := by
      cases b64p.unhex s.data.toList with
      | none => exact ⟨_, _, rfl⟩
      | some l => exact ⟨_, _, rfl⟩
    have C5 : Hid (∀ w, Calls Try.prog 10 #[.string s] w fun e w' => e = .returned (.tuple #[.string t, .int .i64 n]) ∧ Below w.heap.size w w') := by
      intro w; rw [← ht.out]; exact unhex_any s w (by omega)
    have C6 : Hid (∀ w, Calls Try.prog 11 #[.string s] w fun e w' => e = .returned (.tuple #[.string t, .int .i64 n]) ∧ Below w.heap.size w w') := by
      intro w; rw [← ht.out]; exact runhex_any s w (by omega)
    go_enter Try.func4, Try.ntmps4
    go_wp2_with fail
    refine C.out.mono ?_
    rintro e w1 ⟨rfl, hB1⟩
    go_wp2_with fail
    refine (C2.out _).mono ?_
    rintro e w2 ⟨rfl, hB2⟩
    go_wp2_with fail
    refine (C4.out _).mono ?_
    rintro e w3 ⟨rfl, hB3⟩
    go_wp2_with fail
    refine (C5.out _).mono ?_
    rintro e w4 ⟨rfl, hB4⟩
    go_wp2_with fail
    refine (C6.out _).mono ?_
    rintro e w5 ⟨rfl, hB5⟩
    go_wp2_with fail
    refine (C3.out _).mono ?_
    rintro e w6 ⟨rfl, hB6⟩
    have z1 := hB1.size
    have z2 := hB2.size
    have z3 := hB3.size
    have z4 := hB4.size
    have z5 := hB5.size
    go_wp2_with fail
    go_ret
    exact ⟨kt.ret_bool (by simp), hB1.trans ((hB2.mono (by omega)).trans ((hB3.mono (by omega)).trans ((hB4.mono (by omega)).trans ((hB5.mono (by omega)).trans (hB6.mono (by omega))))))⟩
end Go.Proofs.Ytjkhplpjmiclhaa
