/- The walk of the reference's Signs: the signs of a text. -/
import Derived.Test.YtjjbmhndakmkbaaDoorSpecW
namespace Go.Proofs.YtjjbmhndakmkbaaDoor
open Go.RowKit
namespace dnw
open dnp
set_option linter.unusedVariables false
set_option linter.unusedSimpArgs false
/-- what Signs leaves -/
def SignsE (s : ByteArray) (w : World) (e : Ending) (w' : World) : Prop :=
  Below w.heap.size w w' ∧ match signs s.data.toList with
    | none => e = .returned (.tuple #[.slice none 0 0, .bool false])
    | some L => ∃ ao cap, e = .returned (.tuple #[.slice ao L.length cap, .bool true]) ∧ L.length ≤ cap ∧ OwnS w' w.heap.size (.slice ao L.length cap) L
/-- how far Signs has gone -/
def SgAt (s : ByteArray) (i : Nat) (B : List Sg) : Prop := signs s.data.toList = (signs (s.data.toList.drop i)).map (B ++ ·)
theorem sgAt_bare {s : ByteArray} {i : Nat} {B : List Sg} (h : SgAt s i B) (hi : i < s.size) (hc : s[i] ≠ 92) : SgAt s (i + 1) (B ++ [(s[i], true)]) := by
  unfold SgAt at *
  rw [drop_cons s i hi, signs_bare _ _ hc, Option.map_map] at h
  rw [h]
  congr 1
  funext p
  simp
theorem sgAt_esc {s : ByteArray} {i n : Nat} {d : UInt8} {B : List Sg} (h : SgAt s i B) (hi : i < s.size) (hc : s[i] = 92) (he : esc (s.data.toList.drop (i + 1)) = some (d, n)) : SgAt s (i + 1 + n) (B ++ [(d, false)]) := by
  unfold SgAt at *
  rw [drop_cons s i hi, hc, signs_esc _ _ _ he, Option.map_map, List.drop_drop] at h
  rw [h]
  congr 1
  funext p
  simp
theorem sgAt_none {s : ByteArray} {i : Nat} {B : List Sg} (h : SgAt s i B) (hi : i < s.size) (hc : s[i] = 92) (he : esc (s.data.toList.drop (i + 1)) = none) : signs s.data.toList = none := by
  unfold SgAt at h
  rw [drop_cons s i hi, hc, signs_bad _ he] at h
  rw [h]; rfl
theorem sgAt_end {s : ByteArray} {B : List Sg} (h : SgAt s s.size B) : signs s.data.toList = some B := by
  unfold SgAt at h
  rw [drop_end, signs_nil] at h
  simpa using h
theorem ownS_letters {w : World} {B : Nat} {v : Value} {l : List Sg} (h : OwnS w B v l) : ∃ (ao : Option Addr) (m cap : Nat), v = .slice ao m cap ∧ Hid (m = l.length) ∧ m ≤ cap := by
  obtain ⟨ao, cap, h1, h2⟩ := kt.segX_slice h
  exact ⟨ao, _, cap, h1, rfl, h2⟩
set_option maxRecDepth 100000 in
set_option maxHeartbeats 4000000 in
theorem signs_any (s : ByteArray) (w : World) (hs : s.size ≤ 1000) : Calls Tryd.prog 23 #[.string s] w fun e w' => SignsE s w e w' := by
  go_enter Tryd.func23, Tryd.ntmps23
  go_wp2_with fail
  go_loopw [4, 5] (fun lv iv wr => ∃ (i : Nat) (B : List Sg), i ≤ s.size ∧ iv = .int .i64 (i : Int) ∧ Hid (OwnS wr w.heap.size lv B) ∧ B.length ≤ i ∧ Hid (SgAt s i B) ∧ Below w.heap.size w wr) (fun _ iv _ => s.size - (intOf iv).toNat)
  case atStart =>
    refine ⟨0, [], Nat.zero_le _, rfl, ?_, Nat.zero_le _, by show signs _ = _; simp, (Below.refl _ _).alloc (Nat.le_refl _) _⟩
    exact kt.segX_of_row (World.ownsRow_made _ #[] 0 (Nat.le_refl _) (by unfold maxLen; omega) rfl)
  case round =>
    obtain ⟨i, B, hi, rfl, hO, hBl, hA, hB⟩ := hrel
    obtain ⟨ao, m, cap, rfl, hm, hmc⟩ := ownS_letters hO.out
    have hsz := hB.size
    by_cases hlt : i < s.size
    · have hlt' : (i : Int) < (s.size : Int) := by omega
      by_cases h92 : ((s[i]'hlt).toNat : Int) = 92
      · have q1 : (((s[i]'hlt).toNat : Int) == 92) = true := by rw [beq_iff_eq]; exact h92
        have q2 : (((s[i]'hlt).toNat : Int) != 92) = false := by rw [bne_eq_false_iff_eq]; exact h92
        have h92' := Lib.hid (u8_eq (n := 92) (by omega) h92)
        clear h92
        by_cases h1 : i + 1 < s.size
        · have h1' : (i : Int) + 1 < (s.size : Int) := by omega
          have hdc := drop_cons s (i + 1) h1
          have CS : Hid (∀ W, Calls Tryd.prog 31 #[.int .u8 ((s[i + 1]'h1).toNat : Int)] W fun e w' => e = .returned (.bool (special (s[i + 1]'h1))) ∧ W = w') := fun W => special_any _ W
          by_cases hp : plainEsc (s[i + 1]'h1)
          · have HA : Hid (SgAt s (i + 1 + 1) (B ++ [(s[i + 1]'h1, false)])) := sgAt_esc hA.out hlt h92'.out (by rw [hdc]; exact esc_plain hp)
            obtain ⟨v', w1, hap, hO1, hB1⟩ := ownS_app (s[i + 1]'h1, false) hO.out (by omega) hsz
            dsimp only at hap
            have HO1 := Lib.hid hO1
            have HB1 := Lib.hid (hB.trans hB1)
            have hp3 : special (s[i + 1]'h1) = true ∨ (special (s[i + 1]'h1) = false ∧ ((s[i + 1]'h1).toNat : Int) = 35) ∨ (special (s[i + 1]'h1) = false ∧ ((s[i + 1]'h1).toNat : Int) = 32) := by
              unfold plainEsc at hp
              cases hsp : special (s[i + 1]'h1) with
              | true => exact Or.inl rfl
              | false =>
                rw [hsp] at hp
                rcases hp with hp | hp | hp
                · cases hp
                · exact Or.inr (Or.inl ⟨rfl, by rw [hp]; rfl⟩)
                · exact Or.inr (Or.inr ⟨rfl, by rw [hp]; rfl⟩)
            clear hO1 hB1 hp hdc
            rcases hp3 with h | ⟨h, h35⟩ | ⟨h, h32⟩
            · rw [h] at CS
              clear h
              go_wp2_with fail
              refine (CS.out _).mono ?_
              rintro e w2 ⟨rfl, rfl⟩
              go_wp2_with (at_builtin; refine Lib.wpList_append_run _ rfl _ _ _ _ rfl _ _ rfl rfl _ _ hap ?_)
              go_roundw
              case rel => exact ⟨i + 1 + 1, _, by omega, by go_num, HO1, by simp; omega, HA, HB1.out⟩
              case measure => simp [intOf]; omega
            · rw [h] at CS
              have p1 : (((s[i + 1]'h1).toNat : Int) == 35) = true := by rw [beq_iff_eq]; exact h35
              clear h h35
              go_wp2_with fail
              refine (CS.out _).mono ?_
              rintro e w2 ⟨rfl, rfl⟩
              go_wp2_with (at_builtin; refine Lib.wpList_append_run _ rfl _ _ _ _ rfl _ _ rfl rfl _ _ hap ?_)
              go_roundw
              case rel => exact ⟨i + 1 + 1, _, by omega, by go_num, HO1, by simp; omega, HA, HB1.out⟩
              case measure => simp [intOf]; omega
            · rw [h] at CS
              have p1 : (((s[i + 1]'h1).toNat : Int) == 35) = false := by rw [beq_eq_false_iff_ne]; omega
              have p2 : (((s[i + 1]'h1).toNat : Int) == 32) = true := by rw [beq_iff_eq]; exact h32
              clear h h32
              go_wp2_with fail
              refine (CS.out _).mono ?_
              rintro e w2 ⟨rfl, rfl⟩
              go_wp2_with (at_builtin; refine Lib.wpList_append_run _ rfl _ _ _ _ rfl _ _ rfl rfl _ _ hap ?_)
              go_roundw
              case rel => exact ⟨i + 1 + 1, _, by omega, by go_num, HO1, by simp; omega, HA, HB1.out⟩
              case measure => simp [intOf]; omega
          · have hsp : special (s[i + 1]'h1) = false := by
              cases hsp : special (s[i + 1]'h1) with
              | false => rfl
              | true => exact absurd (Or.inl hsp) hp
            have p1 : (((s[i + 1]'h1).toNat : Int) == 35) = false := by
              rw [beq_eq_false_iff_ne]
              exact fun e => hp (Or.inr (Or.inl (u8_eq (n := 35) (by omega) e)))
            have p2 : (((s[i + 1]'h1).toNat : Int) == 32) = false := by
              rw [beq_eq_false_iff_ne]
              exact fun e => hp (Or.inr (Or.inr (u8_eq (n := 32) (by omega) e)))
            rw [hsp] at CS
            by_cases h2 : i + 2 < s.size
            · have h2' : ¬ (s.size : Int) ≤ (i : Int) + 2 := by omega
              have h2i : (i : Int) + 2 < (s.size : Int) := by omega
              have hdc2 := drop_cons s (i + 2) h2
              have CV1 : Hid (∀ W, Calls Tryd.prog 38 #[.int .u8 ((s[i + 1]'h1).toNat : Int)] W fun e w' => e = .returned (.int .i64 (b64p.valI (s[i + 1]'h1))) ∧ W = w') := fun W => Go.Proofs.YtjjbmhndakmkbaaDoor.value_any _ W
              have CV2 : Hid (∀ W, Calls Tryd.prog 38 #[.int .u8 ((s[i + 2]'h2).toNat : Int)] W fun e w' => e = .returned (.int .i64 (b64p.valI (s[i + 2]'h2))) ∧ W = w') := fun W => Go.Proofs.YtjjbmhndakmkbaaDoor.value_any _ W
              by_cases ha : b64p.valI (s[i + 1]'h1) < 0
              · have HE : Hid (signs s.data.toList = none) := sgAt_none hA.out hlt h92'.out (by rw [hdc, hdc2]; exact esc_nohex hp (Or.inl ha))
                generalize b64p.valI (s[i + 1]'h1) = va at CV1 ha
                clear hsp hp hdc hdc2
                go_wp2_with fail
                refine (CS.out _).mono ?_
                rintro e w2 ⟨rfl, rfl⟩
                go_wp2_with fail
                refine (CV1.out _).mono ?_
                rintro e w2 ⟨rfl, rfl⟩
                go_wp2_with fail
                go_ret2
                refine ⟨hB, ?_⟩
                rw [HE.out]
                rfl
              · have hva := b64p.valI_le (s[i + 1]'h1)
                by_cases hb : b64p.valI (s[i + 2]'h2) < 0
                · have HE : Hid (signs s.data.toList = none) := sgAt_none hA.out hlt h92'.out (by rw [hdc, hdc2]; exact esc_nohex hp (Or.inr hb))
                  generalize b64p.valI (s[i + 1]'h1) = va at CV1 ha hva
                  generalize b64p.valI (s[i + 2]'h2) = vb at CV2 hb
                  clear hsp hp hdc hdc2 hva
                  go_wp2_with fail
                  refine (CS.out _).mono ?_
                  rintro e w2 ⟨rfl, rfl⟩
                  go_wp2_with fail
                  refine (CV1.out _).mono ?_
                  rintro e w2 ⟨rfl, rfl⟩
                  go_wp2_with fail
                  refine (CV2.out _).mono ?_
                  rintro e w2 ⟨rfl, rfl⟩
                  go_wp2_with fail
                  go_ret2
                  refine ⟨hB, ?_⟩
                  rw [HE.out]
                  rfl
                · have hvb := b64p.valI_le (s[i + 2]'h2)
                  have HA := sgAt_esc hA.out hlt h92'.out (by rw [hdc, hdc2]; exact esc_hex hp (by omega))
                  generalize b64p.valI (s[i + 1]'h1) = va at CV1 ha hva HA
                  generalize b64p.valI (s[i + 2]'h2) = vb at CV2 hb hvb HA
                  obtain ⟨A, rfl⟩ := Int.eq_ofNat_of_zero_le (show 0 ≤ va by omega)
                  obtain ⟨C, rfl⟩ := Int.eq_ofNat_of_zero_le (show 0 ≤ vb by omega)
                  obtain ⟨m, hm⟩ : ∃ m : UInt8, m = UInt8.ofNat (16 * (A : Int) + (C : Int)).toNat := ⟨_, rfl⟩
                  rw [← hm] at HA
                  have em : (m.toNat : Int) = 16 * A + C := by
                    rw [hm, UInt8.toNat_ofNat']
                    omega
                  have HA := Lib.hid HA
                  obtain ⟨v', w1, hap, hO1, hB1⟩ := ownS_app (w := wr.drew) (m, false) (ownS_below hO.out (Below.refl _ _).drew) (by omega) hsz
                  obtain ⟨ao9, m9, cap9, rfl, hm9, hc9⟩ := ownS_letters hO1
                  dsimp only at hap
                  rw [em] at hap
                  have HO1 := Lib.hid hO1
                  have HB1 := Lib.hid (hB.drew.trans hB1)
                  clear hO1 hB1 hsp hp hdc hdc2 hm em
                  have k1 : (0 : Int) ≤ (A : Int) := by omega
                  have z1 : (0 : Int) ≤ (i : Int) + 1 := by omega
                  have z2 : (0 : Int) ≤ (i : Int) + 2 := by omega
                  have y1 : IntKind.i64.wrap ((i : Int) + 1) = (i : Int) + 1 := IntWalk.i64_in _ (by omega)
                  have y2 : IntKind.i64.wrap ((i : Int) + 2) = (i : Int) + 2 := IntWalk.i64_in _ (by omega)
                  have y3 : ((i : Int) + 1).toNat = i + 1 := by omega
                  have y4 : ((i : Int) + 2).toNat = i + 2 := by omega
                  have k2 : (0 : Int) ≤ (C : Int) := by omega
                  have k3 : (A : Int) ≤ 15 := by omega
                  have k4 : (C : Int) ≤ 15 := by omega
                  clear hva hvb ha hb
                  have r1 : IntKind.i64.wrap (16 * (A : Int)) = 16 * (A : Int) := IntWalk.i64_in _ (by omega)
                  have r2 : IntKind.i64.wrap (16 * (A : Int) + (C : Int)) = 16 * (A : Int) + (C : Int) := IntWalk.i64_in _ (by omega)
                  have r3 : (16 * (A : Int) + (C : Int)) % 256 = 16 * (A : Int) + (C : Int) := by omega
                  have r4 : IntKind.u8.wrap (16 * (A : Int) + (C : Int)) = 16 * (A : Int) + (C : Int) := by rw [IntKind.wrap_u8]; omega
                  have m1 : ¬ (A : Int) < 0 := by omega
                  have m2 : ¬ (C : Int) < 0 := by omega
                  obtain ⟨n1, en1⟩ : ∃ n : Nat, (s[i + 1]'h1).toNat = n := ⟨_, rfl⟩
                  obtain ⟨n2, en2⟩ : ∃ n : Nat, (s[i + 2]'h2).toNat = n := ⟨_, rfl⟩
                  rw [en1] at CS CV1 p1 p2
                  rw [en2] at CV2
                  go_wp2_with fail
                  refine (CS.out _).mono ?_
                  rintro e w2 ⟨rfl, rfl⟩
                  go_wp2_with fail
                  refine (CV1.out _).mono ?_
                  rintro e w2 ⟨rfl, rfl⟩
                  go_wp2_with fail
                  refine (CV2.out _).mono ?_
                  rintro e w2 ⟨rfl, rfl⟩
                  go_wp2_with fail
                  go_region_held3 (fun _ => True) (trivial)
                    (first | (go_at_call_of 38 (Value.int IntKind.u8 (n1 : Int)); refine (CV1.out _).mono ?_; rintro e w' ⟨rfl, rfl⟩) | (go_at_call_of 38 (Value.int IntKind.u8 (n2 : Int)); refine (CV2.out _).mono ?_; rintro e w' ⟨rfl, rfl⟩) | (refine kt.step_append_run rfl _ _ _ _ rfl _ _ rfl rfl _ _ hap ?_))
                  all_goals
                    go_wp2_with fail
                    go_roundw
                    case rel => exact ⟨i + 1 + 2, _, by omega, by go_num, HO1, by simp; omega, HA, HB1.out⟩
                    case measure => simp [intOf]; omega
            · have h2' : (s.size : Int) ≤ (i : Int) + 2 := by omega
              have HE : Hid (signs s.data.toList = none) := sgAt_none hA.out hlt h92'.out (by rw [hdc, List.drop_of_length_le (by simp; omega)]; exact esc_one hp)
              clear hsp hp hdc
              go_wp2_with fail
              refine (CS.out _).mono ?_
              rintro e w2 ⟨rfl, rfl⟩
              go_wp2_with fail
              go_ret2
              refine ⟨hB, ?_⟩
              rw [HE.out]
              rfl
        · have h1' : ¬ (i : Int) + 1 < (s.size : Int) := by omega
          have h2' : (s.size : Int) ≤ (i : Int) + 2 := by omega
          have HE : Hid (signs s.data.toList = none) := sgAt_none hA.out hlt h92'.out (by rw [List.drop_of_length_le (by simp; omega)]; rfl)
          go_wp2_with fail
          go_ret2
          refine ⟨hB, ?_⟩
          rw [HE.out]
          rfl
      · have q1 : (((s[i]'hlt).toNat : Int) == 92) = false := by rw [beq_eq_false_iff_ne]; exact h92
        have q2 : (((s[i]'hlt).toNat : Int) != 92) = true := by rw [bne_iff_ne]; exact h92
        obtain ⟨v', w1, hap, hO1, hB1⟩ := ownS_app (s[i]'hlt, true) hO.out (by omega) hsz
        dsimp only at hap
        have HA := Lib.hid (sgAt_bare hA.out hlt (u8_ne (n := 92) (by omega) h92))
        have HO1 := Lib.hid hO1
        have HB1 := Lib.hid (hB.trans hB1)
        clear h92 hO1 hB1
        go_wp2_with (at_builtin; refine Lib.wpList_append_run _ rfl _ _ _ _ rfl _ _ rfl rfl _ _ hap ?_)
        go_roundw
        case rel => exact ⟨i + 1, _, by omega, by go_num, HO1, by simp; omega, HA, HB1.out⟩
        case measure => simp [intOf]; omega
    · obtain rfl : i = s.size := by omega
      have HE := Lib.hid (sgAt_end hA.out)
      go_wp2_with fail
      go_ret2
      refine ⟨hB, ?_⟩
      rw [HE.out]
      have hmm := hm.out
      subst hmm
      exact ⟨ao, cap, rfl, hmc, hO.out⟩
end dnw
end Go.Proofs.YtjjbmhndakmkbaaDoor
