/- One text out of several: OneW, B64P, DnP. -/
import Derived.Test.YtckpiaigoeicfaaGreatDoorB1
import Derived.Deep.DeepCutAuto
import Derived.Lib.Hide
/-! OneW -/
namespace Go.Proofs.YtckpiaigoeicfaaGreatDoor
open Go.RowKit
namespace prw
open run prp
set_option linter.unusedVariables false
set_option linter.unusedSimpArgs false
/-- one rune, as the walk hands it back -/
def oneV (l : List UInt8) : Ending := .returned (.tuple #[.int .i64 ((oneL l).1 : Int), .int .i64 ((oneL l).2 : Int)])
theorem ret_ii {a b c d : Int} (h : a = c) (h2 : b = d) : Ending.returned (.tuple #[.int .i64 a, .int .i64 b]) = .returned (.tuple #[.int .i64 c, .int .i64 d]) := by rw [h, h2]
theorem nth_at (s : ByteArray) (i k : Nat) (h : i + k < s.size) : nth (s.data.toList.drop i) k = (s[i + k]'h).toNat := by
  rw [← get_nth]
  have : s.get! (i + k) = s.data[i + k]! := rfl
  rw [this, getElem!_pos s.data (i + k) h]; rfl
theorem drop_len (s : ByteArray) (i : Nat) : (s.data.toList.drop i).length = s.size - i := by simp
def finI (v low n : Int) : Int × Int := if v < low ∨ 1114111 < v ∨ (55296 ≤ v ∧ v ≤ 57343) then (0, 0) else (v, n)
/-- what is left to do behind the first byte: f rounds -/
def restI (l : List UInt8) (n low : Int) : Nat → Nat → Int → Int × Int
  | 0, _, v => finI v low n
  | f + 1, k, v => if (nth l k : Int) < 128 ∨ 191 < (nth l k : Int) then (0, 0) else restI l n low f (k + 1) (v * 64 + (nth l k : Int) - 128)
/-- what the first byte says -/
def Cls (c n v low : Int) : Prop :=
  (194 ≤ c ∧ c < 224 ∧ n = 2 ∧ v = c - 192 ∧ low = 128) ∨ (224 ≤ c ∧ c < 240 ∧ n = 3 ∧ v = c - 224 ∧ low = 2048) ∨ (240 ≤ c ∧ c < 245 ∧ n = 4 ∧ v = c - 240 ∧ low = 65536) ∨ ((c < 194 ∨ 245 ≤ c) ∧ n = 0 ∧ v = 0 ∧ low = 0)
def oneI (l : List UInt8) (p : Int × Int) : Prop := oneV l = .returned (.tuple #[.int .i64 p.1, .int .i64 p.2])
theorem oneI_of {l : List UInt8} {p : Nat × Nat} (h : oneL l = p) (q : Int × Int) (h1 : q.1 = (p.1 : Int)) (h2 : q.2 = (p.2 : Int)) : oneI l q := by
  unfold oneI oneV; rw [h, h1, h2]
theorem cls_none {l : List UInt8} {c v low : Int} (h : Cls c 0 v low) (hc : c = (nth l 0 : Int)) (h1 : 128 ≤ c) : oneI l (0, 0) := by
  refine oneI_of (p := (0, 0)) ?_ _ rfl rfl
  unfold Cls at h
  unfold oneL oneR
  rw [if_neg (by omega), if_neg (by omega), if_neg (by omega), if_neg (by omega)]
theorem cls_short {l : List UInt8} {c n v low : Int} (h : Cls c n v low) (hc : c = (nth l 0 : Int)) (h1 : 128 ≤ c) (hn : (l.length : Int) < n) : oneI l (0, 0) := by
  refine oneI_of (p := (0, 0)) ?_ _ rfl rfl
  unfold Cls at h
  unfold oneL oneR
  rw [if_neg (by omega)]
  rcases h with h | h | h | h
  · rw [if_pos (by omega), if_neg (by omega)]
  · rw [if_neg (by omega), if_pos (by omega), if_neg (by omega)]
  · rw [if_neg (by omega), if_neg (by omega), if_pos (by omega), if_neg (by omega)]
  · omega
theorem finI_fin (V low n : Nat) : finI V low n = (((fin V low n).1 : Int), ((fin V low n).2 : Int)) := by
  unfold finI fin
  by_cases h : V < low ∨ 1114111 < V ∨ (55296 ≤ V ∧ V ≤ 57343)
  · rw [if_pos h, if_pos (by omega)]; rfl
  · rw [if_neg h, if_neg (by omega)]
set_option maxHeartbeats 1100000 in
theorem cls_rest {l : List UInt8} {c n v low : Int} (h : Cls c n v low) (hc : c = (nth l 0 : Int)) (h1 : 128 ≤ c) (hn : n ≤ (l.length : Int)) (h0 : n ≠ 0) : oneI l (restI l n low (n.toNat - 1) 1 v) := by
  unfold Cls at h
  rcases h with ⟨a1, a2, rfl, rfl, rfl⟩ | ⟨a1, a2, rfl, rfl, rfl⟩ | ⟨a1, a2, rfl, rfl, rfl⟩ | h
  · show oneI l (if (nth l 1 : Int) < 128 ∨ 191 < (nth l 1 : Int) then (0, 0) else finI ((c - 192) * 64 + (nth l 1 : Int) - 128) 128 2)
    by_cases d1 : cont (nth l 1)
    · unfold cont at d1
      rw [if_neg (by omega)]
      rw [show (c - 192) * 64 + (nth l 1 : Int) - 128 = (((nth l 0 - 192) * 64 + (nth l 1 - 128) : Nat) : Int) from by omega]
      refine oneI_of (p := fin ((nth l 0 - 192) * 64 + (nth l 1 - 128)) 128 2) ?_ _ (by rw [show (128 : Int) = ((128 : Nat) : Int) from rfl, show (2 : Int) = ((2 : Nat) : Int) from rfl, finI_fin]) (by rw [show (128 : Int) = ((128 : Nat) : Int) from rfl, show (2 : Int) = ((2 : Nat) : Int) from rfl, finI_fin])
      unfold oneL oneR cont
      rw [if_neg (by omega), if_pos (by omega), if_pos (by omega)]
    · rw [if_pos (by unfold cont at d1; omega)]
      refine oneI_of (p := (0, 0)) ?_ _ rfl rfl
      unfold oneL oneR
      rw [if_neg (by omega), if_pos (by omega), if_neg (by rintro ⟨_, g⟩; exact d1 g)]
  · show oneI l (if (nth l 1 : Int) < 128 ∨ 191 < (nth l 1 : Int) then (0, 0) else if (nth l 2 : Int) < 128 ∨ 191 < (nth l 2 : Int) then (0, 0) else finI (((c - 224) * 64 + (nth l 1 : Int) - 128) * 64 + (nth l 2 : Int) - 128) 2048 3)
    by_cases d : cont (nth l 1) ∧ cont (nth l 2)
    · unfold cont at d
      rw [if_neg (by omega), if_neg (by omega)]
      rw [show ((c - 224) * 64 + (nth l 1 : Int) - 128) * 64 + (nth l 2 : Int) - 128 = ((((nth l 0 - 224) * 64 + (nth l 1 - 128)) * 64 + (nth l 2 - 128) : Nat) : Int) from by omega]
      refine oneI_of (p := fin (((nth l 0 - 224) * 64 + (nth l 1 - 128)) * 64 + (nth l 2 - 128)) 2048 3) ?_ _ (by rw [show (2048 : Int) = ((2048 : Nat) : Int) from rfl, show (3 : Int) = ((3 : Nat) : Int) from rfl, finI_fin]) (by rw [show (2048 : Int) = ((2048 : Nat) : Int) from rfl, show (3 : Int) = ((3 : Nat) : Int) from rfl, finI_fin])
      unfold oneL oneR cont
      rw [if_neg (by omega), if_neg (by omega), if_pos (by omega), if_pos (by omega)]
    · have e : (if (nth l 1 : Int) < 128 ∨ 191 < (nth l 1 : Int) then ((0, 0) : Int × Int) else if (nth l 2 : Int) < 128 ∨ 191 < (nth l 2 : Int) then (0, 0) else finI (((c - 224) * 64 + (nth l 1 : Int) - 128) * 64 + (nth l 2 : Int) - 128) 2048 3) = (0, 0) := by
        unfold cont at d
        by_cases d1 : (nth l 1 : Int) < 128 ∨ 191 < (nth l 1 : Int)
        · rw [if_pos d1]
        · rw [if_neg d1, if_pos (by omega)]
      rw [e]
      refine oneI_of (p := (0, 0)) ?_ _ rfl rfl
      unfold oneL oneR
      rw [if_neg (by omega), if_neg (by omega), if_pos (by omega), if_neg (by rintro ⟨_, g⟩; exact d g)]
  · show oneI l (if (nth l 1 : Int) < 128 ∨ 191 < (nth l 1 : Int) then (0, 0) else if (nth l 2 : Int) < 128 ∨ 191 < (nth l 2 : Int) then (0, 0) else if (nth l 3 : Int) < 128 ∨ 191 < (nth l 3 : Int) then (0, 0) else finI ((((c - 240) * 64 + (nth l 1 : Int) - 128) * 64 + (nth l 2 : Int) - 128) * 64 + (nth l 3 : Int) - 128) 65536 4)
    by_cases d : cont (nth l 1) ∧ cont (nth l 2) ∧ cont (nth l 3)
    · unfold cont at d
      rw [if_neg (by omega), if_neg (by omega), if_neg (by omega)]
      rw [show (((c - 240) * 64 + (nth l 1 : Int) - 128) * 64 + (nth l 2 : Int) - 128) * 64 + (nth l 3 : Int) - 128 = (((((nth l 0 - 240) * 64 + (nth l 1 - 128)) * 64 + (nth l 2 - 128)) * 64 + (nth l 3 - 128) : Nat) : Int) from by omega]
      refine oneI_of (p := fin ((((nth l 0 - 240) * 64 + (nth l 1 - 128)) * 64 + (nth l 2 - 128)) * 64 + (nth l 3 - 128)) 65536 4) ?_ _ (by rw [show (65536 : Int) = ((65536 : Nat) : Int) from rfl, show (4 : Int) = ((4 : Nat) : Int) from rfl, finI_fin]) (by rw [show (65536 : Int) = ((65536 : Nat) : Int) from rfl, show (4 : Int) = ((4 : Nat) : Int) from rfl, finI_fin])
      unfold oneL oneR cont
      rw [if_neg (by omega), if_neg (by omega), if_neg (by omega), if_pos (by omega), if_pos (by omega)]
    · have e : (if (nth l 1 : Int) < 128 ∨ 191 < (nth l 1 : Int) then ((0, 0) : Int × Int) else if (nth l 2 : Int) < 128 ∨ 191 < (nth l 2 : Int) then (0, 0) else if (nth l 3 : Int) < 128 ∨ 191 < (nth l 3 : Int) then (0, 0) else finI ((((c - 240) * 64 + (nth l 1 : Int) - 128) * 64 + (nth l 2 : Int) - 128) * 64 + (nth l 3 : Int) - 128) 65536 4) = (0, 0) := by
        unfold cont at d
        by_cases d1 : (nth l 1 : Int) < 128 ∨ 191 < (nth l 1 : Int)
        · rw [if_pos d1]
        · by_cases d2 : (nth l 2 : Int) < 128 ∨ 191 < (nth l 2 : Int)
          · rw [if_neg d1, if_pos d2]
          · rw [if_neg d1, if_neg d2, if_pos (by omega)]
      rw [e]
      refine oneI_of (p := (0, 0)) ?_ _ rfl rfl
      unfold oneL oneR
      rw [if_neg (by omega), if_neg (by omega), if_neg (by omega), if_pos (by omega), if_neg (by rintro ⟨_, g⟩; exact d g)]
  · omega
/-- how great v may be at round k -/
def Vbd (k : Nat) (v : Int) : Prop := 0 ≤ v ∧ ((k = 1 ∧ v < 32) ∨ (k = 2 ∧ v < 2048) ∨ (k = 3 ∧ v < 131072) ∨ (k = 4 ∧ v < 8388608))
theorem restI_stop {l : List UInt8} {n low : Int} {f k : Nat} {v : Int} (h : oneI l (restI l n low (f + 1) k v)) (hd : (nth l k : Int) < 128 ∨ 191 < (nth l k : Int)) : oneI l (0, 0) := by
  have e : restI l n low (f + 1) k v = (0, 0) := if_pos hd
  rw [e] at h; exact h
theorem restI_on {l : List UInt8} {n low : Int} {f k : Nat} {v : Int} (h : oneI l (restI l n low (f + 1) k v)) (hd : ¬ ((nth l k : Int) < 128 ∨ 191 < (nth l k : Int))) : oneI l (restI l n low f (k + 1) (v * 64 + (nth l k : Int) - 128)) := by
  have e : restI l n low (f + 1) k v = restI l n low f (k + 1) (v * 64 + (nth l k : Int) - 128) := if_neg hd
  rw [e] at h; exact h
def BadV (v low : Int) : Prop := v < low ∨ 1114111 < v ∨ (55296 ≤ v ∧ v ≤ 57343)
theorem finI_bad {v low : Int} (n : Int) (hd : BadV v low) : finI v low n = (0, 0) := if_pos hd
theorem finI_ok {v low : Int} (n : Int) (hd : ¬ BadV v low) : finI v low n = (v, n) := if_neg hd
theorem restI_bad {l : List UInt8} {n low : Int} {k : Nat} {v : Int} (h : oneI l (restI l n low 0 k v)) (hd : BadV v low) : oneI l (0, 0) := by
  have e : restI l n low 0 k v = finI v low n := rfl
  rw [e, finI_bad n hd] at h; exact h
theorem restI_ok {l : List UInt8} {n low : Int} {k : Nat} {v : Int} (h : oneI l (restI l n low 0 k v)) (hd : ¬ BadV v low) : oneI l (v, n) := by
  have e : restI l n low 0 k v = finI v low n := rfl
  rw [e, finI_ok n hd] at h; exact h
set_option maxRecDepth 20000 in
set_option maxHeartbeats 4000000 in
theorem one_2 (s : ByteArray) (i : Nat) (w : World) (hi : i < s.size) (hs : s.size ≤ 1100000) (c1 : 194 ≤ ((s[i]'hi).toNat : Int)) (c2 : ((s[i]'hi).toNat : Int) < 224) : Calls Tryz.prog 93 #[.string s, .int .i64 (i : Int)] w fun e w' => e = oneV (s.data.toList.drop i) ∧ w = w' := by
  have E0 : Hid (nth (s.data.toList.drop i) 0 = (s[i]'hi).toNat) := nth_at s i 0 (by omega)
  have LL := drop_len s i
  have c0 : ¬ ((s[i]'hi).toNat : Int) < 128 := by omega
  have HC : Cls ((s[i]'hi).toNat : Int) 2 (((s[i]'hi).toNat : Int) - 192) 128 := by unfold Cls; omega
  by_cases hl : (i : Int) + 2 ≤ (s.size : Int)
  · have hl' : ¬ (s.size : Int) < (i : Int) + 2 := by omega
    have HR : Hid (oneI (s.data.toList.drop i) (restI (s.data.toList.drop i) 2 128 1 1 (((s[i]'hi).toNat : Int) - 192))) := cls_rest HC (by rw [E0.out]) (by omega) (by rw [LL]; omega) (by omega)
    clear LL HC
    go_enter Tryz.func93, Tryz.ntmps93
    go_wp2_with fail
    go_loop [8, 10, 11] (fun vv kv dv => ∃ (k : Nat) (v : Int), vv = .int .i64 v ∧ kv = .int .i64 (k : Int) ∧ 1 ≤ k ∧ k ≤ 2 ∧ Hid (Vbd k v) ∧ Hid (oneI (s.data.toList.drop i) (restI (s.data.toList.drop i) 2 128 (2 - k) k v))) (fun _ kv _ => 2 - (intOf kv).toNat)
    case atStart => exact ⟨1, _, rfl, rfl, by omega, by omega, by show Vbd _ _; unfold Vbd; omega, HR⟩
    case round =>
      obtain ⟨k, v, rfl, rfl, hk1, hk2, HV, HP⟩ := hrel
      by_cases hkn : k < 2
      · have hkn' : (k : Int) < 2 := by omega
        have hik : i + k < s.size := by omega
        have hik' : (i : Int) + (k : Int) < (s.size : Int) := by omega
        have hik0 : 0 ≤ (i : Int) + (k : Int) := by omega
        have EK : Hid (nth (s.data.toList.drop i) k = (s[i + k]'hik).toNat) := nth_at s i k hik
        have g256 : ((s[i + k]'hik).toNat : Int) < 256 := by have := (s[i + k]'hik).toNat_lt; omega
        have d0 : 0 ≤ ((s[i + k]'hik).toNat : Int) := by omega
        have HF : Hid (2 - k = (2 - (k + 1)) + 1) := by show _ = _; omega
        rw [HF.out] at HP
        by_cases hd : ((s[i + k]'hik).toNat : Int) < 128
        · have HE : Hid (oneI (s.data.toList.drop i) (0, 0)) := restI_stop HP.out (by rw [EK.out]; exact Or.inl hd)
          clear HP
          go_wp2_with fail
          go_ret2
          exact ⟨HE.out.symm, rfl⟩
        · by_cases hd2 : 191 < ((s[i + k]'hik).toNat : Int)
          · have HE : Hid (oneI (s.data.toList.drop i) (0, 0)) := restI_stop HP.out (by rw [EK.out]; exact Or.inr hd2)
            clear HP
            go_wp2_with fail
            go_ret2
            exact ⟨HE.out.symm, rfl⟩
          · have HE : Hid (oneI (s.data.toList.drop i) (restI (s.data.toList.drop i) 2 128 (2 - (k + 1)) (k + 1) (v * 64 + ((s[i + k]'hik).toNat : Int) - 128))) := by
              have := restI_on HP.out (by rw [EK.out]; omega)
              rw [EK.out] at this
              exact this
            have v1 : 0 ≤ v := HV.out.1
            have v2 : v < 8388608 := by have := HV.out; unfold Vbd at this; omega
            have HV2 : Hid (Vbd (k + 1) (v * 64 + ((s[i + k]'hik).toNat : Int) - 128)) := by
              have := HV.out
              show Vbd _ _
              unfold Vbd at this ⊢
              omega
            clear HP
            go_wp2_with fail
            go_round
            case rel => exact ⟨k + 1, _, rfl, by go_num, by omega, by omega, HV2, HE⟩
            case measure => simp [intOf]; omega
      · obtain rfl : k = 2 := by omega
        have v1 : 0 ≤ v := HV.out.1
        have v2 : v < 8388608 := by have := HV.out; unfold Vbd at this; omega
        go_wp2_with fail
        all_goals
          go_ret2
          refine ⟨?_, rfl⟩
          first
            | exact (restI_bad HP.out (by unfold BadV; omega)).symm
            | exact (restI_ok HP.out (by unfold BadV; omega)).symm
  · have hl' : (s.size : Int) < (i : Int) + 2 := by omega
    have HE : Hid (oneI (s.data.toList.drop i) (0, 0)) := cls_short HC (by rw [E0.out]) (by omega) (by rw [LL]; omega)
    clear LL HC
    go_enter Tryz.func93, Tryz.ntmps93
    go_wp2_with fail
    go_ret2
    exact ⟨HE.out.symm, rfl⟩
set_option maxRecDepth 20000 in
set_option maxHeartbeats 4000000 in
theorem one_3 (s : ByteArray) (i : Nat) (w : World) (hi : i < s.size) (hs : s.size ≤ 1100000) (c1 : 224 ≤ ((s[i]'hi).toNat : Int)) (c2 : ((s[i]'hi).toNat : Int) < 240) : Calls Tryz.prog 93 #[.string s, .int .i64 (i : Int)] w fun e w' => e = oneV (s.data.toList.drop i) ∧ w = w' := by
  have E0 : Hid (nth (s.data.toList.drop i) 0 = (s[i]'hi).toNat) := nth_at s i 0 (by omega)
  have LL := drop_len s i
  have c0 : ¬ ((s[i]'hi).toNat : Int) < 128 := by omega
  have HC : Cls ((s[i]'hi).toNat : Int) 3 (((s[i]'hi).toNat : Int) - 224) 2048 := by unfold Cls; omega
  by_cases hl : (i : Int) + 3 ≤ (s.size : Int)
  · have hl' : ¬ (s.size : Int) < (i : Int) + 3 := by omega
    have HR : Hid (oneI (s.data.toList.drop i) (restI (s.data.toList.drop i) 3 2048 2 1 (((s[i]'hi).toNat : Int) - 224))) := cls_rest HC (by rw [E0.out]) (by omega) (by rw [LL]; omega) (by omega)
    clear LL HC
    go_enter Tryz.func93, Tryz.ntmps93
    go_wp2_with fail
    go_loop [8, 10, 11] (fun vv kv dv => ∃ (k : Nat) (v : Int), vv = .int .i64 v ∧ kv = .int .i64 (k : Int) ∧ 1 ≤ k ∧ k ≤ 3 ∧ Hid (Vbd k v) ∧ Hid (oneI (s.data.toList.drop i) (restI (s.data.toList.drop i) 3 2048 (3 - k) k v))) (fun _ kv _ => 3 - (intOf kv).toNat)
    case atStart => exact ⟨1, _, rfl, rfl, by omega, by omega, by show Vbd _ _; unfold Vbd; omega, HR⟩
    case round =>
      obtain ⟨k, v, rfl, rfl, hk1, hk2, HV, HP⟩ := hrel
      by_cases hkn : k < 3
      · have hkn' : (k : Int) < 3 := by omega
        have hik : i + k < s.size := by omega
        have hik' : (i : Int) + (k : Int) < (s.size : Int) := by omega
        have hik0 : 0 ≤ (i : Int) + (k : Int) := by omega
        have EK : Hid (nth (s.data.toList.drop i) k = (s[i + k]'hik).toNat) := nth_at s i k hik
        have g256 : ((s[i + k]'hik).toNat : Int) < 256 := by have := (s[i + k]'hik).toNat_lt; omega
        have d0 : 0 ≤ ((s[i + k]'hik).toNat : Int) := by omega
        have HF : Hid (3 - k = (3 - (k + 1)) + 1) := by show _ = _; omega
        rw [HF.out] at HP
        by_cases hd : ((s[i + k]'hik).toNat : Int) < 128
        · have HE : Hid (oneI (s.data.toList.drop i) (0, 0)) := restI_stop HP.out (by rw [EK.out]; exact Or.inl hd)
          clear HP
          go_wp2_with fail
          go_ret2
          exact ⟨HE.out.symm, rfl⟩
        · by_cases hd2 : 191 < ((s[i + k]'hik).toNat : Int)
          · have HE : Hid (oneI (s.data.toList.drop i) (0, 0)) := restI_stop HP.out (by rw [EK.out]; exact Or.inr hd2)
            clear HP
            go_wp2_with fail
            go_ret2
            exact ⟨HE.out.symm, rfl⟩
          · have HE : Hid (oneI (s.data.toList.drop i) (restI (s.data.toList.drop i) 3 2048 (3 - (k + 1)) (k + 1) (v * 64 + ((s[i + k]'hik).toNat : Int) - 128))) := by
              have := restI_on HP.out (by rw [EK.out]; omega)
              rw [EK.out] at this
              exact this
            have v1 : 0 ≤ v := HV.out.1
            have v2 : v < 8388608 := by have := HV.out; unfold Vbd at this; omega
            have HV2 : Hid (Vbd (k + 1) (v * 64 + ((s[i + k]'hik).toNat : Int) - 128)) := by
              have := HV.out
              show Vbd _ _
              unfold Vbd at this ⊢
              omega
            clear HP
            go_wp2_with fail
            go_round
            case rel => exact ⟨k + 1, _, rfl, by go_num, by omega, by omega, HV2, HE⟩
            case measure => simp [intOf]; omega
      · obtain rfl : k = 3 := by omega
        have v1 : 0 ≤ v := HV.out.1
        have v2 : v < 8388608 := by have := HV.out; unfold Vbd at this; omega
        go_wp2_with fail
        all_goals
          go_ret2
          refine ⟨?_, rfl⟩
          first
            | exact (restI_bad HP.out (by unfold BadV; omega)).symm
            | exact (restI_ok HP.out (by unfold BadV; omega)).symm
  · have hl' : (s.size : Int) < (i : Int) + 3 := by omega
    have HE : Hid (oneI (s.data.toList.drop i) (0, 0)) := cls_short HC (by rw [E0.out]) (by omega) (by rw [LL]; omega)
    clear LL HC
    go_enter Tryz.func93, Tryz.ntmps93
    go_wp2_with fail
    go_ret2
    exact ⟨HE.out.symm, rfl⟩
set_option maxRecDepth 20000 in
set_option maxHeartbeats 4000000 in
theorem one_4 (s : ByteArray) (i : Nat) (w : World) (hi : i < s.size) (hs : s.size ≤ 1100000) (c1 : 240 ≤ ((s[i]'hi).toNat : Int)) (c2 : ((s[i]'hi).toNat : Int) < 245) : Calls Tryz.prog 93 #[.string s, .int .i64 (i : Int)] w fun e w' => e = oneV (s.data.toList.drop i) ∧ w = w' := by
  have E0 : Hid (nth (s.data.toList.drop i) 0 = (s[i]'hi).toNat) := nth_at s i 0 (by omega)
  have LL := drop_len s i
  have c0 : ¬ ((s[i]'hi).toNat : Int) < 128 := by omega
  have HC : Cls ((s[i]'hi).toNat : Int) 4 (((s[i]'hi).toNat : Int) - 240) 65536 := by unfold Cls; omega
  by_cases hl : (i : Int) + 4 ≤ (s.size : Int)
  · have hl' : ¬ (s.size : Int) < (i : Int) + 4 := by omega
    have HR : Hid (oneI (s.data.toList.drop i) (restI (s.data.toList.drop i) 4 65536 3 1 (((s[i]'hi).toNat : Int) - 240))) := cls_rest HC (by rw [E0.out]) (by omega) (by rw [LL]; omega) (by omega)
    clear LL HC
    go_enter Tryz.func93, Tryz.ntmps93
    go_wp2_with fail
    go_loop [8, 10, 11] (fun vv kv dv => ∃ (k : Nat) (v : Int), vv = .int .i64 v ∧ kv = .int .i64 (k : Int) ∧ 1 ≤ k ∧ k ≤ 4 ∧ Hid (Vbd k v) ∧ Hid (oneI (s.data.toList.drop i) (restI (s.data.toList.drop i) 4 65536 (4 - k) k v))) (fun _ kv _ => 4 - (intOf kv).toNat)
    case atStart => exact ⟨1, _, rfl, rfl, by omega, by omega, by show Vbd _ _; unfold Vbd; omega, HR⟩
    case round =>
      obtain ⟨k, v, rfl, rfl, hk1, hk2, HV, HP⟩ := hrel
      by_cases hkn : k < 4
      · have hkn' : (k : Int) < 4 := by omega
        have hik : i + k < s.size := by omega
        have hik' : (i : Int) + (k : Int) < (s.size : Int) := by omega
        have hik0 : 0 ≤ (i : Int) + (k : Int) := by omega
        have EK : Hid (nth (s.data.toList.drop i) k = (s[i + k]'hik).toNat) := nth_at s i k hik
        have g256 : ((s[i + k]'hik).toNat : Int) < 256 := by have := (s[i + k]'hik).toNat_lt; omega
        have d0 : 0 ≤ ((s[i + k]'hik).toNat : Int) := by omega
        have HF : Hid (4 - k = (4 - (k + 1)) + 1) := by show _ = _; omega
        rw [HF.out] at HP
        by_cases hd : ((s[i + k]'hik).toNat : Int) < 128
        · have HE : Hid (oneI (s.data.toList.drop i) (0, 0)) := restI_stop HP.out (by rw [EK.out]; exact Or.inl hd)
          clear HP
          go_wp2_with fail
          go_ret2
          exact ⟨HE.out.symm, rfl⟩
        · by_cases hd2 : 191 < ((s[i + k]'hik).toNat : Int)
          · have HE : Hid (oneI (s.data.toList.drop i) (0, 0)) := restI_stop HP.out (by rw [EK.out]; exact Or.inr hd2)
            clear HP
            go_wp2_with fail
            go_ret2
            exact ⟨HE.out.symm, rfl⟩
          · have HE : Hid (oneI (s.data.toList.drop i) (restI (s.data.toList.drop i) 4 65536 (4 - (k + 1)) (k + 1) (v * 64 + ((s[i + k]'hik).toNat : Int) - 128))) := by
              have := restI_on HP.out (by rw [EK.out]; omega)
              rw [EK.out] at this
              exact this
            have v1 : 0 ≤ v := HV.out.1
            have v2 : v < 8388608 := by have := HV.out; unfold Vbd at this; omega
            have HV2 : Hid (Vbd (k + 1) (v * 64 + ((s[i + k]'hik).toNat : Int) - 128)) := by
              have := HV.out
              show Vbd _ _
              unfold Vbd at this ⊢
              omega
            clear HP
            go_wp2_with fail
            go_round
            case rel => exact ⟨k + 1, _, rfl, by go_num, by omega, by omega, HV2, HE⟩
            case measure => simp [intOf]; omega
      · obtain rfl : k = 4 := by omega
        have v1 : 0 ≤ v := HV.out.1
        have v2 : v < 8388608 := by have := HV.out; unfold Vbd at this; omega
        go_wp2_with fail
        all_goals
          go_ret2
          refine ⟨?_, rfl⟩
          first
            | exact (restI_bad HP.out (by unfold BadV; omega)).symm
            | exact (restI_ok HP.out (by unfold BadV; omega)).symm
  · have hl' : (s.size : Int) < (i : Int) + 4 := by omega
    have HE : Hid (oneI (s.data.toList.drop i) (0, 0)) := cls_short HC (by rw [E0.out]) (by omega) (by rw [LL]; omega)
    clear LL HC
    go_enter Tryz.func93, Tryz.ntmps93
    go_wp2_with fail
    go_ret2
    exact ⟨HE.out.symm, rfl⟩
set_option maxRecDepth 20000 in
set_option maxHeartbeats 4000000 in
theorem one_any (s : ByteArray) (i : Nat) (w : World) (hi : i < s.size) (hs : s.size ≤ 1100000) : Calls Tryz.prog 93 #[.string s, .int .i64 (i : Int)] w fun e w' => e = oneV (s.data.toList.drop i) ∧ w = w' := by
  have E0 : Hid (nth (s.data.toList.drop i) 0 = (s[i]'hi).toNat) := nth_at s i 0 (by omega)
  by_cases c0 : ((s[i]'hi).toNat : Int) < 128
  · have E : Hid (oneV (s.data.toList.drop i) = .returned (.tuple #[.int .i64 ((s[i]'hi).toNat : Int), .int .i64 1])) := by
      refine oneI_of (p := ((s[i]'hi).toNat, 1)) ?_ (((s[i]'hi).toNat : Int), 1) rfl rfl
      have e0 := E0.out
      unfold oneL oneR
      rw [if_pos (by omega), e0]
    have d0 : 0 ≤ ((s[i]'hi).toNat : Int) := by omega
    clear E0
    go_enter Tryz.func93, Tryz.ntmps93
    go_wp2_with fail
    go_ret2
    exact ⟨E.out.symm, rfl⟩
  · by_cases c2 : 194 ≤ ((s[i]'hi).toNat : Int) ∧ ((s[i]'hi).toNat : Int) < 224
    · exact one_2 s i w hi hs c2.1 c2.2
    · by_cases c3 : 224 ≤ ((s[i]'hi).toNat : Int) ∧ ((s[i]'hi).toNat : Int) < 240
      · exact one_3 s i w hi hs c3.1 c3.2
      · by_cases c4 : 240 ≤ ((s[i]'hi).toNat : Int) ∧ ((s[i]'hi).toNat : Int) < 245
        · exact one_4 s i w hi hs c4.1 c4.2
        · have HE : Hid (oneI (s.data.toList.drop i) (0, 0)) := cls_none (c := ((s[i]'hi).toNat : Int)) (v := 0) (low := 0) (by unfold Cls; omega) (by rw [E0.out]) (by omega)
          have g256 : ((s[i]'hi).toNat : Int) < 256 := by have := (s[i]'hi).toNat_lt; omega
          have f0 : 128 ≤ ((s[i]'hi).toNat : Int) := by omega
          clear E0 c0
          by_cases a1 : ((s[i]'hi).toNat : Int) < 194
          · have a2 : ((s[i]'hi).toNat : Int) < 224 := by omega
            have a3 : ((s[i]'hi).toNat : Int) < 240 := by omega
            clear c2 c3 c4
            go_enter Tryz.func93, Tryz.ntmps93
            go_wp2_with fail
            go_ret2
            exact ⟨HE.out.symm, rfl⟩
          · have a2 : 245 ≤ ((s[i]'hi).toNat : Int) := by omega
            have a4 : 240 ≤ ((s[i]'hi).toNat : Int) := by omega
            have a5 : 224 ≤ ((s[i]'hi).toNat : Int) := by omega
            clear c2 c3 c4
            go_enter Tryz.func93, Tryz.ntmps93
            go_wp2_with fail
            go_ret2
            exact ⟨HE.out.symm, rfl⟩
end prw
end Go.Proofs.YtckpiaigoeicfaaGreatDoor
/-! B64P -/
namespace Go.Proofs.YtckpiaigoeicfaaGreatDoor
namespace b64p
set_option linter.unusedVariables false
/-- the digits of base 16 -/
def digits : List UInt8 := [48, 49, 50, 51, 52, 53, 54, 55, 56, 57, 97, 98, 99, 100, 101, 102]
def dg (n : Nat) : UInt8 := digits.getD n 0
def hex : List UInt8 → List UInt8
  | [] => []
  | c :: l => dg (c.toNat / 16) :: dg (c.toNat % 16) :: hex l
theorem hex_append (a b : List UInt8) : hex (a ++ b) = hex a ++ hex b := by
  induction a with
  | nil => rfl
  | cons c a ih => simp [hex, ih]
theorem hex_length (l : List UInt8) : (hex l).length = 2 * l.length := by
  induction l with
  | nil => rfl
  | cons c a ih => simp [hex, ih]; omega
/-- the letters -/
def letters : List UInt8 := [65, 66, 67, 68, 69, 70, 71, 72, 73, 74, 75, 76, 77, 78, 79, 80, 81, 82, 83, 84, 85, 86, 87, 88, 89, 90, 97, 98, 99, 100, 101, 102, 103, 104, 105, 106, 107, 108, 109, 110, 111, 112, 113, 114, 115, 116, 117, 118, 119, 120, 121, 122, 48, 49, 50, 51, 52, 53, 54, 55, 56, 57, 43, 47]
def lt (n : Nat) : UInt8 := letters.getD (n % 64) 0
/-- three bytes as a number, read so far -/
def numAt (l : List UInt8) : Nat → Nat
  | 0 => 0
  | j + 1 => 256 * numAt l j + (l.getD j 0).toNat
def sign (n sz j : Nat) : UInt8 := if sz < j then 61 else lt (n / 2 ^ (18 - 6 * j))
def four (l : List UInt8) : List UInt8 := (List.range 4).map (sign (numAt l 3) l.length)
def enc (l : List UInt8) : List UInt8 :=
  if h : l = [] then [] else four l ++ enc (l.drop 3)
termination_by l.length
decreasing_by
  have : l.length ≠ 0 := fun e => h (List.eq_nil_of_length_eq_zero e)
  simp; omega
theorem enc_nil : enc [] = [] := by unfold enc; simp
theorem enc_cons {l : List UInt8} (h : l ≠ []) : enc l = four l ++ enc (l.drop 3) := by
  conv => lhs; unfold enc
  rw [dif_neg h]
theorem numAt_lt (l : List UInt8) : ∀ j, numAt l j < 256 ^ j
  | 0 => by simp [numAt]
  | j + 1 => by
    have := numAt_lt l j
    have h2 := (l.getD j 0).toNat_lt
    simp only [numAt, Nat.pow_succ]
    omega
theorem four_length (l : List UInt8) : (four l).length = 4 := by simp [four]
theorem four_take (l : List UInt8) (j : Nat) (hj : j < 4) : (four l).take (j + 1) = (four l).take j ++ [sign (numAt l 3) l.length j] := by
  rw [List.take_succ_eq_append_getElem (by rw [four_length]; exact hj)]
  simp [four]
theorem enc_length : ∀ (n : Nat) (l : List UInt8), l.length ≤ n → (enc l).length ≤ 2 * l.length + 2 ∧ (enc l).length % 4 = 0
  | 0, l, h => by
    have : l = [] := List.eq_nil_of_length_eq_zero (by omega)
    subst this
    simp [enc_nil]
  | n + 1, l, h => by
    by_cases hl : l = []
    · subst hl; simp [enc_nil]
    · have hpos : 0 < l.length := List.length_pos_iff.2 hl
      have ih := enc_length n (l.drop 3) (by simp; omega)
      rw [enc_cons hl, List.length_append, four_length]
      simp only [List.length_drop] at ih
      by_cases h3 : l.length ≤ 3
      · have : (l.drop 3) = [] := List.drop_eq_nil_of_le h3
        rw [this, enc_nil]
        simp; omega
      · omega
/-- pieces of width W, and what is still to be cut -/
def Good (W : Nat) (ts : List (List UInt8)) (rest l : List UInt8) : Prop :=
  (∀ i (h : i < ts.length), 1 ≤ ts[i].length ∧ ts[i].length ≤ W ∧ (i + 1 < ts.length ∨ rest ≠ [] → ts[i].length = W)) ∧ ts.flatten ++ rest = l
theorem good_nil (W : Nat) (l : List UInt8) : Good W [] l l := ⟨fun i h => absurd h (by simp), rfl⟩
theorem good_step {W : Nat} (hW : 1 ≤ W) {ts : List (List UInt8)} {rest l : List UInt8} (h : Good W ts rest l) (hne : rest ≠ []) :
    Good W (ts ++ [rest.take (min W rest.length)]) (rest.drop (min W rest.length)) l := by
  have hpos : 0 < rest.length := List.length_pos_iff.2 hne
  refine ⟨fun i hi => ?_, ?_⟩
  · simp only [List.length_append, List.length_singleton] at hi
    by_cases hlt : i < ts.length
    · rw [List.getElem_append_left hlt]
      obtain ⟨a, b, c⟩ := h.1 i hlt
      exact ⟨a, b, fun _ => c (Or.inr hne)⟩
    · obtain rfl : i = ts.length := by omega
      rw [List.getElem_append_right (Nat.le_refl _)]
      simp only [Nat.sub_self, List.getElem_singleton, List.length_take, List.length_append, List.length_singleton]
      refine ⟨by omega, by omega, fun hh => ?_⟩
      rcases hh with hh | hh
      · omega
      · have : 0 < (rest.drop (min W rest.length)).length := List.length_pos_iff.2 hh
        rw [List.length_drop] at this
        omega
  · rw [List.flatten_append, List.append_assoc]
    simp only [List.flatten_singleton, List.take_append_drop]
    exact h.2
theorem flat_count : ∀ (ts : List (List UInt8)), (∀ t ∈ ts, 1 ≤ t.length) → ts.length ≤ ts.flatten.length
  | [], _ => by simp
  | t :: ts, h => by
    have := flat_count ts (fun x hx => h x (List.mem_cons_of_mem _ hx))
    have h1 := h t List.mem_cons_self
    simp only [List.length_cons, List.flatten_cons, List.length_append]
    omega
theorem good_count {W : Nat} {ts : List (List UInt8)} {rest l : List UInt8} (h : Good W ts rest l) : ts.length ≤ l.length := by
  have h1 := flat_count ts (fun t ht => by obtain ⟨i, hi, rfl⟩ := List.mem_iff_getElem.1 ht; exact (h.1 i hi).1)
  have h2 := congrArg List.length h.2
  rw [List.length_append] at h2
  omega
/-- a width that takes all in gives one piece at the most -/
theorem good_one {W : Nat} {ts : List (List UInt8)} {l : List UInt8} (h : Good W ts [] l) (hW : l.length ≤ W) : ts.length ≤ 1 := by
  match ts, h with
  | [], _ => simp
  | [_], _ => simp
  | a :: b :: r, h =>
    have h0 := (h.1 0 (by simp)).2.2 (Or.inl (by simp))
    have h1 := (h.1 1 (by simp)).1
    have h2 := congrArg List.length h.2
    simp at h0 h1 h2
    omega
theorem flat_take (ts : List (List UInt8)) (i : Nat) (h : i < ts.length) : (ts.take (i + 1)).flatten = (ts.take i).flatten ++ ts[i] := by
  rw [List.take_succ_eq_append_getElem h, List.flatten_append]
  simp
theorem flat_mem (ts : List (List UInt8)) (i : Nat) (h : i < ts.length) : ts[i].length ≤ ts.flatten.length := by
  induction ts generalizing i with
  | nil => simp at h
  | cons t ts ih =>
    cases i with
    | zero => simp
    | succ i =>
      have := ih i (by simpa using h)
      simp only [List.getElem_cons_succ, List.flatten_cons, List.length_append]
      omega
/-- a digit's number; -1: it is none -/
def valI (c : UInt8) : Int :=
  if 48 ≤ c.toNat ∧ c.toNat ≤ 57 then c.toNat - 48 else if 97 ≤ c.toNat ∧ c.toNat ≤ 102 then c.toNat - 87 else if 65 ≤ c.toNat ∧ c.toNat ≤ 70 then c.toNat - 55 else -1
theorem valI_le (c : UInt8) : -1 ≤ valI c ∧ valI c ≤ 15 := by unfold valI; split <;> (try split) <;> (try split) <;> omega
def unhex : List UInt8 → Option (List UInt8)
  | [] => some []
  | [_] => none
  | a :: b :: r => if valI a < 0 ∨ valI b < 0 then none else (unhex r).map (UInt8.ofNat (16 * valI a + valI b).toNat :: ·)
theorem valI_dg (n : Nat) (h : n < 16) : valI (dg n) = n := by
  have all : ∀ m : Fin 16, valI (dg m.val) = m.val := by decide
  exact all ⟨n, h⟩
theorem unhex_hex (l : List UInt8) : unhex (hex l) = some l := by
  induction l with
  | nil => rfl
  | cons c l ih =>
    have hc := c.toNat_lt
    simp only [hex, unhex, ih]
    rw [valI_dg _ (by omega), valI_dg _ (by omega), if_neg (by omega)]
    simp only [Option.map_some, Option.some.injEq, List.cons.injEq, and_true]
    rw [show (16 * ((c.toNat / 16 : Nat) : Int) + ((c.toNat % 16 : Nat) : Int)).toNat = c.toNat from by omega]
    exact UInt8.ofNat_toNat
theorem unhex_odd : ∀ (n : Nat) (l : List UInt8), l.length ≤ n → l.length % 2 = 1 → unhex l = none
  | _, [], _, h => by simp at h
  | _, [_], _, _ => rfl
  | 0, _ :: _ :: _, h, _ => by simp at h
  | n + 1, a :: b :: r, h, hm => by
    simp only [unhex]
    rw [unhex_odd n r (by simp at h; omega) (by simp at hm; omega)]
    simp
theorem unhex_step (l : List UInt8) (i : Nat) (h : i + 1 < l.length) :
    unhex (l.drop i) = if valI l[i] < 0 ∨ valI l[i + 1] < 0 then none else (unhex (l.drop (i + 2))).map (UInt8.ofNat (16 * valI l[i] + valI l[i + 1]).toNat :: ·) := by
  rw [List.drop_eq_getElem_cons (i := i) (by omega), List.drop_eq_getElem_cons (i := i + 1) h]
  rfl
theorem unhex_last (l : List UInt8) (i : Nat) (h : i + 1 = l.length) : unhex (l.drop i) = none := by
  rw [List.drop_eq_getElem_cons (i := i) (by omega), List.drop_of_length_le (by omega)]
  rfl
/-- what Unhex returns -/
def uhV (o : Option (List UInt8)) : Value :=
  match o with
  | some l => .tuple #[.string ⟨l.toArray⟩, .int .i64 0]
  | none => .tuple #[.string ⟨#[]⟩, .int .i64 4]
end b64p
end Go.Proofs.YtckpiaigoeicfaaGreatDoor
/-! DnP -/
namespace Go.Proofs.YtckpiaigoeicfaaGreatDoor
namespace dnp
open b64p (valI)
set_option linter.unusedVariables false
set_option linter.unusedSimpArgs false
/-- a sign and whether it stands bare -/
abbrev Sg := UInt8 × Bool
abbrev Pr := List UInt8 × List UInt8
def special (c : UInt8) : Bool := decide (c = 34 ∨ c = 43 ∨ c = 44 ∨ c = 59 ∨ c = 60 ∨ c = 61 ∨ c = 62 ∨ c = 92)
def isSep (c : UInt8) : Bool := decide (c = 44 ∨ c = 59 ∨ c = 43)
def bad (c : UInt8) : Bool := decide (c = 34 ∨ c = 60 ∨ c = 62)
/-- what stands behind a \: the byte, and how many bytes it took -/
def esc : List UInt8 → Option (UInt8 × Nat)
  | [] => none
  | d :: t => if special d = true ∨ d = 35 ∨ d = 32 then some (d, 1) else match t with
    | [] => none
    | e :: _ => if valI d < 0 ∨ valI e < 0 then none else some (UInt8.ofNat (16 * valI d + valI e).toNat, 2)
theorem esc_two {t : List UInt8} {d : UInt8} {n : Nat} (h : esc t = some (d, n)) : 1 ≤ n ∧ n ≤ 2 ∧ n ≤ t.length := by
  unfold esc at h
  repeat' split at h
  all_goals (try cases h)
  all_goals (simp; try omega)
def signsF : Nat → List UInt8 → Option (List Sg)
  | 0, _ => some []
  | _ + 1, [] => some []
  | f + 1, c :: t => if c ≠ 92 then (signsF f t).map ((c, true) :: ·) else match esc t with
    | none => none
    | some (d, n) => (signsF f (t.drop n)).map ((d, false) :: ·)
def signs (l : List UInt8) : Option (List Sg) := signsF l.length l
theorem signsF_more : ∀ (f g : Nat) (l : List UInt8), l.length ≤ f → l.length ≤ g → signsF f l = signsF g l
  | 0, g, l, h, _ => by
    have : l = [] := List.eq_nil_of_length_eq_zero (by omega)
    subst this
    cases g <;> rfl
  | f + 1, 0, l, _, h => by
    have : l = [] := List.eq_nil_of_length_eq_zero (by omega)
    subst this
    rfl
  | f + 1, g + 1, [], _, _ => rfl
  | f + 1, g + 1, c :: t, h, h' => by
    simp only [List.length_cons] at h h'
    unfold signsF
    by_cases e : c ≠ 92
    · rw [if_pos e, if_pos e, signsF_more f g t (by omega) (by omega)]
    · rw [if_neg e, if_neg e]
      cases he : esc t with
      | none => rfl
      | some p =>
        obtain ⟨d, n⟩ := p
        simp only []
        rw [signsF_more f g (t.drop n) (by rw [List.length_drop]; omega) (by rw [List.length_drop]; omega)]
theorem signs_nil : signs [] = some [] := rfl
theorem signs_bare (c : UInt8) (t : List UInt8) (h : c ≠ 92) : signs (c :: t) = (signs t).map ((c, true) :: ·) := by
  show signsF (t.length + 1) (c :: t) = _
  rw [signsF, if_pos h]; rfl
theorem signs_esc (t : List UInt8) (d : UInt8) (n : Nat) (h : esc t = some (d, n)) : signs (92 :: t) = (signs (t.drop n)).map ((d, false) :: ·) := by
  show signsF (t.length + 1) (92 :: t) = _
  rw [signsF, if_neg (by simp), h]
  simp only []
  rw [signsF_more t.length (t.drop n).length _ (by rw [List.length_drop]; omega) (Nat.le_refl _)]; rfl
theorem signs_bad (t : List UInt8) (h : esc t = none) : signs (92 :: t) = none := by
  show signsF (t.length + 1) (92 :: t) = _
  rw [signsF, if_neg (by simp), h]
theorem signs_app (p r : List UInt8) (h : (92 : UInt8) ∉ p) : signs (p ++ r) = (signs r).map (p.map (·, true) ++ ·) := by
  induction p with
  | nil => simp
  | cons c p ih =>
    simp only [List.mem_cons, not_or] at h
    rw [List.cons_append, signs_bare c _ (Ne.symm h.1), ih h.2, Option.map_map]
    rfl
/-- bare signs are read off bytes as they are -/
theorem signs_of_bare {l : List UInt8} {c : UInt8} {L : List Sg} (h : signs l = some ((c, true) :: L)) : ∃ t, l = c :: t ∧ c ≠ 92 ∧ signs t = some L := by
  cases l with
  | nil => rw [signs_nil] at h; simp at h
  | cons d t =>
    by_cases e : d = 92
    · subst e
      cases he : esc t with
      | none => rw [signs_bad t he] at h; cases h
      | some p =>
        obtain ⟨x, n⟩ := p
        rw [signs_esc t x n he] at h
        obtain ⟨M, _, hM⟩ := Option.map_eq_some_iff.1 h
        simp at hM
    · rw [signs_bare d t e] at h
      obtain ⟨M, h1, hM⟩ := Option.map_eq_some_iff.1 h
      simp only [List.cons.injEq, Prod.mk.injEq, and_true] at hM
      obtain ⟨rfl, rfl⟩ := hM
      exact ⟨t, rfl, e, h1⟩
theorem signs_of_bares : ∀ (a : List UInt8) (l : List UInt8) (L : List Sg), signs l = some (a.map (·, true) ++ L) → ∃ r, l = a ++ r ∧ (92 : UInt8) ∉ a ∧ signs r = some L
  | [], l, L, h => ⟨l, rfl, by simp, h⟩
  | c :: a, l, L, h => by
    obtain ⟨t, rfl, h1, h2⟩ := signs_of_bare h
    obtain ⟨r, rfl, h3, h4⟩ := signs_of_bares a t L h2
    exact ⟨r, rfl, by simp [h3, Ne.symm h1], h4⟩
/-! ### segments -/
def sepS (x : Sg) : Bool := x.2 && isSep x.1
def segs : List Sg → List Sg × List (UInt8 × List Sg)
  | [] => ([], [])
  | x :: t => if sepS x = true then ([], (x.1, (segs t).1) :: (segs t).2) else (x :: (segs t).1, (segs t).2)
theorem segs_none (B : List Sg) (h : ∀ x ∈ B, sepS x = false) : segs B = (B, []) := by
  induction B with
  | nil => rfl
  | cons x B ih =>
    rw [segs, if_neg (by rw [h x (by simp)]; simp), ih (fun y hy => h y (by simp [hy]))]
theorem segs_at (B : List Sg) (c : UInt8) (L : List Sg) (h : ∀ x ∈ B, sepS x = false) (hc : isSep c = true) : segs (B ++ (c, true) :: L) = (B, (c, (segs L).1) :: (segs L).2) := by
  induction B with
  | nil => rw [List.nil_append, segs, if_pos (by simpa [sepS] using hc)]
  | cons x B ih =>
    rw [List.cons_append, segs, if_neg (by rw [h x (by simp)]; simp), ih (fun y hy => h y (by simp [hy]))]
theorem segs_app (B L : List Sg) (h : ∀ x ∈ B, sepS x = false) : segs (B ++ L) = (B ++ (segs L).1, (segs L).2) := by
  induction B with
  | nil => rfl
  | cons x B ih =>
    rw [List.cons_append, segs, if_neg (by rw [h x (by simp)]; simp), ih (fun y hy => h y (by simp [hy]))]; rfl
/-! ### trimming -/
def blankS (x : Sg) : Bool := x.2 && decide (x.1 = 32)
def trimR (B : List Sg) : List Sg := (B.reverse.dropWhile blankS).reverse
def trim (B : List Sg) : List Sg := trimR (B.dropWhile blankS)
theorem dropW_app {α : Type} (p : α → Bool) : ∀ (a b : List α), (∀ x ∈ a, p x = true) → (a ++ b).dropWhile p = b.dropWhile p
  | [], b, _ => rfl
  | x :: a, b, h => by
    rw [List.cons_append, List.dropWhile_cons, if_pos (h x (by simp)), dropW_app p a b (fun y hy => h y (by simp [hy]))]
theorem dropW_split {α : Type} (p : α → Bool) : ∀ (l : List α), ∃ a, l = a ++ l.dropWhile p ∧ (∀ x ∈ a, p x = true)
  | [] => ⟨[], rfl, by simp⟩
  | x :: l => by
    by_cases h : p x = true
    · obtain ⟨a, h1, h2⟩ := dropW_split p l
      refine ⟨x :: a, ?_, ?_⟩
      · rw [List.dropWhile_cons, if_pos h, List.cons_append, ← h1]
      · intro y hy
        rcases List.mem_cons.1 hy with rfl | hy
        · exact h
        · exact h2 y hy
    · exact ⟨[], by rw [List.dropWhile_cons, if_neg h]; rfl, by simp⟩
theorem dropW_head {α : Type} (p : α → Bool) : ∀ (l : List α) (x : α) (t : List α), l.dropWhile p = x :: t → p x = false
  | [], x, t, h => by simp at h
  | y :: l, x, t, h => by
    by_cases e : p y = true
    · rw [List.dropWhile_cons, if_pos e] at h
      exact dropW_head p l x t h
    · rw [List.dropWhile_cons, if_neg e] at h
      cases h
      simpa using e
theorem dropW_keep {α : Type} (p : α → Bool) (l : List α) (x : α) (h : x ∈ l) (hx : p x = false) : x ∈ l.dropWhile p := by
  obtain ⟨a, h1, h2⟩ := dropW_split p l
  rw [h1] at h
  rcases List.mem_append.1 h with h | h
  · rw [h2 x h] at hx; cases hx
  · exact h
theorem dropW_id {α : Type} (p : α → Bool) (l : List α) (h : ∀ x t, l = x :: t → p x = false) : l.dropWhile p = l := by
  cases l with
  | nil => rfl
  | cons x t => rw [List.dropWhile_cons, if_neg (by rw [h x t rfl]; simp)]
theorem trimR_split (B : List Sg) : ∃ a, B = trimR B ++ a ∧ ∀ x ∈ a, blankS x = true := by
  obtain ⟨a, h1, h2⟩ := dropW_split blankS B.reverse
  refine ⟨a.reverse, ?_, fun x hx => h2 x (List.mem_reverse.1 hx)⟩
  unfold trimR
  rw [← List.reverse_append, ← h1, List.reverse_reverse]
theorem trimR_keep (B : List Sg) (x : Sg) (h : x ∈ B) (hx : blankS x = false) : x ∈ trimR B := by
  unfold trimR
  rw [List.mem_reverse]
  exact dropW_keep _ _ _ (List.mem_reverse.2 h) hx
theorem trim_keep (B : List Sg) (x : Sg) (h : x ∈ B) (hx : blankS x = false) : x ∈ trim B := trimR_keep _ x (dropW_keep _ _ _ h hx) hx
theorem trimR_head (x : Sg) (B : List Sg) (hx : blankS x = false) : ∃ t, trimR (x :: B) = x :: t := by
  obtain ⟨a, h1, h2⟩ := trimR_split (x :: B)
  have hm := trimR_keep (x :: B) x (by simp) hx
  cases ht : trimR (x :: B) with
  | nil => rw [ht] at hm; simp at hm
  | cons y t =>
    rw [ht] at h1
    cases h1
    exact ⟨t, rfl⟩
theorem trimR_mem (B : List Sg) (x : Sg) (h : x ∈ trimR B) : x ∈ B := by
  obtain ⟨a, h1, _⟩ := trimR_split B
  rw [h1]; exact List.mem_append_left _ h
theorem trim_mem (B : List Sg) (x : Sg) (h : x ∈ trim B) : x ∈ B := by
  obtain ⟨a, h1, _⟩ := dropW_split blankS B
  rw [h1]; exact List.mem_append_right _ (trimR_mem _ x h)
/-! ### a type -/
def low (c : UInt8) : UInt8 := if 65 ≤ c ∧ c ≤ 90 then c + 32 else c
def letter (c : UInt8) : Bool := decide (97 ≤ c ∧ c ≤ 122)
def typeCh (c : UInt8) : Bool := letter c || decide (48 ≤ c ∧ c ≤ 57) || decide (c = 45)
def typeOK (t : List UInt8) : Bool := (match t with
  | [] => false
  | c :: _ => letter c) && decide (t.length ≤ 32) && t.all typeCh
def lowL (t : List UInt8) : List UInt8 := t.map low
/-- a byte whose small one may stand in a type -/
theorem low_ch : ∀ c : UInt8, typeCh (low c) = true → c ≠ 32 ∧ c ≠ 61 ∧ c ≠ 92 ∧ c ≠ 44 ∧ c ≠ 59 ∧ c ≠ 43 := by
  intro c h
  refine ⟨?_, ?_, ?_, ?_, ?_, ?_⟩ <;> (rintro rfl; revert h; decide)
theorem type_mem {t : List UInt8} (h : typeOK (lowL t) = true) : t ≠ [] ∧ ∀ c ∈ t, typeCh (low c) = true := by
  unfold typeOK at h
  simp only [Bool.and_eq_true] at h
  obtain ⟨⟨h1, _⟩, h2⟩ := h
  refine ⟨?_, ?_⟩
  · rintro rfl; simp [lowL] at h1
  · intro c hc
    exact List.all_eq_true.1 h2 (low c) (List.mem_map.2 ⟨c, hc, rfl⟩)
/-! ### the reference's pair -/
def eqS (x : Sg) : Bool := x.2 && decide (x.1 = 61)
def rightOK (R : List Sg) : Bool := !(R.any fun x => x.2 && bad x.1) && (match R with
  | [] => true
  | x :: _ => !(x.2 && decide (x.1 = 35)))
def pairS (s : List Sg) : Option Pr :=
  match s.dropWhile (fun x => !eqS x) with
  | [] => none
  | _ :: V =>
    let left := trim (s.takeWhile fun x => !eqS x)
    if (left.all (·.2)) = true ∧ typeOK (lowL (left.map (·.1))) = true ∧ rightOK (trim V) = true then some (lowL (left.map (·.1)), (trim V).map (·.1)) else none
theorem takeW_no {α : Type} (p : α → Bool) : ∀ (a : List α) (x : α) (b : List α), (∀ y ∈ a, p y = true) → p x = false → (a ++ x :: b).takeWhile p = a ∧ (a ++ x :: b).dropWhile p = x :: b
  | [], x, b, _, hx => by simp [hx]
  | y :: a, x, b, h, hx => by
    obtain ⟨h1, h2⟩ := takeW_no p a x b (fun z hz => h z (by simp [hz])) hx
    rw [List.cons_append, List.takeWhile_cons, List.dropWhile_cons, if_pos (h y (by simp)), if_pos (h y (by simp)), h1, h2]
    exact ⟨rfl, rfl⟩
theorem pairS_at (A V : List Sg) (h : ∀ x ∈ A, eqS x = false) : pairS (A ++ (61, true) :: V) = if ((trim A).all (·.2)) = true ∧ typeOK (lowL ((trim A).map (·.1))) = true ∧ rightOK (trim V) = true then some (lowL ((trim A).map (·.1)), (trim V).map (·.1)) else none := by
  obtain ⟨h1, h2⟩ := takeW_no (fun x => !eqS x) A ((61, true) : Sg) V (fun x hx => by rw [h x hx]; rfl) (by decide)
  unfold pairS
  rw [h1, h2]
theorem pairS_some {s : List Sg} {p : Pr} (h : pairS s = some p) : ∃ A V, s = A ++ (61, true) :: V ∧ (∀ x ∈ A, eqS x = false) ∧ ((trim A).all (·.2)) = true ∧ typeOK (lowL ((trim A).map (·.1))) = true ∧ rightOK (trim V) = true ∧ p = (lowL ((trim A).map (·.1)), (trim V).map (·.1)) := by
  obtain ⟨A, h1, h2⟩ := dropW_split (fun x => !eqS x) s
  cases hd : s.dropWhile (fun x => !eqS x) with
  | nil => unfold pairS at h; rw [hd] at h; cases h
  | cons x V =>
    have hx := dropW_head _ _ _ _ hd
    have hx' : x = (61, true) := by
      obtain ⟨c, b⟩ := x
      simp only [Bool.not_eq_false', eqS, Bool.and_eq_true, decide_eq_true_eq] at hx
      obtain ⟨rfl, rfl⟩ := hx
      rfl
    subst hx'
    rw [hd] at h1
    have hA : ∀ x ∈ A, eqS x = false := fun x hx => by have := h2 x hx; simpa using this
    rw [h1, pairS_at A V hA] at h
    split at h
    · rename_i hc
      cases h
      exact ⟨A, V, h1, hA, hc.1, hc.2.1, hc.2.2, rfl⟩
    · cases h
/-! ### bytes trimmed -/
def trimB (l : List UInt8) : List UInt8 := ((l.dropWhile (· = 32)).reverse.dropWhile (· = 32)).reverse
theorem map_dropW {α β : Type} (f : α → β) (p : β → Bool) : ∀ l : List α, (l.map f).dropWhile p = (l.dropWhile (fun x => p (f x))).map f
  | [] => rfl
  | x :: l => by
    rw [List.map_cons, List.dropWhile_cons, List.dropWhile_cons]
    split
    · rw [map_dropW f p l]
    · rfl
theorem blankS_bare (c : UInt8) : blankS (c, true) = decide (c = 32) := by simp [blankS]
theorem trim_bare (a : List UInt8) : trim (a.map (·, true)) = (trimB a).map (·, true) := by
  unfold trim trimR trimB
  have e : (fun x : UInt8 => blankS (x, true)) = (fun x => decide (x = 32)) := by funext x; exact blankS_bare x
  rw [map_dropW, e, ← List.map_reverse, map_dropW, e, List.map_reverse]
theorem trimB_split (a : List UInt8) : ∃ x y, a = x ++ trimB a ++ y ∧ (∀ c ∈ x, c = 32) ∧ (∀ c ∈ y, c = 32) := by
  obtain ⟨x, h1, h2⟩ := dropW_split (fun c : UInt8 => decide (c = 32)) a
  obtain ⟨y, h3, h4⟩ := dropW_split (fun c : UInt8 => decide (c = 32)) (a.dropWhile (fun c => decide (c = 32))).reverse
  refine ⟨x, y.reverse, ?_, fun c hc => by simpa using h2 c hc, fun c hc => by simpa using h4 c (List.mem_reverse.1 hc)⟩
  have h5 : a.dropWhile (fun c => decide (c = 32)) = trimB a ++ y.reverse := by
    unfold trimB
    rw [← List.reverse_append, ← h3, List.reverse_reverse]
  rw [List.append_assoc, ← h5, ← h1]
/-! ### the program's way -/
def kindP (l : List UInt8) : Option (List UInt8 × List UInt8) :=
  let l1 := l.dropWhile (· = 32)
  let T := l1.takeWhile fun c => decide (c ≠ 61 ∧ c ≠ 32)
  match ((l1.dropWhile fun c => decide (c ≠ 61 ∧ c ≠ 32)).dropWhile (· = 32)) with
  | [] => none
  | c :: r => if c = 61 ∧ typeOK (lowL T) = true then some (lowL T, r) else none
theorem takeW_all {α : Type} (p : α → Bool) : ∀ (a b : List α), (∀ y ∈ a, p y = true) → (∀ x t, b = x :: t → p x = false) → (a ++ b).takeWhile p = a ∧ (a ++ b).dropWhile p = b
  | [], b, _, hb => by
    cases b with
    | nil => exact ⟨rfl, rfl⟩
    | cons x t => simp [hb x t rfl]
  | y :: a, b, h, hb => by
    obtain ⟨h1, h2⟩ := takeW_all p a b (fun z hz => h z (by simp [hz])) hb
    rw [List.cons_append, List.takeWhile_cons, List.dropWhile_cons, if_pos (h y (by simp)), if_pos (h y (by simp)), h1, h2]
    exact ⟨rfl, rfl⟩
/-- blanks, a type, blanks, '=' -/
theorem kindP_of (x T y r : List UInt8) (hx : ∀ c ∈ x, c = 32) (hy : ∀ c ∈ y, c = 32) (hT : typeOK (lowL T) = true) : kindP (x ++ T ++ y ++ 61 :: r) = some (lowL T, r) := by
  obtain ⟨hne, hm⟩ := type_mem hT
  unfold kindP
  have e1 : (x ++ T ++ y ++ 61 :: r).dropWhile (fun c => decide (c = 32)) = T ++ (y ++ 61 :: r) := by
    rw [List.append_assoc, List.append_assoc, dropW_app _ x _ (fun c hc => by simp [hx c hc]), dropW_id]
    intro c t hc
    cases T with
    | nil => exact absurd rfl hne
    | cons d T =>
      have hcd : d = c := by simp only [List.cons_append, List.cons.injEq] at hc; exact hc.1
      have := (low_ch d (hm d (by simp))).1
      rw [hcd] at this
      simpa using this
  have e2 := takeW_all (fun c : UInt8 => decide (c ≠ 61 ∧ c ≠ 32)) T (y ++ 61 :: r) (fun c hc => by have := low_ch c (hm c hc); simp [this.1, this.2.1]) (by
    intro c t hc
    cases y with
    | nil =>
      have hcd : 61 = c := by simp only [List.nil_append, List.cons.injEq] at hc; exact hc.1
      rw [← hcd]; decide
    | cons d y =>
      have hcd : d = c := by simp only [List.cons_append, List.cons.injEq] at hc; exact hc.1
      have := hy d (by simp)
      rw [hcd] at this
      simp [this])
  simp only [e1, e2.1, e2.2]
  rw [dropW_app _ y _ (fun c hc => by simp [hy c hc])]
  rw [List.dropWhile_cons, if_neg (by decide)]
  simp [hT]
theorem kindP_some {l t r : List UInt8} (h : kindP l = some (t, r)) : ∃ x T y, l = x ++ T ++ y ++ 61 :: r ∧ (∀ c ∈ x, c = 32) ∧ (∀ c ∈ y, c = 32) ∧ typeOK (lowL T) = true ∧ t = lowL T := by
  obtain ⟨x, hx1, hx2⟩ := dropW_split (fun c : UInt8 => decide (c = 32)) l
  unfold kindP at h
  simp only [] at h
  generalize hl1 : l.dropWhile (fun c => decide (c = 32)) = l1 at *
  have hT := List.takeWhile_append_dropWhile (p := fun c : UInt8 => decide (c ≠ 61 ∧ c ≠ 32)) (l := l1)
  generalize hl2 : l1.dropWhile (fun c : UInt8 => decide (c ≠ 61 ∧ c ≠ 32)) = l2 at *
  generalize hTT : l1.takeWhile (fun c : UInt8 => decide (c ≠ 61 ∧ c ≠ 32)) = T at *
  obtain ⟨y, hy1, hy2⟩ := dropW_split (fun c : UInt8 => decide (c = 32)) l2
  generalize hl3 : l2.dropWhile (fun c => decide (c = 32)) = l3 at *
  cases l3 with
  | nil => simp at h
  | cons c r' =>
    simp only [] at h
    split at h
    · rename_i hc
      obtain ⟨rfl, hc2⟩ := hc
      cases h
      refine ⟨x, T, y, ?_, fun c hc => by simpa using hx2 c hc, fun c hc => by simpa using hy2 c hc, hc2, rfl⟩
      rw [hx1, ← hT, hy1]
      simp
    · cases h
theorem trimB_of (x T y : List UInt8) (hx : ∀ c ∈ x, c = 32) (hy : ∀ c ∈ y, c = 32) (hT : typeOK (lowL T) = true) : trimB (x ++ T ++ y) = T := by
  obtain ⟨hne, hm⟩ := type_mem hT
  have h32 : ∀ c ∈ T, decide (c = 32) = false := fun c hc => by have := (low_ch c (hm c hc)).1; simpa using this
  have e1 : (x ++ T ++ y).dropWhile (fun c => decide (c = 32)) = T ++ y := by
    rw [List.append_assoc, dropW_app _ x _ (fun c hc => by simp [hx c hc]), dropW_id]
    intro c t hc
    cases T with
    | nil => exact absurd rfl hne
    | cons d T =>
      have hcd : d = c := by simp only [List.cons_append, List.cons.injEq] at hc; exact hc.1
      rw [← hcd]
      exact h32 d (by simp)
  unfold trimB
  rw [e1, List.reverse_append, dropW_app _ y.reverse _ (fun c hc => by simp [hy c (List.mem_reverse.1 hc)]), dropW_id, List.reverse_reverse]
  intro c t hc
  have : c ∈ T := by rw [← List.mem_reverse, hc]; simp
  exact h32 c this
def scanF : Nat → List UInt8 → Option (List Sg × List UInt8)
  | 0, _ => some ([], [])
  | _ + 1, [] => some ([], [])
  | f + 1, c :: t => if isSep c = true then some ([], c :: t) else if bad c = true then none else if c ≠ 92 then (scanF f t).map (fun p => ((c, true) :: p.1, p.2)) else match esc t with
    | none => none
    | some (d, n) => (scanF f (t.drop n)).map (fun p => ((d, false) :: p.1, p.2))
def scan (l : List UInt8) : Option (List Sg × List UInt8) := scanF l.length l
theorem scanF_more : ∀ (f g : Nat) (l : List UInt8), l.length ≤ f → l.length ≤ g → scanF f l = scanF g l
  | 0, g, l, h, _ => by
    have : l = [] := List.eq_nil_of_length_eq_zero (by omega)
    subst this
    cases g <;> rfl
  | f + 1, 0, l, _, h => by
    have : l = [] := List.eq_nil_of_length_eq_zero (by omega)
    subst this
    rfl
  | f + 1, g + 1, [], _, _ => rfl
  | f + 1, g + 1, c :: t, h, h' => by
    simp only [List.length_cons] at h h'
    unfold scanF
    have h1 := scanF_more f g t (by omega) (by omega)
    have h2 := fun n => scanF_more f g (t.drop n) (by rw [List.length_drop]; omega) (by rw [List.length_drop]; omega)
    rw [h1]
    split
    · rfl
    · split
      · rfl
      · split
        · rfl
        · cases esc t with
          | none => rfl
          | some p => obtain ⟨d, n⟩ := p; simp only []; rw [h2 n]
theorem scan_nil : scan [] = some ([], []) := rfl
theorem scan_sep (c : UInt8) (t : List UInt8) (h : isSep c = true) : scan (c :: t) = some ([], c :: t) := by
  show scanF (t.length + 1) (c :: t) = _
  rw [scanF, if_pos h]
theorem scan_bad (c : UInt8) (t : List UInt8) (h : isSep c = false) (h2 : bad c = true) : scan (c :: t) = none := by
  show scanF (t.length + 1) (c :: t) = _
  rw [scanF, if_neg (by rw [h]; simp), if_pos h2]
theorem scan_bare (c : UInt8) (t : List UInt8) (h : isSep c = false) (h2 : bad c = false) (h3 : c ≠ 92) : scan (c :: t) = (scan t).map (fun p => ((c, true) :: p.1, p.2)) := by
  show scanF (t.length + 1) (c :: t) = _
  rw [scanF, if_neg (by rw [h]; simp), if_neg (by rw [h2]; simp), if_pos h3]; rfl
theorem scan_esc (t : List UInt8) (d : UInt8) (n : Nat) (h : esc t = some (d, n)) : scan (92 :: t) = (scan (t.drop n)).map (fun p => ((d, false) :: p.1, p.2)) := by
  show scanF (t.length + 1) (92 :: t) = _
  rw [scanF, if_neg (by decide), if_neg (by decide), if_neg (by simp), h]
  simp only []
  rw [scanF_more t.length (t.drop n).length _ (by rw [List.length_drop]; omega) (Nat.le_refl _)]; rfl
theorem scan_none (t : List UInt8) (h : esc t = none) : scan (92 :: t) = none := by
  show scanF (t.length + 1) (92 :: t) = _
  rw [scanF, if_neg (by decide), if_neg (by decide), if_neg (by simp), h]
def badS (x : Sg) : Bool := x.2 && bad x.1
/-- what the value's loop reads, against the signs -/
theorem scan_signs : ∀ (n : Nat) (l : List UInt8), l.length ≤ n →
    (scan l = none ∧ (signs l = none ∨ ∃ L, signs l = some L ∧ ∃ x ∈ (segs L).1, badS x = true)) ∨
    (∃ B, scan l = some (B, []) ∧ signs l = some B ∧ ∀ x ∈ B, sepS x = false ∧ badS x = false) ∨
    (∃ B c r, scan l = some (B, c :: r) ∧ isSep c = true ∧ r.length < l.length ∧ signs l = (signs r).map (fun L => B ++ (c, true) :: L) ∧ ∀ x ∈ B, sepS x = false ∧ badS x = false)
  | n, [], _ => Or.inr (Or.inl ⟨[], rfl, rfl, by simp⟩)
  | 0, _ :: _, h => by simp at h
  | n + 1, c :: t, h => by
    simp only [List.length_cons] at h
    by_cases hs : isSep c = true
    · have hc : c ≠ 92 := by rintro rfl; revert hs; decide
      refine Or.inr (Or.inr ⟨[], c, t, scan_sep c t hs, hs, by simp, ?_, by simp⟩)
      rw [signs_bare c t hc]; rfl
    · have hs' : isSep c = false := by simpa using hs
      by_cases hb : bad c = true
      · refine Or.inl ⟨scan_bad c t hs' hb, ?_⟩
        have hc : c ≠ 92 := by rintro rfl; revert hb; decide
        rw [signs_bare c t hc]
        cases hst : signs t with
        | none => exact Or.inl rfl
        | some L =>
          refine Or.inr ⟨_, rfl, (c, true), ?_, by simpa [badS] using hb⟩
          rw [segs, if_neg (by simp [sepS, hs'])]
          simp
      · have hb' : bad c = false := by simpa using hb
        by_cases h92 : c = 92
        · subst h92
          cases he : esc t with
          | none => exact Or.inl ⟨scan_none t he, Or.inl (signs_bad t he)⟩
          | some p =>
            obtain ⟨d, k⟩ := p
            obtain ⟨k1, k2, k3⟩ := esc_two he
            rw [scan_esc t d k he, signs_esc t d k he]
            have hdl : (t.drop k).length ≤ n := by rw [List.length_drop]; omega
            rcases scan_signs n (t.drop k) hdl with ⟨e1, e2⟩ | ⟨B, e1, e2, e3⟩ | ⟨B, c', r, e1, e2, e3, e4, e5⟩
            · refine Or.inl ⟨by rw [e1]; rfl, ?_⟩
              rcases e2 with e2 | ⟨L, e2, x, hx, hx2⟩
              · exact Or.inl (by rw [e2]; rfl)
              · refine Or.inr ⟨_, by rw [e2]; rfl, x, ?_, hx2⟩
                rw [segs, if_neg (by simp [sepS])]
                exact List.mem_cons_of_mem _ hx
            · refine Or.inr (Or.inl ⟨(d, false) :: B, by rw [e1]; rfl, by rw [e2]; rfl, ?_⟩)
              intro x hx
              rcases List.mem_cons.1 hx with rfl | hx
              · simp [sepS, badS]
              · exact e3 x hx
            · refine Or.inr (Or.inr ⟨(d, false) :: B, c', r, by rw [e1]; rfl, e2, ?_, by rw [e4, Option.map_map]; rfl, ?_⟩)
              · rw [List.length_drop] at e3; simp only [List.length_cons]; omega
              · intro x hx
                rcases List.mem_cons.1 hx with rfl | hx
                · simp [sepS, badS]
                · exact e5 x hx
        · rw [scan_bare c t hs' hb' h92, signs_bare c t h92]
          rcases scan_signs n t (by omega) with ⟨e1, e2⟩ | ⟨B, e1, e2, e3⟩ | ⟨B, c', r, e1, e2, e3, e4, e5⟩
          · refine Or.inl ⟨by rw [e1]; rfl, ?_⟩
            rcases e2 with e2 | ⟨L, e2, x, hx, hx2⟩
            · exact Or.inl (by rw [e2]; rfl)
            · refine Or.inr ⟨_, by rw [e2]; rfl, x, ?_, hx2⟩
              rw [segs, if_neg (by simp [sepS, hs'])]
              exact List.mem_cons_of_mem _ hx
          · refine Or.inr (Or.inl ⟨(c, true) :: B, by rw [e1]; rfl, by rw [e2]; rfl, ?_⟩)
            intro x hx
            rcases List.mem_cons.1 hx with rfl | hx
            · simp [sepS, badS, hs', hb']
            · exact e3 x hx
          · refine Or.inr (Or.inr ⟨(c, true) :: B, c', r, by rw [e1]; rfl, e2, by simp only [List.length_cons]; omega, by rw [e4, Option.map_map]; rfl, ?_⟩)
            intro x hx
            rcases List.mem_cons.1 hx with rfl | hx
            · simp [sepS, badS, hs', hb']
            · exact e5 x hx
/-- the head of what is read is the head's sign -/
theorem scan_head {c : UInt8} {t : List UInt8} {B : List Sg} {r : List UInt8} (h : scan (c :: t) = some (B, r)) : B = [] ∨ ∃ B', (B = (c, true) :: B' ∧ c ≠ 92) ∨ ∃ d, B = (d, false) :: B' := by
  by_cases hs : isSep c = true
  · rw [scan_sep c t hs] at h; cases h; exact Or.inl rfl
  · have hs' : isSep c = false := by simpa using hs
    by_cases hb : bad c = true
    · rw [scan_bad c t hs' hb] at h; cases h
    · have hb' : bad c = false := by simpa using hb
      by_cases h92 : c = 92
      · subst h92
        cases he : esc t with
        | none => rw [scan_none t he] at h; cases h
        | some p =>
          obtain ⟨d, k⟩ := p
          rw [scan_esc t d k he] at h
          obtain ⟨q, _, hq⟩ := Option.map_eq_some_iff.1 h
          cases hq
          exact Or.inr ⟨_, Or.inr ⟨d, rfl⟩⟩
      · rw [scan_bare c t hs' hb' h92] at h
        obtain ⟨q, _, hq⟩ := Option.map_eq_some_iff.1 h
        cases hq
        exact Or.inr ⟨_, Or.inl ⟨rfl, h92⟩⟩
def valueP (r : List UInt8) : Option (List UInt8 × List UInt8) :=
  if (r.dropWhile (· = 32)).head? = some 35 then none else (scan (r.dropWhile (· = 32))).map fun p => ((trimR p.1).map (·.1), p.2)
def PF : Nat → List UInt8 → Option (Pr × List (UInt8 × Pr))
  | 0, _ => none
  | f + 1, l => (kindP l).bind fun k => (valueP k.2).bind fun v => match v.2 with
    | [] => some ((k.1, v.1), [])
    | c :: r => (PF f r).map fun p => ((k.1, v.1), (c, p.1) :: p.2)
/-- the reference's: all segments are pairs -/
def refL (s : List Sg × List (UInt8 × List Sg)) : Option (Pr × List (UInt8 × Pr)) :=
  (pairS s.1).bind fun p => (s.2.mapM fun q => (pairS q.2).map (q.1, ·)).map (p, ·)
def R (l : List UInt8) : Option (Pr × List (UInt8 × Pr)) := (signs l).bind fun L => refL (segs L)
theorem refL_cons (A : List Sg) (c : UInt8) (s : List Sg × List (UInt8 × List Sg)) : refL (A, (c, s.1) :: s.2) = (pairS A).bind fun p => (refL s).map fun q => (p, (c, q.1) :: q.2) := by
  unfold refL
  cases pairS A with
  | none => rfl
  | some p =>
    simp only [Option.bind_some, List.mapM_cons]
    cases pairS s.1 with
    | none => rfl
    | some q =>
      simp only [Option.map_some, Option.bind_some, Option.bind_eq_bind, Option.pure_def]
      cases (s.2.mapM fun q => (pairS q.2).map (q.1, ·)) with
      | none => rfl
      | some r => rfl
theorem rightOK_bad {R : List Sg} {x : Sg} (h : x ∈ R) (hx : badS x = true) : rightOK R = false := by
  unfold rightOK
  have : (R.any fun x => x.2 && bad x.1) = true := List.any_eq_true.2 ⟨x, h, hx⟩
  rw [this]; rfl
theorem badS_not_blank {x : Sg} (h : badS x = true) : blankS x = false := by
  obtain ⟨c, b⟩ := x
  unfold badS at h
  unfold blankS
  simp only [Bool.and_eq_true] at h
  obtain ⟨rfl, h2⟩ := h
  simp only [Bool.true_and, decide_eq_false_iff_not]
  rintro rfl
  revert h2; decide
set_option maxHeartbeats 1100000 in
/-- THE PROGRAM'S WAY AND THE REFERENCE'S READ THE SAME PAIRS -/
theorem P_eq_R : ∀ (n : Nat) (l : List UInt8), l.length < n → PF n l = R l
  | 0, l, h => by omega
  | n + 1, l, h => by
    cases hk : kindP l with
    | none =>
      have hP : PF (n + 1) l = none := by rw [PF, hk]; rfl
      rw [hP]
      unfold R
      cases hs : signs l with
      | none => rfl
      | some L =>
        simp only [Option.bind_some]
        unfold refL
        cases hp : pairS (segs L).1 with
        | none => rfl
        | some p =>
          exfalso
          obtain ⟨A, V, h1, h2, h3, h4, h5, _⟩ := pairS_some hp
          -- all of A stands bare
          have hbare : ∀ x ∈ A, x.2 = true := by
            intro x hx
            by_cases hb : blankS x = true
            · unfold blankS at hb; simp only [Bool.and_eq_true] at hb; exact hb.1
            · exact List.all_eq_true.1 h3 x (trim_keep A x hx (by simpa using hb))
          have hA : A = (A.map (·.1)).map (·, true) := by
            rw [List.map_map]
            conv => lhs; rw [← List.map_id A]
            apply List.map_congr_left
            intro x hx
            have := hbare x hx
            obtain ⟨c, b⟩ := x
            simp only at this
            subst this
            rfl
          generalize A.map (·.1) = a at hA
          subst hA
          -- L begins with the segment
          have hL : ∃ M, L = (segs L).1 ++ M := by
            clear hs hp h1
            induction L with
            | nil => exact ⟨[], rfl⟩
            | cons x L ih =>
              obtain ⟨M, hM⟩ := ih
              unfold segs
              split
              · exact ⟨x :: L, rfl⟩
              · exact ⟨M, by rw [List.cons_append, ← hM]⟩
          obtain ⟨M, hM⟩ := hL
          rw [h1, List.append_assoc, List.cons_append] at hM
          rw [hM] at hs
          obtain ⟨r, rfl, _, hr⟩ := signs_of_bares a l _ hs
          obtain ⟨r2, rfl, _, _⟩ := signs_of_bare hr
          rw [trim_bare, List.map_map] at h4
          have e5 : ((fun x : Sg => x.1) ∘ fun x : UInt8 => (x, true)) = id := rfl
          rw [e5, List.map_id] at h4
          obtain ⟨x, y, e1, e2, e3⟩ := trimB_split a
          rw [e1] at hk
          rw [kindP_of x (trimB a) y r2 e2 e3 h4] at hk
          cases hk
    | some kr =>
      obtain ⟨t, r⟩ := kr
      obtain ⟨x, T, y, rfl, hx, hy, hT, rfl⟩ := kindP_some hk
      obtain ⟨hTne, hTm⟩ := type_mem hT
      have hall : ∀ c ∈ x ++ T ++ y, c ≠ 61 ∧ c ≠ 92 ∧ isSep c = false := by
        intro c hc
        rcases List.mem_append.1 hc with hc | hc
        · rcases List.mem_append.1 hc with hc | hc
          · rw [hx c hc]; decide
          · have := low_ch c (hTm c hc)
            exact ⟨this.2.1, this.2.2.1, by simp [isSep, this.2.2.2.1, this.2.2.2.2.1, this.2.2.2.2.2]⟩
        · rw [hy c hc]; decide
      have hsl : signs (x ++ T ++ y ++ 61 :: r) = (signs r).map (fun L => (x ++ T ++ y).map (·, true) ++ (61, true) :: L) := by
        rw [signs_app _ _ (fun h => (hall 92 h).2.1 rfl), signs_bare 61 r (by decide), Option.map_map]; rfl
      have hsep : ∀ z ∈ (x ++ T ++ y).map (·, true) ++ [((61, true) : Sg)], sepS z = false := by
        intro z hz
        rcases List.mem_append.1 hz with hz | hz
        · obtain ⟨c, hc, rfl⟩ := List.mem_map.1 hz
          simp [sepS, (hall c hc).2.2]
        · simp at hz; subst hz; decide
      have hps : ∀ V, pairS ((x ++ T ++ y).map (·, true) ++ (61, true) :: V) = if rightOK (trim V) = true then some (lowL T, (trim V).map (·.1)) else none := by
        intro V
        rw [pairS_at _ V (by intro z hz; obtain ⟨c, hc, rfl⟩ := List.mem_map.1 hz; simp [eqS, (hall c hc).1])]
        rw [trim_bare, trimB_of x T y hx hy hT, List.map_map]
        have e5 : ((fun x : Sg => x.1) ∘ fun x : UInt8 => (x, true)) = id := rfl
        rw [e5, List.map_id]
        have e6 : ((T.map fun c : UInt8 => ((c, true) : Sg)).all fun x => x.2) = true := by rw [List.all_map]; simp
        rw [e6]
        simp only [hT, true_and]
      -- the reference, by the signs of what is behind '='
      have hR : R (x ++ T ++ y ++ 61 :: r) = (signs r).bind fun L => refL ((x ++ T ++ y).map (·, true) ++ (61, true) :: (segs L).1, (segs L).2) := by
        unfold R
        rw [hsl]
        cases signs r with
        | none => rfl
        | some L =>
          simp only [Option.map_some, Option.bind_some]
          rw [show (x ++ T ++ y).map (·, true) ++ (61, true) :: L = ((x ++ T ++ y).map (·, true) ++ [((61, true) : Sg)]) ++ L from by simp, segs_app _ L hsep]
          simp
      rw [hR, PF, hk]
      simp only [Option.bind_some]
      clear hR hsl hsep hk
      -- the value
      obtain ⟨bl, hb1, hb2⟩ := dropW_split (fun c : UInt8 => decide (c = 32)) r
      unfold valueP
      generalize hr1 : r.dropWhile (fun c => decide (c = 32)) = r1 at *
      have hbl : ∀ c ∈ bl, c = 32 := fun c hc => by simpa using hb2 c hc
      have h92 : (92 : UInt8) ∉ bl := fun h => by have := hbl 92 h; revert this; decide
      have hsr : signs r = (signs r1).map (bl.map (·, true) ++ ·) := by rw [hb1, signs_app _ _ h92]
      have hblS : ∀ z ∈ bl.map (fun c => ((c, true) : Sg)), blankS z = true ∧ sepS z = false := by
        intro z hz
        obtain ⟨c, hc, rfl⟩ := List.mem_map.1 hz
        rw [hbl c hc]; decide
      have hrl : r1.length ≤ r.length := by rw [hb1, List.length_append]; omega
      have hnl : r.length ≤ n := by
        simp only [List.length_append, List.length_cons] at h
        have : T.length ≠ 0 := fun e => hTne (List.eq_nil_of_length_eq_zero e)
        omega
      rw [hsr]
      have htrim : ∀ V, trim (bl.map (·, true) ++ V) = trim V := by
        intro V
        unfold trim
        rw [dropW_app _ _ _ (fun z hz => (hblS z hz).1)]
      by_cases h35 : r1.head? = some 35
      · rw [if_pos h35]
        simp only [Option.bind_none]
        cases r1 with
        | nil => simp at h35
        | cons c r1 =>
          simp only [List.head?_cons, Option.some.injEq] at h35
          subst h35
          rw [signs_bare 35 r1 (by decide)]
          cases signs r1 with
          | none => rfl
          | some L =>
            simp only [Option.map_some, Option.bind_some]
            unfold refL
            simp only []
            rw [segs_app _ _ (fun z hz => (hblS z hz).2), hps, htrim]
            have : segs (((35, true) : Sg) :: L) = ((35, true) :: (segs L).1, (segs L).2) := by rw [segs, if_neg (by decide)]
            rw [this]
            simp only []
            have e7 : trim ((35, true) :: (segs L).1) = trimR ((35, true) :: (segs L).1) := by
              unfold trim
              rw [List.dropWhile_cons, if_neg (by decide)]
            obtain ⟨t', ht'⟩ := trimR_head ((35, true) : Sg) (segs L).1 (by decide)
            rw [e7, ht']
            have e8 : rightOK (((35, true) : Sg) :: t') = false := by unfold rightOK; simp
            rw [e8]
            simp
      · rw [if_neg h35]
        rcases scan_signs r1.length r1 (Nat.le_refl _) with ⟨e1, e2⟩ | ⟨B, e1, e2, e3⟩ | ⟨B, c, r3, e1, e2, e3, e4, e5⟩
        · rw [e1]
          simp only [Option.map_none, Option.bind_none]
          rcases e2 with e2 | ⟨L, e2, z, hz, hz2⟩
          · rw [e2]; rfl
          · rw [e2]
            simp only [Option.map_some, Option.bind_some]
            unfold refL
            simp only []
            rw [segs_app _ _ (fun z hz => (hblS z hz).2), hps, htrim]
            rw [rightOK_bad (trim_keep _ z hz (badS_not_blank hz2)) hz2]
            simp
        · -- the text ends
          have hB1 : trim B = trimR B ∧ rightOK (trimR B) = true := by
            refine ⟨?_, ?_⟩
            · unfold trim
              rw [dropW_id]
              intro z t hz
              subst hz
              cases r1 with
              | nil => rw [scan_nil] at e1; cases e1
              | cons c r1 =>
                rcases scan_head e1 with h' | ⟨B', h' | ⟨d, h'⟩⟩
                · cases h'
                · obtain ⟨h', _⟩ := h'
                  cases h'
                  have := dropW_head _ _ _ _ hr1
                  simpa [blankS] using this
                · cases h'; rfl
            · unfold rightOK
              have g1 : ((trimR B).any fun x => x.2 && bad x.1) = false := by
                rw [Bool.eq_false_iff]
                intro hh
                obtain ⟨z, hz, hz2⟩ := List.any_eq_true.1 hh
                have := (e3 z (trimR_mem B z hz)).2
                unfold badS at this
                rw [this] at hz2; cases hz2
              rw [g1]
              cases hB : trimR B with
              | nil => rfl
              | cons z t =>
                simp only [Bool.not_false, Bool.true_and]
                obtain ⟨a, ha, _⟩ := trimR_split B
                rw [hB, List.cons_append] at ha
                cases r1 with
                | nil => rw [scan_nil] at e1; cases e1; cases ha
                | cons c r1 =>
                  rcases scan_head e1 with h' | ⟨B', h' | ⟨d, h'⟩⟩
                  · rw [h'] at ha; cases ha
                  · obtain ⟨h', _⟩ := h'
                    rw [h'] at ha
                    cases ha
                    simp only [List.head?_cons, Option.some.injEq] at h35
                    simp [h35]
                  · rw [h'] at ha
                    cases ha
                    simp
          rw [e1, e2]
          simp only [Option.map_some, Option.bind_some]
          unfold refL
          simp only []
          rw [segs_app _ _ (fun z hz => (hblS z hz).2), segs_none B (fun z hz => (e3 z hz).1), hps, htrim]
          simp only []
          rw [hB1.1, hB1.2]
          simp
        · have hB1 : trim B = trimR B ∧ rightOK (trimR B) = true := by
            refine ⟨?_, ?_⟩
            · unfold trim
              rw [dropW_id]
              intro z t hz
              subst hz
              cases r1 with
              | nil => rw [scan_nil] at e1; cases e1
              | cons c r1 =>
                rcases scan_head e1 with h' | ⟨B', h' | ⟨d, h'⟩⟩
                · cases h'
                · obtain ⟨h', _⟩ := h'
                  cases h'
                  have := dropW_head _ _ _ _ hr1
                  simpa [blankS] using this
                · cases h'; rfl
            · unfold rightOK
              have g1 : ((trimR B).any fun x => x.2 && bad x.1) = false := by
                rw [Bool.eq_false_iff]
                intro hh
                obtain ⟨z, hz, hz2⟩ := List.any_eq_true.1 hh
                have := (e5 z (trimR_mem B z hz)).2
                unfold badS at this
                rw [this] at hz2; cases hz2
              rw [g1]
              cases hB : trimR B with
              | nil => rfl
              | cons z t =>
                simp only [Bool.not_false, Bool.true_and]
                obtain ⟨a, ha, _⟩ := trimR_split B
                rw [hB, List.cons_append] at ha
                cases r1 with
                | nil => rw [scan_nil] at e1; cases e1
                | cons c r1 =>
                  rcases scan_head e1 with h' | ⟨B', h' | ⟨d, h'⟩⟩
                  · rw [h'] at ha; cases ha
                  · obtain ⟨h', _⟩ := h'
                    rw [h'] at ha
                    cases ha
                    simp only [List.head?_cons, Option.some.injEq] at h35
                    simp [h35]
                  · rw [h'] at ha
                    cases ha
                    simp
          rw [e1, e4]
          simp only [Option.map_some, Option.bind_some, Option.map_map]
          rw [P_eq_R n r3 (by omega)]
          unfold R
          cases signs r3 with
          | none => rfl
          | some L =>
            simp only [Option.map_some, Option.bind_some, Function.comp]
            rw [segs_app _ _ (fun z hz => (hblS z hz).2), segs_at B c L (fun z hz => (e5 z hz).1) e2]
            simp only []
            rw [refL_cons, hps, htrim, hB1.1, hB1.2]
            simp
end dnp
end Go.Proofs.YtckpiaigoeicfaaGreatDoor
