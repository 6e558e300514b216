/- The walk of the reference's One: the rune at a place. -/
import Derived.Test.YtjjbmhndakmkbaaGreatDoorRuneW
import Derived.Deep.DeepCutAuto
namespace Go.Proofs.YtjjbmhndakmkbaaGreatDoor
open Go.RowKit
namespace prw
open run prp
set_option linter.unusedVariables false
set_option linter.unusedSimpArgs false
/-- one rune, as the walk hands it back -/
def oneV (l : List UInt8) : Ending := .returned (.tuple #[.int .i64 ((oneL l).1 : Int), .int .i64 ((oneL l).2 : Int)])
theorem ret_ii {a b c d : Int} (h : a = c) (h2 : b = d) : Ending.returned (.tuple #[.int .i64 a, .int .i64 b]) = .returned (.tuple #[.int .i64 c, .int .i64 d]) := by rw [h, h2]
theorem nth_at (s : ByteArray) (i k : Nat) (h : i + k < s.size) : nth (s.data.toList.drop i) k = (s[i + k]'h).toNat := by
  rw [← get_nth]
  have : s.get! (i + k) = s.data[i + k]! := rfl
  rw [this, getElem!_pos s.data (i + k) h]; rfl
theorem drop_len (s : ByteArray) (i : Nat) : (s.data.toList.drop i).length = s.size - i := by simp
def finI (v low n : Int) : Int × Int := if v < low ∨ 1114111 < v ∨ (55296 ≤ v ∧ v ≤ 57343) then (0, 0) else (v, n)
/-- what is left to do behind the first byte: f rounds -/
def restI (l : List UInt8) (n low : Int) : Nat → Nat → Int → Int × Int
  | 0, _, v => finI v low n
  | f + 1, k, v => if (nth l k : Int) < 128 ∨ 191 < (nth l k : Int) then (0, 0) else restI l n low f (k + 1) (v * 64 + (nth l k : Int) - 128)
/-- what the first byte says -/
def Cls (c n v low : Int) : Prop :=
  (194 ≤ c ∧ c < 224 ∧ n = 2 ∧ v = c - 192 ∧ low = 128) ∨ (224 ≤ c ∧ c < 240 ∧ n = 3 ∧ v = c - 224 ∧ low = 2048) ∨ (240 ≤ c ∧ c < 245 ∧ n = 4 ∧ v = c - 240 ∧ low = 65536) ∨ ((c < 194 ∨ 245 ≤ c) ∧ n = 0 ∧ v = 0 ∧ low = 0)
def oneI (l : List UInt8) (p : Int × Int) : Prop := oneV l = .returned (.tuple #[.int .i64 p.1, .int .i64 p.2])
theorem oneI_of {l : List UInt8} {p : Nat × Nat} (h : oneL l = p) (q : Int × Int) (h1 : q.1 = (p.1 : Int)) (h2 : q.2 = (p.2 : Int)) : oneI l q := by
  unfold oneI oneV; rw [h, h1, h2]
theorem cls_none {l : List UInt8} {c v low : Int} (h : Cls c 0 v low) (hc : c = (nth l 0 : Int)) (h1 : 128 ≤ c) : oneI l (0, 0) := by
  refine oneI_of (p := (0, 0)) ?_ _ rfl rfl
  unfold Cls at h
  unfold oneL oneR
  rw [if_neg (by omega), if_neg (by omega), if_neg (by omega), if_neg (by omega)]
theorem cls_short {l : List UInt8} {c n v low : Int} (h : Cls c n v low) (hc : c = (nth l 0 : Int)) (h1 : 128 ≤ c) (hn : (l.length : Int) < n) : oneI l (0, 0) := by
  refine oneI_of (p := (0, 0)) ?_ _ rfl rfl
  unfold Cls at h
  unfold oneL oneR
  rw [if_neg (by omega)]
  rcases h with h | h | h | h
  · rw [if_pos (by omega), if_neg (by omega)]
  · rw [if_neg (by omega), if_pos (by omega), if_neg (by omega)]
  · rw [if_neg (by omega), if_neg (by omega), if_pos (by omega), if_neg (by omega)]
  · omega
theorem finI_fin (V low n : Nat) : finI V low n = (((fin V low n).1 : Int), ((fin V low n).2 : Int)) := by
  unfold finI fin
  by_cases h : V < low ∨ 1114111 < V ∨ (55296 ≤ V ∧ V ≤ 57343)
  · rw [if_pos h, if_pos (by omega)]; rfl
  · rw [if_neg h, if_neg (by omega)]
set_option maxHeartbeats 1000000 in
theorem cls_rest {l : List UInt8} {c n v low : Int} (h : Cls c n v low) (hc : c = (nth l 0 : Int)) (h1 : 128 ≤ c) (hn : n ≤ (l.length : Int)) (h0 : n ≠ 0) : oneI l (restI l n low (n.toNat - 1) 1 v) := by
  unfold Cls at h
  rcases h with ⟨a1, a2, rfl, rfl, rfl⟩ | ⟨a1, a2, rfl, rfl, rfl⟩ | ⟨a1, a2, rfl, rfl, rfl⟩ | h
  · show oneI l (if (nth l 1 : Int) < 128 ∨ 191 < (nth l 1 : Int) then (0, 0) else finI ((c - 192) * 64 + (nth l 1 : Int) - 128) 128 2)
    by_cases d1 : cont (nth l 1)
    · unfold cont at d1
      rw [if_neg (by omega)]
      rw [show (c - 192) * 64 + (nth l 1 : Int) - 128 = (((nth l 0 - 192) * 64 + (nth l 1 - 128) : Nat) : Int) from by omega]
      refine oneI_of (p := fin ((nth l 0 - 192) * 64 + (nth l 1 - 128)) 128 2) ?_ _ (by rw [show (128 : Int) = ((128 : Nat) : Int) from rfl, show (2 : Int) = ((2 : Nat) : Int) from rfl, finI_fin]) (by rw [show (128 : Int) = ((128 : Nat) : Int) from rfl, show (2 : Int) = ((2 : Nat) : Int) from rfl, finI_fin])
      unfold oneL oneR cont
      rw [if_neg (by omega), if_pos (by omega), if_pos (by omega)]
    · rw [if_pos (by unfold cont at d1; omega)]
      refine oneI_of (p := (0, 0)) ?_ _ rfl rfl
      unfold oneL oneR
      rw [if_neg (by omega), if_pos (by omega), if_neg (by rintro ⟨_, g⟩; exact d1 g)]
  · show oneI l (if (nth l 1 : Int) < 128 ∨ 191 < (nth l 1 : Int) then (0, 0) else if (nth l 2 : Int) < 128 ∨ 191 < (nth l 2 : Int) then (0, 0) else finI (((c - 224) * 64 + (nth l 1 : Int) - 128) * 64 + (nth l 2 : Int) - 128) 2048 3)
    by_cases d : cont (nth l 1) ∧ cont (nth l 2)
    · unfold cont at d
      rw [if_neg (by omega), if_neg (by omega)]
      rw [show ((c - 224) * 64 + (nth l 1 : Int) - 128) * 64 + (nth l 2 : Int) - 128 = ((((nth l 0 - 224) * 64 + (nth l 1 - 128)) * 64 + (nth l 2 - 128) : Nat) : Int) from by omega]
      refine oneI_of (p := fin (((nth l 0 - 224) * 64 + (nth l 1 - 128)) * 64 + (nth l 2 - 128)) 2048 3) ?_ _ (by rw [show (2048 : Int) = ((2048 : Nat) : Int) from rfl, show (3 : Int) = ((3 : Nat) : Int) from rfl, finI_fin]) (by rw [show (2048 : Int) = ((2048 : Nat) : Int) from rfl, show (3 : Int) = ((3 : Nat) : Int) from rfl, finI_fin])
      unfold oneL oneR cont
      rw [if_neg (by omega), if_neg (by omega), if_pos (by omega), if_pos (by omega)]
    · have e : (if (nth l 1 : Int) < 128 ∨ 191 < (nth l 1 : Int) then ((0, 0) : Int × Int) else if (nth l 2 : Int) < 128 ∨ 191 < (nth l 2 : Int) then (0, 0) else finI (((c - 224) * 64 + (nth l 1 : Int) - 128) * 64 + (nth l 2 : Int) - 128) 2048 3) = (0, 0) := by
        unfold cont at d
        by_cases d1 : (nth l 1 : Int) < 128 ∨ 191 < (nth l 1 : Int)
        · rw [if_pos d1]
        · rw [if_neg d1, if_pos (by omega)]
      rw [e]
      refine oneI_of (p := (0, 0)) ?_ _ rfl rfl
      unfold oneL oneR
      rw [if_neg (by omega), if_neg (by omega), if_pos (by omega), if_neg (by rintro ⟨_, g⟩; exact d g)]
  · show oneI l (if (nth l 1 : Int) < 128 ∨ 191 < (nth l 1 : Int) then (0, 0) else if (nth l 2 : Int) < 128 ∨ 191 < (nth l 2 : Int) then (0, 0) else if (nth l 3 : Int) < 128 ∨ 191 < (nth l 3 : Int) then (0, 0) else finI ((((c - 240) * 64 + (nth l 1 : Int) - 128) * 64 + (nth l 2 : Int) - 128) * 64 + (nth l 3 : Int) - 128) 65536 4)
    by_cases d : cont (nth l 1) ∧ cont (nth l 2) ∧ cont (nth l 3)
    · unfold cont at d
      rw [if_neg (by omega), if_neg (by omega), if_neg (by omega)]
      rw [show (((c - 240) * 64 + (nth l 1 : Int) - 128) * 64 + (nth l 2 : Int) - 128) * 64 + (nth l 3 : Int) - 128 = (((((nth l 0 - 240) * 64 + (nth l 1 - 128)) * 64 + (nth l 2 - 128)) * 64 + (nth l 3 - 128) : Nat) : Int) from by omega]
      refine oneI_of (p := fin ((((nth l 0 - 240) * 64 + (nth l 1 - 128)) * 64 + (nth l 2 - 128)) * 64 + (nth l 3 - 128)) 65536 4) ?_ _ (by rw [show (65536 : Int) = ((65536 : Nat) : Int) from rfl, show (4 : Int) = ((4 : Nat) : Int) from rfl, finI_fin]) (by rw [show (65536 : Int) = ((65536 : Nat) : Int) from rfl, show (4 : Int) = ((4 : Nat) : Int) from rfl, finI_fin])
      unfold oneL oneR cont
      rw [if_neg (by omega), if_neg (by omega), if_neg (by omega), if_pos (by omega), if_pos (by omega)]
    · have e : (if (nth l 1 : Int) < 128 ∨ 191 < (nth l 1 : Int) then ((0, 0) : Int × Int) else if (nth l 2 : Int) < 128 ∨ 191 < (nth l 2 : Int) then (0, 0) else if (nth l 3 : Int) < 128 ∨ 191 < (nth l 3 : Int) then (0, 0) else finI ((((c - 240) * 64 + (nth l 1 : Int) - 128) * 64 + (nth l 2 : Int) - 128) * 64 + (nth l 3 : Int) - 128) 65536 4) = (0, 0) := by
        unfold cont at d
        by_cases d1 : (nth l 1 : Int) < 128 ∨ 191 < (nth l 1 : Int)
        · rw [if_pos d1]
        · by_cases d2 : (nth l 2 : Int) < 128 ∨ 191 < (nth l 2 : Int)
          · rw [if_neg d1, if_pos d2]
          · rw [if_neg d1, if_neg d2, if_pos (by omega)]
      rw [e]
      refine oneI_of (p := (0, 0)) ?_ _ rfl rfl
      unfold oneL oneR
      rw [if_neg (by omega), if_neg (by omega), if_neg (by omega), if_pos (by omega), if_neg (by rintro ⟨_, g⟩; exact d g)]
  · omega
/-- how great v may be at round k -/
def Vbd (k : Nat) (v : Int) : Prop := 0 ≤ v ∧ ((k = 1 ∧ v < 32) ∨ (k = 2 ∧ v < 2048) ∨ (k = 3 ∧ v < 131072) ∨ (k = 4 ∧ v < 8388608))
theorem restI_stop {l : List UInt8} {n low : Int} {f k : Nat} {v : Int} (h : oneI l (restI l n low (f + 1) k v)) (hd : (nth l k : Int) < 128 ∨ 191 < (nth l k : Int)) : oneI l (0, 0) := by
  have e : restI l n low (f + 1) k v = (0, 0) := if_pos hd
  rw [e] at h; exact h
theorem restI_on {l : List UInt8} {n low : Int} {f k : Nat} {v : Int} (h : oneI l (restI l n low (f + 1) k v)) (hd : ¬ ((nth l k : Int) < 128 ∨ 191 < (nth l k : Int))) : oneI l (restI l n low f (k + 1) (v * 64 + (nth l k : Int) - 128)) := by
  have e : restI l n low (f + 1) k v = restI l n low f (k + 1) (v * 64 + (nth l k : Int) - 128) := if_neg hd
  rw [e] at h; exact h
def BadV (v low : Int) : Prop := v < low ∨ 1114111 < v ∨ (55296 ≤ v ∧ v ≤ 57343)
theorem finI_bad {v low : Int} (n : Int) (hd : BadV v low) : finI v low n = (0, 0) := if_pos hd
theorem finI_ok {v low : Int} (n : Int) (hd : ¬ BadV v low) : finI v low n = (v, n) := if_neg hd
theorem restI_bad {l : List UInt8} {n low : Int} {k : Nat} {v : Int} (h : oneI l (restI l n low 0 k v)) (hd : BadV v low) : oneI l (0, 0) := by
  have e : restI l n low 0 k v = finI v low n := rfl
  rw [e, finI_bad n hd] at h; exact h
theorem restI_ok {l : List UInt8} {n low : Int} {k : Nat} {v : Int} (h : oneI l (restI l n low 0 k v)) (hd : ¬ BadV v low) : oneI l (v, n) := by
  have e : restI l n low 0 k v = finI v low n := rfl
  rw [e, finI_ok n hd] at h; exact h
set_option maxRecDepth 20000 in
set_option maxHeartbeats 4000000 in
theorem one_2 (s : ByteArray) (i : Nat) (w : World) (hi : i < s.size) (hs : s.size ≤ 1000000) (c1 : 194 ≤ ((s[i]'hi).toNat : Int)) (c2 : ((s[i]'hi).toNat : Int) < 224) : Calls Tryz.prog 88 #[.string s, .int .i64 (i : Int)] w fun e w' => e = oneV (s.data.toList.drop i) ∧ w = w' := by
  have E0 : Hid (nth (s.data.toList.drop i) 0 = (s[i]'hi).toNat) := nth_at s i 0 (by omega)
  have LL := drop_len s i
  have c0 : ¬ ((s[i]'hi).toNat : Int) < 128 := by omega
  have HC : Cls ((s[i]'hi).toNat : Int) 2 (((s[i]'hi).toNat : Int) - 192) 128 := by unfold Cls; omega
  by_cases hl : (i : Int) + 2 ≤ (s.size : Int)
  · have hl' : ¬ (s.size : Int) < (i : Int) + 2 := by omega
    have HR : Hid (oneI (s.data.toList.drop i) (restI (s.data.toList.drop i) 2 128 1 1 (((s[i]'hi).toNat : Int) - 192))) := cls_rest HC (by rw [E0.out]) (by omega) (by rw [LL]; omega) (by omega)
    clear LL HC
    go_enter Tryz.func88, Tryz.ntmps88
    go_wp2_with fail
    go_loop [8, 10, 11] (fun vv kv dv => ∃ (k : Nat) (v : Int), vv = .int .i64 v ∧ kv = .int .i64 (k : Int) ∧ 1 ≤ k ∧ k ≤ 2 ∧ Hid (Vbd k v) ∧ Hid (oneI (s.data.toList.drop i) (restI (s.data.toList.drop i) 2 128 (2 - k) k v))) (fun _ kv _ => 2 - (intOf kv).toNat)
    case atStart => exact ⟨1, _, rfl, rfl, by omega, by omega, by show Vbd _ _; unfold Vbd; omega, HR⟩
    case round =>
      obtain ⟨k, v, rfl, rfl, hk1, hk2, HV, HP⟩ := hrel
      by_cases hkn : k < 2
      · have hkn' : (k : Int) < 2 := by omega
        have hik : i + k < s.size := by omega
        have hik' : (i : Int) + (k : Int) < (s.size : Int) := by omega
        have hik0 : 0 ≤ (i : Int) + (k : Int) := by omega
        have EK : Hid (nth (s.data.toList.drop i) k = (s[i + k]'hik).toNat) := nth_at s i k hik
        have g256 : ((s[i + k]'hik).toNat : Int) < 256 := by have := (s[i + k]'hik).toNat_lt; omega
        have d0 : 0 ≤ ((s[i + k]'hik).toNat : Int) := by omega
        have HF : Hid (2 - k = (2 - (k + 1)) + 1) := by show _ = _; omega
        rw [HF.out] at HP
        by_cases hd : ((s[i + k]'hik).toNat : Int) < 128
        · have HE : Hid (oneI (s.data.toList.drop i) (0, 0)) := restI_stop HP.out (by rw [EK.out]; exact Or.inl hd)
          clear HP
          go_wp2_with fail
          go_ret2
          exact ⟨HE.out.symm, rfl⟩
        · by_cases hd2 : 191 < ((s[i + k]'hik).toNat : Int)
          · have HE : Hid (oneI (s.data.toList.drop i) (0, 0)) := restI_stop HP.out (by rw [EK.out]; exact Or.inr hd2)
            clear HP
            go_wp2_with fail
            go_ret2
            exact ⟨HE.out.symm, rfl⟩
          · have HE : Hid (oneI (s.data.toList.drop i) (restI (s.data.toList.drop i) 2 128 (2 - (k + 1)) (k + 1) (v * 64 + ((s[i + k]'hik).toNat : Int) - 128))) := by
              have := restI_on HP.out (by rw [EK.out]; omega)
              rw [EK.out] at this
              exact this
            have v1 : 0 ≤ v := HV.out.1
            have v2 : v < 8388608 := by have := HV.out; unfold Vbd at this; omega
            have HV2 : Hid (Vbd (k + 1) (v * 64 + ((s[i + k]'hik).toNat : Int) - 128)) := by
              have := HV.out
              show Vbd _ _
              unfold Vbd at this ⊢
              omega
            clear HP
            go_wp2_with fail
            go_round
            case rel => exact ⟨k + 1, _, rfl, by go_num, by omega, by omega, HV2, HE⟩
            case measure => simp [intOf]; omega
      · obtain rfl : k = 2 := by omega
        have v1 : 0 ≤ v := HV.out.1
        have v2 : v < 8388608 := by have := HV.out; unfold Vbd at this; omega
        go_wp2_with fail
        all_goals
          go_ret2
          refine ⟨?_, rfl⟩
          first
            | exact (restI_bad HP.out (by unfold BadV; omega)).symm
            | exact (restI_ok HP.out (by unfold BadV; omega)).symm
  · have hl' : (s.size : Int) < (i : Int) + 2 := by omega
    have HE : Hid (oneI (s.data.toList.drop i) (0, 0)) := cls_short HC (by rw [E0.out]) (by omega) (by rw [LL]; omega)
    clear LL HC
    go_enter Tryz.func88, Tryz.ntmps88
    go_wp2_with fail
    go_ret2
    exact ⟨HE.out.symm, rfl⟩
set_option maxRecDepth 20000 in
set_option maxHeartbeats 4000000 in
theorem one_3 (s : ByteArray) (i : Nat) (w : World) (hi : i < s.size) (hs : s.size ≤ 1000000) (c1 : 224 ≤ ((s[i]'hi).toNat : Int)) (c2 : ((s[i]'hi).toNat : Int) < 240) : Calls Tryz.prog 88 #[.string s, .int .i64 (i : Int)] w fun e w' => e = oneV (s.data.toList.drop i) ∧ w = w' := by
  have E0 : Hid (nth (s.data.toList.drop i) 0 = (s[i]'hi).toNat) := nth_at s i 0 (by omega)
  have LL := drop_len s i
  have c0 : ¬ ((s[i]'hi).toNat : Int) < 128 := by omega
  have HC : Cls ((s[i]'hi).toNat : Int) 3 (((s[i]'hi).toNat : Int) - 224) 2048 := by unfold Cls; omega
  by_cases hl : (i : Int) + 3 ≤ (s.size : Int)
  · have hl' : ¬ (s.size : Int) < (i : Int) + 3 := by omega
    have HR : Hid (oneI (s.data.toList.drop i) (restI (s.data.toList.drop i) 3 2048 2 1 (((s[i]'hi).toNat : Int) - 224))) := cls_rest HC (by rw [E0.out]) (by omega) (by rw [LL]; omega) (by omega)
    clear LL HC
    go_enter Tryz.func88, Tryz.ntmps88
    go_wp2_with fail
    go_loop [8, 10, 11] (fun vv kv dv => ∃ (k : Nat) (v : Int), vv = .int .i64 v ∧ kv = .int .i64 (k : Int) ∧ 1 ≤ k ∧ k ≤ 3 ∧ Hid (Vbd k v) ∧ Hid (oneI (s.data.toList.drop i) (restI (s.data.toList.drop i) 3 2048 (3 - k) k v))) (fun _ kv _ => 3 - (intOf kv).toNat)
    case atStart => exact ⟨1, _, rfl, rfl, by omega, by omega, by show Vbd _ _; unfold Vbd; omega, HR⟩
    case round =>
      obtain ⟨k, v, rfl, rfl, hk1, hk2, HV, HP⟩ := hrel
      by_cases hkn : k < 3
      · have hkn' : (k : Int) < 3 := by omega
        have hik : i + k < s.size := by omega
        have hik' : (i : Int) + (k : Int) < (s.size : Int) := by omega
        have hik0 : 0 ≤ (i : Int) + (k : Int) := by omega
        have EK : Hid (nth (s.data.toList.drop i) k = (s[i + k]'hik).toNat) := nth_at s i k hik
        have g256 : ((s[i + k]'hik).toNat : Int) < 256 := by have := (s[i + k]'hik).toNat_lt; omega
        have d0 : 0 ≤ ((s[i + k]'hik).toNat : Int) := by omega
        have HF : Hid (3 - k = (3 - (k + 1)) + 1) := by show _ = _; omega
        rw [HF.out] at HP
        by_cases hd : ((s[i + k]'hik).toNat : Int) < 128
        · have HE : Hid (oneI (s.data.toList.drop i) (0, 0)) := restI_stop HP.out (by rw [EK.out]; exact Or.inl hd)
          clear HP
          go_wp2_with fail
          go_ret2
          exact ⟨HE.out.symm, rfl⟩
        · by_cases hd2 : 191 < ((s[i + k]'hik).toNat : Int)
          · have HE : Hid (oneI (s.data.toList.drop i) (0, 0)) := restI_stop HP.out (by rw [EK.out]; exact Or.inr hd2)
            clear HP
            go_wp2_with fail
            go_ret2
            exact ⟨HE.out.symm, rfl⟩
          · have HE : Hid (oneI (s.data.toList.drop i) (restI (s.data.toList.drop i) 3 2048 (3 - (k + 1)) (k + 1) (v * 64 + ((s[i + k]'hik).toNat : Int) - 128))) := by
              have := restI_on HP.out (by rw [EK.out]; omega)
              rw [EK.out] at this
              exact this
            have v1 : 0 ≤ v := HV.out.1
            have v2 : v < 8388608 := by have := HV.out; unfold Vbd at this; omega
            have HV2 : Hid (Vbd (k + 1) (v * 64 + ((s[i + k]'hik).toNat : Int) - 128)) := by
              have := HV.out
              show Vbd _ _
              unfold Vbd at this ⊢
              omega
            clear HP
            go_wp2_with fail
            go_round
            case rel => exact ⟨k + 1, _, rfl, by go_num, by omega, by omega, HV2, HE⟩
            case measure => simp [intOf]; omega
      · obtain rfl : k = 3 := by omega
        have v1 : 0 ≤ v := HV.out.1
        have v2 : v < 8388608 := by have := HV.out; unfold Vbd at this; omega
        go_wp2_with fail
        all_goals
          go_ret2
          refine ⟨?_, rfl⟩
          first
            | exact (restI_bad HP.out (by unfold BadV; omega)).symm
            | exact (restI_ok HP.out (by unfold BadV; omega)).symm
  · have hl' : (s.size : Int) < (i : Int) + 3 := by omega
    have HE : Hid (oneI (s.data.toList.drop i) (0, 0)) := cls_short HC (by rw [E0.out]) (by omega) (by rw [LL]; omega)
    clear LL HC
    go_enter Tryz.func88, Tryz.ntmps88
    go_wp2_with fail
    go_ret2
    exact ⟨HE.out.symm, rfl⟩
set_option maxRecDepth 20000 in
set_option maxHeartbeats 4000000 in
theorem one_4 (s : ByteArray) (i : Nat) (w : World) (hi : i < s.size) (hs : s.size ≤ 1000000) (c1 : 240 ≤ ((s[i]'hi).toNat : Int)) (c2 : ((s[i]'hi).toNat : Int) < 245) : Calls Tryz.prog 88 #[.string s, .int .i64 (i : Int)] w fun e w' => e = oneV (s.data.toList.drop i) ∧ w = w' := by
  have E0 : Hid (nth (s.data.toList.drop i) 0 = (s[i]'hi).toNat) := nth_at s i 0 (by omega)
  have LL := drop_len s i
  have c0 : ¬ ((s[i]'hi).toNat : Int) < 128 := by omega
  have HC : Cls ((s[i]'hi).toNat : Int) 4 (((s[i]'hi).toNat : Int) - 240) 65536 := by unfold Cls; omega
  by_cases hl : (i : Int) + 4 ≤ (s.size : Int)
  · have hl' : ¬ (s.size : Int) < (i : Int) + 4 := by omega
    have HR : Hid (oneI (s.data.toList.drop i) (restI (s.data.toList.drop i) 4 65536 3 1 (((s[i]'hi).toNat : Int) - 240))) := cls_rest HC (by rw [E0.out]) (by omega) (by rw [LL]; omega) (by omega)
    clear LL HC
    go_enter Tryz.func88, Tryz.ntmps88
    go_wp2_with fail
    go_loop [8, 10, 11] (fun vv kv dv => ∃ (k : Nat) (v : Int), vv = .int .i64 v ∧ kv = .int .i64 (k : Int) ∧ 1 ≤ k ∧ k ≤ 4 ∧ Hid (Vbd k v) ∧ Hid (oneI (s.data.toList.drop i) (restI (s.data.toList.drop i) 4 65536 (4 - k) k v))) (fun _ kv _ => 4 - (intOf kv).toNat)
    case atStart => exact ⟨1, _, rfl, rfl, by omega, by omega, by show Vbd _ _; unfold Vbd; omega, HR⟩
    case round =>
      obtain ⟨k, v, rfl, rfl, hk1, hk2, HV, HP⟩ := hrel
      by_cases hkn : k < 4
      · have hkn' : (k : Int) < 4 := by omega
        have hik : i + k < s.size := by omega
        have hik' : (i : Int) + (k : Int) < (s.size : Int) := by omega
        have hik0 : 0 ≤ (i : Int) + (k : Int) := by omega
        have EK : Hid (nth (s.data.toList.drop i) k = (s[i + k]'hik).toNat) := nth_at s i k hik
        have g256 : ((s[i + k]'hik).toNat : Int) < 256 := by have := (s[i + k]'hik).toNat_lt; omega
        have d0 : 0 ≤ ((s[i + k]'hik).toNat : Int) := by omega
        have HF : Hid (4 - k = (4 - (k + 1)) + 1) := by show _ = _; omega
        rw [HF.out] at HP
        by_cases hd : ((s[i + k]'hik).toNat : Int) < 128
        · have HE : Hid (oneI (s.data.toList.drop i) (0, 0)) := restI_stop HP.out (by rw [EK.out]; exact Or.inl hd)
          clear HP
          go_wp2_with fail
          go_ret2
          exact ⟨HE.out.symm, rfl⟩
        · by_cases hd2 : 191 < ((s[i + k]'hik).toNat : Int)
          · have HE : Hid (oneI (s.data.toList.drop i) (0, 0)) := restI_stop HP.out (by rw [EK.out]; exact Or.inr hd2)
            clear HP
            go_wp2_with fail
            go_ret2
            exact ⟨HE.out.symm, rfl⟩
          · have HE : Hid (oneI (s.data.toList.drop i) (restI (s.data.toList.drop i) 4 65536 (4 - (k + 1)) (k + 1) (v * 64 + ((s[i + k]'hik).toNat : Int) - 128))) := by
              have := restI_on HP.out (by rw [EK.out]; omega)
              rw [EK.out] at this
              exact this
            have v1 : 0 ≤ v := HV.out.1
            have v2 : v < 8388608 := by have := HV.out; unfold Vbd at this; omega
            have HV2 : Hid (Vbd (k + 1) (v * 64 + ((s[i + k]'hik).toNat : Int) - 128)) := by
              have := HV.out
              show Vbd _ _
              unfold Vbd at this ⊢
              omega
            clear HP
            go_wp2_with fail
            go_round
            case rel => exact ⟨k + 1, _, rfl, by go_num, by omega, by omega, HV2, HE⟩
            case measure => simp [intOf]; omega
      · obtain rfl : k = 4 := by omega
        have v1 : 0 ≤ v := HV.out.1
        have v2 : v < 8388608 := by have := HV.out; unfold Vbd at this; omega
        go_wp2_with fail
        all_goals
          go_ret2
          refine ⟨?_, rfl⟩
          first
            | exact (restI_bad HP.out (by unfold BadV; omega)).symm
            | exact (restI_ok HP.out (by unfold BadV; omega)).symm
  · have hl' : (s.size : Int) < (i : Int) + 4 := by omega
    have HE : Hid (oneI (s.data.toList.drop i) (0, 0)) := cls_short HC (by rw [E0.out]) (by omega) (by rw [LL]; omega)
    clear LL HC
    go_enter Tryz.func88, Tryz.ntmps88
    go_wp2_with fail
    go_ret2
    exact ⟨HE.out.symm, rfl⟩
set_option maxRecDepth 20000 in
set_option maxHeartbeats 4000000 in
theorem one_any (s : ByteArray) (i : Nat) (w : World) (hi : i < s.size) (hs : s.size ≤ 1000000) : Calls Tryz.prog 88 #[.string s, .int .i64 (i : Int)] w fun e w' => e = oneV (s.data.toList.drop i) ∧ w = w' := by
  have E0 : Hid (nth (s.data.toList.drop i) 0 = (s[i]'hi).toNat) := nth_at s i 0 (by omega)
  by_cases c0 : ((s[i]'hi).toNat : Int) < 128
  · have E : Hid (oneV (s.data.toList.drop i) = .returned (.tuple #[.int .i64 ((s[i]'hi).toNat : Int), .int .i64 1])) := by
      refine oneI_of (p := ((s[i]'hi).toNat, 1)) ?_ (((s[i]'hi).toNat : Int), 1) rfl rfl
      have e0 := E0.out
      unfold oneL oneR
      rw [if_pos (by omega), e0]
    have d0 : 0 ≤ ((s[i]'hi).toNat : Int) := by omega
    clear E0
    go_enter Tryz.func88, Tryz.ntmps88
    go_wp2_with fail
    go_ret2
    exact ⟨E.out.symm, rfl⟩
  · by_cases c2 : 194 ≤ ((s[i]'hi).toNat : Int) ∧ ((s[i]'hi).toNat : Int) < 224
    · exact one_2 s i w hi hs c2.1 c2.2
    · by_cases c3 : 224 ≤ ((s[i]'hi).toNat : Int) ∧ ((s[i]'hi).toNat : Int) < 240
      · exact one_3 s i w hi hs c3.1 c3.2
      · by_cases c4 : 240 ≤ ((s[i]'hi).toNat : Int) ∧ ((s[i]'hi).toNat : Int) < 245
        · exact one_4 s i w hi hs c4.1 c4.2
        · have HE : Hid (oneI (s.data.toList.drop i) (0, 0)) := cls_none (c := ((s[i]'hi).toNat : Int)) (v := 0) (low := 0) (by unfold Cls; omega) (by rw [E0.out]) (by omega)
          have g256 : ((s[i]'hi).toNat : Int) < 256 := by have := (s[i]'hi).toNat_lt; omega
          have f0 : 128 ≤ ((s[i]'hi).toNat : Int) := by omega
          clear E0 c0
          by_cases a1 : ((s[i]'hi).toNat : Int) < 194
          · have a2 : ((s[i]'hi).toNat : Int) < 224 := by omega
            have a3 : ((s[i]'hi).toNat : Int) < 240 := by omega
            clear c2 c3 c4
            go_enter Tryz.func88, Tryz.ntmps88
            go_wp2_with fail
            go_ret2
            exact ⟨HE.out.symm, rfl⟩
          · have a2 : 245 ≤ ((s[i]'hi).toNat : Int) := by omega
            have a4 : 240 ≤ ((s[i]'hi).toNat : Int) := by omega
            have a5 : 224 ≤ ((s[i]'hi).toNat : Int) := by omega
            clear c2 c3 c4
            go_enter Tryz.func88, Tryz.ntmps88
            go_wp2_with fail
            go_ret2
            exact ⟨HE.out.symm, rfl⟩
end prw
end Go.Proofs.YtjjbmhndakmkbaaGreatDoor
