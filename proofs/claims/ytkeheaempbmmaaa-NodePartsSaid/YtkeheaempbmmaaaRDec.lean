/- The walk of the reference's Decode: read one behind the other. -/
import Derived.Test.YtkeheaempbmmaaaDec
import Derived.Test.YtkeheaempbmmaaaFieldU
namespace Go.Proofs.Ytkeheaempbmmaaa
open Go.RowKit
namespace nod
open fldw
theorem takeT_end {s : List UInt8} {a : Int} {k : List UInt8} {p : Nat} (h : fld.takeT s a = .ok (k, p)) : p ≤ s.length := by
  unfold fld.takeT at h
  split at h
  · cases h
  · split at h
    · cases h
    · injection h with h
      injection h with h1 h2
      omega
/-- where the reading stands -/
def AtCell (leaf : Bool) (s : ByteArray) (n i a : Nat) (acc : List Cel) : Prop := ∀ m, Good leaf m s → n = m.length ∧ i ≤ m.length ∧ acc = m.take i ∧ a = 2 + 2 * m.length + lens leaf (m.take i)
theorem atCell_step {leaf : Bool} {s : ByteArray} {n i a : Nat} {acc : List Cel} (h : AtCell leaf s n i a acc) (hi : i < n) (c : Cel) (b : Nat) (hc : ∀ d, ok leaf d = true → Reads leaf s.data.toList a d → c = d ∧ b = a + len leaf d) : AtCell leaf s n (i + 1) b (acc ++ [c]) := by
  intro m hm
  obtain ⟨h1, h2, h3, h4⟩ := h m hm
  have hr := good_at hm i (by omega)
  rw [← h4] at hr
  obtain ⟨e1, e2⟩ := hc _ (hm.1.2 i (by omega)).1 hr
  refine ⟨h1, by omega, ?_, ?_⟩
  · rw [List.take_succ_eq_append_getElem (by omega), h3, e1]
  · rw [lens_take leaf m i (by omega), e2, h4]
    omega
theorem atCell_no {leaf : Bool} {s : ByteArray} {n i a : Nat} {acc : List Cel} (h : AtCell leaf s n i a acc) (hi : i < n) (hc : ∀ d, ok leaf d = true → ¬ Reads leaf s.data.toList a d) : ∀ m, ¬ Good leaf m s := by
  intro m hm
  obtain ⟨h1, h2, h3, h4⟩ := h m hm
  have hr := good_at hm i (by omega)
  rw [← h4] at hr
  exact hc _ (hm.1.2 i (by omega)).1 hr
/-- behind the loop -/
theorem atCell_end {leaf : Bool} {s : ByteArray} {n i a : Nat} {acc : List Cel} (h : AtCell leaf s n i a acc) (hi : ¬ (i < n ∧ a < s.size)) : ∀ m, Good leaf m s → m = acc := by
  intro m hm
  obtain ⟨h1, h2, h3, h4⟩ := h m hm
  by_cases e : i = m.length
  · rw [h3, e, List.take_of_length_le (Nat.le_refl _)]
  · exfalso
    apply hi
    refine ⟨by omega, ?_⟩
    have hs := good_size hm
    rw [sum_lens] at hs
    have h5 := lens_take leaf m i (by omega)
    have h6 := lens_le leaf m (i + 1)
    have h7 : 0 < len leaf m[i] := by unfold len; omega
    omega
/-- what a round reads: a cell and the place behind it -/
def rstep (leaf : Bool) (s : List UInt8) (a : Nat) : Option (Cel × Nat) :=
  match fld.takeT s (a : Int) with
  | .error _ => none
  | .ok (k, p) =>
    if leaf then
      if num0 (fld.take s (p : Int) 1) = 1 then some (⟨⟨k.toArray⟩, ⟨#[]⟩, num0 (fld.take s ((p : Int) + 1) 4), num0 (fld.take s ((p : Int) + 5) 4), 0⟩, p + 9)
      else match fld.takeT s ((p : Int) + 1) with
        | .error _ => none
        | .ok (v, e) => some (⟨⟨k.toArray⟩, ⟨v.toArray⟩, 0, 0, 0⟩, e)
    else some (⟨⟨k.toArray⟩, ⟨#[]⟩, 0, 0, num0 (fld.take s (p : Int) 4)⟩, p + 4)
theorem rstep_of {leaf : Bool} {s : List UInt8} {a : Nat} {c : Cel} (h : Reads leaf s a c) : rstep leaf s a = some (c, a + len leaf c) := by
  obtain ⟨hT, hb, hl, hv⟩ := h
  unfold rstep
  rw [hT]
  cases leaf with
  | false =>
    obtain ⟨h1, h2, h3⟩ := hb rfl
    simp only [Bool.false_eq_true, if_false, h1, num0, len]
    rw [← h2]
    congr 1
    rw [Prod.mk.injEq]
    refine ⟨?_, by omega⟩
    conv => rhs; rw [h3]
  | true =>
    by_cases ho : 0 < c.over
    · obtain ⟨h1, h2, h3, h4, h5, h6⟩ := hl rfl ho
      simp only [if_true, h1, h2, h3, num0, len, ho]
      rw [← h4, ← h5]
      congr 1
      rw [Prod.mk.injEq]
      refine ⟨?_, by omega⟩
      conv => rhs; rw [h6]
    · obtain ⟨h1, h2, h3⟩ := hv rfl ho
      simp only [if_true, h1, h2, num0, len, ho]
      rw [if_neg (by omega)]
      simp only [if_false]
      congr 1
      rw [Prod.mk.injEq]
      refine ⟨?_, by omega⟩
      conv => rhs; rw [h3]
theorem atCell_some {leaf : Bool} {s : ByteArray} {n i a : Nat} {acc : List Cel} (h : AtCell leaf s n i a acc) (hi : i < n) {c : Cel} {b : Nat} (hc : rstep leaf s.data.toList a = some (c, b)) : AtCell leaf s n (i + 1) b (acc ++ [c]) := by
  refine atCell_step h hi c b fun d _ hr => ?_
  rw [rstep_of hr] at hc
  cases hc
  exact ⟨rfl, rfl⟩
theorem atCell_none {leaf : Bool} {s : ByteArray} {n i a : Nat} {acc : List Cel} (h : AtCell leaf s n i a acc) (hi : i < n) (hc : rstep leaf s.data.toList a = none) : ∀ m, ¬ Good leaf m s := by
  refine atCell_no h hi fun d _ hr => ?_
  rw [rstep_of hr] at hc
  cases hc
theorem num0_lt (s : List UInt8) (a k : Int) (hk : k ≤ 4) : num0 (fld.take s a k) < 4294967296 := by
  obtain ⟨n, er, _, h, _, hb⟩ := take_form s a k hk
  omega
theorem num0_lt2 (s : List UInt8) (a : Int) : num0 (fld.take s a 2) < 65536 := by
  unfold fld.take
  split
  · simp [num0]
  · split
    · simp [num0]
    · have h1 : fld.num ((s.drop a.toNat).take (2 : Int).toNat) < 256 ^ 2 := fld.num_le (by rw [List.length_take]; exact Nat.min_le_left _ _)
      have h2 : (256 : Nat) ^ 2 = 65536 := by decide
      show fld.num ((s.drop a.toNat).take (2 : Int).toNat) < _
      omega
theorem tt_err {s : List UInt8} {a : Int} {e : Int} (h : fld.takeT s a = .error e) : (e == 0) = false := by
  obtain ⟨v, q, er, h1, h2, _⟩ := tt_form s a
  rw [h] at h1 h2
  unfold ttV at h1
  simp only [Value.tuple.injEq, Array.mk.injEq, List.cons.injEq, Value.int.injEq] at h1
  obtain ⟨_, _, ⟨_, rfl⟩, _⟩ := h1
  simpa [isOk] using h2
set_option maxRecDepth 20000 in
set_option maxHeartbeats 4000000 in
theorem rdecode_any (leaf : Bool) (s : ByteArray) (w : World) (hs : s.size ≤ 1000000) :
    Calls Try.prog 8 #[.bool leaf, .string s] w fun e w' => DecE leaf s e w' ∧ Below w.heap.size w w' := by
  by_cases h488 : 488 < s.size
  · have HN : Hid (∀ m, ¬ Good leaf m s) := fun m hm => by
      have h1 := good_size hm
      have h2 := hm.2.1
      omega
    have h4' : 488 < (s.size : Int) := by omega
    go_enter Try.func8, Try.ntmps8
    go_wp2_with fail
    go_ret2
    exact ⟨decE_no HN.out, Below.refl _ _⟩
  · have h4' : ¬ 488 < (s.size : Int) := by omega
    have A0 := Lib.hid (fun w => at_any s 0 2 w hs (by omega) (by omega) (by omega) (by omega))
    have hnb := num0_lt2 s.data.toList 0
    have hn2 : Hid (∀ m, Good leaf m s → num0 (fld.take s.data.toList 0 2) = m.length) := fun m hm => by rw [good_take0 hm]; rfl
    generalize num0 (fld.take s.data.toList 0 2) = n at A0 hnb hn2
    have H488 := Lib.hid h488
    clear h488
    have hss : s.size ≤ 488 := by have := H488.out; omega
    go_enter Try.func8, Try.ntmps8
    go_wp2_with fail
    refine (A0.out _).mono ?_
    rintro e w1 ⟨rfl, rfl⟩
    go_wp2_with fail
    go_loopw [6, 8, 9] (fun lv av iv wr => ∃ (i a : Nat) (acc : List Cel) (v : Value), i ≤ n ∧ v = lv ∧ iv = .int .i64 i ∧ av = .int .i64 a ∧ a ≤ 2000000 ∧ Hid (AtCell leaf s n i a acc) ∧ Hid (acc.length = i) ∧ Hid (∀ c ∈ acc, c.key.size ≤ 1000000 ∧ c.val.size ≤ 1000000) ∧ Hid (OwnC wr w.heap.size v acc) ∧ Below w.heap.size w wr) (fun _ _ iv _ => n - (intOf iv).toNat)
    case atStart => exact ⟨0, 2 + 2 * n, [], _, Nat.zero_le _, rfl, rfl, by go_num, by omega, fun m hm => ⟨hn2.out m hm, Nat.zero_le _, rfl, by rw [← hn2.out m hm]; rfl⟩, rfl, (fun c hc => by simp at hc), World.ownsRow_made w #[] 0 (Nat.le_refl _) (by unfold maxLen; omega) rfl, (Below.refl _ _).alloc (Nat.le_refl _) _⟩
    case round =>
      obtain ⟨i, a, acc, v, hi, rfl, rfl, rfl, ha, hA, hlen, hsm, hO, hB⟩ := hrel
      have hsz := hB.size
      by_cases hin : i < n
      · by_cases has : a < s.size
        · have hin' : (i : Int) < (n : Int) := by omega
          have has' : (a : Int) < (s.size : Int) := by omega
          have hal : acc.length ≤ 65536 := by have := hlen.out; omega
          have T := Lib.hid (fun w => rtaketext_any s (a : Int) w hs (by omega) (by omega))
          obtain ⟨R, hR⟩ : ∃ R, Hid (R = rstep leaf s.data.toList a) := ⟨_, rfl⟩
          have hR2 := hR.out
          unfold rstep at hR2
          cases hT : fld.takeT s.data.toList (a : Int) with
          | error er =>
            have her := tt_err hT
            rw [hT] at T hR2
            simp only at hR2
            have HST : Hid (∀ m, ¬ Good leaf m s) := atCell_none hA.out hin (by rw [← hR.out, hR2])
            unfold ttV at T
            simp only at T
            clear hT hR2
            go_wp2_with fail
            refine (T.out _).mono ?_
            rintro e w2 ⟨rfl, hB2⟩
            obtain ⟨o1, hbl⟩ := one5 wr hB2
            clear o1
            go_wp2_with fail
            go_ret2
            exact ⟨decE_no HST.out, hB.trans (hbl.mono hsz)⟩
          | ok r =>
            obtain ⟨kl, p⟩ := r
            have hp : p ≤ s.size := by have := takeT_end hT; rwa [kt.size_len] at this
            have hkl : kl.length ≤ 488 := by have := takeT_le hT; rw [kt.size_len] at this; omega
            rw [hT] at T hR2
            unfold ttV at T
            simp only at T hR2
            obtain ⟨k, hk⟩ : ∃ k : ByteArray, Hid (k = ⟨kl.toArray⟩) := ⟨_, rfl⟩
            rw [← hk.out] at T hR2
            have hks : k.size ≤ 1000000 := by
              have : k.size = kl.length := by rw [hk.out, ← kt.size_len]
              omega
            have HKS := Lib.hid hks
            clear hT hkl hks
            cases leaf with
            | false =>
              have A4 := Lib.hid (fun w => at_any s (p : Int) 4 w hs (by omega) (by omega) (by omega) (by omega))
              simp only [Bool.false_eq_true, if_false] at hR2
              have hcb := num0_lt s.data.toList (p : Int) 4 (by omega)
              generalize num0 (fld.take s.data.toList (p : Int) 4) = ch at A4 hR2 hcb
              have HST : Hid (rstep false s.data.toList a = some (⟨k, ⟨#[]⟩, 0, 0, (ch : Int)⟩, p + 4)) := by rw [← hR.out]; exact hR2
              have HSM : Hid (∀ c ∈ acc ++ [⟨k, ⟨#[]⟩, 0, 0, (ch : Int)⟩], c.key.size ≤ 1000000 ∧ c.val.size ≤ 1000000) := by
                intro c hc
                rcases List.mem_append.1 hc with h | h
                · exact hsm.out c h
                · simp at h; subst h; exact ⟨HKS.out, Nat.zero_le _⟩
              clear hR2
              go_wp2_with fail
              refine (T.out _).mono ?_
              rintro e w2 ⟨rfl, hB2⟩
              obtain ⟨o1, hbl⟩ := one5 wr hB2
              obtain ⟨⟨p0, p1, p2, p3, p4⟩, pf⟩ := five o1
              have y0 := pf 0
              have y4 := pf 4
              have hszb := hbl.size
              clear pf o1
              go_wp2_with fail
              refine (A4.out _).mono ?_
              rintro e w3 ⟨rfl, rfl⟩
              have HBX : Hid (Below wr.heap.size wr ((w2.setCell ⟨wr.heap.size, 0, none⟩ (.string k)).setCell ⟨wr.heap.size, 4, none⟩ (.int .i64 (ch : Int)))) := (hbl.setCell (p := ⟨wr.heap.size, 0, none⟩) (Nat.le_refl _) _).setCell (p := ⟨wr.heap.size, 4, none⟩) (Nat.le_refl _) _
              obtain ⟨v', w3, hap, hO3, hB3⟩ := ownC_app ⟨k, ⟨#[]⟩, 0, 0, (ch : Int)⟩ (kt.rowS_below hO.out HBX.out) (by omega) (by have := HBX.out.size; omega)
              simp only [World.size_setCell] at hap
              have HO3 := Lib.hid hO3
              have HB3 := Lib.hid hB3
              clear hO3 hB3
              go_wp2_with (at_builtin; refine Lib.wpList_append_run _ rfl _ _ _ _ rfl _ _ rfl rfl _ _ hap ?_)
              go_roundw
              case rel => exact ⟨i + 1, p + 4, acc ++ [⟨k, ⟨#[]⟩, 0, 0, (ch : Int)⟩], v', by omega, rfl, by go_num, by go_num, by omega, atCell_some hA.out hin HST.out, (by show _ = _; rw [List.length_append, hlen.out]; rfl), HSM, HO3, (hB.trans (HBX.out.mono hsz)).trans HB3.out⟩
              case measure => simp [intOf]; omega
            | true =>
              have A1 := Lib.hid (fun w => at_any s (p : Int) 1 w hs (by omega) (by omega) (by omega) (by omega))
              simp only [if_true] at hR2
              have hkb := num0_lt s.data.toList (p : Int) 1 (by omega)
              generalize num0 (fld.take s.data.toList (p : Int) 1) = kd at A1 hR2 hkb
              by_cases hkd : kd = 1
              · subst hkd
                have A2 := Lib.hid (fun w => at_any s ((p : Int) + 1) 4 w hs (by omega) (by omega) (by omega) (by omega))
                have A3 := Lib.hid (fun w => at_any s ((p : Int) + 5) 4 w hs (by omega) (by omega) (by omega) (by omega))
                rw [if_pos rfl] at hR2
                have hcb := num0_lt s.data.toList ((p : Int) + 1) 4 (by omega)
                have hcc := num0_lt s.data.toList ((p : Int) + 5) 4 (by omega)
                generalize num0 (fld.take s.data.toList ((p : Int) + 1) 4) = ov at A2 hR2 hcb
                generalize num0 (fld.take s.data.toList ((p : Int) + 5) 4) = sz at A3 hR2 hcc
                have HST : Hid (rstep true s.data.toList a = some (⟨k, ⟨#[]⟩, (ov : Int), (sz : Int), 0⟩, p + 9)) := by rw [← hR.out]; exact hR2
                have HSM : Hid (∀ c ∈ acc ++ [⟨k, ⟨#[]⟩, (ov : Int), (sz : Int), 0⟩], c.key.size ≤ 1000000 ∧ c.val.size ≤ 1000000) := by
                  intro c hc
                  rcases List.mem_append.1 hc with h | h
                  · exact hsm.out c h
                  · simp at h; subst h; exact ⟨HKS.out, Nat.zero_le _⟩
                clear hR2
                go_wp2_with fail
                refine (T.out _).mono ?_
                rintro e w2 ⟨rfl, hB2⟩
                obtain ⟨o1, hbl⟩ := one5 wr hB2
                obtain ⟨⟨p0, p1, p2, p3, p4⟩, pf⟩ := five o1
                have y0 := pf 0
                have y2 := pf 2
                have y3 := pf 3
                have hszb := hbl.size
                clear pf o1
                go_wp2_with fail
                refine (A1.out _).mono ?_
                rintro e w3 ⟨rfl, rfl⟩
                go_wp2_with fail
                refine (A2.out _).mono ?_
                rintro e w3 ⟨rfl, rfl⟩
                go_wp2_with fail
                refine (A3.out _).mono ?_
                rintro e w3 ⟨rfl, rfl⟩
                have HBX : Hid (Below wr.heap.size wr (((w2.setCell ⟨wr.heap.size, 0, none⟩ (.string k)).setCell ⟨wr.heap.size, 2, none⟩ (.int .i64 (ov : Int))).setCell ⟨wr.heap.size, 3, none⟩ (.int .i64 (sz : Int)))) := ((hbl.setCell (p := ⟨wr.heap.size, 0, none⟩) (Nat.le_refl _) _).setCell (p := ⟨wr.heap.size, 2, none⟩) (Nat.le_refl _) _).setCell (p := ⟨wr.heap.size, 3, none⟩) (Nat.le_refl _) _
                obtain ⟨v', w3, hap, hO3, hB3⟩ := ownC_app ⟨k, ⟨#[]⟩, (ov : Int), (sz : Int), 0⟩ (kt.rowS_below hO.out HBX.out) (by omega) (by have := HBX.out.size; omega)
                simp only [World.size_setCell] at hap
                have HO3 := Lib.hid hO3
                have HB3 := Lib.hid hB3
                clear hO3 hB3
                go_wp2_with (at_builtin; refine Lib.wpList_append_run _ rfl _ _ _ _ rfl _ _ rfl rfl _ _ hap ?_)
                go_roundw
                case rel => exact ⟨i + 1, p + 9, acc ++ [⟨k, ⟨#[]⟩, (ov : Int), (sz : Int), 0⟩], v', by omega, rfl, by go_num, by go_num, by omega, atCell_some hA.out hin HST.out, (by show _ = _; rw [List.length_append, hlen.out]; rfl), HSM, HO3, (hB.trans (HBX.out.mono hsz)).trans HB3.out⟩
                case measure => simp [intOf]; omega
              · rw [if_neg hkd] at hR2
                have hkd' : ((kd : Int) == 1) = false := by rw [beq_eq_false_iff_ne]; omega
                have T2 := Lib.hid (fun w => rtaketext_any s ((p : Int) + 1) w hs (by omega) (by omega))
                clear hkd
                cases hT : fld.takeT s.data.toList ((p : Int) + 1) with
                | error er =>
                  have her := tt_err hT
                  rw [hT] at T2 hR2
                  simp only at hR2
                  have HST : Hid (∀ m, ¬ Good true m s) := atCell_none hA.out hin (by rw [← hR.out, hR2])
                  unfold ttV at T2
                  simp only at T2
                  clear hT hR2
                  go_wp2_with fail
                  refine (T.out _).mono ?_
                  rintro e w2 ⟨rfl, hB2⟩
                  obtain ⟨o1, hbl⟩ := one5 wr hB2
                  obtain ⟨⟨p0, p1, p2, p3, p4⟩, pf⟩ := five o1
                  have y0 := pf 0
                  have hszb := hbl.size
                  clear pf o1
                  go_wp2_with fail
                  refine (A1.out _).mono ?_
                  rintro e w3 ⟨rfl, rfl⟩
                  go_wp2_with fail
                  refine (T2.out _).mono ?_
                  rintro e w4 ⟨rfl, hB4⟩
                  have hb4 := ((hbl.setCell (p := ⟨wr.heap.size, 0, none⟩) (Nat.le_refl _) _)).trans (hB4.mono ((hbl.setCell (p := ⟨wr.heap.size, 0, none⟩) (Nat.le_refl _) _)).size)
                  go_wp2_with fail
                  go_ret2
                  exact ⟨decE_no HST.out, hB.trans (hb4.mono hsz)⟩
                | ok r =>
                  obtain ⟨vl, q⟩ := r
                  have hq : q ≤ s.size := by have := takeT_end hT; rwa [kt.size_len] at this
                  have hvl : vl.length ≤ 488 := by have := takeT_le hT; rw [kt.size_len] at this; omega
                  rw [hT] at T2 hR2
                  unfold ttV at T2
                  simp only at T2 hR2
                  obtain ⟨vv, hv⟩ : ∃ v : ByteArray, Hid (v = ⟨vl.toArray⟩) := ⟨_, rfl⟩
                  rw [← hv.out] at T2 hR2
                  have hvs : vv.size ≤ 1000000 := by
                    have : vv.size = vl.length := by rw [hv.out, ← kt.size_len]
                    omega
                  have HVS := Lib.hid hvs
                  clear hT hvl hvs
                  have HST : Hid (rstep true s.data.toList a = some (⟨k, vv, 0, 0, 0⟩, q)) := by rw [← hR.out]; exact hR2
                  have HSM : Hid (∀ c ∈ acc ++ [⟨k, vv, 0, 0, 0⟩], c.key.size ≤ 1000000 ∧ c.val.size ≤ 1000000) := by
                    intro c hc
                    rcases List.mem_append.1 hc with h | h
                    · exact hsm.out c h
                    · simp at h; subst h; exact ⟨HKS.out, HVS.out⟩
                  clear hR2
                  go_wp2_with fail
                  refine (T.out _).mono ?_
                  rintro e w2 ⟨rfl, hB2⟩
                  obtain ⟨o1, hbl⟩ := one5 wr hB2
                  have o1' : (w2.setCell ⟨wr.heap.size, 0, none⟩ (.string k)).heap[wr.heap.size]? = some (.cells #[.string k, .string ⟨#[]⟩, .int .i64 0, .int .i64 0, .int .i64 0] 35 (0, 0)) := set_same (j := 0) o1 (.string k)
                  obtain ⟨⟨p0, p1, p2, p3, p4⟩, pf⟩ := five o1
                  have y0 := pf 0
                  have hszb := hbl.size
                  clear pf o1
                  go_wp2_with fail
                  refine (A1.out _).mono ?_
                  rintro e w3 ⟨rfl, rfl⟩
                  go_wp2_with fail
                  refine (T2.out _).mono ?_
                  rintro e w4 ⟨rfl, hB4⟩
                  have hb4 := ((hbl.setCell (p := ⟨wr.heap.size, 0, none⟩) (Nat.le_refl _) _)).trans (hB4.mono ((hbl.setCell (p := ⟨wr.heap.size, 0, none⟩) (Nat.le_refl _) _)).size)
                  have m1 := (hB4.block _ (bld_lt o1')).trans o1'
                  obtain ⟨⟨g0, g1, g2, g3, g4⟩, gf⟩ := five m1
                  have z1 := gf 1
                  have hszc := hb4.size
                  clear gf m1 o1' p0 p1 p2 p3 p4
                  have HBX : Hid (Below wr.heap.size wr (w4.setCell ⟨wr.heap.size, 1, none⟩ (.string vv))) := hb4.setCell (p := ⟨wr.heap.size, 1, none⟩) (Nat.le_refl _) _
                  obtain ⟨v', w3, hap, hO3, hB3⟩ := ownC_app ⟨k, vv, 0, 0, 0⟩ (kt.rowS_below hO.out HBX.out) (by omega) (by have := HBX.out.size; omega)
                  simp only [World.size_setCell] at hap
                  have HO3 := Lib.hid hO3
                  have HB3 := Lib.hid hB3
                  clear hO3 hB3
                  go_wp2_with (at_builtin; refine Lib.wpList_append_run _ rfl _ _ _ _ rfl _ _ rfl rfl _ _ hap ?_)
                  go_roundw
                  case rel => exact ⟨i + 1, q, acc ++ [⟨k, vv, 0, 0, 0⟩], v', by omega, rfl, by go_num, by go_num, by omega, atCell_some hA.out hin HST.out, (by show _ = _; rw [List.length_append, hlen.out]; rfl), HSM, HO3, (hB.trans (HBX.out.mono hsz)).trans HB3.out⟩
                  case measure => simp [intOf]; omega
        · have has' : ¬ (a : Int) < (s.size : Int) := by omega
          have HE : Hid (∀ m, Good leaf m s → m = acc) := atCell_end hA.out (by omega)
          obtain ⟨ao, cap, rfl, hcl⟩ := ownC_slice hO.out
          have E := Lib.hid (rencode_any leaf ao cap acc wr hcl hsm (by have := hlen.out; omega))
          have HCL := Lib.hid hcl
          clear hcl
          go_wp2_with fail
          refine E.out.mono ?_
          rintro e w2 ⟨⟨x, er, rfl, hX⟩, hB2⟩
          have HB : Below w.heap.size w w2 := hB.trans (hB2.mono hsz)
          have HC2 : Hid (Cels w2 ao acc) := cels_below HCL.out hB2
          by_cases he : er = 0
          · subst he
            by_cases hx : x = s
            · have HG : Hid (Good leaf acc s) := dec_yes hX hx
              subst hx
              clear hX
              go_wp2_with fail
              go_ret2
              exact ⟨⟨ao, cap, acc, 0, rfl, Or.inl ⟨rfl, HG.out⟩, HC2.out⟩, HB⟩
            · have HN2 : Hid (∀ m, ¬ Good leaf m s) := fun m hm => dec_no hX (fun h => hx h.2) (by rw [← HE.out m hm]; exact hm)
              have hx' := str_ne hx
              clear hX hx
              go_wp2_with fail
              go_ret2
              exact ⟨decE_no HN2.out, HB⟩
          · have HN2 : Hid (∀ m, ¬ Good leaf m s) := fun m hm => dec_no hX (fun h => he h.1) (by rw [← HE.out m hm]; exact hm)
            have he' : (er != 0) = true := by simpa using he
            have he2 : (er == 0) = false := by simpa using he
            clear hX he
            go_wp2_with fail
            go_ret2
            exact ⟨decE_no HN2.out, HB⟩
      · have hin' : ¬ (i : Int) < (n : Int) := by omega
        have HE : Hid (∀ m, Good leaf m s → m = acc) := atCell_end hA.out (by omega)
        obtain ⟨ao, cap, rfl, hcl⟩ := ownC_slice hO.out
        have E := Lib.hid (rencode_any leaf ao cap acc wr hcl hsm (by have := hlen.out; omega))
        have HCL := Lib.hid hcl
        clear hcl
        go_wp2_with fail
        refine E.out.mono ?_
        rintro e w2 ⟨⟨x, er, rfl, hX⟩, hB2⟩
        have HB : Below w.heap.size w w2 := hB.trans (hB2.mono hsz)
        have HC2 : Hid (Cels w2 ao acc) := cels_below HCL.out hB2
        by_cases he : er = 0
        · subst he
          by_cases hx : x = s
          · have HG : Hid (Good leaf acc s) := dec_yes hX hx
            subst hx
            clear hX
            go_wp2_with fail
            go_ret2
            exact ⟨⟨ao, cap, acc, 0, rfl, Or.inl ⟨rfl, HG.out⟩, HC2.out⟩, HB⟩
          · have HN2 : Hid (∀ m, ¬ Good leaf m s) := fun m hm => dec_no hX (fun h => hx h.2) (by rw [← HE.out m hm]; exact hm)
            have hx' := str_ne hx
            clear hX hx
            go_wp2_with fail
            go_ret2
            exact ⟨decE_no HN2.out, HB⟩
        · have HN2 : Hid (∀ m, ¬ Good leaf m s) := fun m hm => dec_no hX (fun h => he h.1) (by rw [← HE.out m hm]; exact hm)
          have he' : (er != 0) = true := by simpa using he
          have he2 : (er == 0) = false := by simpa using he
          clear hX he
          go_wp2_with fail
          go_ret2
          exact ⟨decE_no HN2.out, HB⟩
end nod
end Go.Proofs.Ytkeheaempbmmaaa
