/- The walk of the statement DnSame. -/
import Derived.Test.YtjjbmhndakmkbaaDoorAwakeW
import Derived.Test.YtjjbmhndakmkbaaDoorParseV
import Derived.Test.YtjjbmhndakmkbaaDoorRTextW
import Derived.Test.YtjjbmhndakmkbaaDoorLongW
import Derived.Test.YtjjbmhndakmkbaaDoorKeyAll
import Derived.Test.YtjjbmhndakmkbaaDoorSameP
namespace Go.Proofs.YtjjbmhndakmkbaaDoor
open Go.RowKit
namespace dnw
open dnp
set_option linter.unusedVariables false
set_option linter.unusedSimpArgs false
theorem add_run2 (a b c : ByteArray) (h : c = a ++ b) (hs : a.size + b.size ≤ 1000000) (W : World) : (Op.stringOp .add a b).run Tryd.prog W = .ok (.string c) W := by
  rw [h]; exact run_string_add_sum W _ _ (by omega)
def RowOK (l : List Av) : Prop := l.length ≤ 4 ∧ ∀ x ∈ l, typeOK x.t.data.toList = true ∧ valOK x.v.data.toList = true
theorem ptU_len {x : Av} (h : typeOK x.t.data.toList = true ∧ valOK x.v.data.toList = true) : (pt upL [32] x).length ≤ 800 := by
  have h1 := typeOK_le h.1
  have h2 := valOK_le h.2
  have h3 := textF_len true x.v.data.toList
  unfold pt textL upL
  simp only [List.length_append, List.length_map, List.length_cons, List.length_nil]
  omega
theorem rdnU_len {l : List Av} (h : RowOK l) : (rdnT upL [32] l).length ≤ 3300 := by
  cases l with
  | nil => simp [rdnT]
  | cons a r =>
    have h1 := ptU_len (h.2 a (by simp))
    have h2 := flat_len_le (fun a => [32] ++ 43 :: ([32] ++ pt upL [32] a)) 803 r (fun x hx => by
      have := ptU_len (h.2 x (by simp [hx]))
      simp only [List.length_append, List.length_cons, List.length_nil]; omega)
    have h4 := h.1
    simp only [List.length_cons] at h4
    have : r.length * 803 ≤ 3 * 803 := Nat.mul_le_mul_right _ (by omega)
    show (pt upL [32] a ++ tailR upL [32] r).length ≤ _
    unfold tailR
    rw [List.length_append]
    omega
theorem nameU_len {m : List (List Av)} (h : ∀ l ∈ m, RowOK l) (hm : m.length ≤ 13) : (nameT upL [32] 59 m).length ≤ 50000 := by
  cases m with
  | nil => simp [nameT]
  | cons l r =>
    have h1 := rdnU_len (h l (by simp))
    have h2 := flat_len_le (fun l => [32] ++ 59 :: ([32] ++ rdnT upL [32] l)) 3303 r (fun x hx => by
      have := rdnU_len (h x (by simp [hx]))
      simp only [List.length_append, List.length_cons, List.length_nil]; omega)
    simp only [List.length_cons] at hm
    have : r.length * 3303 ≤ 12 * 3303 := Nat.mul_le_mul_right _ (by omega)
    show (rdnT upL [32] l ++ tailN upL [32] 59 r).length ≤ _
    unfold tailN
    rw [List.length_append]
    omega
theorem rowOK_of {l : List Av} (h : rdnOK l = true) : RowOK l := ⟨(rdnOK_facts h).2.1, rdnOK_av h⟩
theorem midU_len {m : List (List Av)} {r : List Av} (h : ∀ l ∈ m, RowOK l) (hm : m.length ≤ 12) (hr : RowOK r) : (midT upL [32] 59 m r).length ≤ 50000 := by
  unfold midT
  split
  · exact nameU_len h (by omega)
  · refine nameU_len (fun l hl => ?_) (by simp; omega)
    rcases List.mem_append.1 hl with hl | hl
    · exact h l hl
    · simp only [List.mem_singleton] at hl
      rw [hl]; exact hr
theorem turnL_get (turn : Bool) (l : List Av) (k : Nat) (hk : k < l.length) : ∃ q, ∃ hq : q < l.length, (turn = true → q = l.length - 1 - k) ∧ (turn = false → q = k) ∧ (turnL turn l)[k]'(by rw [turnL_len]; exact hk) = l[q] := by
  cases turn with
  | true => exact ⟨l.length - 1 - k, by omega, fun _ => rfl, (fun h => by cases h), by simp [turnL]⟩
  | false => exact ⟨k, hk, (fun h => by cases h), fun _ => rfl, by simp [turnL]⟩
/-- what the loops of the statement carry -/
def wrAt (turn : Bool) (n : List (List Av)) (i : Nat) (r : List Av) : List UInt8 := midT upL [32] 59 ((turnN turn n).take i) r
theorem wrAt_len {turn : Bool} {n : List (List Av)} (h : nameOK n = true) (i : Nat) {l r : List Av} (hl : rdnOK l = true) (hr : ∀ x ∈ r, x ∈ l) (h4 : r.length ≤ 4) : (wrAt turn n i r).length ≤ 50000 := by
  have hok := nameOK_facts (turnN_ok turn h)
  exact midU_len (fun l hl => rowOK_of (hok.2 l (List.mem_of_mem_take hl))) (by rw [List.length_take]; omega) ⟨h4, fun x hx => rdnOK_av hl x (hr x hx)⟩
set_option maxRecDepth 20000 in
set_option maxHeartbeats 8000000 in
theorem dnsame_any (ao : Option Addr) (cap : Nat) (n : List (List Av)) (turn : Bool) (w : World) (hE : Hid (prw.Env w)) (hT : Hid (Tabs w)) (hR : Rdns w ao n) (hc : n.length ≤ cap) (hm : n.length ≤ 9223372036854775807) (hk : ∀ l ∈ n, l.length ≤ 9223372036854775807) :
    Calls Tryd.prog 5 #[.slice ao n.length cap, .bool turn] w fun e w' => e = .returned (.bool true) ∧ Below w.heap.size w w' := by
  clear hc hm hk
  have HR := Lib.hid hR
  have CA := Lib.hid (awake_any w hE hT)
  obtain ⟨m, hm⟩ : ∃ m, m = n.length := ⟨_, rfl⟩
  have HM := Lib.hid hm
  rw [← hm]
  have HLg : Hid (∀ W, Below w.heap.size w W → Calls Tryd.prog 10 #[.slice ao m cap] W fun e w' => LongE n e ∧ W = w') := by
    intro W hb
    have := long_any ao cap n W (Lib.hid (rdns_below HR.out hb))
    rw [← hm] at this
    exact this
  clear hm hR
  go_enter Tryd.func5, Tryd.ntmps5
  go_wp2_with fail
  refine CA.out.mono ?_
  rintro e w1 ⟨rfl, hB1⟩
  have HB1 := Lib.hid hB1
  have HL1 := Lib.hid (HLg.out w1 hB1)
  clear hB1
  go_wp2_with fail
  refine HL1.out.mono ?_
  rintro e w2 ⟨⟨lg, rfl, hlg⟩, rfl⟩
  cases lg with
  | true =>
    go_wp2_with fail
    go_ret
    exact ⟨rfl, HB1.out⟩
  | false =>
    have hsm := hlg rfl
    have HSM := Lib.hid hsm
    have HSS : Hid (∀ l ∈ n, l.length ≤ 4 → Smalls l) := fun l hl _ => smallN_smalls hsm l hl
    have HEb : Hid (∀ W, Below w.heap.size w W → Hid (prw.Env W)) := fun W hb => Lib.hid (prw.env_below hE.out hb)
    have HTb : Hid (∀ W, Below w.heap.size w W → Hid (Tabs W)) := fun W hb => Lib.hid (tabs_below hT.out hb)
    have HPr : Hid (Calls Tryd.prog 11 #[.slice ao m cap] w1 fun e w' => PrintE n e ∧ Below w1.heap.size w1 w') := by
      have := print_any ao cap n w1 (Lib.hid (rdns_below HR.out HB1.out)) (HEb.out w1 HB1.out) HSS
      rw [← HM.out] at this
      exact this
    have HSnn : Hid (∀ W, Below w.heap.size w W → Calls Tryd.prog 16 #[.slice ao m cap, .slice ao m cap] W fun e w' => e = .returned (.bool (sameR n n)) ∧ Below W.heap.size W w') := by
      intro W hb
      have := same_any ao ao cap cap n n W (Lib.hid (rdns_below HR.out hb)) (Lib.hid (rdns_below HR.out hb)) (HEb.out W hb) (HTb.out W hb) HSS HSS
      rw [← HM.out] at this
      exact this
    have hcase : (nameOK n = false ∧ printR n = ([], 4)) ∨ (nameOK n = true ∧ printR n = ([], 5)) ∨ (nameOK n = true ∧ ∃ t, printR n = (t, 0)) := by
      unfold printR
      cases h : nameOK n with
      | false => exact Or.inl ⟨rfl, by simp⟩
      | true =>
        by_cases h2 : 1000 < (nameX n).length
        · exact Or.inr (Or.inl ⟨rfl, by simp [h2]⟩)
        · exact Or.inr (Or.inr ⟨rfl, nameX n, by simp [h2]⟩)
    clear hlg hsm
    rcases hcase with ⟨hok, hpr⟩ | ⟨hok, hpr⟩ | ⟨hok, t, hpr⟩
    · have HP2 : Hid (Calls Tryd.prog 11 #[.slice ao m cap] w1 fun e w' => e = .returned (.tuple #[.string ⟨#[]⟩, .int .i64 4]) ∧ Below w1.heap.size w1 w') := by
        refine HPr.out.mono fun e w' h => ⟨?_, h.2⟩
        have h1 := h.1
        unfold PrintE at h1
        rw [hpr] at h1
        exact h1
      have HS2 : Hid (∀ W, Below w.heap.size w W → Calls Tryd.prog 16 #[.slice ao m cap, .slice ao m cap] W fun e w' => e = .returned (.bool false) ∧ Below W.heap.size W w') := by
        intro W hb
        have := HSnn.out W hb
        rw [same_bad hok] at this
        exact this
      clear hok hpr HPr HSnn
      go_wp2_with fail
      refine HP2.out.mono ?_
      rintro e w2 ⟨rfl, hB2⟩
      have HB2 := Lib.hid (HB1.out.trans (hB2.mono HB1.out.size))
      clear hB2
      go_wp2_with fail
      refine (HS2.out _ HB2.out).mono ?_
      rintro e w3 ⟨rfl, hB3⟩
      go_wp2_with fail
      go_ret
      exact ⟨rfl, HB2.out.trans (hB3.mono HB2.out.size)⟩
    · have HP2 : Hid (Calls Tryd.prog 11 #[.slice ao m cap] w1 fun e w' => e = .returned (.tuple #[.string ⟨#[]⟩, .int .i64 5]) ∧ Below w1.heap.size w1 w') := by
        refine HPr.out.mono fun e w' h => ⟨?_, h.2⟩
        have h1 := h.1
        unfold PrintE at h1
        rw [hpr] at h1
        exact h1
      have HS2 : Hid (∀ W, Below w.heap.size w W → Calls Tryd.prog 16 #[.slice ao m cap, .slice ao m cap] W fun e w' => e = .returned (.bool true) ∧ Below W.heap.size W w') := by
        intro W hb
        have := HSnn.out W hb
        rw [(under_turn false hok).2.2.2] at this
        exact this
      clear hok hpr HPr HSnn
      go_wp2_with fail
      refine HP2.out.mono ?_
      rintro e w2 ⟨rfl, hB2⟩
      have HB2 := Lib.hid (HB1.out.trans (hB2.mono HB1.out.size))
      clear hB2
      go_wp2_with fail
      refine (HS2.out _ HB2.out).mono ?_
      rintro e w3 ⟨rfl, hB3⟩
      go_wp2_with fail
      go_ret
      exact ⟨rfl, HB2.out.trans (hB3.mono HB2.out.size)⟩
    · have HP2 : Hid (Calls Tryd.prog 11 #[.slice ao m cap] w1 fun e w' => e = .returned (.tuple #[.string (bytes t), .int .i64 0]) ∧ Below w1.heap.size w1 w') := by
        refine HPr.out.mono fun e w' h => ⟨?_, h.2⟩
        have h1 := h.1
        unfold PrintE at h1
        rw [hpr] at h1
        exact h1
      have HOK := Lib.hid hok
      have hf := nameOK_facts hok
      have hm12 : m ≤ 12 := by rw [HM.out]; exact hf.1
      have HL := Lib.hid hf.2
      clear hok hpr HPr hf
      generalize bytes t = pt0 at HP2
      go_wp2_with fail
      refine HP2.out.mono ?_
      rintro e w2 ⟨rfl, hB2⟩
      have HB2 := Lib.hid (HB1.out.trans (hB2.mono HB1.out.size))
      have hsz2 := HB2.out.size
      clear hB2
      go_wp2_with fail
      go_loopw [7, 8, 9, 10] (fun sv iv _ _ wr => ∃ (i : Nat) (T : ByteArray), i ≤ m ∧ iv = .int .i64 (i : Int) ∧ sv = .string T ∧ Hid (T = bytes (wrAt turn n i [])) ∧ Below w2.heap.size w2 wr) (fun _ iv _ _ _ => m - (intOf iv).toNat)
      case atStart => exact ⟨0, _, Nat.zero_le _, rfl, rfl, rfl, Below.refl _ _⟩
      case round =>
        obtain ⟨i, T, hi, rfl, rfl, hTx, hB⟩ := hrel
        have hsz := hB.size
        by_cases hlt : i < m
        · have hlt' : (i : Int) < (m : Int) := by omega
          have hi0 : (0 : Int) ≤ (i : Int) := by omega
          have hil : i < n.length := by rw [← HM.out]; exact hlt
          obtain ⟨b, o, ao', cap', hao, hc0, hcc, hAv⟩ := HR.out i hil
          subst hao
          have hro := HL.out n[i] (List.getElem_mem hil)
          have HNS : Hid ((turnN turn n).take i ++ [turnL turn n[i]] = (turnN turn n).take (i + 1)) := by
            show _ = _
            rw [turnN_eq, ← List.map_take, ← List.map_take, List.take_succ_eq_append_getElem hil, List.map_append]
            rfl
          generalize n[i] = l at hc0 hcc hAv hro HNS
          have h4 := (rdnOK_facts hro).2.1
          have h1 := (rdnOK_facts hro).1
          have HRO := Lib.hid hro
          have HAv := Lib.hid hAv
          obtain ⟨p, hp⟩ : ∃ p, p = l.length := ⟨_, rfl⟩
          have HP := Lib.hid hp
          rw [← hp] at hc0 hcc h4 h1
          have HC0 := Lib.hid hc0
          have z0 := ((HB2.out.trans (hB.mono hsz2)).cell (World.block_lt_of_cell? w _ hc0)).trans hc0
          clear hp hAv hro hc0
          obtain ⟨tl, htl⟩ : ∃ tl, tl = turnL turn l := ⟨_, rfl⟩
          have htlen : tl.length = p := by rw [htl, turnL_len, HP.out]
          have htmem : ∀ x ∈ tl, x ∈ l := fun x hx => (turnL_perm turn l).mem_iff.1 (by rw [← htl]; exact hx)
          have HTL := Lib.hid htl
          have HTLEN := Lib.hid htlen
          have HTMEM := Lib.hid htmem
          clear htl htlen htmem
          have HT0 : Hid (T = bytes (wrAt turn n i (tl.take 0))) := by
            show _ = _
            rw [hTx.out, List.take_zero]
          obtain ⟨wo, rfl⟩ : ∃ x, x = wr := ⟨_, rfl⟩
          go_wp2_with fail
          go_loopw [7, 9, 10] (fun sv kv _ wq => ∃ (k : Nat) (T : ByteArray), k ≤ p ∧ kv = .int .i64 (k : Int) ∧ sv = .string T ∧ Hid (T = bytes (wrAt turn n i (tl.take k))) ∧ Below wo.heap.size wo wq) (fun _ kv _ _ => p - (intOf kv).toNat)
          case atStart => exact ⟨0, T, Nat.zero_le _, rfl, rfl, HT0, Below.refl _ _⟩
          case round =>
            clear HT0 hTx z0
            obtain ⟨k, S, hk, rfl, rfl, hS', hBk⟩ := hrel
            have hszk := hBk.size
            have HBW := Lib.hid (HB2.out.trans ((hB.trans (hBk.mono hsz)).mono hsz2))
            have z0 := (HBW.out.cell (World.block_lt_of_cell? w _ HC0.out)).trans HC0.out
            by_cases hkp : k < p
            · have hkp' : (k : Int) < (p : Int) := by omega
              have hk0 : (0 : Int) ≤ (k : Int) := by omega
              have hkt : k < tl.length := by rw [HTLEN.out]; exact hkp
              obtain ⟨q, hq, hq1, hq2, hqe⟩ := turnL_get turn l k (by rw [← HP.out]; exact hkp)
              have hqx : tl[k] = l[q] := by rw [← hqe]; (congr 1 <;> exact HTL.out)
              have hqp : (q : Int) < (p : Int) := by rw [← HP.out] at hq; omega
              have hq0 : (0 : Int) ≤ (q : Int) := by omega
              have hqt : turn = true → q = p - 1 - k := by rw [HP.out]; exact hq1
              obtain ⟨b2, o2, hao2, z1, z2⟩ := (avas_below HAv.out HBW.out) q hq
              subst hao2
              have hxx := rdnOK_av HRO.out l[q] (List.getElem_mem hq)
              have hmid := wrAt_len (turn := turn) HOK.out i HRO.out (r := tl.take k) (fun x hx => HTMEM.out x (List.mem_of_mem_take hx)) (by rw [List.length_take]; omega)
              have hSs : S.size ≤ 50000 := by rw [hS'.out, ← kt.size_len, bytes_data]; exact hmid
              have hplus : k ≠ 0 → wrAt turn n i (tl.take (k + 1)) = (wrAt turn n i (tl.take k) ++ [32, 43, 32]) ++ pt upL [32] l[q] := by
                intro h
                rw [List.take_succ_eq_append_getElem hkt, hqx]
                exact midT_plus upL [32] 59 _ _ _ (by intro e; have := congrArg List.length e; rw [List.length_take, List.length_nil] at this; omega)
              have hnext : k = 0 → i ≠ 0 → wrAt turn n i (tl.take (k + 1)) = (wrAt turn n i (tl.take k) ++ [32, 59, 32]) ++ pt upL [32] l[q] := by
                intro h h2
                subst h
                rw [List.take_succ_eq_append_getElem hkt, hqx, List.take_zero, List.nil_append]
                unfold wrAt
                rw [midT_nil]
                exact midT_next upL [32] 59 _ _ (by intro e; have := congrArg List.length e; rw [List.length_take, turnN_len, List.length_nil] at this; omega)
              have hfirst : k = 0 → i = 0 → wrAt turn n i (tl.take (k + 1)) = wrAt turn n i (tl.take k) ++ pt upL [32] l[q] := by
                intro h h2
                subst h h2
                rw [List.take_succ_eq_append_getElem hkt, hqx]
                unfold wrAt
                simp only [List.take_zero, List.nil_append, midT_nil]
                exact midT_first upL [32] 59 _
              generalize l[q] = x at z1 z2 hxx hplus hnext hfirst hqx hqe
              have HUp := Lib.hid (fun W => upper_any x.t W (by have := typeOK_le hxx.1; rw [kt.size_len] at this; omega))
              have HV := Lib.hid (fun W => rtext_any x.v W (by have := valOK_le hxx.2; rw [kt.size_len] at this; omega))
              obtain ⟨Y, hY⟩ : ∃ Y, Y = (⟨(textL x.v.data.toList).toArray⟩ : ByteArray) := ⟨_, rfl⟩
              obtain ⟨Z, hZ⟩ : ∃ Z, Z = (⟨(upL x.t.data.toList).toArray⟩ : ByteArray) := ⟨_, rfl⟩
              have hts := typeOK_le hxx.1
              have hzs : Z.size ≤ 32 := by
                rw [hZ, ← kt.size_len]
                show (upL _).length ≤ _
                unfold upL
                rw [List.length_map]
                exact hts
              have hys : Y.size ≤ 765 := by
                have h1 := textF_len true x.v.data.toList
                have h2 := valOK_le hxx.2
                rw [hY, ← kt.size_len]
                show (textF true _).length ≤ _
                omega
              rw [← hY] at HV
              rw [← hZ] at HUp
              obtain ⟨T1, hT1s, hfin, hsep⟩ : ∃ T1 : ByteArray, T1.size ≤ 50003 ∧ bytes (wrAt turn n i (tl.take (k + 1))) = ((T1 ++ Z) ++ ⟨#[32, 61, 32]⟩) ++ Y ∧ ((0 < (k : Int) ∧ T1 = S ++ ⟨#[32, 43, 32]⟩) ∨ (¬ 0 < (k : Int) ∧ 0 < (i : Int) ∧ T1 = S ++ ⟨#[32, 59, 32]⟩) ∨ (¬ 0 < (k : Int) ∧ ¬ 0 < (i : Int) ∧ T1 = S)) := by
                have hpt : ∀ P : List UInt8, bytes (P ++ pt upL [32] x) = ((bytes P ++ Z) ++ ⟨#[32, 61, 32]⟩) ++ Y := by
                  intro P
                  apply kt.str_eq
                  rw [ByteArray.data_append, ByteArray.data_append, ByteArray.data_append, bytes_data, hY, hZ]
                  simp [pt, bytes]
                have hap1 : ∀ (P : List UInt8) (c : UInt8), bytes (P ++ [32, c, 32]) = bytes P ++ ⟨#[32, c, 32]⟩ := by
                  intro P c
                  apply kt.str_eq
                  rw [ByteArray.data_append, bytes_data]
                  simp [bytes]
                by_cases hk00 : k = 0
                · by_cases hi00 : i = 0
                  · exact ⟨S, by omega, by rw [hfirst hk00 hi00, hpt, ← hS'.out], Or.inr (Or.inr ⟨by omega, by omega, rfl⟩)⟩
                  · exact ⟨S ++ ⟨#[32, 59, 32]⟩, by rw [ByteArray.size_append]; show S.size + 3 ≤ _; omega, by rw [hnext hk00 hi00, hpt, hap1, ← hS'.out], Or.inr (Or.inl ⟨by omega, by omega, rfl⟩)⟩
                · exact ⟨S ++ ⟨#[32, 43, 32]⟩, by rw [ByteArray.size_append]; show S.size + 3 ≤ _; omega, by rw [hplus hk00, hpt, hap1, ← hS'.out], Or.inl ⟨by omega, rfl⟩⟩
              obtain ⟨T2, hT2⟩ : ∃ T2, T2 = T1 ++ Z := ⟨_, rfl⟩
              obtain ⟨T3, hT3⟩ : ∃ T3, T3 = T2 ++ (⟨#[32, 61, 32]⟩ : ByteArray) := ⟨_, rfl⟩
              obtain ⟨T4, hT4⟩ : ∃ T4, T4 = T3 ++ Y := ⟨_, rfl⟩
              have h2s : T2.size = T1.size + Z.size := by rw [hT2, ByteArray.size_append]
              have h3s : T3.size = T2.size + 3 := by rw [hT3, ByteArray.size_append]; rfl
              have hadd2 := add_run2 T1 Z T2 hT2 (by omega)
              have hadd3 := add_run2 T2 ⟨#[32, 61, 32]⟩ T3 hT3 (by show T2.size + 3 ≤ 1000000; omega)
              have hadd4 := add_run2 T3 Y T4 hT4 (by omega)
              have HFIN : Hid (T4 = bytes (wrAt turn n i (tl.take (k + 1)))) := by
                show _ = _
                rw [hfin, hT4, hT3, hT2]
              have hlb := World.block_lt_of_cell? wr _ z0
              have hlb2 := World.block_lt_of_cell? wr _ z1
              have hsep' : (0 < (k : Int) ∧ ∀ W, (Op.stringOp .add S ⟨#[32, 43, 32]⟩).run Tryd.prog W = .ok (.string T1) W) ∨ (¬ 0 < (k : Int) ∧ 0 < (i : Int) ∧ ∀ W, (Op.stringOp .add S ⟨#[32, 59, 32]⟩).run Tryd.prog W = .ok (.string T1) W) ∨ (¬ 0 < (k : Int) ∧ ¬ 0 < (i : Int) ∧ S = T1) := by
                rcases hsep with ⟨a1, a2⟩ | ⟨a1, a2, a3⟩ | ⟨a1, a2, a3⟩
                · exact Or.inl ⟨a1, add_run2 S ⟨#[32, 43, 32]⟩ T1 a2 (by show S.size + 3 ≤ 1000000; omega)⟩
                · exact Or.inr (Or.inl ⟨a1, a2, add_run2 S ⟨#[32, 59, 32]⟩ T1 a3 (by show S.size + 3 ≤ 1000000; omega)⟩)
                · exact Or.inr (Or.inr ⟨a1, a2, a3.symm⟩)
              have hturn : (turn = false ∧ q = k) ∨ (turn = true ∧ (p : Int) - 1 - (k : Int) = (q : Int) ∧ IntKind.i64.wrap ((p : Int) - 1) = (p : Int) - 1 ∧ IntKind.i64.wrap ((p : Int) - 1 - (k : Int)) = (q : Int)) := by
                cases turn with
                | false => exact Or.inl ⟨rfl, hq2 rfl⟩
                | true =>
                  have e := hqt rfl
                  have e2 : (p : Int) - 1 - (k : Int) = (q : Int) := by omega
                  exact Or.inr ⟨rfl, e2, IntWalk.i64_in _ (by omega), by rw [e2]; exact IntWalk.i64_in _ (by omega)⟩
              have HFR : Hid (∀ T5, T5 = T4 → ∃ (k' : Nat) (T : ByteArray), k' ≤ p ∧ Value.int IntKind.i64 ((k : Int) + 1) = .int .i64 (k' : Int) ∧ Value.string T5 = .string T ∧ Hid (T = bytes (wrAt turn n i (tl.take k')))) := fun T5 h => ⟨k + 1, T4, by omega, by go_num, by rw [h], HFIN⟩
              clear hplus hnext hfirst hxx hmid hSs hts hys hzs hT1s hfin hsep hT2 hT3 hT4 h2s h3s hY hZ hS' hq1 hq2 hqt hqe hqx HFIN
              rcases hturn with ⟨ht, hqk⟩ | ⟨ht, ej, w1e, w2e⟩
              · subst ht
                subst hqk
                rcases hsep' with ⟨g1, hadd1⟩ | ⟨g1, g2, hadd1⟩ | ⟨g1, g2, rfl⟩
                all_goals
                  go_wp2_with fail
                  go_region_held3 (fun W => W.cell? ⟨b, o + i, none⟩ = some (.slice (some ⟨b2, o2, none⟩) p cap') ∧ W.cell? ⟨b2, o2 + q * 2, none⟩ = some (.string x.t) ∧ W.cell? ⟨b2, o2 + q * 2 + 1, none⟩ = some (.string x.v)) (first
                      | exact ⟨z0, z1, z2⟩
                      | exact ⟨(hB6.cell (p := ⟨b, o + i, none⟩) hlb).trans z0, (hB6.cell (p := ⟨b2, o2 + q * 2, none⟩) hlb2).trans z1, (hB6.cell (p := ⟨b2, o2 + q * 2 + 1, none⟩) hlb2).trans z2⟩
                      | exact ⟨(hB7.cell (p := ⟨b, o + i, none⟩) (Nat.lt_of_lt_of_le hlb hB6.size)).trans ((hB6.cell (p := ⟨b, o + i, none⟩) hlb).trans z0), (hB7.cell (p := ⟨b2, o2 + q * 2, none⟩) (Nat.lt_of_lt_of_le hlb2 hB6.size)).trans ((hB6.cell (p := ⟨b2, o2 + q * 2, none⟩) hlb2).trans z1), (hB7.cell (p := ⟨b2, o2 + q * 2 + 1, none⟩) (Nat.lt_of_lt_of_le hlb2 hB6.size)).trans ((hB6.cell (p := ⟨b2, o2 + q * 2 + 1, none⟩) hlb2).trans z2)⟩)
                    (first | (go_at_call 17; refine (HUp.out _).mono ?_; rintro e w6 ⟨rfl, hB6⟩) | (go_at_call 18; refine (HV.out _).mono ?_; rintro e w7 ⟨rfl, hB7⟩) | fail)
                  all_goals
                    go_wp2_with fail
                    go_roundw
                    case rel =>
                      obtain ⟨k', T', h1', h2', h3', h4'⟩ := HFR.out T4 rfl
                      exact ⟨k', T', h1', h2', h3', h4', hBk.trans ((((Below.refl wr.heap.size wr).drew.trans hB6).trans (hB7.mono hB6.size)).mono hszk)⟩
                    case measure => simp [intOf] <;> omega
              · subst ht
                rcases hsep' with ⟨g1, hadd1⟩ | ⟨g1, g2, hadd1⟩ | ⟨g1, g2, rfl⟩
                all_goals
                  go_wp2_with fail
                  go_region_held3 (fun W => W.cell? ⟨b, o + i, none⟩ = some (.slice (some ⟨b2, o2, none⟩) p cap') ∧ W.cell? ⟨b2, o2 + q * 2, none⟩ = some (.string x.t) ∧ W.cell? ⟨b2, o2 + q * 2 + 1, none⟩ = some (.string x.v)) (first
                      | exact ⟨z0, z1, z2⟩
                      | exact ⟨(hB6.cell (p := ⟨b, o + i, none⟩) hlb).trans z0, (hB6.cell (p := ⟨b2, o2 + q * 2, none⟩) hlb2).trans z1, (hB6.cell (p := ⟨b2, o2 + q * 2 + 1, none⟩) hlb2).trans z2⟩
                      | exact ⟨(hB7.cell (p := ⟨b, o + i, none⟩) (Nat.lt_of_lt_of_le hlb hB6.size)).trans ((hB6.cell (p := ⟨b, o + i, none⟩) hlb).trans z0), (hB7.cell (p := ⟨b2, o2 + q * 2, none⟩) (Nat.lt_of_lt_of_le hlb2 hB6.size)).trans ((hB6.cell (p := ⟨b2, o2 + q * 2, none⟩) hlb2).trans z1), (hB7.cell (p := ⟨b2, o2 + q * 2 + 1, none⟩) (Nat.lt_of_lt_of_le hlb2 hB6.size)).trans ((hB6.cell (p := ⟨b2, o2 + q * 2 + 1, none⟩) hlb2).trans z2)⟩)
                    (first | (go_at_call 17; refine (HUp.out _).mono ?_; rintro e w6 ⟨rfl, hB6⟩) | (go_at_call 18; refine (HV.out _).mono ?_; rintro e w7 ⟨rfl, hB7⟩) | fail)
                  all_goals
                    go_wp2_with fail
                    go_roundw
                    case rel =>
                      obtain ⟨k', T', h1', h2', h3', h4'⟩ := HFR.out T4 rfl
                      exact ⟨k', T', h1', h2', h3', h4', hBk.trans ((((Below.refl wr.heap.size wr).drew.trans hB6).trans (hB7.mono hB6.size)).mono hszk)⟩
                    case measure => simp [intOf] <;> omega
            · obtain rfl : k = p := by omega
              have HNX : Hid (S = bytes (wrAt turn n (i + 1) [])) := by
                show _ = _
                have e1 : tl.take k = tl := List.take_of_length_le (by rw [HTLEN.out]; exact Nat.le_refl _)
                have e2 : tl ≠ [] := by
                  intro e
                  have := HTLEN.out
                  rw [e, List.length_nil] at this
                  omega
                rw [hS'.out, e1]
                unfold wrAt
                rw [midT_all _ _ _ _ e2, midT_nil, ← HNS.out, HTL.out]
              have HBB := Lib.hid (hB.trans (hBk.mono hsz))
              clear hS'
              go_wp2_with fail
              go_roundw
              case rel => exact ⟨i + 1, S, by omega, by go_num, rfl, HNX, HBB.out⟩
              case measure => simp [intOf] <;> omega
        · obtain rfl : i = m := by omega
          have hTT : T = bytes (wr2 turn n) := by
            rw [hTx.out]
            unfold wrAt wr2
            rw [midT_nil, HM.out, List.take_of_length_le (by rw [turnN_len]; exact Nat.le_refl _)]
          have hpv : (T.size ≤ 1000 ∧ parseV T = (turnN turn n, 0)) ∨ (1000 < T.size ∧ parseV T = ([], 5)) := by
            unfold parseV
            by_cases h : 1000 < T.size
            · exact Or.inr ⟨h, if_pos h⟩
            · refine Or.inl ⟨by omega, ?_⟩
              rw [if_neg h, hTT, bytes_data, parse_wr2 turn HOK.out]
          have hTs : T.size ≤ 50000 := by
            rw [hTT, ← kt.size_len, bytes_data]
            have hok := nameOK_facts (turnN_ok turn HOK.out)
            exact nameU_len (fun l hl => rowOK_of (hok.2 l hl)) (by omega)
          have HBW := Lib.hid (HB2.out.trans (hB.mono hsz2))
          have HPA := Lib.hid ((parse_any T wr (by omega) (HEb.out wr HBW.out) (HTb.out wr HBW.out)).mono fun e w' h => parseE_V h)
          clear hTT hTx
          rcases hpv with ⟨h1000, hpv⟩ | ⟨h1000, hpv⟩
          · rw [hpv] at HPA
            simp only [turnN_len] at HPA
            rw [← HM.out] at HPA
            obtain ⟨u1, u2, u3, u4⟩ := under_turn turn HOK.out
            have hft := nameOK_facts (turnN_ok turn HOK.out)
            have hsmt : ∀ l ∈ turnN turn n, l.length ≤ 4 → Smalls l := by
              intro l hl _ x hx
              have := rdnOK_av (hft.2 l hl) x hx
              have h1 := typeOK_le this.1
              have h2 := valOK_le this.2
              rw [kt.size_len] at h1 h2
              exact ⟨by omega, by omega⟩
            have HS1 : Hid (∀ W X c, Below w.heap.size w W → Rdns W X (turnN turn n) → Calls Tryd.prog 16 #[.slice ao i cap, .slice X i c] W fun e w' => e = .returned (.bool true) ∧ Below W.heap.size W w') := by
              intro W X c hb hx
              have := same_any ao X cap c n (turnN turn n) W (Lib.hid (rdns_below HR.out hb)) (Lib.hid hx) (HEb.out W hb) (HTb.out W hb) HSS (Lib.hid hsmt)
              rw [u3, turnN_len, ← HM.out] at this
              exact this
            have HS2 : Hid (∀ W X c, Below w.heap.size w W → Rdns W X (turnN turn n) → Calls Tryd.prog 19 #[.slice ao i cap, .slice X i c] W fun e w' => e = .returned (.bool true) ∧ Below W.heap.size W w') := by
              intro W X c hb hx
              have := under_any ao X cap c n (turnN turn n) W (Lib.hid (rdns_below HR.out hb)) (Lib.hid hx) (HEb.out W hb) (HTb.out W hb) HSS (Lib.hid hsmt)
              rw [u1, turnN_len, ← HM.out] at this
              exact this
            have HS3 : Hid (∀ W X c, Below w.heap.size w W → Rdns W X (turnN turn n) → Calls Tryd.prog 19 #[.slice X i c, .slice ao i cap] W fun e w' => e = .returned (.bool true) ∧ Below W.heap.size W w') := by
              intro W X c hb hx
              have := under_any X ao c cap (turnN turn n) n W (Lib.hid hx) (Lib.hid (rdns_below HR.out hb)) (HEb.out W hb) (HTb.out W hb) (Lib.hid hsmt) HSS
              rw [u2, turnN_len, ← HM.out] at this
              exact this
            have HS4 : Hid (∀ W, Below w.heap.size w W → Calls Tryd.prog 16 #[.slice ao i cap, .slice ao i cap] W fun e w' => e = .returned (.bool true) ∧ Below W.heap.size W w') := by
              intro W hb
              have := HSnn.out W hb
              rw [u4] at this
              exact this
            clear hpv u1 u2 u3 u4 hft hsmt h1000 HSnn
            go_wp2_with fail
            refine HPA.out.mono ?_
            rintro e w3 ⟨hB3, bo, cb, rfl, hN⟩
            have HB3 := Lib.hid (HBW.out.trans (hB3.mono HBW.out.size))
            have HN := Lib.hid hN
            clear hB3 hN
            go_wp2_with fail
            refine (HS1.out _ _ _ HB3.out HN.out).mono ?_
            rintro e w4 ⟨rfl, hB4⟩
            have HB4 := Lib.hid (HB3.out.trans (hB4.mono HB3.out.size))
            have HN4 := Lib.hid (rdns_below HN.out hB4)
            clear hB4
            go_wp2_with fail
            refine (HS2.out _ _ _ HB4.out HN4.out).mono ?_
            rintro e w5 ⟨rfl, hB5⟩
            have HB5 := Lib.hid (HB4.out.trans (hB5.mono HB4.out.size))
            have HN5 := Lib.hid (rdns_below HN4.out hB5)
            clear hB5
            go_wp2_with fail
            refine (HS3.out _ _ _ HB5.out HN5.out).mono ?_
            rintro e w6 ⟨rfl, hB6⟩
            have HB6 := Lib.hid (HB5.out.trans (hB6.mono HB5.out.size))
            clear hB6
            go_wp2_with fail
            refine (HS4.out _ HB6.out).mono ?_
            rintro e w7 ⟨rfl, hB7⟩
            go_wp2_with fail
            go_ret
            exact ⟨rfl, HB6.out.trans (hB7.mono HB6.out.size)⟩
          · rw [hpv] at HPA
            have h1' : 1000 < (T.size : Int) := by omega
            clear hpv
            go_wp2_with fail
            refine HPA.out.mono ?_
            rintro e w3 ⟨hB3, bo, cb, rfl, _⟩
            go_wp2_with fail
            go_ret
            exact ⟨rfl, HBW.out.trans (hB3.mono HBW.out.size)⟩
end dnw
end Go.Proofs.YtjjbmhndakmkbaaDoor
