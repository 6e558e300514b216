/- The walk of the reference's Print. -/
import Derived.Test.YtjjbmhndakmkbaaDoorRTextW
import Derived.Test.YtjjbmhndakmkbaaDoorDPrintW
import Derived.Test.YtjjbmhndakmkbaaDoorRRdnW
namespace Go.Proofs.YtjjbmhndakmkbaaDoor
open Go.RowKit
namespace dnw
open dnp
set_option linter.unusedVariables false
set_option linter.unusedSimpArgs false
theorem rdnX_snoc (r : List Av) (x : Av) (h : r ≠ []) : rdnX (r ++ [x]) = rdnX r ++ 43 :: ptx x := by
  obtain ⟨a, t, rfl⟩ := List.exists_cons_of_ne_nil h
  rw [List.cons_append, rdnX_cons, rdnX_cons]
  simp
theorem nameX_snoc (m : List (List Av)) (l : List Av) (h : m ≠ []) : nameX (m ++ [l]) = nameX m ++ 44 :: rdnX l := by
  obtain ⟨a, t, rfl⟩ := List.exists_cons_of_ne_nil h
  rw [List.cons_append, nameX_cons, nameX_cons]
  simp
theorem rdnX_one (x : Av) : rdnX [x] = ptx x := by rw [rdnX_cons]; simp
theorem nameX_one (l : List Av) : nameX [l] = rdnX l := by rw [nameX_cons]; simp
/-- the text of the names ahead, and of the pairs of one that is begun -/
def midX (m : List (List Av)) (r : List Av) : List UInt8 := if r = [] then nameX m else nameX (m ++ [r])
theorem midX_nil (m : List (List Av)) : midX m [] = nameX m := if_pos rfl
theorem midX_all (m : List (List Av)) {r : List Av} (h : r ≠ []) : midX m r = nameX (m ++ [r]) := if_neg h
theorem midX_first (x : Av) : midX [] [x] = nameX [] ++ ptx x := by
  rw [midX_all _ (by simp), List.nil_append, nameX_one, rdnX_one]; rfl
theorem midX_next (m : List (List Av)) (x : Av) (h : m ≠ []) : midX m [x] = (nameX m ++ [44]) ++ ptx x := by
  rw [midX_all _ (by simp), nameX_snoc _ _ h, rdnX_one]; simp
theorem midX_plus (m : List (List Av)) (r : List Av) (x : Av) (h : r ≠ []) : midX m (r ++ [x]) = (midX m r ++ [43]) ++ ptx x := by
  rw [midX_all _ (by simp), midX_all _ h]
  cases m with
  | nil => rw [List.nil_append, List.nil_append, nameX_one, nameX_one, rdnX_snoc _ _ h]; simp
  | cons a m => rw [nameX_snoc _ _ (by simp), nameX_snoc _ _ (by simp), rdnX_snoc _ _ h]; simp
theorem nameX_take_len {n : List (List Av)} (h : nameOK n = true) (i : Nat) : (nameX (n.take i)).length ≤ 60000 := by
  apply nameX_len
  obtain ⟨h1, h2⟩ := nameOK_facts h
  unfold nameOK
  rw [decide_eq_true (by rw [List.length_take]; omega)]
  simp only [Bool.true_and]
  exact List.all_eq_true.2 (fun l hl => h2 l (List.mem_of_mem_take hl))
theorem ptxs_len {l : List Av} (h : ∀ x ∈ l, typeOK x.t.data.toList = true ∧ valOK x.v.data.toList = true) (h4 : l.length ≤ 4) : (rdnX l).length ≤ 4000 := by
  cases l with
  | nil => simp [rdnX, Lib.join, List.intercalate]
  | cons a r =>
    rw [rdnX_cons, List.length_append]
    have h1 := ptx_len (h a (by simp)).1 (h a (by simp)).2
    have h2 := flat_len_le (fun a => 43 :: ptx a) 799 r (fun x hx' => by
      have := ptx_len (h x (by simp [hx'])).1 (h x (by simp [hx'])).2
      simp only [List.length_cons]; omega)
    simp only [List.length_cons] at h4
    have : r.length * 799 ≤ 3 * 799 := Nat.mul_le_mul_right _ (by omega)
    omega
theorem midX_len {n : List (List Av)} (h : nameOK n = true) (i : Nat) {l r : List Av} (hl : rdnOK l = true) (hr : ∀ x ∈ r, x ∈ l) (h4 : r.length ≤ 4) : (midX (n.take i) r).length ≤ 64001 := by
  have h1 := nameX_take_len h i
  have h2 := ptxs_len (fun x hx => rdnOK_av hl x (hr x hx)) h4
  unfold midX
  split
  · omega
  · cases hm : n.take i with
    | nil => rw [List.nil_append, nameX_one]; omega
    | cons a m =>
      rw [← hm, nameX_snoc _ _ (by rw [hm]; simp), List.length_append, List.length_cons]
      omega
theorem add_run (a b c : ByteArray) (h : c = a ++ b) (hs : a.size + b.size ≤ 1000000) (W : World) : (Op.stringOp .add a b).run Tryd.prog W = .ok (.string c) W := by
  rw [h]; exact run_string_add_sum W _ _ (by omega)
set_option maxRecDepth 20000 in
set_option maxHeartbeats 4000000 in
theorem rprint_any (ao : Option Addr) (cap : Nat) (n : List (List Av)) (w : World) (hA : Hid (Rdns w ao n)) (hn : n.length ≤ 1000) (hS : Hid (∀ l ∈ n, l.length ≤ 4 → Smalls l)) :
    Calls Tryd.prog 12 #[.slice ao n.length cap] w fun e w' => PrintE n e ∧ Below w.heap.size w w' := by
  have CR := rright_any ao cap n w hA hn hS
  obtain ⟨m, hm⟩ : ∃ m, m = n.length := ⟨_, rfl⟩
  have HM := Lib.hid hm
  rw [← hm] at CR ⊢
  clear hm
  cases hok : nameOK n with
  | false =>
    rw [hok] at CR
    have HC := Lib.hid CR
    have HN := Lib.hid (printE_no hok)
    clear CR hok
    go_enter Tryd.func12, Tryd.ntmps12
    go_wp2_with fail
    refine HC.out.mono ?_
    rintro e w1 ⟨rfl, hB1⟩
    go_wp2_with fail
    go_ret2
    exact ⟨HN.out, hB1⟩
  | true =>
    rw [hok] at CR
    have HC := Lib.hid CR
    have HOK := Lib.hid hok
    have hf := nameOK_facts hok
    have hm12 : m ≤ 12 := by rw [HM.out]; exact hf.1
    have HL := Lib.hid hf.2
    clear CR hok hf
    go_enter Tryd.func12, Tryd.ntmps12
    go_wp2_with fail
    refine HC.out.mono ?_
    rintro e w1 ⟨rfl, hB1⟩
    have HB1 := Lib.hid hB1
    have hsz1 := hB1.size
    clear hB1 HC
    go_wp2_with fail
    go_loopw [4, 5, 6] (fun sv iv _ wr => ∃ (i : Nat) (T : ByteArray), i ≤ m ∧ iv = .int .i64 (i : Int) ∧ sv = .string T ∧ Hid (T = bytes (nameX (n.take i))) ∧ Below w1.heap.size w1 wr) (fun _ iv _ _ => m - (intOf iv).toNat)
    case atStart => exact ⟨0, _, Nat.zero_le _, rfl, rfl, rfl, Below.refl _ _⟩
    case round =>
      obtain ⟨i, T, hi, rfl, rfl, hT, hB⟩ := hrel
      have hsz := hB.size
      by_cases hlt : i < m
      · have hlt' : (i : Int) < (m : Int) := by omega
        have hi0 : (0 : Int) ≤ (i : Int) := by omega
        have hil : i < n.length := by rw [← HM.out]; exact hlt
        obtain ⟨b, o, ao', cap', hao, hc0, hcc, hAv⟩ := hA.out i hil
        subst hao
        have hro := HL.out n[i] (List.getElem_mem hil)
        have HNS : Hid (nameX (n.take i ++ [n[i]]) = nameX (n.take (i + 1))) := by
          show _ = _
          rw [List.take_succ_eq_append_getElem hil]
        generalize n[i] = l at hc0 hcc hAv hro HNS
        have h4 := (rdnOK_facts hro).2.1
        have h1 := (rdnOK_facts hro).1
        have HRO := Lib.hid hro
        have HAv := Lib.hid hAv
        obtain ⟨p, hp⟩ : ∃ p, p = l.length := ⟨_, rfl⟩
        have HP := Lib.hid hp
        rw [← hp] at hc0 hcc h4 h1
        have HC0 := Lib.hid hc0
        have z0 := ((HB1.out.trans (hB.mono hsz1)).cell (World.block_lt_of_cell? w _ hc0)).trans hc0
        clear hp hAv hro hc0
        have HT0 : Hid (T = bytes (midX (n.take i) (l.take 0))) := by
          show _ = _
          rw [hT.out, List.take_zero, midX_nil]
        obtain ⟨wo, rfl⟩ : ∃ x, x = wr := ⟨_, rfl⟩
        go_wp2_with fail
        go_loopw [4, 6] (fun sv kv wq => ∃ (k : Nat) (T : ByteArray), k ≤ p ∧ kv = .int .i64 (k : Int) ∧ sv = .string T ∧ Hid (T = bytes (midX (n.take i) (l.take k))) ∧ Below wo.heap.size wo wq) (fun _ kv _ => p - (intOf kv).toNat)
        case atStart => exact ⟨0, T, Nat.zero_le _, rfl, rfl, HT0, Below.refl _ _⟩
        case round =>
          clear HT0 hT z0
          obtain ⟨k, S, hk, rfl, rfl, hS', hBk⟩ := hrel
          have hszk := hBk.size
          have HBW := Lib.hid (HB1.out.trans ((hB.trans (hBk.mono hsz)).mono hsz1))
          have z0 := (HBW.out.cell (World.block_lt_of_cell? w _ HC0.out)).trans HC0.out
          by_cases hkp : k < p
          · have hkp' : (k : Int) < (p : Int) := by omega
            have hk0 : (0 : Int) ≤ (k : Int) := by omega
            have hkl : k < l.length := by rw [← HP.out]; exact hkp
            obtain ⟨b2, o2, hao2, z1, z2⟩ := (avas_below HAv.out HBW.out) k hkl
            subst hao2
            have hxx := rdnOK_av HRO.out l[k] (List.getElem_mem hkl)
            have hmid := midX_len HOK.out i HRO.out (r := l.take k) (fun x hx => List.mem_of_mem_take hx) (by rw [List.length_take]; omega)
            have hSs : S.size ≤ 64001 := by rw [hS'.out, ← kt.size_len, bytes_data]; exact hmid
            have hplus : k ≠ 0 → midX (n.take i) (l.take (k + 1)) = (midX (n.take i) (l.take k) ++ [43]) ++ ptx l[k] := by
              intro h
              rw [List.take_succ_eq_append_getElem hkl]
              exact midX_plus _ _ _ (by intro e; have := congrArg List.length e; rw [List.length_take, List.length_nil] at this; omega)
            have hnext : k = 0 → i ≠ 0 → midX (n.take i) (l.take (k + 1)) = (midX (n.take i) (l.take k) ++ [44]) ++ ptx l[k] := by
              intro h h2
              subst h
              rw [List.take_succ_eq_append_getElem hkl, List.take_zero, List.nil_append, midX_nil]
              exact midX_next _ _ (by intro e; have := congrArg List.length e; rw [List.length_take, List.length_nil] at this; omega)
            have hfirst : k = 0 → i = 0 → midX (n.take i) (l.take (k + 1)) = midX (n.take i) (l.take k) ++ ptx l[k] := by
              intro h h2
              subst h h2
              rw [List.take_succ_eq_append_getElem hkl]
              simp only [List.take_zero, List.nil_append, midX_nil]
              exact midX_first _
            generalize l[k] = x at z1 z2 hxx hplus hnext hfirst
            have HV := Lib.hid (fun W => rtext_any x.v W (by have := valOK_le hxx.2; rw [kt.size_len] at this; omega))
            obtain ⟨Y, hY⟩ : ∃ Y, Y = (⟨(textL x.v.data.toList).toArray⟩ : ByteArray) := ⟨_, rfl⟩
            have hts := typeOK_le hxx.1
            rw [kt.size_len] at hts
            have hys : Y.size ≤ 765 := by
              have h1 := textF_len true x.v.data.toList
              have h2 := valOK_le hxx.2
              rw [hY, ← kt.size_len]
              show (textF true _).length ≤ _
              omega
            rw [← hY] at HV
            -- the separator
            obtain ⟨T1, hsepc⟩ : ∃ T1 : ByteArray, T1.size ≤ 64002 ∧ bytes (midX (n.take i) (l.take (k + 1))) = (T1 ++ x.t) ++ (⟨#[61]⟩ ++ Y) ∧ ((0 < (k : Int) ∧ T1 = S ++ ⟨#[43]⟩) ∨ (¬ 0 < (k : Int) ∧ 0 < (i : Int) ∧ T1 = S ++ ⟨#[44]⟩) ∨ (¬ 0 < (k : Int) ∧ ¬ 0 < (i : Int) ∧ T1 = S)) := by
              have hpt : ∀ P : List UInt8, bytes (P ++ ptx x) = (bytes P ++ x.t) ++ (⟨#[61]⟩ ++ Y) := by
                intro P
                apply kt.str_eq
                rw [ByteArray.data_append, ByteArray.data_append, ByteArray.data_append, bytes_data, hY]
                simp [ptx, bytes]
              have hap1 : ∀ (P : List UInt8) (c : UInt8), bytes (P ++ [c]) = bytes P ++ ⟨#[c]⟩ := by
                intro P c
                apply kt.str_eq
                rw [ByteArray.data_append, bytes_data]
                simp [bytes]
              by_cases hk00 : k = 0
              · by_cases hi00 : i = 0
                · exact ⟨S, by omega, by rw [hfirst hk00 hi00, hpt, ← hS'.out], Or.inr (Or.inr ⟨by omega, by omega, rfl⟩)⟩
                · exact ⟨S ++ ⟨#[44]⟩, by rw [ByteArray.size_append]; show S.size + 1 ≤ _; omega, by rw [hnext hk00 hi00, hpt, hap1, ← hS'.out], Or.inr (Or.inl ⟨by omega, by omega, rfl⟩)⟩
              · exact ⟨S ++ ⟨#[43]⟩, by rw [ByteArray.size_append]; show S.size + 1 ≤ _; omega, by rw [hplus hk00, hpt, hap1, ← hS'.out], Or.inl ⟨by omega, rfl⟩⟩
            obtain ⟨hT1s, hfin, hsep⟩ := hsepc
            obtain ⟨T2, hT2⟩ : ∃ T2, T2 = T1 ++ x.t := ⟨_, rfl⟩
            obtain ⟨T3, hT3⟩ : ∃ T3, T3 = T2 ++ (⟨#[61]⟩ : ByteArray) := ⟨_, rfl⟩
            obtain ⟨T4, hT4⟩ : ∃ T4, T4 = T3 ++ Y := ⟨_, rfl⟩
            have h2s : T2.size = T1.size + x.t.size := by rw [hT2, ByteArray.size_append]
            have h3s : T3.size = T2.size + 1 := by rw [hT3, ByteArray.size_append]; rfl
            have hadd2 := add_run T1 x.t T2 hT2 (by omega)
            have hadd3 := add_run T2 ⟨#[61]⟩ T3 hT3 (by show T2.size + 1 ≤ 1000000; omega)
            have hadd4 := add_run T3 Y T4 hT4 (by omega)
            have HFIN : Hid (T4 = bytes (midX (n.take i) (l.take (k + 1)))) := by
              show _ = _
              rw [hfin, hT4, hT3, hT2]
              apply kt.str_eq
              simp [ByteArray.data_append]
            have hlb := World.block_lt_of_cell? wr _ z0
            have hlb2 := World.block_lt_of_cell? wr _ z1
            have hsep' : (0 < (k : Int) ∧ ∀ W, (Op.stringOp .add S ⟨#[43]⟩).run Tryd.prog W = .ok (.string T1) W) ∨ (¬ 0 < (k : Int) ∧ 0 < (i : Int) ∧ ∀ W, (Op.stringOp .add S ⟨#[44]⟩).run Tryd.prog W = .ok (.string T1) W) ∨ (¬ 0 < (k : Int) ∧ ¬ 0 < (i : Int) ∧ S = T1) := by
              rcases hsep with ⟨a1, a2⟩ | ⟨a1, a2, a3⟩ | ⟨a1, a2, a3⟩
              · exact Or.inl ⟨a1, add_run S ⟨#[43]⟩ T1 a2 (by show S.size + 1 ≤ 1000000; omega)⟩
              · exact Or.inr (Or.inl ⟨a1, a2, add_run S ⟨#[44]⟩ T1 a3 (by show S.size + 1 ≤ 1000000; omega)⟩)
              · exact Or.inr (Or.inr ⟨a1, a2, a3.symm⟩)
            clear hplus hnext hfirst hxx hmid hSs hts hys hT1s hfin hsep hT2 hT3 hT4 h2s h3s hY hS'
            rcases hsep' with ⟨g1, hadd1⟩ | ⟨g1, g2, hadd1⟩ | ⟨g1, g2, rfl⟩
            all_goals
              go_wp2_with fail
              go_region_held3 (fun W => W.cell? ⟨b, o + i, none⟩ = some (.slice (some ⟨b2, o2, none⟩) p cap') ∧ W.cell? ⟨b2, o2 + k * 2, none⟩ = some (.string x.t) ∧ W.cell? ⟨b2, o2 + k * 2 + 1, none⟩ = some (.string x.v)) (first
                  | exact ⟨z0, z1, z2⟩
                  | exact ⟨(hB6.cell (p := ⟨b, o + i, none⟩) hlb).trans z0, (hB6.cell (p := ⟨b2, o2 + k * 2, none⟩) hlb2).trans z1, (hB6.cell (p := ⟨b2, o2 + k * 2 + 1, none⟩) hlb2).trans z2⟩)
                (first | (go_at_call 18; refine (HV.out _).mono ?_; rintro e w6 ⟨rfl, hB6⟩) | fail)
              all_goals
                go_wp2_with fail
                go_roundw
                case rel => exact ⟨k + 1, _, by omega, by go_num, rfl, HFIN, hBk.trans (((Below.refl wr.heap.size wr).drew.trans hB6).mono hszk)⟩
                case measure => simp [intOf] <;> omega
          · obtain rfl : k = p := by omega
            have HNX : Hid (S = bytes (nameX (n.take (i + 1)))) := by
              show _ = _
              rw [hS'.out, HP.out, List.take_length, midX_all _ (by intro e; rw [e] at HP; have := HP.out; simp at this; omega), HNS.out]
            have HBB := Lib.hid (hB.trans (hBk.mono hsz))
            clear hS'
            go_wp2_with fail
            go_roundw
            case rel => exact ⟨i + 1, S, by omega, by go_num, rfl, HNX, HBB.out⟩
            case measure => simp [intOf] <;> omega
      · obtain rfl : i = m := by omega
        have hTT : T = bytes (nameX n) := by rw [hT.out, HM.out, List.take_length]
        have hnx := nameX_len HOK.out
        have hts : T.size = (nameX n).length := by rw [hTT, ← kt.size_len]; rfl
        have HT := Lib.hid hTT
        clear hTT hT
        by_cases hlong : 1000 < T.size
        · have hlong' : 1000 < (T.size : Int) := by omega
          have HN := Lib.hid (printE_long HOK.out (by omega))
          clear hts hnx
          go_wp2_with fail
          go_ret2
          exact ⟨HN.out, HB1.out.trans (hB.mono hsz1)⟩
        · have hlong' : ¬ 1000 < (T.size : Int) := by omega
          have HN := Lib.hid (printE_ok HOK.out (by omega))
          rw [← HT.out] at HN
          clear hts hnx
          go_wp2_with fail
          go_ret2
          exact ⟨HN.out, HB1.out.trans (hB.mono hsz1)⟩
end dnw
end Go.Proofs.YtjjbmhndakmkbaaDoor
