/- The walk of the law B64Wraps. -/
import Derived.Test.YtjkhplpjmiclhaaWrap
import Derived.Test.YtjkhplpjmiclhaaAwake
namespace Go.Proofs.Ytjkhplpjmiclhaa
open Go.RowKit

theorem flat_le (ts : List (List UInt8)) (i : Nat) : ((ts.take i).flatten).length ≤ ts.flatten.length := by
  conv => rhs; rw [← List.take_append_drop i ts, List.flatten_append]
  simp
set_option maxHeartbeats 1000000 in
theorem wraps_any (s : ByteArray) (n : Int) (w : World) (hs : s.size ≤ 140737488351232) (h0 : -9223372036854775808 ≤ n) (h1 : n ≤ 9223372036854775807) :
    Calls Try.prog 3 #[.string s, .int .i64 n] w fun e w' => e = .returned (.bool true) ∧ Below w.heap.size w w' := by
  by_cases hbig : 3000 < s.size
  · have C := Lib.hid (awake_any w)
    go_enter Try.func3, Try.ntmps3
    go_wp2_with fail
    refine C.out.mono ?_
    rintro e w1 ⟨rfl, hB1⟩
    go_wp2_with fail
    go_ret
    exact ⟨rfl, hB1⟩
  · have C := Lib.hid (awake_any w)
    go_enter Try.func3, Try.ntmps3
    go_wp2_with fail
    refine C.out.mono ?_
    rintro e w1 ⟨rfl, hB1⟩
    have C2 := Lib.hid (wrap_any s n w1 (by omega) h0 h1)
    go_wp2_with fail
    refine C2.out.mono ?_
    rintro e w2 ⟨v, ts, W, rfl, hW1, hWn, hO, hB2, hG⟩
    obtain ⟨ao, nn, cap, rfl, hnn⟩ := kt.row_form (xs := ts.map Value.string) (by rw [List.length_map]; exact hO)
    obtain rfl : nn = ts.length := by rw [hnn.out, List.length_map]
    have hHO := Lib.hid hO
    have hHG := Lib.hid hG
    have hcnt := b64p.good_count hG
    rw [List.length_map, kt.size_len] at hcnt
    clear hO hG
    go_wp2_with fail
    go_loop [6, 7] (fun av iv => ∃ (i : Nat) (a : ByteArray), i ≤ ts.length ∧ iv = .int .i64 i ∧ av = .string a ∧ a.size ≤ 3000 ∧ Hid (a.data.toList = ((ts.map fun x => x.data.toList).take i).flatten)) (fun _ iv => ts.length - (intOf iv).toNat)
    case atStart => exact ⟨0, ByteArray.empty, Nat.zero_le _, rfl, rfl, by decide, rfl⟩
    case round =>
      obtain ⟨i, a, hi, rfl, rfl, ha, hA⟩ := hrel
      by_cases hlt : i < ts.length
      · obtain ⟨g, hao, hcell, _⟩ := kt.row_some hHO.out (by omega)
        obtain ⟨x, hx⟩ : ∃ x : ByteArray, Hid (x = ts[i]) := ⟨ts[i], rfl⟩
        have hc : w2.cell? ⟨g, i, none⟩ = some (.string x) := hcell i _ (by rw [List.getElem?_map, List.getElem?_eq_getElem hlt, hx.out]; rfl)
        clear hcell
        have hmap : i < (ts.map fun x => x.data.toList).length := by rw [List.length_map]; exact hlt
        have hgi := hHG.out.1 i hmap
        rw [List.getElem_map, ← hx.out, kt.size_len] at hgi
        obtain ⟨p1, p2, p3⟩ := hgi
        have hap : a.data.toList ++ x.data.toList = ((ts.map fun x => x.data.toList).take (i + 1)).flatten := by
          rw [b64p.flat_take _ i hmap, ← hA.out, List.getElem_map, ← hx.out]
        have hap' := Lib.hid hap
        clear hap
        have q1 : ((x.size : Int) == 0) = false := by rw [beq_eq_false_iff_ne]; omega
        have q2 : (x.size : Int) ≤ 3000 := by
          have h := b64p.flat_mem (ts.map fun x => x.data.toList) i hmap
          have h2 := congrArg List.length hHG.out.2
          rw [List.append_nil, kt.size_len] at h2
          rw [List.getElem_map, ← hx.out, kt.size_len] at h
          omega
        subst hao
        rw [List.length_map] at p3
        by_cases hn1 : 1 ≤ n
        · have hnW : n = (W : Int) := by rcases hWn with h | h <;> omega
          have q3 : ¬ n < (x.size : Int) := by omega
          by_cases hlast : i + 1 < ts.length
          · have hxW : x.size = W := p3 (Or.inl hlast)
            have q4 : ((x.size : Int) != n) = false := by rw [hnW, hxW]; simp
            have q5 : ((i : Int) + 1 < (ts.length : Int)) := by omega
            clear p3
            have hnW' := Lib.hid hnW
            have hxW' := Lib.hid hxW
            clear hnW hxW
            go_wp2_with fail
            go_round
            case rel =>
              refine ⟨i + 1, a ++ x, by omega, by go_num, rfl, ?_, ?_⟩
              · have h := congrArg List.length hap'.out
                rw [List.length_append, kt.size_len, kt.size_len] at h
                have h2 := congrArg List.length hHG.out.2
                rw [List.append_nil, kt.size_len] at h2
                have h3 := flat_le (ts.map fun x => x.data.toList) (i + 1)
                rw [ByteArray.size_append]
                omega
              · show (a ++ x).data.toList = _
                rw [show (a ++ x).data.toList = a.data.toList ++ x.data.toList from by simp]
                exact hap'.out
            case measure => simp [intOf]; omega
          · have q5 : ¬ ((i : Int) + 1 < (ts.length : Int)) := by omega
            clear p3
            have hnW' := Lib.hid hnW
            clear hnW
            go_wp2_with fail
            go_round
            case rel =>
              refine ⟨i + 1, a ++ x, by omega, by go_num, rfl, ?_, ?_⟩
              · have h := congrArg List.length hap'.out
                rw [List.length_append, kt.size_len, kt.size_len] at h
                have h2 := congrArg List.length hHG.out.2
                rw [List.append_nil, kt.size_len] at h2
                have h3 := flat_le (ts.map fun x => x.data.toList) (i + 1)
                rw [ByteArray.size_append]
                omega
              · show (a ++ x).data.toList = _
                rw [show (a ++ x).data.toList = a.data.toList ++ x.data.toList from by simp]
                exact hap'.out
            case measure => simp [intOf]; omega
        · clear p3
          go_wp2_with fail
          go_round
          case rel =>
            refine ⟨i + 1, a ++ x, by omega, by go_num, rfl, ?_, ?_⟩
            · have h := congrArg List.length hap'.out
              rw [List.length_append, kt.size_len, kt.size_len] at h
              have h2 := congrArg List.length hHG.out.2
              rw [List.append_nil, kt.size_len] at h2
              have h3 := flat_le (ts.map fun x => x.data.toList) (i + 1)
              rw [ByteArray.size_append]
              omega
            · show (a ++ x).data.toList = _
              rw [show (a ++ x).data.toList = a.data.toList ++ x.data.toList from by simp]
              exact hap'.out
          case measure => simp [intOf]; omega
      · obtain rfl : i = ts.length := by omega
        have hae : a = s := kt.str_eq (by
          have h := hHG.out.2
          rw [List.append_nil] at h
          rw [hA.out, List.take_of_length_le (by rw [List.length_map]; exact Nat.le_refl _), h])
        subst hae
        by_cases hn1 : 1 ≤ n
        · go_wp2_with fail
          go_ret
          exact ⟨rfl, hB1.trans (hB2.mono hB1.size)⟩
        · have hone : ts.length ≤ 1 := by
            have := b64p.good_one hHG.out (by rcases hWn with h | h <;> rw [kt.size_len] <;> omega)
            rwa [List.length_map] at this
          have hone' : (ts.length : Int) ≤ 1 := by omega
          go_wp2_with fail
          go_ret
          exact ⟨rfl, hB1.trans (hB2.mono hB1.size)⟩
end Go.Proofs.Ytjkhplpjmiclhaa
