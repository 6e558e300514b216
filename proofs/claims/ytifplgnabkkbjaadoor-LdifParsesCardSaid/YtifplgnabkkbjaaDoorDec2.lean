/- The walks of Decode, the program's and the reference's, and of the laws B64Encodes, B64Decodes. -/
import Derived.Test.YtifplgnabkkbjaaDoorDec
namespace Go.Proofs.YtifplgnabkkbjaaDoor
open Go.RowKit

/-- what Decode leaves -/
def DecRes (o : Option (List UInt8)) (w : World) (e : Ending) (w' : World) : Prop := e = .returned (b64p.uhV o) ∧ Below w.heap.size w w'
theorem bstr_ne {a b : ByteArray} (h : a ≠ b) : (a.toList == b.toList) = false := by
  rw [beq_eq_false_iff_ne]
  intro e; apply h; apply kt.str_eq; rw [← Lib.toList_data, ← Lib.toList_data, e]

set_option maxHeartbeats 1000000 in
theorem decode_any (s : ByteArray) (w : World) (hs : s.size ≤ 20000) :
    Calls Tryd.prog 22 #[.string s] w (DecRes (b64p.D s.data.toList) w) := by
  by_cases hodd : s.size % 4 ≠ 0
  · have ho : b64p.D s.data.toList = none := by unfold b64p.D; rw [if_pos (by rw [kt.size_len]; exact hodd)]
    have HO := Lib.hid ho
    have q1 : ((s.size : Int) % 4 != 0) = true := by rw [bne_iff_ne]; omega
    clear ho hodd
    go_enter Tryd.func22, Tryd.ntmps22
    go_wp2_with fail
    go_ret2
    exact ⟨by rw [HO.out]; rfl, Below.refl _ _⟩
  · have q1 : ((s.size : Int) % 4 != 0) = false := by rw [bne_eq_false_iff_eq]; omega
    have hodd' : Hid (s.size % 4 = 0) := by show _ = _; omega
    have HD0 : Hid (b64p.D s.data.toList = match b64p.decL s.data.toList with | none => none | some b => if b64p.enc b = s.data.toList then some b else none) := by
      show _ = _
      unfold b64p.D; rw [if_neg (by rw [kt.size_len]; exact hodd)]
      rfl
    clear hodd
    go_enter Tryd.func22, Tryd.ntmps22
    go_wp2_with fail
    go_loopw [4, 5] (fun bv iv wr => ∃ (i : Nat) (d : List UInt8), i ≤ s.size ∧ Hid (i % 4 = 0) ∧ d.length ≤ i ∧ iv = .int .i64 i ∧ Hid (wr.ownsRow w.heap.size 5 1 bv (Lib.byteCells d).length (Lib.byteCells d)) ∧ Hid (b64p.decL s.data.toList = (b64p.decL (s.data.toList.drop i)).map (d ++ ·)) ∧ Below w.heap.size w wr) (fun _ iv _ => s.size - (intOf iv).toNat)
    case atStart => exact ⟨0, [], Nat.zero_le _, rfl, by simp, rfl, World.ownsRow_nil _ _ _ _, by show _ = _; simp, Below.refl _ _⟩
    case round =>
      obtain ⟨i, d, hi, hpar, hd, rfl, hO, hU, hB⟩ := hrel
      have hsz := hB.size
      by_cases hlt : i < s.size
      · have hi4 : i + 4 ≤ s.size := by have := hpar.out; have := hodd'.out; omega
        obtain ⟨t, htx⟩ : ∃ t : ByteArray, Hid (t = s.extract i (i + 4)) := ⟨_, rfl⟩
        have htd : t.data.toList = (s.data.toList.drop i).take 4 := by rw [htx.out, Lib.extract_data]; simp
        have ht4 : t.size = 4 := by rw [← kt.size_len, htd, List.length_take, List.length_drop, kt.size_len]; omega
        have hcons := b64p.decL_cons (l := s.data.toList.drop i) (by intro e; have := congrArg List.length e; simp at this; omega)
        rw [← htd, List.drop_drop] at hcons
        have HC := Lib.hid hcons
        have HT4 := Lib.hid ht4
        have HTD := Lib.hid htd
        clear hcons ht4 htd
        have f3 : (i : Int) + 4 ≤ (s.size : Int) := by omega
        have f6 : ((i : Int) + 4).toNat = i + 4 := by omega
        have ex : s.extract i (i + 4) = t := htx.out.symm
        have C := four_any t HT4.out w.heap.size
        have CC : Hid (∀ bv, Hid (wr.ownsRow w.heap.size 5 1 bv (Lib.byteCells d).length (Lib.byteCells d)) → Calls Tryd.prog 33 #[.string t, bv] wr (FourRes (b64p.fourD t.data.toList) w.heap.size d wr)) := fun bv h => C bv d (by omega) wr h hsz
        clear C
        cases hfd : b64p.fourD t.data.toList with
        | none =>
          have hnone : b64p.D s.data.toList = none := by
            rw [HD0.out, hU.out, HC.out, hfd]; rfl
          rw [hfd] at CC
          have HN := Lib.hid hnone
          clear hnone hfd
          go_wp2_with fail
          refine (CC.out _ hO).mono ?_
          intro e w1 h1
          unfold FourRes at h1
          obtain ⟨rfl, hB1⟩ := h1
          go_wp2_with fail
          go_ret2
          exact ⟨by rw [HN.out]; rfl, hB.trans (hB1.mono hsz)⟩
        | some r =>
          have hr3 := b64p.fourD_len hfd
          have hsome : b64p.decL s.data.toList = (b64p.decL (s.data.toList.drop (i + 4))).map ((d ++ r) ++ ·) := by
            rw [hU.out, HC.out, hfd, Option.map_map]
            congr 1
            funext x
            simp
          rw [hfd] at CC
          have HS := Lib.hid hsome
          clear hsome hfd
          go_wp2_with fail
          refine (CC.out _ hO).mono ?_
          intro e w1 h1
          unfold FourRes at h1
          obtain ⟨v1, rfl, hO1, hB1⟩ := h1
          have HO1 := Lib.hid hO1
          clear hO1
          go_wp2_with fail
          go_roundw
          case rel =>
            exact ⟨i + 4, d ++ r, by omega, by show _ = _; have := hpar.out; omega, by rw [List.length_append]; omega, by go_num, HO1.out, HS.out, hB.trans hB1⟩
          case measure => simp [intOf]; omega
      · obtain rfl : i = s.size := by omega
        have hst := kt.str_of_row (P := Tryd.prog) (dst := 9) Tryd.underlying56 Tryd.underlying5 Tryd.underlying9 hO.out
        have hfin : b64p.decL s.data.toList = some d := by
          rw [hU.out, List.drop_of_length_le (by simp), b64p.decL_nil]
          simp
        obtain ⟨en, hen⟩ : ∃ en : ByteArray, Hid (en = ⟨(b64p.enc d).toArray⟩) := ⟨⟨(b64p.enc d).toArray⟩, rfl⟩
        have C : Hid (Calls Tryd.prog 34 #[.string ⟨d.toArray⟩] wr fun e w' => e = .returned (.string en) ∧ Below wr.heap.size wr w') := by
          rw [hen.out]
          exact encode_any ⟨d.toArray⟩ wr (by show d.toArray.size ≤ _; simp; omega)
        have hstB : Hid (∀ w1, Below wr.heap.size wr w1 → (convert 56 9 _).run Tryd.prog w1 = .ok (.string ⟨d.toArray⟩) w1) := fun w1 hb => kt.str_of_row (P := Tryd.prog) (dst := 9) Tryd.underlying56 Tryd.underlying5 Tryd.underlying9 (kt.row_below hO.out hb)
        by_cases heq : en = s
        · have hsome : b64p.D s.data.toList = some d := by
            rw [HD0.out, hfin]
            simp only []
            rw [if_pos (by rw [← heq, hen.out])]
          have HS := Lib.hid hsome
          clear hsome hfin
          have heq' := heq.symm
          clear heq
          subst heq'
          go_wp2_with fail
          refine C.out.mono ?_
          rintro e w1 ⟨rfl, hB1⟩
          have hst2 := hstB.out w1 hB1
          go_wp2_with fail
          go_ret2
          exact ⟨by rw [HS.out]; rfl, hB.trans (hB1.mono hsz)⟩
        · have hnone : b64p.D s.data.toList = none := by
            rw [HD0.out, hfin]
            simp only []
            rw [if_neg (by intro e; apply heq; apply kt.str_eq; rw [hen.out, ← e])]
          have HN := Lib.hid hnone
          have hne := bstr_ne heq
          clear hnone hfin
          go_wp2_with fail
          refine C.out.mono ?_
          rintro e w1 ⟨rfl, hB1⟩
          go_wp2_with fail
          go_ret2
          exact ⟨by rw [HN.out]; rfl, hB.trans (hB1.mono hsz)⟩

set_option maxHeartbeats 2000000 in
theorem rdecode_any (s : ByteArray) (w : World) (hs : s.size ≤ 20000) :
    Calls Tryd.prog 26 #[.string s] w (DecRes (b64p.R s.data.toList) w) := by
  go_enter Tryd.func26, Tryd.ntmps26
  go_wp2_with fail
  go_loopw [4, 5, 6, 7] (fun bv nv tv iv wr => ∃ (i n b : Nat) (d : List UInt8), i ≤ s.size ∧ b < 8 ∧ Hid (n < 2 ^ b) ∧ d.length ≤ i ∧ iv = .int .i64 i ∧ nv = .int .i64 n ∧ tv = .int .i64 b ∧ Hid (wr.ownsRow w.heap.size 5 1 bv (Lib.byteCells d).length (Lib.byteCells d)) ∧ Hid (b64p.rRun (s.data.toList.drop i) n b d = b64p.rRun s.data.toList 0 0 []) ∧ Below w.heap.size w wr) (fun _ _ _ iv _ => s.size - (intOf iv).toNat)
  case atStart => exact ⟨0, 0, 0, [], Nat.zero_le _, by omega, by show _ < _; simp, by simp, rfl, rfl, rfl, emptyRow w _, rfl, (Below.refl _ _).alloc (Nat.le_refl _) _⟩
  case round =>
    obtain ⟨i, n, b, d, hi, hb8, hn, hd, rfl, rfl, rfl, hO, hR, hB⟩ := hrel
    have hsz := hB.size
    have hn128 : n < 128 := by
      have h2 : 2 ^ b ≤ 2 ^ 7 := Nat.pow_le_pow_right (by omega) (by omega)
      have h3 : (2 : Nat) ^ 7 = 128 := by decide
      have := hn.out
      omega
    by_cases hstop : i < s.size ∧ (s.data.toList.getD i 0) ≠ 61
    · obtain ⟨hlt, h61⟩ := hstop
      rw [getD_at s i hlt] at h61
      have hdrop : s.data.toList.drop i = s[i] :: s.data.toList.drop (i + 1) := List.drop_eq_getElem_cons (by simpa using hlt)
      have hR2 := hR.out
      rw [hdrop] at hR2
      have HR := Lib.hid hR2
      clear hR2 hdrop
      obtain ⟨c, hc⟩ : ∃ c : UInt8, Hid (c = s[i]) := ⟨s[i], rfl⟩
      rw [← hc.out] at HR h61
      have hce : s[i] = c := hc.out.symm
      have q2 : ((c.toNat : Int) != 61) = true := by rw [bne_iff_ne]; intro h; apply h61; apply UInt8.toNat_inj.1; show c.toNat = 61; omega
      have H61 := Lib.hid h61
      clear h61
      obtain ⟨x, hx⟩ : ∃ x : Int, Hid (x = b64p.idx c) := ⟨_, rfl⟩
      have hxb : -1 ≤ x ∧ x ≤ 63 := by rw [hx.out]; exact b64p.idx_le c
      obtain ⟨hx1, hx2⟩ := hxb
      have C : Hid (∀ W : World, Calls Tryd.prog 39 #[.int .u8 (c.toNat : Int)] W fun e w' => e = .returned (.int .i64 x) ∧ W = w') := by
        intro W; rw [hx.out]; exact number_any c W
      by_cases hx0 : x < 0
      · have hnone : b64p.R s.data.toList = none := by
          unfold b64p.R
          rw [← HR.out]
          simp only [b64p.rRun]
          rw [if_neg H61.out, if_pos (by rw [← hx.out]; exact hx0)]
        have HN := Lib.hid hnone
        clear hnone
        go_wp2_with fail
        refine (C.out _).mono ?_
        rintro e w' ⟨rfl, rfl⟩
        go_wp2_with fail
        go_ret2
        exact ⟨by rw [HN.out]; rfl, hB⟩
      · obtain ⟨X, rfl⟩ := Int.eq_ofNat_of_zero_le (show 0 ≤ x by omega)
        obtain ⟨N, hN⟩ : ∃ N : Nat, Hid (N = n * 64 + X) := ⟨_, rfl⟩
        have eN : (n : Int) * 64 + (X : Int) = (N : Int) := by have := hN.out; omega
        have hN13 : N < 8192 := by have := hN.out; omega
        have HX : Hid ((b64p.idx c).toNat = X) := by show _ = _; rw [← hx.out]; rfl
        have HX0 : Hid (¬ b64p.idx c < 0) := by show ¬ _; rw [← hx.out]; exact hx0
        by_cases hb2 : b < 2
        · go_wp2_with fail
          refine (C.out _).mono ?_
          rintro e w' ⟨rfl, rfl⟩
          go_wp2_with fail
          go_roundw
          case rel =>
            refine ⟨i + 1, N, b + 6, d, by omega, by omega, ?_, by omega, by go_num, rfl, by go_num, hO, ?_, hB⟩
            · show N < 2 ^ (b + 6)
              rw [Nat.pow_add]
              have h1 := hn.out
              have h2 := hN.out
              have h3 : (2 : Nat) ^ 6 = 64 := by decide
              rw [h3]
              omega
            · show _ = _
              rw [← HR.out]
              simp only [b64p.rRun]
              rw [if_neg H61.out, if_neg (show ¬ b64p.idx c < 0 from by have := HX0.out; omega), if_neg (by omega), HX.out, ← hN.out]
          case measure => simp [intOf]; omega
        · obtain ⟨B, hBb⟩ : ∃ B : Nat, Hid (B = b - 2) := ⟨_, rfl⟩
          have hB6 : B < 6 := by have := hBb.out; omega
          have hbB : b = B + 2 := by have := hBb.out; omega
          subst hbB
          clear hBb
          go_wp2_with fail
          refine (C.out _).mono ?_
          rintro e w' ⟨rfl, rfl⟩
          go_wp2_with fail
          go_loop [9, 10] (fun pv jv => ∃ (j p : Nat), j ≤ B ∧ jv = .int .i64 ((j + 8 : Nat) : Int) ∧ pv = .int .i64 p ∧ p ≤ 32 ∧ Hid (p = 2 ^ j)) (fun _ jv => B + 8 - (intOf jv).toNat)
          case atStart => exact ⟨0, 1, by omega, rfl, rfl, by omega, rfl⟩
          case round =>
            obtain ⟨j, p, hj, rfl, rfl, hp, hpe⟩ := hrel
            by_cases hjB : j < B
            · have hp16 : p ≤ 16 := by
                have h2 : 2 ^ j ≤ 2 ^ 4 := Nat.pow_le_pow_right (by omega) (by omega)
                have h3 : (2 : Nat) ^ 4 = 16 := by decide
                have := hpe.out
                omega
              go_wp2_with fail
              go_round
              case rel => exact ⟨j + 1, 2 * p, by omega, by go_num, by go_num, by omega, by show _ = _; rw [hpe.out, Nat.pow_succ, Nat.mul_comm]⟩
              case measure => simp [intOf]; omega
            · obtain rfl : j = B := by omega
              have hp0 : 0 < p := by rw [hpe.out]; exact Nat.two_pow_pos _
              obtain ⟨q, hq⟩ : ∃ q : Nat, Hid (q = N / p) := ⟨_, rfl⟩
              obtain ⟨r, hr⟩ : ∃ r : Nat, Hid (r = N % p) := ⟨_, rfl⟩
              have eq1 : (N : Int) / (p : Int) = (q : Int) := by rw [hq.out]; exact (Int.natCast_ediv N p).symm
              have er1 : (N : Int) % (p : Int) = (r : Int) := by rw [hr.out]; exact (Int.natCast_emod N p).symm
              have hqb : q < 8192 := by rw [hq.out]; exact Nat.lt_of_le_of_lt (Nat.div_le_self _ _) hN13
              have hrb : r < 8192 := by rw [hr.out]; exact Nat.lt_of_le_of_lt (Nat.mod_le _ _) hN13
              obtain ⟨m, hm⟩ : ∃ m : UInt8, Hid (m = UInt8.ofNat q) := ⟨_, rfl⟩
              have em : (q : Int) % 256 = (m.toNat : Int) := by rw [hm.out, UInt8.toNat_ofNat']; omega
              obtain ⟨v', w1, hap, hO1, hg1, hB1⟩ := kt.app1 (P := Tryd.prog) (ty := 56) (w := wr) Tryd.underlying56 bld.infoByte rfl (.int .u8 (m.toNat : Int)) rfl hO.out (by rw [Lib.byteCells_length]; unfold maxLen; omega) (by rw [Lib.byteCells_length]; omega) hsz
              have HO1 := Lib.hid hO1
              have HG1 := Lib.hid hg1
              clear hO1 hg1
              go_wp2_with (at_builtin; refine Lib.wpList_append_run _ rfl _ _ _ _ rfl _ _ rfl rfl _ _ hap ?_)
              go_roundw
              case rel =>
                refine ⟨i + 1, r, j, d ++ [m], by omega, by omega, ?_, by simp; omega, by go_num, by rw [er1], by go_num, ?_, ?_, hB.trans hB1⟩
                · show r < 2 ^ j
                  rw [hr.out, ← hpe.out]
                  exact Nat.mod_lt _ hp0
                · show World.ownsRow _ _ _ _ _ _ _
                  rw [Lib.byteCells_append]
                  exact HO1.out
                · show _ = _
                  rw [← HR.out]
                  simp only [b64p.rRun]
                  rw [if_neg H61.out, if_neg (show ¬ b64p.idx c < 0 from by have := HX0.out; omega), if_pos (by omega), HX.out, ← hN.out, show j + 2 + 6 - 8 = j from by omega, ← hpe.out, ← hq.out, ← hr.out, ← hm.out]
              case measure => simp [intOf]; omega
    · have hst := kt.str_of_row (P := Tryd.prog) (dst := 9) Tryd.underlying56 Tryd.underlying5 Tryd.underlying9 hO.out
      have hfin : b64p.rRun s.data.toList 0 0 [] = some d := by
        rw [← hR.out]
        by_cases hlt : i < s.size
        · have h61 : s.data.toList.getD i 0 = 61 := Classical.byContradiction fun h => hstop ⟨hlt, h⟩
          rw [getD_at s i hlt] at h61
          rw [show s.data.toList.drop i = s[i] :: s.data.toList.drop (i + 1) from List.drop_eq_getElem_cons (by simpa using hlt), h61, b64p.rRun_pad]
        · rw [List.drop_of_length_le (by rw [kt.size_len]; omega)]
          rfl
      have HD0 : Hid (b64p.R s.data.toList = if b64p.enc d = s.data.toList then some d else none) := by
        show _ = _
        unfold b64p.R
        rw [hfin]
      obtain ⟨en, hen⟩ : ∃ en : ByteArray, Hid (en = ⟨(b64p.enc d).toArray⟩) := ⟨⟨(b64p.enc d).toArray⟩, rfl⟩
      have C : Hid (Calls Tryd.prog 40 #[.string ⟨d.toArray⟩] wr fun e w' => e = .returned (.string en) ∧ Below wr.heap.size wr w') := by
        rw [hen.out]
        exact rencode_any ⟨d.toArray⟩ wr (by show d.toArray.size ≤ _; simp; omega)
      have hstB : Hid (∀ w1, Below wr.heap.size wr w1 → (convert 56 9 _).run Tryd.prog w1 = .ok (.string ⟨d.toArray⟩) w1) := fun w1 hb => kt.str_of_row (P := Tryd.prog) (dst := 9) Tryd.underlying56 Tryd.underlying5 Tryd.underlying9 (kt.row_below hO.out hb)
      clear hfin
      have hres : en = s ∧ b64p.R s.data.toList = some d ∨ en ≠ s ∧ b64p.R s.data.toList = none := by
        by_cases heq : en = s
        · exact Or.inl ⟨heq, by rw [HD0.out, if_pos (by rw [← heq, hen.out])]⟩
        · exact Or.inr ⟨heq, by rw [HD0.out, if_neg (by intro e; apply heq; apply kt.str_eq; rw [hen.out, ← e])]⟩
      by_cases hlt : i < s.size
      · have h61 : s.data.toList.getD i 0 = 61 := Classical.byContradiction fun h => hstop ⟨hlt, h⟩
        rw [getD_at s i hlt] at h61
        obtain ⟨n1, en1⟩ : ∃ n : Nat, s[i].toNat = n := ⟨_, rfl⟩
        have q2 : ((n1 : Int) != 61) = false := by rw [← en1, h61]; rfl
        clear h61 hstop
        rcases hres with ⟨heq, hsome⟩ | ⟨heq, hnone⟩
        · have HS := Lib.hid hsome
          have heq' := heq.symm
          clear hsome heq
          subst heq'
          go_wp2_with fail
          refine C.out.mono ?_
          rintro e w1 ⟨rfl, hB1⟩
          have hst2 := hstB.out w1 hB1
          go_wp2_with fail
          go_ret2
          exact ⟨by rw [HS.out]; rfl, hB.trans (hB1.mono hsz)⟩
        · have HN := Lib.hid hnone
          have hne := bstr_ne heq
          clear hnone
          go_wp2_with fail
          refine C.out.mono ?_
          rintro e w1 ⟨rfl, hB1⟩
          go_wp2_with fail
          go_ret2
          exact ⟨by rw [HN.out]; rfl, hB.trans (hB1.mono hsz)⟩
      · obtain rfl : i = s.size := by omega
        clear hstop
        rcases hres with ⟨heq, hsome⟩ | ⟨heq, hnone⟩
        · have HS := Lib.hid hsome
          have heq' := heq.symm
          clear hsome heq
          subst heq'
          go_wp2_with fail
          refine C.out.mono ?_
          rintro e w1 ⟨rfl, hB1⟩
          have hst2 := hstB.out w1 hB1
          go_wp2_with fail
          go_ret2
          exact ⟨by rw [HS.out]; rfl, hB.trans (hB1.mono hsz)⟩
        · have HN := Lib.hid hnone
          have hne := bstr_ne heq
          clear hnone
          go_wp2_with fail
          refine C.out.mono ?_
          rintro e w1 ⟨rfl, hB1⟩
          go_wp2_with fail
          go_ret2
          exact ⟨by rw [HN.out]; rfl, hB.trans (hB1.mono hsz)⟩
end Go.Proofs.YtifplgnabkkbjaaDoor
