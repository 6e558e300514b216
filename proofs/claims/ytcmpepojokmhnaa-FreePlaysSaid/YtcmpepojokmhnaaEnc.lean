/- The walk of Encode: a piece's bytes. -/
import Derived.Test.YtcmpepojokmhnaaMay
import Derived.Test.YtcmpepojokmhnaaFieldN
namespace Go.Proofs.Ytcmpepojokmhnaa
open Go.RowKit
namespace fre
open fldw
set_option linter.unusedVariables false
def EncE (next : Int) (l : List Fre) (e : Ending) : Prop := ∃ x er, e = .returned (.tuple #[.string x, .int .i64 er]) ∧ EncF next l x er
theorem put_run (s : ByteArray) (n k : Nat) (w : World) (hs : s.size ≤ 1000000) (h1 : 1 ≤ k) (h8 : k ≤ 8) (hn : n < 256 ^ k) (hn2 : n < 18446744073709551616) :
    Calls Try.prog 38 #[.string s, .int .u64 (n : Int), .int .i64 (k : Int)] w fun e w' => e = .returned (.tuple #[.string ⟨(s.data.toList ++ fld.be n k).toArray⟩, .int .i64 0]) ∧ Below w.heap.size w w' := by
  have P := put_any s n (k : Int) w hs (show n < _ by omega) (by omega) (by omega)
  rw [put_some h1 h8 hn] at P
  exact P
theorem mk_size (l : List UInt8) : (⟨l.toArray⟩ : ByteArray).size = l.length := by rw [← kt.size_len]
set_option maxRecDepth 20000 in
set_option maxHeartbeats 2000000 in
theorem encode_any (next : Int) (ao : Option Addr) (cap : Nat) (l : List Fre) (w : World) (hl : Hid (Fres w ao l)) (hn : l.length ≤ 9223372036854775807) :
    Calls Try.prog 26 #[.int .i64 next, .slice ao l.length cap] w fun e w' => EncE next l e ∧ Below w.heap.size w w' := by
  have M := Lib.hid (may_any next ao cap l w hl hn)
  have HNN := Lib.hid hn
  clear hn
  go_enter Try.func26, Try.ntmps26
  go_wp2_with fail
  refine M.out.mono ?_
  rintro e w1 ⟨⟨b, rfl, hb⟩, hB1⟩
  have hb' := Lib.hid hb
  clear hb
  cases b with
  | false =>
    have HN : Hid (¬ MayP next l) := fun h => by have := hb'.out.2 h; cases this
    go_wp2_with fail
    go_ret2
    exact ⟨⟨_, _, rfl, Or.inl ⟨HN.out, rfl, rfl⟩⟩, hB1⟩
  | true =>
    have HY : Hid (MayP next l) := hb'.out.1 rfl
    have hl40 := HY.out.2.2.1
    obtain ⟨m, hm⟩ := Int.eq_ofNat_of_zero_le HY.out.1
    have hm512 : m < 512 := by have := HY.out.2.1; omega
    have q4 := p4
    have q2 := p2
    have q8 := p8
    have P1 : ∀ w, Calls Try.prog 38 #[.string ⟨#[]⟩, .int .u64 (m : Int), .int .i64 4] w fun e w' => e = .returned (.tuple #[.string ⟨(fld.be m 4).toArray⟩, .int .i64 0]) ∧ Below w.heap.size w w' := fun w => put_run ⟨#[]⟩ m 4 w (by decide) (by omega) (by omega) (by omega) (by omega)
    obtain ⟨s1, hs1⟩ : ∃ s1 : ByteArray, Hid (s1 = ⟨(fld.be m 4).toArray⟩) := ⟨_, rfl⟩
    rw [← hs1.out] at P1
    have z1 : s1.size = 4 := by rw [hs1.out, mk_size, fld.be_length]
    have P2 : ∀ w, Calls Try.prog 38 #[.string s1, .int .u64 (l.length : Int), .int .i64 2] w fun e w' => e = .returned (.tuple #[.string ⟨(s1.data.toList ++ fld.be l.length 2).toArray⟩, .int .i64 0]) ∧ Below w.heap.size w w' := fun w => put_run s1 l.length 2 w (by omega) (by omega) (by omega) (by omega) (by omega)
    obtain ⟨s2, hs2⟩ : ∃ s2 : ByteArray, Hid (s2 = ⟨(s1.data.toList ++ fld.be l.length 2).toArray⟩) := ⟨_, rfl⟩
    rw [← hs2.out] at P2
    have z2 : s2.data.toList = fld.be m 4 ++ fld.be l.length 2 := by rw [hs2.out, hs1.out]
    have Z2 := Lib.hid z2
    have PH1 := Lib.hid P1
    have PH2 := Lib.hid P2
    have wm : IntKind.u64.wrap next = (m : Int) := by rw [hm, IntKind.wrap_u64]; omega
    have wl : IntKind.u64.wrap (l.length : Int) = (l.length : Int) := by rw [IntKind.wrap_u64]; omega
    have HM := Lib.hid hm
    clear P1 P2 z1 z2 hm q2 q4 q8
    go_wp2_with fail
    refine (PH1.out _).mono ?_
    rintro e w2 ⟨rfl, hB2⟩
    have HB2 : Hid (Below w.heap.size w w2) := hB1.trans (hB2.mono hB1.size)
    go_wp2_with fail
    refine (PH2.out _).mono ?_
    rintro e w3 ⟨rfl, hB3⟩
    have HB3 : Hid (Below w.heap.size w w3) := HB2.out.trans (hB3.mono HB2.out.size)
    go_wp2_with fail
    go_loopw [6, 30] (fun sv iv wr => ∃ (i : Nat) (s : ByteArray), i ≤ l.length ∧ iv = .int .i64 i ∧ sv = .string s ∧ Hid (s.data.toList = fld.be m 4 ++ fld.be l.length 2 ++ (l.take i).flatMap oneF) ∧ Below w.heap.size w wr) (fun _ iv _ => l.length - (intOf iv).toNat)
    case atStart => exact ⟨0, s2, Nat.zero_le _, rfl, rfl, by show _ = _; rw [Z2.out]; simp, HB3.out⟩
    case round =>
      obtain ⟨i, s, hi, rfl, rfl, hS, hB⟩ := hrel
      have hsz := hB.size
      by_cases hil : i < l.length
      · have hil' : (i : Int) < (l.length : Int) := by omega
        obtain ⟨c, hc⟩ : ∃ c : Fre, Hid (c = l[i]'hil) := ⟨l[i]'hil, rfl⟩
        obtain ⟨b, o, hao, f0, f1⟩ := (fres_below hl.out hB) i hil
        rw [← hc.out] at f0 f1
        have hok : okF c := by rw [hc.out]; exact HY.out.2.2.2.2.1 _ (List.getElem_mem hil)
        obtain ⟨t, ht⟩ := Int.eq_ofNat_of_zero_le hok.1
        obtain ⟨g, hg⟩ := Int.eq_ofNat_of_zero_le (show 0 ≤ c.page by have := hok.2.2.1; omega)
        have htb : t ≤ 1099511627776 := by have := hok.2.1; omega
        have hgb : g < 512 := by have := hok.2.2.2; omega
        have hsl : s.size = 6 + 12 * i := by
          rw [← kt.size_len, hS.out]
          simp only [List.length_append, fld.be_length, flatF_len, List.length_take]
          omega
        have q4 := p4
        have q8 := p8
        have P1 := fun w => put_run s t 8 w (by omega) (by omega) (by omega) (by omega) (by omega)
        obtain ⟨s3, hs3⟩ : ∃ s3 : ByteArray, Hid (s3 = ⟨(s.data.toList ++ fld.be t 8).toArray⟩) := ⟨_, rfl⟩
        rw [← hs3.out] at P1
        have z3 : s3.size = s.size + 8 := by rw [hs3.out, mk_size, List.length_append, fld.be_length, kt.size_len]
        have P2 := fun w => put_run s3 g 4 w (by omega) (by omega) (by omega) (by omega) (by omega)
        obtain ⟨s4, hs4⟩ : ∃ s4 : ByteArray, Hid (s4 = ⟨(s3.data.toList ++ fld.be g 4).toArray⟩) := ⟨_, rfl⟩
        rw [← hs4.out] at P2
        have HS4 : Hid (s4.data.toList = fld.be m 4 ++ fld.be l.length 2 ++ (l.take (i + 1)).flatMap oneF) := by
          show _ = _
          rw [List.take_succ_eq_append_getElem hil, List.flatMap_append, ← List.append_assoc, ← hS.out, hs4.out, hs3.out, ← hc.out]
          simp [oneF, ht, hg]
        have PH1 := Lib.hid P1
        have PH2 := Lib.hid P2
        have wt : IntKind.u64.wrap (t : Int) = (t : Int) := by rw [IntKind.wrap_u64]; omega
        have wg : IntKind.u64.wrap (g : Int) = (g : Int) := by rw [IntKind.wrap_u64]; omega
        rw [ht] at f0
        rw [hg] at f1
        have HB4 : Hid (Below w.heap.size w (wr.alloc (.cells #[.int .i64 (t : Int), .int .i64 (g : Int)] 28))) := hB.alloc hsz _
        have HX : Hid ((wr.alloc (.cells #[.int .i64 (t : Int), .int .i64 (g : Int)] 28)).heap[wr.heap.size]? = some (.cells #[.int .i64 (t : Int), .int .i64 (g : Int)] 28 (0, 0))) := heap_alloc_last wr _
        subst hao
        clear P1 P2 hok ht hg hsl q4 q8 z3
        go_wp2_with fail
        refine (PH1.out _).mono ?_
        rintro e w4 ⟨rfl, hB5⟩
        have hx := (hB5.block _ (kt.bld_lt HX.out)).trans HX.out
        have y1 : w4.cell? ⟨wr.heap.size, 1, none⟩ = some (.int .i64 (g : Int)) := by rw [Lib.cell_of_heap hx]; rfl
        have HB5 : Hid (Below w.heap.size w w4) := HB4.out.trans (hB5.mono HB4.out.size)
        clear hx
        go_wp2_with fail
        refine (PH2.out _).mono ?_
        rintro e w5 ⟨rfl, hB6⟩
        go_wp2_with fail
        go_roundw
        case rel => exact ⟨i + 1, s4, by omega, by go_num, rfl, HS4, HB5.out.trans (hB6.mono HB5.out.size)⟩
        case measure => simp [intOf]; omega
      · obtain rfl : i = l.length := by omega
        have hil' : ¬ (l.length : Int) < (l.length : Int) := by omega
        have HX : Hid (s = ⟨(encF next.toNat l).toArray⟩) := by
          show _ = _
          have h1 := hS.out
          rw [List.take_of_length_le (Nat.le_refl _)] at h1
          have e : next.toNat = m := by rw [HM.out]; rfl
          exact kt.str_eq (by simp [encF, h1, e])
        go_wp2_with fail
        go_ret2
        exact ⟨⟨_, _, rfl, Or.inr ⟨HY.out, HX.out, rfl⟩⟩, hB⟩
end fre
end Go.Proofs.Ytcmpepojokmhnaa
