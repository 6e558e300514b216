/- The walk of Encode: a node's bytes. -/
import Derived.Test.YtkeheaempbmmaaaOne
namespace Go.Proofs.Ytkeheaempbmmaaa
open Go.RowKit
namespace nod
open fldw
def lens (leaf : Bool) : List Cel → Nat
  | [] => 0
  | c :: r => len leaf c + lens leaf r
def slots (leaf : Bool) : Nat → List Cel → List UInt8
  | _, [] => []
  | a, c :: r => fld.be a 2 ++ slots leaf (a + len leaf c) r
def tails (leaf : Bool) : List Cel → List UInt8
  | [] => []
  | c :: r => (cellB leaf c).data.toList ++ tails leaf r
/-- a node's bytes -/
def encB (leaf : Bool) (l : List Cel) : ByteArray := ⟨(fld.be l.length 2 ++ slots leaf (2 + 2 * l.length) l ++ tails leaf l).toArray⟩
theorem sum_lens (leaf : Bool) (l : List Cel) : sum leaf l = 2 + 2 * l.length + lens leaf l := by
  induction l with
  | nil => rfl
  | cons c r ih => simp only [sum, lens, ih, List.length_cons]; omega
theorem lens_append (leaf : Bool) (a b : List Cel) : lens leaf (a ++ b) = lens leaf a + lens leaf b := by
  induction a with
  | nil => simp [lens]
  | cons c r ih => simp only [List.cons_append, lens, ih]; omega
theorem slots_append (leaf : Bool) (a b : List Cel) : ∀ n, slots leaf n (a ++ b) = slots leaf n a ++ slots leaf (n + lens leaf a) b := by
  induction a with
  | nil => intro n; simp [lens, slots]
  | cons c r ih => intro n; simp [slots, lens, ih, Nat.add_assoc]
theorem tails_append (leaf : Bool) (a b : List Cel) : tails leaf (a ++ b) = tails leaf a ++ tails leaf b := by
  induction a with
  | nil => rfl
  | cons c r ih => simp [tails, ih]
theorem slots_take (leaf : Bool) (n : Nat) (l : List Cel) (i : Nat) (h : i < l.length) : slots leaf n (l.take (i + 1)) = slots leaf n (l.take i) ++ fld.be (n + lens leaf (l.take i)) 2 := by
  rw [List.take_succ_eq_append_getElem h, slots_append]
  simp [slots]
theorem tails_take (leaf : Bool) (l : List Cel) (i : Nat) (h : i < l.length) : tails leaf (l.take (i + 1)) = tails leaf (l.take i) ++ (cellB leaf l[i]).data.toList := by
  rw [List.take_succ_eq_append_getElem h, tails_append]
  simp [tails]
theorem lens_take (leaf : Bool) (l : List Cel) (i : Nat) (h : i < l.length) : lens leaf (l.take (i + 1)) = lens leaf (l.take i) + len leaf l[i] := by
  rw [List.take_succ_eq_append_getElem h, lens_append]
  simp [lens]
theorem lens_le (leaf : Bool) (l : List Cel) (i : Nat) : lens leaf (l.take i) ≤ lens leaf l := by
  conv => rhs; rw [← List.take_append_drop i l, lens_append]
  omega
/-- what Encode answers -/
def EncAns (leaf : Bool) (l : List Cel) (x : ByteArray) (er : Int) : Prop :=
  (¬ Fit leaf l ∧ x = ⟨#[]⟩ ∧ er = 4) ∨ (Fit leaf l ∧ 488 < sum leaf l ∧ x = ⟨#[]⟩ ∧ er = 5) ∨ (Fit leaf l ∧ sum leaf l ≤ 488 ∧ x = encB leaf l ∧ er = 0)
theorem enc_one {leaf : Bool} {l : List Cel} {x y : ByteArray} {a b : Int} (h : EncAns leaf l x a) (k : EncAns leaf l y b) : x = y ∧ a = b := by
  rcases h with ⟨h1, rfl, rfl⟩ | ⟨h1, h2, rfl, rfl⟩ | ⟨h1, h2, rfl, rfl⟩ <;> rcases k with ⟨k1, rfl, rfl⟩ | ⟨k1, k2, rfl, rfl⟩ | ⟨k1, k2, rfl, rfl⟩ <;> first | exact ⟨rfl, rfl⟩ | exact absurd k1 h1 | exact absurd h1 k1 | (exfalso; omega)
def EncE (leaf : Bool) (l : List Cel) (e : Ending) : Prop := ∃ x er, e = .returned (.tuple #[.string x, .int .i64 er]) ∧ EncAns leaf l x er
theorem put2' {n : Nat} (h : n < 65536) : fld.put n 2 = some (fld.be n 2) := put2 n (by omega)
set_option maxHeartbeats 4000000 in
theorem encode_any (leaf : Bool) (ao : Option Addr) (cap : Nat) (l : List Cel) (w : World) (hl : Hid (Cels w ao l)) (hs : Hid (∀ c ∈ l, c.key.size ≤ 1000000 ∧ c.val.size ≤ 1000000)) (hn : l.length ≤ 1000000) :
    Calls Try.prog 11 #[.bool leaf, .slice ao l.length cap] w fun e w' => EncE leaf l e ∧ Below w.heap.size w w' := by
  have R := Lib.hid (right_any leaf ao cap l w hl hn)
  have S := Lib.hid (fun w' (h : Below w.heap.size w w') => sum_any leaf ao cap l w' (Lib.hid (cels_below hl.out h)) hs hn)
  go_enter Try.func11, Try.ntmps11
  go_wp2_with fail
  refine R.out.mono ?_
  rintro e w1 ⟨⟨b, rfl, hb⟩, hB1⟩
  have hb' := Lib.hid hb
  clear hb
  cases b with
  | false =>
    have HN : Hid (¬ Fit leaf l) := fun h => by have := hb'.out.2 h; cases this
    go_wp2_with fail
    go_ret2
    exact ⟨⟨_, _, rfl, Or.inl ⟨HN.out, rfl, rfl⟩⟩, hB1⟩
  | true =>
    have HY : Hid (Fit leaf l) := hb'.out.1 rfl
    obtain ⟨M, hM⟩ : ∃ M : Nat, Hid (M = sum leaf l) := ⟨_, rfl⟩
    rw [← hM.out] at S
    go_wp2_with fail
    refine (S.out w1 hB1).mono ?_
    rintro e w2 ⟨rfl, hB2⟩
    have hB12 := hB1.trans (hB2.mono hB1.size)
    by_cases h4 : 488 < M
    · have h4' : 488 < (M : Int) := by omega
      go_wp2_with fail
      go_ret2
      exact ⟨⟨_, _, rfl, Or.inr (Or.inl ⟨HY.out, by rw [← hM.out]; exact h4, rfl, rfl⟩)⟩, hB12⟩
    · have h4' : ¬ 488 < (M : Int) := by omega
      have hsl := sum_lens leaf l
      rw [← hM.out] at hsl
      have hn488 : l.length ≤ 243 := by omega
      obtain ⟨T, hT⟩ : ∃ T : Nat, Hid (T = lens leaf l) := ⟨_, rfl⟩
      rw [← hT.out] at hsl
      have P := fun w => put_any ⟨#[]⟩ l.length 2 w (by decide) (show l.length < _ by omega) (by omega) (by omega)
      rw [put2' (by omega)] at P
      unfold putV at P
      simp only at P
      obtain ⟨h0, hh0⟩ : ∃ h0 : ByteArray, Hid (h0 = ⟨((⟨#[]⟩ : ByteArray).data.toList ++ fld.be l.length 2).toArray⟩) := ⟨_, rfl⟩
      rw [← hh0.out] at P
      have PH := Lib.hid P
      have wl : IntKind.u64.wrap (l.length : Int) = (l.length : Int) := by rw [IntKind.wrap_u64]; omega
      clear P
      go_wp2_with fail
      refine (PH.out _).mono ?_
      rintro e w3 ⟨rfl, hB3'⟩
      have hB3 := hB12.trans (hB3'.mono hB12.size)
      clear hB3'
      go_wp2_with fail
      go_loopw [6, 8, 35] (fun hv tv iv wr => ∃ (i : Nat) (h t : ByteArray), i ≤ l.length ∧ iv = .int .i64 i ∧ hv = .string h ∧ tv = .string t ∧ Hid (h.data.toList = fld.be l.length 2 ++ slots leaf (2 + 2 * l.length) (l.take i)) ∧ Hid (t.data.toList = tails leaf (l.take i)) ∧ h.size = 2 + 2 * i ∧ Hid (t.size = lens leaf (l.take i)) ∧ Below w.heap.size w wr) (fun _ _ iv _ => l.length - (intOf iv).toNat)
      case atStart => exact ⟨0, h0, ⟨#[]⟩, Nat.zero_le _, rfl, rfl, rfl, by show _ = _; rw [hh0.out]; simp [slots], rfl, by rw [← kt.size_len, hh0.out]; simp [fld.be_length], rfl, hB3⟩
      case round =>
        obtain ⟨i, h, t, hi, rfl, rfl, rfl, hH, hTt, hhz, htz, hB⟩ := hrel
        have hsz := hB.size
        by_cases hil : i < l.length
        · have hil' : (i : Int) < (l.length : Int) := by omega
          obtain ⟨c, hc⟩ : ∃ c : Cel, Hid (c = l[i]'hil) := ⟨l[i]'hil, rfl⟩
          obtain ⟨b, o, hao, f0, f1, f2, f3, f4⟩ := (cels_below hl.out hB) i hil
          rw [← hc.out] at f0 f1 f2 f3 f4
          subst hao
          have hok : ok leaf c = true := by rw [hc.out]; exact (HY.out.2 i hil).1
          have hlt := lens_take leaf l i hil
          have hle := lens_le leaf l (i + 1)
          rw [← hc.out, ← htz.out] at hlt
          rw [hlt, ← hT.out] at hle
          have htb : t.size + len leaf c ≤ 488 := by omega
          have P := fun w => put_any h (2 + 2 * l.length + t.size) 2 w (by omega) (show 2 + 2 * l.length + t.size < _ by omega) (by omega) (by omega)
          rw [put2' (by omega)] at P
          unfold putV at P
          simp only at P
          obtain ⟨h2, hh2⟩ : ∃ h2 : ByteArray, Hid (h2 = ⟨(h.data.toList ++ fld.be (2 + 2 * l.length + t.size) 2).toArray⟩) := ⟨_, rfl⟩
          rw [← hh2.out] at P
          have hh2z : h2.size = 2 + 2 * (i + 1) := by
            have e : h2.size = h.data.toList.length + 2 := by rw [hh2.out, ← kt.size_len]; simp [fld.be_length]
            rw [kt.size_len] at e
            omega
          have HH2 : Hid (h2.data.toList = fld.be l.length 2 ++ slots leaf (2 + 2 * l.length) (l.take (i + 1))) := by
            show _ = _
            rw [slots_take leaf _ l i hil, hh2.out, ← List.append_assoc, ← hH.out, ← htz.out]
          obtain ⟨N, hN⟩ : ∃ N : Nat, Hid (N = 2 + 2 * l.length + t.size) := ⟨_, rfl⟩
          rw [← hN.out] at P
          have hNb : N ≤ 3000000 := by rw [hN.out]; omega
          have eN : 2 + 2 * (l.length : Int) + (t.size : Int) = (N : Int) := by rw [hN.out]; omega
          have wN : IntKind.u64.wrap (N : Int) = (N : Int) := by rw [IntKind.wrap_u64]; omega
          have PH := Lib.hid P
          have CC := Lib.hid (fun w => cell_any leaf c w hok)
          have hcz := cellB_size hok
          obtain ⟨q, hq⟩ : ∃ q : ByteArray, Hid (q = cellB leaf c) := ⟨_, rfl⟩
          rw [← hq.out] at CC hcz
          have HT2 : Hid ((t ++ q).data.toList = tails leaf (l.take (i + 1))) := by
            show _ = _
            rw [tails_take leaf l i hil, ← hc.out, ← hq.out, ← hTt.out]
            simp
          have HZ2 : Hid ((t ++ q).size = lens leaf (l.take (i + 1))) := by
            show _ = _
            rw [hlt, ← hcz]
            simp
          have hHok := Lib.hid hok
          rw [← hcz] at htb
          have hsm : ¬ 9223372036854775807 < t.size + q.size := by omega
          clear P hlt hle hok hcz
          unfold Cel.v at CC
          have hx0 := Lib.hid (boxed_new wr c 35)
          have hBx : Hid (Below w.heap.size w (wr.alloc (.cells #[.string c.key, .string c.val, .int .i64 c.over, .int .i64 c.size, .int .i64 c.child] 35))) := hB.alloc hsz _
          go_wp2_with fail
          refine (PH.out _).mono ?_
          rintro e w4 ⟨rfl, hB4⟩
          obtain ⟨_, y0, y1, y2, y3, y4⟩ := boxed_below hx0.out hB4
          go_wp2_with fail
          refine (CC.out _).mono ?_
          rintro e w5 ⟨rfl, hB5⟩
          have hB6 : Below w.heap.size w w5 := (hBx.out.trans (hB4.mono hBx.out.size)).trans (hB5.mono (Nat.le_trans hBx.out.size hB4.size))
          go_wp2_with fail
          go_roundw
          case rel => exact ⟨i + 1, h2, t ++ q, by omega, by go_num, rfl, rfl, HH2, HT2, hh2z, HZ2, hB6⟩
          case measure => simp [intOf]; omega
        · obtain rfl : i = l.length := by omega
          have hil' : ¬ (l.length : Int) < (l.length : Int) := by omega
          have htl := htz.out
          rw [List.take_of_length_le (Nat.le_refl _), ← hT.out] at htl
          have hsm : ¬ 9223372036854775807 < h.size + t.size := by omega
          have HX : Hid (h ++ t = encB leaf l) := by
            show _ = _
            have h1 := hH.out
            have h2 := hTt.out
            rw [List.take_of_length_le (Nat.le_refl _)] at h1 h2
            exact kt.str_eq (by simp [encB, h1, h2])
          clear htl
          go_wp2_with fail
          go_ret2
          exact ⟨⟨_, _, rfl, Or.inr (Or.inr ⟨HY.out, by rw [← hM.out]; omega, HX.out, rfl⟩)⟩, hB⟩
end nod
end Go.Proofs.Ytkeheaempbmmaaa
