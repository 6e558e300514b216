/- The plain law of the sums: what the step-by-step sum computes, on natural numbers; no program in sight. -/
import Derived.Laws.BitsAllLaws
namespace Go.Proofs.YtdabdmmjdhebpaaDoor
namespace crcp

/-- one bit's step -/
def stp (x : Nat) : Nat := if x % 2 = 1 then x / 2 ^^^ 3988292384 else x / 2
/-- four bits' steps, eight bits' -/
def stp4 (x : Nat) : Nat := stp (stp (stp (stp x)))
def stp8 (x : Nat) : Nat := stp4 (stp4 x)

/-- so many bits' steps -/
def stpn : Nat → Nat → Nat
  | 0, x => x
  | j + 1, x => stp (stpn j x)
theorem stpn8 (x : Nat) : stpn 8 x = stp8 x := rfl
theorem stpn_succ (j x : Nat) : stpn (j + 1) x = stp (stpn j x) := rfl

theorem xor_half (x y : Nat) : (x ^^^ y) / 2 = x / 2 ^^^ y / 2 := by
  have h := Nat.shiftRight_xor_distrib (a := x) (b := y) (i := 1)
  simpa [Nat.shiftRight_eq_div_pow] using h
theorem xor_odd (x y : Nat) : (x ^^^ y) % 2 = (x % 2 + y % 2) % 2 := by
  have h := Nat.xor_mod_two_pow (a := x) (b := y) (n := 1)
  rcases Nat.mod_two_eq_zero_or_one x with hx | hx <;> rcases Nat.mod_two_eq_zero_or_one y with hy | hy <;> simp [hx, hy] at h ⊢ <;> omega
theorem stp_lin (x y : Nat) : stp (x ^^^ y) = stp x ^^^ stp y := by
  unfold stp
  rw [xor_odd, xor_half]
  rcases Nat.mod_two_eq_zero_or_one x with hx | hx <;> rcases Nat.mod_two_eq_zero_or_one y with hy | hy <;> simp [hx, hy]
  · rw [Nat.xor_assoc]
  · rw [Nat.xor_assoc, Nat.xor_comm (y / 2), Nat.xor_assoc]
  · rw [Nat.xor_assoc, Nat.xor_comm 3988292384 (y / 2 ^^^ 3988292384), Nat.xor_assoc, Nat.xor_self, Nat.xor_zero]
theorem stp4_lin (x y : Nat) : stp4 (x ^^^ y) = stp4 x ^^^ stp4 y := by simp [stp4, stp_lin]
theorem stp8_lin (x y : Nat) : stp8 (x ^^^ y) = stp8 x ^^^ stp8 y := by simp [stp8, stp4_lin]
theorem stp_lt {x : Nat} (h : x < 4294967296) : stp x < 4294967296 := by
  unfold stp
  split
  · exact Nat.xor_lt_two_pow (n := 32) (by omega) (by omega)
  · omega
theorem stp4_lt {x : Nat} (h : x < 4294967296) : stp4 x < 4294967296 := stp_lt (stp_lt (stp_lt (stp_lt h)))
theorem stp8_lt {x : Nat} (h : x < 4294967296) : stp8 x < 4294967296 := stp4_lt (stp4_lt h)
theorem xor_zero_eq {x y : Nat} (e : x ^^^ y = 0) : x = y := by
  have h : (x ^^^ y) ^^^ y = 0 ^^^ y := by rw [e]
  rw [Nat.xor_assoc, Nat.xor_self, Nat.xor_zero, Nat.zero_xor] at h
  exact h
theorem stp_zero {x : Nat} (h : x < 4294967296) (e : stp x = 0) : x = 0 := by
  unfold stp at e
  split at e
  · have := xor_zero_eq e
    omega
  · omega
theorem stp4_zero {x : Nat} (h : x < 4294967296) (e : stp4 x = 0) : x = 0 :=
  stp_zero h (stp_zero (stp_lt h) (stp_zero (stp_lt (stp_lt h)) (stp_zero (stp_lt (stp_lt (stp_lt h))) e)))
theorem stp8_zero {x : Nat} (h : x < 4294967296) (e : stp8 x = 0) : x = 0 := stp4_zero h (stp4_zero (stp4_lt h) e)
theorem stp_double (x : Nat) : stp (2 * x) = x := by unfold stp; rw [if_neg (by omega)]; omega
theorem stp4_16 (x : Nat) : stp4 (16 * x) = x := by
  unfold stp4
  rw [show 16 * x = 2 * (2 * (2 * (2 * x))) from by omega, stp_double, stp_double, stp_double, stp_double]
theorem stp8_256 (x : Nat) : stp8 (256 * x) = x := by
  unfold stp8
  rw [show 256 * x = 16 * (16 * x) from by omega, stp4_16, stp4_16]

/-- the sixteen sums of four bits -/
def row : List Nat := [0x00000000, 0x1db71064, 0x3b6e20c8, 0x26d930ac, 0x76dc4190, 0x6b6b51f4, 0x4db26158, 0x5005713c, 0xedb88320, 0xf00f9344, 0xd6d6a3e8, 0xcb61b38c, 0x9b64c2b0, 0x86d3d2d4, 0xa00ae278, 0xbdbdf21c]
theorem row_stp4 : ∀ i, i < 16 → stp4 i = row.getD i 0 := by decide
theorem row_lt : ∀ i, i < 16 → row.getD i 0 < 4294967296 := by decide
theorem split16 (x : Nat) : x = 16 * (x / 16) ^^^ x % 16 := by
  have h : 2 ^ 4 * (x / 16) + x % 16 = 2 ^ 4 * (x / 16) ||| x % 16 := Nat.two_pow_add_eq_or_of_lt (i := 4) (b := x % 16) (by omega) (x / 16)
  have h2 : 2 ^ 4 * (x / 16) ^^^ x % 16 = 2 ^ 4 * (x / 16) + x % 16 := by
    rw [h]
    apply Nat.eq_of_testBit_eq
    intro j
    have a1 : (2 ^ 4 * (x / 16)).testBit j = (decide (4 ≤ j) && (x / 16).testBit (j - 4)) := by rw [Nat.testBit_two_pow_mul]
    have a2 : 4 ≤ j → (x % 16).testBit j = false := fun hj => Nat.testBit_lt_two_pow (Nat.lt_of_lt_of_le (show x % 16 < 2 ^ 4 by omega) (Nat.pow_le_pow_right (by omega) hj))
    rw [Nat.testBit_xor, Nat.testBit_or, a1]
    by_cases hj : 4 ≤ j
    · simp [a2 hj]
    · simp [hj]
  have h3 : (2 : Nat) ^ 4 = 16 := by decide
  rw [h3] at h2
  omega
/-- the table's step is four bits' -/
theorem row_step (x : Nat) : x / 16 ^^^ row.getD (x % 16) 0 = stp4 x := by
  rw [← row_stp4 (x % 16) (by omega)]
  conv => rhs; rw [split16 x, stp4_lin, stp4_16]

/-- one byte -/
def byt (r : Nat) (c : UInt8) : Nat := stp8 (r ^^^ c.toNat)
theorem xor_lt {r : Nat} (h : r < 4294967296) (c : UInt8) : r ^^^ c.toNat < 4294967296 :=
  Nat.xor_lt_two_pow (n := 32) (by omega) (by have := c.toNat_lt; omega)
theorem byt_lt {r : Nat} (h : r < 4294967296) (c : UInt8) : byt r c < 4294967296 := stp8_lt (xor_lt h c)
/-- a text's bytes -/
def fed (r : Nat) (l : List UInt8) : Nat := l.foldl byt r
theorem fed_lt {r : Nat} (h : r < 4294967296) (l : List UInt8) : fed r l < 4294967296 := by
  unfold fed
  induction l generalizing r with
  | nil => exact h
  | cons c l ih => exact ih (byt_lt h c)
theorem fed_snoc (r : Nat) (l : List UInt8) (c : UInt8) : fed r (l ++ [c]) = byt (fed r l) c := by simp [fed]
theorem fed_append (r : Nat) (a b : List UInt8) : fed r (a ++ b) = fed (fed r a) b := by simp [fed]
/-- the sum goes on -/
def on (n : Nat) (l : List UInt8) : Nat := 4294967295 - fed (4294967295 - n) l
theorem on_lt (n : Nat) (l : List UInt8) : on n l < 4294967296 := by unfold on; omega
theorem on_join (a b : List UInt8) : on (on 0 a) b = on 0 (a ++ b) := by
  have h := fed_lt (r := 4294967295) (by omega) a
  unfold on
  rw [Nat.sub_zero, show 4294967295 - (4294967295 - fed 4294967295 a) = fed 4294967295 a from by omega, fed_append]

theorem xor_same {r : Nat} {x y : Nat} (e : r ^^^ x = r ^^^ y) : x = y := by
  have := congrArg (r ^^^ ·) e
  simpa [← Nat.xor_assoc] using this
theorem stp8_inj {x y : Nat} (hx : x < 4294967296) (hy : y < 4294967296) (e : stp8 x = stp8 y) : x = y := by
  apply xor_zero_eq
  exact stp8_zero (Nat.xor_lt_two_pow (n := 32) (by omega) (by omega)) (by rw [stp8_lin, e, Nat.xor_self])
theorem byt_inj {x y : Nat} (hx : x < 4294967296) (hy : y < 4294967296) (c : UInt8) (e : byt x c = byt y c) : x = y := by
  have h := stp8_inj (xor_lt hx c) (xor_lt hy c) e
  rw [Nat.xor_comm x, Nat.xor_comm y] at h
  exact xor_same h
theorem fed_inj {x y : Nat} (hx : x < 4294967296) (hy : y < 4294967296) (l : List UInt8) (e : fed x l = fed y l) : x = y := by
  induction l generalizing x y with
  | nil => exact e
  | cons c l ih => exact byt_inj hx hy c (ih (byt_lt hx c) (byt_lt hy c) e)
theorem four_aux (L : Nat → Nat) (hL : ∀ x y, L (x ^^^ y) = L x ^^^ L y) (r c0 c1 c2 c3 e0 a1 a2 a3 : Nat) :
    L (L (L (L (r ^^^ (c0 ^^^ e0)) ^^^ (c1 ^^^ L a1)) ^^^ (c2 ^^^ L (L a2))) ^^^ (c3 ^^^ L (L (L a3)))) =
      L (L (L (L (r ^^^ c0) ^^^ c1) ^^^ c2) ^^^ c3) ^^^ L (L (L (L (e0 ^^^ (a1 ^^^ (a2 ^^^ a3)))))) := by
  simp only [hL]
  ac_rfl
theorem four_gen (L : Nat → Nat) (hL : ∀ x y, L (x ^^^ y) = L x ^^^ L y) (h256 : ∀ x, L (256 * x) = x) (r c0 c1 c2 c3 e0 e1 e2 e3 d0 d1 d2 d3 : Nat)
    (h0 : d0 = c0 ^^^ e0) (h1 : d1 = c1 ^^^ e1) (h2 : d2 = c2 ^^^ e2) (h3 : d3 = c3 ^^^ e3) :
    L (L (L (L (r ^^^ d0) ^^^ d1) ^^^ d2) ^^^ d3) = L (L (L (L (r ^^^ c0) ^^^ c1) ^^^ c2) ^^^ c3) ^^^ L (L (L (L (e0 ^^^ (256 * e1 ^^^ (65536 * e2 ^^^ 16777216 * e3)))))) := by
  have k3 : L (L (L (16777216 * e3))) = e3 := by
    rw [show 16777216 * e3 = 256 * (256 * (256 * e3)) from by omega, h256, h256, h256]
  have k2 : L (L (65536 * e2)) = e2 := by
    rw [show 65536 * e2 = 256 * (256 * e2) from by omega, h256, h256]
  have k1 : L (256 * e1) = e1 := h256 e1
  have h := four_aux L hL r c0 c1 c2 c3 e0 (256 * e1) (65536 * e2) (16777216 * e3)
  rw [k1, k2, k3] at h
  rw [h0, h1, h2, h3]
  exact h
/-- WHAT FOUR BYTES THAT DIFFER BY e0 .. e3 DO TO THE STATE -/
theorem four (r : Nat) (c0 c1 c2 c3 : UInt8) (e0 e1 e2 e3 : Nat) (d0 d1 d2 d3 : UInt8)
    (h0 : d0.toNat = c0.toNat ^^^ e0) (h1 : d1.toNat = c1.toNat ^^^ e1) (h2 : d2.toNat = c2.toNat ^^^ e2) (h3 : d3.toNat = c3.toNat ^^^ e3) :
    byt (byt (byt (byt r d0) d1) d2) d3 = byt (byt (byt (byt r c0) c1) c2) c3 ^^^ stp8 (stp8 (stp8 (stp8 (e0 ^^^ (256 * e1 ^^^ (65536 * e2 ^^^ 16777216 * e3)))))) :=
  four_gen stp8 stp8_lin stp8_256 r _ _ _ _ e0 e1 e2 e3 _ _ _ _ h0 h1 h2 h3
/-- the text with k of four bytes changed -/
def patch (l : List UInt8) (a m : Nat) : Nat → List UInt8
  | 0 => l
  | k + 1 => (patch l a m k).set (a + k) ((patch l a m k).getD (a + k) 0 ^^^ UInt8.ofNat (m / 256 ^ k))
theorem patch_length (l : List UInt8) (a m k : Nat) : (patch l a m k).length = l.length := by
  induction k with
  | zero => rfl
  | succ k ih => simp [patch, ih]
theorem patch_val (c : UInt8) (x : Nat) : ((c ^^^ UInt8.ofNat x).toNat : Int) = ((c.toNat ^^^ x % 256 : Nat) : Int) := by
  rw [UInt8.toNat_xor, UInt8.toNat_ofNat']
theorem list4 (l : List UInt8) (a : Nat) (h : a + 4 ≤ l.length) : ∃ (p q : List UInt8) (c0 c1 c2 c3 : UInt8), l = p ++ c0 :: c1 :: c2 :: c3 :: q ∧ p.length = a := by
  refine ⟨l.take a, l.drop (a + 4), l[a], l[a + 1], l[a + 2], l[a + 3], ?_, by simp; omega⟩
  conv => lhs; rw [← List.take_append_drop a l]
  rw [List.drop_eq_getElem_cons (i := a) (by omega), List.drop_eq_getElem_cons (i := a + 1) (by omega), List.drop_eq_getElem_cons (i := a + 1 + 1) (by omega), List.drop_eq_getElem_cons (i := a + 1 + 1 + 1) (by omega)]
theorem set_at (p q : List UInt8) (x y : UInt8) (i : Nat) (h : i = p.length) : (p ++ x :: q).set i y = p ++ y :: q := by
  subst h; simp
theorem get_at (p q : List UInt8) (x : UInt8) (i : Nat) (h : i = p.length) : (p ++ x :: q).getD i 0 = x := by
  subst h; simp [List.getD]
theorem patch4 (p q : List UInt8) (c0 c1 c2 c3 : UInt8) (a m : Nat) (h : p.length = a) :
    patch (p ++ c0 :: c1 :: c2 :: c3 :: q) a m 4 = p ++ (c0 ^^^ UInt8.ofNat (m / 256 ^ 0)) :: (c1 ^^^ UInt8.ofNat (m / 256 ^ 1)) :: (c2 ^^^ UInt8.ofNat (m / 256 ^ 2)) :: (c3 ^^^ UInt8.ofNat (m / 256 ^ 3)) :: q := by
  have s1 : patch (p ++ c0 :: c1 :: c2 :: c3 :: q) a m 1 = (p ++ [c0 ^^^ UInt8.ofNat (m / 256 ^ 0)]) ++ c1 :: c2 :: c3 :: q := by
    show List.set _ _ _ = _
    rw [show patch (p ++ c0 :: c1 :: c2 :: c3 :: q) a m 0 = p ++ c0 :: c1 :: c2 :: c3 :: q from rfl, get_at _ _ _ _ (by simp [h]), set_at _ _ _ _ _ (by simp [h])]
    simp
  have s2 : patch (p ++ c0 :: c1 :: c2 :: c3 :: q) a m 2 = (p ++ [c0 ^^^ UInt8.ofNat (m / 256 ^ 0), c1 ^^^ UInt8.ofNat (m / 256 ^ 1)]) ++ c2 :: c3 :: q := by
    show List.set (patch _ a m 1) _ (List.getD (patch _ a m 1) _ _ ^^^ _) = _
    rw [s1, get_at _ _ _ _ (by simp; omega), set_at _ _ _ _ _ (by simp; omega)]
    simp
  have s3 : patch (p ++ c0 :: c1 :: c2 :: c3 :: q) a m 3 = (p ++ [c0 ^^^ UInt8.ofNat (m / 256 ^ 0), c1 ^^^ UInt8.ofNat (m / 256 ^ 1), c2 ^^^ UInt8.ofNat (m / 256 ^ 2)]) ++ c3 :: q := by
    show List.set (patch _ a m 2) _ (List.getD (patch _ a m 2) _ _ ^^^ _) = _
    rw [s2, get_at _ _ _ _ (by simp; omega), set_at _ _ _ _ _ (by simp; omega)]
    simp
  show List.set (patch _ a m 3) _ (List.getD (patch _ a m 3) _ _ ^^^ _) = _
  rw [s3, get_at _ _ _ _ (by simp; omega), set_at _ _ _ _ _ (by simp; omega)]
  simp
theorem xor_add (x y k : Nat) (hy : y < 2 ^ k) : y ^^^ 2 ^ k * x = 2 ^ k * x + y := by
  rw [Nat.two_pow_add_eq_or_of_lt hy]
  apply Nat.eq_of_testBit_eq
  intro j
  rw [Nat.testBit_xor, Nat.testBit_or, Nat.testBit_two_pow_mul]
  by_cases hj : k ≤ j
  · have : y.testBit j = false := Nat.testBit_lt_two_pow (Nat.lt_of_lt_of_le hy (Nat.pow_le_pow_right (by omega) hj))
    simp [this]
  · simp [hj]
theorem bytes4 (m : Nat) (h : m < 4294967296) : m / 256 ^ 0 % 256 ^^^ (256 * (m / 256 ^ 1 % 256) ^^^ (65536 * (m / 256 ^ 2 % 256) ^^^ 16777216 * (m / 256 ^ 3 % 256))) = m := by
  have e0 : m / 256 ^ 0 = m := by simp
  have e1 : (256 : Nat) ^ 1 = 256 := by decide
  have e2 : (256 : Nat) ^ 2 = 65536 := by decide
  have e3 : (256 : Nat) ^ 3 = 16777216 := by decide
  rw [e0, e1, e2, e3]
  have a1 := xor_add (m / 16777216 % 256) (m / 65536 % 256) 8 (by omega)
  have a2 := xor_add (m / 65536 % 65536) (m / 256 % 256) 8 (by omega)
  have a3 := xor_add (m / 256 % 16777216) (m % 256) 8 (by omega)
  have p8 : (2 : Nat) ^ 8 = 256 := by decide
  rw [p8] at a1 a2 a3
  have d : ∀ x y : Nat, 256 * x ^^^ 256 * y = 256 * (x ^^^ y) := by
    intro x y
    have := Nat.shiftLeft_xor_distrib (a := x) (b := y) (i := 8)
    simp only [Nat.shiftLeft_eq, p8] at this
    rw [Nat.mul_comm 256 x, Nat.mul_comm 256 y, Nat.mul_comm 256 (x ^^^ y), this]
  rw [show 16777216 * (m / 16777216 % 256) = 256 * (256 * (256 * (m / 16777216 % 256))) from by omega, show 65536 * (m / 65536 % 256) = 256 * (256 * (m / 65536 % 256)) from by omega]
  simp only [d]
  rw [a1, show 256 * (m / 16777216 % 256) + m / 65536 % 256 = m / 65536 % 65536 from by omega, a2, show 256 * (m / 65536 % 65536) + m / 256 % 256 = m / 256 % 16777216 from by omega, a3]
  omega
/-- TEXTS THAT DIFFER IN FOUR BYTES BY m HAVE THE SAME SUM ONLY WHERE m IS 0 -/
theorem patch_on (l : List UInt8) (a m : Nat) (hm : m < 4294967296) (h : a + 4 ≤ l.length) : on 0 (patch l a m 4) = on 0 l ↔ m = 0 := by
  obtain ⟨p, q, c0, c1, c2, c3, rfl, hp⟩ := list4 l a h
  rw [patch4 p q c0 c1 c2 c3 a m hp]
  have hr := fed_lt (r := 4294967295) (by omega) p
  obtain ⟨r, hr'⟩ : ∃ r, r = fed 4294967295 p := ⟨_, rfl⟩
  rw [← hr'] at hr
  have f4 := four r c0 c1 c2 c3 (m / 256 ^ 0 % 256) (m / 256 ^ 1 % 256) (m / 256 ^ 2 % 256) (m / 256 ^ 3 % 256) (c0 ^^^ UInt8.ofNat (m / 256 ^ 0)) (c1 ^^^ UInt8.ofNat (m / 256 ^ 1)) (c2 ^^^ UInt8.ofNat (m / 256 ^ 2)) (c3 ^^^ UInt8.ofNat (m / 256 ^ 3))
    (by have := patch_val c0 (m / 256 ^ 0); omega) (by have := patch_val c1 (m / 256 ^ 1); omega) (by have := patch_val c2 (m / 256 ^ 2); omega) (by have := patch_val c3 (m / 256 ^ 3); omega)
  rw [bytes4 m hm] at f4
  have lt1 := byt_lt (byt_lt (byt_lt (byt_lt hr c0) c1) c2) c3
  have lt2 := byt_lt (byt_lt (byt_lt (byt_lt hr (c0 ^^^ UInt8.ofNat (m / 256 ^ 0))) (c1 ^^^ UInt8.ofNat (m / 256 ^ 1))) (c2 ^^^ UInt8.ofNat (m / 256 ^ 2))) (c3 ^^^ UInt8.ofNat (m / 256 ^ 3))
  have e1 : ∀ (d0 d1 d2 d3 : UInt8), fed 4294967295 (p ++ d0 :: d1 :: d2 :: d3 :: q) = fed (byt (byt (byt (byt r d0) d1) d2) d3) q := by
    intro d0 d1 d2 d3
    rw [fed_append, ← hr']
    rfl
  unfold on
  rw [Nat.sub_zero, e1, e1]
  have l1 := fed_lt lt1 q
  have l2 := fed_lt lt2 q
  constructor
  · intro he
    have he' := fed_inj lt2 lt1 q (by omega)
    rw [f4] at he'
    have hz : stp8 (stp8 (stp8 (stp8 m))) = 0 := by
      have := xor_same (y := 0) (he'.trans (Nat.xor_zero _).symm)
      exact this
    exact stp8_zero hm (stp8_zero (stp8_lt hm) (stp8_zero (stp8_lt (stp8_lt hm)) (stp8_zero (stp8_lt (stp8_lt (stp8_lt hm))) hz)))
  · intro h0
    rw [f4, h0, show stp8 (stp8 (stp8 (stp8 0))) = 0 from by decide, Nat.xor_zero]
end crcp
end Go.Proofs.YtdabdmmjdhebpaaDoor
