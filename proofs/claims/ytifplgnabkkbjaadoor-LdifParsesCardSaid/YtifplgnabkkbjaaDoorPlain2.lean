/- The plain law of letters read back: the reference's bits, and both ways of reading letters; no program in sight. -/
import Derived.Test.YtifplgnabkkbjaaDoorB64P
import Derived.Lib.Bytealg
namespace Go.Proofs.YtifplgnabkkbjaaDoor
namespace b64p
set_option linter.unusedVariables false
/-- a letter's number; -1: it is none -/
def idx (c : UInt8) : Int := Lib.indexByte letters c
theorem idx_lt (n : Nat) (h : n < 64) : idx (letters.getD n 0) = n := by
  have all : ∀ m : Fin 64, idx (letters.getD m.val 0) = m.val := by decide +kernel
  exact all ⟨n, h⟩
theorem idx_le (c : UInt8) : -1 ≤ idx c ∧ idx c ≤ 63 := by
  have all : ∀ m : Fin 256, -1 ≤ idx (UInt8.ofNat m.val) ∧ idx (UInt8.ofNat m.val) ≤ 63 := by decide +kernel
  have h := all ⟨c.toNat, c.toNat_lt⟩
  simpa using h
theorem idx_pad : idx 61 = -1 := by decide +kernel
theorem lt_ne (n : Nat) : lt n ≠ 61 := by
  have all : ∀ m : Fin 64, letters.getD m.val 0 ≠ 61 := by decide +kernel
  exact all ⟨n % 64, Nat.mod_lt _ (by omega)⟩
theorem idx_of_lt (n : Nat) : idx (lt n) = ((n % 64 : Nat) : Int) := idx_lt _ (Nat.mod_lt _ (by omega))
/-- the first place -/
theorem indexByte_hit (l : List UInt8) (c : UInt8) : ∀ (n : Nat), (∀ m, m < n → l.getD m 0 ≠ c) → n < l.length → l.getD n 0 = c → Lib.indexByte l c = n := by
  induction l with
  | nil => intro n _ hn; simp at hn
  | cons b l ih =>
    intro n hm hn hc
    cases n with
    | zero =>
      have : b = c := by simpa using hc
      simp [Lib.indexByte, this]
    | succ n =>
      have hb : b ≠ c := by simpa using hm 0 (by omega)
      have h := ih n (fun m hmn => by simpa using hm (m + 1) (by omega)) (by simpa using hn) (by simpa using hc)
      simp only [Lib.indexByte]
      rw [if_neg (by simpa using hb), h, if_neg (by rw [beq_iff_eq]; omega)]
      omega
theorem indexByte_miss (l : List UInt8) (c : UInt8) : (∀ m, m < l.length → l.getD m 0 ≠ c) → Lib.indexByte l c = -1 := by
  induction l with
  | nil => intro _; rfl
  | cons b l ih =>
    intro hm
    have hb : b ≠ c := by simpa using hm 0 (by simp)
    have h := ih (fun m hmn => by simpa using hm (m + 1) (by simpa using hmn))
    simp only [Lib.indexByte]
    rw [if_neg (by simpa using hb), h]
    rfl

/-- a bit, the highest one first; behind them 0 -/
def bit (l : List UInt8) (k : Nat) : Nat := (l.getD (k / 8) 0).toNat / 2 ^ (7 - k % 8) % 2
/-- i bits from k on -/
def bits (l : List UInt8) (k : Nat) : Nat → Nat
  | 0 => 0
  | i + 1 => 2 * bits l k i + bit l (k + i)
theorem bit_lt (l : List UInt8) (k : Nat) : bit l k < 2 := Nat.mod_lt _ (by omega)
theorem bits_lt (l : List UInt8) (k : Nat) : ∀ i, bits l k i < 2 ^ i
  | 0 => by simp [bits]
  | i + 1 => by
    have := bits_lt l k i
    have h2 := bit_lt l (k + i)
    simp only [bits, Nat.pow_succ]
    omega
/-- so many letters -/
def raw (l : List UInt8) (m : Nat) : List UInt8 := (List.range m).map fun j => lt (bits l (6 * j) 6)
theorem raw_succ (l : List UInt8) (m : Nat) : raw l (m + 1) = raw l m ++ [lt (bits l (6 * m) 6)] := by simp [raw, List.range_succ]
theorem raw_length (l : List UInt8) (m : Nat) : (raw l m).length = m := by simp [raw]
theorem bit_drop (l : List UInt8) (k : Nat) : bit l (k + 24) = bit (l.drop 3) k := by
  unfold bit
  rw [show (k + 24) / 8 = 3 + k / 8 from by omega, show (k + 24) % 8 = k % 8 from by omega]
  simp [List.getD, List.getElem?_drop]
theorem bits_drop (l : List UInt8) (k i : Nat) : bits l (k + 24) i = bits (l.drop 3) k i := by
  induction i with
  | zero => rfl
  | succ i ih =>
    simp only [bits, ih]
    rw [show k + 24 + i = k + i + 24 from by omega, bit_drop]
theorem byte_bits (a : Nat) (h : a < 256) : a / 128 % 2 * 128 + a / 64 % 2 * 64 + a / 32 % 2 * 32 + a / 16 % 2 * 16 + a / 8 % 2 * 8 + a / 4 % 2 * 4 + a / 2 % 2 * 2 + a % 2 = a := by omega
theorem hn0 (a b c : Nat) (la : a < 256) (lb : b < 256) (lc : c < 256) : (a * 65536 + b * 256 + c) / 2 ^ (18 - 6 * 0) % 64 = a / 4 % 64 := by
  simp only [Nat.mul_zero, Nat.sub_zero, Nat.reducePow]; omega
theorem hn1 (a b c : Nat) (la : a < 256) (lb : b < 256) (lc : c < 256) : (a * 65536 + b * 256 + c) / 2 ^ (18 - 6 * 1) % 64 = (a % 4) * 16 + b / 16 := by
  simp only [Nat.mul_one, Nat.reduceSub, Nat.reducePow]; omega
theorem hn2 (a b c : Nat) (la : a < 256) (lb : b < 256) (lc : c < 256) : (a * 65536 + b * 256 + c) / 2 ^ (18 - 6 * 2) % 64 = (b % 16) * 4 + c / 64 := by
  simp only [Nat.reduceMul, Nat.reduceSub, Nat.reducePow]; omega
theorem hn3 (a b c : Nat) (la : a < 256) (lb : b < 256) (lc : c < 256) : (a * 65536 + b * 256 + c) / 2 ^ (18 - 6 * 3) % 64 = c % 64 := by
  simp only [Nat.reduceMul, Nat.reduceSub, Nat.reducePow]; omega
theorem six (x : Nat) : 2 * (2 * (2 * (2 * (2 * (2 * 0 + x / 32 % 2) + x / 16 % 2) + x / 8 % 2) + x / 4 % 2) + x / 2 % 2) + x % 2 = x % 64 := by
  have h1 : x % 64 = 32 * (x / 32 % 2) + x % 32 := by omega
  have h2 : x % 32 = 16 * (x / 16 % 2) + x % 16 := by omega
  have h3 : x % 16 = 8 * (x / 8 % 2) + x % 8 := by omega
  have h4 : x % 8 = 4 * (x / 4 % 2) + x % 4 := by omega
  have h5 : x % 4 = 2 * (x / 2 % 2) + x % 2 := by omega
  rw [h1, h2, h3, h4, h5]
  generalize x / 32 % 2 = y1
  generalize x / 16 % 2 = y2
  generalize x / 8 % 2 = y3
  generalize x / 4 % 2 = y4
  generalize x / 2 % 2 = y5
  generalize x % 2 = y6
  omega
/-- six bits from k on are those of a number x below 64 in a place of their own -/
theorem bits_six (l : List UInt8) (k x : Nat) (h0 : bit l k = x / 32 % 2) (h1 : bit l (k + 1) = x / 16 % 2) (h2 : bit l (k + 2) = x / 8 % 2) (h3 : bit l (k + 3) = x / 4 % 2) (h4 : bit l (k + 4) = x / 2 % 2) (h5 : bit l (k + 5) = x % 2) :
    bits l k 6 = x % 64 := by
  rw [← six x]
  simp only [bits, Nat.add_zero]
  rw [h0, h1, h2, h3, h4, h5]
theorem bit_at (l : List UInt8) (q r x : Nat) (hr : r < 8) (h : (l.getD q 0).toNat = x) : bit l (8 * q + r) = x / 2 ^ (7 - r) % 2 := by
  unfold bit
  rw [show (8 * q + r) / 8 = q from by omega, show (8 * q + r) % 8 = r from by omega, h]
theorem bits0 (l : List UInt8) (a : Nat) (ha : (l.getD 0 0).toNat = a) : bits l (6 * 0) 6 = a / 4 % 64 := by
  apply bits_six
  · rw [show 6 * 0 = 8 * 0 + 0 from rfl, bit_at l 0 0 a (by omega) ha]; simp only [Nat.reduceSub, Nat.reducePow]; omega
  · rw [show 6 * 0 + 1 = 8 * 0 + 1 from rfl, bit_at l 0 1 a (by omega) ha]; simp only [Nat.reduceSub, Nat.reducePow]; omega
  · rw [show 6 * 0 + 2 = 8 * 0 + 2 from rfl, bit_at l 0 2 a (by omega) ha]; simp only [Nat.reduceSub, Nat.reducePow]; omega
  · rw [show 6 * 0 + 3 = 8 * 0 + 3 from rfl, bit_at l 0 3 a (by omega) ha]; simp only [Nat.reduceSub, Nat.reducePow]; omega
  · rw [show 6 * 0 + 4 = 8 * 0 + 4 from rfl, bit_at l 0 4 a (by omega) ha]; simp only [Nat.reduceSub, Nat.reducePow]; omega
  · rw [show 6 * 0 + 5 = 8 * 0 + 5 from rfl, bit_at l 0 5 a (by omega) ha]
theorem bits1 (l : List UInt8) (a b : Nat) (ha : (l.getD 0 0).toNat = a) (hb : (l.getD 1 0).toNat = b) : bits l (6 * 1) 6 = (a % 4) * 16 + b / 16 := by
  have lb : b < 256 := by rw [← hb]; exact (l.getD 1 0).toNat_lt
  rw [show (a % 4) * 16 + b / 16 = ((a % 4) * 16 + b / 16) % 64 from by omega]
  apply bits_six
  · rw [show 6 * 1 = 8 * 0 + 6 from rfl, bit_at l 0 6 a (by omega) ha]; simp only [Nat.reduceSub, Nat.reducePow]; omega
  · rw [show 6 * 1 + 1 = 8 * 0 + 7 from rfl, bit_at l 0 7 a (by omega) ha]; simp only [Nat.reduceSub, Nat.reducePow]; omega
  · rw [show 6 * 1 + 2 = 8 * 1 + 0 from rfl, bit_at l 1 0 b (by omega) hb]; simp only [Nat.reduceSub, Nat.reducePow]; omega
  · rw [show 6 * 1 + 3 = 8 * 1 + 1 from rfl, bit_at l 1 1 b (by omega) hb]; simp only [Nat.reduceSub, Nat.reducePow]; omega
  · rw [show 6 * 1 + 4 = 8 * 1 + 2 from rfl, bit_at l 1 2 b (by omega) hb]; simp only [Nat.reduceSub, Nat.reducePow]; omega
  · rw [show 6 * 1 + 5 = 8 * 1 + 3 from rfl, bit_at l 1 3 b (by omega) hb]; simp only [Nat.reduceSub, Nat.reducePow]; omega
theorem bits2 (l : List UInt8) (b c : Nat) (hb : (l.getD 1 0).toNat = b) (hc : (l.getD 2 0).toNat = c) : bits l (6 * 2) 6 = (b % 16) * 4 + c / 64 := by
  have lc : c < 256 := by rw [← hc]; exact (l.getD 2 0).toNat_lt
  rw [show (b % 16) * 4 + c / 64 = ((b % 16) * 4 + c / 64) % 64 from by omega]
  apply bits_six
  · rw [show 6 * 2 = 8 * 1 + 4 from rfl, bit_at l 1 4 b (by omega) hb]; simp only [Nat.reduceSub, Nat.reducePow]; omega
  · rw [show 6 * 2 + 1 = 8 * 1 + 5 from rfl, bit_at l 1 5 b (by omega) hb]; simp only [Nat.reduceSub, Nat.reducePow]; omega
  · rw [show 6 * 2 + 2 = 8 * 1 + 6 from rfl, bit_at l 1 6 b (by omega) hb]; simp only [Nat.reduceSub, Nat.reducePow]; omega
  · rw [show 6 * 2 + 3 = 8 * 1 + 7 from rfl, bit_at l 1 7 b (by omega) hb]; simp only [Nat.reduceSub, Nat.reducePow]; omega
  · rw [show 6 * 2 + 4 = 8 * 2 + 0 from rfl, bit_at l 2 0 c (by omega) hc]; simp only [Nat.reduceSub, Nat.reducePow]; omega
  · rw [show 6 * 2 + 5 = 8 * 2 + 1 from rfl, bit_at l 2 1 c (by omega) hc]; simp only [Nat.reduceSub, Nat.reducePow]; omega
theorem bits3 (l : List UInt8) (c : Nat) (hc : (l.getD 2 0).toNat = c) : bits l (6 * 3) 6 = c % 64 := by
  apply bits_six
  · rw [show 6 * 3 = 8 * 2 + 2 from rfl, bit_at l 2 2 c (by omega) hc]
  · rw [show 6 * 3 + 1 = 8 * 2 + 3 from rfl, bit_at l 2 3 c (by omega) hc]
  · rw [show 6 * 3 + 2 = 8 * 2 + 4 from rfl, bit_at l 2 4 c (by omega) hc]
  · rw [show 6 * 3 + 3 = 8 * 2 + 5 from rfl, bit_at l 2 5 c (by omega) hc]
  · rw [show 6 * 3 + 4 = 8 * 2 + 6 from rfl, bit_at l 2 6 c (by omega) hc]
  · rw [show 6 * 3 + 5 = 8 * 2 + 7 from rfl, bit_at l 2 7 c (by omega) hc]; simp
theorem bits_four (l : List UInt8) (j : Nat) (hj : j < 4) : bits l (6 * j) 6 = numAt l 3 / 2 ^ (18 - 6 * j) % 64 := by
  obtain ⟨a, ha⟩ : ∃ a, (l.getD 0 0).toNat = a := ⟨_, rfl⟩
  obtain ⟨b, hb⟩ : ∃ b, (l.getD 1 0).toNat = b := ⟨_, rfl⟩
  obtain ⟨c, hc⟩ : ∃ c, (l.getD 2 0).toNat = c := ⟨_, rfl⟩
  have ha' := ha
  have hb' := hb
  have hc' := hc
  have la : a < 256 := by rw [← ha]; exact (l.getD 0 0).toNat_lt
  have lb : b < 256 := by rw [← hb]; exact (l.getD 1 0).toNat_lt
  have lc : c < 256 := by rw [← hc]; exact (l.getD 2 0).toNat_lt
  have hn : numAt l 3 = a * 65536 + b * 256 + c := by simp only [numAt, ha, hb, hc]; omega
  rw [hn]
  clear ha hb hc hn
  match j, hj with
  | 0, _ =>
    rw [hn0 a b c la lb lc]
    exact bits0 l a ha'
  | 1, _ =>
    rw [hn1 a b c la lb lc]
    exact bits1 l a b ha' hb'
  | 2, _ =>
    rw [hn2 a b c la lb lc]
    exact bits2 l b c hb' hc'
  | 3, _ =>
    rw [hn3 a b c la lb lc]
    exact bits3 l c hc'
theorem lt_mod (n : Nat) : lt (n % 64) = lt n := by unfold lt; rw [Nat.mod_mod]
theorem raw_four (l : List UInt8) (m : Nat) (hm : m ≤ 4) : raw l m = (List.range m).map fun j => lt (numAt l 3 / 2 ^ (18 - 6 * j)) := by
  unfold raw
  apply List.map_congr_left
  intro j hj
  have hj' : j < m := by simpa using hj
  rw [bits_four l j (by omega), lt_mod]
theorem raw_drop (l : List UInt8) (m : Nat) : raw l (4 + m) = raw l 4 ++ raw (l.drop 3) m := by
  induction m with
  | zero => simp [raw]
  | succ m ih =>
    rw [show 4 + (m + 1) = (4 + m) + 1 from by omega, raw_succ l (4 + m), ih, raw_succ (l.drop 3) m, show 6 * (4 + m) = 6 * m + 24 from by omega, bits_drop, List.append_assoc]
/-- how many letters stand ahead of the signs that fill -/
def cnt (n : Nat) : Nat := (8 * n + 5) / 6
/-- THE REFERENCE's LETTERS ARE THE PROGRAM's -/
theorem raw_enc : ∀ (n : Nat) (l : List UInt8), l.length ≤ n → raw l (cnt l.length) ++ List.replicate ((4 - cnt l.length % 4) % 4) 61 = enc l
  | n, l, h => by
    match l, h with
    | [], _ => simp [cnt, raw, enc_nil]
    | [a], _ =>
      rw [enc_cons (by simp), show ([a] : List UInt8).drop 3 = [] from rfl, enc_nil, List.append_nil, raw_four _ _ (by simp [cnt])]
      simp [cnt, four, sign, List.range, List.range.loop, List.replicate]
    | [a, b], _ =>
      rw [enc_cons (by simp), show ([a, b] : List UInt8).drop 3 = [] from rfl, enc_nil, List.append_nil, raw_four _ _ (by simp [cnt])]
      simp [cnt, four, sign, List.range, List.range.loop]
    | a :: b :: c :: r, h =>
      have hc : cnt (a :: b :: c :: r).length = 4 + cnt r.length := by simp only [cnt, List.length_cons]; omega
      rw [hc, raw_drop, enc_cons (by simp), show (a :: b :: c :: r).drop 3 = r from rfl, raw_four _ _ (by omega), List.append_assoc]
      cases n with
      | zero => simp at h
      | succ n =>
        have ih := raw_enc n r (by simp at h; omega)
        rw [show (4 + cnt r.length) % 4 = cnt r.length % 4 from by omega, ih]
        congr 1

/-- four letters' number and signs that fill, read one by one -/
def fRun : List UInt8 → Nat → Nat → Option (Nat × Nat)
  | [], n, p => some (n, p)
  | c :: r, n, p => if c = 61 then fRun r (n * 64) (p + 1) else if idx c < 0 ∨ 0 < p then none else fRun r (n * 64 + (idx c).toNat) p
def three (n : Nat) : List UInt8 := [UInt8.ofNat (n / 65536), UInt8.ofNat (n / 256), UInt8.ofNat n]
def fourD (l : List UInt8) : Option (List UInt8) :=
  match fRun l 0 0 with
  | none => none
  | some (n, p) => if 2 < p then none else some ((three n).take (3 - p))
def decL (l : List UInt8) : Option (List UInt8) :=
  if h : l = [] then some [] else
    match fourD (l.take 4) with
    | none => none
    | some r => (decL (l.drop 4)).map (r ++ ·)
termination_by l.length
decreasing_by
  have : l.length ≠ 0 := fun e => h (List.eq_nil_of_length_eq_zero e)
  simp; omega
theorem decL_nil : decL [] = some [] := by unfold decL; simp
theorem decL_cons {l : List UInt8} (h : l ≠ []) : decL l = match fourD (l.take 4) with | none => none | some r => (decL (l.drop 4)).map (r ++ ·) := by
  conv => lhs; unfold decL
  rw [dif_neg h]
/-- letters read as the program reads them -/
def D (l : List UInt8) : Option (List UInt8) :=
  if l.length % 4 ≠ 0 then none else
    match decL l with
    | none => none
    | some b => if enc b = l then some b else none

theorem fRun_lt (x : Nat) (r : List UInt8) (n : Nat) : fRun (lt x :: r) n 0 = fRun r (n * 64 + x % 64) 0 := by
  simp only [fRun]
  rw [if_neg (lt_ne x), if_neg (by rw [idx_of_lt]; omega), idx_of_lt]
  rfl
theorem fRun_pad (r : List UInt8) (n p : Nat) : fRun (61 :: r) n p = fRun r (n * 64) (p + 1) := by simp [fRun]
theorem ofNat_eq (n : Nat) (a : UInt8) (h : n % 256 = a.toNat) : UInt8.ofNat n = a := by
  apply UInt8.toNat_inj.1
  rw [UInt8.toNat_ofNat', h]
theorem fourD_four : ∀ (l : List UInt8), l ≠ [] → fourD (four l) = some (l.take 3)
  | [], h => absurd rfl h
  | [a], _ => by
    have ha := a.toNat_lt
    have e : four [a] = [lt (numAt [a] 3 / 2 ^ 18), lt (numAt [a] 3 / 2 ^ 12), 61, 61] := rfl
    have hn : numAt [a] 3 = a.toNat * 65536 := by simp [numAt]; omega
    rw [e]
    unfold fourD
    simp only [fRun_lt, fRun_pad, hn]
    simp only [fRun]
    rw [if_neg (by omega)]
    simp only [three, List.take]
    congr 2
    · apply ofNat_eq
      omega
  | [a, b], _ => by
    have ha := a.toNat_lt
    have hb := b.toNat_lt
    have e : four [a, b] = [lt (numAt [a, b] 3 / 2 ^ 18), lt (numAt [a, b] 3 / 2 ^ 12), lt (numAt [a, b] 3 / 2 ^ 6), 61] := rfl
    have hn : numAt [a, b] 3 = a.toNat * 65536 + b.toNat * 256 := by simp [numAt]; omega
    rw [e]
    unfold fourD
    simp only [fRun_lt, fRun_pad, hn]
    simp only [fRun]
    rw [if_neg (by omega)]
    simp only [three, List.take]
    congr 2
    · apply ofNat_eq; omega
    · congr 1
      apply ofNat_eq; omega
  | a :: b :: c :: r, _ => by
    have ha := a.toNat_lt
    have hb := b.toNat_lt
    have hc := c.toNat_lt
    have hn : numAt (a :: b :: c :: r) 3 = a.toNat * 65536 + b.toNat * 256 + c.toNat := by simp [numAt]; omega
    have e : four (a :: b :: c :: r) = [lt (numAt (a :: b :: c :: r) 3 / 2 ^ 18), lt (numAt (a :: b :: c :: r) 3 / 2 ^ 12), lt (numAt (a :: b :: c :: r) 3 / 2 ^ 6), lt (numAt (a :: b :: c :: r) 3 / 2 ^ 0)] := by
      unfold four
      rw [show List.range 4 = [0, 1, 2, 3] from rfl]
      simp only [List.map, sign, List.length_cons]
      rw [if_neg (by omega), if_neg (by omega), if_neg (by omega), if_neg (by omega)]
    rw [e]
    unfold fourD
    simp only [fRun_lt, hn]
    simp only [fRun]
    rw [if_neg (by omega)]
    simp only [three, List.take]
    congr 2
    · apply ofNat_eq; omega
    · congr 1
      · apply ofNat_eq; omega
      · congr 1
        apply ofNat_eq; omega
theorem decL_enc : ∀ (n : Nat) (l : List UInt8), l.length ≤ n → decL (enc l) = some l
  | n, l, h => by
    by_cases hl : l = []
    · subst hl; rw [enc_nil, decL_nil]
    · have hpos : 0 < l.length := List.length_pos_iff.2 hl
      rw [enc_cons hl, decL_cons (by intro e; have := congrArg List.length e; rw [List.length_append, four_length] at this; simp at this)]
      rw [List.take_left' (four_length l), List.drop_left' (four_length l), fourD_four l hl]
      cases n with
      | zero => omega
      | succ n =>
        have ih := decL_enc n (l.drop 3) (by simp; omega)
        simp only [ih, Option.map_some, List.take_append_drop]

theorem fourD_len {l r : List UInt8} (h : fourD l = some r) : r.length ≤ 3 := by
  unfold fourD at h
  split at h
  · cases h
  · split at h
    · cases h
    · cases h
      rw [List.length_take]
      simp [three]
/-- letters read as the reference reads them -/
def rRun : List UInt8 → Nat → Nat → List UInt8 → Option (List UInt8)
  | [], _, _, d => some d
  | c :: r, n, b, d =>
    if c = 61 then some d else if idx c < 0 then none else
      if 8 ≤ b + 6 then rRun r ((n * 64 + (idx c).toNat) % 2 ^ (b + 6 - 8)) (b + 6 - 8) (d ++ [UInt8.ofNat ((n * 64 + (idx c).toNat) / 2 ^ (b + 6 - 8))])
      else rRun r (n * 64 + (idx c).toNat) (b + 6) d
def R (l : List UInt8) : Option (List UInt8) :=
  match rRun l 0 0 [] with
  | none => none
  | some b => if enc b = l then some b else none
theorem rRun_lt (x : Nat) (r : List UInt8) (n b : Nat) (d : List UInt8) : rRun (lt x :: r) n b d =
    if 8 ≤ b + 6 then rRun r ((n * 64 + x % 64) % 2 ^ (b + 6 - 8)) (b + 6 - 8) (d ++ [UInt8.ofNat ((n * 64 + x % 64) / 2 ^ (b + 6 - 8))])
      else rRun r (n * 64 + x % 64) (b + 6) d := by
  simp only [rRun]
  rw [if_neg (lt_ne x), if_neg (by rw [idx_of_lt]; omega), idx_of_lt]
  rfl
theorem rRun_pad (r : List UInt8) (n b : Nat) (d : List UInt8) : rRun (61 :: r) n b d = some d := by simp [rRun]
theorem rRun_enc : ∀ (n : Nat) (l d : List UInt8), l.length ≤ n → rRun (enc l) 0 0 d = some (d ++ l)
  | n, [], d, _ => by rw [enc_nil]; simp [rRun]
  | n, [a], d, _ => by
    have ha := a.toNat_lt
    have e : four [a] = [lt (numAt [a] 3 / 2 ^ 18), lt (numAt [a] 3 / 2 ^ 12), 61, 61] := rfl
    have hn : numAt [a] 3 = a.toNat * 65536 := by simp [numAt]; omega
    rw [enc_cons (by simp), e, hn]
    simp only [List.cons_append, rRun_lt, Nat.zero_add, Nat.reduceLeDiff, if_false, if_true, Nat.reduceAdd, Nat.reduceSub, rRun_pad]
    rw [ofNat_eq _ a (by omega)]
  | n, [a, b], d, _ => by
    have ha := a.toNat_lt
    have hb := b.toNat_lt
    have e : four [a, b] = [lt (numAt [a, b] 3 / 2 ^ 18), lt (numAt [a, b] 3 / 2 ^ 12), lt (numAt [a, b] 3 / 2 ^ 6), 61] := rfl
    have hn : numAt [a, b] 3 = a.toNat * 65536 + b.toNat * 256 := by simp [numAt]; omega
    rw [enc_cons (by simp), e, hn]
    simp only [List.cons_append, rRun_lt, Nat.zero_add, Nat.reduceLeDiff, if_false, if_true, Nat.reduceAdd, Nat.reduceSub, rRun_pad, List.append_assoc]
    rw [ofNat_eq _ a (by omega), ofNat_eq _ b (by omega)]
    simp
  | n, a :: b :: c :: r, d, h => by
    have ha := a.toNat_lt
    have hb := b.toNat_lt
    have hc := c.toNat_lt
    have hn : numAt (a :: b :: c :: r) 3 = a.toNat * 65536 + b.toNat * 256 + c.toNat := by simp [numAt]; omega
    have e : four (a :: b :: c :: r) = [lt (numAt (a :: b :: c :: r) 3 / 2 ^ 18), lt (numAt (a :: b :: c :: r) 3 / 2 ^ 12), lt (numAt (a :: b :: c :: r) 3 / 2 ^ 6), lt (numAt (a :: b :: c :: r) 3 / 2 ^ 0)] := by
      unfold four
      rw [show List.range 4 = [0, 1, 2, 3] from rfl]
      simp only [List.map, sign, List.length_cons]
      rw [if_neg (by omega), if_neg (by omega), if_neg (by omega), if_neg (by omega)]
    cases n with
    | zero => simp at h
    | succ n =>
      rw [enc_cons (by simp), e, hn, show (a :: b :: c :: r).drop 3 = r from rfl]
      simp only [List.cons_append, List.nil_append, rRun_lt, Nat.zero_add, Nat.reduceLeDiff, if_false, if_true, Nat.reduceAdd, Nat.reduceSub, Nat.pow_zero, Nat.mod_one, Nat.div_one, List.append_assoc]
      rw [rRun_enc n r _ (by simp at h; omega)]
      rw [ofNat_eq _ a (by omega), ofNat_eq _ b (by omega), ofNat_eq _ c (by omega)]
      simp
/-- BOTH WAYS OF READING LETTERS ANSWER ALIKE -/
theorem D_enc (l : List UInt8) : D (enc l) = some l := by
  unfold D
  rw [if_neg (by have := (enc_length _ l (Nat.le_refl _)).2; omega), decL_enc _ l (Nat.le_refl _)]
  simp
theorem R_enc (l : List UInt8) : R (enc l) = some l := by
  unfold R
  rw [rRun_enc _ l [] (Nat.le_refl _)]
  simp
theorem D_some {l b : List UInt8} (h : D l = some b) : enc b = l := by
  unfold D at h
  split at h
  · cases h
  · split at h
    · cases h
    · split at h
      · rename_i e; cases h; exact e
      · cases h
theorem R_some {l b : List UInt8} (h : R l = some b) : enc b = l := by
  unfold R at h
  split at h
  · cases h
  · split at h
    · rename_i e; cases h; exact e
    · cases h
theorem D_eq_R (l : List UInt8) : D l = R l := by
  cases hd : D l with
  | some b =>
    have e := D_some hd
    subst e
    rw [R_enc]
  | none =>
    cases hr : R l with
    | none => rfl
    | some b =>
      have e := R_some hr
      subst e
      rw [D_enc] at hd
      cases hd
end b64p
end Go.Proofs.YtifplgnabkkbjaaDoor
