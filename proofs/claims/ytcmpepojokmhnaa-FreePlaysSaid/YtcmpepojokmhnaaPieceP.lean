/- The plain law of a piece's bytes; no walk. -/
import Derived.Test.YtcmpepojokmhnaaTake
import Derived.Test.YtcmpepojokmhnaaTakeP
namespace Go.Proofs.Ytcmpepojokmhnaa
open Go.RowKit
namespace fre
set_option linter.unusedVariables false
/-- may they be a piece's -/
def MayP (next : Int) (l : List Fre) : Prop := 0 ≤ next ∧ next < 512 ∧ l.length ≤ 40 ∧ OkL l
/-- one's bytes -/
def oneF (f : Fre) : List UInt8 := fld.be f.txn.toNat 8 ++ fld.be f.page.toNat 4
/-- a piece's bytes -/
def encF (next : Nat) (l : List Fre) : List UInt8 := fld.be next 4 ++ (fld.be l.length 2 ++ l.flatMap oneF)
theorem oneF_len (f : Fre) : (oneF f).length = 12 := by simp [oneF, fld.be_length]
theorem flatF_len (l : List Fre) : (l.flatMap oneF).length = 12 * l.length := by
  induction l with
  | nil => rfl
  | cons a r ih => rw [List.flatMap_cons, List.length_append, oneF_len, ih, List.length_cons]; omega
theorem encF_len (next : Nat) (l : List Fre) : (encF next l).length = 6 + 12 * l.length := by
  unfold encF
  simp only [List.length_append, fld.be_length, flatF_len]
  omega
/-- these are a piece of the bytes s -/
def GoodF (next : Int) (l : List Fre) (s : List UInt8) : Prop := MayP next l ∧ encF next.toNat l = s
/-- the i-th one's numbers -/
def itemF (s : List UInt8) (i : Nat) : Fre := ⟨(fld.num ((s.drop (6 + 12 * i)).take 8) : Nat), (fld.num ((s.drop (6 + 12 * i + 8)).take 4) : Nat)⟩
def itemsF (s : List UInt8) (n : Nat) : List Fre := (List.range n).map (itemF s)
theorem itemsF_len (s : List UInt8) (n : Nat) : (itemsF s n).length = n := by simp [itemsF]
theorem itemsF_succ (s : List UInt8) (n : Nat) : itemsF s (n + 1) = itemsF s n ++ [itemF s n] := by simp [itemsF, List.range_succ]
theorem oneF_item (s : List UInt8) (i : Nat) (h : 6 + 12 * i + 12 ≤ s.length) : oneF (itemF s i) = (s.drop (6 + 12 * i)).take 12 := by
  unfold oneF itemF
  dsimp only
  rw [Int.toNat_natCast, Int.toNat_natCast, fld.be_taken (by omega), fld.be_taken (by omega)]
  rw [show (12 : Nat) = 8 + 4 from rfl, List.take_add, List.drop_drop]
theorem flat_items (s : List UInt8) : ∀ n, 6 + 12 * n ≤ s.length → (itemsF s n).flatMap oneF = (s.drop 6).take (12 * n) := by
  intro n
  induction n with
  | zero => intro _; simp [itemsF]
  | succ n ih =>
    intro h
    rw [itemsF_succ, List.flatMap_append, ih (by omega)]
    simp only [List.flatMap_cons, List.flatMap_nil, List.append_nil]
    rw [oneF_item s n (by omega), show 12 * (n + 1) = 12 * n + 12 by omega, List.take_add, List.drop_drop]
theorem enc_items (s : List UInt8) (n : Nat) (h : s.length = 6 + 12 * n) (hn : fld.num ((s.drop 4).take 2) = n) : encF (fld.num (s.take 4)) (itemsF s n) = s := by
  unfold encF
  rw [itemsF_len, flat_items s n (by omega)]
  have e1 : fld.be (fld.num (s.take 4)) 4 = s.take 4 := by
    have := fld.be_taken (s := s) (a := 0) (k := 4) (by omega)
    simpa using this
  have e2 : fld.be n 2 = (s.drop 4).take 2 := by
    rw [← hn]; exact fld.be_taken (by omega)
  rw [e1, e2, show (s.drop 6).take (12 * n) = s.drop 6 from List.take_of_length_le (by rw [List.length_drop]; omega)]
  have : s.drop 6 = (s.drop 4).drop 2 := by rw [List.drop_drop]
  rw [this, List.take_append_drop, List.take_append_drop]
theorem p4 : (256 : Nat) ^ 4 = 4294967296 := by decide
theorem p2 : (256 : Nat) ^ 2 = 65536 := by decide
theorem p8 : (256 : Nat) ^ 8 = 18446744073709551616 := by decide
/-- a piece's bytes tell it -/
theorem good_items {next : Int} {l : List Fre} {s : List UInt8} (h : GoodF next l s) : s.length = 6 + 12 * l.length ∧ fld.num (s.take 4) = next.toNat ∧ fld.num ((s.drop 4).take 2) = l.length ∧ itemsF s l.length = l := by
  obtain ⟨⟨h0, h1, h2, h3⟩, rfl⟩ := h
  have q4 := p4
  have q2 := p2
  have q8 := p8
  refine ⟨encF_len _ _, ?_, ?_, ?_⟩
  · unfold encF
    rw [List.take_left' (fld.be_length _ _), fld.num_be, Nat.mod_eq_of_lt (by omega)]
  · unfold encF
    rw [List.drop_left' (fld.be_length _ _), List.take_left' (fld.be_length _ _), fld.num_be, Nat.mod_eq_of_lt (by omega)]
  · apply List.ext_getElem
    · simp [itemsF]
    · intro i hi hi2
      simp only [itemsF, List.getElem_map, List.getElem_range]
      have hok := h3.2.1 l[i] (List.getElem_mem hi2)
      obtain ⟨o1, o2, o3, o4⟩ := hok
      have hd : (encF next.toNat l).drop (6 + 12 * i) = fld.be l[i].txn.toNat 8 ++ (fld.be l[i].page.toNat 4 ++ (l.drop (i + 1)).flatMap oneF) := by
        have e : l.flatMap oneF = (l.take i).flatMap oneF ++ (oneF l[i] ++ (l.drop (i + 1)).flatMap oneF) := by
          conv => lhs; rw [← List.take_append_drop i l, List.flatMap_append, List.drop_eq_getElem_cons hi2, List.flatMap_cons]
        have e2 : encF next.toNat l = (fld.be next.toNat 4 ++ fld.be l.length 2 ++ (l.take i).flatMap oneF) ++ (oneF l[i] ++ (l.drop (i + 1)).flatMap oneF) := by
          unfold encF
          rw [e]
          simp
        rw [e2, List.drop_left' (by simp only [List.length_append, fld.be_length, flatF_len, List.length_take]; omega)]
        simp [oneF]
      unfold itemF
      rw [hd, fld.drop_more hd (b := 6 + 12 * i + 8) (by rw [fld.be_length]), List.take_left' (fld.be_length _ _), List.take_left' (fld.be_length _ _), fld.num_be, fld.num_be, Nat.mod_eq_of_lt (by omega), Nat.mod_eq_of_lt (by omega)]
      clear hd
      generalize l[i] = c at o1 o2 o3 o4 ⊢
      obtain ⟨t, p⟩ := c
      simp only at o1 o2 o3 o4 ⊢
      congr 1 <;> omega
theorem good_one {n1 n2 : Int} {l m : List Fre} {s : List UInt8} (h : GoodF n1 l s) (k : GoodF n2 m s) : n1 = n2 ∧ l = m := by
  obtain ⟨a1, a2, a3, a4⟩ := good_items h
  obtain ⟨b1, b2, b3, b4⟩ := good_items k
  have e : l.length = m.length := by rw [← a3, b3]
  refine ⟨?_, by rw [← a4, ← b4, e]⟩
  have h1 := h.1.1
  have h2 := k.1.1
  omega
/-- what Decode answers -/
def DecF (s : List UInt8) (next : Int) (l : List Fre) (er : Int) : Prop := (er = 0 ∧ GoodF next l s) ∨ (er = 4 ∧ l = [] ∧ next = 0 ∧ ∀ n m, ¬ GoodF n m s)
theorem decF_one {s : List UInt8} {n1 n2 : Int} {l m : List Fre} {a b : Int} (h : DecF s n1 l a) (k : DecF s n2 m b) : n1 = n2 ∧ l = m ∧ a = b := by
  rcases h with ⟨rfl, h1⟩ | ⟨rfl, rfl, rfl, h1⟩ <;> rcases k with ⟨rfl, k1⟩ | ⟨rfl, rfl, rfl, k1⟩
  · exact ⟨(good_one h1 k1).1, (good_one h1 k1).2, rfl⟩
  · exact absurd h1 (k1 _ _)
  · exact absurd k1 (h1 _ _)
  · exact ⟨rfl, rfl, rfl⟩
/-- what Encode answers -/
def EncF (next : Int) (l : List Fre) (x : ByteArray) (er : Int) : Prop := (¬ MayP next l ∧ x = ⟨#[]⟩ ∧ er = 4) ∨ (MayP next l ∧ x = ⟨(encF next.toNat l).toArray⟩ ∧ er = 0)
theorem encF_one {n : Int} {l : List Fre} {x y : ByteArray} {a b : Int} (h : EncF n l x a) (k : EncF n l y b) : x = y ∧ a = b := by
  rcases h with ⟨h1, rfl, rfl⟩ | ⟨h1, rfl, rfl⟩ <;> rcases k with ⟨k1, rfl, rfl⟩ | ⟨k1, rfl, rfl⟩
  · exact ⟨rfl, rfl⟩
  · exact absurd k1 h1
  · exact absurd h1 k1
  · exact ⟨rfl, rfl⟩
end fre
end Go.Proofs.Ytcmpepojokmhnaa
