/- The plain law of a node's bytes: what the slots tell, and what stands one behind the other; no walk. -/
import Derived.Test.YtkeheaempbmmaaaGet
namespace Go.Proofs.Ytkeheaempbmmaaa
open Go.RowKit
namespace nod
open fldw
/-- these cells' bytes are s -/
def Good (leaf : Bool) (l : List Cel) (s : ByteArray) : Prop := Fit leaf l ∧ sum leaf l ≤ 488 ∧ encB leaf l = s
theorem take_at {s rest : List UInt8} {a n k : Nat} (h : s.drop a = fld.be n k ++ rest) (hn : n < 256 ^ k) (h1 : 1 ≤ k) (h8 : k ≤ 8) : fld.take s (a : Int) (k : Int) = .ok n := by
  have hl : s.length - a = k + rest.length := by rw [← List.length_drop, h, List.length_append, fld.be_length]
  unfold fld.take
  rw [if_neg (by omega), if_neg (by omega), Int.toNat_natCast, Int.toNat_natCast, h, List.take_append_of_le_length (by rw [fld.be_length]; exact Nat.le_refl _), List.take_of_length_le (by rw [fld.be_length]; exact Nat.le_refl _), fld.num_be, Nat.mod_eq_of_lt hn]
theorem takeT_at {s t rest : List UInt8} {a : Nat} (h : s.drop a = fld.be t.length 2 ++ (t ++ rest)) (hn : t.length < 65536) : fld.takeT s (a : Int) = .ok (t, a + 2 + t.length) := by
  have hl : s.length - a = 2 + (t.length + rest.length) := by rw [← List.length_drop, h, List.length_append, List.length_append, fld.be_length]
  have p2 : (256 : Nat) ^ 2 = 65536 := by decide
  have ht : fld.take s (a : Int) 2 = .ok t.length := take_at (k := 2) h (by omega) (by omega) (by omega)
  unfold fld.takeT
  rw [ht]
  simp only [Int.toNat_natCast]
  rw [if_neg (by omega)]
  have hd : s.drop (a + 2) = t ++ rest := by
    rw [← List.drop_drop, h, List.drop_append_of_le_length (by rw [fld.be_length]; exact Nat.le_refl _), List.drop_of_length_le (by rw [fld.be_length]; exact Nat.le_refl _)]
    rfl
  rw [hd, List.take_append_of_le_length (Nat.le_refl _), List.take_of_length_le (Nat.le_refl _)]
theorem drop_more {s x y : List UInt8} {a b : Nat} (h : s.drop a = x ++ y) (hb : b = a + x.length) : s.drop b = y := by
  rw [hb, ← List.drop_drop, h, List.drop_append_of_le_length (Nat.le_refl _), List.drop_of_length_le (Nat.le_refl _)]
  rfl
/-- what is read where a cell stands -/
def Reads (leaf : Bool) (s : List UInt8) (a : Nat) (c : Cel) : Prop :=
  fld.takeT s (a : Int) = .ok (c.key.data.toList, a + 2 + c.key.size) ∧
  (leaf = false → fld.take s ((a + 2 + c.key.size : Nat) : Int) 4 = .ok c.child.toNat ∧ c.child = (c.child.toNat : Int) ∧ c = ⟨c.key, ⟨#[]⟩, 0, 0, c.child⟩) ∧
  (leaf = true → 0 < c.over → fld.take s ((a + 2 + c.key.size : Nat) : Int) 1 = .ok 1 ∧ fld.take s (((a + 2 + c.key.size : Nat) : Int) + 1) 4 = .ok c.over.toNat ∧ fld.take s (((a + 2 + c.key.size : Nat) : Int) + 5) 4 = .ok c.size.toNat ∧ c.over = (c.over.toNat : Int) ∧ c.size = (c.size.toNat : Int) ∧ c = ⟨c.key, ⟨#[]⟩, c.over, c.size, 0⟩) ∧
  (leaf = true → ¬ 0 < c.over → fld.take s ((a + 2 + c.key.size : Nat) : Int) 1 = .ok 0 ∧ fld.takeT s (((a + 2 + c.key.size : Nat) : Int) + 1) = .ok (c.val.data.toList, a + 2 + c.key.size + 3 + c.val.size) ∧ c = ⟨c.key, c.val, 0, 0, 0⟩)
theorem nil_of {v : ByteArray} (h : v.toList = []) : v = ⟨#[]⟩ := kt.str_eq (by rw [← Lib.toList_data, h])
theorem reads_of {leaf : Bool} {s rest : List UInt8} {a : Nat} {c : Cel} (hok : ok leaf c = true) (h : s.drop a = (cellB leaf c).data.toList ++ rest) : Reads leaf s a c := by
  have p2 : (256 : Nat) ^ 2 = 65536 := by decide
  have p4 : (256 : Nat) ^ 4 = 4294967296 := by decide
  have hks : c.key.size ≤ 120 := by
    cases leaf with
    | true => exact (of_decide_eq_true (show decide (okLeaf c) = true from hok)).2.1
    | false => exact (of_decide_eq_true (show decide (okBranch c) = true from hok)).1
  have hcb : (cellB leaf c).data.toList ++ rest = fld.be c.key.data.toList.length 2 ++ (c.key.data.toList ++ (restB leaf c ++ rest)) := by
    simp [cellB, keyB]
  rw [hcb] at h
  have hr : s.drop (a + 2 + c.key.size) = restB leaf c ++ rest := by
    rw [← List.append_assoc] at h
    exact drop_more h (by rw [List.length_append, fld.be_length, kt.size_len]; omega)
  refine ⟨?_, ?_, ?_, ?_⟩
  · have := takeT_at h (by rw [kt.size_len]; omega)
    rw [kt.size_len] at this
    exact this
  · rintro rfl
    obtain ⟨_, h1, h2, h3, h4, h5⟩ := of_decide_eq_true (show decide (okBranch c) = true from hok)
    refine ⟨?_, by omega, ?_⟩
    · exact take_at (k := 4) (by simpa [restB] using hr) (by omega) (by omega) (by omega)
    · obtain ⟨k, v, o, z, ch⟩ := c
      have := nil_of h3
      simp_all
  · rintro rfl ho
    obtain ⟨_, _, hc, hx⟩ := of_decide_eq_true (show decide (okLeaf c) = true from hok)
    rw [if_neg (by omega)] at hx
    obtain ⟨hv, h1, h2, h3, h4⟩ := hx
    have hr2 : s.drop (a + 2 + c.key.size) = [1] ++ (fld.be c.over.toNat 4 ++ (fld.be c.size.toNat 4 ++ rest)) := by
      rw [hr]
      simp [restB, ho]
    have hr3 := drop_more (b := a + 2 + c.key.size + 1) hr2 (by simp)
    have hr4 := drop_more (b := a + 2 + c.key.size + 5) hr3 (by simp [fld.be_length])
    refine ⟨?_, ?_, ?_, by omega, by omega, ?_⟩
    · exact take_at (k := 1) (n := 1) (rest := fld.be c.over.toNat 4 ++ (fld.be c.size.toNat 4 ++ rest)) (by rw [hr2]; rfl) (by omega) (by omega) (by omega)
    · have := take_at (k := 4) hr3 (by omega) (by omega) (by omega)
      simpa using this
    · have := take_at (k := 4) hr4 (by omega) (by omega) (by omega)
      simpa using this
    · obtain ⟨k, v, o, z, ch⟩ := c
      have := nil_of hv
      simp_all
  · rintro rfl ho
    obtain ⟨_, _, hc, hx⟩ := of_decide_eq_true (show decide (okLeaf c) = true from hok)
    by_cases h0 : c.over = 0
    · rw [if_pos h0] at hx
      obtain ⟨hz, hv⟩ := hx
      have hr2 : s.drop (a + 2 + c.key.size) = [0] ++ (fld.be c.val.data.toList.length 2 ++ (c.val.data.toList ++ rest)) := by
        rw [hr]
        simp [restB, h0]
      have hr3 := drop_more (b := a + 2 + c.key.size + 1) hr2 (by simp)
      refine ⟨?_, ?_, ?_⟩
      · exact take_at (k := 1) (n := 0) (rest := fld.be c.val.data.toList.length 2 ++ (c.val.data.toList ++ rest)) (by rw [hr2]; rfl) (by omega) (by omega) (by omega)
      · have := takeT_at hr3 (by rw [kt.size_len]; omega)
        rw [kt.size_len] at this
        have e : a + 2 + c.key.size + 1 + 2 + c.val.size = a + 2 + c.key.size + 3 + c.val.size := by omega
        rw [e] at this
        simpa using this
      · obtain ⟨k, v, o, z, ch⟩ := c
        simp_all
    · rw [if_neg h0] at hx
      omega
/-- so uncell gives it -/
theorem uncell_of {leaf : Bool} {s : List UInt8} {a : Nat} {c : Cel} (h : Reads leaf s a c) : uncellP leaf s (a : Int) = (c, true) := by
  obtain ⟨hT, hb, hl, hv⟩ := h
  unfold uncellP
  rw [hT]
  cases leaf with
  | false =>
    obtain ⟨h1, h2, h3⟩ := hb rfl
    simp only [Bool.false_eq_true, if_false, h1, num0, isOk]
    rw [h3]
    simp [← h2]
  | true =>
    by_cases ho : 0 < c.over
    · obtain ⟨h1, h2, h3, h4, h5, h6⟩ := hl rfl ho
      simp only [if_true, h1, h2, h3, num0, isOk]
      rw [h6]
      simp [← h4, ← h5]
    · obtain ⟨h1, h2, h3⟩ := hv rfl ho
      simp only [if_true, h1, h2]
      rw [h3]
      simp
theorem slots_split (leaf : Bool) (l : List Cel) (i : Nat) (h : i < l.length) (n : Nat) : ∃ r1 r2, slots leaf n l = r1 ++ (fld.be (n + lens leaf (l.take i)) 2 ++ r2) ∧ r1.length = 2 * i := by
  refine ⟨slots leaf n (l.take i), slots leaf (n + lens leaf (l.take (i + 1))) (l.drop (i + 1)), ?_, ?_⟩
  · conv => lhs; rw [← List.take_append_drop (i + 1) l, slots_append, slots_take leaf n l i h]
    rw [List.append_assoc]
  · have : ∀ (m : List Cel) (n : Nat), (slots leaf n m).length = 2 * m.length := by
      intro m
      induction m with
      | nil => intro n; rfl
      | cons c r ih => intro n; simp [slots, fld.be_length, ih]; omega
    rw [this, List.length_take]
    omega
theorem slots_len (leaf : Bool) (m : List Cel) : ∀ n : Nat, (slots leaf n m).length = 2 * m.length := by
  induction m with
  | nil => intro n; rfl
  | cons c r ih => intro n; simp [slots, fld.be_length, ih]; omega
theorem tails_len {leaf : Bool} {m : List Cel} (h : ∀ c ∈ m, ok leaf c = true) : (tails leaf m).length = lens leaf m := by
  induction m with
  | nil => rfl
  | cons c r ih =>
    simp only [tails, lens, List.length_append, kt.size_len]
    rw [cellB_size (h c (by simp)), ih (fun d hd => h d (by simp [hd]))]
theorem fit_ok {leaf : Bool} {l : List Cel} (h : Fit leaf l) : ∀ c ∈ l, ok leaf c = true := by
  intro c hc
  obtain ⟨i, hi, rfl⟩ := List.mem_iff_getElem.1 hc
  exact (h.2 i hi).1
theorem good_size {leaf : Bool} {l : List Cel} {s : ByteArray} (h : Good leaf l s) : s.size = sum leaf l := by
  obtain ⟨hf, hs, rfl⟩ := h
  rw [← kt.size_len, sum_lens]
  simp only [encB, List.length_append, fld.be_length, slots_len, tails_len (fit_ok hf)]
theorem good_short {leaf : Bool} {l : List Cel} {s : ByteArray} (h : Good leaf l s) : l.length ≤ 243 ∧ 2 + 2 * l.length + lens leaf l ≤ 488 := by
  have h1 := h.2.1
  rw [sum_lens] at h1
  omega
/-- the number of cells -/
theorem good_take0 {leaf : Bool} {l : List Cel} {s : ByteArray} (h : Good leaf l s) : fld.take s.data.toList 0 2 = .ok l.length := by
  have hb := good_short h
  obtain ⟨hf, hs, rfl⟩ := h
  have p2 : (256 : Nat) ^ 2 = 65536 := by decide
  exact take_at (k := 2) (a := 0) (n := l.length) (rest := slots leaf (2 + 2 * l.length) l ++ tails leaf l) (by simp [encB]) (by omega) (by omega) (by omega)
theorem good_cnt {leaf : Bool} {l : List Cel} {s : ByteArray} (h : Good leaf l s) : cntP s.data.toList = l.length := by
  unfold cntP
  rw [good_take0 h]
  have h1 := good_size h
  rw [sum_lens] at h1
  simp only [kt.size_len]
  rw [if_neg ?_]
  omega
/-- where a cell stands -/
theorem good_at {leaf : Bool} {l : List Cel} {s : ByteArray} (h : Good leaf l s) (i : Nat) (hi : i < l.length) : Reads leaf s.data.toList (2 + 2 * l.length + lens leaf (l.take i)) l[i] := by
  obtain ⟨hf, hs, rfl⟩ := h
  refine reads_of (rest := tails leaf (l.drop (i + 1))) (hf.2 i hi).1 ?_
  have e : (encB leaf l).data.toList = (fld.be l.length 2 ++ slots leaf (2 + 2 * l.length) l ++ tails leaf (l.take i)) ++ ((cellB leaf l[i]).data.toList ++ tails leaf (l.drop (i + 1))) := by
    have : tails leaf l = tails leaf (l.take i) ++ ((cellB leaf l[i]).data.toList ++ tails leaf (l.drop (i + 1))) := by
      conv => lhs; rw [← List.take_append_drop (i + 1) l, tails_append, tails_take leaf l i hi]
      rw [List.append_assoc]
    simp only [encB]
    rw [this]
    simp
  rw [e]
  refine List.drop_left' ?_
  simp only [List.length_append, fld.be_length, slots_len, tails_len (fun c hc => fit_ok hf c (List.mem_of_mem_take hc))]
theorem good_get {leaf : Bool} {l : List Cel} {s : ByteArray} (h : Good leaf l s) (i : Nat) (hi : i < l.length) : getP leaf s.data.toList i = (l[i], true) := by
  have hu := uncell_of (good_at h i hi)
  have hb := good_short h
  have hle := lens_le leaf l i
  obtain ⟨hf, hs, rfl⟩ := h
  obtain ⟨r1, r2, hsl, hr1⟩ := slots_split leaf l i hi (2 + 2 * l.length)
  have p2 : (256 : Nat) ^ 2 = 65536 := by decide
  have ht : fld.take (encB leaf l).data.toList ((2 + 2 * i : Nat) : Int) 2 = .ok (2 + 2 * l.length + lens leaf (l.take i)) := by
    refine take_at (k := 2) (rest := r2 ++ tails leaf l) ?_ (by omega) (by omega) (by omega)
    have e : (encB leaf l).data.toList = (fld.be l.length 2 ++ r1) ++ (fld.be (2 + 2 * l.length + lens leaf (l.take i)) 2 ++ (r2 ++ tails leaf l)) := by
      simp only [encB]
      rw [hsl]
      simp
    rw [e]
    refine List.drop_left' ?_
    simp only [List.length_append, fld.be_length]
    omega
  unfold getP
  rw [show (2 : Int) + 2 * (i : Int) = ((2 + 2 * i : Nat) : Int) from by omega, ht]
  exact hu
/-- the first i cells by the slots -/
def gets (leaf : Bool) (s : List UInt8) : Nat → Option (List Cel)
  | 0 => some []
  | i + 1 => match gets leaf s i with
    | none => none
    | some l => if (getP leaf s i).2 then some (l ++ [(getP leaf s i).1]) else none
theorem good_gets {leaf : Bool} {l : List Cel} {s : ByteArray} (h : Good leaf l s) : ∀ i, i ≤ l.length → gets leaf s.data.toList i = some (l.take i) := by
  intro i
  induction i with
  | zero => intro _; rfl
  | succ i ih =>
    intro hi
    rw [gets, ih (by omega)]
    simp only [good_get h i (by omega), if_true]
    rw [List.take_succ_eq_append_getElem (by omega)]
theorem good_one {leaf : Bool} {l m : List Cel} {s : ByteArray} (h : Good leaf l s) (k : Good leaf m s) : l = m := by
  have h1 := good_cnt h
  have k1 := good_cnt k
  have h2 := good_gets h l.length (Nat.le_refl _)
  have k2 := good_gets k m.length (Nat.le_refl _)
  rw [List.take_of_length_le (Nat.le_refl _)] at h2 k2
  rw [← h1, k1, k2] at h2
  exact (Option.some.inj h2).symm
/-- what Decode answers -/
def DecAns (leaf : Bool) (s : ByteArray) (l : List Cel) (er : Int) : Prop := (er = 0 ∧ Good leaf l s) ∨ (er = 4 ∧ l = [] ∧ ∀ m, ¬ Good leaf m s)
theorem dec_one {leaf : Bool} {s : ByteArray} {l m : List Cel} {a b : Int} (h : DecAns leaf s l a) (k : DecAns leaf s m b) : l = m ∧ a = b := by
  rcases h with ⟨rfl, h1⟩ | ⟨rfl, rfl, h1⟩ <;> rcases k with ⟨rfl, k1⟩ | ⟨rfl, rfl, k1⟩
  · exact ⟨good_one h1 k1, rfl⟩
  · exact absurd h1 (k1 _)
  · exact absurd k1 (h1 _)
  · exact ⟨rfl, rfl⟩
/-- what Encode's answer at cells that were read decides -/
theorem dec_yes {leaf : Bool} {s x : ByteArray} {l : List Cel} (h : EncAns leaf l x 0) (hx : x = s) : Good leaf l s := by
  rcases h with ⟨_, _, h⟩ | ⟨_, _, _, h⟩ | ⟨h1, h2, h3, _⟩
  · cases h
  · cases h
  · exact ⟨h1, h2, by rw [← h3, hx]⟩
theorem dec_no {leaf : Bool} {s x : ByteArray} {l : List Cel} {er : Int} (h : EncAns leaf l x er) (hx : ¬ (er = 0 ∧ x = s)) : ¬ Good leaf l s := by
  rintro ⟨h1, h2, h3⟩
  rcases h with ⟨k, _⟩ | ⟨_, k, _⟩ | ⟨_, _, k, k2⟩
  · exact k h1
  · omega
  · exact hx ⟨k2, by rw [k, h3]⟩
end nod
end Go.Proofs.Ytkeheaempbmmaaa
