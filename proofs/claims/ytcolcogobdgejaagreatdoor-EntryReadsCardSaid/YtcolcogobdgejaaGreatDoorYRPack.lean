/- The walks of the reference's Text and Pack. -/
import Derived.Test.YtcolcogobdgejaaGreatDoorC1
import Derived.Test.YtcolcogobdgejaaGreatDoorC8
import Derived.Test.YtcolcogobdgejaaGreatDoorC12
import Derived.Test.YtcolcogobdgejaaGreatDoorC11
import Derived.IntWalk
/-! FieldP -/
namespace Go.Proofs.YtcolcogobdgejaaGreatDoor
namespace fld
set_option linter.unusedVariables false
def be (n : Nat) : Nat → List UInt8
 | 0 => []
 | k + 1 => be (n / 256) k ++ [UInt8.ofNat n]
def num (l : List UInt8) : Nat := l.foldl (fun a c => a * 256 + c.toNat) 0
theorem be_length (n k : Nat) : (be n k).length = k := by
 induction k generalizing n with
 | zero => rfl
 | succ k ih => simp [be, ih]
theorem num_snoc (l : List UInt8) (c : UInt8) : num (l ++ [c]) = num l * 256 + c.toNat := by simp [num]
theorem num_be (k : Nat) : ∀ n, num (be n k) = n % 256 ^ k := by
 induction k with
 | zero => intro n; simp [be, num, Nat.mod_one]
 | succ k ih =>
  intro n
  rw [be, num_snoc, ih, UInt8.toNat_ofNat']
  have h := Nat.mod_mul (x := n) (a := 256) (b := 256 ^ k)
  rw [show 256 ^ (k + 1) = 256 * 256 ^ k from by rw [Nat.pow_succ, Nat.mul_comm], h]
  have : (2 : Nat) ^ 8 = 256 := by decide
  omega
theorem num_lt (l : List UInt8) : num l < 256 ^ l.length := by
 have h : ∀ (m : Nat) (l : List UInt8), l.length = m → num l < 256 ^ m := by
  intro m
  induction m with
  | zero => intro l hl; rw [List.eq_nil_of_length_eq_zero hl]; simp [num]
  | succ m ih =>
   intro l hl
   have hne : l ≠ [] := by intro e; rw [e] at hl; simp at hl
   rw [← List.dropLast_concat_getLast hne, num_snoc]
   have := ih l.dropLast (by simp [hl])
   have h2 := (l.getLast hne).toNat_lt
   rw [Nat.pow_succ]
   omega
 exact h _ l rfl
def laid (n k j : Nat) : List UInt8 := List.replicate j 0 ++ (be n k).drop j
theorem laid_start (n k : Nat) : laid n k k = List.replicate k 0 := by
 unfold laid
 rw [List.drop_of_length_le (by rw [be_length]; exact Nat.le_refl _), List.append_nil]
theorem laid_end (n k : Nat) : laid n k 0 = be n k := by simp [laid]
theorem laid_length (n k j : Nat) (h : j ≤ k) : (laid n k j).length = k := by simp [laid, be_length]; omega
theorem be_get (k : Nat) : ∀ (n j : Nat) (h : j < k), (be n k)[j]'(by rw [be_length]; exact h) = UInt8.ofNat (n / 256 ^ (k - 1 - j)) := by
 induction k with
 | zero => intro n j h; omega
 | succ k ih =>
  intro n j h
  simp only [be]
  by_cases hj : j < k
  ·rw [List.getElem_append_left (by rw [be_length]; exact hj), ih (n / 256) j hj]
   congr 1
   rw [Nat.div_div_eq_div_mul, show 256 * 256 ^ (k - 1 - j) = 256 ^ (k + 1 - 1 - j) from by rw [show k + 1 - 1 - j = (k - 1 - j) + 1 from by omega, Nat.pow_succ, Nat.mul_comm]]
  ·obtain rfl : j = k := by omega
   rw [List.getElem_append_right (by rw [be_length]; exact Nat.le_refl _)]
   simp [be_length]
theorem laid_step (n k j : Nat) (h : j < k) : (laid n k (j + 1)).set j (UInt8.ofNat (n / 256 ^ (k - 1 - j))) = laid n k j := by
 unfold laid
 rw [List.replicate_succ', List.append_assoc, List.set_append_right _ _ (by simp)]
 simp only [List.length_replicate, Nat.sub_self, List.singleton_append, List.set_cons_zero]
 rw [List.drop_eq_getElem_cons (i := j) (by rw [be_length]; exact h), be_get k n j h]
def put (n : Nat) (size : Int) : Option (List UInt8) :=
 if size < 1 ∨ 8 < size then none else if 256 ^ size.toNat ≤ n then none else some (be n size.toNat)
def take (s : List UInt8) (at' size : Int) : Except Int Nat :=
 if size < 1 ∨ 8 < size ∨ at' < 0 then .error 1 else if (s.length : Int) < at' + size then .error 3 else .ok (num ((s.drop at'.toNat).take size.toNat))
def takeT (s : List UInt8) (at' : Int) : Except Int (List UInt8 × Nat) :=
 match take s at' 2 with
 | .error e => .error e
 | .ok n => if s.length < at'.toNat + 2 + n then .error 3 else .ok ((s.drop (at'.toNat + 2)).take n, at'.toNat + 2 + n)
theorem u64_shl_or (N c : Nat) (hN : N < 72057594037927936) (hc : c < 256) : bits .or .u64 (IntKind.u64.wrap ((N : Int) * 256)) (c : Int) = ((256 * N + c : Nat) : Int) := by
 have e : IntKind.u64.wrap ((N : Int) * 256) = ((2 ^ 8 * N : Nat) : Int) := by
  rw [IntKind.wrap_u64]
  have : (2 : Nat) ^ 8 = 256 := by decide
  omega
 have p8 : (2 : Nat) ^ 8 = 256 := by decide
 rw [e, u64_or_nat _ _ (by omega) (by omega), ← Nat.two_pow_add_eq_or_of_lt (by omega), p8]
theorem u64_mul_add (N c : Nat) (hN : N < 72057594037927936) (hc : c < 256) : IntKind.u64.wrap (IntKind.u64.wrap ((N : Int) * 256) + (c : Int)) = ((256 * N + c : Nat) : Int) := by
 rw [IntKind.wrap_u64, IntKind.wrap_u64]
 omega
theorem num_small {l : List UInt8} {j : Nat} (h : (l.take j).length ≤ 7) : num (l.take j) < 72057594037927936 := by
 have h1 := num_lt (l.take j)
 have h2 : 256 ^ (l.take j).length ≤ 256 ^ 7 := Nat.pow_le_pow_right (by omega) h
 have h3 : (256 : Nat) ^ 7 = 72057594037927936 := by decide
 omega
theorem num_le {l : List UInt8} {k : Nat} (h : l.length ≤ k) : num l < 256 ^ k := Nat.lt_of_lt_of_le (num_lt l) (Nat.pow_le_pow_right (by omega) h)
end fld
end Go.Proofs.YtcolcogobdgejaaGreatDoor
/-! PackP -/
namespace Go.Proofs.YtcolcogobdgejaaGreatDoor
namespace etp
open atp atw
set_option linter.unusedVariables false
set_option linter.unusedSimpArgs false
open dnw (Av)
def txt (s : ByteArray) : List UInt8 := fld.be s.size 2 ++ s.data.toList
def encV (vs : List ByteArray) : List UInt8 := vs.flatMap txt
def encA (a : At) : List UInt8 := txt a.t ++ (UInt8.ofNat a.vs.length :: encV a.vs)
def encR (l : List Av) : List UInt8 := l.flatMap fun a => txt a.t ++ txt a.v
def encL (l : List At) : List UInt8 := l.flatMap encA
def packB (e : En) : List UInt8 := UInt8.ofNat e.rdn.length :: (encR e.rdn ++ (UInt8.ofNat e.ats.length :: encL e.ats))
def packE (e : En) : Except Int (List UInt8) := if rightE e = false then .error 4 else if 4000 < (packB e).length then .error 5 else .ok (packB e)
theorem pack_ok {e : En} {s : List UInt8} (h : packE e = .ok s) : rightE e = true ∧ packB e = s ∧ s.length ≤ 4000 := by
 unfold packE at h
 by_cases h1 : rightE e = false
 ·rw [if_pos h1] at h; cases h
 ·rw [if_neg h1] at h
  by_cases h2 : 4000 < (packB e).length
  ·rw [if_pos h2] at h; cases h
  ·rw [if_neg h2] at h
   cases h
   exact ⟨by simpa using h1, rfl, by omega⟩
theorem txt_len (s : ByteArray) : (txt s).length = 2 + s.size := by
 unfold txt
 rw [List.length_append, fld.be_length, kt.size_len]
theorem ofNat_toNat {n : Nat} (h : n ≤ 255) : (UInt8.ofNat n).toNat = n := by
 rw [UInt8.toNat_ofNat', Nat.mod_eq_of_lt (by omega)]
theorem encV_snoc {l : List ByteArray} {i : Nat} (h : i < l.length) : encV (l.take (i + 1)) = encV (l.take i) ++ txt l[i] := by
 unfold encV
 rw [List.take_succ_eq_append_getElem h, List.flatMap_append]
 simp
theorem encR_snoc {l : List Av} {i : Nat} (h : i < l.length) : encR (l.take (i + 1)) = encR (l.take i) ++ (txt l[i].t ++ txt l[i].v) := by
 unfold encR
 rw [List.take_succ_eq_append_getElem h, List.flatMap_append]
 simp
theorem encL_snoc {l : List At} {i : Nat} (h : i < l.length) : encL (l.take (i + 1)) = encL (l.take i) ++ encA l[i] := by
 unfold encL
 rw [List.take_succ_eq_append_getElem h, List.flatMap_append]
 simp
end etp
end Go.Proofs.YtcolcogobdgejaaGreatDoor
/-! RPackW -/
namespace Go.Proofs.YtcolcogobdgejaaGreatDoor
open Go.RowKit
namespace etw
open atp atw etp
open dnw (Av Avas)
open tupw (Strs strs_below)
set_option linter.unusedVariables false
set_option linter.unusedSimpArgs false
def txtS (s : ByteArray) : ByteArray := ⟨(txt s).toArray⟩
theorem txtS_list (s : ByteArray) : (txtS s).data.toList = txt s := rfl
theorem txtS_size (s : ByteArray) : (txtS s).size = 2 + s.size := by
 rw [← kt.size_len, txtS_list, txt_len]
theorem lit0 {P : Program} {src dst e : TypeId} (hs : P.underlying src = some (.slice e)) (he : P.underlying e = some (.int .u8)) (hd : P.underlying dst = some .string)
  (w : World) (l : List UInt8) (hl : l.length ≤ 1000) : (convert src dst (.slice (some ⟨w.heap.size, 0, none⟩) l.length l.length)).run P (w.alloc (.cells (Lib.byteCells l).toArray e)) = .ok (.string ⟨l.toArray⟩) (w.alloc (.cells (Lib.byteCells l).toArray e)) := by
 have h : (w.alloc (.cells (Lib.byteCells l).toArray e)).ownsRow w.heap.size e 1 (.slice (some ⟨w.heap.size, 0, none⟩) l.length l.length) l.length (Lib.byteCells l) := by
  have hbl := Lib.byteCells_length l
  refine ⟨by rw [hbl]; omega, Or.inr ⟨w.heap.size, l.length, (Lib.byteCells l).toArray, rfl, Nat.le_refl _, heap_alloc_new w _, Nat.le_refl _, by unfold maxLen; omega, by simp [hbl], ?_⟩⟩
  rw [Nat.mul_one, List.toList_toArray, List.take_of_length_le (by omega)]
 exact kt.str_of_row hs he hd (B := w.heap.size) h
theorem lit1 (w : World) (n : Nat) (hn : n ≤ 255) : (convert 96 9 (.slice (some ⟨w.heap.size, 0, none⟩) 1 1)).run Tryz.prog (w.alloc (.cells #[.int .u8 (n : Int)] 5)) = .ok (.string { data := #[UInt8.ofNat n] }) (w.alloc (.cells #[.int .u8 (n : Int)] 5)) := by
 have cv := lit0 (P := Tryz.prog) Tryz.underlying96 Tryz.underlying5 Tryz.underlying9 w [UInt8.ofNat n] (by show 1 ≤ 1000; omega)
 have e : ((UInt8.ofNat n).toNat : Int) = (n : Int) := by rw [ofNat_toNat hn]
 change (convert _ _ (.slice (some ⟨w.heap.size, 0, none⟩) 1 1)).run Tryz.prog (w.alloc (.cells #[.int .u8 ((UInt8.ofNat n).toNat : Int)] 5)) = .ok (.string { data := #[UInt8.ofNat n] }) (w.alloc (.cells #[.int .u8 ((UInt8.ofNat n).toNat : Int)] 5)) at cv
 rw [e] at cv
 exact cv
theorem lit1b (w : World) (g n : Nat) (hn : n ≤ 255) (h : w.heap[g]? = some (.cells #[.int .u8 (n : Int)] 5 (0, 0))) : (convert 96 9 (.slice (some ⟨g, 0, none⟩) 1 1)).run Tryz.prog w = .ok (.string { data := #[UInt8.ofNat n] }) w := by
 have e : (n : Int) = ((UInt8.ofNat n).toNat : Int) := by rw [ofNat_toNat hn]
 rw [e] at h
 have hr : w.ownsRow 0 5 1 (.slice (some ⟨g, 0, none⟩) [UInt8.ofNat n].length 1) [UInt8.ofNat n].length (Lib.byteCells [UInt8.ofNat n]) :=
  ⟨rfl, Or.inr ⟨g, 1, _, rfl, Nat.zero_le _, h, Nat.le_refl _, by unfold maxLen; omega, rfl, rfl⟩⟩
 exact kt.str_of_row Tryz.underlying96 Tryz.underlying5 Tryz.underlying9 (B := 0) hr
set_option maxHeartbeats 1000000 in
theorem rtxt_any (t : ByteArray) (w : World) (ht : t.size ≤ 65535) : Calls Tryz.prog 82 #[.string t] w fun e w' => e = .returned (.string (txtS t)) ∧ Below w.heap.size w w' := by
 have hp : txtS t = (⟨(fld.be t.size 2).toArray⟩ : ByteArray) ++ t := kt.str_eq (by simp [txtS, txt])
 obtain ⟨x, hx⟩ : ∃ x : UInt8, Hid (x = UInt8.ofNat (t.size / 256)) := ⟨_, rfl⟩
 obtain ⟨y, hy⟩ : ∃ y : UInt8, Hid (y = UInt8.ofNat t.size) := ⟨_, rfl⟩
 have ex : (t.size : Int) / 256 = (x.toNat : Int) := by rw [hx.out, UInt8.toNat_ofNat']; omega
 have ey : (t.size : Int) % 256 = (y.toNat : Int) := by rw [hy.out, UInt8.toNat_ofNat']; omega
 have cv := lit0 (P := Tryz.prog) Tryz.underlying96 Tryz.underlying5 Tryz.underlying9 w [x, y] (by show 2 ≤ 1000; omega)
 change (convert _ _ (.slice (some ⟨w.heap.size, 0, none⟩) 2 2)).run Tryz.prog (w.alloc (.cells #[.int .u8 (x.toNat : Int), .int .u8 (y.toNat : Int)] 5)) = .ok (.string { data := #[x, y] }) (w.alloc (.cells #[.int .u8 (x.toNat : Int), .int .u8 (y.toNat : Int)] 5)) at cv
 have hz : (⟨(fld.be t.size 2).toArray⟩ : ByteArray) = { data := #[x, y] } := by
  have be2 : fld.be t.size 2 = [UInt8.ofNat (t.size / 256), UInt8.ofNat t.size] := rfl
  rw [be2, ← hx.out, ← hy.out]
 rw [hz] at hp
 have HP := Lib.hid hp
 clear hp hz
 go_enter Tryz.func82, Tryz.ntmps82
 go_wp2_with fail
 go_ret
 exact ⟨by rw [HP.out]; rfl, (Below.refl _ _).alloc (Nat.le_refl _) _⟩
structure Pk (e : En) : Prop where
 rl : e.rdn.length ≤ 255
 rs : ∀ a ∈ e.rdn, a.t.size ≤ 5000 ∧ a.v.size ≤ 5000
 al : e.ats.length ≤ 255
 as_ : ∀ a ∈ e.ats, a.t.size ≤ 5000 ∧ a.vs.length ≤ 255 ∧ ∀ v ∈ a.vs, v.size ≤ 5000
theorem pk_bd {e : En} (h : Pk e) : Bd e :=
 ⟨by have := h.rl; omega, fun a ha => by have := h.rs a ha; omega, by have := h.al; omega, fun a ha => by
  have := h.as_ a ha
  exact ⟨by omega, by omega, fun v hv => by have := this.2.2 v hv; omega⟩⟩
def packS (e : En) : ByteArray × Int := match packE e with
 | .ok s => (⟨s.toArray⟩, 0)
 | .error f => (⟨#[]⟩, f)
theorem packS_eq (e : En) : packS e = if rightE e = false then (⟨#[]⟩, 4) else if 4000 < (packB e).length then (⟨#[]⟩, 5) else (⟨(packB e).toArray⟩, 0) := by
 unfold packS packE
 split
 ·rename_i h
  split at h
  ·cases h
  ·rename_i h1
   split at h
   ·cases h
   ·rename_i h2
    cases h
    rw [if_neg h1, if_neg h2]
 ·rename_i h
  split at h
  ·rename_i h1
   cases h
   rw [if_pos h1]
  ·rename_i h1
   split at h
   ·rename_i h2
    cases h
    rw [if_neg h1, if_pos h2]
   ·cases h
set_option maxRecDepth 20000 in
set_option maxHeartbeats 16000000 in
theorem rpack_any (v : Value) (E : En) (w : World) (hv : Hid (EntV w v E)) (hb : Hid (Pk E)) :
  Calls Tryz.prog 28 #[v] w fun e w' => e = .returned (.tuple #[.string (packS E).1, .int .i64 (packS E).2]) ∧ Below w.heap.size w w' := by
 have HBD := Lib.hid (pk_bd hb.out)
 have HRI0 : Hid (∀ W, Below w.heap.size w W → Calls Tryz.prog 17 #[v] W fun e w' => e = .returned (.bool (rightE E)) ∧ Below W.heap.size W w') := fun W h => rright_any v E W (Lib.hid (entV_below hv.out h)) HBD
 have HTX : Hid (∀ t : ByteArray, t.size ≤ 5000 → ∀ W, Calls Tryz.prog 82 #[.string t] W fun e w' => e = .returned (.string (txtS t)) ∧ Below W.heap.size W w') := fun t h W => rtxt_any t W (by omega)
 have HRS := Lib.hid hb.out.rs
 have HAS := Lib.hid hb.out.as_
 have HRES := Lib.hid (packS_eq E)
 obtain ⟨ro, rc, ao, ac, Nr, N, rfl, HN, HA, hac, HNr, HAv, hrc⟩ := ent_form hv.out
 have hNr : Nr ≤ 255 := by rw [← HNr.out]; exact hb.out.rl
 have hN : N ≤ 255 := by rw [← HN.out]; exact hb.out.al
 have HPB : Hid (packB E = UInt8.ofNat E.rdn.length :: (etp.encR E.rdn ++ (UInt8.ofNat E.ats.length :: encL E.ats))) := rfl
 rw [HN.out, HNr.out] at HPB
 obtain ⟨PB, hPB⟩ : ∃ l, packB E = l := ⟨_, rfl⟩
 obtain ⟨PS, hPS⟩ : ∃ l, packS E = l := ⟨_, rfl⟩
 rw [hPB] at HPB HRES
 rw [hPS] at HRES ⊢
 clear hPB hPS
 obtain ⟨W1, hW1⟩ : ∃ W, w.alloc (.cells #[.slice ro Nr rc, .slice ao N ac] 25) = W := ⟨_, rfl⟩
 have hB1 : Below w.heap.size w W1 := by rw [← hW1]; exact (Below.refl _ _).alloc (Nat.le_refl _) _
 have HT1 : Hid (EntB W1 w.heap.size (.slice ro Nr rc) (.slice ao N ac)) := by rw [← hW1]; exact entB_new _ _ _
 obtain ⟨k0, k1⟩ := entB_cells HT1.out
 have HB1 := Lib.hid hB1
 have HRI := Lib.hid (HRI0.out W1 hB1)
 generalize rightE E = rt at HRI HRES
 obtain ⟨rdn, L⟩ := E
 simp only at HN HA HNr HAv HRS HAS HPB
 clear hB1 HRI0 hv hb HBD
 go_enter Tryz.func28, Tryz.ntmps28
 cases rt with
 | false =>
  rw [if_pos rfl] at HRES
  go_wp2_with fail
  refine HRI.out.mono ?_
  rintro e w2 ⟨rfl, hB2⟩
  have HBE := Lib.hid (HB1.out.trans (hB2.mono HB1.out.size))
  clear hB2 k0 k1 hW1
  go_wp2_with fail
  go_ret2
  exact ⟨by rw [HRES.out]; rfl, HBE.out⟩
 | true =>
  rw [if_neg (by decide)] at HRES
  go_wp2_with fail
  refine HRI.out.mono ?_
  rintro e w2 ⟨rfl, hB2⟩
  have HB2 := Lib.hid (HB1.out.trans (hB2.mono HB1.out.size))
  have HT2 := Lib.hid (entB_below HT1.out hB2)
  have hs2 := HB2.out.size
  clear hB2 k0 k1 hW1 HRI
  obtain ⟨k0, k1⟩ := entB_cells HT2.out
  have cv := lit1 w2 Nr hNr
  have HB3 : Hid (Below w2.heap.size w2 (w2.alloc (.cells #[.int .u8 (Nr : Int)] 5))) := (Below.refl _ _).alloc (Nat.le_refl _) _
  obtain ⟨cn, hcn⟩ : ∃ c, UInt8.ofNat Nr = c := ⟨_, rfl⟩
  rw [hcn] at cv HPB
  obtain ⟨dn, hdn⟩ : ∃ c, UInt8.ofNat N = c := ⟨_, rfl⟩
  rw [hdn] at HPB
  have HDN := Lib.hid hdn
  clear hcn hdn
  go_wp2_with fail
  clear cv k0 k1
  go_loopw [4, 5] (fun sv iv wr => ∃ (i : Nat) (s : ByteArray), i ≤ Nr ∧ iv = .int .i64 (i : Int) ∧ sv = .string s ∧ s.size ≤ 1 + i * 11000 ∧ Hid (s.data.toList = cn :: etp.encR (rdn.take i)) ∧ Hid (Below w2.heap.size w2 wr)) (fun _ iv _ => Nr - (intOf iv).toNat)
  case atStart => exact ⟨0, _, Nat.zero_le _, rfl, rfl, by show 1 ≤ _; omega, rfl, HB3.out⟩
  case round =>
   obtain ⟨i, s, hi, rfl, rfl, hsz, hS, hBr⟩ := hrel
   have HBr := Lib.hid (HB2.out.trans (hBr.out.mono hs2))
   obtain ⟨k0, k1⟩ := entB_cells (entB_below HT2.out hBr.out)
   by_cases hlt : i < Nr
   ·have hltI : (i : Int) < (Nr : Int) := by omega
    have hil : i < rdn.length := by rw [HNr.out]; exact hlt
    obtain ⟨b, o, hro, x0, x1⟩ := (dnw.avas_below HAv.out HBr.out) i hil
    subst hro
    have HSN := Lib.hid (encR_snoc hil)
    have hbd := HRS.out rdn[i] (List.getElem_mem _)
    obtain ⟨a, ha⟩ : ∃ a, rdn[i] = a := ⟨_, rfl⟩
    rw [ha] at HSN hbd x0 x1
    have HX1 := Lib.hid (HTX.out a.t (by omega))
    have HX2 := Lib.hid (HTX.out a.v (by omega))
    have HL1 := Lib.hid (txtS_list a.t)
    have HL2 := Lib.hid (txtS_list a.v)
    have hz1 : (txtS a.t).size ≤ 5002 := by rw [txtS_size]; omega
    have hz2 : (txtS a.v).size ≤ 5002 := by rw [txtS_size]; omega
    clear ha hbd
    generalize txtS a.t = X1 at HX1 HL1 hz1
    generalize txtS a.v = X2 at HX2 HL2 hz2
    have g1 : ¬ 9223372036854775807 < s.size + X1.size := by omega
    have g2 : ¬ 9223372036854775807 < s.size + X1.size + X2.size := by omega
    have hk0 := World.block_lt_of_cell? wr _ k0
    have hx0 := World.block_lt_of_cell? wr _ x0
    have hx1 := World.block_lt_of_cell? wr _ x1
    have HNX : Hid ((s ++ X1 ++ X2).data.toList = cn :: etp.encR (rdn.take (i + 1))) := by
     show _ = _
     rw [HSN.out, ← HL1.out, ← HL2.out]
     have := hS.out
     simp [this]
    have hsz2 : (s ++ X1 ++ X2).size ≤ 1 + (i + 1) * 11000 := by simp only [ByteArray.size_append]; omega
    have HSZ2 := Lib.hid hsz2
    clear hsz2 k1
    go_wp2_with fail
    refine wp_region_held_drew (S := fun W => W.cell? ⟨w.heap.size, 0, none⟩ = some (.slice (some ⟨b, o, none⟩) Nr rc) ∧ W.cell? ⟨b, o + i * 2, none⟩ = some (.string a.t) ∧ W.cell? ⟨b, o + i * 2 + 1, none⟩ = some (.string a.v)) (by kernel_rfl) (⟨k0, x0, x1⟩) (fun hHeld => ?_)
    refine tk 0 ⟨some 24,_,_,_,_,_⟩ rfl ?_
    refine tk 1 ⟨some 25,_,_,_,_,_⟩ rfl ?_
    refine tk 2 ⟨some 26,_,_,_,_,_⟩ rfl ?_
    refine tk 3 ⟨some 27,_,_,_,_,_⟩ rfl ?_
    refine tk 4 ⟨some 28,_,_,_,_,_⟩ rfl ?_
    refine tk 5 ⟨some 29,_,_,_,_,_⟩ rfl ?_
    refine tk 6 ⟨some 30,_,_,_,_,_⟩ rfl ?_
    refine tk 9 ⟨some 33,_,_,_,_,_⟩ rfl ?_
    refine tk 10 ⟨some 34,_,_,_,_,_⟩ rfl ?_
    refine tk 11 ⟨some 35,_,_,_,_,_⟩ rfl ?_
    refine tk 12 ⟨some 36,_,_,_,_,_⟩ rfl ?_
    refine tk 13 ⟨some 37,_,_,_,_,_⟩ rfl ?_
    refine tk 14 ⟨some 38,_,_,_,_,_⟩ rfl ?_
    refine tc 7 ⟨some 31,_,_,_,_,_⟩ rfl (fun K hK => ?_)
    go_simp
    go_at_call 82; refine (HX1.out _).mono ?_; rintro e w6 ⟨rfl, hB6⟩
    refine hK.out _ _ (⟨(hB6.cell (p := ⟨w.heap.size, 0, none⟩) hk0).trans (k0), (hB6.cell (p := ⟨b, o + i * 2, none⟩) hx0).trans (x0), (hB6.cell (p := ⟨b, o + i * 2 + 1, none⟩) hx1).trans (x1)⟩) (fun hHeld => ?_)
    clear hK
    try simp only [Act.put, List.setIfInBounds_toArray, List.set_cons_zero, List.set_cons_succ]
    refine tk 8 ⟨some 32,_,_,_,_,_⟩ rfl ?_
    refine tc 15 ⟨some 39,_,_,_,_,_⟩ rfl (fun K hK => ?_)
    go_simp
    go_at_call 82; refine (HX2.out _).mono ?_; rintro e w7 ⟨rfl, hB7⟩
    refine hK.out _ _ (⟨(hB7.cell (p := ⟨w.heap.size, 0, none⟩) (Nat.lt_of_lt_of_le hk0 hB6.size)).trans ((hB6.cell (p := ⟨w.heap.size, 0, none⟩) hk0).trans (k0)), (hB7.cell (p := ⟨b, o + i * 2, none⟩) (Nat.lt_of_lt_of_le hx0 hB6.size)).trans ((hB6.cell (p := ⟨b, o + i * 2, none⟩) hx0).trans (x0)), (hB7.cell (p := ⟨b, o + i * 2 + 1, none⟩) (Nat.lt_of_lt_of_le hx1 hB6.size)).trans ((hB6.cell (p := ⟨b, o + i * 2 + 1, none⟩) hx1).trans (x1))⟩) (fun hHeld => ?_)
    clear hK
    try simp only [Act.put, List.setIfInBounds_toArray, List.set_cons_zero, List.set_cons_succ]
    refine tk 16 ⟨some 40,_,_,_,_,_⟩ rfl ?_
    refine tk 17 ⟨some 4,_,_,_,_,_⟩ rfl ?_
    have hBF := ((Below.refl wr.heap.size wr).drew.trans hB6).trans (hB7.mono hB6.size)
    refine wpAnyH_done (by kernel_rfl) ?_ _
    all_goals
     have HB6 := Lib.hid (hBr.out.trans (hBF.mono hBr.out.size))
     clear hHeld hB6 hB7 hBF k0 x0 x1 g1 g2
     go_wp2_with fail
     go_roundw
     case rel => exact ⟨i + 1, _, by omega, by go_num, rfl, HSZ2.out, HNX, HB6⟩
     case measure => simp [intOf]; omega
   ·obtain rfl : Nr = i := by omega
    have hfull : rdn.take Nr = rdn := List.take_of_length_le (by rw [HNr.out]; omega)
    rw [hfull] at hS
    have cv := lit1 wr N hN
    rw [HDN.out] at cv
    have HB3' : Hid (Below w2.heap.size w2 (wr.alloc (.cells #[.int .u8 (N : Int)] 5))) := hBr.out.trans (((Below.refl _ _).alloc (Nat.le_refl _) _).mono hBr.out.size)
    have g1 : ¬ 9223372036854775807 < s.size + 1 := by omega
    have HQ0 : Hid ((s ++ ({ data := #[dn] } : ByteArray)).data.toList = cn :: (etp.encR rdn ++ [dn])) := by
     show _ = _
     have := hS.out
     simp [this]
    have HZ0 : Hid ((s ++ ({ data := #[dn] } : ByteArray)).size ≤ 3000000) := by
     show _ ≤ _
     simp only [ByteArray.size_append]
     have : ({ data := #[dn] } : ByteArray).size = 1 := rfl
     omega
    clear hfull
    go_wp2_with fail
    clear cv k0 k1 g1
    obtain ⟨Q, hQ⟩ : ∃ Q, cn :: (etp.encR rdn ++ [dn]) = Q := ⟨_, rfl⟩
    rw [hQ] at HQ0
    have HPQ : Hid (PB = Q ++ encL L) := by
     show _ = _
     rw [HPB.out, ← hQ]; simp
    clear hQ HPB
    have HB0 := HB3'
    clear HB3' HBr hBr hS hsz hi
    go_loopw [4, 6] (fun sv iv wr => ∃ (i : Nat) (s : ByteArray), i ≤ N ∧ iv = .int .i64 (i : Int) ∧ sv = .string s ∧ s.size ≤ 3000000 + i * 1400000 ∧ Hid (s.data.toList = Q ++ encL (L.take i)) ∧ Hid (Below w2.heap.size w2 wr)) (fun _ iv _ => N - (intOf iv).toNat)
    case atStart => exact ⟨0, _, Nat.zero_le _, rfl, rfl, by have := HZ0.out; omega, (by show _ = _; rw [HQ0.out]; simp [encL]), HB0.out⟩
    case round =>
     obtain ⟨i, s, hi, rfl, rfl, hsz, hS, hBr⟩ := hrel
     have HBr := Lib.hid (HB2.out.trans (hBr.out.mono hs2))
     obtain ⟨k0, k1⟩ := entB_cells (entB_below HT2.out hBr.out)
     by_cases hlt : i < N
     ·have hltI : (i : Int) < (N : Int) := by omega
      have hil : i < L.length := by rw [HN.out]; exact hlt
      have HSN := Lib.hid (encL_snoc hil)
      have HAE : Hid (encA L[i] = txt L[i].t ++ (UInt8.ofNat L[i].vs.length :: encV L[i].vs)) := rfl
      obtain ⟨b, o, ax, cx, hao, x0w, x1w, hcx, hSTw⟩ := HA.out i hil
      have hbd := HAS.out L[i] (List.getElem_mem _)
      obtain ⟨tt, htt⟩ : ∃ t, L[i].t = t := ⟨_, rfl⟩
      obtain ⟨vs, hvs⟩ : ∃ t, L[i].vs = t := ⟨_, rfl⟩
      rw [htt] at HAE x0w hbd
      rw [hvs] at HAE x1w hcx hSTw hbd
      clear htt hvs
      subst hao
      obtain ⟨M, hM⟩ : ∃ M, vs.length = M := ⟨_, rfl⟩
      rw [hM] at HAE x1w hcx hbd
      have HXW : Hid (∀ W, Below w.heap.size w W → W.cell? ⟨b, o + i * 2, none⟩ = some (.string tt) ∧ W.cell? ⟨b, o + i * 2 + 1, none⟩ = some (.slice ax M cx) ∧ Strs W ax vs) := fun W h => ⟨(h.cell (World.block_lt_of_cell? w _ x0w)).trans x0w, (h.cell (World.block_lt_of_cell? w _ x1w)).trans x1w, strs_below hSTw h⟩
      obtain ⟨x0, x1, _⟩ := HXW.out wr HBr.out
      clear x0w x1w hSTw
      have HM := Lib.hid hM
      have hM255 : M ≤ 255 := hbd.2.1
      have HVB := Lib.hid hbd.2.2
      have htz := hbd.1
      have HX1 := Lib.hid (HTX.out tt htz)
      have HL1 := Lib.hid (txtS_list tt)
      have hz1 : (txtS tt).size ≤ 5002 := by rw [txtS_size]; omega
      generalize txtS tt = X1 at HX1 HL1 hz1
      obtain ⟨mb, hmb⟩ : ∃ c, UInt8.ofNat M = c := ⟨_, rfl⟩
      rw [hmb] at HAE
      have HMB := Lib.hid hmb
      clear hM hbd htz hmb
      have g1 : ¬ 9223372036854775807 < s.size + X1.size := by omega
      have g2 : ¬ 9223372036854775807 < s.size + X1.size + 1 := by omega
      have hwM : IntKind.u8.wrap (M : Int) = (M : Int) := IntWalk.u8_in _ (by omega)
      have hk1 := World.block_lt_of_cell? wr _ k1
      have hx0 := World.block_lt_of_cell? wr _ x0
      have hx1 := World.block_lt_of_cell? wr _ x1
      obtain ⟨P1, hP1⟩ : ∃ l, (s ++ X1 ++ ({ data := #[mb] } : ByteArray)).data.toList = l := ⟨_, rfl⟩
      have HP1 : Hid (P1 = Q ++ encL (L.take i) ++ (txt tt ++ [mb])) := by
       show _ = _
       rw [← hP1, ← HL1.out]
       have := hS.out
       simp [this]
      have HP1' := Lib.hid hP1
      have HZ1 : Hid ((s ++ X1 ++ ({ data := #[mb] } : ByteArray)).size ≤ 3000000 + i * 1400000 + 6000) := by
       show _ ≤ _
       simp only [ByteArray.size_append]
       have : ({ data := #[mb] } : ByteArray).size = 1 := rfl
       omega
      have HND : Hid (Q ++ encL (L.take (i + 1)) = P1 ++ encV vs) := by
       show _ = _
       rw [HP1.out, HSN.out, HAE.out]; simp
      clear hP1 HP1 k0
      go_wp2_with fail
      refine wp_region_held_drew (S := fun W => W.cell? ⟨w.heap.size, 1, none⟩ = some (.slice (some ⟨b, o, none⟩) N ac) ∧ W.cell? ⟨b, o + i * 2, none⟩ = some (.string tt) ∧ W.cell? ⟨b, o + i * 2 + 1, none⟩ = some (.slice ax M cx)) (by kernel_rfl) (⟨k1, x0, x1⟩) (fun hHeld => ?_)
      refine tk 0 ⟨some 56,_,_,_,_,_⟩ rfl ?_
      refine tk 1 ⟨some 57,_,_,_,_,_⟩ rfl ?_
      refine tk 2 ⟨some 58,_,_,_,_,_⟩ rfl ?_
      refine tk 3 ⟨some 59,_,_,_,_,_⟩ rfl ?_
      refine tk 4 ⟨some 60,_,_,_,_,_⟩ rfl ?_
      refine tk 5 ⟨some 61,_,_,_,_,_⟩ rfl ?_
      refine tk 6 ⟨some 62,_,_,_,_,_⟩ rfl ?_
      refine tk 9 ⟨some 65,_,_,_,_,_⟩ rfl ?_
      refine tk 10 ⟨some 66,_,_,_,_,_⟩ rfl ?_
      refine tk 11 ⟨some 67,_,_,_,_,_⟩ rfl ?_
      refine tk 12 ⟨some 68,_,_,_,_,_⟩ rfl ?_
      refine tk 13 ⟨some 69,_,_,_,_,_⟩ rfl ?_
      refine tk 14 ⟨some 70,_,_,_,_,_⟩ rfl ?_
      refine tk 15 ⟨some 71,_,_,_,_,_⟩ rfl ?_
      refine tk 16 ⟨some 72,_,_,_,_,_⟩ rfl ?_
      refine wpAnyH_ready (rs := [7, 17]) (by kernel_rfl) (by simp) ?_
      refine AllReadyH.cons (o := ⟨some 63, _, _, _, _, _⟩) rfl (fun K hK => ?_) (AllReadyH.cons (o := ⟨some 73, _, _, _, _, _⟩) rfl (fun K hK => ?_) AllReadyH.nil)
      go_simp
      go_at_call 82; refine (HX1.out _).mono ?_; rintro e w6 ⟨rfl, hB6⟩
      refine hK.out _ _ (⟨(hB6.cell (p := ⟨w.heap.size, 1, none⟩) hk1).trans (k1), (hB6.cell (p := ⟨b, o + i * 2, none⟩) hx0).trans (x0), (hB6.cell (p := ⟨b, o + i * 2 + 1, none⟩) hx1).trans (x1)⟩) (fun hHeld => ?_)
      clear hK
      try simp only [Act.put, List.setIfInBounds_toArray, List.set_cons_zero, List.set_cons_succ]
      refine tk 8 ⟨some 64,_,_,_,_,_⟩ rfl ?_
      have cv := lit1 w6 M hM255
      rw [HMB.out] at cv
      have hB7 : Below w6.heap.size w6 (w6.alloc (.cells #[.int .u8 (M : Int)] 5)) := (Below.refl _ _).alloc (Nat.le_refl _) _
      refine tc 17 ⟨some 73,_,_,_,_,_⟩ rfl (fun K hK => ?_)
      go_simp
      refine hK.out _ _ (⟨(hB7.cell (p := ⟨w.heap.size, 1, none⟩) (Nat.lt_of_lt_of_le hk1 hB6.size)).trans ((hB6.cell (p := ⟨w.heap.size, 1, none⟩) hk1).trans (k1)), (hB7.cell (p := ⟨b, o + i * 2, none⟩) (Nat.lt_of_lt_of_le hx0 hB6.size)).trans ((hB6.cell (p := ⟨b, o + i * 2, none⟩) hx0).trans (x0)), (hB7.cell (p := ⟨b, o + i * 2 + 1, none⟩) (Nat.lt_of_lt_of_le hx1 hB6.size)).trans ((hB6.cell (p := ⟨b, o + i * 2 + 1, none⟩) hx1).trans (x1))⟩) (fun hHeld => ?_)
      clear hK
      try simp only [Act.put, List.setIfInBounds_toArray, List.set_cons_zero, List.set_cons_succ]
      refine tc 18 ⟨some 74,_,_,_,_,_⟩ rfl (fun K hK => ?_)
      go_simp
      refine hK.out _ _ (⟨(hB7.cell (p := ⟨w.heap.size, 1, none⟩) (Nat.lt_of_lt_of_le hk1 hB6.size)).trans ((hB6.cell (p := ⟨w.heap.size, 1, none⟩) hk1).trans (k1)), (hB7.cell (p := ⟨b, o + i * 2, none⟩) (Nat.lt_of_lt_of_le hx0 hB6.size)).trans ((hB6.cell (p := ⟨b, o + i * 2, none⟩) hx0).trans (x0)), (hB7.cell (p := ⟨b, o + i * 2 + 1, none⟩) (Nat.lt_of_lt_of_le hx1 hB6.size)).trans ((hB6.cell (p := ⟨b, o + i * 2 + 1, none⟩) hx1).trans (x1))⟩) (fun hHeld => ?_)
      clear hK
      try simp only [Act.put, List.setIfInBounds_toArray, List.set_cons_zero, List.set_cons_succ]
      clear cv
      refine tk 19 ⟨some 75,_,_,_,_,_⟩ rfl ?_
      refine tk 20 ⟨some 4,_,_,_,_,_⟩ rfl ?_
      have hBF := ((Below.refl wr.heap.size wr).drew.trans hB6).trans (hB7.mono hB6.size)
      refine wpAnyH_done (by kernel_rfl) ?_ _
      rotate_left 1
      have hB7 : Below wr.heap.size wr.drew (wr.drew.alloc (.cells #[.int .u8 (M : Int)] 5)) := by have h : Below wr.drew.heap.size wr.drew (wr.drew.alloc (.cells #[.int .u8 (M : Int)] 5)) := (Below.refl _ _).alloc (Nat.le_refl _) _; exact h
      go_simp
      refine hK.out _ _ (⟨(hB7.cell (p := ⟨w.heap.size, 1, none⟩) hk1).trans (k1), (hB7.cell (p := ⟨b, o + i * 2, none⟩) hx0).trans (x0), (hB7.cell (p := ⟨b, o + i * 2 + 1, none⟩) hx1).trans (x1)⟩) (fun hHeld => ?_)
      clear hK
      try simp only [Act.put, List.setIfInBounds_toArray, List.set_cons_zero, List.set_cons_succ]
      refine wpAnyH_ready (rs := [7, 18]) (by kernel_rfl) (by simp) ?_
      refine AllReadyH.cons (o := ⟨some 63, _, _, _, _, _⟩) rfl (fun K hK => ?_) (AllReadyH.cons (o := ⟨some 74, _, _, _, _, _⟩) rfl (fun K hK => ?_) AllReadyH.nil)
      go_simp
      go_at_call 82; refine (HX1.out _).mono ?_; rintro e w6 ⟨rfl, hB6⟩
      refine hK.out _ _ (⟨(hB6.cell (p := ⟨w.heap.size, 1, none⟩) (Nat.lt_of_lt_of_le hk1 hB7.size)).trans ((hB7.cell (p := ⟨w.heap.size, 1, none⟩) hk1).trans (k1)), (hB6.cell (p := ⟨b, o + i * 2, none⟩) (Nat.lt_of_lt_of_le hx0 hB7.size)).trans ((hB7.cell (p := ⟨b, o + i * 2, none⟩) hx0).trans (x0)), (hB6.cell (p := ⟨b, o + i * 2 + 1, none⟩) (Nat.lt_of_lt_of_le hx1 hB7.size)).trans ((hB7.cell (p := ⟨b, o + i * 2 + 1, none⟩) hx1).trans (x1))⟩) (fun hHeld => ?_)
      clear hK
      try simp only [Act.put, List.setIfInBounds_toArray, List.set_cons_zero, List.set_cons_succ]
      refine tk 8 ⟨some 64,_,_,_,_,_⟩ rfl ?_
      have cv := lit1b w6 wr.heap.size M hM255 ((hB6.block wr.heap.size (by simp)).trans (heap_alloc_new wr.drew _))
      rw [HMB.out] at cv
      refine tc 18 ⟨some 74,_,_,_,_,_⟩ rfl (fun K hK => ?_)
      go_simp
      refine hK.out _ _ (⟨(hB6.cell (p := ⟨w.heap.size, 1, none⟩) (Nat.lt_of_lt_of_le hk1 hB7.size)).trans ((hB7.cell (p := ⟨w.heap.size, 1, none⟩) hk1).trans (k1)), (hB6.cell (p := ⟨b, o + i * 2, none⟩) (Nat.lt_of_lt_of_le hx0 hB7.size)).trans ((hB7.cell (p := ⟨b, o + i * 2, none⟩) hx0).trans (x0)), (hB6.cell (p := ⟨b, o + i * 2 + 1, none⟩) (Nat.lt_of_lt_of_le hx1 hB7.size)).trans ((hB7.cell (p := ⟨b, o + i * 2 + 1, none⟩) hx1).trans (x1))⟩) (fun hHeld => ?_)
      clear hK
      try simp only [Act.put, List.setIfInBounds_toArray, List.set_cons_zero, List.set_cons_succ]
      clear cv
      refine tk 19 ⟨some 75,_,_,_,_,_⟩ rfl ?_
      refine tk 20 ⟨some 4,_,_,_,_,_⟩ rfl ?_
      have hBF := ((Below.refl wr.heap.size wr).drew.trans hB7).trans (hB6.mono hB7.size)
      refine wpAnyH_done (by kernel_rfl) ?_ _
      rotate_left 1
      have cv := lit1b ((wr.alloc (.cells #[.int .u8 (M : Int)] 5)).drew) wr.heap.size M hM255 (heap_alloc_new wr _)
      rw [HMB.out] at cv
      go_simp
      refine hK.out _ _ (⟨(hB7.cell (p := ⟨w.heap.size, 1, none⟩) hk1).trans (k1), (hB7.cell (p := ⟨b, o + i * 2, none⟩) hx0).trans (x0), (hB7.cell (p := ⟨b, o + i * 2 + 1, none⟩) hx1).trans (x1)⟩) (fun hHeld => ?_)
      clear hK
      try simp only [Act.put, List.setIfInBounds_toArray, List.set_cons_zero, List.set_cons_succ]
      clear cv
      refine tc 7 ⟨some 63,_,_,_,_,_⟩ rfl (fun K hK => ?_)
      go_simp
      go_at_call 82; refine (HX1.out _).mono ?_; rintro e w6 ⟨rfl, hB6⟩
      refine hK.out _ _ (⟨(hB6.cell (p := ⟨w.heap.size, 1, none⟩) (Nat.lt_of_lt_of_le hk1 hB7.size)).trans ((hB7.cell (p := ⟨w.heap.size, 1, none⟩) hk1).trans (k1)), (hB6.cell (p := ⟨b, o + i * 2, none⟩) (Nat.lt_of_lt_of_le hx0 hB7.size)).trans ((hB7.cell (p := ⟨b, o + i * 2, none⟩) hx0).trans (x0)), (hB6.cell (p := ⟨b, o + i * 2 + 1, none⟩) (Nat.lt_of_lt_of_le hx1 hB7.size)).trans ((hB7.cell (p := ⟨b, o + i * 2 + 1, none⟩) hx1).trans (x1))⟩) (fun hHeld => ?_)
      clear hK
      try simp only [Act.put, List.setIfInBounds_toArray, List.set_cons_zero, List.set_cons_succ]
      refine tk 8 ⟨some 64,_,_,_,_,_⟩ rfl ?_
      refine tk 19 ⟨some 75,_,_,_,_,_⟩ rfl ?_
      refine tk 20 ⟨some 4,_,_,_,_,_⟩ rfl ?_
      have hBF := ((Below.refl wr.heap.size wr).drew.trans hB7).trans (hB6.mono hB7.size)
      refine wpAnyH_done (by kernel_rfl) ?_ _
      all_goals
       have HB7 := Lib.hid (hBr.out.trans (hBF.mono hBr.out.size))
       clear hHeld hB6 hB7 hBF k1 x0 x1 g1 g2 hwM
       go_wp2_with fail
       go_loopw [4, 7] (fun sv jv wr => ∃ (j : Nat) (s : ByteArray), j ≤ M ∧ jv = .int .i64 (j : Int) ∧ sv = .string s ∧ s.size ≤ 3000000 + i * 1400000 + 6000 + j * 5010 ∧ Hid (s.data.toList = P1 ++ encV (vs.take j)) ∧ Hid (Below w2.heap.size w2 wr)) (fun _ jv _ => M - (intOf jv).toNat)
       case atStart => exact ⟨0, _, Nat.zero_le _, rfl, rfl, by have := HZ1.out; omega, (by show _ = _; rw [HP1'.out]; simp [encV]), HB7.out⟩
       case round =>
        obtain ⟨j, s2, hj, rfl, rfl, hsz3, hS3, hBr3⟩ := hrel
        have HBr3 := Lib.hid (HB2.out.trans (hBr3.out.mono hs2))
        obtain ⟨k0, k1⟩ := entB_cells (entB_below HT2.out hBr3.out)
        obtain ⟨x0, x1, hST3⟩ := HXW.out wr HBr3.out
        clear k0 x0
        by_cases hlt3 : j < M
        ·have hltI3 : (j : Int) < (M : Int) := by omega
         have hjl : j < vs.length := by rw [HM.out]; exact hlt3
         obtain ⟨g, og, hax, y0⟩ := hST3 j hjl
         subst hax
         have HSN3 := Lib.hid (encV_snoc hjl)
         have hyb := HVB.out vs[j] (List.getElem_mem _)
         obtain ⟨y, hy⟩ : ∃ y, vs[j] = y := ⟨_, rfl⟩
         rw [hy] at HSN3 hyb y0
         have HX3 := Lib.hid (HTX.out y hyb)
         have HL3 := Lib.hid (txtS_list y)
         have hz3 : (txtS y).size ≤ 5002 := by rw [txtS_size]; omega
         clear hy hyb hST3
         generalize txtS y = X3 at HX3 HL3 hz3
         have g3 : ¬ 9223372036854775807 < s2.size + X3.size := by omega
         have HNX3 : Hid ((s2 ++ X3).data.toList = P1 ++ encV (vs.take (j + 1))) := by
          show _ = _
          rw [HSN3.out, ← HL3.out]
          have := hS3.out
          simp [this]
         have HSZ3 : Hid ((s2 ++ X3).size ≤ 3000000 + i * 1400000 + 6000 + (j + 1) * 5010) := by
          show _ ≤ _
          simp only [ByteArray.size_append]; omega
         go_wp2_with fail
         refine (HX3.out _).mono ?_
         rintro e w8 ⟨rfl, hB8⟩
         have HB8 := Lib.hid (hBr3.out.trans (hB8.mono hBr3.out.size))
         clear hB8 y0 k1 x1
         go_wp2_with fail
         go_roundw
         case rel => exact ⟨j + 1, _, by omega, by go_num, rfl, HSZ3.out, HNX3, HB8⟩
         case measure => simp [intOf]; omega
        ·obtain rfl : M = j := by omega
         have hfull : vs.take M = vs := List.take_of_length_le (by rw [HM.out]; omega)
         have HNE : Hid (s2.data.toList = Q ++ encL (L.take (i + 1))) := by
          show _ = _
          rw [hS3.out, hfull, ← HND.out]
         have HZE : Hid (s2.size ≤ 3000000 + (i + 1) * 1400000) := by
          show _ ≤ _
          omega
         clear hfull hST3
         go_wp2_with fail
         go_roundw
         case rel => exact ⟨i + 1, s2, by omega, by go_num, rfl, HZE.out, HNE, hBr3⟩
         case measure => simp [intOf]; omega
     ·obtain rfl : N = i := by omega
      have hfull : L.take N = L := List.take_of_length_le (by rw [HN.out]; omega)
      rw [hfull, ← HPQ.out] at hS
      have hl4 : (PB.length : Nat) = s.size := by rw [← hS.out, kt.size_len]
      rw [hl4] at HRES
      have hse : s = ⟨PB.toArray⟩ := kt.str_eq (by rw [hS.out])
      have HSE := Lib.hid hse
      clear hfull hl4 hse
      by_cases hbig : 4000 < s.size
      ·have hbig' : (4000 : Int) < (s.size : Int) := by omega
       rw [if_pos hbig] at HRES
       go_wp2_with fail
       go_ret2
       exact ⟨by rw [HRES.out]; rfl, HBr.out⟩
      ·have hbig' : ¬ (4000 : Int) < (s.size : Int) := by omega
       rw [if_neg hbig, ← HSE.out] at HRES
       go_wp2_with fail
       go_ret2
       exact ⟨by rw [HRES.out]; rfl, HBr.out⟩
end etw
end Go.Proofs.YtcolcogobdgejaaGreatDoor
