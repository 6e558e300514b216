/- One text out of several: TupP, Trim, TupW, KeyP, KeyW, KeysW, UnderW, PartR, TupR, CmpP, LessW, Same, RKeyW, RKeyX, RKeysW, LawK. -/
import Derived.Lib.Replace
import Derived.Lib.CountLaws
import Derived.Test.YtjjbmhndakmkbaaGreatDoorReadyW
import Derived.Test.YtjjbmhndakmkbaaGreatDoorKindW
import Derived.Test.YtjjbmhndakmkbaaGreatDoorBuildS
import Derived.Test.YtjjbmhndakmkbaaGreatDoorPrintQ
import Derived.Test.YtjjbmhndakmkbaaGreatDoorDPrintW
import Derived.Test.YtjjbmhndakmkbaaGreatDoorShelf
import Derived.Sort.OwnSorted
import Derived.Lib.Bytealg
import Derived.Test.YtjjbmhndakmkbaaGreatDoorKit
import Derived.Test.YtjjbmhndakmkbaaGreatDoorRows
import Derived.Deep.QuietTactic
import Derived.BigQuiet
import Derived.Test.YtjjbmhndakmkbaaGreatDoorRRdnW
import Derived.Test.YtjjbmhndakmkbaaGreatDoorAwakeW
import Derived.Test.YtjjbmhndakmkbaaGreatDoorLongW
namespace Go.Proofs.YtjjbmhndakmkbaaGreatDoor
namespace tup
open Go.Lib

def rep (old new s : List UInt8) : List UInt8 := replaceK old new (count s old) s
theorem replaceAll_rep {old new : List UInt8} (h : (old == new) = false) (s : List UInt8) : replaceAll s old new = rep old new s := by
  unfold replaceAll replace rep replaceNum
  rw [h]
  simp
theorem rep_nil {old new : List UInt8} (h : old ≠ []) : rep old new [] = [] := by
  have h1 : index [] old = -1 := by
    unfold index
    cases old with
    | nil => exact absurd rfl h
    | cons a t => rfl
  unfold rep
  rw [count_miss h1]
  rfl
theorem rep_miss {old new : List UInt8} (ho : old ≠ []) (x : UInt8) (r : List UInt8) (h : old.isPrefixOf (x :: r) = false) : rep old new (x :: r) = x :: rep old new r := by
  have hi : index (x :: r) old = if index r old == -1 then -1 else index r old + 1 := by
    rw [index, h]; rfl
  by_cases hm : index r old = -1
  · rw [hm] at hi
    have hi' : index (x :: r) old = -1 := hi
    unfold rep
    rw [count_miss hi', count_miss hm]
    rfl
  · have hge := index_ge r old
    obtain ⟨i, hi0⟩ : ∃ i : Nat, index r old = i := ⟨(index r old).toNat, by omega⟩
    have hi1 : index (x :: r) old = ((i + 1 : Nat) : Int) := by
      rw [hi, hi0, if_neg (by simp)]; rfl
    unfold rep
    rw [count_hit ho hi0, count_hit ho hi1, Nat.add_comm 1, Nat.add_comm 1, replaceK_hit _ _ _ _ _ hi0, replaceK_hit _ _ _ _ _ hi1]
    have e : i + 1 + old.length = (i + old.length) + 1 := by omega
    rw [e]
    simp
theorem rep_hit {old new : List UInt8} (ho : old ≠ []) (r : List UInt8) : rep old new (old ++ r) = new ++ rep old new r := by
  have hi : index (old ++ r) old = ((0 : Nat) : Int) := index_first (i := 0) (Nat.zero_le _) (by simp [occAt]) (fun _ h => absurd h (Nat.not_lt_zero _))
  unfold rep
  rw [count_hit ho hi, Nat.add_comm 1, replaceK_hit _ _ _ _ _ hi]
  simp

/-- a null byte is followed by 255 -/
def esc : List UInt8 → List UInt8
  | [] => []
  | c :: r => (if c = 0 then [0, 255] else [c]) ++ esc r
theorem replace_esc (s : List UInt8) : replaceAll s [0] [0, 255] = esc s := by
  rw [replaceAll_rep (by decide)]
  induction s with
  | nil => exact rep_nil (by simp)
  | cons c r ih =>
    by_cases hc : c = 0
    · subst hc
      have := rep_hit (old := [0]) (new := [0, 255]) (by simp) r
      rw [List.singleton_append] at this
      rw [this, ih]
      rfl
    · rw [rep_miss (by simp) c r (by
        rw [Bool.eq_false_iff]
        intro e
        simp [List.isPrefixOf] at e
        exact hc e.symm), ih]
      simp [esc, hc]
def unesc : List UInt8 → List UInt8
  | [] => []
  | [c] => [c]
  | c :: d :: r => if c = 0 ∧ d = 255 then 0 :: unesc r else c :: unesc (d :: r)
theorem replace_unesc : ∀ s : List UInt8, rep [0, 255] [0] s = unesc s
  | [] => rep_nil (by simp)
  | [c] => by
    rw [rep_miss (by simp) c [] (by simp [List.isPrefixOf]), rep_nil (by simp)]
    rfl
  | c :: d :: r => by
    by_cases h : c = 0 ∧ d = 255
    · obtain ⟨rfl, rfl⟩ := h
      have := rep_hit (old := [0, 255]) (new := [0]) (by simp) r
      simp only [List.cons_append, List.nil_append] at this
      rw [this, replace_unesc r]
      simp [unesc]
    · rw [rep_miss (by simp) c (d :: r) (by
        rw [Bool.eq_false_iff]
        intro e
        apply h
        simp [List.isPrefixOf] at e
        exact ⟨e.1.symm, e.2.symm⟩), replace_unesc (d :: r)]
      simp [unesc, h]
theorem replaceAll_unesc (s : List UInt8) : replaceAll s [0, 255] [0] = unesc s := by
  rw [replaceAll_rep (by decide), replace_unesc]
theorem esc_length (s : List UInt8) : s.length ≤ (esc s).length ∧ (esc s).length ≤ 2 * s.length := by
  induction s with
  | nil => simp [esc]
  | cons c r ih =>
    simp only [esc, List.length_append, List.length_cons]
    split <;> simp <;> omega
theorem unesc_esc (s : List UInt8) : unesc (esc s) = s := by
  induction s with
  | nil => rfl
  | cons c r ih =>
    by_cases hc : c = 0
    · subst hc
      simp [esc, unesc, ih]
    · simp only [esc, hc, if_false, List.singleton_append]
      cases he : esc r with
      | nil => 
        rw [he] at ih
        simp [unesc] at ih ⊢
        exact ih
      | cons d t =>
        rw [he] at ih
        simp [unesc, hc, ih]

/-- the bytes of a tuple -/
def bytes : List ByteArray → List UInt8
  | [] => []
  | p :: r => esc p.data.toList ++ [0, 1] ++ bytes r
theorem bytes_append (a b : List ByteArray) : bytes (a ++ b) = bytes a ++ bytes b := by
  induction a with
  | nil => rfl
  | cons p r ih => simp [bytes, ih]
theorem bytes_mem {l : List ByteArray} {p : ByteArray} (h : p ∈ l) : p.size ≤ (bytes l).length := by
  induction l with
  | nil => cases h
  | cons q r ih =>
    have he := (esc_length q.data.toList).1
    rcases List.mem_cons.1 h with rfl | h'
    · simp only [bytes, List.length_append]
      simp at he
      omega
    · have := ih h'
      simp only [bytes, List.length_append]
      omega
theorem bytes_small {l : List ByteArray} (h : ∀ p ∈ l, p.size ≤ 4096) : (bytes l).length ≤ 8194 * l.length := by
  induction l with
  | nil => simp [bytes]
  | cons q r ih =>
    have he := (esc_length q.data.toList).2
    have h1 := h q (by simp)
    have h2 := ih (fun p hp => h p (by simp [hp]))
    simp at he
    simp only [bytes, List.length_append, List.length_cons]
    simp
    omega
/-- what Tuple answers -/
def out (l : List ByteArray) : ByteArray × Int :=
  if 16 < l.length then (⟨#[]⟩, 1) else if 4096 < (bytes l).length then (⟨#[]⟩, 5) else (⟨(bytes l).toArray⟩, 0)
end tup
end Go.Proofs.YtjjbmhndakmkbaaGreatDoor
namespace Go.Proofs.YtjjbmhndakmkbaaGreatDoor
open Go.RowKit
namespace trm
def Env (w : World) : Prop := (∃ m : Int, w.cell? ⟨0, 0, none⟩ = some (.int .i64 m)) ∧ Lib.Utf8Tabs 1 2 w
theorem env_below {w w' : World} (h : Env w) (hb : Below w.heap.size w w') : Env w' := by
  obtain ⟨⟨m, hm⟩, ht⟩ := h
  exact ⟨⟨m, (hb.cell (World.block_lt_of_cell? w _ hm)).trans hm⟩, Utf8Tabs_below ht hb⟩
end trm
end Go.Proofs.YtjjbmhndakmkbaaGreatDoor
namespace Go.Proofs.YtjjbmhndakmkbaaGreatDoor
open Go.RowKit
namespace tupw
/-- a row of texts lies at a slice -/
def Strs (w : World) (ao : Option Addr) (l : List ByteArray) : Prop := ∀ (i : Nat) (h : i < l.length), ∃ b o, ao = some ⟨b, o, none⟩ ∧ w.cell? ⟨b, o + i, none⟩ = some (.string l[i])
theorem strs_below {w w' : World} {ao : Option Addr} {l : List ByteArray} (h : Strs w ao l) (hb : Below w.heap.size w w') : Strs w' ao l := by
  intro i hi
  obtain ⟨b, o, e, hc⟩ := h i hi
  exact ⟨b, o, e, (hb.cell (World.block_lt_of_cell? w _ hc)).trans hc⟩
theorem is_below {B b : Nat} {l : List UInt8} {w w' : World} (h : bld.Is B b l w) (hb : Below w.heap.size w w') : bld.Is B b l w' := by
  rcases h with h | h
  · obtain ⟨hB, v, hk, ho, hn⟩ := h
    exact Or.inl ⟨hB, v, (hb.block b (bld.lt_of_heap hk)).trans hk, kt.row_below ho hb, hn⟩
  · obtain ⟨hB, v, hk, ho, hn⟩ := h
    exact Or.inr ⟨hB, v, (hb.block b (bld.lt_of_heap hk)).trans hk, kt.row_below ho hb, hn⟩
def tupV (r : ByteArray × Int) : Value := .tuple #[.string r.1, .int .i64 r.2]

set_option maxHeartbeats 1000000 in
theorem tuple_any (ao : Option Addr) (cap : Nat) (l : List ByteArray) (w : World) (hE : Hid (trm.Env w)) (hl : Hid (Strs w ao l)) :
    Calls Tryz.prog 34 #[.slice ao l.length cap] w fun e w' => e = .returned (tupV (tup.out l)) ∧ Below w.heap.size w w' := by
  by_cases c16 : 16 < l.length
  · have hp : tup.out l = (⟨#[]⟩, 1) := by unfold tup.out; rw [if_pos c16]
    have HP := Lib.hid hp
    clear hp
    have c16' : 16 < (l.length : Int) := by omega
    go_enter Tryz.func34, Tryz.ntmps34
    go_wp2_with fail
    go_ret2
    exact ⟨by rw [HP.out]; rfl, Below.refl _ _⟩
  · have c16' : ¬ 16 < (l.length : Int) := by omega
    go_enter Tryz.func34, Tryz.ntmps34
    go_wp2_with fail
    go_loopw [12] (fun iv wr => ∃ i : Nat, i ≤ l.length ∧ iv = .int .i64 i ∧ Hid (∀ p ∈ l.take i, p.size ≤ 4096) ∧ Hid (bld.Is w.heap.size w.heap.size (tup.bytes (l.take i)) wr) ∧ Below w.heap.size w wr) (fun iv _ => l.length - (intOf iv).toNat)
    case atStart => exact ⟨0, Nat.zero_le _, rfl, fun p hp => by simp at hp, bld.fresh w, (Below.refl _ _).alloc (Nat.le_refl _) _⟩
    case round =>
      obtain ⟨i, hi, rfl, hsm, hI, hB⟩ := hrel
      have hsz := hB.size
      by_cases hil : i < l.length
      · obtain ⟨b, o, hao, hc0⟩ := hl.out i hil
        have hc := (hB.cell (World.block_lt_of_cell? w _ hc0)).trans hc0
        clear hc0
        obtain ⟨p, hp⟩ : ∃ p : ByteArray, Hid (p = l[i]) := ⟨l[i], rfl⟩
        rw [← hp.out] at hc
        subst hao
        by_cases cp : 4096 < p.size
        · have hbig : tup.out l = (⟨#[]⟩, 5) := by
            have := tup.bytes_mem (l := l) (p := l[i]) (List.getElem_mem hil)
            rw [← hp.out] at this
            unfold tup.out
            rw [if_neg c16, if_pos (by omega)]
          have HP := Lib.hid hbig
          clear hbig
          have cp' : 4096 < (p.size : Int) := by omega
          go_wp2_with fail
          go_ret2
          exact ⟨by rw [HP.out]; rfl, hB⟩
        · have cp' : ¬ 4096 < (p.size : Int) := by omega
          obtain ⟨⟨m, hm⟩, _⟩ := trm.env_below hE.out hB
          have hcl := Lib.count_le p.data.toList [0]
          have C := Tryz.strings_ReplaceAll p ⟨#[0]⟩ ⟨#[0, 255]⟩ m wr (by omega) hm (by decide) (by
            have : Lib.countB p ⟨#[0]⟩ ≤ p.size + 1 := by simpa [Lib.countB] using hcl
            show p.size + Lib.countB p ⟨#[0]⟩ * 2 ≤ _
            omega)
          rw [show (Lib.replaceAll p.data.toList (ByteArray.mk #[0]).data.toList (ByteArray.mk #[0, 255]).data.toList) = tup.esc p.data.toList from tup.replace_esc _] at C
          obtain ⟨q, hq⟩ : ∃ q : ByteArray, Hid (q = ⟨(tup.esc p.data.toList).toArray⟩) := ⟨_, rfl⟩
          rw [← hq.out] at C
          have hqs : q.size ≤ 8192 := by
            have := (tup.esc_length p.data.toList).2
            rw [kt.size_len] at this
            have h2 : q.size = (tup.esc p.data.toList).length := by rw [hq.out]; rfl
            omega
          have HC := Lib.hid C
          clear C hcl hm
          have hbl : (tup.bytes (l.take i)).length ≤ 131104 := by
            have := tup.bytes_small hsm.out
            rw [List.length_take] at this
            omega
          go_wp2_with fail
          refine HC.out.mono ?_
          rintro e w1 ⟨rfl, hB1⟩
          have hI1 := is_below hI.out hB1
          have W1 := Lib.hid (bld.writeString_any _ _ _ q w1 hI1 (by omega) (Nat.le_trans hsz hB1.size))
          clear hI1
          go_wp2_with fail
          refine W1.out.mono ?_
          rintro e w2 ⟨rfl, hI2, hB2⟩
          have hs2 : w.heap.size ≤ w2.heap.size := Nat.le_trans (Nat.le_trans hsz hB1.size) hB2.size
          have hqd : q.data.toList = tup.esc p.data.toList := by rw [hq.out]
          have W2 := Lib.hid (bld.writeString_any _ _ _ ⟨#[0, 1]⟩ w2 hI2 (by rw [List.length_append, kt.size_len]; show _ + 2 ≤ _; omega) hs2)
          clear hI2
          go_wp2_with fail
          refine W2.out.mono ?_
          rintro e w3 ⟨rfl, hI3, hB3⟩
          have hI3' := Lib.hid hI3
          clear hI3
          have ht : tup.bytes (l.take (i + 1)) = tup.bytes (l.take i) ++ q.data.toList ++ [0, 1] := by
            rw [List.take_succ_eq_append_getElem hil, tup.bytes_append, hqd, ← hp.out]
            simp [tup.bytes]
          have HT := Lib.hid ht
          have HS : Hid (∀ p ∈ l.take (i + 1), p.size ≤ 4096) := by
            rw [List.take_succ_eq_append_getElem hil]
            intro r hr
            rcases List.mem_append.1 hr with h | h
            · exact hsm.out r h
            · rw [List.mem_singleton.1 h, ← hp.out]; omega
          clear ht hqd
          go_wp2_with fail
          go_roundw
          case rel => exact ⟨i + 1, by omega, by go_num, HS, by rw [HT.out]; exact hI3'.out, ((hB.trans (hB1.mono hsz)).trans hB2).trans hB3⟩
          case measure => simp [intOf]; omega
      · obtain rfl : i = l.length := by omega
        have hI' := hI
        have hsm' := hsm.out
        rw [List.take_of_length_le (Nat.le_refl _)] at hI' hsm'
        have hbl := tup.bytes_small hsm'
        clear hsm hsm' hI
        have hL := (Tryz.Builder_Len _ _ _ wr hI'.out)
        rw [Lib.byteCells_length] at hL
        have HL := Lib.hid hL
        clear hL
        have hil' : ¬ (l.length : Int) < (l.length : Int) := by omega
        go_wp2_with fail
        refine HL.out.mono ?_
        rintro e w1 ⟨rfl, rfl⟩
        by_cases hb : 4096 < (tup.bytes l).length
        · have hp : tup.out l = (⟨#[]⟩, 5) := by unfold tup.out; rw [if_neg c16, if_pos hb]
          have HP := Lib.hid hp
          have hb' : 4096 < ((tup.bytes l).length : Int) := by omega
          clear hp hb
          go_wp2_with fail
          go_ret2
          exact ⟨by rw [HP.out]; rfl, hB⟩
        · have hp : tup.out l = (⟨(tup.bytes l).toArray⟩, 0) := by unfold tup.out; rw [if_neg c16, if_neg hb]
          have HP := Lib.hid hp
          have hb' : ¬ 4096 < ((tup.bytes l).length : Int) := by omega
          clear hp hb
          have HSt := Lib.hid (Tryz.Builder_String_any _ _ _ w1 hI'.out hsz)
          go_wp2_with fail
          refine HSt.out.mono ?_
          rintro e w2 ⟨rfl, hB2⟩
          go_wp2_with fail
          go_ret2
          exact ⟨by rw [HP.out]; rfl, hB.trans hB2⟩
end tupw
end Go.Proofs.YtjjbmhndakmkbaaGreatDoor
namespace Go.Proofs.YtjjbmhndakmkbaaGreatDoor
namespace dnw
open dnp
set_option linter.unusedVariables false
set_option linter.unusedSimpArgs false
/-- a value made ready -/
def rv (v : List UInt8) : List UInt8 := (prp.readyO v true).getD []
theorem rv_ok {v : List UInt8} (h : valOK v = true) : prp.readyO v true = some (rv v) := by
  unfold valOK at h
  unfold rv
  cases hr : prp.readyO v true with
  | none => rw [hr] at h; simp at h
  | some t => rfl
def partB (a : Av) : ByteArray := (tup.out [a.t, ⟨(rv a.v.data.toList).toArray⟩]).1
theorem partB_len (a : Av) : (partB a).size ≤ 4096 := by
  unfold partB tup.out
  rw [if_neg (by simp)]
  split
  · exact Nat.zero_le _
  · rename_i h
    rw [← kt.size_len]
    show (tup.bytes _).length ≤ _
    omega
def sortL (l : List (List UInt8)) : List (List UInt8) := l.mergeSort fun x y => decide (x ≤ y)
theorem sortL_sorted (l : List (List UInt8)) : (sortL l).Pairwise (fun x y => x ≤ y) := by
  have h := List.pairwise_mergeSort (le := fun x y : List UInt8 => decide (x ≤ y)) (fun a b c h1 h2 => by
    simp only [decide_eq_true_eq] at h1 h2 ⊢
    exact List.le_trans h1 h2) (fun a b => by
    simp only [Bool.or_eq_true, decide_eq_true_eq]
    exact List.le_total a b) l
  exact h.imp (fun h => by simpa using h)
theorem sorted_eq {a b : List (List UInt8)} (ha : a.Pairwise (fun x y => x ≤ y)) (hb : b.Pairwise (fun x y => x ≤ y)) (h : a.Perm b) : a = b :=
  List.Perm.eq_of_pairwise (le := fun x y => x ≤ y) (fun x y _ _ h1 h2 => List.le_antisymm h1 h2) ha hb h
theorem sortL_perm {a b : List (List UInt8)} (h : a.Perm b) : sortL a = sortL b :=
  sorted_eq (sortL_sorted a) (sortL_sorted b) (((List.mergeSort_perm a _).trans h).trans (List.mergeSort_perm b _).symm)
def partsL (l : List Av) : List (List UInt8) := l.map fun a => (partB a).data.toList
/-- a relative name's key -/
def keyL (l : List Av) : List UInt8 := (sortL (partsL l)).flatten
theorem keyL_perm {a b : List Av} (h : a.Perm b) : keyL a = keyL b := by
  unfold keyL partsL
  rw [sortL_perm (h.map _)]
theorem join_flat (xs : List (List UInt8)) : Lib.join xs [] = xs.flatten := by
  cases xs with
  | nil => rfl
  | cons x r =>
    rw [Lib.join_cons, Lib.joinTail, List.flatten_cons]
    congr 2
    simp
theorem flatten_len_le (k : Nat) : ∀ l : List (List UInt8), (∀ x ∈ l, x.length ≤ k) → l.flatten.length ≤ l.length * k
  | [], _ => by simp
  | x :: l, h => by
    have h1 := h x (by simp)
    have h2 := flatten_len_le k l (fun y hy => h y (by simp [hy]))
    rw [List.flatten_cons, List.length_append, List.length_cons, Nat.add_mul]
    omega
theorem keyL_len (l : List Av) : (keyL l).length ≤ l.length * 4096 := by
  have h := flatten_len_le 4096 (sortL (partsL l)) (fun x hx => by
    have := (List.mergeSort_perm (partsL l) _).mem_iff.1 hx
    unfold partsL at this
    obtain ⟨a, _, rfl⟩ := List.mem_map.1 this
    rw [kt.size_len]
    exact partB_len a)
  have h2 : (sortL (partsL l)).length = l.length := by unfold sortL partsL; simp
  rw [h2] at h
  exact h
/-- a name's keys, the topmost first -/
def keysL (n : List (List Av)) : List (List UInt8) := n.reverse.map keyL
def keysB (n : List (List Av)) : List ByteArray := n.reverse.map fun l => ⟨(keyL l).toArray⟩
def underR (n b : List (List Av)) : Bool := nameOK n && nameOK b && decide (b.length ≤ n.length) && decide ((keysB n).take b.length = keysB b)
def sameR (n b : List (List Av)) : Bool := decide (n.length = b.length) && underR n b
theorem keysB_len (n : List (List Av)) : (keysB n).length = n.length := by simp [keysB]
end dnw
end Go.Proofs.YtjjbmhndakmkbaaGreatDoor
namespace Go.Proofs.YtjjbmhndakmkbaaGreatDoor
open Go.RowKit
namespace dnw
open dnp
set_option linter.unusedVariables false
set_option linter.unusedSimpArgs false
theorem trmEnv {w : World} (hE : prw.Env w) (hT : Tabs w) : trm.Env w := ⟨hE, hT⟩
theorem scells_enc (l : List ByteArray) : prw.scells l = (l.map (·.data.toList)).map encStr := by
  unfold prw.scells
  rw [List.map_map]
  rfl
theorem sortT {w : World} {B : Nat} {ao : Option Addr} {m cap : Nat} {l : List ByteArray} (h : prw.OwnT w B (.slice ao m cap) l) (hl : l.length ≤ 1000000) (hB : B ≤ w.heap.size) :
    Calls Tryz.prog 35 #[.slice ao m cap] w fun e w' => e = .returned (.tuple #[]) ∧ prw.OwnT w' B (.slice ao m cap) ((sortL (l.map (·.data.toList))).map bytes) ∧ Below B w w' := by
  obtain ⟨ss, hss⟩ : ∃ ss, ss = l.map (·.data.toList) := ⟨_, rfl⟩
  have hsl : ss.length = l.length := by rw [hss]; simp
  have hm : m = l.length := by
    obtain ⟨ao', cap', hv, _, _⟩ := prw.ownT_cells h
    simp only [Value.slice.injEq] at hv
    exact hv.2.1
  subst hm
  have hrow : w.ownsRow B 9 1 (.slice ao l.length cap) ss.length (ss.map encStr) := by
    have h1 : w.ownsRow B 9 1 (.slice ao l.length cap) (prw.scells l).length (prw.scells l) := h
    rw [scells_enc, ← hss, List.length_map] at h1
    exact h1
  have hsort : ((sortL ss).map bytes).map (·.data.toList) = sortL ss := by
    rw [List.map_map]
    conv => rhs; rw [← List.map_id (sortL ss)]
    apply List.map_congr_left
    intro x _
    rfl
  have hsn : (sortL ss).length = ss.length := by unfold sortL; simp
  rw [← hss]
  rcases hrow.2 with ⟨hv, h0⟩ | ⟨g, cap', cur, hv, hBg, hg, h1, h2, h3, h4⟩
  · simp only [Value.slice.injEq] at hv
    obtain ⟨rfl, hl0, rfl⟩ := hv
    have hs0 : ss = [] := List.eq_nil_of_length_eq_zero h0
    rw [hl0]
    refine (Tryz.slices_Sort_string_none none 0 w).mono ?_
    rintro e w' ⟨rfl, h2⟩
    have h2 : w' = w := by first | exact h2 | exact h2.symm
    subst h2
    refine ⟨rfl, ?_, Below.refl _ _⟩
    rw [hs0]
    have hn : sortL [] = [] := by unfold sortL; simp
    rw [hn]
    exact World.ownsRow_nil w' B _ _
  · simp only [Value.slice.injEq] at hv
    obtain ⟨rfl, _, rfl⟩ := hv
    rw [Nat.mul_one] at h4
    have hH := holds_of_block hg h4
    have CS := Tryz.slices_Sort_string g 0 cap ss w hH (bld.lt_of_heap hg) (by omega)
    rw [hsl] at CS
    refine CS.mono ?_
    rintro e w' ⟨rfl, n, os, rfl⟩
    have ho := ownsRow_sorted (n := n) (os := os) (ts := sortL ss) hsn hBg hg h1 h2 h3
    refine ⟨rfl, ?_, (Below.refl B w).grown (grownBy_sorted _) hB (fun k hk => by cases hk; exact hBg)⟩
    unfold prw.OwnT
    rw [scells_enc, hsort, List.length_map, hsn]
    rw [hsl] at ho ⊢
    exact ho
/-- what Tuple's part is, of a pair -/
theorem part_any (x : Av) (R : ByteArray) (hR : R = ⟨(rv x.v.data.toList).toArray⟩) (ao : Option Addr) (cap : Nat) (w : World) (hE : Hid (trm.Env w)) (hS : Hid (tupw.Strs w ao [x.t, R])) :
    Calls Tryz.prog 34 #[.slice ao 2 cap] w fun e w' => (∃ er : Int, e = .returned (.tuple #[.string (partB x), .int .i64 er])) ∧ Below w.heap.size w w' := by
  refine (tupw.tuple_any ao cap [x.t, R] w hE hS).mono ?_
  rintro e w' ⟨rfl, hb⟩
  exact ⟨⟨(tup.out [x.t, R]).2, by unfold tupw.tupV partB; rw [hR]⟩, hb⟩
set_option maxRecDepth 20000 in
set_option maxHeartbeats 4000000 in
theorem key_any (ao : Option Addr) (cap : Nat) (l : List Av) (w : World) (hA : Hid (Avas w ao l)) (hE : Hid (prw.Env w)) (hT : Hid (Tabs w)) (hok : rdnOK l = true) :
    Calls Tryz.prog 21 #[.slice ao l.length cap] w fun e w' => e = .returned (.string (bytes (keyL l))) ∧ Below w.heap.size w w' := by
  have h4 := (rdnOK_facts hok).2.1
  have HX := Lib.hid (rdnOK_av hok)
  obtain ⟨m, hm⟩ : ∃ m, m = l.length := ⟨_, rfl⟩
  have HM := Lib.hid hm
  rw [← hm] at h4 ⊢
  clear hm hok
  go_enter Tryz.func21, Tryz.ntmps21
  go_wp2_with fail
  go_loopw [3, 5, 6, 7, 8, 9, 12] (fun pv _ _ _ _ _ iv wr => ∃ (i : Nat), i ≤ m ∧ iv = .int .i64 (i : Int) ∧ Hid (prw.OwnT wr w.heap.size pv ((l.take i).map partB)) ∧ Below w.heap.size w wr) (fun _ _ _ _ _ _ iv _ => m - (intOf iv).toNat)
  case atStart => exact ⟨0, Nat.zero_le _, rfl, World.ownsRow_nil _ _ _ _, Below.refl _ _⟩
  case round =>
    obtain ⟨i, hi, rfl, hO, hB⟩ := hrel
    have hsz := hB.size
    obtain ⟨aoR, mR, capR, rfl, hmR⟩ := ownT_form hO.out
    by_cases hlt : i < m
    · have hlt' : (i : Int) < (m : Int) := by omega
      have hil : i < l.length := by rw [← HM.out]; exact hlt
      obtain ⟨b, o, hao, c0, c1⟩ := (avas_below hA.out hB) i hil
      subst hao
      have HST := takeMap_step partB l i hil
      have hxx := HX.out l[i] (List.getElem_mem hil)
      generalize l[i] = x at c0 c1 HST hxx
      obtain ⟨R, hR⟩ : ∃ R : ByteArray, R = ⟨(rv x.v.data.toList).toArray⟩ := ⟨_, rfl⟩
      have hvs : x.v.size ≤ 1000000 := by have := valOK_le hxx.2; rw [kt.size_len] at this; omega
      have HRD : Hid (∀ W, Below w.heap.size w W → Calls Tryz.prog 33 #[.string x.v, .bool true] W fun e w' => e = .returned (.tuple #[.string R, .int .i64 0]) ∧ Below W.heap.size W w') := by
        intro W hb
        have := prw.ready_any x.v true W hvs (Lib.hid (prw.env_below hE.out hb))
        rw [rv_ok hxx.2] at this
        rw [hR]
        exact this
      have HST := Lib.hid HST
      have HRe := Lib.hid hR
      obtain ⟨w5, hw5⟩ : ∃ w5, w5 = wr.alloc (.cells #[.string x.t, .string x.v] 40) := ⟨_, rfl⟩
      have e0 : w5.cell? ⟨wr.heap.size, 0, none⟩ = some (.string x.t) := by rw [hw5, World.cell?_alloc_new]; rfl
      have HB5 : Hid (Below w.heap.size w w5) := by
        show Below _ _ _
        rw [hw5]
        exact hB.alloc hsz _
      have HO5 : Hid (prw.OwnT w5 w.heap.size (.slice aoR mR capR) ((l.take i).map partB)) := by
        show prw.OwnT _ _ _ _
        rw [hw5]
        exact ownT_below hO.out ((Below.refl _ _).alloc (Nat.le_refl _) _)
      have HE0 := Lib.hid e0
      have hRD := HRD.out w5 HB5.out
      rw [hw5] at hRD
      have HW5 := Lib.hid hw5
      have HRD2 := Lib.hid hRD
      clear hR hvs hxx hw5 e0 hRD
      go_wp2_with fail
      refine HRD2.out.mono ?_
      rintro e w6 ⟨rfl, hB6⟩
      rw [← HW5.out] at hB6
      have hlt5 := World.block_lt_of_cell? w5 _ HE0.out
      have e6 := (hB6.cell hlt5).trans HE0.out
      have HB6 := Lib.hid (HB5.out.trans (hB6.mono HB5.out.size))
      have HO6 := Lib.hid (ownT_below HO5.out hB6)
      have HP := Lib.hid (part_any x R HRe.out (some ⟨w6.heap.size, 0, none⟩) 2 (w6.alloc (.cells #[.string x.t, .string R] 9)) (Lib.hid (trmEnv (prw.env_below hE.out (HB6.out.alloc HB6.out.size _)) (tabs_below hT.out (HB6.out.alloc HB6.out.size _)))) (Lib.hid (by
        intro j hj
        refine ⟨_, 0, rfl, ?_⟩
        rw [World.cell?_alloc_new]
        match j, hj with
        | 0, _ => rfl
        | 1, _ => rfl)))
      clear hB6 HRD2
      go_wp2_with fail
      refine HP.out.mono ?_
      rintro e w7 ⟨⟨er, rfl⟩, hB7⟩
      have hB67 : Below w6.heap.size w6 w7 := ((Below.refl w6.heap.size w6).alloc (Nat.le_refl _) _).trans (hB7.mono (by simp))
      have HB7 := Lib.hid (HB6.out.trans (hB67.mono HB6.out.size))
      obtain ⟨ao7, m7, cap7, w8, hap, hO8, _, hB8⟩ := ownT_appG (partB x) (ownT_below HO6.out hB67) (by rw [List.length_map, List.length_take]; omega) HB7.out.size
      have HO8 : Hid (prw.OwnT w8 w.heap.size (.slice ao7 m7 cap7) ((l.take (i + 1)).map partB)) := by
        show prw.OwnT _ _ _ _
        rw [HST.out]
        exact hO8
      have HB8 := Lib.hid (HB7.out.trans hB8)
      clear hB7 hB67 hO8 hB8 HP e6
      go_wp2_with (at_builtin; refine Lib.wpList_append_run _ rfl _ _ _ _ rfl _ _ rfl rfl _ _ hap ?_)
      go_roundw
      case rel => exact ⟨i + 1, by omega, by go_num, HO8, HB8.out⟩
      case measure => simp [intOf] <;> omega
    · obtain rfl : i = m := by omega
      have hO1 := hO.out
      rw [HM.out, List.take_length] at hO1
      have hll : (l.map partB).length ≤ 1000000 := by rw [List.length_map, ← HM.out]; omega
      have CS := Lib.hid (sortT hO1 hll hsz)
      have e1 : ((l.map partB).map (·.data.toList)) = partsL l := by rw [List.map_map]; rfl
      have hkl := keyL_len l
      clear hO1 hll
      go_wp2_with fail
      refine CS.out.mono ?_
      rintro e w2 ⟨rfl, hO2, hB2⟩
      rw [e1] at hO2
      have e2 : ((sortL (partsL l)).map bytes).map (·.data.toList) = sortL (partsL l) := by
        rw [List.map_map]
        conv => rhs; rw [← List.map_id (sortL (partsL l))]
        apply List.map_congr_left
        intro x _
        rfl
      have CJ := joinT hO2 ⟨#[]⟩ (by rw [List.length_map]; unfold sortL partsL; simp; rw [← HM.out]; omega) (by rw [e2]; show (Lib.join _ []).length ≤ _; rw [join_flat]; show (keyL l).length ≤ _; rw [← HM.out] at hkl; omega)
      rw [e2] at CJ
      have CJ' : Calls Tryz.prog 30 #[.slice aoR mR capR, .string ⟨#[]⟩] w2 fun e w' => e = .returned (.string (bytes (keyL l))) ∧ Below w2.heap.size w2 w' := by
        refine CJ.mono fun e w' h => ⟨?_, h.2⟩
        rw [h.1]
        show _ = Ending.returned (.string ⟨(keyL l).toArray⟩)
        have : Lib.join (sortL (partsL l)) (⟨#[]⟩ : ByteArray).data.toList = keyL l := join_flat _
        rw [this]
      have HJ := Lib.hid CJ'
      have HB2 := Lib.hid (hB.trans hB2)
      clear CJ CJ' e1 e2 hkl CS hB2 hO2
      go_wp2_with fail
      refine HJ.out.mono ?_
      rintro e w3 ⟨rfl, hB3⟩
      go_wp2_with fail
      go_ret
      exact ⟨rfl, HB2.out.trans (hB3.mono HB2.out.size)⟩
end dnw
end Go.Proofs.YtjjbmhndakmkbaaGreatDoor
namespace Go.Proofs.YtjjbmhndakmkbaaGreatDoor
open Go.RowKit
namespace dnw
open dnp
set_option linter.unusedVariables false
set_option linter.unusedSimpArgs false
/-- what Keys leaves -/
def KeysE (n : List (List Av)) (w : World) (e : Ending) (w' : World) : Prop :=
  Below w.heap.size w w' ∧ if nameOK n = true then ∃ ao cap, e = .returned (.tuple #[.slice ao n.length cap, .int .i64 0]) ∧ n.length ≤ cap ∧ tupw.Strs w' ao (keysB n) else e = .returned (.tuple #[.slice none 0 0, .int .i64 4])
theorem ownT_strs {w : World} {B : Nat} {ao : Option Addr} {m cap : Nat} {l : List ByteArray} (h : prw.OwnT w B (.slice ao m cap) l) : tupw.Strs w ao l ∧ m = l.length ∧ m ≤ cap := by
  obtain ⟨ao', cap', hv, hc, hcs⟩ := prw.ownT_cells h
  simp only [Value.slice.injEq] at hv
  obtain ⟨rfl, rfl, rfl⟩ := hv
  refine ⟨fun i hi => ?_, rfl, hc⟩
  obtain ⟨g, hg, _, hcell⟩ := hcs (by intro e; rw [e] at hi; simp at hi)
  exact ⟨g, 0, hg, hcell i _ (List.getElem?_eq_getElem hi)⟩
theorem revTake_step (n : List (List Av)) (i : Nat) (hi : i < n.length) : (n.reverse.take (i + 1)).map (fun l => bytes (keyL l)) = (n.reverse.take i).map (fun l => bytes (keyL l)) ++ [bytes (keyL (n[n.length - 1 - i]'(by omega)))] := by
  rw [List.take_succ_eq_append_getElem (by simpa using hi), List.map_append]
  simp only [List.getElem_reverse]
  rfl
set_option maxRecDepth 20000 in
set_option maxHeartbeats 4000000 in
theorem keys_any (ao : Option Addr) (cap : Nat) (n : List (List Av)) (w : World) (hA : Hid (Rdns w ao n)) (hE : Hid (prw.Env w)) (hT : Hid (Tabs w)) (hS : Hid (∀ l ∈ n, l.length ≤ 4 → Smalls l)) :
    Calls Tryz.prog 9 #[.slice ao n.length cap] w fun e w' => KeysE n w e w' := by
  have CR := right_any ao cap n w hA hE hS
  obtain ⟨m, hm⟩ : ∃ m, m = n.length := ⟨_, rfl⟩
  have HM := Lib.hid hm
  rw [← hm] at CR ⊢
  clear hm
  cases hok : nameOK n with
  | false =>
    rw [hok] at CR
    have HC := Lib.hid CR
    have HOK := Lib.hid hok
    clear CR hok
    go_enter Tryz.func9, Tryz.ntmps9
    go_wp2_with fail
    refine HC.out.mono ?_
    rintro e w1 ⟨rfl, hB1⟩
    go_wp2_with fail
    go_ret2
    refine ⟨hB1, ?_⟩
    rw [if_neg (by rw [HOK.out]; simp)]
    rfl
  | true =>
    rw [hok] at CR
    have HC := Lib.hid CR
    have HOK := Lib.hid hok
    have hf := nameOK_facts hok
    have hm12 : m ≤ 12 := by rw [HM.out]; exact hf.1
    have HL := Lib.hid hf.2
    clear CR hok hf
    go_enter Tryz.func9, Tryz.ntmps9
    go_wp2_with fail
    refine HC.out.mono ?_
    rintro e w1 ⟨rfl, hB1⟩
    have HB1 := Lib.hid hB1
    have hsz1 := hB1.size
    clear hB1 HC
    go_wp2_with fail
    go_loopw [4, 5, 11] (fun rv _ iv wr => ∃ (i : Nat), i ≤ m ∧ iv = .int .i64 (i : Int) ∧ Hid (prw.OwnT wr w1.heap.size rv ((n.reverse.take i).map fun l => bytes (keyL l))) ∧ Below w1.heap.size w1 wr) (fun _ _ iv _ => m - (intOf iv).toNat)
    case atStart => exact ⟨0, Nat.zero_le _, rfl, World.ownsRow_nil _ _ _ _, Below.refl _ _⟩
    case round =>
      obtain ⟨i, hi, rfl, hO, hB⟩ := hrel
      have hsz := hB.size
      obtain ⟨aoR, mR, capR, rfl, hmR⟩ := ownT_form hO.out
      by_cases hlt : i < m
      · have hlt' : (i : Int) < (m : Int) := by omega
        have hil : i < n.length := by rw [← HM.out]; exact hlt
        have HBT := Lib.hid (HB1.out.trans (hB.mono hsz1))
        obtain ⟨j, hj⟩ : ∃ j, j = m - 1 - i := ⟨_, rfl⟩
        have hjl : j < n.length := by rw [← HM.out]; omega
        have hjm : (j : Int) < (m : Int) := by omega
        have hj0 : (0 : Int) ≤ (j : Int) := by omega
        have ej : (m : Int) - 1 - (i : Int) = (j : Int) := by omega
        have w1e : IntKind.i64.wrap ((m : Int) - 1) = (m : Int) - 1 := IntWalk.i64_in _ (by omega)
        have w2e : IntKind.i64.wrap ((m : Int) - 1 - (i : Int)) = (j : Int) := by rw [ej]; exact IntWalk.i64_in _ (by omega)
        have HST := revTake_step n i hil
        have hje : n.length - 1 - i = j := by rw [← HM.out]; exact hj.symm
        have HST2 : (n.reverse.take (i + 1)).map (fun l => bytes (keyL l)) = (n.reverse.take i).map (fun l => bytes (keyL l)) ++ [bytes (keyL n[j])] := by
          rw [HST]
          congr 4
          simp only [hje]
        obtain ⟨b, o, ao', cap', hao, hc0, hcc, hAv⟩ := (rdns_below hA.out HBT.out) j hjl
        subst hao
        have hro := HL.out n[j] (List.getElem_mem hjl)
        have CK := key_any ao' cap' n[j] wr (Lib.hid hAv) (Lib.hid (prw.env_below hE.out HBT.out)) (Lib.hid (tabs_below hT.out HBT.out)) hro
        have hst := Lib.hid HST2
        generalize n[j] = l at hc0 CK hst
        obtain ⟨p, hp⟩ : ∃ p, p = l.length := ⟨_, rfl⟩
        rw [← hp] at hc0 CK
        have HCK := Lib.hid CK
        clear CK HST HST2 hje hro hAv hcc hp hj
        go_wp2_with fail
        refine HCK.out.mono ?_
        rintro e w2 ⟨rfl, hB2⟩
        obtain ⟨ao7, m7, cap7, w8, hap, hO8, _, hB8⟩ := ownT_appG (bytes (keyL l)) (ownT_below hO.out hB2) (by rw [List.length_map, List.length_take, List.length_reverse]; omega) (Nat.le_trans hsz hB2.size)
        have HO8 : Hid (prw.OwnT w8 w1.heap.size (.slice ao7 m7 cap7) ((n.reverse.take (i + 1)).map fun l => bytes (keyL l))) := by
          show prw.OwnT _ _ _ _
          rw [hst.out]
          exact hO8
        have HB8 := Lib.hid ((hB.trans (hB2.mono hsz)).trans hB8)
        clear hO8 hB8 hB2 HCK hst
        generalize bytes (keyL l) = KB at hap ⊢
        go_wp2_with (at_builtin; refine Lib.wpList_append_run _ rfl _ _ _ _ rfl _ _ rfl rfl _ _ hap ?_)
        go_roundw
        case rel => exact ⟨i + 1, by omega, by go_num, HO8, HB8.out⟩
        case measure => simp [intOf] <;> omega
      · obtain rfl : i = m := by omega
        have hO1 := hO.out
        rw [HM.out, List.take_of_length_le (by rw [List.length_reverse]; exact Nat.le_refl _)] at hO1
        obtain ⟨hst, hml, hmc⟩ := ownT_strs hO1
        rw [List.length_map, List.length_reverse] at hml
        have HST := Lib.hid hst
        have HML := Lib.hid hml
        clear hO1 hst hml
        go_wp2_with fail
        go_ret2
        refine ⟨HB1.out.trans (hB.mono hsz1), ?_⟩
        rw [if_pos HOK.out]
        have h1 := HML.out
        subst h1
        exact ⟨aoR, capR, rfl, hmc, HST.out⟩
end dnw
end Go.Proofs.YtjjbmhndakmkbaaGreatDoor
namespace Go.Proofs.YtjjbmhndakmkbaaGreatDoor
open Go.RowKit
namespace dnw
open dnp
set_option linter.unusedVariables false
set_option linter.unusedSimpArgs false
theorem eqT {w : World} {a1 a2 : Option Addr} {c d p : Nat} {xs ys : List ByteArray} (h1 : tupw.Strs w a1 xs) (h2 : tupw.Strs w a2 ys) (hp : p ≤ xs.length) (hy : ys.length = p) (hb : p ≤ 1000) :
    Calls Tryz.prog 19 #[.slice a1 p c, .slice a2 p d] w fun e w' => e = .returned (.bool (decide (xs.take p = ys))) ∧ Below w.heap.size w w' := by
  by_cases h0 : p = 0
  · subst h0
    have hys : ys = [] := List.eq_nil_of_length_eq_zero hy
    subst hys
    refine (Tryz.slices_Equal_string_empty a1 a2 c 0 d w (by omega)).mono ?_
    rintro e w' ⟨rfl, h⟩
    have h : w' = w := by first | exact h | exact h.symm
    subst h
    exact ⟨kt.ret_bool (by simp), Below.refl _ _⟩
  · obtain ⟨b1, o1, e1, _⟩ := h1 0 (by omega)
    obtain ⟨b2, o2, e2, _⟩ := h2 0 (by omega)
    subst e1 e2
    have k1 : ∀ j, j < xs.length → w.cell? ⟨b1, o1 + j, none⟩ = some (.string (xs.getD j ByteArray.empty)) := by
      intro j hj
      obtain ⟨b, o, e, hc⟩ := h1 j hj
      cases e
      rw [hc]
      simp [List.getD, List.getElem?_eq_getElem hj]
    have k2 : ∀ j, j < ys.length → w.cell? ⟨b2, o2 + j, none⟩ = some (.string (ys.getD j ByteArray.empty)) := by
      intro j hj
      obtain ⟨b, o, e, hc⟩ := h2 j hj
      cases e
      rw [hc]
      simp [List.getD, List.getElem?_eq_getElem hj]
    refine (Tryz.slices_Equal_string b1 o1 p c b2 o2 p d xs ys w hp (by omega) (by omega) (by omega) k1 k2).mono ?_
    rintro e w' ⟨rfl, q, rfl⟩
    refine ⟨kt.ret_bool ?_, (show Below w.heap.size w (w.drewN q) from ⟨rfl, rfl, rfl, Nat.le_refl _, fun k _ => rfl⟩)⟩
    rw [List.take_of_length_le (l := ys) (by omega)]
set_option maxRecDepth 20000 in
set_option maxHeartbeats 4000000 in
theorem under_any (ao bo : Option Addr) (ca cb : Nat) (n b : List (List Av)) (w : World) (hA : Hid (Rdns w ao n)) (hB : Hid (Rdns w bo b)) (hE : Hid (prw.Env w)) (hT : Hid (Tabs w)) (hS : Hid (∀ l ∈ n, l.length ≤ 4 → Smalls l)) (hSb : Hid (∀ l ∈ b, l.length ≤ 4 → Smalls l)) :
    Calls Tryz.prog 8 #[.slice ao n.length ca, .slice bo b.length cb] w fun e w' => e = .returned (.bool (underR n b)) ∧ Below w.heap.size w w' := by
  have CK := keys_any ao ca n w hA hE hT hS
  have CKb : Hid (∀ W, Below w.heap.size w W → Calls Tryz.prog 9 #[.slice bo b.length cb] W fun e w' => KeysE b W e w') := fun W hb => keys_any bo cb b W (Lib.hid (rdns_below hB.out hb)) (Lib.hid (prw.env_below hE.out hb)) (Lib.hid (tabs_below hT.out hb)) hSb
  obtain ⟨m, hm⟩ : ∃ m, m = n.length := ⟨_, rfl⟩
  obtain ⟨p, hp⟩ : ∃ p, p = b.length := ⟨_, rfl⟩
  have HM := Lib.hid hm
  have HP := Lib.hid hp
  rw [← hm] at CK ⊢
  rw [← hp] at CKb ⊢
  have HB2 : Hid (∀ W, Below w.heap.size w W → nameOK b = false → Calls Tryz.prog 9 #[.slice bo p cb] W fun e w' => Below W.heap.size W w' ∧ e = .returned (.tuple #[.slice none 0 0, .int .i64 4])) := by
    intro W hb h
    refine (CKb.out W hb).mono fun e w' h2 => ?_
    unfold KeysE at h2
    rw [if_neg (by rw [h]; simp)] at h2
    exact h2
  have HB3 : Hid (∀ W, Below w.heap.size w W → nameOK b = true → Calls Tryz.prog 9 #[.slice bo p cb] W fun e w' => Below W.heap.size W w' ∧ ∃ ao cap, e = .returned (.tuple #[.slice ao p cap, .int .i64 0]) ∧ tupw.Strs w' ao (keysB b)) := by
    intro W hb h
    refine (CKb.out W hb).mono fun e w' h2 => ?_
    unfold KeysE at h2
    rw [if_pos h, ← hp] at h2
    obtain ⟨h3, ao, cap, h4, _, h5⟩ := h2
    exact ⟨h3, ao, cap, h4, h5⟩
  cases hok : nameOK n with
  | false =>
    have HC : Hid (Calls Tryz.prog 9 #[.slice ao m ca] w fun e w' => Below w.heap.size w w' ∧ e = .returned (.tuple #[.slice none 0 0, .int .i64 4])) := by
      refine CK.mono fun e w' h2 => ?_
      unfold KeysE at h2
      rw [if_neg (by rw [hok]; simp)] at h2
      exact h2
    have HU : Hid (false = underR n b) := by show _ = _; unfold underR; rw [hok]; rfl
    clear CK CKb hok hm hp
    cases hob : nameOK b with
    | false =>
      have HD := Lib.hid (fun W hb => HB2.out W hb hob)
      clear hob HB2 HB3
      go_enter Tryz.func8, Tryz.ntmps8
      go_wp2_with fail
      refine HC.out.mono ?_
      rintro e w1 ⟨hB1, rfl⟩
      have HD2 := Lib.hid (HD.out w1 hB1)
      go_wp2_with fail
      refine HD2.out.mono ?_
      rintro e w2 ⟨hB2, rfl⟩
      go_wp2_with fail
      go_ret
      exact ⟨kt.ret_bool HU.out, hB1.trans (hB2.mono hB1.size)⟩
    | true =>
      have HD := Lib.hid (fun W hb => HB3.out W hb hob)
      clear hob HB2 HB3
      go_enter Tryz.func8, Tryz.ntmps8
      go_wp2_with fail
      refine HC.out.mono ?_
      rintro e w1 ⟨hB1, rfl⟩
      have HD2 := Lib.hid (HD.out w1 hB1)
      go_wp2_with fail
      refine HD2.out.mono ?_
      rintro e w2 ⟨hB2, bo2, cb2, rfl, _⟩
      go_wp2_with fail
      go_ret
      exact ⟨kt.ret_bool HU.out, hB1.trans (hB2.mono hB1.size)⟩
  | true =>
    have HC : Hid (Calls Tryz.prog 9 #[.slice ao m ca] w fun e w' => Below w.heap.size w w' ∧ ∃ ao cap, e = .returned (.tuple #[.slice ao m cap, .int .i64 0]) ∧ m ≤ cap ∧ tupw.Strs w' ao (keysB n)) := by
      refine CK.mono fun e w' h2 => ?_
      unfold KeysE at h2
      rw [if_pos hok, ← hm] at h2
      exact h2
    cases hob : nameOK b with
    | false =>
      have HU : Hid (false = underR n b) := by show _ = _; unfold underR; rw [hok, hob]; rfl
      have HD := Lib.hid (fun W hb => HB2.out W hb hob)
      clear hob HB2 HB3 CK CKb hok hm hp
      go_enter Tryz.func8, Tryz.ntmps8
      go_wp2_with fail
      refine HC.out.mono ?_
      rintro e w1 ⟨hB1, ao2, ca2, rfl, hmc, hS1⟩
      have HD2 := Lib.hid (HD.out w1 hB1)
      clear hS1
      go_wp2_with fail
      refine HD2.out.mono ?_
      rintro e w2 ⟨hB2, rfl⟩
      go_wp2_with fail
      go_ret
      exact ⟨kt.ret_bool HU.out, hB1.trans (hB2.mono hB1.size)⟩
    | true =>
      have HD := Lib.hid (fun W hb => HB3.out W hb hob)
      have hm12 : m ≤ 12 := by rw [hm]; exact (nameOK_facts hok).1
      have hp12 : p ≤ 12 := by rw [hp]; exact (nameOK_facts hob).1
      by_cases hpm : p ≤ m
      · have hpm' : (p : Int) ≤ (m : Int) := by omega
        have HU : Hid (decide ((keysB n).take p = keysB b) = underR n b) := by
          show _ = _
          unfold underR
          rw [hok, hob, ← hp, ← hm, decide_eq_true hpm]; rfl
        have hnl : p ≤ (keysB n).length := by rw [keysB_len, ← hm]; exact hpm
        have hbl : (keysB b).length = p := by rw [keysB_len, ← hp]
        have HEQ : Hid (∀ W a1 c a2 d, tupw.Strs W a1 (keysB n) → tupw.Strs W a2 (keysB b) → Calls Tryz.prog 19 #[.slice a1 p c, .slice a2 p d] W fun e w' => e = .returned (.bool (underR n b)) ∧ Below W.heap.size W w') := by
          intro W a1 c a2 d h1 h2
          have := eqT (c := c) (d := d) h1 h2 hnl hbl (by omega)
          rw [HU.out] at this
          exact this
        clear hob HB2 HB3 CK CKb hok hm hp hnl hbl
        go_enter Tryz.func8, Tryz.ntmps8
        go_wp2_with fail
        refine HC.out.mono ?_
        rintro e w1 ⟨hB1, ao2, ca2, rfl, hmc, hS1⟩
        have HD2 := Lib.hid (HD.out w1 hB1)
        have HS1 := Lib.hid hS1
        have hpc : (p : Int) ≤ (ca2 : Int) := by omega
        clear hS1
        go_wp2_with fail
        refine HD2.out.mono ?_
        rintro e w2 ⟨hB2, bo2, cb2, rfl, hS2⟩
        have HS1' := Lib.hid (tupw.strs_below HS1.out hB2)
        have HS2 := Lib.hid hS2
        have HBW := Lib.hid (hB1.trans (hB2.mono hB1.size))
        clear hS2 hB1 hB2
        go_wp2_with fail
        refine (HEQ.out _ _ _ _ _ HS1'.out HS2.out).mono ?_
        rintro e w3 ⟨rfl, hB3⟩
        go_wp2_with fail
        go_ret
        exact ⟨rfl, HBW.out.trans (hB3.mono HBW.out.size)⟩
      · have hpm' : ¬ (p : Int) ≤ (m : Int) := by omega
        have HU : Hid (false = underR n b) := by
          show _ = _
          unfold underR
          rw [hok, hob, ← hp, ← hm, decide_eq_false hpm]; rfl
        clear hob HB2 HB3 CK CKb hok hm hp
        go_enter Tryz.func8, Tryz.ntmps8
        go_wp2_with fail
        refine HC.out.mono ?_
        rintro e w1 ⟨hB1, ao2, ca2, rfl, hmc, hS1⟩
        have HD2 := Lib.hid (HD.out w1 hB1)
        clear hS1
        go_wp2_with fail
        refine HD2.out.mono ?_
        rintro e w2 ⟨hB2, bo2, cb2, rfl, _⟩
        go_wp2_with fail
        go_ret
        exact ⟨kt.ret_bool HU.out, hB1.trans (hB2.mono hB1.size)⟩
set_option maxRecDepth 20000 in
theorem same_any (ao bo : Option Addr) (ca cb : Nat) (n b : List (List Av)) (w : World) (hA : Hid (Rdns w ao n)) (hB : Hid (Rdns w bo b)) (hE : Hid (prw.Env w)) (hT : Hid (Tabs w)) (hS : Hid (∀ l ∈ n, l.length ≤ 4 → Smalls l)) (hSb : Hid (∀ l ∈ b, l.length ≤ 4 → Smalls l)) :
    Calls Tryz.prog 13 #[.slice ao n.length ca, .slice bo b.length cb] w fun e w' => e = .returned (.bool (sameR n b)) ∧ Below w.heap.size w w' := by
  have CU := under_any ao bo ca cb n b w hA hB hE hT hS hSb
  obtain ⟨m, hm⟩ : ∃ m, m = n.length := ⟨_, rfl⟩
  obtain ⟨p, hp⟩ : ∃ p, p = b.length := ⟨_, rfl⟩
  have hU : sameR n b = (decide (m = p) && underR n b) := by unfold sameR; rw [← hm, ← hp]
  rw [← hm, ← hp] at CU ⊢
  generalize underR n b = u at CU hU
  rw [hU]
  have HC := Lib.hid CU
  clear hm hp hU CU
  by_cases h : m = p
  · subst h
    have HR : Hid (u = (decide (m = m) && u)) := by show _ = _; simp
    have q : ((m : Int) == (m : Int)) = true := by rw [beq_iff_eq]
    go_enter Tryz.func13, Tryz.ntmps13
    go_wp2_with fail
    refine HC.out.mono ?_
    rintro e w1 ⟨rfl, hB1⟩
    go_wp2_with fail
    go_ret
    exact ⟨kt.ret_bool HR.out, hB1⟩
  · have HR : Hid (false = (decide (m = p) && u)) := by show _ = _; rw [decide_eq_false h]; rfl
    have q : ((m : Int) == (p : Int)) = false := by rw [beq_eq_false_iff_ne]; omega
    clear h
    go_enter Tryz.func13, Tryz.ntmps13
    go_wp2_with fail
    go_ret
    exact ⟨kt.ret_bool HR.out, Below.refl _ _⟩
end dnw
end Go.Proofs.YtjjbmhndakmkbaaGreatDoor
namespace Go.Proofs.YtjjbmhndakmkbaaGreatDoor
open Go.RowKit
namespace tup
theorem esc_append (a b : List UInt8) : esc (a ++ b) = esc a ++ esc b := by
  induction a with
  | nil => rfl
  | cons c a ih =>
    show esc (c :: (a ++ b)) = _
    simp only [esc, ih]
    split <;> simp
end tup
namespace prt
open tupw
def OwnB (w : World) (B : Nat) (v : Value) (l : List UInt8) : Prop := w.ownsRow B 5 1 v (Lib.byteCells l).length (Lib.byteCells l)
theorem ownb_app {w : World} {B : Nat} {v : Value} {l : List UInt8} (h : OwnB w B v l) (x : UInt8) (hl : l.length ≤ 1000000) (hB : B ≤ w.heap.size) :
    ∃ v' w1, (Builtin.append_ #[61, 61] 61 #[v, .slice (some ⟨w.heap.size, 0, none⟩) 1 1]).run Tryz.prog (w.alloc (.cells #[.int .u8 (x.toNat : Int)] 5)) = .ok v' w1 ∧ OwnB w1 B v' (l ++ [x]) ∧ w.grownBy w1 v.ownBlock ∧ Below B w w1 := by
  obtain ⟨v', w1, h1, h2, h3, h4⟩ := kt.app1 (P := Tryz.prog) (ty := 61) (w := w) Tryz.underlying61 bld.infoByte rfl (.int .u8 (x.toNat : Int)) rfl h (by rw [Lib.byteCells_length]; unfold maxLen; omega) (by rw [Lib.byteCells_length]; omega) hB
  refine ⟨v', w1, h1, ?_, h3, h4⟩
  unfold OwnB
  rw [Lib.byteCells_append]
  exact h2
theorem ownb_new (w : World) (B : Nat) (hB : B ≤ w.heap.size) : OwnB (w.alloc (.cells #[] 5)) B (.slice (some ⟨w.heap.size, 0, none⟩) 0 0) [] :=
  World.ownsRow_made w #[] 0 hB (by unfold maxLen; omega) rfl
end prt
namespace fldw
theorem infoByte : (Tryz.prog.info? 5).map (fun i => (i.zero, i.size, i.bytes)) = some (some (.int .u8 0), 1, 1) := bld.infoByte
end fldw
end Go.Proofs.YtjjbmhndakmkbaaGreatDoor
namespace Go.Proofs.YtjjbmhndakmkbaaGreatDoor
open Go.RowKit
namespace tupr
open tupw prt
/-- the reference's row while part i is laid, k bytes of it done -/
def Inv (l : List ByteArray) (i : Nat) (done : List UInt8) (b : List UInt8) : Prop :=
  b = tup.bytes (l.take i) ++ tup.esc done ∨ (4096 < b.length ∧ 4096 < (tup.bytes l).length)
theorem bytes_at (l : List ByteArray) (i : Nat) (h : i < l.length) : tup.bytes l = tup.bytes (l.take i) ++ (tup.esc l[i].data.toList ++ [0, 1] ++ tup.bytes (l.drop (i + 1))) := by
  have e : l = l.take i ++ (l[i] :: l.drop (i + 1)) := by
    rw [← List.drop_eq_getElem_cons h, List.take_append_drop]
  conv => lhs; rw [e]
  rw [tup.bytes_append, tup.bytes]
theorem esc_take (p : List UInt8) (k : Nat) : (tup.esc (p.take k)).length ≤ (tup.esc p).length := by
  conv => rhs; rw [← List.take_append_drop k p, tup.esc_append]
  simp
theorem inv_step {l : List ByteArray} {i k : Nat} {b : List UInt8} (h : i < l.length) (hk : k < l[i].size) (hI : Inv l i (l[i].data.toList.take k) b) (hb : b.length ≤ 4096) :
    Inv l i (l[i].data.toList.take (k + 1)) (b ++ (if l[i][k] = 0 then [0, 255] else [l[i][k]])) := by
  rcases hI with rfl | ⟨h1, _⟩
  · left
    rw [kt.take_snoc _ k hk, tup.esc_append, List.append_assoc]
    simp [tup.esc]
  · omega
theorem inv_done {l : List ByteArray} {i k : Nat} {b : List UInt8} (h : i < l.length) (hI : Inv l i (l[i].data.toList.take k) b) (hb : ¬ (k < l[i].size ∧ b.length ≤ 4096)) : Inv l (i + 1) [] (b ++ [0, 1]) := by
  have hat := bytes_at l i h
  rcases hI with rfl | ⟨h1, h2⟩
  · by_cases hk : k < l[i].size
    · right
      have hlen : ¬ (tup.bytes (l.take i) ++ tup.esc (l[i].data.toList.take k)).length ≤ 4096 := fun hh => hb ⟨hk, hh⟩
      have he := esc_take l[i].data.toList k
      rw [hat]
      simp only [List.length_append] at hlen ⊢
      omega
    · left
      rw [show l[i].data.toList.take k = l[i].data.toList from List.take_of_length_le (by rw [kt.size_len]; omega), List.take_succ_eq_append_getElem h, tup.bytes_append]
      simp [tup.bytes, tup.esc]
  · right
    simp only [List.length_append]
    omega
theorem inv_end {l : List ByteArray} {b : List UInt8} (hI : Inv l l.length [] b) (h16 : ¬ 16 < l.length) : tup.out l = if 4096 < b.length then (⟨#[]⟩, 5) else (⟨b.toArray⟩, 0) := by
  unfold tup.out
  rw [if_neg h16]
  rcases hI with rfl | ⟨h1, h2⟩
  · rw [List.take_of_length_le (Nat.le_refl _)]
    simp [tup.esc]
  · rw [if_pos h2, if_pos h1]
theorem ownb_app2 {w : World} {B : Nat} {v : Value} {l : List UInt8} (h : OwnB w B v l) (x y : UInt8) (hl : l.length ≤ 1000000) (hB : B ≤ w.heap.size) :
    ∃ v' w1, (Builtin.append_ #[61, 61] 61 #[v, .slice (some ⟨w.heap.size, 0, none⟩) 2 2]).run Tryz.prog (w.alloc (.cells #[.int .u8 (x.toNat : Int), .int .u8 (y.toNat : Int)] 5)) = .ok v' w1 ∧ OwnB w1 B v' (l ++ [x, y]) ∧ w.grownBy w1 v.ownBlock ∧ Below B w w1 := by
  obtain ⟨v', w1, h1, h2, h3, h4⟩ := kt.app2 (P := Tryz.prog) (ty := 61) (w := w) Tryz.underlying61 fldw.infoByte rfl (.int .u8 (x.toNat : Int)) (.int .u8 (y.toNat : Int)) rfl rfl h (by rw [Lib.byteCells_length]; unfold maxLen; omega) (by rw [Lib.byteCells_length]; omega) hB
  refine ⟨v', w1, h1, ?_, h3, h4⟩
  unfold OwnB
  rw [Lib.byteCells_append]
  exact h2
theorem ownb_len {w : World} {B : Nat} {v : Value} {l : List UInt8} (h : OwnB w B v l) : ∃ ao cap, v = .slice ao l.length cap := by
  obtain ⟨ao, cap, hv, _⟩ := kt.row_slice h
  rw [Lib.byteCells_length] at hv
  exact ⟨ao, cap, hv⟩
set_option maxRecDepth 20000 in
set_option maxHeartbeats 2000000 in
theorem rtuple_any (ao : Option Addr) (cap : Nat) (l : List ByteArray) (w : World) (hl : Hid (Strs w ao l)) (hsm : Hid (∀ p ∈ l, p.size ≤ 1000000)) :
    Calls Tryz.prog 24 #[.slice ao l.length cap] w fun e w' => e = .returned (tupV (tup.out l)) ∧ Below w.heap.size w w' := by
  by_cases c16 : 16 < l.length
  · have hp : tup.out l = (⟨#[]⟩, 1) := by unfold tup.out; rw [if_pos c16]
    have HP := Lib.hid hp
    clear hp
    have c16' : 16 < (l.length : Int) := by omega
    go_enter Tryz.func24, Tryz.ntmps24
    go_wp2_with fail
    go_ret2
    exact ⟨by rw [HP.out]; rfl, Below.refl _ _⟩
  · have c16' : ¬ 16 < (l.length : Int) := by omega
    go_enter Tryz.func24, Tryz.ntmps24
    go_wp2_with fail
    go_loopw [4, 5] (fun bv iv wr => ∃ (i : Nat) (b : List UInt8), i ≤ l.length ∧ iv = .int .i64 i ∧ Hid (Inv l i [] b) ∧ b.length ≤ 4098 + 2 * i ∧ Hid (OwnB wr w.heap.size bv b) ∧ Below w.heap.size w wr) (fun _ iv _ => l.length - (intOf iv).toNat)
    case atStart => exact ⟨0, [], Nat.zero_le _, rfl, Or.inl rfl, by simp, ownb_new w _ (Nat.le_refl _), (Below.refl _ _).alloc (Nat.le_refl _) _⟩
    case round =>
      obtain ⟨i, b, hi, rfl, hI, hbl, hOB, hB⟩ := hrel
      have hsz := hB.size
      by_cases hil : i < l.length
      · have hil' : (i : Int) < (l.length : Int) := by omega
        obtain ⟨p, hp⟩ : ∃ p : ByteArray, Hid (p = l[i]'hil) := ⟨l[i]'hil, rfl⟩
        have hps : p.size ≤ 1000000 := by rw [hp.out]; exact hsm.out _ (List.getElem_mem hil)
        obtain ⟨bl, of, hao, hc0⟩ := hl.out i hil
        rw [← hp.out] at hc0
        subst hao
        have hI0 : Hid (Inv l i (p.data.toList.take 0) b) := hI
        clear hI
        go_wp2_with fail
        go_loopw [4, 6] (fun bv kv wr => ∃ (k : Nat) (b : List UInt8), k ≤ p.size ∧ kv = .int .i64 k ∧ Hid (Inv l i (p.data.toList.take k) b) ∧ b.length ≤ 4098 + 2 * i ∧ Hid (OwnB wr w.heap.size bv b) ∧ Below w.heap.size w wr) (fun _ kv _ => p.size - (intOf kv).toNat)
        case atStart => exact ⟨0, b, Nat.zero_le _, rfl, hI0, hbl, hOB, hB⟩
        case round =>
          clear hI0 hOB hB hbl hsz
          obtain ⟨k, b, hk, rfl, hI, hbl, hOB, hB⟩ := hrel
          have hsz := hB.size
          have hc := (hB.cell (World.block_lt_of_cell? w _ hc0)).trans hc0
          obtain ⟨ao2, cap2, rfl⟩ := ownb_len hOB.out
          by_cases hgo : k < p.size ∧ b.length ≤ 4096
          · obtain ⟨hkp, hb4⟩ := hgo
            have hkp' : (k : Int) < (p.size : Int) := by omega
            have hb4' : (b.length : Int) ≤ 4096 := by omega
            obtain ⟨c, hcc⟩ : ∃ c : UInt8, Hid (c = p[k]'hkp) := ⟨p[k]'hkp, rfl⟩
            have ec : (p[k]'hkp).toNat = c.toNat := by rw [hcc.out]
            have hst : Inv l i (p.data.toList.take (k + 1)) (b ++ (if c = 0 then [0, 255] else [c])) := by
              have hpe := hp.out
              subst hpe
              have hce := hcc.out
              subst hce
              exact inv_step hil hkp hI.out hb4
            obtain ⟨v1, w1, hap, hO1, hgr, hB1⟩ := ownb_app hOB.out c (by omega) hsz
            have hs1 := hB1.size
            have hc1 := (hB1.cell (p := ⟨bl, of + i, none⟩) (World.block_lt_of_cell? w _ hc0)).trans hc
            by_cases c0 : c = 0
            · subst c0
              rw [if_pos rfl] at hst
              have HI2 := Lib.hid hst
              have ec' : (p[k]'hkp).toNat = 0 := ec
              clear hst ec hI
              obtain ⟨v2, w2, hap2, hO2, hgr2, hB2⟩ := ownb_app hO1 255 (by simp; omega) (Nat.le_trans hsz hs1)
              rw [List.append_assoc] at hO2
              have HO2 := Lib.hid hO2
              clear hO2 hgr hgr2 hO1
              change (Builtin.append_ _ _ #[_, .slice (some ⟨wr.heap.size, 0, none⟩) 1 1]).run _ (wr.alloc (.cells #[.int .u8 0] 5)) = .ok v1 w1 at hap
              change (Builtin.append_ _ _ #[_, .slice (some ⟨w1.heap.size, 0, none⟩) 1 1]).run _ (w1.alloc (.cells #[.int .u8 255] 5)) = .ok v2 w2 at hap2
              go_wp2_with (at_builtin; first | refine Lib.wpList_append_run _ rfl _ _ _ _ rfl _ _ rfl rfl _ _ hap ?_ | refine Lib.wpList_append_run _ rfl _ _ _ _ rfl _ _ rfl rfl _ _ hap2 ?_)
              go_roundw
              case rel => exact ⟨k + 1, b ++ [0, 255], by omega, by go_num, HI2, by simp; omega, HO2, (hB.trans hB1).trans hB2⟩
              case measure => simp [intOf]; omega
            · have n0 : ((c.toNat : Int) == 0) = false := by
                rw [beq_eq_false_iff_ne]
                intro h
                exact c0 (UInt8.toNat_inj.1 (by simpa using h))
              rw [if_neg c0] at hst
              have HI2 := Lib.hid hst
              have HO1 := Lib.hid hO1
              clear hst hI hO1 hgr
              go_wp2_with (at_builtin; refine Lib.wpList_append_run _ rfl _ _ _ _ rfl _ _ rfl rfl _ _ hap ?_)
              go_roundw
              case rel => exact ⟨k + 1, b ++ [c], by omega, by go_num, HI2, by simp; omega, HO1, hB.trans hB1⟩
              case measure => simp [intOf]; omega
          · have hdn : Inv l (i + 1) [] (b ++ [0, 1]) := by
              have hpe := hp.out
              subst hpe
              exact inv_done hil hI.out hgo
            have HI2 := Lib.hid hdn
            obtain ⟨v1, w1, hap, hO1, hgr, hB1⟩ := ownb_app2 hOB.out 0 1 (by omega) hsz
            have HO1 := Lib.hid hO1
            clear hdn hI hO1 hgr
            change (Builtin.append_ _ _ #[_, .slice (some ⟨wr.heap.size, 0, none⟩) 2 2]).run _ (wr.alloc (.cells #[.int .u8 0, .int .u8 1] 5)) = .ok v1 w1 at hap
            by_cases hkp : k < p.size
            · have hkp' : (k : Int) < (p.size : Int) := by omega
              have hb4' : ¬ (b.length : Int) ≤ 4096 := by omega
              go_wp2_with (at_builtin; refine Lib.wpList_append_run _ rfl _ _ _ _ rfl _ _ rfl rfl _ _ hap ?_)
              go_roundw
              case rel => exact ⟨i + 1, b ++ [0, 1], by omega, by go_num, HI2, by simp; omega, HO1, hB.trans hB1⟩
              case measure => simp [intOf]; omega
            · have hkp' : ¬ (k : Int) < (p.size : Int) := by omega
              go_wp2_with (at_builtin; refine Lib.wpList_append_run _ rfl _ _ _ _ rfl _ _ rfl rfl _ _ hap ?_)
              go_roundw
              case rel => exact ⟨i + 1, b ++ [0, 1], by omega, by go_num, HI2, by simp; omega, HO1, hB.trans hB1⟩
              case measure => simp [intOf]; omega
      · obtain rfl : i = l.length := by omega
        have hil' : ¬ (l.length : Int) < (l.length : Int) := by omega
        obtain ⟨ao2, cap2, rfl⟩ := ownb_len hOB.out
        have ho := inv_end hI.out c16
        by_cases hb4 : 4096 < b.length
        · have hb4' : 4096 < (b.length : Int) := by omega
          rw [if_pos hb4] at ho
          have HO := Lib.hid ho
          clear ho hI
          go_wp2_with fail
          go_ret2
          exact ⟨by rw [HO.out]; rfl, hB⟩
        · have hb4' : ¬ 4096 < (b.length : Int) := by omega
          rw [if_neg hb4] at ho
          obtain ⟨q, hq⟩ : ∃ q : ByteArray, Hid (q = ⟨b.toArray⟩) := ⟨_, rfl⟩
          have hst := kt.str_of_row (P := Tryz.prog) (dst := 9) Tryz.underlying61 Tryz.underlying5 Tryz.underlying9 hOB.out
          rw [← hq.out] at ho hst
          have HO := Lib.hid ho
          clear ho hI
          go_wp2_with fail
          go_ret2
          exact ⟨by rw [HO.out]; rfl, hB⟩
end tupr
end Go.Proofs.YtjjbmhndakmkbaaGreatDoor
namespace Go.Proofs.YtjjbmhndakmkbaaGreatDoor
namespace ord
open Go.Lib
theorem cmp_nil_cons (a : UInt8) (s : List UInt8) : compareBytes [] (a :: s) = -1 := rfl
theorem cmp_cons_nil (a : UInt8) (s : List UInt8) : compareBytes (a :: s) [] = 1 := rfl
theorem cmp_cons (a b : UInt8) (s t : List UInt8) : compareBytes (a :: s) (b :: t) = if a < b then -1 else if b < a then 1 else compareBytes s t := rfl
theorem cmp_same (a : UInt8) (s t : List UInt8) : compareBytes (a :: s) (a :: t) = compareBytes s t := by
  rw [cmp_cons]
  simp
theorem cmp_lt {a b : UInt8} (h : a < b) (s t : List UInt8) : compareBytes (a :: s) (b :: t) = -1 := by
  rw [cmp_cons, if_pos h]
theorem cmp_gt {a b : UInt8} (h : b < a) (s t : List UInt8) : compareBytes (a :: s) (b :: t) = 1 := by
  rw [cmp_cons, if_neg (fun h' => absurd h (by
    have h1 := UInt8.lt_iff_toNat_lt.1 h'
    intro h2
    have h3 := UInt8.lt_iff_toNat_lt.1 h2
    omega)), if_pos h]
theorem cmp_cases (a b : UInt8) : a < b ∨ b < a ∨ a = b := by
  rcases Nat.lt_trichotomy a.toNat b.toNat with h | h | h
  · exact Or.inl (UInt8.lt_iff_toNat_lt.2 h)
  · exact Or.inr (Or.inr (UInt8.toNat_inj.1 h))
  · exact Or.inr (Or.inl (UInt8.lt_iff_toNat_lt.2 h))
theorem cmp_three : ∀ a b : List UInt8, compareBytes a b = -1 ∨ compareBytes a b = 0 ∨ compareBytes a b = 1
  | [], [] => Or.inr (Or.inl rfl)
  | [], _ :: _ => Or.inl rfl
  | _ :: _, [] => Or.inr (Or.inr rfl)
  | a :: s, b :: t => by
    rcases cmp_cases a b with h | h | rfl
    · exact Or.inl (cmp_lt h s t)
    · exact Or.inr (Or.inr (cmp_gt h s t))
    · rw [cmp_same]; exact cmp_three s t
theorem cmp_neg : ∀ a b : List UInt8, compareBytes b a = - compareBytes a b
  | [], [] => rfl
  | [], _ :: _ => rfl
  | _ :: _, [] => rfl
  | a :: s, b :: t => by
    rcases cmp_cases a b with h | h | rfl
    · rw [cmp_lt h, cmp_gt h]; rfl
    · rw [cmp_gt h, cmp_lt h]
    · rw [cmp_same, cmp_same]; exact cmp_neg s t
theorem cmp_end (a b : List UInt8) (i : Nat) (hi : i ≤ a.length) (hb : i ≤ b.length) (h : a.length ≤ i ∨ b.length ≤ i) : compareBytes (a.drop i) (b.drop i) = if a.length < b.length then -1 else if b.length < a.length then 1 else 0 := by
  by_cases h1 : a.length ≤ i
  · rw [List.drop_eq_nil_of_le h1]
    by_cases h2 : b.length ≤ i
    · rw [List.drop_eq_nil_of_le h2, if_neg (by omega), if_neg (by omega)]
      rfl
    · rw [List.drop_eq_getElem_cons (by omega), if_pos (by omega)]
      rfl
  · rw [List.drop_eq_nil_of_le (show b.length ≤ i by omega), List.drop_eq_getElem_cons (by omega), if_neg (by omega), if_pos (by omega)]
    rfl
end ord
end Go.Proofs.YtjjbmhndakmkbaaGreatDoor
namespace Go.Proofs.YtjjbmhndakmkbaaGreatDoor
open Go.RowKit
namespace ordw
open ord
theorem dr (s : ByteArray) (k : Nat) (h : k < s.size) : s.data.toList.drop k = s[k] :: s.data.toList.drop (k + 1) := by
  rw [List.drop_eq_getElem_cons (by rw [kt.size_len]; exact h)]
  rfl
set_option maxHeartbeats 1000000 in
theorem less_any (a b : ByteArray) (w : World) (ha : a.size ≤ 1000000) :
    Calls Tryz.prog 25 #[.string a, .string b] w fun e w' => e = .returned (.int .i64 (Lib.compareBytes a.data.toList b.data.toList)) ∧ ∃ n, w' = w.drewN n := by
  go_enter Tryz.func25, Tryz.ntmps25
  go_wp2_with fail
  go_loopw [5] (fun iv wr => ∃ (i : Nat), i ≤ a.size ∧ i ≤ b.size ∧ iv = .int .i64 i ∧ Hid (Lib.compareBytes a.data.toList b.data.toList = Lib.compareBytes (a.data.toList.drop i) (b.data.toList.drop i)) ∧ ∃ n, wr = w.drewN n) (fun iv _ => a.size - (intOf iv).toNat)
  case atStart => exact ⟨0, Nat.zero_le _, Nat.zero_le _, rfl, rfl, 0, rfl⟩
  case round =>
    obtain ⟨i, hia, hib, rfl, hE, n, rfl⟩ := hrel
    by_cases h : i < a.size ∧ i < b.size
    · obtain ⟨h1, h2⟩ := h
      have h1' : (i : Int) < (a.size : Int) := by omega
      have h2' : (i : Int) < (b.size : Int) := by omega
      obtain ⟨x, hx⟩ : ∃ x : UInt8, Hid (x = a[i]'h1) := ⟨a[i]'h1, rfl⟩
      obtain ⟨y, hy⟩ : ∃ y : UInt8, Hid (y = b[i]'h2) := ⟨b[i]'h2, rfl⟩
      have ex : (a[i]'h1).toNat = x.toNat := by rw [hx.out]
      have ey : (b[i]'h2).toNat = y.toNat := by rw [hy.out]
      have he := hE.out
      rw [dr a i h1, dr b i h2, ← hx.out, ← hy.out] at he
      rcases cmp_cases x y with c | c | c
      · rw [cmp_lt c] at he
        have HE := Lib.hid he
        have c' : (x.toNat : Int) < (y.toNat : Int) := by have := UInt8.lt_iff_toNat_lt.1 c; omega
        clear he c
        go_wp2_with fail
        go_quiet (fail)
        go_wp2_with fail
        go_ret
        exact ⟨by rw [HE.out]; rfl, _, World.drewN_drewN _ _ _⟩
      · rw [cmp_gt c] at he
        have HE := Lib.hid he
        have c' : ¬ (x.toNat : Int) < (y.toNat : Int) := by have := UInt8.lt_iff_toNat_lt.1 c; omega
        have c'' : (y.toNat : Int) < (x.toNat : Int) := by have := UInt8.lt_iff_toNat_lt.1 c; omega
        clear he c
        go_wp2_with fail
        go_quiet (fail)
        go_wp2_with fail
        go_quiet (fail)
        go_wp2_with fail
        go_ret
        exact ⟨by rw [HE.out]; rfl, _, by rw [World.drewN_drewN, World.drewN_drewN]⟩
      · subst c
        rw [cmp_same] at he
        have HE := Lib.hid he
        have c' : ¬ (x.toNat : Int) < (x.toNat : Int) := by omega
        have hh1 := Lib.hid h1
        have hh2 := Lib.hid h2
        clear he
        go_wp2_with fail
        go_quiet (fail)
        go_wp2_with fail
        go_quiet (fail)
        go_wp2_with fail
        go_roundw
        case rel => exact ⟨i + 1, hh1.out, hh2.out, by go_num, HE, _, rfl⟩
        case measure =>
          have := hh1.out
          simp [intOf]; omega
    · have he := hE.out
      rw [cmp_end _ _ i (by rw [kt.size_len]; exact hia) (by rw [kt.size_len]; exact hib) (by rw [kt.size_len, kt.size_len]; omega), kt.size_len, kt.size_len] at he
      have hq : (decide ((i : Int) < (a.size : Int)) && decide ((i : Int) < (b.size : Int))) = false := by
        rw [Bool.and_eq_false_iff, decide_eq_false_iff_not, decide_eq_false_iff_not]
        omega
      by_cases l1 : a.size < b.size
      · rw [if_pos l1] at he
        have HE := Lib.hid he
        have l1' : (a.size : Int) < (b.size : Int) := by omega
        have i1 : ¬ (i : Int) < (a.size : Int) := by omega
        clear he h
        go_wp2_with fail
        go_ret
        exact ⟨by rw [HE.out]; rfl, _, rfl⟩
      · rw [if_neg l1] at he
        have l1' : ¬ (a.size : Int) < (b.size : Int) := by omega
        by_cases l2 : b.size < a.size
        · rw [if_pos l2] at he
          have HE := Lib.hid he
          have l2' : (b.size : Int) < (a.size : Int) := by omega
          have i1 : (i : Int) < (a.size : Int) := by omega
          have i2 : ¬ (i : Int) < (b.size : Int) := by omega
          clear he h
          go_wp2_with fail
          go_ret
          exact ⟨by rw [HE.out]; rfl, _, rfl⟩
        · rw [if_neg l2] at he
          have HE := Lib.hid he
          have l2' : ¬ (b.size : Int) < (a.size : Int) := by omega
          have i1 : ¬ (i : Int) < (a.size : Int) := by omega
          clear he h
          go_wp2_with fail
          go_ret
          exact ⟨by rw [HE.out]; rfl, _, rfl⟩
end ordw
end Go.Proofs.YtjjbmhndakmkbaaGreatDoor
namespace Go.Proofs.YtjjbmhndakmkbaaGreatDoor
open Go.RowKit
namespace same
open tupw
theorem str_ne {x y : ByteArray} (h : ¬ x = y) : (x.toList == y.toList) = false := by
  rw [beq_eq_false_iff_ne]
  intro e
  exact h (kt.str_eq (by rw [← Lib.toList_data, ← Lib.toList_data, e]))
theorem take_next {l m : List ByteArray} {i : Nat} (h1 : i < l.length) (h2 : i < m.length) (h : l.take i = m.take i) (he : l[i] = m[i]) : l.take (i + 1) = m.take (i + 1) := by
  rw [List.take_succ_eq_append_getElem h1, List.take_succ_eq_append_getElem h2, h, he]
theorem ne_at {l m : List ByteArray} {i : Nat} (h1 : i < l.length) (h2 : i < m.length) (he : ¬ l[i] = m[i]) : ¬ l = m := by
  rintro rfl
  exact he rfl
theorem below_drewN {B : Nat} {a b : World} (h : Below B a b) (n : Nat) : Below B a (b.drewN n) := ⟨h.os, h.tape, h.output, h.size, h.block⟩
set_option maxHeartbeats 1000000 in
theorem same_any (a1 a2 : Option Addr) (c1 c2 : Nat) (l m : List ByteArray) (w : World) (h1 : Hid (Strs w a1 l)) (h2 : Hid (Strs w a2 m)) (hm : m.length ≤ 1000000) :
    Calls Tryz.prog 11 #[.slice a1 l.length c1, .slice a2 m.length c2] w fun e w' => e = .returned (.bool (decide (l = m))) ∧ Below w.heap.size w w' := by
  by_cases hl : l.length = m.length
  · rw [hl]
    go_enter Tryz.func11, Tryz.ntmps11
    go_wp2_with fail
    go_loopw [5] (fun iv wr => ∃ i : Nat, i ≤ m.length ∧ iv = .int .i64 i ∧ Hid (l.take i = m.take i) ∧ Below w.heap.size w wr) (fun iv _ => m.length - (intOf iv).toNat)
    case atStart => exact ⟨0, Nat.zero_le _, rfl, by show _ = _; simp, Below.refl _ _⟩
    case round =>
      obtain ⟨i, hi, rfl, hE, hB⟩ := hrel
      by_cases c : i < m.length
      · have c' : (i : Int) < (m.length : Int) := by omega
        have cl : i < l.length := by omega
        have hcc := Lib.hid c
        obtain ⟨b1, o1, e1, f1⟩ := h1.out i cl
        obtain ⟨b2, o2, e2, f2⟩ := h2.out i c
        have g1 := (hB.cell (World.block_lt_of_cell? w _ f1)).trans f1
        have g2 := (hB.cell (World.block_lt_of_cell? w _ f2)).trans f2
        obtain ⟨x, hx⟩ : ∃ x : ByteArray, Hid (x = l[i]'cl) := ⟨l[i]'cl, rfl⟩
        obtain ⟨y, hy⟩ : ∃ y : ByteArray, Hid (y = m[i]'c) := ⟨m[i]'c, rfl⟩
        rw [← hx.out] at g1
        rw [← hy.out] at g2
        clear f1 f2
        subst e1 e2
        by_cases hxy : x = y
        · have hn : Hid (l.take (i + 1) = m.take (i + 1)) := take_next cl c hE.out (by rw [← hx.out, ← hy.out, hxy])
          subst hxy
          go_wp2_with fail
          go_quiet (fail)
          go_wp2_with fail
          go_roundw
          case rel => exact ⟨i + 1, hcc.out, by go_num, hn, below_drewN hB nq⟩
          case measure =>
            have := hcc.out
            simp [intOf]; omega
        · have hr : decide (l = m) = false := by
            rw [decide_eq_false_iff_not]
            exact ne_at cl c (by rw [← hx.out, ← hy.out]; exact hxy)
          have HR := Lib.hid hr
          have hne := str_ne hxy
          clear hr hxy
          go_wp2_with fail
          go_quiet (fail)
          go_wp2_with fail
          go_ret
          exact ⟨by rw [HR.out]; rfl, below_drewN hB nq⟩
      · obtain rfl : i = m.length := by omega
        have c' : ¬ (m.length : Int) < (m.length : Int) := by omega
        have hr : decide (l = m) = true := by
          rw [decide_eq_true_iff]
          have := hE.out
          rw [List.take_of_length_le (Nat.le_refl _), List.take_of_length_le (by omega)] at this
          exact this
        have HR := Lib.hid hr
        clear hr
        go_wp2_with fail
        go_ret
        exact ⟨by rw [HR.out]; rfl, hB⟩
  · have hr : decide (l = m) = false := by
      rw [decide_eq_false_iff_not]
      rintro rfl
      exact hl rfl
    have HR := Lib.hid hr
    have hl' : ((l.length : Int) == (m.length : Int)) = false := by rw [beq_eq_false_iff_ne]; omega
    clear hr hl
    go_enter Tryz.func11, Tryz.ntmps11
    go_wp2_with fail
    go_ret
    exact ⟨by rw [HR.out]; rfl, Below.refl _ _⟩
end same
end Go.Proofs.YtjjbmhndakmkbaaGreatDoor
namespace Go.Proofs.YtjjbmhndakmkbaaGreatDoor
open Go.RowKit
namespace dnw
open dnp
set_option linter.unusedVariables false
set_option linter.unusedSimpArgs false
/-- what Key answers -/
def KeyE (l : List Av) (e : Ending) : Prop := e = if rdnOK l = true then .returned (.tuple #[.string (bytes (keyL l)), .int .i64 0]) else .returned (.tuple #[.string ⟨#[]⟩, .int .i64 4])
theorem cmp_lt_iff : ∀ a b : List UInt8, Lib.compareBytes a b = -1 ↔ a < b
  | [], [] => by simp [Lib.compareBytes]
  | [], b :: t => by
    rw [ord.cmp_nil_cons]
    simp
  | a :: s, [] => by
    rw [ord.cmp_cons_nil]
    simp
  | a :: s, b :: t => by
    rw [List.cons_lt_cons_iff]
    rcases ord.cmp_cases a b with h | h | rfl
    · rw [ord.cmp_lt h]
      simp [h]
    · rw [ord.cmp_gt h]
      have h1 : ¬ a < b := by
        intro h'
        have h1 := UInt8.lt_iff_toNat_lt.1 h
        have h2 := UInt8.lt_iff_toNat_lt.1 h'
        omega
      have h2 : ¬ a = b := by rintro rfl; exact absurd (UInt8.lt_iff_toNat_lt.1 h) (by omega)
      simp [h1, h2]
    · rw [ord.cmp_same, cmp_lt_iff s t]
      have : ¬ a < a := by intro h; exact absurd (UInt8.lt_iff_toNat_lt.1 h) (by omega)
      simp [this]
/-- put at its place -/
def insAt (P : List ByteArray) (k : Nat) (s : ByteArray) : List ByteArray := (P.take k ++ [s]) ++ P.drop k
def dat (P : List ByteArray) : List (List UInt8) := P.map (·.data.toList)
def SortedB (P : List ByteArray) : Prop := (dat P).Pairwise (fun x y => x ≤ y)
theorem insAt_perm (P : List ByteArray) (k : Nat) (s : ByteArray) : (dat (insAt P k s)).Perm (s.data.toList :: dat P) := by
  have h : (insAt P k s).Perm (s :: P) := by
    unfold insAt
    conv => rhs; rw [← List.take_append_drop k P]
    rw [List.append_assoc]
    exact List.perm_middle
  exact h.map _
theorem insAt_sorted {P : List ByteArray} {k : Nat} {s : ByteArray} (h : SortedB P) (hk : k ≤ P.length) (h1 : ∀ j (hj : j < P.length), j < k → P[j].data.toList < s.data.toList) (h2 : ∀ hj : k < P.length, s.data.toList ≤ (P[k]'hj).data.toList) : SortedB (insAt P k s) := by
  unfold SortedB dat insAt at *
  rw [List.pairwise_map] at h ⊢
  rw [List.append_assoc, List.pairwise_append]
  have hle : ∀ x ∈ P.take k, x.data.toList ≤ s.data.toList := by
    intro x hx
    obtain ⟨j, hj, rfl⟩ := List.mem_iff_getElem.1 hx
    rw [List.length_take] at hj
    rw [List.getElem_take]
    exact List.le_of_lt (h1 j (by omega) (by omega))
  have hge : ∀ y ∈ P.drop k, s.data.toList ≤ y.data.toList := by
    intro y hy
    obtain ⟨j, hj, rfl⟩ := List.mem_iff_getElem.1 hy
    rw [List.length_drop] at hj
    rw [List.getElem_drop]
    have hkl : k < P.length := by omega
    have h3 := h2 hkl
    rcases Nat.eq_zero_or_pos j with rfl | hj0
    · exact h3
    · exact List.le_trans h3 ((List.pairwise_iff_getElem.1 h) k (k + j) hkl (by omega) (by omega))
  refine ⟨h.sublist (List.take_sublist _ _), ?_, ?_⟩
  · rw [List.singleton_append, List.pairwise_cons]
    exact ⟨hge, h.sublist (List.drop_sublist _ _)⟩
  · intro x hx y hy
    rw [List.singleton_append] at hy
    rcases List.mem_cons.1 hy with rfl | hy
    · exact hle x hx
    · exact List.le_trans (hle x hx) (hge y hy)
theorem ownT_mono {w : World} {B C : Nat} {v : Value} {l : List ByteArray} (h : prw.OwnT w B v l) (hc : C ≤ B) : prw.OwnT w C v l := by
  refine ⟨h.1, ?_⟩
  rcases h.2 with h0 | ⟨g, cap, cur, hv, hBg, hr⟩
  · exact Or.inl h0
  · exact Or.inr ⟨g, cap, cur, hv, Nat.le_trans hc hBg, hr⟩
theorem ownT_appN {w : World} {B : Nat} {v : Value} {l ys : List ByteArray} (g o c : Nat) (hys : ∀ j (hj : j < ys.length), w.cell? ⟨g, o + j, none⟩ = some (.string ys[j])) (hown : prw.OwnT w B v l) (hl : l.length ≤ 1000000) (hyl : ys.length ≤ 1000000) (hbase : B ≤ w.heap.size) :
    ∃ ao m cap w1, (Builtin.append_ #[28, 28] 28 #[v, .slice (some ⟨g, o, none⟩) ys.length c]).run Tryz.prog w = .ok (.slice ao m cap) w1 ∧ prw.OwnT w1 B (.slice ao m cap) (l ++ ys) ∧ Below B w w1 := by
  obtain ⟨v', w1, h1, h2, _, h3⟩ := kt.appN (P := Tryz.prog) (t := 28) (ty := 28) Tryz.underlying28 prw.infoStr rfl ⟨g, o, none⟩ ys.length c (prw.scells ys) (prw.scells_length ys) (fun j u hj => by
    have hj' := (List.getElem?_eq_some_iff.1 hj).1
    rw [prw.scells_length] at hj'
    rw [Addr.add_mid, hys j hj']
    rw [← hj]
    unfold prw.scells
    simp [List.getElem?_eq_getElem hj']) (fun u hu => by
    unfold prw.scells at hu
    obtain ⟨y, _, rfl⟩ := List.mem_map.1 hu
    rfl) hown (by rw [prw.scells_length]; unfold maxLen; omega) (by rw [prw.scells_length]; omega) hbase
  have h2' : prw.OwnT w1 B v' (l ++ ys) := by
    unfold prw.OwnT
    have e : prw.scells (l ++ ys) = prw.scells l ++ prw.scells ys := by simp [prw.scells]
    rw [e]
    exact h2
  obtain ⟨ao, cap, rfl, _, _⟩ := prw.ownT_cells h2'
  exact ⟨ao, _, cap, w1, h1, h2', h3⟩
theorem key_ok {l : List Av} {P : List ByteArray} (h1 : SortedB P) (h2 : (dat P).Perm (partsL l)) : (dat P).flatten = keyL l := by
  unfold keyL
  rw [sorted_eq h1 (sortL_sorted (partsL l)) (h2.trans (List.mergeSort_perm _ _).symm)]
end dnw
end Go.Proofs.YtjjbmhndakmkbaaGreatDoor
namespace Go.Proofs.YtjjbmhndakmkbaaGreatDoor
open Go.RowKit
namespace dnw
open dnp
set_option linter.unusedVariables false
set_option linter.unusedSimpArgs false
theorem below_drewN2 {B : Nat} {a b : World} (h : Below B a b) (n : Nat) : Below B a (b.drewN n) := ⟨h.os, h.tape, h.output, h.size, h.block⟩
/-- an append's run, in a box: two of them are told apart by their arguments alone -/
structure ApR (P : Program) (t tn ty : TypeId) (vs vx : Value) (w : World) (v' : Value) (w' : World) : Prop where
  run : (Builtin.append_ #[t, tn] ty #[vs, vx]).run P w = .ok v' w'
theorem wp_apR {P : Program} {w : World} {ops : Array Oper} {rest : List Oper} {o : Oper} {a : Act} {Q : Exit → Act → World → Prop} (hgd : o.guard = none) (s x : Operand) (t tn : TypeId)
    (ho : o.op = .call { callee := .builtin .append, args := #[s, x], argTypes := #[t, tn] }) (v' : Value) (w' : World) (hr : ApR P t tn o.type (a.eval s) (a.eval x) w v' w') (h : wpList P ops Q rest (a.put o.dst v') w') : wpList P ops Q (o :: rest) a w :=
  Lib.wpList_append_run w hgd s x t tn ho _ _ rfl rfl v' w' hr.run h
set_option maxRecDepth 20000 in
set_option maxHeartbeats 8000000 in
theorem rkey_any (ao : Option Addr) (cap : Nat) (l : List Av) (w : World) (hA : Hid (Avas w ao l)) (hS : Hid (l.length ≤ 4 → Smalls l)) :
    Calls Tryz.prog 15 #[.slice ao l.length cap] w fun e w' => KeyE l e ∧ Below w.heap.size w w' := by
  have CR := rrdn_any ao cap l w hA hS
  obtain ⟨m, hm⟩ : ∃ m, m = l.length := ⟨_, rfl⟩
  have HM := Lib.hid hm
  rw [← hm] at CR ⊢
  clear hm
  cases hok : rdnOK l with
  | false =>
    rw [hok] at CR
    have HC := Lib.hid CR
    have HK : Hid (KeyE l (.returned (.tuple #[.string ⟨#[]⟩, .int .i64 4]))) := by
      show KeyE _ _
      unfold KeyE
      rw [hok]; rfl
    clear CR hok
    go_enter Tryz.func15, Tryz.ntmps15
    go_wp2_with fail
    refine HC.out.mono ?_
    rintro e w1 ⟨rfl, hB1⟩
    go_wp2_with fail
    go_ret2
    exact ⟨HK.out, hB1⟩
  | true =>
    rw [hok] at CR
    have HC := Lib.hid CR
    have h4 := (rdnOK_facts hok).2.1
    rw [← HM.out] at h4
    have HX := Lib.hid (rdnOK_av hok)
    have HKE : Hid (∀ T : ByteArray, T = bytes (keyL l) → KeyE l (.returned (.tuple #[.string T, .int .i64 0]))) := by
      intro T h
      unfold KeyE
      rw [hok, h]; rfl
    clear CR hok
    go_enter Tryz.func15, Tryz.ntmps15
    go_wp2_with fail
    refine HC.out.mono ?_
    rintro e w1 ⟨rfl, hB1⟩
    have HB1 := Lib.hid hB1
    have hsz1 := hB1.size
    clear hB1 HC
    go_wp2_with fail
    go_loopw [4, 5, 6, 7, 8, 9, 10, 11] (fun pv iv _ _ _ _ _ _ wr => ∃ (i : Nat) (P : List ByteArray) (g cp : Nat), i ≤ m ∧ iv = .int .i64 (i : Int) ∧ pv = .slice (some ⟨g, 0, none⟩) i cp ∧ i ≤ cp ∧ Hid (prw.OwnT wr w1.heap.size (.slice (some ⟨g, 0, none⟩) i cp) P) ∧ Hid (P.length = i) ∧ Hid (SortedB P) ∧ Hid ((dat P).Perm (partsL (l.take i))) ∧ Below w1.heap.size w1 wr) (fun _ iv _ _ _ _ _ _ _ => m - (intOf iv).toNat)
    case atStart =>
      refine ⟨0, [], _, 0, Nat.zero_le _, rfl, rfl, Nat.le_refl _, World.ownsRow_made w1 #[] 0 (Nat.le_refl _) (by unfold maxLen; omega) rfl, rfl, ?_, ?_, (Below.refl _ _).alloc (Nat.le_refl _) _⟩
      · show SortedB []
        unfold SortedB dat
        simp
      · show (dat []).Perm (partsL (l.take 0))
        simp [dat, partsL]
    case round =>
      obtain ⟨i, P, g, cp, hi, rfl, rfl, hcp, hO, hPl, hPs, hPp, hB⟩ := hrel
      have hsz := hB.size
      by_cases hlt : i < m
      · have hlt' : (i : Int) < (m : Int) := by omega
        have hil : i < l.length := by rw [← HM.out]; exact hlt
        have HBW := Lib.hid (HB1.out.trans (hB.mono hsz1))
        obtain ⟨b, o, hao, c0, c1⟩ := hA.out i hil
        subst hao
        have hTK : partsL (l.take (i + 1)) = partsL (l.take i) ++ [(partB l[i]).data.toList] := by
          unfold partsL
          rw [List.take_succ_eq_append_getElem hil, List.map_append]; rfl
        have hxx := HX.out l[i] (List.getElem_mem hil)
        generalize l[i] = x at c0 c1 hTK hxx
        have HC0 := Lib.hid c0
        have d1 := (HBW.out.cell (World.block_lt_of_cell? w _ c1)).trans c1
        obtain ⟨R, hR⟩ : ∃ R : ByteArray, R = ⟨(rv x.v.data.toList).toArray⟩ := ⟨_, rfl⟩
        have hvs : x.v.size ≤ 1000000 := by have := valOK_le hxx.2; rw [kt.size_len] at this; omega
        have hts : x.t.size ≤ 1000000 := by have := typeOK_le hxx.1; rw [kt.size_len] at this; omega
        have CRD := prw.rready_any x.v true wr hvs
        rw [rv_ok hxx.2] at CRD
        have HRD : Hid (Calls Tryz.prog 23 #[.string x.v, .bool true] wr fun e w' => e = .returned (.tuple #[.string R, .int .i64 0]) ∧ Below wr.heap.size wr w') := by
          rw [hR]; exact CRD
        have hRs : R.size ≤ 1000000 := by
          have h1 := prp.readyO_len (rv_ok hxx.2)
          rw [kt.size_len] at h1
          rw [hR, ← kt.size_len]
          show (rv _).length ≤ _
          omega
        have HRe := Lib.hid hR
        have HTK := Lib.hid hTK
        clear CRD hxx c0 c1 hR hTK hvs
        go_wp2_with fail
        refine HRD.out.mono ?_
        rintro e w6 ⟨rfl, hB6⟩
        have HB6 := Lib.hid (hB.trans (hB6.mono hsz))
        have d0 := ((HB1.out.trans (HB6.out.mono hsz1)).cell (World.block_lt_of_cell? w _ HC0.out)).trans HC0.out
        have HO6 := Lib.hid (ownT_below hO.out hB6)
        have CT := tupr.rtuple_any (some ⟨w6.heap.size, 0, none⟩) 2 [x.t, R] (w6.alloc (.cells #[.string x.t, .string R] 9)) (Lib.hid (by
          intro j hj
          refine ⟨_, 0, rfl, ?_⟩
          rw [World.cell?_alloc_new]
          match j, hj with
          | 0, _ => rfl
          | 1, _ => rfl)) (Lib.hid (by
          intro q hq
          simp only [List.mem_cons, List.not_mem_nil, or_false] at hq
          rcases hq with rfl | rfl
          · exact hts
          · exact hRs))
        have HT : Hid (Calls Tryz.prog 24 #[.slice (some ⟨w6.heap.size, 0, none⟩) 2 2] (w6.alloc (.cells #[.string x.t, .string R] 9)) fun e w' => (∃ er : Int, e = .returned (.tuple #[.string (partB x), .int .i64 er])) ∧ Below (w6.alloc (.cells #[.string x.t, .string R] 9)).heap.size (w6.alloc (.cells #[.string x.t, .string R] 9)) w') := by
          refine CT.mono ?_
          rintro e w' ⟨rfl, hb⟩
          exact ⟨⟨(tup.out [x.t, R]).2, by unfold tupw.tupV partB; rw [HRe.out]⟩, hb⟩
        clear CT hB6 hts hRs HRD d1
        go_wp2_with fail
        refine HT.out.mono ?_
        rintro e w7 ⟨⟨er, rfl⟩, hB7⟩
        have hB67 : Below w6.heap.size w6 w7 := ((Below.refl w6.heap.size w6).alloc (Nat.le_refl _) _).trans (hB7.mono (by simp))
        have HB7 := Lib.hid (HB6.out.trans (hB67.mono HB6.out.size))
        have HO7 := Lib.hid (ownT_below HO6.out hB67)
        obtain ⟨s, hs⟩ : ∃ s, s = partB x := ⟨_, rfl⟩
        have hss : s.size ≤ 4096 := by rw [hs]; exact partB_len x
        have HSx := Lib.hid hs
        rw [← hs]
        clear hB7 hB67 HT d0 hs
        go_wp2_with fail
        go_loopw [10] (fun kv wq => ∃ k : Nat, k ≤ i ∧ kv = .int .i64 (k : Int) ∧ Hid (∀ j (h : j < P.length), j < k → P[j].data.toList < s.data.toList) ∧ Below w7.heap.size w7 wq) (fun kv _ => i - (intOf kv).toNat)
        case atStart => exact ⟨0, Nat.zero_le _, rfl, fun j _ h => by omega, Below.refl _ _⟩
        case round =>
          obtain ⟨k, hk, rfl, hL, hBk⟩ := hrel
          have HOk := Lib.hid (ownT_below HO7.out hBk)
          have HBK := Lib.hid (HB7.out.trans (hBk.mono HB7.out.size))
          obtain ⟨ao0, cp0, hv0, hc0', hcs0⟩ := prw.ownT_cells HOk.out
          simp only [Value.slice.injEq] at hv0
          have hcell : ∀ j (hj : j < P.length), wr.cell? ⟨g, j, none⟩ = some (.string P[j]) := by
            intro j hj
            obtain ⟨g', hg', _, hcc⟩ := hcs0 (by intro e; rw [e] at hj; simp at hj)
            have e1 : some (⟨g, 0, none⟩ : Addr) = some ⟨g', 0, none⟩ := hv0.1.trans hg'
            cases e1
            have := hcc j _ (List.getElem?_eq_getElem hj)
            rw [Nat.zero_add] at this
            exact this
          have hglt : P ≠ [] → g < wr.heap.size := by
            intro h
            obtain ⟨g', hg', hlt, _⟩ := hcs0 h
            have e1 : some (⟨g, 0, none⟩ : Addr) = some ⟨g', 0, none⟩ := hv0.1.trans hg'
            cases e1
            exact hlt
          have hPmem : ∀ j (hj : j < P.length), P[j].size ≤ 4096 := by
            intro j hj
            have h1 : P[j].data.toList ∈ dat P := List.mem_map.2 ⟨P[j], List.getElem_mem hj, rfl⟩
            have h2 := hPp.out.mem_iff.1 h1
            unfold partsL at h2
            obtain ⟨a, _, ha⟩ := List.mem_map.1 h2
            rw [← kt.size_len, ← ha, kt.size_len]
            exact partB_len a
          have HCELL := Lib.hid hcell
          clear hv0 hc0' hcs0
          by_cases hki : k < i
          · have hki' : (k : Int) < (i : Int) := by omega
            have hkP : k < P.length := by rw [hPl.out]; exact hki
            have ck := hcell k hkP
            have CL := ordw.less_any P[k] s wr (by have := hPmem k hkP; omega)
            have hltk : Lib.compareBytes P[k].data.toList s.data.toList = -1 ↔ P[k].data.toList < s.data.toList := cmp_lt_iff _ _
            have hge : ¬ Lib.compareBytes P[k].data.toList s.data.toList = -1 → Hid (∀ hj : k < P.length, s.data.toList ≤ (P[k]'hj).data.toList) := fun h hj => List.not_lt.1 (fun h2 => h (hltk.2 h2))
            have hLN : P[k].data.toList < s.data.toList → Hid (∀ j (h : j < P.length), j < k + 1 → P[j].data.toList < s.data.toList) := by
              intro h j hj hjk
              by_cases e : j = k
              · subst e; exact h
              · exact hL.out j hj (by omega)
            have h3 := ord.cmp_three P[k].data.toList s.data.toList
            generalize Lib.compareBytes P[k].data.toList s.data.toList = cv at CL hltk hge h3
            have HGE := Lib.hid hge
            have HLN := Lib.hid hLN
            generalize P[k] = pk at ck CL hltk HLN
            by_cases hcv : cv = -1
            · have HN := HLN.out (hltk.1 hcv)
              subst hcv
              have HCL := Lib.hid CL
              clear CL hge hLN hltk h3 HGE HLN hcell hPmem hglt
              go_wp2_with fail
              refine HCL.out.mono ?_
              rintro e wz ⟨rfl, nn, rfl⟩
              go_wp2_with fail
              go_roundw
              case rel => exact ⟨k + 1, by omega, by go_num, HN, below_drewN2 hBk nn⟩
              case measure => simp [intOf] <;> omega
            · have HGE2 := HGE.out hcv
              have hc0 : ¬ cv < 0 := by omega
              have HCL := Lib.hid CL
              clear CL hge hLN hltk h3 HGE HLN hcell hcv
              have HPE : Hid (∀ nn, Below wr.heap.size wr (wr.drewN nn)) := fun nn => below_drewN2 (Below.refl _ _) nn
              go_wp2_with fail
              refine HCL.out.mono ?_
              rintro e wz ⟨rfl, nn, hwz⟩
              have HZ : Hid (Below wr.heap.size wr wz) := by show Below _ _ _; rw [hwz]; exact HPE.out nn
              have HCELLz : Hid (∀ j (hj : j < P.length), wz.cell? ⟨g, j, none⟩ = some (.string P[j])) := fun j hj => (HZ.out.cell (p := ⟨g, j, none⟩) (hglt (by intro e; rw [e] at hj; simp at hj))).trans (HCELL.out j hj)
              have hgltz : P ≠ [] → g < wz.heap.size := fun h => Nat.lt_of_lt_of_le (hglt h) HZ.out.size
              clear hglt hwz
              have hglt := hgltz
              clear hgltz
              have HBz : Hid (Below w7.heap.size w7 wz) := Lib.hid (hBk.trans (HZ.out.mono hBk.size))
              have hcz : ∀ j (hj : j < P.length), (wz.alloc (.cells #[] 9)).cell? ⟨g, j, none⟩ = some (.string P[j]) := by
                intro j hj
                have hne : P ≠ [] := by intro e; rw [e] at hj; simp at hj
                exact (((Below.refl wz.heap.size wz).alloc (Nat.le_refl _) _).cell (p := ⟨g, j, none⟩) (show g < wz.heap.size from hglt hne)).trans (show wz.cell? ⟨g, j, none⟩ = _ from HCELLz.out j hj)
              have hmade : prw.OwnT (wz.alloc (.cells #[] 9)) wz.heap.size (.slice (some ⟨wz.heap.size, 0, none⟩) 0 0) [] := World.ownsRow_made wz #[] 0 (Nat.le_refl _) (by unfold maxLen; omega) rfl
              have htkl : (P.take k).length = k := by rw [List.length_take, hPl.out]; omega
              have hdkl : (P.drop k).length = i - k := by rw [List.length_drop, hPl.out]
              obtain ⟨aoA, mA, capA, w10, hapA, hOA, hBA⟩ := ownT_appN (ys := P.take k) g 0 cp (fun j hj => by
                rw [List.length_take] at hj
                rw [Nat.zero_add, List.getElem_take]
                exact hcz j (by omega)) hmade (by simp) (by rw [htkl]; omega) (by simp)
              rw [htkl] at hapA
              obtain ⟨aoB, mB, capB, w11, hapB, hOB, hgB, hBB⟩ := ownT_appG s hOA (by rw [List.nil_append, htkl]; omega) (Nat.le_trans (by simp) hBA.size)
              have hBAB : Below wz.heap.size wz w11 := (((Below.refl wz.heap.size wz).alloc (Nat.le_refl _) _).trans hBA).trans hBB
              have hc11 : ∀ j (hj : j < P.length), w11.cell? ⟨g, j, none⟩ = some (.string P[j]) := by
                intro j hj
                have hne : P ≠ [] := by intro e; rw [e] at hj; simp at hj
                exact (hBAB.cell (p := ⟨g, j, none⟩) (show g < wz.heap.size from hglt hne)).trans (show wz.cell? ⟨g, j, none⟩ = _ from HCELLz.out j hj)
              have hszC : wz.heap.size ≤ w11.heap.size := hBAB.size
              have hSI := insAt_sorted hPs.out (by rw [hPl.out]; omega) hL.out HGE2.out
              have hPI : (dat (insAt P k s)).Perm (partsL (l.take (i + 1))) := by
                rw [HTK.out, ← HSx.out]
                exact (insAt_perm P k s).trans ((List.Perm.cons _ hPp.out).trans (List.perm_append_singleton _ _).symm)
              have HSI := Lib.hid hSI
              have HPI := Lib.hid hPI
              have hIl : (insAt P k s).length = i + 1 := by
                unfold insAt
                simp only [List.length_append, htkl, hdkl, List.length_cons, List.length_nil]
                try omega
              clear hSI hPI
              by_cases hck : cp = k
              · exfalso; omega
              · skip
                obtain ⟨aoC, mC, capC, w12, hapC, hOC, hBC⟩ := ownT_appN (ys := P.drop k) g k (cp - k) (fun j hj => by
                  rw [List.getElem_drop]
                  exact hc11 (k + j) (by rw [List.length_drop] at hj; omega)) hOB (by simp [htkl]; omega) (by rw [hdkl]; omega) hszC
                rw [hdkl] at hapC
                have hapA := ApR.mk hapA
                have hapB := ApR.mk hapB
                have hapC := ApR.mk hapC
                have hOI : prw.OwnT w12 wz.heap.size (.slice aoC mC capC) (insAt P k s) := by
                  have h := hOC
                  rw [List.nil_append] at h
                  exact h
                obtain ⟨aoI, cpI, hvI, hcI, hcsI⟩ := prw.ownT_cells hOI
                rw [hIl] at hvI hcI
                simp only [Value.slice.injEq] at hvI
                obtain ⟨rfl, rfl, rfl⟩ := hvI
                obtain ⟨gI, rfl, _, _⟩ := hcsI (by intro e; rw [e] at hIl; simp at hIl)
                have HREL : Hid (∃ (i' : Nat) (P' : List ByteArray) (g' cp' : Nat), i' ≤ m ∧ Value.int IntKind.i64 ((i : Int) + 1) = .int .i64 (i' : Int) ∧ Value.slice (some ⟨gI, 0, none⟩) (i + 1) capC = .slice (some ⟨g', 0, none⟩) i' cp' ∧ i' ≤ cp' ∧ Hid (prw.OwnT w12 w1.heap.size (.slice (some ⟨g', 0, none⟩) i' cp') P') ∧ Hid (P'.length = i') ∧ Hid (SortedB P') ∧ Hid ((dat P').Perm (partsL (l.take i'))) ∧ Below w1.heap.size w1 w12) :=
                  ⟨i + 1, insAt P k s, gI, capC, by omega, by go_num, rfl, hcI, Lib.hid (ownT_mono hOI (Nat.le_trans HB7.out.size HBz.out.size)), Lib.hid hIl, HSI, HPI, (HB7.out.trans (HBz.out.mono HB7.out.size)).trans ((hBAB.trans hBC).mono (Nat.le_trans HB7.out.size HBz.out.size))⟩
                clear hOI hOC hOB hOA hmade hcz hc11 hBA hBB hBC hgB hIl hcI hcsI hBAB htkl hdkl hglt hPmem
                go_wp2_with (first | (at_builtin; refine wp_apR rfl _ _ _ _ rfl _ _ hapA ?_) | (at_builtin; refine wp_apR rfl _ _ _ _ rfl _ _ hapB ?_) | (at_builtin; refine wp_apR rfl _ _ _ _ rfl _ _ hapC ?_))
                go_roundw
                case rel => exact HREL.out
                case measure => simp [intOf] <;> omega
          · obtain rfl : k = i := by omega
            have HGE2 : Hid (∀ hj : k < P.length, s.data.toList ≤ (P[k]'hj).data.toList) := fun hj => absurd hj (by rw [hPl.out]; omega)
            have HBz : Hid (Below w7.heap.size w7 wr) := Lib.hid hBk
            have hcz : ∀ j (hj : j < P.length), (wr.alloc (.cells #[] 9)).cell? ⟨g, j, none⟩ = some (.string P[j]) := by
              intro j hj
              have hne : P ≠ [] := by intro e; rw [e] at hj; simp at hj
              exact (((Below.refl wr.heap.size wr).alloc (Nat.le_refl _) _).cell (p := ⟨g, j, none⟩) (show g < wr.heap.size from hglt hne)).trans (show wr.cell? ⟨g, j, none⟩ = _ from HCELL.out j hj)
            have hmade : prw.OwnT (wr.alloc (.cells #[] 9)) wr.heap.size (.slice (some ⟨wr.heap.size, 0, none⟩) 0 0) [] := World.ownsRow_made wr #[] 0 (Nat.le_refl _) (by unfold maxLen; omega) rfl
            have htkl : (P.take k).length = k := by rw [List.length_take, hPl.out]; omega
            have hdkl : (P.drop k).length = 0 := by rw [List.length_drop, hPl.out]; omega
            obtain ⟨aoA, mA, capA, w10, hapA, hOA, hBA⟩ := ownT_appN (ys := P.take k) g 0 cp (fun j hj => by
              rw [List.length_take] at hj
              rw [Nat.zero_add, List.getElem_take]
              exact hcz j (by omega)) hmade (by simp) (by rw [htkl]; omega) (by simp)
            rw [htkl] at hapA
            obtain ⟨aoB, mB, capB, w11, hapB, hOB, hgB, hBB⟩ := ownT_appG s hOA (by rw [List.nil_append, htkl]; omega) (Nat.le_trans (by simp) hBA.size)
            have hBAB : Below wr.heap.size wr w11 := (((Below.refl wr.heap.size wr).alloc (Nat.le_refl _) _).trans hBA).trans hBB
            have hc11 : ∀ j (hj : j < P.length), w11.cell? ⟨g, j, none⟩ = some (.string P[j]) := by
              intro j hj
              have hne : P ≠ [] := by intro e; rw [e] at hj; simp at hj
              exact (hBAB.cell (p := ⟨g, j, none⟩) (show g < wr.heap.size from hglt hne)).trans (show wr.cell? ⟨g, j, none⟩ = _ from HCELL.out j hj)
            have hszC : wr.heap.size ≤ w11.heap.size := hBAB.size
            have hSI := insAt_sorted hPs.out (by rw [hPl.out]; omega) hL.out HGE2.out
            have hPI : (dat (insAt P k s)).Perm (partsL (l.take (k + 1))) := by
              rw [HTK.out, ← HSx.out]
              exact (insAt_perm P k s).trans ((List.Perm.cons _ hPp.out).trans (List.perm_append_singleton _ _).symm)
            have HSI := Lib.hid hSI
            have HPI := Lib.hid hPI
            have hIl : (insAt P k s).length = k + 1 := by
              unfold insAt
              simp only [List.length_append, htkl, hdkl, List.length_cons, List.length_nil]
              try omega
            clear hSI hPI
            by_cases hck : cp = k
            · subst hck
              obtain ⟨aoC, mC, capC, w12, hapC, hOC, hBC⟩ := ownT_appN (ys := P.drop cp) g 0 0 (fun j hj => absurd hj (by rw [hdkl]; omega)) hOB (by simp [htkl]; omega) (by rw [hdkl]; omega) hszC
              rw [hdkl] at hapC
              have hapA := ApR.mk hapA
              have hapB := ApR.mk hapB
              have hapC := ApR.mk hapC
              have hOI : prw.OwnT w12 wr.heap.size (.slice aoC mC capC) (insAt P cp s) := by
                have h := hOC
                rw [List.nil_append] at h
                exact h
              obtain ⟨aoI, cpI, hvI, hcI, hcsI⟩ := prw.ownT_cells hOI
              rw [hIl] at hvI hcI
              simp only [Value.slice.injEq] at hvI
              obtain ⟨rfl, rfl, rfl⟩ := hvI
              obtain ⟨gI, rfl, _, _⟩ := hcsI (by intro e; rw [e] at hIl; simp at hIl)
              have HREL : Hid (∃ (i' : Nat) (P' : List ByteArray) (g' cp' : Nat), i' ≤ m ∧ Value.int IntKind.i64 ((cp : Int) + 1) = .int .i64 (i' : Int) ∧ Value.slice (some ⟨gI, 0, none⟩) (cp + 1) capC = .slice (some ⟨g', 0, none⟩) i' cp' ∧ i' ≤ cp' ∧ Hid (prw.OwnT w12 w1.heap.size (.slice (some ⟨g', 0, none⟩) i' cp') P') ∧ Hid (P'.length = i') ∧ Hid (SortedB P') ∧ Hid ((dat P').Perm (partsL (l.take i'))) ∧ Below w1.heap.size w1 w12) :=
                ⟨cp + 1, insAt P cp s, gI, capC, by omega, by go_num, rfl, hcI, Lib.hid (ownT_mono hOI (Nat.le_trans HB7.out.size HBz.out.size)), Lib.hid hIl, HSI, HPI, (HB7.out.trans (HBz.out.mono HB7.out.size)).trans ((hBAB.trans hBC).mono (Nat.le_trans HB7.out.size HBz.out.size))⟩
              clear hOI hOC hOB hOA hmade hcz hc11 hBA hBB hBC hgB hIl hcI hcsI hBAB htkl hdkl hglt hPmem
              go_wp2_with (first | (at_builtin; refine wp_apR rfl _ _ _ _ rfl _ _ hapA ?_) | (at_builtin; refine wp_apR rfl _ _ _ _ rfl _ _ hapB ?_) | (at_builtin; refine wp_apR rfl _ _ _ _ rfl _ _ hapC ?_))
              go_roundw
              case rel => exact HREL.out
              case measure => simp [intOf] <;> omega
            · skip
              obtain ⟨aoC, mC, capC, w12, hapC, hOC, hBC⟩ := ownT_appN (ys := P.drop k) g k (cp - k) (fun j hj => by
                rw [List.getElem_drop]
                exact hc11 (k + j) (by rw [List.length_drop] at hj; omega)) hOB (by simp [htkl]; omega) (by rw [hdkl]; omega) hszC
              rw [hdkl] at hapC
              have hapA := ApR.mk hapA
              have hapB := ApR.mk hapB
              have hapC := ApR.mk hapC
              have hOI : prw.OwnT w12 wr.heap.size (.slice aoC mC capC) (insAt P k s) := by
                have h := hOC
                rw [List.nil_append] at h
                exact h
              obtain ⟨aoI, cpI, hvI, hcI, hcsI⟩ := prw.ownT_cells hOI
              rw [hIl] at hvI hcI
              simp only [Value.slice.injEq] at hvI
              obtain ⟨rfl, rfl, rfl⟩ := hvI
              obtain ⟨gI, rfl, _, _⟩ := hcsI (by intro e; rw [e] at hIl; simp at hIl)
              have HREL : Hid (∃ (i' : Nat) (P' : List ByteArray) (g' cp' : Nat), i' ≤ m ∧ Value.int IntKind.i64 ((k : Int) + 1) = .int .i64 (i' : Int) ∧ Value.slice (some ⟨gI, 0, none⟩) (k + 1) capC = .slice (some ⟨g', 0, none⟩) i' cp' ∧ i' ≤ cp' ∧ Hid (prw.OwnT w12 w1.heap.size (.slice (some ⟨g', 0, none⟩) i' cp') P') ∧ Hid (P'.length = i') ∧ Hid (SortedB P') ∧ Hid ((dat P').Perm (partsL (l.take i'))) ∧ Below w1.heap.size w1 w12) :=
                ⟨k + 1, insAt P k s, gI, capC, by omega, by go_num, rfl, hcI, Lib.hid (ownT_mono hOI (Nat.le_trans HB7.out.size HBz.out.size)), Lib.hid hIl, HSI, HPI, (HB7.out.trans (HBz.out.mono HB7.out.size)).trans ((hBAB.trans hBC).mono (Nat.le_trans HB7.out.size HBz.out.size))⟩
              clear hOI hOC hOB hOA hmade hcz hc11 hBA hBB hBC hgB hIl hcI hcsI hBAB htkl hdkl hglt hPmem
              go_wp2_with (first | (at_builtin; refine wp_apR rfl _ _ _ _ rfl _ _ hapA ?_) | (at_builtin; refine wp_apR rfl _ _ _ _ rfl _ _ hapB ?_) | (at_builtin; refine wp_apR rfl _ _ _ _ rfl _ _ hapC ?_))
              go_roundw
              case rel => exact HREL.out
              case measure => simp [intOf] <;> omega
      · obtain rfl : i = m := by omega
        have hPe : Hid ((dat P).Perm (partsL l)) := by
          have h := hPp.out
          rw [HM.out, List.take_length] at h
          exact h
        have HK := Lib.hid (key_ok hPs.out hPe.out)
        have hPmem : ∀ j (hj : j < P.length), P[j].size ≤ 4096 := by
          intro j hj
          have h1 : P[j].data.toList ∈ dat P := List.mem_map.2 ⟨P[j], List.getElem_mem hj, rfl⟩
          have h2 := hPe.out.mem_iff.1 h1
          unfold partsL at h2
          obtain ⟨a, _, ha⟩ := List.mem_map.1 h2
          rw [← kt.size_len, ← ha, kt.size_len]
          exact partB_len a
        have HMEM := Lib.hid hPmem
        obtain ⟨ao0, cp0, hv0, hc0', hcs0⟩ := prw.ownT_cells hO.out
        simp only [Value.slice.injEq] at hv0
        have hcell : ∀ j (hj : j < P.length), wr.cell? ⟨g, j, none⟩ = some (.string P[j]) := by
          intro j hj
          obtain ⟨g', hg', _, hcc⟩ := hcs0 (by intro e; rw [e] at hj; simp at hj)
          have e1 : some (⟨g, 0, none⟩ : Addr) = some ⟨g', 0, none⟩ := hv0.1.trans hg'
          cases e1
          have := hcc j _ (List.getElem?_eq_getElem hj)
          rw [Nat.zero_add] at this
          exact this
        have HCELL := Lib.hid hcell
        have HBW := Lib.hid (HB1.out.trans (hB.mono hsz1))
        clear hPp hPs hPe hPmem hcell hv0 hc0' hcs0 hO
        obtain ⟨wo, rfl⟩ : ∃ x, x = wr := ⟨_, rfl⟩
        go_wp2_with fail
        go_loopw [12, 13] (fun sv jv wq => ∃ (j : Nat) (T : ByteArray), j ≤ i ∧ jv = .int .i64 (j : Int) ∧ sv = .string T ∧ Hid (T = bytes (dat (P.take j)).flatten) ∧ T.size ≤ 4096 * j ∧ wo = wq) (fun _ jv _ => i - (intOf jv).toNat)
        case atStart => exact ⟨0, _, Nat.zero_le _, rfl, rfl, rfl, Nat.le_refl _, rfl⟩
        case round =>
          obtain ⟨j, T, hj, rfl, rfl, hT, hTs, rfl⟩ := hrel
          by_cases hjl : j < i
          · have hjl' : (j : Int) < (i : Int) := by omega
            have hjP : j < P.length := by rw [hPl.out]; exact hjl
            have ck := HCELL.out j hjP
            have hps := HMEM.out j hjP
            have hst : dat (P.take (j + 1)) = dat (P.take j) ++ [P[j].data.toList] := by
              unfold dat
              rw [List.take_succ_eq_append_getElem hjP, List.map_append]; rfl
            generalize P[j] = s at ck hps hst
            obtain ⟨T2, hT2⟩ : ∃ T2, T2 = T ++ s := ⟨_, rfl⟩
            have h2s : T2.size = T.size + s.size := by rw [hT2, ByteArray.size_append]
            have hadd : ∀ W, (Op.stringOp .add T s).run Tryz.prog W = .ok (.string T2) W := fun W => by rw [hT2]; exact run_string_add_sum W _ _ (by omega)
            have HT2 : Hid (T2 = bytes (dat (P.take (j + 1))).flatten) := by
              show _ = _
              rw [hst, List.flatten_append, hT2, hT.out]
              apply kt.str_eq
              rw [ByteArray.data_append, bytes_data]
              simp [bytes]
            have h2l : T2.size ≤ 4096 * (j + 1) := by omega
            clear hst hT2 h2s hps
            go_wp2_with fail
            go_roundw
            case rel => exact ⟨j + 1, T2, by omega, by go_num, rfl, HT2, h2l, trivial⟩
            case measure => simp [intOf] <;> omega
          · obtain rfl : j = i := by omega
            have hTT : T = bytes (keyL l) := by
              rw [hT.out, ← HK.out, List.take_of_length_le (by rw [hPl.out]; exact Nat.le_refl _)]
            have HKK := Lib.hid (HKE.out T hTT)
            clear hTT hT
            go_wp2_with fail
            go_ret2
            exact ⟨HKK.out, HBW.out⟩
end dnw
end Go.Proofs.YtjjbmhndakmkbaaGreatDoor
namespace Go.Proofs.YtjjbmhndakmkbaaGreatDoor
open Go.RowKit
namespace dnw
open dnp
set_option linter.unusedVariables false
set_option linter.unusedSimpArgs false
theorem keyE_yes {l : List Av} (h : rdnOK l = true) : KeyE l (.returned (.tuple #[.string (bytes (keyL l)), .int .i64 0])) := by unfold KeyE; rw [if_pos h]
theorem keyE_no {l : List Av} (h : rdnOK l = false) : KeyE l (.returned (.tuple #[.string ⟨#[]⟩, .int .i64 4])) := by unfold KeyE; rw [if_neg (by rw [h]; simp)]
set_option maxRecDepth 20000 in
theorem dkey_any (ao : Option Addr) (cap : Nat) (l : List Av) (w : World) (hA : Hid (Avas w ao l)) (hE : Hid (prw.Env w)) (hT : Hid (Tabs w)) (hS : Hid (l.length ≤ 4 → Smalls l)) (hc : l.length ≤ cap) :
    Calls Tryz.prog 14 #[.slice ao l.length cap] w fun e w' => KeyE l e ∧ Below w.heap.size w w' := by
  have CR := rightRdn_any ao cap l w hA hE hS hc
  have CK : rdnOK l = true → Hid (∀ W, Below w.heap.size w W → Calls Tryz.prog 21 #[.slice ao l.length cap] W fun e w' => e = .returned (.string (bytes (keyL l))) ∧ Below W.heap.size W w') := fun h W hb => key_any ao cap l W (Lib.hid (avas_below hA.out hb)) (Lib.hid (prw.env_below hE.out hb)) (Lib.hid (tabs_below hT.out hb)) h
  obtain ⟨m, hm⟩ : ∃ m, m = l.length := ⟨_, rfl⟩
  rw [← hm] at CR CK ⊢
  clear hm hc
  cases hok : rdnOK l with
  | false =>
    rw [hok] at CR
    have HC := Lib.hid CR
    have HN := Lib.hid (keyE_no hok)
    clear CR CK hok
    go_enter Tryz.func14, Tryz.ntmps14
    go_wp2_with fail
    refine HC.out.mono ?_
    rintro e w1 ⟨rfl, hB1⟩
    go_wp2_with fail
    go_ret2
    exact ⟨HN.out, hB1⟩
  | true =>
    rw [hok] at CR
    have HC := Lib.hid CR
    have HN := Lib.hid (keyE_yes hok)
    have HK := CK hok
    clear CR CK hok
    go_enter Tryz.func14, Tryz.ntmps14
    go_wp2_with fail
    refine HC.out.mono ?_
    rintro e w1 ⟨rfl, hB1⟩
    have HK1 := Lib.hid (HK.out w1 hB1)
    go_wp2_with fail
    refine HK1.out.mono ?_
    rintro e w2 ⟨rfl, hB2⟩
    go_wp2_with fail
    go_ret2
    exact ⟨HN.out, hB1.trans (hB2.mono hB1.size)⟩
set_option maxRecDepth 20000 in
set_option maxHeartbeats 4000000 in
theorem rkeys_any (ao : Option Addr) (cap : Nat) (n : List (List Av)) (w : World) (hA : Hid (Rdns w ao n)) (hn : n.length ≤ 1000) (hS : Hid (∀ l ∈ n, l.length ≤ 4 → Smalls l)) :
    Calls Tryz.prog 10 #[.slice ao n.length cap] w fun e w' => KeysE n w e w' := by
  have CR := rright_any ao cap n w hA hn hS
  obtain ⟨m, hm⟩ : ∃ m, m = n.length := ⟨_, rfl⟩
  have HM := Lib.hid hm
  rw [← hm] at CR hn ⊢
  clear hm
  cases hok : nameOK n with
  | false =>
    rw [hok] at CR
    have HC := Lib.hid CR
    have HOK := Lib.hid hok
    clear CR hok
    go_enter Tryz.func10, Tryz.ntmps10
    go_wp2_with fail
    refine HC.out.mono ?_
    rintro e w1 ⟨rfl, hB1⟩
    go_wp2_with fail
    go_ret2
    refine ⟨hB1, ?_⟩
    rw [if_neg (by rw [HOK.out]; simp)]
    rfl
  | true =>
    rw [hok] at CR
    have HC := Lib.hid CR
    have HOK := Lib.hid hok
    have hf := nameOK_facts hok
    have hm12 : m ≤ 12 := by rw [HM.out]; exact hf.1
    have HL := Lib.hid hf.2
    have k0 : IntKind.i64.wrap ((m : Int) - 1) = (m : Int) - 1 := IntWalk.i64_in _ (by omega)
    clear CR hok hf
    go_enter Tryz.func10, Tryz.ntmps10
    go_wp2_with fail
    refine HC.out.mono ?_
    rintro e w1 ⟨rfl, hB1⟩
    have HB1 := Lib.hid hB1
    have hsz1 := hB1.size
    clear hB1 HC
    go_wp2_with fail
    go_loopw [4, 5, 6, 7] (fun rv iv _ _ wr => ∃ (c : Nat) (z : Int), c ≤ m ∧ iv = .int .i64 z ∧ z = (m : Int) - 1 - (c : Int) ∧ Hid (prw.OwnT wr w1.heap.size rv ((n.reverse.take c).map fun l => bytes (keyL l))) ∧ Below w1.heap.size w1 wr) (fun _ iv _ _ _ => (intOf iv + 1).toNat)
    case atStart => exact ⟨0, _, Nat.zero_le _, rfl, by simp, World.ownsRow_made w1 #[] 0 (Nat.le_refl _) (by unfold maxLen; omega) rfl, (Below.refl _ _).alloc (Nat.le_refl _) _⟩
    case round =>
      obtain ⟨c, z, hc, rfl, hz, hO, hB⟩ := hrel
      have HZ := Lib.hid hz
      have hsz := hB.size
      obtain ⟨aoR, mR, capR, rfl, hmR⟩ := ownT_form hO.out
      by_cases hlt : c < m
      · obtain ⟨j, hj⟩ : ∃ j, j = m - 1 - c := ⟨_, rfl⟩
        obtain rfl : z = (j : Int) := by omega
        clear hz
        have hjm : (j : Int) < (m : Int) := by omega
        have hj0 : (0 : Int) ≤ (j : Int) := by omega
        have hjl : j < n.length := by rw [← HM.out]; omega
        have hcl : c < n.length := by rw [← HM.out]; exact hlt
        have HBT := Lib.hid (HB1.out.trans (hB.mono hsz1))
        have HST := revTake_step n c hcl
        have hje : n.length - 1 - c = j := by rw [← HM.out]; exact hj.symm
        have HST2 : (n.reverse.take (c + 1)).map (fun l => bytes (keyL l)) = (n.reverse.take c).map (fun l => bytes (keyL l)) ++ [bytes (keyL n[j])] := by
          rw [HST]
          congr 4
          simp only [hje]
        obtain ⟨b, o, ao', cap', hao, hc0, hcc, hAv⟩ := (rdns_below hA.out HBT.out) j hjl
        subst hao
        have hro := HL.out n[j] (List.getElem_mem hjl)
        have CK := rkey_any ao' cap' n[j] wr (Lib.hid hAv) (Lib.hid (hS.out n[j] (List.getElem_mem hjl)))
        have hst := Lib.hid HST2
        have hEE : ∀ e, KeyE n[j] e → e = .returned (.tuple #[.string (bytes (keyL n[j])), .int .i64 0]) := by
          intro e h
          unfold KeyE at h
          rw [if_pos hro] at h
          exact h
        have k1 : IntKind.i64.wrap ((j : Int) - 1) = (j : Int) - 1 := IntWalk.i64_in _ (by omega)
        have HREL : Hid ((j : Int) - 1 = (m : Int) - 1 - ((c + 1 : Nat) : Int)) := by show _ = _; omega
        generalize n[j] = l at hc0 CK hst hEE
        obtain ⟨p, hp⟩ : ∃ p, p = l.length := ⟨_, rfl⟩
        rw [← hp] at hc0 CK
        have HCK : Hid (Calls Tryz.prog 15 #[.slice ao' p cap'] wr fun e w' => e = .returned (.tuple #[.string (bytes (keyL l)), .int .i64 0]) ∧ Below wr.heap.size wr w') := CK.mono fun e w' h => ⟨hEE e h.1, h.2⟩
        clear CK HST HST2 hje hro hAv hcc hp hj hEE
        generalize bytes (keyL l) = KB at HCK hst
        go_wp2_with fail
        refine HCK.out.mono ?_
        rintro e w2 ⟨rfl, hB2⟩
        obtain ⟨ao7, m7, cap7, w8, hap, hO8, _, hB8⟩ := ownT_appG KB (ownT_below hO.out hB2) (by rw [List.length_map, List.length_take, List.length_reverse]; omega) (Nat.le_trans hsz hB2.size)
        have HO8 : Hid (prw.OwnT w8 w1.heap.size (.slice ao7 m7 cap7) ((n.reverse.take (c + 1)).map fun l => bytes (keyL l))) := by
          show prw.OwnT _ _ _ _
          rw [hst.out]
          exact hO8
        have HB8 := Lib.hid ((hB.trans (hB2.mono hsz)).trans hB8)
        clear hO8 hB8 hB2 HCK hst
        go_wp2_with (at_builtin; refine Lib.wpList_append_run _ rfl _ _ _ _ rfl _ _ rfl rfl _ _ hap ?_)
        go_roundw
        case rel => exact ⟨c + 1, _, by omega, rfl, HREL.out, HO8, HB8.out⟩
        case measure => simp [intOf] <;> omega
      · obtain rfl : c = m := by omega
        have hzn : ¬ (0 : Int) ≤ z := by omega
        have hO1 := hO.out
        rw [HM.out, List.take_of_length_le (by rw [List.length_reverse]; exact Nat.le_refl _)] at hO1
        obtain ⟨hst, hml, hmc⟩ := ownT_strs hO1
        rw [List.length_map, List.length_reverse] at hml
        have HST := Lib.hid hst
        have HML := Lib.hid hml
        clear hO1 hst hml hz
        go_wp2_with fail
        go_ret2
        refine ⟨HB1.out.trans (hB.mono hsz1), ?_⟩
        rw [if_pos HOK.out]
        have h1 := HML.out
        subst h1
        exact ⟨aoR, capR, rfl, hmc, HST.out⟩
theorem strs_take {w : World} {a : Option Addr} {l : List ByteArray} (h : tupw.Strs w a l) (k : Nat) : tupw.Strs w a (l.take k) := by
  intro i hi
  rw [List.length_take] at hi
  rw [List.getElem_take]
  exact h i (by omega)
theorem eqS {w : World} {a1 a2 : Option Addr} {c d p : Nat} {xs ys : List ByteArray} (h1 : tupw.Strs w a1 xs) (h2 : tupw.Strs w a2 ys) (hp : p ≤ xs.length) (hy : ys.length = p) (hb : p ≤ 1000) :
    Calls Tryz.prog 11 #[.slice a1 p c, .slice a2 p d] w fun e w' => e = .returned (.bool (decide (xs.take p = ys))) ∧ Below w.heap.size w w' := by
  have := same.same_any a1 a2 c d (xs.take p) ys w (Lib.hid (strs_take h1 p)) (Lib.hid h2) (by omega)
  rw [List.length_take, Nat.min_eq_left hp, hy] at this
  exact this
set_option maxRecDepth 20000 in
set_option maxHeartbeats 4000000 in
theorem runder_any (ao bo : Option Addr) (ca cb : Nat) (n b : List (List Av)) (w : World) (hA : Hid (Rdns w ao n)) (hB : Hid (Rdns w bo b)) (hn1 : n.length ≤ 1000) (hb1 : b.length ≤ 1000) (hS : Hid (∀ l ∈ n, l.length ≤ 4 → Smalls l)) (hSb : Hid (∀ l ∈ b, l.length ≤ 4 → Smalls l)) :
    Calls Tryz.prog 12 #[.slice ao n.length ca, .slice bo b.length cb] w fun e w' => e = .returned (.bool (underR n b)) ∧ Below w.heap.size w w' := by
  have CK := rkeys_any ao ca n w hA hn1 hS
  have CKb : Hid (∀ W, Below w.heap.size w W → Calls Tryz.prog 10 #[.slice bo b.length cb] W fun e w' => KeysE b W e w') := fun W hb => rkeys_any bo cb b W (Lib.hid (rdns_below hB.out hb)) hb1 hSb
  obtain ⟨m, hm⟩ : ∃ m, m = n.length := ⟨_, rfl⟩
  obtain ⟨p, hp⟩ : ∃ p, p = b.length := ⟨_, rfl⟩
  have HM := Lib.hid hm
  have HP := Lib.hid hp
  rw [← hm] at CK ⊢
  rw [← hp] at CKb ⊢
  have HB2 : Hid (∀ W, Below w.heap.size w W → nameOK b = false → Calls Tryz.prog 10 #[.slice bo p cb] W fun e w' => Below W.heap.size W w' ∧ e = .returned (.tuple #[.slice none 0 0, .int .i64 4])) := by
    intro W hb h
    refine (CKb.out W hb).mono fun e w' h2 => ?_
    unfold KeysE at h2
    rw [if_neg (by rw [h]; simp)] at h2
    exact h2
  have HB3 : Hid (∀ W, Below w.heap.size w W → nameOK b = true → Calls Tryz.prog 10 #[.slice bo p cb] W fun e w' => Below W.heap.size W w' ∧ ∃ ao cap, e = .returned (.tuple #[.slice ao p cap, .int .i64 0]) ∧ tupw.Strs w' ao (keysB b)) := by
    intro W hb h
    refine (CKb.out W hb).mono fun e w' h2 => ?_
    unfold KeysE at h2
    rw [if_pos h, ← hp] at h2
    obtain ⟨h3, ao, cap, h4, _, h5⟩ := h2
    exact ⟨h3, ao, cap, h4, h5⟩
  cases hok : nameOK n with
  | false =>
    have HC : Hid (Calls Tryz.prog 10 #[.slice ao m ca] w fun e w' => Below w.heap.size w w' ∧ e = .returned (.tuple #[.slice none 0 0, .int .i64 4])) := by
      refine CK.mono fun e w' h2 => ?_
      unfold KeysE at h2
      rw [if_neg (by rw [hok]; simp)] at h2
      exact h2
    have HU : Hid (false = underR n b) := by show _ = _; unfold underR; rw [hok]; rfl
    clear CK CKb hok hm hp
    cases hob : nameOK b with
    | false =>
      have HD := Lib.hid (fun W hb => HB2.out W hb hob)
      clear hob HB2 HB3
      go_enter Tryz.func12, Tryz.ntmps12
      go_wp2_with fail
      refine HC.out.mono ?_
      rintro e w1 ⟨hB1, rfl⟩
      have HD2 := Lib.hid (HD.out w1 hB1)
      go_wp2_with fail
      refine HD2.out.mono ?_
      rintro e w2 ⟨hB2, rfl⟩
      go_wp2_with fail
      go_ret
      exact ⟨kt.ret_bool HU.out, hB1.trans (hB2.mono hB1.size)⟩
    | true =>
      have HD := Lib.hid (fun W hb => HB3.out W hb hob)
      clear hob HB2 HB3
      go_enter Tryz.func12, Tryz.ntmps12
      go_wp2_with fail
      refine HC.out.mono ?_
      rintro e w1 ⟨hB1, rfl⟩
      have HD2 := Lib.hid (HD.out w1 hB1)
      go_wp2_with fail
      refine HD2.out.mono ?_
      rintro e w2 ⟨hB2, bo2, cb2, rfl, _⟩
      go_wp2_with fail
      go_ret
      exact ⟨kt.ret_bool HU.out, hB1.trans (hB2.mono hB1.size)⟩
  | true =>
    have HC : Hid (Calls Tryz.prog 10 #[.slice ao m ca] w fun e w' => Below w.heap.size w w' ∧ ∃ ao cap, e = .returned (.tuple #[.slice ao m cap, .int .i64 0]) ∧ m ≤ cap ∧ tupw.Strs w' ao (keysB n)) := by
      refine CK.mono fun e w' h2 => ?_
      unfold KeysE at h2
      rw [if_pos hok, ← hm] at h2
      exact h2
    cases hob : nameOK b with
    | false =>
      have HU : Hid (false = underR n b) := by show _ = _; unfold underR; rw [hok, hob]; rfl
      have HD := Lib.hid (fun W hb => HB2.out W hb hob)
      clear hob HB2 HB3 CK CKb hok hm hp
      go_enter Tryz.func12, Tryz.ntmps12
      go_wp2_with fail
      refine HC.out.mono ?_
      rintro e w1 ⟨hB1, ao2, ca2, rfl, hmc, hS1⟩
      have HD2 := Lib.hid (HD.out w1 hB1)
      clear hS1
      go_wp2_with fail
      refine HD2.out.mono ?_
      rintro e w2 ⟨hB2, rfl⟩
      go_wp2_with fail
      go_ret
      exact ⟨kt.ret_bool HU.out, hB1.trans (hB2.mono hB1.size)⟩
    | true =>
      have HD := Lib.hid (fun W hb => HB3.out W hb hob)
      have hm12 : m ≤ 12 := by rw [hm]; exact (nameOK_facts hok).1
      have hp12 : p ≤ 12 := by rw [hp]; exact (nameOK_facts hob).1
      by_cases hpm : p ≤ m
      · have hpm' : (p : Int) ≤ (m : Int) := by omega
        have HU : Hid (decide ((keysB n).take p = keysB b) = underR n b) := by
          show _ = _
          unfold underR
          rw [hok, hob, ← hp, ← hm, decide_eq_true hpm]; rfl
        have hnl : p ≤ (keysB n).length := by rw [keysB_len, ← hm]; exact hpm
        have hbl : (keysB b).length = p := by rw [keysB_len, ← hp]
        have HEQ : Hid (∀ W a1 c a2 d, tupw.Strs W a1 (keysB n) → tupw.Strs W a2 (keysB b) → Calls Tryz.prog 11 #[.slice a1 p c, .slice a2 p d] W fun e w' => e = .returned (.bool (underR n b)) ∧ Below W.heap.size W w') := by
          intro W a1 c a2 d h1 h2
          have := eqS (c := c) (d := d) h1 h2 hnl hbl (by omega)
          rw [HU.out] at this
          exact this
        clear hob HB2 HB3 CK CKb hok hm hp hnl hbl
        go_enter Tryz.func12, Tryz.ntmps12
        go_wp2_with fail
        refine HC.out.mono ?_
        rintro e w1 ⟨hB1, ao2, ca2, rfl, hmc, hS1⟩
        have HD2 := Lib.hid (HD.out w1 hB1)
        have HS1 := Lib.hid hS1
        have hpc : (p : Int) ≤ (ca2 : Int) := by omega
        clear hS1
        go_wp2_with fail
        refine HD2.out.mono ?_
        rintro e w2 ⟨hB2, bo2, cb2, rfl, hS2⟩
        have HS1' := Lib.hid (tupw.strs_below HS1.out hB2)
        have HS2 := Lib.hid hS2
        have HBW := Lib.hid (hB1.trans (hB2.mono hB1.size))
        clear hS2 hB1 hB2
        go_wp2_with fail
        refine (HEQ.out _ _ _ _ _ HS1'.out HS2.out).mono ?_
        rintro e w3 ⟨rfl, hB3⟩
        go_wp2_with fail
        go_ret
        exact ⟨rfl, HBW.out.trans (hB3.mono HBW.out.size)⟩
      · have hpm' : ¬ (p : Int) ≤ (m : Int) := by omega
        have HU : Hid (false = underR n b) := by
          show _ = _
          unfold underR
          rw [hok, hob, ← hp, ← hm, decide_eq_false hpm]; rfl
        clear hob HB2 HB3 CK CKb hok hm hp
        go_enter Tryz.func12, Tryz.ntmps12
        go_wp2_with fail
        refine HC.out.mono ?_
        rintro e w1 ⟨hB1, ao2, ca2, rfl, hmc, hS1⟩
        have HD2 := Lib.hid (HD.out w1 hB1)
        clear hS1
        go_wp2_with fail
        refine HD2.out.mono ?_
        rintro e w2 ⟨hB2, bo2, cb2, rfl, _⟩
        go_wp2_with fail
        go_ret
        exact ⟨kt.ret_bool HU.out, hB1.trans (hB2.mono hB1.size)⟩
end dnw
end Go.Proofs.YtjjbmhndakmkbaaGreatDoor
namespace Go.Proofs.YtjjbmhndakmkbaaGreatDoor
open Go.RowKit
namespace dnw
open dnp
set_option linter.unusedVariables false
set_option linter.unusedSimpArgs false
def kks (n : List (List Av)) : List ByteArray := if nameOK n = true then keysB n else []
def ker (n : List (List Av)) : Int := if nameOK n = true then 0 else 4
theorem keysE_k {n : List (List Av)} {w : World} {e : Ending} {w' : World} (h : KeysE n w e w') : Below w.heap.size w w' ∧ ∃ ao cap, e = .returned (.tuple #[.slice ao (kks n).length cap, .int .i64 (ker n)]) ∧ tupw.Strs w' ao (kks n) := by
  obtain ⟨h1, h2⟩ := h
  refine ⟨h1, ?_⟩
  unfold kks ker
  cases hok : nameOK n with
  | true =>
    rw [if_pos hok] at h2
    obtain ⟨ao, cap, h3, _, h4⟩ := h2
    simp only [if_true, keysB_len]
    exact ⟨ao, cap, h3, h4⟩
  | false =>
    rw [if_neg (by rw [hok]; simp)] at h2
    exact ⟨none, 0, h2, fun i hi => by simp at hi⟩
def kvB (l : List Av) : ByteArray := if rdnOK l = true then bytes (keyL l) else ⟨#[]⟩
def kvE (l : List Av) : Int := if rdnOK l = true then 0 else 4
theorem keyE_k {l : List Av} {e : Ending} (h : KeyE l e) : e = .returned (.tuple #[.string (kvB l), .int .i64 (kvE l)]) := by
  unfold KeyE at h
  unfold kvB kvE
  cases hok : rdnOK l with
  | true => rw [if_pos hok] at h; exact h
  | false => rw [if_neg (by rw [hok]; simp)] at h; exact h
set_option maxRecDepth 20000 in
set_option maxHeartbeats 8000000 in
theorem dnkeys_any (ao : Option Addr) (cap : Nat) (n : List (List Av)) (bo : Option Addr) (capb : Nat) (b : List (List Av)) (w : World) (hE : Hid (prw.Env w)) (hT : Hid (Tabs w)) (hR : Rdns w ao n) (hc : n.length ≤ cap) (hm : n.length ≤ 9223372036854775807) (hk : ∀ l ∈ n, l.length ≤ 9223372036854775807) (hRb : Rdns w bo b) (hcb : b.length ≤ capb) (hmb : b.length ≤ 9223372036854775807) (hkb : ∀ l ∈ b, l.length ≤ 9223372036854775807) :
    Calls Tryz.prog 4 #[.slice ao n.length cap, .slice bo b.length capb] w fun e w' => e = .returned (.bool true) ∧ Below w.heap.size w w' := by
  clear hc hm hk hcb hmb hkb
  have HR := Lib.hid hR
  have HRb := Lib.hid hRb
  have CA := Lib.hid (awake_any w hE hT)
  obtain ⟨m, hm⟩ : ∃ m, m = n.length := ⟨_, rfl⟩
  obtain ⟨p, hp⟩ : ∃ p, p = b.length := ⟨_, rfl⟩
  have HM := Lib.hid hm
  have HP := Lib.hid hp
  rw [← hm, ← hp]
  have HLg : Hid (∀ W, Below w.heap.size w W → Calls Tryz.prog 6 #[.slice ao m cap] W fun e w' => LongE n e ∧ W = w') := by
    intro W hb
    have := long_any ao cap n W (Lib.hid (rdns_below HR.out hb))
    rw [← hm] at this
    exact this
  have HLgb : Hid (∀ W, Below w.heap.size w W → Calls Tryz.prog 6 #[.slice bo p capb] W fun e w' => LongE b e ∧ W = w') := by
    intro W hb
    have := long_any bo capb b W (Lib.hid (rdns_below HRb.out hb))
    rw [← hp] at this
    exact this
  clear hm hp hR hRb
  go_enter Tryz.func4, Tryz.ntmps4
  go_wp2_with fail
  refine CA.out.mono ?_
  rintro e w1 ⟨rfl, hB1⟩
  have HB1 := Lib.hid hB1
  have HL1 := Lib.hid (HLg.out w1 hB1)
  have HL2 := Lib.hid (HLgb.out w1 hB1)
  clear hB1
  go_wp2_with fail
  refine HL1.out.mono ?_
  rintro e w2 ⟨⟨lg, rfl, hlg⟩, rfl⟩
  cases lg with
  | true =>
    go_wp2_with fail
    go_ret
    exact ⟨rfl, HB1.out⟩
  | false =>
    have HSM := Lib.hid (hlg rfl)
    clear hlg
    go_wp2_with fail
    refine HL2.out.mono ?_
    rintro e w2 ⟨⟨lg, rfl, hlg⟩, rfl⟩
    cases lg with
    | true =>
      go_wp2_with fail
      go_ret
      exact ⟨rfl, HB1.out⟩
    | false =>
      have HSMb := Lib.hid (hlg rfl)
      clear hlg HL1 HL2
      have hm30 : m ≤ 30 := by rw [HM.out]; exact HSM.out.1
      have hp30 : p ≤ 30 := by rw [HP.out]; exact HSMb.out.1
      have HSS : Hid (∀ l ∈ n, l.length ≤ 4 → Smalls l) := fun l hl _ => smallN_smalls HSM.out l hl
      have HSSb : Hid (∀ l ∈ b, l.length ≤ 4 → Smalls l) := fun l hl _ => smallN_smalls HSMb.out l hl
      have HEb : Hid (∀ W, Below w.heap.size w W → Hid (prw.Env W)) := fun W hb => Lib.hid (prw.env_below hE.out hb)
      have HTb : Hid (∀ W, Below w.heap.size w W → Hid (Tabs W)) := fun W hb => Lib.hid (tabs_below hT.out hb)
      obtain ⟨ks, hks⟩ : ∃ ks, ks = kks n := ⟨_, rfl⟩
      obtain ⟨q, hq⟩ : ∃ q, q = ks.length := ⟨_, rfl⟩
      obtain ⟨er, her⟩ : ∃ er, er = ker n := ⟨_, rfl⟩
      obtain ⟨u, hu⟩ : ∃ u, u = underR n b := ⟨_, rfl⟩
      have HK1 : Hid (∀ W, Below w.heap.size w W → Calls Tryz.prog 9 #[.slice ao m cap] W fun e w' => Below W.heap.size W w' ∧ ∃ ao cap, e = .returned (.tuple #[.slice ao q cap, .int .i64 er]) ∧ tupw.Strs w' ao ks) := by
        intro W hb
        have := keys_any ao cap n W (Lib.hid (rdns_below HR.out hb)) (HEb.out W hb) (HTb.out W hb) HSS
        rw [← HM.out] at this
        refine this.mono fun e w' h => ?_
        have h2 := keysE_k h
        rw [← hks, ← hq, ← her] at h2
        exact h2
      have HK2 : Hid (∀ W, Below w.heap.size w W → Calls Tryz.prog 10 #[.slice ao m cap] W fun e w' => Below W.heap.size W w' ∧ ∃ ao cap, e = .returned (.tuple #[.slice ao q cap, .int .i64 er]) ∧ tupw.Strs w' ao ks) := by
        intro W hb
        have := rkeys_any ao cap n W (Lib.hid (rdns_below HR.out hb)) (by rw [← HM.out]; omega) HSS
        rw [← HM.out] at this
        refine this.mono fun e w' h => ?_
        have h2 := keysE_k h
        rw [← hks, ← hq, ← her] at h2
        exact h2
      have hq30 : q ≤ 30 := by
        rw [hq, hks]
        unfold kks
        split
        · rw [keysB_len, ← HM.out]; exact hm30
        · simp
      have HSA : Hid (∀ W a1 a2 c d, tupw.Strs W a1 ks → tupw.Strs W a2 ks → Calls Tryz.prog 11 #[.slice a1 q c, .slice a2 q d] W fun e w' => e = .returned (.bool true) ∧ Below W.heap.size W w') := by
        intro W a1 a2 c d h1 h2
        have := eqS (c := c) (d := d) (p := q) h1 h2 (by omega) hq.symm (by omega)
        rw [List.take_of_length_le (by omega), decide_eq_true rfl] at this
        exact this
      have HUn : Hid (∀ W, Below w.heap.size w W → Calls Tryz.prog 8 #[.slice ao m cap, .slice bo p capb] W fun e w' => e = .returned (.bool u) ∧ Below W.heap.size W w') := by
        intro W hb
        have := under_any ao bo cap capb n b W (Lib.hid (rdns_below HR.out hb)) (Lib.hid (rdns_below HRb.out hb)) (HEb.out W hb) (HTb.out W hb) HSS HSSb
        rw [← HM.out, ← HP.out, ← hu] at this
        exact this
      have HRU : Hid (∀ W, Below w.heap.size w W → Calls Tryz.prog 12 #[.slice ao m cap, .slice bo p capb] W fun e w' => e = .returned (.bool u) ∧ Below W.heap.size W w') := by
        intro W hb
        have := runder_any ao bo cap capb n b W (Lib.hid (rdns_below HR.out hb)) (Lib.hid (rdns_below HRb.out hb)) (by rw [← HM.out]; omega) (by rw [← HP.out]; omega) HSS HSSb
        rw [← HM.out, ← HP.out, ← hu] at this
        exact this
      have HSm : Hid (∀ W, Below w.heap.size w W → Calls Tryz.prog 13 #[.slice ao m cap, .slice bo p capb] W fun e w' => e = .returned (.bool (decide (m = p) && u)) ∧ Below W.heap.size W w') := by
        intro W hb
        have := same_any ao bo cap capb n b W (Lib.hid (rdns_below HR.out hb)) (Lib.hid (rdns_below HRb.out hb)) (HEb.out W hb) (HTb.out W hb) HSS HSSb
        unfold sameR at this
        rw [← HM.out, ← HP.out, ← hu] at this
        exact this
      have q1 : (u == u) = true := by rw [beq_iff_eq]
      have q2 : (er == er) = true := by rw [beq_iff_eq]
      clear hks hq her hu HLg HLgb
      go_wp2_with fail
      refine (HK1.out _ HB1.out).mono ?_
      rintro e w2 ⟨hB2, a1, c1, rfl, hS1⟩
      have HB2 := Lib.hid (HB1.out.trans (hB2.mono HB1.out.size))
      have HS1 := Lib.hid hS1
      clear hB2 hS1
      go_wp2_with fail
      refine (HK2.out _ HB2.out).mono ?_
      rintro e w3 ⟨hB3, a2, c2, rfl, hS2⟩
      have HS1' := Lib.hid (tupw.strs_below HS1.out hB3)
      have HB3 := Lib.hid (HB2.out.trans (hB3.mono HB2.out.size))
      have HS2 := Lib.hid hS2
      clear hB3 hS2
      go_wp2_with fail
      refine (HSA.out _ _ _ _ _ HS1'.out HS2.out).mono ?_
      rintro e w4 ⟨rfl, hB4⟩
      have HB4 := Lib.hid (HB3.out.trans (hB4.mono HB3.out.size))
      clear hB4
      go_wp2_with fail
      refine (HUn.out _ HB4.out).mono ?_
      rintro e w5 ⟨rfl, hB5⟩
      have HB5 := Lib.hid (HB4.out.trans (hB5.mono HB4.out.size))
      clear hB5
      go_wp2_with fail
      refine (HRU.out _ HB5.out).mono ?_
      rintro e w6 ⟨rfl, hB6⟩
      have HB6 := Lib.hid (HB5.out.trans (hB6.mono HB5.out.size))
      have HSm6 := Lib.hid (HSm.out w6 HB6.out)
      have HRU6 : Hid (∀ W, Below w6.heap.size w6 W → Calls Tryz.prog 12 #[.slice ao m cap, .slice bo p capb] W fun e w' => e = .returned (.bool u) ∧ Below W.heap.size W w') := fun W hb => HRU.out W (HB6.out.trans (hb.mono HB6.out.size))
      clear hB6 HSm
      by_cases hmp : m = p
      · subst hmp
        have HSm7 : Hid (Calls Tryz.prog 13 #[.slice ao m cap, .slice bo m capb] w6 fun e w' => e = .returned (.bool u) ∧ Below w6.heap.size w6 w') := by
          have h := HSm6.out
          rw [decide_eq_true rfl, Bool.true_and] at h
          exact h
        have q3 : ((m : Int) == (m : Int)) = true := by rw [beq_iff_eq]
        clear HSm6
        go_wp2_with fail
        refine HSm7.out.mono ?_
        rintro e w7 ⟨rfl, hB7⟩
        have HR7 := Lib.hid (HRU6.out w7 hB7)
        have HB7 := Lib.hid (HB6.out.trans (hB7.mono HB6.out.size))
        clear hB7
        go_wp2_with fail
        refine HR7.out.mono ?_
        rintro e w8 ⟨rfl, hB8⟩
        have HB8 := Lib.hid (HB7.out.trans (hB8.mono HB7.out.size))
        clear hB8
        go_wp2_with fail
        go_loopw [9, 10, 11, 12, 13] (fun iv _ _ _ _ wr => ∃ i : Nat, i ≤ m ∧ iv = .int .i64 (i : Int) ∧ Below w.heap.size w wr) (fun iv _ _ _ _ _ => m - (intOf iv).toNat)
        case atStart => exact ⟨0, Nat.zero_le _, rfl, HB8.out⟩
        case round =>
          obtain ⟨i, hi, rfl, hB⟩ := hrel
          by_cases hlt : i < m
          · have hlt' : (i : Int) < (m : Int) := by omega
            have hil : i < n.length := by rw [← HM.out]; exact hlt
            obtain ⟨b', o, ao', cap', hao, hc0, hcc, hAv⟩ := HR.out i hil
            subst hao
            have hl := HSS.out n[i] (List.getElem_mem hil)
            have CK1 : Hid (∀ W, Below w.heap.size w W → Calls Tryz.prog 14 #[.slice ao' n[i].length cap'] W fun e w' => KeyE n[i] e ∧ Below W.heap.size W w') := fun W hb => dkey_any ao' cap' n[i] W (Lib.hid (avas_below hAv hb)) (HEb.out W hb) (HTb.out W hb) (Lib.hid hl) hcc
            have CK2 : Hid (∀ W, Below w.heap.size w W → Calls Tryz.prog 15 #[.slice ao' n[i].length cap'] W fun e w' => KeyE n[i] e ∧ Below W.heap.size W w') := fun W hb => rkey_any ao' cap' n[i] W (Lib.hid (avas_below hAv hb)) (Lib.hid hl)
            have HKE : Hid (∀ e, KeyE n[i] e → e = .returned (.tuple #[.string (kvB n[i]), .int .i64 (kvE n[i])])) := fun e h => keyE_k h
            generalize n[i] = l at hc0 CK1 CK2 HKE
            obtain ⟨pl, hpl⟩ : ∃ pl, pl = l.length := ⟨_, rfl⟩
            rw [← hpl] at hc0 CK1 CK2
            obtain ⟨KB, hKB⟩ : ∃ KB, KB = kvB l := ⟨_, rfl⟩
            obtain ⟨ke, hke⟩ : ∃ ke, ke = kvE l := ⟨_, rfl⟩
            rw [← hKB, ← hke] at HKE
            have HC0 := Lib.hid hc0
            have z0 := (hB.cell (World.block_lt_of_cell? w _ hc0)).trans hc0
            have HC1 := Lib.hid (CK1.out wr hB)
            have r1 : (KB.toList == KB.toList) = true := by rw [beq_iff_eq]
            have r2 : (ke == ke) = true := by rw [beq_iff_eq]
            have HBr := Lib.hid hB
            clear hKB hke hpl hc0 hcc hAv hl CK1
            go_wp2_with fail
            refine HC1.out.mono ?_
            rintro e w9 ⟨he, hB9⟩
            obtain rfl := HKE.out e he
            have HB9 := Lib.hid (HBr.out.trans (hB9.mono HBr.out.size))
            have z1 := (HB9.out.cell (World.block_lt_of_cell? w _ HC0.out)).trans HC0.out
            have HC2 := Lib.hid (CK2.out w9 HB9.out)
            clear he hB9 z0
            go_wp2_with fail
            refine HC2.out.mono ?_
            rintro e w10 ⟨he, hB10⟩
            obtain rfl := HKE.out e he
            have HB10 := Lib.hid (HB9.out.trans (hB10.mono HB9.out.size))
            clear he hB10
            go_wp2_with fail
            go_roundw
            case rel => exact ⟨i + 1, by omega, by go_num, HB10.out⟩
            case measure => simp [intOf] <;> omega
          · obtain rfl : i = m := by omega
            go_wp2_with fail
            go_ret
            exact ⟨rfl, hB⟩
      · have HSm7 : Hid (Calls Tryz.prog 13 #[.slice ao m cap, .slice bo p capb] w6 fun e w' => e = .returned (.bool false) ∧ Below w6.heap.size w6 w') := by
          have h := HSm6.out
          rw [decide_eq_false hmp, Bool.false_and] at h
          exact h
        have q3 : ((m : Int) == (p : Int)) = false := by rw [beq_eq_false_iff_ne]; omega
        clear HSm6 hmp
        go_wp2_with fail
        refine HSm7.out.mono ?_
        rintro e w8 ⟨rfl, hB8⟩
        have HB8 := Lib.hid (HB6.out.trans (hB8.mono HB6.out.size))
        clear hB8
        go_wp2_with fail
        go_loopw [9, 10, 11, 12, 13] (fun iv _ _ _ _ wr => ∃ i : Nat, i ≤ m ∧ iv = .int .i64 (i : Int) ∧ Below w.heap.size w wr) (fun iv _ _ _ _ _ => m - (intOf iv).toNat)
        case atStart => exact ⟨0, Nat.zero_le _, rfl, HB8.out⟩
        case round =>
          obtain ⟨i, hi, rfl, hB⟩ := hrel
          by_cases hlt : i < m
          · have hlt' : (i : Int) < (m : Int) := by omega
            have hil : i < n.length := by rw [← HM.out]; exact hlt
            obtain ⟨b', o, ao', cap', hao, hc0, hcc, hAv⟩ := HR.out i hil
            subst hao
            have hl := HSS.out n[i] (List.getElem_mem hil)
            have CK1 : Hid (∀ W, Below w.heap.size w W → Calls Tryz.prog 14 #[.slice ao' n[i].length cap'] W fun e w' => KeyE n[i] e ∧ Below W.heap.size W w') := fun W hb => dkey_any ao' cap' n[i] W (Lib.hid (avas_below hAv hb)) (HEb.out W hb) (HTb.out W hb) (Lib.hid hl) hcc
            have CK2 : Hid (∀ W, Below w.heap.size w W → Calls Tryz.prog 15 #[.slice ao' n[i].length cap'] W fun e w' => KeyE n[i] e ∧ Below W.heap.size W w') := fun W hb => rkey_any ao' cap' n[i] W (Lib.hid (avas_below hAv hb)) (Lib.hid hl)
            have HKE : Hid (∀ e, KeyE n[i] e → e = .returned (.tuple #[.string (kvB n[i]), .int .i64 (kvE n[i])])) := fun e h => keyE_k h
            generalize n[i] = l at hc0 CK1 CK2 HKE
            obtain ⟨pl, hpl⟩ : ∃ pl, pl = l.length := ⟨_, rfl⟩
            rw [← hpl] at hc0 CK1 CK2
            obtain ⟨KB, hKB⟩ : ∃ KB, KB = kvB l := ⟨_, rfl⟩
            obtain ⟨ke, hke⟩ : ∃ ke, ke = kvE l := ⟨_, rfl⟩
            rw [← hKB, ← hke] at HKE
            have HC0 := Lib.hid hc0
            have z0 := (hB.cell (World.block_lt_of_cell? w _ hc0)).trans hc0
            have HC1 := Lib.hid (CK1.out wr hB)
            have r1 : (KB.toList == KB.toList) = true := by rw [beq_iff_eq]
            have r2 : (ke == ke) = true := by rw [beq_iff_eq]
            have HBr := Lib.hid hB
            clear hKB hke hpl hc0 hcc hAv hl CK1
            go_wp2_with fail
            refine HC1.out.mono ?_
            rintro e w9 ⟨he, hB9⟩
            obtain rfl := HKE.out e he
            have HB9 := Lib.hid (HBr.out.trans (hB9.mono HBr.out.size))
            have z1 := (HB9.out.cell (World.block_lt_of_cell? w _ HC0.out)).trans HC0.out
            have HC2 := Lib.hid (CK2.out w9 HB9.out)
            clear he hB9 z0
            go_wp2_with fail
            refine HC2.out.mono ?_
            rintro e w10 ⟨he, hB10⟩
            obtain rfl := HKE.out e he
            have HB10 := Lib.hid (HB9.out.trans (hB10.mono HB9.out.size))
            clear he hB10
            go_wp2_with fail
            go_roundw
            case rel => exact ⟨i + 1, by omega, by go_num, HB10.out⟩
            case measure => simp [intOf] <;> omega
          · obtain rfl : i = m := by omega
            go_wp2_with fail
            go_ret
            exact ⟨rfl, hB⟩
end dnw
end Go.Proofs.YtjjbmhndakmkbaaGreatDoor
