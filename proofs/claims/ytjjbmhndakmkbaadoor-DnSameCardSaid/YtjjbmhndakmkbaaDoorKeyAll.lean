/- One text out of several: TupP, Trim, TupW, ShelfS, KeyP, KeyW, KeysW, UnderW. -/
import Derived.Lib.Replace
import Derived.Lib.CountLaws
import Derived.Test.YtjjbmhndakmkbaaDoorReadyW
import Derived.Test.YtjjbmhndakmkbaaDoorKindW
import Derived.Test.YtjjbmhndakmkbaaDoorBuildS
import Derived.Shelf.Sort.Plain
import Derived.Shelf.Slices.In.SortNone
import Derived.Test.YtjjbmhndakmkbaaDoorShelf
import Derived.Test.YtjjbmhndakmkbaaDoorPrintQ
import Derived.Test.YtjjbmhndakmkbaaDoorDPrintW
import Derived.Sort.OwnSorted
namespace Go.Proofs.YtjjbmhndakmkbaaDoor
namespace tup
open Go.Lib

def rep (old new s : List UInt8) : List UInt8 := replaceK old new (count s old) s
theorem replaceAll_rep {old new : List UInt8} (h : (old == new) = false) (s : List UInt8) : replaceAll s old new = rep old new s := by
  unfold replaceAll replace rep replaceNum
  rw [h]
  simp
theorem rep_nil {old new : List UInt8} (h : old ≠ []) : rep old new [] = [] := by
  have h1 : index [] old = -1 := by
    unfold index
    cases old with
    | nil => exact absurd rfl h
    | cons a t => rfl
  unfold rep
  rw [count_miss h1]
  rfl
theorem rep_miss {old new : List UInt8} (ho : old ≠ []) (x : UInt8) (r : List UInt8) (h : old.isPrefixOf (x :: r) = false) : rep old new (x :: r) = x :: rep old new r := by
  have hi : index (x :: r) old = if index r old == -1 then -1 else index r old + 1 := by
    rw [index, h]; rfl
  by_cases hm : index r old = -1
  · rw [hm] at hi
    have hi' : index (x :: r) old = -1 := hi
    unfold rep
    rw [count_miss hi', count_miss hm]
    rfl
  · have hge := index_ge r old
    obtain ⟨i, hi0⟩ : ∃ i : Nat, index r old = i := ⟨(index r old).toNat, by omega⟩
    have hi1 : index (x :: r) old = ((i + 1 : Nat) : Int) := by
      rw [hi, hi0, if_neg (by simp)]; rfl
    unfold rep
    rw [count_hit ho hi0, count_hit ho hi1, Nat.add_comm 1, Nat.add_comm 1, replaceK_hit _ _ _ _ _ hi0, replaceK_hit _ _ _ _ _ hi1]
    have e : i + 1 + old.length = (i + old.length) + 1 := by omega
    rw [e]
    simp
theorem rep_hit {old new : List UInt8} (ho : old ≠ []) (r : List UInt8) : rep old new (old ++ r) = new ++ rep old new r := by
  have hi : index (old ++ r) old = ((0 : Nat) : Int) := index_first (i := 0) (Nat.zero_le _) (by simp [occAt]) (fun _ h => absurd h (Nat.not_lt_zero _))
  unfold rep
  rw [count_hit ho hi, Nat.add_comm 1, replaceK_hit _ _ _ _ _ hi]
  simp

/-- a null byte is followed by 255 -/
def esc : List UInt8 → List UInt8
  | [] => []
  | c :: r => (if c = 0 then [0, 255] else [c]) ++ esc r
theorem replace_esc (s : List UInt8) : replaceAll s [0] [0, 255] = esc s := by
  rw [replaceAll_rep (by decide)]
  induction s with
  | nil => exact rep_nil (by simp)
  | cons c r ih =>
    by_cases hc : c = 0
    · subst hc
      have := rep_hit (old := [0]) (new := [0, 255]) (by simp) r
      rw [List.singleton_append] at this
      rw [this, ih]
      rfl
    · rw [rep_miss (by simp) c r (by
        rw [Bool.eq_false_iff]
        intro e
        simp [List.isPrefixOf] at e
        exact hc e.symm), ih]
      simp [esc, hc]
def unesc : List UInt8 → List UInt8
  | [] => []
  | [c] => [c]
  | c :: d :: r => if c = 0 ∧ d = 255 then 0 :: unesc r else c :: unesc (d :: r)
theorem replace_unesc : ∀ s : List UInt8, rep [0, 255] [0] s = unesc s
  | [] => rep_nil (by simp)
  | [c] => by
    rw [rep_miss (by simp) c [] (by simp [List.isPrefixOf]), rep_nil (by simp)]
    rfl
  | c :: d :: r => by
    by_cases h : c = 0 ∧ d = 255
    · obtain ⟨rfl, rfl⟩ := h
      have := rep_hit (old := [0, 255]) (new := [0]) (by simp) r
      simp only [List.cons_append, List.nil_append] at this
      rw [this, replace_unesc r]
      simp [unesc]
    · rw [rep_miss (by simp) c (d :: r) (by
        rw [Bool.eq_false_iff]
        intro e
        apply h
        simp [List.isPrefixOf] at e
        exact ⟨e.1.symm, e.2.symm⟩), replace_unesc (d :: r)]
      simp [unesc, h]
theorem replaceAll_unesc (s : List UInt8) : replaceAll s [0, 255] [0] = unesc s := by
  rw [replaceAll_rep (by decide), replace_unesc]
theorem esc_length (s : List UInt8) : s.length ≤ (esc s).length ∧ (esc s).length ≤ 2 * s.length := by
  induction s with
  | nil => simp [esc]
  | cons c r ih =>
    simp only [esc, List.length_append, List.length_cons]
    split <;> simp <;> omega
theorem unesc_esc (s : List UInt8) : unesc (esc s) = s := by
  induction s with
  | nil => rfl
  | cons c r ih =>
    by_cases hc : c = 0
    · subst hc
      simp [esc, unesc, ih]
    · simp only [esc, hc, if_false, List.singleton_append]
      cases he : esc r with
      | nil => 
        rw [he] at ih
        simp [unesc] at ih ⊢
        exact ih
      | cons d t =>
        rw [he] at ih
        simp [unesc, hc, ih]

/-- the bytes of a tuple -/
def bytes : List ByteArray → List UInt8
  | [] => []
  | p :: r => esc p.data.toList ++ [0, 1] ++ bytes r
theorem bytes_append (a b : List ByteArray) : bytes (a ++ b) = bytes a ++ bytes b := by
  induction a with
  | nil => rfl
  | cons p r ih => simp [bytes, ih]
theorem bytes_mem {l : List ByteArray} {p : ByteArray} (h : p ∈ l) : p.size ≤ (bytes l).length := by
  induction l with
  | nil => cases h
  | cons q r ih =>
    have he := (esc_length q.data.toList).1
    rcases List.mem_cons.1 h with rfl | h'
    · simp only [bytes, List.length_append]
      simp at he
      omega
    · have := ih h'
      simp only [bytes, List.length_append]
      omega
theorem bytes_small {l : List ByteArray} (h : ∀ p ∈ l, p.size ≤ 4096) : (bytes l).length ≤ 8194 * l.length := by
  induction l with
  | nil => simp [bytes]
  | cons q r ih =>
    have he := (esc_length q.data.toList).2
    have h1 := h q (by simp)
    have h2 := ih (fun p hp => h p (by simp [hp]))
    simp at he
    simp only [bytes, List.length_append, List.length_cons]
    simp
    omega
/-- what Tuple answers -/
def out (l : List ByteArray) : ByteArray × Int :=
  if 16 < l.length then (⟨#[]⟩, 1) else if 4096 < (bytes l).length then (⟨#[]⟩, 5) else (⟨(bytes l).toArray⟩, 0)
end tup
end Go.Proofs.YtjjbmhndakmkbaaDoor
namespace Go.Proofs.YtjjbmhndakmkbaaDoor
open Go.RowKit
namespace trm
def Env (w : World) : Prop := (∃ m : Int, w.cell? ⟨0, 0, none⟩ = some (.int .i64 m)) ∧ Lib.Utf8Tabs 1 2 w
theorem env_below {w w' : World} (h : Env w) (hb : Below w.heap.size w w') : Env w' := by
  obtain ⟨⟨m, hm⟩, ht⟩ := h
  exact ⟨⟨m, (hb.cell (World.block_lt_of_cell? w _ hm)).trans hm⟩, Utf8Tabs_below ht hb⟩
end trm
end Go.Proofs.YtjjbmhndakmkbaaDoor
namespace Go.Proofs.YtjjbmhndakmkbaaDoor
open Go.RowKit
namespace tupw
/-- a row of texts lies at a slice -/
def Strs (w : World) (ao : Option Addr) (l : List ByteArray) : Prop := ∀ (i : Nat) (h : i < l.length), ∃ b o, ao = some ⟨b, o, none⟩ ∧ w.cell? ⟨b, o + i, none⟩ = some (.string l[i])
theorem strs_below {w w' : World} {ao : Option Addr} {l : List ByteArray} (h : Strs w ao l) (hb : Below w.heap.size w w') : Strs w' ao l := by
  intro i hi
  obtain ⟨b, o, e, hc⟩ := h i hi
  exact ⟨b, o, e, (hb.cell (World.block_lt_of_cell? w _ hc)).trans hc⟩
theorem is_below {B b : Nat} {l : List UInt8} {w w' : World} (h : bld.Is B b l w) (hb : Below w.heap.size w w') : bld.Is B b l w' := by
  rcases h with h | h
  · obtain ⟨hB, v, hk, ho, hn⟩ := h
    exact Or.inl ⟨hB, v, (hb.block b (bld.lt_of_heap hk)).trans hk, kt.row_below ho hb, hn⟩
  · obtain ⟨hB, v, hk, ho, hn⟩ := h
    exact Or.inr ⟨hB, v, (hb.block b (bld.lt_of_heap hk)).trans hk, kt.row_below ho hb, hn⟩
def tupV (r : ByteArray × Int) : Value := .tuple #[.string r.1, .int .i64 r.2]

set_option maxHeartbeats 1000000 in
theorem tuple_any (ao : Option Addr) (cap : Nat) (l : List ByteArray) (w : World) (hE : Hid (trm.Env w)) (hl : Hid (Strs w ao l)) :
    Calls Tryd.prog 61 #[.slice ao l.length cap] w fun e w' => e = .returned (tupV (tup.out l)) ∧ Below w.heap.size w w' := by
  by_cases c16 : 16 < l.length
  · have hp : tup.out l = (⟨#[]⟩, 1) := by unfold tup.out; rw [if_pos c16]
    have HP := Lib.hid hp
    clear hp
    have c16' : 16 < (l.length : Int) := by omega
    go_enter Tryd.func61, Tryd.ntmps61
    go_wp2_with fail
    go_ret2
    exact ⟨by rw [HP.out]; rfl, Below.refl _ _⟩
  · have c16' : ¬ 16 < (l.length : Int) := by omega
    go_enter Tryd.func61, Tryd.ntmps61
    go_wp2_with fail
    go_loopw [12] (fun iv wr => ∃ i : Nat, i ≤ l.length ∧ iv = .int .i64 i ∧ Hid (∀ p ∈ l.take i, p.size ≤ 4096) ∧ Hid (bld.Is w.heap.size w.heap.size (tup.bytes (l.take i)) wr) ∧ Below w.heap.size w wr) (fun iv _ => l.length - (intOf iv).toNat)
    case atStart => exact ⟨0, Nat.zero_le _, rfl, fun p hp => by simp at hp, bld.fresh w, (Below.refl _ _).alloc (Nat.le_refl _) _⟩
    case round =>
      obtain ⟨i, hi, rfl, hsm, hI, hB⟩ := hrel
      have hsz := hB.size
      by_cases hil : i < l.length
      · obtain ⟨b, o, hao, hc0⟩ := hl.out i hil
        have hc := (hB.cell (World.block_lt_of_cell? w _ hc0)).trans hc0
        clear hc0
        obtain ⟨p, hp⟩ : ∃ p : ByteArray, Hid (p = l[i]) := ⟨l[i], rfl⟩
        rw [← hp.out] at hc
        subst hao
        by_cases cp : 4096 < p.size
        · have hbig : tup.out l = (⟨#[]⟩, 5) := by
            have := tup.bytes_mem (l := l) (p := l[i]) (List.getElem_mem hil)
            rw [← hp.out] at this
            unfold tup.out
            rw [if_neg c16, if_pos (by omega)]
          have HP := Lib.hid hbig
          clear hbig
          have cp' : 4096 < (p.size : Int) := by omega
          go_wp2_with fail
          go_ret2
          exact ⟨by rw [HP.out]; rfl, hB⟩
        · have cp' : ¬ 4096 < (p.size : Int) := by omega
          obtain ⟨⟨m, hm⟩, _⟩ := trm.env_below hE.out hB
          have hcl := Lib.count_le p.data.toList [0]
          have C := Tryd.strings_ReplaceAll p ⟨#[0]⟩ ⟨#[0, 255]⟩ m wr (by omega) hm (by decide) (by
            have : Lib.countB p ⟨#[0]⟩ ≤ p.size + 1 := by simpa [Lib.countB] using hcl
            show p.size + Lib.countB p ⟨#[0]⟩ * 2 ≤ _
            omega)
          rw [show (Lib.replaceAll p.data.toList (ByteArray.mk #[0]).data.toList (ByteArray.mk #[0, 255]).data.toList) = tup.esc p.data.toList from tup.replace_esc _] at C
          obtain ⟨q, hq⟩ : ∃ q : ByteArray, Hid (q = ⟨(tup.esc p.data.toList).toArray⟩) := ⟨_, rfl⟩
          rw [← hq.out] at C
          have hqs : q.size ≤ 8192 := by
            have := (tup.esc_length p.data.toList).2
            rw [kt.size_len] at this
            have h2 : q.size = (tup.esc p.data.toList).length := by rw [hq.out]; rfl
            omega
          have HC := Lib.hid C
          clear C hcl hm
          have hbl : (tup.bytes (l.take i)).length ≤ 131104 := by
            have := tup.bytes_small hsm.out
            rw [List.length_take] at this
            omega
          go_wp2_with fail
          refine HC.out.mono ?_
          rintro e w1 ⟨rfl, hB1⟩
          have hI1 := is_below hI.out hB1
          have W1 := Lib.hid (bld.writeString_any _ _ _ q w1 hI1 (by omega) (Nat.le_trans hsz hB1.size))
          clear hI1
          go_wp2_with fail
          refine W1.out.mono ?_
          rintro e w2 ⟨rfl, hI2, hB2⟩
          have hs2 : w.heap.size ≤ w2.heap.size := Nat.le_trans (Nat.le_trans hsz hB1.size) hB2.size
          have hqd : q.data.toList = tup.esc p.data.toList := by rw [hq.out]
          have W2 := Lib.hid (bld.writeString_any _ _ _ ⟨#[0, 1]⟩ w2 hI2 (by rw [List.length_append, kt.size_len]; show _ + 2 ≤ _; omega) hs2)
          clear hI2
          go_wp2_with fail
          refine W2.out.mono ?_
          rintro e w3 ⟨rfl, hI3, hB3⟩
          have hI3' := Lib.hid hI3
          clear hI3
          have ht : tup.bytes (l.take (i + 1)) = tup.bytes (l.take i) ++ q.data.toList ++ [0, 1] := by
            rw [List.take_succ_eq_append_getElem hil, tup.bytes_append, hqd, ← hp.out]
            simp [tup.bytes]
          have HT := Lib.hid ht
          have HS : Hid (∀ p ∈ l.take (i + 1), p.size ≤ 4096) := by
            rw [List.take_succ_eq_append_getElem hil]
            intro r hr
            rcases List.mem_append.1 hr with h | h
            · exact hsm.out r h
            · rw [List.mem_singleton.1 h, ← hp.out]; omega
          clear ht hqd
          go_wp2_with fail
          go_roundw
          case rel => exact ⟨i + 1, by omega, by go_num, HS, by rw [HT.out]; exact hI3'.out, ((hB.trans (hB1.mono hsz)).trans hB2).trans hB3⟩
          case measure => simp [intOf]; omega
      · obtain rfl : i = l.length := by omega
        have hI' := hI
        have hsm' := hsm.out
        rw [List.take_of_length_le (Nat.le_refl _)] at hI' hsm'
        have hbl := tup.bytes_small hsm'
        clear hsm hsm' hI
        have hL := (Tryd.Builder_Len _ _ _ wr hI'.out)
        rw [Lib.byteCells_length] at hL
        have HL := Lib.hid hL
        clear hL
        have hil' : ¬ (l.length : Int) < (l.length : Int) := by omega
        go_wp2_with fail
        refine HL.out.mono ?_
        rintro e w1 ⟨rfl, rfl⟩
        by_cases hb : 4096 < (tup.bytes l).length
        · have hp : tup.out l = (⟨#[]⟩, 5) := by unfold tup.out; rw [if_neg c16, if_pos hb]
          have HP := Lib.hid hp
          have hb' : 4096 < ((tup.bytes l).length : Int) := by omega
          clear hp hb
          go_wp2_with fail
          go_ret2
          exact ⟨by rw [HP.out]; rfl, hB⟩
        · have hp : tup.out l = (⟨(tup.bytes l).toArray⟩, 0) := by unfold tup.out; rw [if_neg c16, if_neg hb]
          have HP := Lib.hid hp
          have hb' : ¬ 4096 < ((tup.bytes l).length : Int) := by omega
          clear hp hb
          have HSt := Lib.hid (Tryd.Builder_String_any _ _ _ w1 hI'.out hsz)
          go_wp2_with fail
          refine HSt.out.mono ?_
          rintro e w2 ⟨rfl, hB2⟩
          go_wp2_with fail
          go_ret2
          exact ⟨by rw [HP.out]; rfl, hB.trans hB2⟩
end tupw
end Go.Proofs.YtjjbmhndakmkbaaDoor
namespace Go.Proofs
open Go.Shelf
def Tryd.lays190_ren : Go.Shelf.Ren := ⟨fun | 190 => 62 | 125 => 78 | 258 => 77 | 128 => 101 | 129 => 102 | 302 => 92 | 303 => 93 | 304 => 94 | 305 => 95 | 306 => 96 | 307 => 97 | 308 => 98 | 309 => 99 | 310 => 100 | 333 => 108 | 329 => 109 | 330 => 110 | 334 => 111 | 335 => 112 | 336 => 113 | 344 => 117 | n => n, fun | 31 => 51 | 9 => 9 | 3 => 3 | 46 => 81 | 0 => 0 | 51 => 118 | 53 => 120 | 4 => 4 | 183 => 111 | 182 => 110 | 131 => 115 | 5 => 5 | 218 => 129 | 222 => 133 | 228 => 136 | 229 => 127 | n => n, fun | n => n⟩
theorem Tryd.lays190 : Go.Proofs.Lays.n190 Tryd.prog Tryd.lays190_ren := {
  mixed := by kernel_rfl
  f125 := Tryd.func78.trans (congrArg some (by kernel_rfl))
  f128 := Tryd.func101.trans (congrArg some (by kernel_rfl))
  f129 := Tryd.func102.trans (congrArg some (by kernel_rfl))
  f190 := Tryd.func62.trans (congrArg some (by kernel_rfl))
  f258 := Tryd.func77.trans (congrArg some (by kernel_rfl))
  f302 := Tryd.func92.trans (congrArg some (by kernel_rfl))
  f303 := Tryd.func93.trans (congrArg some (by kernel_rfl))
  f304 := Tryd.func94.trans (congrArg some (by kernel_rfl))
  f305 := Tryd.func95.trans (congrArg some (by kernel_rfl))
  f306 := Tryd.func96.trans (congrArg some (by kernel_rfl))
  f307 := Tryd.func97.trans (congrArg some (by kernel_rfl))
  f308 := Tryd.func98.trans (congrArg some (by kernel_rfl))
  f309 := Tryd.func99.trans (congrArg some (by kernel_rfl))
  f310 := Tryd.func100.trans (congrArg some (by kernel_rfl))
  f329 := Tryd.func109.trans (congrArg some (by kernel_rfl))
  f330 := Tryd.func110.trans (congrArg some (by kernel_rfl))
  f333 := Tryd.func108.trans (congrArg some (by kernel_rfl))
  f334 := Tryd.func111.trans (congrArg some (by kernel_rfl))
  f335 := Tryd.func112.trans (congrArg some (by kernel_rfl))
  f336 := Tryd.func113.trans (congrArg some (by kernel_rfl))
  f344 := Tryd.func117.trans (congrArg some (by kernel_rfl))
  t0 := Tryd.underlying0
  a0 := Tryd.isAgg0
  z0 := Tryd.sizeOf0
  v0 := Tryd.zeroValue0
  t3 := Tryd.underlying3
  a3 := Tryd.isAgg3
  z3 := Tryd.sizeOf3
  v3 := Tryd.zeroValue3
  t4 := Tryd.underlying4
  a4 := Tryd.isAgg4
  z4 := Tryd.sizeOf4
  v4 := Tryd.zeroValue4
  t5 := Tryd.underlying5
  a5 := Tryd.isAgg5
  z5 := Tryd.sizeOf5
  v5 := Tryd.zeroValue5
  t9 := Tryd.underlying9
  a9 := Tryd.isAgg9
  z9 := Tryd.sizeOf9
  v9 := Tryd.zeroValue9
  t31 := Tryd.underlying51
  a31 := Tryd.isAgg51
  z31 := Tryd.sizeOf51
  v31 := Tryd.zeroValue51
  t46 := Tryd.underlying81
  a46 := Tryd.isAgg81
  z46 := Tryd.sizeOf81
  v46 := Tryd.zeroValue81
  t51 := Tryd.underlying118
  a51 := Tryd.isAgg118
  z51 := Tryd.sizeOf118
  v51 := Tryd.zeroValue118
  t53 := Tryd.underlying120
  a53 := Tryd.isAgg120
  z53 := Tryd.sizeOf120
  v53 := Tryd.zeroValue120
  t131 := Tryd.underlying115
  a131 := Tryd.isAgg115
  z131 := Tryd.sizeOf115
  v131 := Tryd.zeroValue115
  t182 := Tryd.underlying110
  a182 := Tryd.isAgg110
  z182 := Tryd.sizeOf110
  v182 := Tryd.zeroValue110
  t183 := Tryd.underlying111
  a183 := Tryd.isAgg111
  z183 := Tryd.sizeOf111
  v183 := Tryd.zeroValue111
  t218 := Tryd.underlying129
  a218 := Tryd.isAgg129
  z218 := Tryd.sizeOf129
  v218 := Tryd.zeroValue129
  t222 := Tryd.underlying133
  a222 := Tryd.isAgg133
  z222 := Tryd.sizeOf133
  v222 := Tryd.zeroValue133
  t228 := Tryd.underlying136
  a228 := Tryd.isAgg136
  z228 := Tryd.sizeOf136
  v228 := Tryd.zeroValue136
  t229 := Tryd.underlying127
  a229 := Tryd.isAgg127
  z229 := Tryd.sizeOf127
  v229 := Tryd.zeroValue127 }
open Go.Sort Go.RowKit in
theorem Tryd.slices_Sort_string (blk off cap : Nat) (ss : List (List UInt8)) (w : World) (hH : Holds encStr w blk off ss.toArray) (hblk : blk < w.heap.size) (hsz : ss.length < 4611686018427387904) :
    Calls Tryd.prog 62 #[.slice (some ⟨blk, off, none⟩) ss.length cap] w fun e w' =>
      e = .returned (.tuple #[]) ∧ ∃ n os, w' = grow (putRow encStr (Sort.ahead w n) blk off (ss.mergeSort fun x y => decide (x ≤ y)).toArray) os := Any.slices_Sort_string Tryd.lays190 blk off cap ss w hH hblk hsz
open Go.RowKit Go.Sort in
/-- .. and plain. (LAID: no walk: one application.) -/
theorem Tryd.slices_Sort_string_none (p : Option Addr) (cap : Nat) (w : World) :
    Calls Tryd.prog 62 #[.slice p 0 cap] w fun e w' => e = .returned (.tuple #[]) ∧ w' = w := Any.slices_Sort_string_none Tryd.lays190 p cap w
end Go.Proofs
namespace Go.Proofs.YtjjbmhndakmkbaaDoor
namespace dnw
open dnp
set_option linter.unusedVariables false
set_option linter.unusedSimpArgs false
/-- a value made ready -/
def rv (v : List UInt8) : List UInt8 := (prp.readyO v true).getD []
theorem rv_ok {v : List UInt8} (h : valOK v = true) : prp.readyO v true = some (rv v) := by
  unfold valOK at h
  unfold rv
  cases hr : prp.readyO v true with
  | none => rw [hr] at h; simp at h
  | some t => rfl
def partB (a : Av) : ByteArray := (tup.out [a.t, ⟨(rv a.v.data.toList).toArray⟩]).1
theorem partB_len (a : Av) : (partB a).size ≤ 4096 := by
  unfold partB tup.out
  rw [if_neg (by simp)]
  split
  · exact Nat.zero_le _
  · rename_i h
    rw [← kt.size_len]
    show (tup.bytes _).length ≤ _
    omega
def sortL (l : List (List UInt8)) : List (List UInt8) := l.mergeSort fun x y => decide (x ≤ y)
theorem sortL_sorted (l : List (List UInt8)) : (sortL l).Pairwise (fun x y => x ≤ y) := by
  have h := List.pairwise_mergeSort (le := fun x y : List UInt8 => decide (x ≤ y)) (fun a b c h1 h2 => by
    simp only [decide_eq_true_eq] at h1 h2 ⊢
    exact List.le_trans h1 h2) (fun a b => by
    simp only [Bool.or_eq_true, decide_eq_true_eq]
    exact List.le_total a b) l
  exact h.imp (fun h => by simpa using h)
theorem sorted_eq {a b : List (List UInt8)} (ha : a.Pairwise (fun x y => x ≤ y)) (hb : b.Pairwise (fun x y => x ≤ y)) (h : a.Perm b) : a = b :=
  List.Perm.eq_of_pairwise (le := fun x y => x ≤ y) (fun x y _ _ h1 h2 => List.le_antisymm h1 h2) ha hb h
theorem sortL_perm {a b : List (List UInt8)} (h : a.Perm b) : sortL a = sortL b :=
  sorted_eq (sortL_sorted a) (sortL_sorted b) (((List.mergeSort_perm a _).trans h).trans (List.mergeSort_perm b _).symm)
def partsL (l : List Av) : List (List UInt8) := l.map fun a => (partB a).data.toList
/-- a relative name's key -/
def keyL (l : List Av) : List UInt8 := (sortL (partsL l)).flatten
theorem keyL_perm {a b : List Av} (h : a.Perm b) : keyL a = keyL b := by
  unfold keyL partsL
  rw [sortL_perm (h.map _)]
theorem join_flat (xs : List (List UInt8)) : Lib.join xs [] = xs.flatten := by
  cases xs with
  | nil => rfl
  | cons x r =>
    rw [Lib.join_cons, Lib.joinTail, List.flatten_cons]
    congr 2
    simp
theorem flatten_len_le (k : Nat) : ∀ l : List (List UInt8), (∀ x ∈ l, x.length ≤ k) → l.flatten.length ≤ l.length * k
  | [], _ => by simp
  | x :: l, h => by
    have h1 := h x (by simp)
    have h2 := flatten_len_le k l (fun y hy => h y (by simp [hy]))
    rw [List.flatten_cons, List.length_append, List.length_cons, Nat.add_mul]
    omega
theorem keyL_len (l : List Av) : (keyL l).length ≤ l.length * 4096 := by
  have h := flatten_len_le 4096 (sortL (partsL l)) (fun x hx => by
    have := (List.mergeSort_perm (partsL l) _).mem_iff.1 hx
    unfold partsL at this
    obtain ⟨a, _, rfl⟩ := List.mem_map.1 this
    rw [kt.size_len]
    exact partB_len a)
  have h2 : (sortL (partsL l)).length = l.length := by unfold sortL partsL; simp
  rw [h2] at h
  exact h
/-- a name's keys, the topmost first -/
def keysL (n : List (List Av)) : List (List UInt8) := n.reverse.map keyL
def keysB (n : List (List Av)) : List ByteArray := n.reverse.map fun l => ⟨(keyL l).toArray⟩
def underR (n b : List (List Av)) : Bool := nameOK n && nameOK b && decide (b.length ≤ n.length) && decide ((keysB n).take b.length = keysB b)
def sameR (n b : List (List Av)) : Bool := decide (n.length = b.length) && underR n b
theorem keysB_len (n : List (List Av)) : (keysB n).length = n.length := by simp [keysB]
end dnw
end Go.Proofs.YtjjbmhndakmkbaaDoor
namespace Go.Proofs.YtjjbmhndakmkbaaDoor
open Go.RowKit
namespace dnw
open dnp
set_option linter.unusedVariables false
set_option linter.unusedSimpArgs false
theorem trmEnv {w : World} (hE : prw.Env w) (hT : Tabs w) : trm.Env w := ⟨hE, hT⟩
theorem scells_enc (l : List ByteArray) : prw.scells l = (l.map (·.data.toList)).map encStr := by
  unfold prw.scells
  rw [List.map_map]
  rfl
theorem sortT {w : World} {B : Nat} {ao : Option Addr} {m cap : Nat} {l : List ByteArray} (h : prw.OwnT w B (.slice ao m cap) l) (hl : l.length ≤ 1000000) (hB : B ≤ w.heap.size) :
    Calls Tryd.prog 62 #[.slice ao m cap] w fun e w' => e = .returned (.tuple #[]) ∧ prw.OwnT w' B (.slice ao m cap) ((sortL (l.map (·.data.toList))).map bytes) ∧ Below B w w' := by
  obtain ⟨ss, hss⟩ : ∃ ss, ss = l.map (·.data.toList) := ⟨_, rfl⟩
  have hsl : ss.length = l.length := by rw [hss]; simp
  have hm : m = l.length := by
    obtain ⟨ao', cap', hv, _, _⟩ := prw.ownT_cells h
    simp only [Value.slice.injEq] at hv
    exact hv.2.1
  subst hm
  have hrow : w.ownsRow B 9 1 (.slice ao l.length cap) ss.length (ss.map encStr) := by
    have h1 : w.ownsRow B 9 1 (.slice ao l.length cap) (prw.scells l).length (prw.scells l) := h
    rw [scells_enc, ← hss, List.length_map] at h1
    exact h1
  have hsort : ((sortL ss).map bytes).map (·.data.toList) = sortL ss := by
    rw [List.map_map]
    conv => rhs; rw [← List.map_id (sortL ss)]
    apply List.map_congr_left
    intro x _
    rfl
  have hsn : (sortL ss).length = ss.length := by unfold sortL; simp
  rw [← hss]
  rcases hrow.2 with ⟨hv, h0⟩ | ⟨g, cap', cur, hv, hBg, hg, h1, h2, h3, h4⟩
  · simp only [Value.slice.injEq] at hv
    obtain ⟨rfl, hl0, rfl⟩ := hv
    have hs0 : ss = [] := List.eq_nil_of_length_eq_zero h0
    rw [hl0]
    refine (Tryd.slices_Sort_string_none none 0 w).mono ?_
    rintro e w' ⟨rfl, h2⟩
    have h2 : w' = w := by first | exact h2 | exact h2.symm
    subst h2
    refine ⟨rfl, ?_, Below.refl _ _⟩
    rw [hs0]
    have hn : sortL [] = [] := by unfold sortL; simp
    rw [hn]
    exact World.ownsRow_nil w' B _ _
  · simp only [Value.slice.injEq] at hv
    obtain ⟨rfl, _, rfl⟩ := hv
    rw [Nat.mul_one] at h4
    have hH := holds_of_block hg h4
    have CS := Tryd.slices_Sort_string g 0 cap ss w hH (bld.lt_of_heap hg) (by omega)
    rw [hsl] at CS
    refine CS.mono ?_
    rintro e w' ⟨rfl, n, os, rfl⟩
    have ho := ownsRow_sorted (n := n) (os := os) (ts := sortL ss) hsn hBg hg h1 h2 h3
    refine ⟨rfl, ?_, (Below.refl B w).grown (grownBy_sorted _) hB (fun k hk => by cases hk; exact hBg)⟩
    unfold prw.OwnT
    rw [scells_enc, hsort, List.length_map, hsn]
    rw [hsl] at ho ⊢
    exact ho
/-- what Tuple's part is, of a pair -/
theorem part_any (x : Av) (R : ByteArray) (hR : R = ⟨(rv x.v.data.toList).toArray⟩) (ao : Option Addr) (cap : Nat) (w : World) (hE : Hid (trm.Env w)) (hS : Hid (tupw.Strs w ao [x.t, R])) :
    Calls Tryd.prog 61 #[.slice ao 2 cap] w fun e w' => (∃ er : Int, e = .returned (.tuple #[.string (partB x), .int .i64 er])) ∧ Below w.heap.size w w' := by
  refine (tupw.tuple_any ao cap [x.t, R] w hE hS).mono ?_
  rintro e w' ⟨rfl, hb⟩
  exact ⟨⟨(tup.out [x.t, R]).2, by unfold tupw.tupV partB; rw [hR]⟩, hb⟩
set_option maxRecDepth 20000 in
set_option maxHeartbeats 4000000 in
theorem key_any (ao : Option Addr) (cap : Nat) (l : List Av) (w : World) (hA : Hid (Avas w ao l)) (hE : Hid (prw.Env w)) (hT : Hid (Tabs w)) (hok : rdnOK l = true) :
    Calls Tryd.prog 50 #[.slice ao l.length cap] w fun e w' => e = .returned (.string (bytes (keyL l))) ∧ Below w.heap.size w w' := by
  have h4 := (rdnOK_facts hok).2.1
  have HX := Lib.hid (rdnOK_av hok)
  obtain ⟨m, hm⟩ : ∃ m, m = l.length := ⟨_, rfl⟩
  have HM := Lib.hid hm
  rw [← hm] at h4 ⊢
  clear hm hok
  go_enter Tryd.func50, Tryd.ntmps50
  go_wp2_with fail
  go_loopw [3, 5, 6, 7, 8, 9, 12] (fun pv _ _ _ _ _ iv wr => ∃ (i : Nat), i ≤ m ∧ iv = .int .i64 (i : Int) ∧ Hid (prw.OwnT wr w.heap.size pv ((l.take i).map partB)) ∧ Below w.heap.size w wr) (fun _ _ _ _ _ _ iv _ => m - (intOf iv).toNat)
  case atStart => exact ⟨0, Nat.zero_le _, rfl, World.ownsRow_nil _ _ _ _, Below.refl _ _⟩
  case round =>
    obtain ⟨i, hi, rfl, hO, hB⟩ := hrel
    have hsz := hB.size
    obtain ⟨aoR, mR, capR, rfl, hmR⟩ := ownT_form hO.out
    by_cases hlt : i < m
    · have hlt' : (i : Int) < (m : Int) := by omega
      have hil : i < l.length := by rw [← HM.out]; exact hlt
      obtain ⟨b, o, hao, c0, c1⟩ := (avas_below hA.out hB) i hil
      subst hao
      have HST := takeMap_step partB l i hil
      have hxx := HX.out l[i] (List.getElem_mem hil)
      generalize l[i] = x at c0 c1 HST hxx
      obtain ⟨R, hR⟩ : ∃ R : ByteArray, R = ⟨(rv x.v.data.toList).toArray⟩ := ⟨_, rfl⟩
      have hvs : x.v.size ≤ 1000000 := by have := valOK_le hxx.2; rw [kt.size_len] at this; omega
      have HRD : Hid (∀ W, Below w.heap.size w W → Calls Tryd.prog 59 #[.string x.v, .bool true] W fun e w' => e = .returned (.tuple #[.string R, .int .i64 0]) ∧ Below W.heap.size W w') := by
        intro W hb
        have := prw.ready_any x.v true W hvs (Lib.hid (prw.env_below hE.out hb))
        rw [rv_ok hxx.2] at this
        rw [hR]
        exact this
      have HST := Lib.hid HST
      have HRe := Lib.hid hR
      obtain ⟨w5, hw5⟩ : ∃ w5, w5 = wr.alloc (.cells #[.string x.t, .string x.v] 36) := ⟨_, rfl⟩
      have e0 : w5.cell? ⟨wr.heap.size, 0, none⟩ = some (.string x.t) := by rw [hw5, World.cell?_alloc_new]; rfl
      have HB5 : Hid (Below w.heap.size w w5) := by
        show Below _ _ _
        rw [hw5]
        exact hB.alloc hsz _
      have HO5 : Hid (prw.OwnT w5 w.heap.size (.slice aoR mR capR) ((l.take i).map partB)) := by
        show prw.OwnT _ _ _ _
        rw [hw5]
        exact ownT_below hO.out ((Below.refl _ _).alloc (Nat.le_refl _) _)
      have HE0 := Lib.hid e0
      have hRD := HRD.out w5 HB5.out
      rw [hw5] at hRD
      have HW5 := Lib.hid hw5
      have HRD2 := Lib.hid hRD
      clear hR hvs hxx hw5 e0 hRD
      go_wp2_with fail
      refine HRD2.out.mono ?_
      rintro e w6 ⟨rfl, hB6⟩
      rw [← HW5.out] at hB6
      have hlt5 := World.block_lt_of_cell? w5 _ HE0.out
      have e6 := (hB6.cell hlt5).trans HE0.out
      have HB6 := Lib.hid (HB5.out.trans (hB6.mono HB5.out.size))
      have HO6 := Lib.hid (ownT_below HO5.out hB6)
      have HP := Lib.hid (part_any x R HRe.out (some ⟨w6.heap.size, 0, none⟩) 2 (w6.alloc (.cells #[.string x.t, .string R] 9)) (Lib.hid (trmEnv (prw.env_below hE.out (HB6.out.alloc HB6.out.size _)) (tabs_below hT.out (HB6.out.alloc HB6.out.size _)))) (Lib.hid (by
        intro j hj
        refine ⟨_, 0, rfl, ?_⟩
        rw [World.cell?_alloc_new]
        match j, hj with
        | 0, _ => rfl
        | 1, _ => rfl)))
      clear hB6 HRD2
      go_wp2_with fail
      refine HP.out.mono ?_
      rintro e w7 ⟨⟨er, rfl⟩, hB7⟩
      have hB67 : Below w6.heap.size w6 w7 := ((Below.refl w6.heap.size w6).alloc (Nat.le_refl _) _).trans (hB7.mono (by simp))
      have HB7 := Lib.hid (HB6.out.trans (hB67.mono HB6.out.size))
      obtain ⟨ao7, m7, cap7, w8, hap, hO8, _, hB8⟩ := ownT_appG (partB x) (ownT_below HO6.out hB67) (by rw [List.length_map, List.length_take]; omega) HB7.out.size
      have HO8 : Hid (prw.OwnT w8 w.heap.size (.slice ao7 m7 cap7) ((l.take (i + 1)).map partB)) := by
        show prw.OwnT _ _ _ _
        rw [HST.out]
        exact hO8
      have HB8 := Lib.hid (HB7.out.trans hB8)
      clear hB7 hB67 hO8 hB8 HP e6
      go_wp2_with (at_builtin; refine Lib.wpList_append_run _ rfl _ _ _ _ rfl _ _ rfl rfl _ _ hap ?_)
      go_roundw
      case rel => exact ⟨i + 1, by omega, by go_num, HO8, HB8.out⟩
      case measure => simp [intOf] <;> omega
    · obtain rfl : i = m := by omega
      have hO1 := hO.out
      rw [HM.out, List.take_length] at hO1
      have hll : (l.map partB).length ≤ 1000000 := by rw [List.length_map, ← HM.out]; omega
      have CS := Lib.hid (sortT hO1 hll hsz)
      have e1 : ((l.map partB).map (·.data.toList)) = partsL l := by rw [List.map_map]; rfl
      have hkl := keyL_len l
      clear hO1 hll
      go_wp2_with fail
      refine CS.out.mono ?_
      rintro e w2 ⟨rfl, hO2, hB2⟩
      rw [e1] at hO2
      have e2 : ((sortL (partsL l)).map bytes).map (·.data.toList) = sortL (partsL l) := by
        rw [List.map_map]
        conv => rhs; rw [← List.map_id (sortL (partsL l))]
        apply List.map_congr_left
        intro x _
        rfl
      have CJ := joinT hO2 ⟨#[]⟩ (by rw [List.length_map]; unfold sortL partsL; simp; rw [← HM.out]; omega) (by rw [e2]; show (Lib.join _ []).length ≤ _; rw [join_flat]; show (keyL l).length ≤ _; rw [← HM.out] at hkl; omega)
      rw [e2] at CJ
      have CJ' : Calls Tryd.prog 27 #[.slice aoR mR capR, .string ⟨#[]⟩] w2 fun e w' => e = .returned (.string (bytes (keyL l))) ∧ Below w2.heap.size w2 w' := by
        refine CJ.mono fun e w' h => ⟨?_, h.2⟩
        rw [h.1]
        show _ = Ending.returned (.string ⟨(keyL l).toArray⟩)
        have : Lib.join (sortL (partsL l)) (⟨#[]⟩ : ByteArray).data.toList = keyL l := join_flat _
        rw [this]
      have HJ := Lib.hid CJ'
      have HB2 := Lib.hid (hB.trans hB2)
      clear CJ CJ' e1 e2 hkl CS hB2 hO2
      go_wp2_with fail
      refine HJ.out.mono ?_
      rintro e w3 ⟨rfl, hB3⟩
      go_wp2_with fail
      go_ret
      exact ⟨rfl, HB2.out.trans (hB3.mono HB2.out.size)⟩
end dnw
end Go.Proofs.YtjjbmhndakmkbaaDoor
namespace Go.Proofs.YtjjbmhndakmkbaaDoor
open Go.RowKit
namespace dnw
open dnp
set_option linter.unusedVariables false
set_option linter.unusedSimpArgs false
/-- what Keys leaves -/
def KeysE (n : List (List Av)) (w : World) (e : Ending) (w' : World) : Prop :=
  Below w.heap.size w w' ∧ if nameOK n = true then ∃ ao cap, e = .returned (.tuple #[.slice ao n.length cap, .int .i64 0]) ∧ n.length ≤ cap ∧ tupw.Strs w' ao (keysB n) else e = .returned (.tuple #[.slice none 0 0, .int .i64 4])
theorem ownT_strs {w : World} {B : Nat} {ao : Option Addr} {m cap : Nat} {l : List ByteArray} (h : prw.OwnT w B (.slice ao m cap) l) : tupw.Strs w ao l ∧ m = l.length ∧ m ≤ cap := by
  obtain ⟨ao', cap', hv, hc, hcs⟩ := prw.ownT_cells h
  simp only [Value.slice.injEq] at hv
  obtain ⟨rfl, rfl, rfl⟩ := hv
  refine ⟨fun i hi => ?_, rfl, hc⟩
  obtain ⟨g, hg, _, hcell⟩ := hcs (by intro e; rw [e] at hi; simp at hi)
  exact ⟨g, 0, hg, hcell i _ (List.getElem?_eq_getElem hi)⟩
theorem revTake_step (n : List (List Av)) (i : Nat) (hi : i < n.length) : (n.reverse.take (i + 1)).map (fun l => bytes (keyL l)) = (n.reverse.take i).map (fun l => bytes (keyL l)) ++ [bytes (keyL (n[n.length - 1 - i]'(by omega)))] := by
  rw [List.take_succ_eq_append_getElem (by simpa using hi), List.map_append]
  simp only [List.getElem_reverse]
  rfl
set_option maxRecDepth 20000 in
set_option maxHeartbeats 4000000 in
theorem keys_any (ao : Option Addr) (cap : Nat) (n : List (List Av)) (w : World) (hA : Hid (Rdns w ao n)) (hE : Hid (prw.Env w)) (hT : Hid (Tabs w)) (hS : Hid (∀ l ∈ n, l.length ≤ 4 → Smalls l)) :
    Calls Tryd.prog 32 #[.slice ao n.length cap] w fun e w' => KeysE n w e w' := by
  have CR := right_any ao cap n w hA hE hS
  obtain ⟨m, hm⟩ : ∃ m, m = n.length := ⟨_, rfl⟩
  have HM := Lib.hid hm
  rw [← hm] at CR ⊢
  clear hm
  cases hok : nameOK n with
  | false =>
    rw [hok] at CR
    have HC := Lib.hid CR
    have HOK := Lib.hid hok
    clear CR hok
    go_enter Tryd.func32, Tryd.ntmps32
    go_wp2_with fail
    refine HC.out.mono ?_
    rintro e w1 ⟨rfl, hB1⟩
    go_wp2_with fail
    go_ret2
    refine ⟨hB1, ?_⟩
    rw [if_neg (by rw [HOK.out]; simp)]
    rfl
  | true =>
    rw [hok] at CR
    have HC := Lib.hid CR
    have HOK := Lib.hid hok
    have hf := nameOK_facts hok
    have hm12 : m ≤ 12 := by rw [HM.out]; exact hf.1
    have HL := Lib.hid hf.2
    clear CR hok hf
    go_enter Tryd.func32, Tryd.ntmps32
    go_wp2_with fail
    refine HC.out.mono ?_
    rintro e w1 ⟨rfl, hB1⟩
    have HB1 := Lib.hid hB1
    have hsz1 := hB1.size
    clear hB1 HC
    go_wp2_with fail
    go_loopw [4, 5, 11] (fun rv _ iv wr => ∃ (i : Nat), i ≤ m ∧ iv = .int .i64 (i : Int) ∧ Hid (prw.OwnT wr w1.heap.size rv ((n.reverse.take i).map fun l => bytes (keyL l))) ∧ Below w1.heap.size w1 wr) (fun _ _ iv _ => m - (intOf iv).toNat)
    case atStart => exact ⟨0, Nat.zero_le _, rfl, World.ownsRow_nil _ _ _ _, Below.refl _ _⟩
    case round =>
      obtain ⟨i, hi, rfl, hO, hB⟩ := hrel
      have hsz := hB.size
      obtain ⟨aoR, mR, capR, rfl, hmR⟩ := ownT_form hO.out
      by_cases hlt : i < m
      · have hlt' : (i : Int) < (m : Int) := by omega
        have hil : i < n.length := by rw [← HM.out]; exact hlt
        have HBT := Lib.hid (HB1.out.trans (hB.mono hsz1))
        obtain ⟨j, hj⟩ : ∃ j, j = m - 1 - i := ⟨_, rfl⟩
        have hjl : j < n.length := by rw [← HM.out]; omega
        have hjm : (j : Int) < (m : Int) := by omega
        have hj0 : (0 : Int) ≤ (j : Int) := by omega
        have ej : (m : Int) - 1 - (i : Int) = (j : Int) := by omega
        have w1e : IntKind.i64.wrap ((m : Int) - 1) = (m : Int) - 1 := IntWalk.i64_in _ (by omega)
        have w2e : IntKind.i64.wrap ((m : Int) - 1 - (i : Int)) = (j : Int) := by rw [ej]; exact IntWalk.i64_in _ (by omega)
        have HST := revTake_step n i hil
        have hje : n.length - 1 - i = j := by rw [← HM.out]; exact hj.symm
        have HST2 : (n.reverse.take (i + 1)).map (fun l => bytes (keyL l)) = (n.reverse.take i).map (fun l => bytes (keyL l)) ++ [bytes (keyL n[j])] := by
          rw [HST]
          congr 4
          simp only [hje]
        obtain ⟨b, o, ao', cap', hao, hc0, hcc, hAv⟩ := (rdns_below hA.out HBT.out) j hjl
        subst hao
        have hro := HL.out n[j] (List.getElem_mem hjl)
        have CK := key_any ao' cap' n[j] wr (Lib.hid hAv) (Lib.hid (prw.env_below hE.out HBT.out)) (Lib.hid (tabs_below hT.out HBT.out)) hro
        have hst := Lib.hid HST2
        generalize n[j] = l at hc0 CK hst
        obtain ⟨p, hp⟩ : ∃ p, p = l.length := ⟨_, rfl⟩
        rw [← hp] at hc0 CK
        have HCK := Lib.hid CK
        clear CK HST HST2 hje hro hAv hcc hp hj
        go_wp2_with fail
        refine HCK.out.mono ?_
        rintro e w2 ⟨rfl, hB2⟩
        obtain ⟨ao7, m7, cap7, w8, hap, hO8, _, hB8⟩ := ownT_appG (bytes (keyL l)) (ownT_below hO.out hB2) (by rw [List.length_map, List.length_take, List.length_reverse]; omega) (Nat.le_trans hsz hB2.size)
        have HO8 : Hid (prw.OwnT w8 w1.heap.size (.slice ao7 m7 cap7) ((n.reverse.take (i + 1)).map fun l => bytes (keyL l))) := by
          show prw.OwnT _ _ _ _
          rw [hst.out]
          exact hO8
        have HB8 := Lib.hid ((hB.trans (hB2.mono hsz)).trans hB8)
        clear hO8 hB8 hB2 HCK hst
        generalize bytes (keyL l) = KB at hap ⊢
        go_wp2_with (at_builtin; refine Lib.wpList_append_run _ rfl _ _ _ _ rfl _ _ rfl rfl _ _ hap ?_)
        go_roundw
        case rel => exact ⟨i + 1, by omega, by go_num, HO8, HB8.out⟩
        case measure => simp [intOf] <;> omega
      · obtain rfl : i = m := by omega
        have hO1 := hO.out
        rw [HM.out, List.take_of_length_le (by rw [List.length_reverse]; exact Nat.le_refl _)] at hO1
        obtain ⟨hst, hml, hmc⟩ := ownT_strs hO1
        rw [List.length_map, List.length_reverse] at hml
        have HST := Lib.hid hst
        have HML := Lib.hid hml
        clear hO1 hst hml
        go_wp2_with fail
        go_ret2
        refine ⟨HB1.out.trans (hB.mono hsz1), ?_⟩
        rw [if_pos HOK.out]
        have h1 := HML.out
        subst h1
        exact ⟨aoR, capR, rfl, hmc, HST.out⟩
end dnw
end Go.Proofs.YtjjbmhndakmkbaaDoor
namespace Go.Proofs.YtjjbmhndakmkbaaDoor
open Go.RowKit
namespace dnw
open dnp
set_option linter.unusedVariables false
set_option linter.unusedSimpArgs false
theorem eqT {w : World} {a1 a2 : Option Addr} {c d p : Nat} {xs ys : List ByteArray} (h1 : tupw.Strs w a1 xs) (h2 : tupw.Strs w a2 ys) (hp : p ≤ xs.length) (hy : ys.length = p) (hb : p ≤ 1000) :
    Calls Tryd.prog 33 #[.slice a1 p c, .slice a2 p d] w fun e w' => e = .returned (.bool (decide (xs.take p = ys))) ∧ Below w.heap.size w w' := by
  by_cases h0 : p = 0
  · subst h0
    have hys : ys = [] := List.eq_nil_of_length_eq_zero hy
    subst hys
    refine (Tryd.slices_Equal_string_empty a1 a2 c 0 d w (by omega)).mono ?_
    rintro e w' ⟨rfl, h⟩
    have h : w' = w := by first | exact h | exact h.symm
    subst h
    exact ⟨kt.ret_bool (by simp), Below.refl _ _⟩
  · obtain ⟨b1, o1, e1, _⟩ := h1 0 (by omega)
    obtain ⟨b2, o2, e2, _⟩ := h2 0 (by omega)
    subst e1 e2
    have k1 : ∀ j, j < xs.length → w.cell? ⟨b1, o1 + j, none⟩ = some (.string (xs.getD j ByteArray.empty)) := by
      intro j hj
      obtain ⟨b, o, e, hc⟩ := h1 j hj
      cases e
      rw [hc]
      simp [List.getD, List.getElem?_eq_getElem hj]
    have k2 : ∀ j, j < ys.length → w.cell? ⟨b2, o2 + j, none⟩ = some (.string (ys.getD j ByteArray.empty)) := by
      intro j hj
      obtain ⟨b, o, e, hc⟩ := h2 j hj
      cases e
      rw [hc]
      simp [List.getD, List.getElem?_eq_getElem hj]
    refine (Tryd.slices_Equal_string b1 o1 p c b2 o2 p d xs ys w hp (by omega) (by omega) (by omega) k1 k2).mono ?_
    rintro e w' ⟨rfl, q, rfl⟩
    refine ⟨kt.ret_bool ?_, (show Below w.heap.size w (w.drewN q) from ⟨rfl, rfl, rfl, Nat.le_refl _, fun k _ => rfl⟩)⟩
    rw [List.take_of_length_le (l := ys) (by omega)]
set_option maxRecDepth 20000 in
set_option maxHeartbeats 4000000 in
theorem under_any (ao bo : Option Addr) (ca cb : Nat) (n b : List (List Av)) (w : World) (hA : Hid (Rdns w ao n)) (hB : Hid (Rdns w bo b)) (hE : Hid (prw.Env w)) (hT : Hid (Tabs w)) (hS : Hid (∀ l ∈ n, l.length ≤ 4 → Smalls l)) (hSb : Hid (∀ l ∈ b, l.length ≤ 4 → Smalls l)) :
    Calls Tryd.prog 19 #[.slice ao n.length ca, .slice bo b.length cb] w fun e w' => e = .returned (.bool (underR n b)) ∧ Below w.heap.size w w' := by
  have CK := keys_any ao ca n w hA hE hT hS
  have CKb : Hid (∀ W, Below w.heap.size w W → Calls Tryd.prog 32 #[.slice bo b.length cb] W fun e w' => KeysE b W e w') := fun W hb => keys_any bo cb b W (Lib.hid (rdns_below hB.out hb)) (Lib.hid (prw.env_below hE.out hb)) (Lib.hid (tabs_below hT.out hb)) hSb
  obtain ⟨m, hm⟩ : ∃ m, m = n.length := ⟨_, rfl⟩
  obtain ⟨p, hp⟩ : ∃ p, p = b.length := ⟨_, rfl⟩
  have HM := Lib.hid hm
  have HP := Lib.hid hp
  rw [← hm] at CK ⊢
  rw [← hp] at CKb ⊢
  have HB2 : Hid (∀ W, Below w.heap.size w W → nameOK b = false → Calls Tryd.prog 32 #[.slice bo p cb] W fun e w' => Below W.heap.size W w' ∧ e = .returned (.tuple #[.slice none 0 0, .int .i64 4])) := by
    intro W hb h
    refine (CKb.out W hb).mono fun e w' h2 => ?_
    unfold KeysE at h2
    rw [if_neg (by rw [h]; simp)] at h2
    exact h2
  have HB3 : Hid (∀ W, Below w.heap.size w W → nameOK b = true → Calls Tryd.prog 32 #[.slice bo p cb] W fun e w' => Below W.heap.size W w' ∧ ∃ ao cap, e = .returned (.tuple #[.slice ao p cap, .int .i64 0]) ∧ tupw.Strs w' ao (keysB b)) := by
    intro W hb h
    refine (CKb.out W hb).mono fun e w' h2 => ?_
    unfold KeysE at h2
    rw [if_pos h, ← hp] at h2
    obtain ⟨h3, ao, cap, h4, _, h5⟩ := h2
    exact ⟨h3, ao, cap, h4, h5⟩
  cases hok : nameOK n with
  | false =>
    have HC : Hid (Calls Tryd.prog 32 #[.slice ao m ca] w fun e w' => Below w.heap.size w w' ∧ e = .returned (.tuple #[.slice none 0 0, .int .i64 4])) := by
      refine CK.mono fun e w' h2 => ?_
      unfold KeysE at h2
      rw [if_neg (by rw [hok]; simp)] at h2
      exact h2
    have HU : Hid (false = underR n b) := by show _ = _; unfold underR; rw [hok]; rfl
    clear CK CKb hok hm hp
    cases hob : nameOK b with
    | false =>
      have HD := Lib.hid (fun W hb => HB2.out W hb hob)
      clear hob HB2 HB3
      go_enter Tryd.func19, Tryd.ntmps19
      go_wp2_with fail
      refine HC.out.mono ?_
      rintro e w1 ⟨hB1, rfl⟩
      have HD2 := Lib.hid (HD.out w1 hB1)
      go_wp2_with fail
      refine HD2.out.mono ?_
      rintro e w2 ⟨hB2, rfl⟩
      go_wp2_with fail
      go_ret
      exact ⟨kt.ret_bool HU.out, hB1.trans (hB2.mono hB1.size)⟩
    | true =>
      have HD := Lib.hid (fun W hb => HB3.out W hb hob)
      clear hob HB2 HB3
      go_enter Tryd.func19, Tryd.ntmps19
      go_wp2_with fail
      refine HC.out.mono ?_
      rintro e w1 ⟨hB1, rfl⟩
      have HD2 := Lib.hid (HD.out w1 hB1)
      go_wp2_with fail
      refine HD2.out.mono ?_
      rintro e w2 ⟨hB2, bo2, cb2, rfl, _⟩
      go_wp2_with fail
      go_ret
      exact ⟨kt.ret_bool HU.out, hB1.trans (hB2.mono hB1.size)⟩
  | true =>
    have HC : Hid (Calls Tryd.prog 32 #[.slice ao m ca] w fun e w' => Below w.heap.size w w' ∧ ∃ ao cap, e = .returned (.tuple #[.slice ao m cap, .int .i64 0]) ∧ m ≤ cap ∧ tupw.Strs w' ao (keysB n)) := by
      refine CK.mono fun e w' h2 => ?_
      unfold KeysE at h2
      rw [if_pos hok, ← hm] at h2
      exact h2
    cases hob : nameOK b with
    | false =>
      have HU : Hid (false = underR n b) := by show _ = _; unfold underR; rw [hok, hob]; rfl
      have HD := Lib.hid (fun W hb => HB2.out W hb hob)
      clear hob HB2 HB3 CK CKb hok hm hp
      go_enter Tryd.func19, Tryd.ntmps19
      go_wp2_with fail
      refine HC.out.mono ?_
      rintro e w1 ⟨hB1, ao2, ca2, rfl, hmc, hS1⟩
      have HD2 := Lib.hid (HD.out w1 hB1)
      clear hS1
      go_wp2_with fail
      refine HD2.out.mono ?_
      rintro e w2 ⟨hB2, rfl⟩
      go_wp2_with fail
      go_ret
      exact ⟨kt.ret_bool HU.out, hB1.trans (hB2.mono hB1.size)⟩
    | true =>
      have HD := Lib.hid (fun W hb => HB3.out W hb hob)
      have hm12 : m ≤ 12 := by rw [hm]; exact (nameOK_facts hok).1
      have hp12 : p ≤ 12 := by rw [hp]; exact (nameOK_facts hob).1
      by_cases hpm : p ≤ m
      · have hpm' : (p : Int) ≤ (m : Int) := by omega
        have HU : Hid (decide ((keysB n).take p = keysB b) = underR n b) := by
          show _ = _
          unfold underR
          rw [hok, hob, ← hp, ← hm, decide_eq_true hpm]; rfl
        have hnl : p ≤ (keysB n).length := by rw [keysB_len, ← hm]; exact hpm
        have hbl : (keysB b).length = p := by rw [keysB_len, ← hp]
        have HEQ : Hid (∀ W a1 c a2 d, tupw.Strs W a1 (keysB n) → tupw.Strs W a2 (keysB b) → Calls Tryd.prog 33 #[.slice a1 p c, .slice a2 p d] W fun e w' => e = .returned (.bool (underR n b)) ∧ Below W.heap.size W w') := by
          intro W a1 c a2 d h1 h2
          have := eqT (c := c) (d := d) h1 h2 hnl hbl (by omega)
          rw [HU.out] at this
          exact this
        clear hob HB2 HB3 CK CKb hok hm hp hnl hbl
        go_enter Tryd.func19, Tryd.ntmps19
        go_wp2_with fail
        refine HC.out.mono ?_
        rintro e w1 ⟨hB1, ao2, ca2, rfl, hmc, hS1⟩
        have HD2 := Lib.hid (HD.out w1 hB1)
        have HS1 := Lib.hid hS1
        have hpc : (p : Int) ≤ (ca2 : Int) := by omega
        clear hS1
        go_wp2_with fail
        refine HD2.out.mono ?_
        rintro e w2 ⟨hB2, bo2, cb2, rfl, hS2⟩
        have HS1' := Lib.hid (tupw.strs_below HS1.out hB2)
        have HS2 := Lib.hid hS2
        have HBW := Lib.hid (hB1.trans (hB2.mono hB1.size))
        clear hS2 hB1 hB2
        go_wp2_with fail
        refine (HEQ.out _ _ _ _ _ HS1'.out HS2.out).mono ?_
        rintro e w3 ⟨rfl, hB3⟩
        go_wp2_with fail
        go_ret
        exact ⟨rfl, HBW.out.trans (hB3.mono HBW.out.size)⟩
      · have hpm' : ¬ (p : Int) ≤ (m : Int) := by omega
        have HU : Hid (false = underR n b) := by
          show _ = _
          unfold underR
          rw [hok, hob, ← hp, ← hm, decide_eq_false hpm]; rfl
        clear hob HB2 HB3 CK CKb hok hm hp
        go_enter Tryd.func19, Tryd.ntmps19
        go_wp2_with fail
        refine HC.out.mono ?_
        rintro e w1 ⟨hB1, ao2, ca2, rfl, hmc, hS1⟩
        have HD2 := Lib.hid (HD.out w1 hB1)
        clear hS1
        go_wp2_with fail
        refine HD2.out.mono ?_
        rintro e w2 ⟨hB2, bo2, cb2, rfl, _⟩
        go_wp2_with fail
        go_ret
        exact ⟨kt.ret_bool HU.out, hB1.trans (hB2.mono hB1.size)⟩
set_option maxRecDepth 20000 in
theorem same_any (ao bo : Option Addr) (ca cb : Nat) (n b : List (List Av)) (w : World) (hA : Hid (Rdns w ao n)) (hB : Hid (Rdns w bo b)) (hE : Hid (prw.Env w)) (hT : Hid (Tabs w)) (hS : Hid (∀ l ∈ n, l.length ≤ 4 → Smalls l)) (hSb : Hid (∀ l ∈ b, l.length ≤ 4 → Smalls l)) :
    Calls Tryd.prog 16 #[.slice ao n.length ca, .slice bo b.length cb] w fun e w' => e = .returned (.bool (sameR n b)) ∧ Below w.heap.size w w' := by
  have CU := under_any ao bo ca cb n b w hA hB hE hT hS hSb
  obtain ⟨m, hm⟩ : ∃ m, m = n.length := ⟨_, rfl⟩
  obtain ⟨p, hp⟩ : ∃ p, p = b.length := ⟨_, rfl⟩
  have hU : sameR n b = (decide (m = p) && underR n b) := by unfold sameR; rw [← hm, ← hp]
  rw [← hm, ← hp] at CU ⊢
  generalize underR n b = u at CU hU
  rw [hU]
  have HC := Lib.hid CU
  clear hm hp hU CU
  by_cases h : m = p
  · subst h
    have HR : Hid (u = (decide (m = m) && u)) := by show _ = _; simp
    have q : ((m : Int) == (m : Int)) = true := by rw [beq_iff_eq]
    go_enter Tryd.func16, Tryd.ntmps16
    go_wp2_with fail
    refine HC.out.mono ?_
    rintro e w1 ⟨rfl, hB1⟩
    go_wp2_with fail
    go_ret
    exact ⟨kt.ret_bool HR.out, hB1⟩
  · have HR : Hid (false = (decide (m = p) && u)) := by show _ = _; rw [decide_eq_false h]; rfl
    have q : ((m : Int) == (p : Int)) = false := by rw [beq_eq_false_iff_ne]; omega
    clear h
    go_enter Tryd.func16, Tryd.ntmps16
    go_wp2_with fail
    go_ret
    exact ⟨kt.ret_bool HR.out, Below.refl _ _⟩
end dnw
end Go.Proofs.YtjjbmhndakmkbaaDoor
