/- Small laws of no program: an owned row that is appended to, said as the run of one operation; a row of bytes read as a text; integers' bit operations on natural numbers. -/
import Derived.WalkKit
import Derived.WalkSpells
import Derived.Lib.Hide
import Derived.Lib.UnsafeStr
import Derived.Lib.BufferRead
import Derived.Laws.BitsAllLaws
import Derived.IntWalk
import Derived.Lib.Builder
import Derived.Laws.IdiomStrings
import Derived.Laws.MakeOwn
import Derived.Deep.RegionHeld3
import Derived.Deep.RegionLaw
import Derived.Deep.RegionWith
import Derived.Deep.QuietTactic
import Derived.BigQuiet
import Derived.StillTailTactics
import Derived.RegionTactic
import Derived.ChangeAlike
import Derived.Lib.IndexBytes
import Derived.Lib.AppendZeros
namespace Go.Proofs.YtifplgnabkkbjaaDoor
open Go.RowKit
namespace kt

theorem ret_int {k : IntKind} {a b : Int} (h : a = b) : Ending.returned (.int k a) = .returned (.int k b) := by rw [h]
theorem ret_bool {a b : Bool} (h : a = b) : Ending.returned (.bool a) = .returned (.bool b) := by rw [h]
theorem ret_str {a b : ByteArray} (h : a = b) : Ending.returned (.string a) = .returned (.string b) := by rw [h]
theorem str_eq {a b : ByteArray} (h : a.data.toList = b.data.toList) : a = b := by
  cases a; cases b
  congr 1
  exact Array.toList_inj.1 h
theorem take_snoc (s : ByteArray) (k : Nat) (h : k < s.size) : s.data.toList.take (k + 1) = s.data.toList.take k ++ [s[k]] := by
  rw [List.take_succ_eq_append_getElem (by simpa using h)]; rfl
theorem size_len (s : ByteArray) : s.data.toList.length = s.size := by simp

/-- the value of an owned row is a slice -/
theorem row_slice {w : World} {B : Nat} {e : TypeId} {v : Value} {xs : List Value} (h : w.ownsRow B e 1 v xs.length xs) : ∃ ao cap, v = .slice ao xs.length cap ∧ (ao = none → xs = [] ∧ cap = 0) ∧ xs.length ≤ cap := by
  rcases h.2 with ⟨rfl, h0⟩ | ⟨g, cap, cur, rfl, _, _, hc, _, _⟩
  · have : xs = [] := List.eq_nil_of_length_eq_zero h0
    subst this
    exact ⟨none, 0, rfl, fun _ => ⟨rfl, rfl⟩, Nat.le_refl _⟩
  · exact ⟨_, cap, rfl, fun h => by simp at h, hc⟩

/-- the same, the length behind a name -/
theorem row_form {w : World} {B : Nat} {e : TypeId} {v : Value} {xs : List Value} (h : w.ownsRow B e 1 v xs.length xs) : ∃ (ao : Option Addr) (n cap : Nat), v = .slice ao n cap ∧ Hid (n = xs.length) := by
  obtain ⟨ao, cap, hv, _⟩ := row_slice h
  exact ⟨ao, _, cap, hv, rfl⟩
/-- 'append(v, x)' where v owns its row: the run. -/
theorem app1 {P : Program} {t e ty : TypeId} {z : Value} {bytes : Nat} (ht : P.underlying t = some (.slice e)) (hinfo : (P.info? e).map (fun i => (i.zero, i.size, i.bytes)) = some (some z, 1, bytes)) (hzs : z.cells.size = 1)
    {w : World} {B : Nat} {v : Value} {xs : List Value} (x : Value) (hx : x.oneCell' = true) (hown : w.ownsRow B e 1 v xs.length xs) (h63 : xs.length + 1 ≤ maxLen) (hb : (xs.length + 1) * bytes ≤ 140737488355328) (hbase : B ≤ w.heap.size) :
    ∃ v' w1, (Builtin.append_ #[t, t] ty #[v, .slice (some ⟨w.heap.size, 0, none⟩) 1 1]).run P (w.alloc (.cells #[x] e)) = .ok v' w1 ∧ w1.ownsRow B e 1 v' (xs ++ [x]).length (xs ++ [x]) ∧ w.grownBy w1 v.ownBlock ∧ Below B w w1 := by
  obtain ⟨i0, hi, hz0, hz1, hz2⟩ := info_parts hinfo
  obtain ⟨v', w1, hrun, hown', hgr, _⟩ := run_append_own (P := P) (w.alloc (.cells #[x] e)) B t ty e i0 z 1 bytes ht hi hz0 hz1 hz2 hzs (by omega) v xs.length xs (hown.alloc _) ⟨w.heap.size, 0, none⟩ 1 1 [x] rfl
    (fun j u hj => by
      match j, hj with
      | 0, hj => simp at hj; subst hj; simp [Addr.add])
    (fun u hu => by simp at hu; subst hu; exact hx) h63 hb (by simp; omega)
  have hlt : ∀ k, v.ownBlock = some k → B ≤ k ∧ k < w.heap.size := hown.lt
  have hg : w.grownBy w1 v.ownBlock := by
    refine ⟨hgr.os, hgr.tape, hgr.output, ?_, ?_⟩
    · have := hgr.size; simp at this; omega
    · intro k hk hne
      rw [hgr.block k (by simp; omega) hne]
      exact Below.heap_alloc _ _ _ hk
  exact ⟨v', w1, hrun, by simpa using hown', hg, (Below.refl B w).grown hg hbase (fun k hk => (hlt k hk).1)⟩

/-- 'append(v, x, y)' where v owns its row: the run. -/
theorem app2 {P : Program} {t e ty : TypeId} {z : Value} {bytes : Nat} (ht : P.underlying t = some (.slice e)) (hinfo : (P.info? e).map (fun i => (i.zero, i.size, i.bytes)) = some (some z, 1, bytes)) (hzs : z.cells.size = 1)
    {w : World} {B : Nat} {v : Value} {xs : List Value} (x y : Value) (hx : x.oneCell' = true) (hy : y.oneCell' = true) (hown : w.ownsRow B e 1 v xs.length xs) (h63 : xs.length + 2 ≤ maxLen) (hb : (xs.length + 2) * bytes ≤ 140737488355328) (hbase : B ≤ w.heap.size) :
    ∃ v' w1, (Builtin.append_ #[t, t] ty #[v, .slice (some ⟨w.heap.size, 0, none⟩) 2 2]).run P (w.alloc (.cells #[x, y] e)) = .ok v' w1 ∧ w1.ownsRow B e 1 v' (xs ++ [x, y]).length (xs ++ [x, y]) ∧ w.grownBy w1 v.ownBlock ∧ Below B w w1 := by
  obtain ⟨i0, hi, hz0, hz1, hz2⟩ := info_parts hinfo
  obtain ⟨v', w1, hrun, hown', hgr, _⟩ := run_append_own (P := P) (w.alloc (.cells #[x, y] e)) B t ty e i0 z 1 bytes ht hi hz0 hz1 hz2 hzs (by omega) v xs.length xs (hown.alloc _) ⟨w.heap.size, 0, none⟩ 2 2 [x, y] rfl
    (fun j u hj => by
      match j, hj with
      | 0, hj => simp at hj; subst hj; simp [Addr.add]
      | 1, hj => simp at hj; subst hj; simp [Addr.add])
    (fun u hu => by simp at hu; rcases hu with rfl | rfl <;> assumption) h63 hb (by simp; omega)
  have hlt : ∀ k, v.ownBlock = some k → B ≤ k ∧ k < w.heap.size := hown.lt
  have hg : w.grownBy w1 v.ownBlock := by
    refine ⟨hgr.os, hgr.tape, hgr.output, ?_, ?_⟩
    · have := hgr.size; simp at this; omega
    · intro k hk hne
      rw [hgr.block k (by simp; omega) hne]
      exact Below.heap_alloc _ _ _ hk
  exact ⟨v', w1, hrun, by simpa using hown', hg, (Below.refl B w).grown hg hbase (fun k hk => (hlt k hk).1)⟩

/-- 'append(v, news...)' where v owns its row: the run; the news lie at ad. -/
theorem appN {P : Program} {t e ty : TypeId} {z : Value} {bytes : Nat} (ht : P.underlying t = some (.slice e)) (hinfo : (P.info? e).map (fun i => (i.zero, i.size, i.bytes)) = some (some z, 1, bytes)) (hzs : z.cells.size = 1)
    {w : World} {B : Nat} {v : Value} {xs : List Value} (ad : Addr) (m c : Nat) (news : List Value) (hl : news.length = m) (hnews : ∀ j u, news[j]? = some u → w.cell? (ad.add j) = some u) (h1 : ∀ u ∈ news, u.oneCell' = true)
    (hown : w.ownsRow B e 1 v xs.length xs) (h63 : xs.length + m ≤ maxLen) (hb : (xs.length + m) * bytes ≤ 140737488355328) (hbase : B ≤ w.heap.size) :
    ∃ v' w1, (Builtin.append_ #[t, t] ty #[v, .slice (some ad) m c]).run P w = .ok v' w1 ∧ w1.ownsRow B e 1 v' (xs ++ news).length (xs ++ news) ∧ w.grownBy w1 v.ownBlock ∧ Below B w w1 := by
  obtain ⟨i0, hi, hz0, hz1, hz2⟩ := info_parts hinfo
  obtain ⟨v', w1, hrun, hown', hgr, _⟩ := run_append_own (P := P) w B t ty e i0 z 1 bytes ht hi hz0 hz1 hz2 hzs (by omega) v xs.length xs hown ad m c news (by omega) hnews h1 h63 hb hbase
  have hlt : ∀ k, v.ownBlock = some k → B ≤ k ∧ k < w.heap.size := hown.lt
  exact ⟨v', w1, hrun, by rw [List.length_append, hl]; exact hown', hgr, (Below.refl B w).grown hgr hbase (fun k hk => (hlt k hk).1)⟩

/-- 'string(v)' where v owns a row of bytes: the run. -/
theorem str_of_row {P : Program} {src dst e : TypeId} (hs : P.underlying src = some (.slice e)) (he : P.underlying e = some (.int .u8)) (hd : P.underlying dst = some .string)
    {w : World} {B : Nat} {v : Value} {n : Nat} {l : List UInt8} (h : w.ownsRow B e 1 v n (Lib.byteCells l)) :
    (convert src dst v).run P w = .ok (.string ⟨l.toArray⟩) w := by
  have hn : l.length = n := by have := h.1; rw [Lib.byteCells_length] at this; omega
  rcases h.2 with ⟨rfl, h0⟩ | ⟨g, cap, cur, rfl, _, hg, _, _, _, htk⟩
  · have : l = [] := List.eq_nil_of_length_eq_zero (by omega)
    subst this
    exact Lib.run_convert_nil_bytes w src dst e 0 hs he hd
  · rw [← hn]
    refine run_convert_bytes_back w src dst e ⟨g, 0, none⟩ cap l hs he hd (Lib.bytes_of_row hg ?_)
    rw [Nat.mul_one, ← hn] at htk
    exact htk

/-- an owned row's cells -/
theorem row_cell {w : World} {B : Nat} {e : TypeId} {g cap n : Nat} {xs : List Value} (h : w.ownsRow B e 1 (.slice (some ⟨g, 0, none⟩) n cap) n xs) (i : Nat) (x : Value) (hx : xs[i]? = some x) : w.cell? ⟨g, i, none⟩ = some x := by
  have := h.cells (g := g) rfl i x hx
  have e1 : (⟨g, 0, none⟩ : Addr).add i = ⟨g, i, none⟩ := by
    unfold Addr.add
    split
    · rename_i h0; rw [h0]
    · simp
  rw [e1] at this
  exact this

/-- an owned row that is not empty has an address, and its cells lie there -/
theorem row_some {w : World} {B : Nat} {e : TypeId} {ao : Option Addr} {cap n : Nat} {xs : List Value} (h : w.ownsRow B e 1 (.slice ao n cap) n xs) (hne : 0 < n) :
    ∃ g, ao = some ⟨g, 0, none⟩ ∧ (∀ (j : Nat) (x : Value), xs[j]? = some x → w.cell? ⟨g, j, none⟩ = some x) ∧ B ≤ g := by
  rcases h.2 with ⟨_, h0⟩ | ⟨g, cap', cur, hv, hBg, _⟩
  · omega
  · simp only [Value.slice.injEq] at hv
    obtain ⟨rfl, _, rfl⟩ := hv
    exact ⟨g, rfl, fun j x hx => row_cell h j x hx, hBg⟩
/-- a contract that leaves the world, as the quiet regions ask it -/
theorem flip {P : Program} {f : FuncId} {args : Array Value} {w : World} {v : Value} (h : Calls P f args w fun e w' => e = .returned v ∧ w = w') : Calls P f args w fun e w' => e = .returned v ∧ w' = w :=
  h.mono fun _ _ ⟨he, hm⟩ => ⟨he, hm.symm⟩
theorem ret_tup2 {a b c d : Value} (h : a = b) (h2 : c = d) : Ending.returned (.tuple #[a, c]) = .returned (.tuple #[b, d]) := by rw [h, h2]
/-- an append whose run is known, at a step of a region that draws its order -/
theorem step_append_run {P : Program} {w : World} {ops : Array Oper} {o : Oper} {a : Act} {K : Act → World → Prop} {Q : Exit → Act → World → Prop} {E : Prop} (hgd : o.guard = none) (s x : Operand) (t tn : TypeId)
    (ho : o.op = .call { callee := .builtin .append, args := #[s, x], argTypes := #[t, tn] }) (vs vx : Value) (hs : a.eval s = vs) (hx : a.eval x = vx)
    (v' : Value) (w' : World) (hr : (Builtin.append_ #[t, tn] o.type #[vs, vx]).run P w = .ok v' w') (h : K (a.put o.dst v') w') :
    if Region.wanted o (yielded ops a.tmps) = true then Oper.wp P o a w K Q else E := by
  have hw : Region.wanted o (yielded ops a.tmps) = true := by simp [Region.wanted, hgd]
  rw [if_pos hw]
  exact Lib.wp_append_run w s x t tn ho vs vx hs hx v' w' hr h
/-- an owned row stands where nothing below the heap's size has turned -/
theorem row_below {w w' : World} {B : Nat} {e : TypeId} {v : Value} {n : Nat} {xs : List Value} (h : w.ownsRow B e 1 v n xs) (hb : Below w.heap.size w w') : w'.ownsRow B e 1 v n xs := by
  refine ⟨h.1, ?_⟩
  rcases h.2 with h0 | ⟨g, cap, cur, hv, hBg, hg, h1, h2, h3, h4⟩
  · exact Or.inl h0
  · refine Or.inr ⟨g, cap, cur, hv, hBg, ?_, h1, h2, h3, h4⟩
    rw [hb.block g (Nat.lt_of_not_le fun hge => by simp [Array.getElem?_eq_none hge] at hg)]
    exact hg
theorem addr_add (b j : Nat) : (⟨b, 0, none⟩ : Addr).add j = ⟨b, j, none⟩ := by
  unfold Addr.add
  split
  · rename_i h0; rw [h0]
  · simp
/-- block B holds these bytes, none of them frozen -/
def ByteRow (w : World) (B : Nat) (l : List UInt8) : Prop :=
  ∀ j (hj : j < l.length), w.cell? ⟨B, j, none⟩ = some (.int .u8 (l[j].toNat : Int)) ∧ w.frozen? ⟨B, j, none⟩ = false
theorem byterow_set {w : World} {B : Nat} {l : List UInt8} (h : ByteRow w B l) (i : Nat) (x : UInt8) : ByteRow (w.setCell ⟨B, i, none⟩ (.int .u8 (x.toNat : Int))) B (l.set i x) := by
  intro j hj
  simp only [List.length_set] at hj
  obtain ⟨hc, hf⟩ := h j hj
  refine ⟨?_, ?_⟩
  · by_cases e : i = j
    · subst e
      rw [World.cell?_setCell_same _ _ _ hc]
      simp
    · rw [World.cell?_setCell_other _ _ _ _ (by intro hh; apply e; injection hh), hc, List.getElem_set_ne e]
  · rw [World.frozen?_setCell]
    exact hf
theorem byterow_str {P : Program} {src dst e : TypeId} (hs : P.underlying src = some (.slice e)) (he : P.underlying e = some (.int .u8)) (hd : P.underlying dst = some .string)
    {w : World} {B n cap : Nat} {l : List UInt8} (h : ByteRow w B l) (hn : n = l.length) : (convert src dst (.slice (some ⟨B, 0, none⟩) n cap)).run P w = .ok (.string ⟨l.toArray⟩) w := by
  subst hn
  exact run_convert_bytes_back w src dst e ⟨B, 0, none⟩ cap l hs he hd (fun j hj => by rw [addr_add]; exact (h j hj).1)
/-- 'make([]byte, n)': the run, and the bytes -/
theorem mkbytes {P : Program} {t e : TypeId} (ht : P.underlying t = some (.slice e)) (hinfo : (P.info? e).map (fun i => (i.zero, i.size, i.bytes)) = some (some (.int .u8 0), 1, 1)) (w : World) (n : Nat) (hn : n ≤ 1000000000) :
    ∃ W1, (Instr.makeSlice t (.int .i64 (n : Int)) (.int .i64 (n : Int))).run P w = .ok (.slice (some ⟨w.heap.size, 0, none⟩) n n) W1 ∧ ByteRow W1 w.heap.size (List.replicate n 0) ∧ Below w.heap.size w W1 := by
  obtain ⟨i0, hi, hz0, hz1, hz2⟩ := info_parts hinfo
  obtain ⟨w', hrun, hown, hgr⟩ := run_make_full (P := P) w w.heap.size t e i0 (.int .u8 0) 1 ht hi hz0 hz1 .i64 .i64 n (by rw [hz2]; omega) (by unfold maxLen; omega) (Nat.le_refl _)
  refine ⟨w', hrun, ?_, (Below.refl _ w).grown hgr (Nat.le_refl _) (fun k hk => by cases hk)⟩
  intro j hj
  rw [List.length_replicate] at hj
  rcases hown.2 with ⟨_, h0⟩ | ⟨g, cap, cur, hv, _, hg, h1, h2, h3, h4⟩
  · omega
  · simp only [Value.slice.injEq, Option.some.injEq, Addr.mk.injEq] at hv
    obtain ⟨⟨rfl, _, _⟩, _, rfl⟩ := hv
    have hcur : cur[j]? = some (.int .u8 0) := by
      have h5 : (cur.toList.take (n * 1))[j]? = some (.int .u8 0) := by
        rw [h4]
        have hv : ∀ m : Nat, (Value.int IntKind.u8 0).cells[m % (Value.int IntKind.u8 0).cells.size]! = Value.int IntKind.u8 0 := by
          intro m
          rw [show (Value.int IntKind.u8 0).cells.size = 1 from rfl, Nat.mod_one]; rfl
        simp [madeCells, hv, hj]
      rw [List.getElem?_take, if_pos (by omega)] at h5
      simpa using h5
    refine ⟨?_, ?_⟩
    · rw [Lib.cell_of_heap hg, hcur]; simp [List.getElem_replicate]
    · exact Lib.frozen_of_heap hg j
/-- '[]byte(s)': the run, and the bytes -/
theorem bytes_of {P : Program} {src dst e : TypeId} (hs : P.underlying src = some .string) (hd : P.underlying dst = some (.slice e)) (he : P.underlying e = some (.int .u8)) (w : World) (s : ByteArray) :
    ∃ (W1 : World) (cap : Nat), (convert src dst (.string s)).run P w = .ok (.slice (some ⟨w.heap.size, 0, none⟩) s.size cap) W1 ∧ ByteRow W1 w.heap.size s.data.toList ∧ Below w.heap.size w W1 := by
  refine ⟨_, _, run_bytes_of_string w src dst e s hs hd he, ?_, ((Below.refl _ _).drew).alloc (Nat.le_refl _) _⟩
  intro j hj
  have hj' : j < s.data.size := by simpa using hj
  have hsz : s.size ≤ (bytesRow s (grownCap w s.size 0 e)).size := by simp [bytesRow]
  refine ⟨?_, ?_⟩
  · have h1 := World.cell?_alloc_mark w.drew (bytesRow s (grownCap w s.size 0 e)) e ((bytesRow s (grownCap w s.size 0 e)).size, (bytesRow s (grownCap w s.size 0 e)).size + 1) j
    rw [bytesRow_at s _ j hj'] at h1
    exact h1
  · have h2 := World.frozen?_alloc_mark w.drew (bytesRow s (grownCap w s.size 0 e)) e (bytesRow s (grownCap w s.size 0 e)).size ((bytesRow s (grownCap w s.size 0 e)).size + 1) j
    refine h2.trans ?_
    have : ¬ (bytesRow s (grownCap w s.size 0 e)).size ≤ j := by
      have : s.data.size = s.size := rfl
      omega
    simp [this]
theorem u64pow : (2 : Nat) ^ 64 = 18446744073709551616 := by decide
theorem ofInt64 (a : Nat) (ha : a < 18446744073709551616) : (BitVec.ofInt 64 (a : Int)).toNat = a := by
  rw [BitVec.ofInt_natCast, BitVec.toNat_ofNat]; exact Nat.mod_eq_of_lt (by omega)
theorem wrap_i64_nat (a : Nat) (ha : a < 9223372036854775808) : IntKind.i64.wrap (a : Int) = (a : Int) := by
  rw [IntKind.wrap_i64]
  omega
theorem i64_or_nat (a b : Nat) (ha : a < 9223372036854775808) (hb : b < 9223372036854775808) : bits .or .i64 (a : Int) (b : Int) = ((a ||| b : Nat) : Int) := by
  have hx : a ||| b < 2 ^ 63 := Nat.or_lt_two_pow (by omega) (by omega)
  show IntKind.i64.wrap ((BitVec.ofInt 64 (a : Int) ||| BitVec.ofInt 64 (b : Int)).toNat : Int) = _
  rw [BitVec.toNat_or, ofInt64 a (by omega), ofInt64 b (by omega)]
  exact wrap_i64_nat _ (by omega)
theorem i64_and_nat (a b : Nat) (ha : a < 9223372036854775808) (hb : b < 9223372036854775808) : bits .and .i64 (a : Int) (b : Int) = ((a &&& b : Nat) : Int) := by
  have hx : a &&& b < 2 ^ 63 := Nat.and_lt_two_pow _ (by omega)
  show IntKind.i64.wrap ((BitVec.ofInt 64 (a : Int) &&& BitVec.ofInt 64 (b : Int)).toNat : Int) = _
  rw [BitVec.toNat_and, ofInt64 a (by omega), ofInt64 b (by omega)]
  exact wrap_i64_nat _ (by omega)
/-- 'n << k | c', c below 2^k -/
theorem i64_or_low (k a c : Nat) (hc : c < 2 ^ k) (ha : 2 ^ k * a + c < 9223372036854775808) : bits .or .i64 ((2 ^ k * a : Nat) : Int) (c : Int) = ((2 ^ k * a + c : Nat) : Int) := by
  rw [i64_or_nat _ _ (by omega) (by omega), Nat.two_pow_add_eq_or_of_lt hc]
/-- 'n & (2^k - 1)' -/
theorem i64_low (k a : Nat) (hk : 2 ^ k ≤ 9223372036854775808) (ha : a < 9223372036854775808) : bits .and .i64 (a : Int) ((2 ^ k - 1 : Nat) : Int) = ((a % 2 ^ k : Nat) : Int) := by
  have : 0 < 2 ^ k := Nat.two_pow_pos k
  rw [i64_and_nat _ _ ha (by omega), Nat.and_two_pow_sub_one_eq_mod]
end kt
end Go.Proofs.YtifplgnabkkbjaaDoor
