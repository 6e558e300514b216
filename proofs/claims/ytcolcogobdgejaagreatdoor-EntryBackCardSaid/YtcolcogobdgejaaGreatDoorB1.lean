/- One text out of several: Kit, TakW, AttrP, NumP, SmallW, LowerW, B64P, DnP, LowP. -/
import Derived.WalkKit
import Derived.WalkSpells
import Derived.Lib.Hide
import Derived.Lib.UnsafeStr
import Derived.Lib.BufferRead
import Derived.Laws.BitsAllLaws
import Derived.IntWalk
import Derived.Lib.Builder
import Derived.Laws.IdiomStrings
import Derived.Laws.MakeOwn
import Derived.Deep.RegionHeld3
import Derived.Deep.RegionLaw
import Derived.Deep.RegionWith
import Derived.Deep.QuietTactic
import Derived.BigQuiet
import Derived.StillTailTactics
import Derived.RegionTactic
import Derived.ChangeAlike
import Derived.Lib.IndexBytes
import Derived.Lib.AppendZeros
import Derived.OrdersHeld
import Derived.Lib.IndexMore
import Derived.Lib.AtoiAll
import Derived.Test.YtcolcogobdgejaaGreatDoorRows
import Derived.Lib.MapLaws
import Derived.Laws.RangeAny
/-! Kit -/
namespace Go.Proofs.YtcolcogobdgejaaGreatDoor
open Go.RowKit
namespace kt
theorem ret_int {k : IntKind} {a b : Int} (h : a = b) : Ending.returned (.int k a) = .returned (.int k b) := by rw [h]
theorem ret_bool {a b : Bool} (h : a = b) : Ending.returned (.bool a) = .returned (.bool b) := by rw [h]
theorem ret_str {a b : ByteArray} (h : a = b) : Ending.returned (.string a) = .returned (.string b) := by rw [h]
theorem str_eq {a b : ByteArray} (h : a.data.toList = b.data.toList) : a = b := by
 cases a; cases b
 congr 1
 exact Array.toList_inj.1 h
theorem take_snoc (s : ByteArray) (k : Nat) (h : k < s.size) : s.data.toList.take (k + 1) = s.data.toList.take k ++ [s[k]] := by
 rw [List.take_succ_eq_append_getElem (by simpa using h)]; rfl
theorem size_len (s : ByteArray) : s.data.toList.length = s.size := by simp
theorem row_slice {w : World} {B : Nat} {e : TypeId} {v : Value} {xs : List Value} (h : w.ownsRow B e 1 v xs.length xs) : ∃ ao cap, v = .slice ao xs.length cap ∧ (ao = none → xs = [] ∧ cap = 0) ∧ xs.length ≤ cap := by
 rcases h.2 with ⟨rfl, h0⟩ | ⟨g, cap, cur, rfl, _, _, hc, _, _⟩
 ·have : xs = [] := List.eq_nil_of_length_eq_zero h0
  subst this
  exact ⟨none, 0, rfl, fun _ => ⟨rfl, rfl⟩, Nat.le_refl _⟩
 ·exact ⟨_, cap, rfl, fun h => by simp at h, hc⟩
theorem row_form {w : World} {B : Nat} {e : TypeId} {v : Value} {xs : List Value} (h : w.ownsRow B e 1 v xs.length xs) : ∃ (ao : Option Addr) (n cap : Nat), v = .slice ao n cap ∧ Hid (n = xs.length) := by
 obtain ⟨ao, cap, hv, _⟩ := row_slice h
 exact ⟨ao, _, cap, hv, rfl⟩
theorem app1 {P : Program} {t e ty : TypeId} {z : Value} {bytes : Nat} (ht : P.underlying t = some (.slice e)) (hinfo : (P.info? e).map (fun i => (i.zero, i.size, i.bytes)) = some (some z, 1, bytes)) (hzs : z.cells.size = 1)
  {w : World} {B : Nat} {v : Value} {xs : List Value} (x : Value) (hx : x.oneCell' = true) (hown : w.ownsRow B e 1 v xs.length xs) (h63 : xs.length + 1 ≤ maxLen) (hb : (xs.length + 1) * bytes ≤ 140737488355328) (hbase : B ≤ w.heap.size) :
  ∃ v' w1, (Builtin.append_ #[t, t] ty #[v, .slice (some ⟨w.heap.size, 0, none⟩) 1 1]).run P (w.alloc (.cells #[x] e)) = .ok v' w1 ∧ w1.ownsRow B e 1 v' (xs ++ [x]).length (xs ++ [x]) ∧ w.grownBy w1 v.ownBlock ∧ Below B w w1 := by
 obtain ⟨i0, hi, hz0, hz1, hz2⟩ := info_parts hinfo
 obtain ⟨v', w1, hrun, hown', hgr, _⟩ := run_append_own (P := P) (w.alloc (.cells #[x] e)) B t ty e i0 z 1 bytes ht hi hz0 hz1 hz2 hzs (by omega) v xs.length xs (hown.alloc _) ⟨w.heap.size, 0, none⟩ 1 1 [x] rfl
  (fun j u hj => by
   match j, hj with
   | 0, hj => simp at hj; subst hj; simp [Addr.add])
  (fun u hu => by simp at hu; subst hu; exact hx) h63 hb (by simp; omega)
 have hlt : ∀ k, v.ownBlock = some k → B ≤ k ∧ k < w.heap.size := hown.lt
 have hg : w.grownBy w1 v.ownBlock := by
  refine ⟨hgr.os, hgr.tape, hgr.output, ?_, ?_⟩
  ·have := hgr.size; simp at this; omega
  ·intro k hk hne
   rw [hgr.block k (by simp; omega) hne]
   exact Below.heap_alloc _ _ _ hk
 exact ⟨v', w1, hrun, by simpa using hown', hg, (Below.refl B w).grown hg hbase (fun k hk => (hlt k hk).1)⟩
theorem app2 {P : Program} {t e ty : TypeId} {z : Value} {bytes : Nat} (ht : P.underlying t = some (.slice e)) (hinfo : (P.info? e).map (fun i => (i.zero, i.size, i.bytes)) = some (some z, 1, bytes)) (hzs : z.cells.size = 1)
  {w : World} {B : Nat} {v : Value} {xs : List Value} (x y : Value) (hx : x.oneCell' = true) (hy : y.oneCell' = true) (hown : w.ownsRow B e 1 v xs.length xs) (h63 : xs.length + 2 ≤ maxLen) (hb : (xs.length + 2) * bytes ≤ 140737488355328) (hbase : B ≤ w.heap.size) :
  ∃ v' w1, (Builtin.append_ #[t, t] ty #[v, .slice (some ⟨w.heap.size, 0, none⟩) 2 2]).run P (w.alloc (.cells #[x, y] e)) = .ok v' w1 ∧ w1.ownsRow B e 1 v' (xs ++ [x, y]).length (xs ++ [x, y]) ∧ w.grownBy w1 v.ownBlock ∧ Below B w w1 := by
 obtain ⟨i0, hi, hz0, hz1, hz2⟩ := info_parts hinfo
 obtain ⟨v', w1, hrun, hown', hgr, _⟩ := run_append_own (P := P) (w.alloc (.cells #[x, y] e)) B t ty e i0 z 1 bytes ht hi hz0 hz1 hz2 hzs (by omega) v xs.length xs (hown.alloc _) ⟨w.heap.size, 0, none⟩ 2 2 [x, y] rfl
  (fun j u hj => by
   match j, hj with
   | 0, hj => simp at hj; subst hj; simp [Addr.add]
   | 1, hj => simp at hj; subst hj; simp [Addr.add])
  (fun u hu => by simp at hu; rcases hu with rfl | rfl <;> assumption) h63 hb (by simp; omega)
 have hlt : ∀ k, v.ownBlock = some k → B ≤ k ∧ k < w.heap.size := hown.lt
 have hg : w.grownBy w1 v.ownBlock := by
  refine ⟨hgr.os, hgr.tape, hgr.output, ?_, ?_⟩
  ·have := hgr.size; simp at this; omega
  ·intro k hk hne
   rw [hgr.block k (by simp; omega) hne]
   exact Below.heap_alloc _ _ _ hk
 exact ⟨v', w1, hrun, by simpa using hown', hg, (Below.refl B w).grown hg hbase (fun k hk => (hlt k hk).1)⟩
theorem appN {P : Program} {t e ty : TypeId} {z : Value} {bytes : Nat} (ht : P.underlying t = some (.slice e)) (hinfo : (P.info? e).map (fun i => (i.zero, i.size, i.bytes)) = some (some z, 1, bytes)) (hzs : z.cells.size = 1)
  {w : World} {B : Nat} {v : Value} {xs : List Value} (ad : Addr) (m c : Nat) (news : List Value) (hl : news.length = m) (hnews : ∀ j u, news[j]? = some u → w.cell? (ad.add j) = some u) (h1 : ∀ u ∈ news, u.oneCell' = true)
  (hown : w.ownsRow B e 1 v xs.length xs) (h63 : xs.length + m ≤ maxLen) (hb : (xs.length + m) * bytes ≤ 140737488355328) (hbase : B ≤ w.heap.size) :
  ∃ v' w1, (Builtin.append_ #[t, t] ty #[v, .slice (some ad) m c]).run P w = .ok v' w1 ∧ w1.ownsRow B e 1 v' (xs ++ news).length (xs ++ news) ∧ w.grownBy w1 v.ownBlock ∧ Below B w w1 := by
 obtain ⟨i0, hi, hz0, hz1, hz2⟩ := info_parts hinfo
 obtain ⟨v', w1, hrun, hown', hgr, _⟩ := run_append_own (P := P) w B t ty e i0 z 1 bytes ht hi hz0 hz1 hz2 hzs (by omega) v xs.length xs hown ad m c news (by omega) hnews h1 h63 hb hbase
 have hlt : ∀ k, v.ownBlock = some k → B ≤ k ∧ k < w.heap.size := hown.lt
 exact ⟨v', w1, hrun, by rw [List.length_append, hl]; exact hown', hgr, (Below.refl B w).grown hgr hbase (fun k hk => (hlt k hk).1)⟩
theorem str_of_row {P : Program} {src dst e : TypeId} (hs : P.underlying src = some (.slice e)) (he : P.underlying e = some (.int .u8)) (hd : P.underlying dst = some .string)
  {w : World} {B : Nat} {v : Value} {n : Nat} {l : List UInt8} (h : w.ownsRow B e 1 v n (Lib.byteCells l)) :
  (convert src dst v).run P w = .ok (.string ⟨l.toArray⟩) w := by
 have hn : l.length = n := by have := h.1; rw [Lib.byteCells_length] at this; omega
 rcases h.2 with ⟨rfl, h0⟩ | ⟨g, cap, cur, rfl, _, hg, _, _, _, htk⟩
 ·have : l = [] := List.eq_nil_of_length_eq_zero (by omega)
  subst this
  exact Lib.run_convert_nil_bytes w src dst e 0 hs he hd
 ·rw [← hn]
  refine run_convert_bytes_back w src dst e ⟨g, 0, none⟩ cap l hs he hd (Lib.bytes_of_row hg ?_)
  rw [Nat.mul_one, ← hn] at htk
  exact htk
theorem row_cell {w : World} {B : Nat} {e : TypeId} {g cap n : Nat} {xs : List Value} (h : w.ownsRow B e 1 (.slice (some ⟨g, 0, none⟩) n cap) n xs) (i : Nat) (x : Value) (hx : xs[i]? = some x) : w.cell? ⟨g, i, none⟩ = some x := by
 have := h.cells (g := g) rfl i x hx
 have e1 : (⟨g, 0, none⟩ : Addr).add i = ⟨g, i, none⟩ := by
  unfold Addr.add
  split
  ·rename_i h0; rw [h0]
  ·simp
 rw [e1] at this
 exact this
theorem row_some {w : World} {B : Nat} {e : TypeId} {ao : Option Addr} {cap n : Nat} {xs : List Value} (h : w.ownsRow B e 1 (.slice ao n cap) n xs) (hne : 0 < n) :
  ∃ g, ao = some ⟨g, 0, none⟩ ∧ (∀ (j : Nat) (x : Value), xs[j]? = some x → w.cell? ⟨g, j, none⟩ = some x) ∧ B ≤ g := by
 rcases h.2 with ⟨_, h0⟩ | ⟨g, cap', cur, hv, hBg, _⟩
 ·omega
 ·simp only [Value.slice.injEq] at hv
  obtain ⟨rfl, _, rfl⟩ := hv
  exact ⟨g, rfl, fun j x hx => row_cell h j x hx, hBg⟩
theorem flip {P : Program} {f : FuncId} {args : Array Value} {w : World} {v : Value} (h : Calls P f args w fun e w' => e = .returned v ∧ w = w') : Calls P f args w fun e w' => e = .returned v ∧ w' = w :=
 h.mono fun _ _ ⟨he, hm⟩ => ⟨he, hm.symm⟩
theorem ret_tup2 {a b c d : Value} (h : a = b) (h2 : c = d) : Ending.returned (.tuple #[a, c]) = .returned (.tuple #[b, d]) := by rw [h, h2]
theorem step_append_run {P : Program} {w : World} {ops : Array Oper} {o : Oper} {a : Act} {K : Act → World → Prop} {Q : Exit → Act → World → Prop} {E : Prop} (hgd : o.guard = none) (s x : Operand) (t tn : TypeId)
  (ho : o.op = .call { callee := .builtin .append, args := #[s, x], argTypes := #[t, tn] }) (vs vx : Value) (hs : a.eval s = vs) (hx : a.eval x = vx)
  (v' : Value) (w' : World) (hr : (Builtin.append_ #[t, tn] o.type #[vs, vx]).run P w = .ok v' w') (h : K (a.put o.dst v') w') :
  if Region.wanted o (yielded ops a.tmps) = true then Oper.wp P o a w K Q else E := by
 have hw : Region.wanted o (yielded ops a.tmps) = true := by simp [Region.wanted, hgd]
 rw [if_pos hw]
 exact Lib.wp_append_run w s x t tn ho vs vx hs hx v' w' hr h
theorem row_below {w w' : World} {B : Nat} {e : TypeId} {v : Value} {n : Nat} {xs : List Value} (h : w.ownsRow B e 1 v n xs) (hb : Below w.heap.size w w') : w'.ownsRow B e 1 v n xs := by
 refine ⟨h.1, ?_⟩
 rcases h.2 with h0 | ⟨g, cap, cur, hv, hBg, hg, h1, h2, h3, h4⟩
 ·exact Or.inl h0
 ·refine Or.inr ⟨g, cap, cur, hv, hBg, ?_, h1, h2, h3, h4⟩
  rw [hb.block g (Nat.lt_of_not_le fun hge => by simp [Array.getElem?_eq_none hge] at hg)]
  exact hg
theorem addr_add (b j : Nat) : (⟨b, 0, none⟩ : Addr).add j = ⟨b, j, none⟩ := by
 unfold Addr.add
 split
 ·rename_i h0; rw [h0]
 ·simp
def ByteRow (w : World) (B : Nat) (l : List UInt8) : Prop :=
 ∀ j (hj : j < l.length), w.cell? ⟨B, j, none⟩ = some (.int .u8 (l[j].toNat : Int)) ∧ w.frozen? ⟨B, j, none⟩ = false
theorem byterow_set {w : World} {B : Nat} {l : List UInt8} (h : ByteRow w B l) (i : Nat) (x : UInt8) : ByteRow (w.setCell ⟨B, i, none⟩ (.int .u8 (x.toNat : Int))) B (l.set i x) := by
 intro j hj
 simp only [List.length_set] at hj
 obtain ⟨hc, hf⟩ := h j hj
 refine ⟨?_, ?_⟩
 ·by_cases e : i = j
  ·subst e
   rw [World.cell?_setCell_same _ _ _ hc]
   simp
  ·rw [World.cell?_setCell_other _ _ _ _ (by intro hh; apply e; injection hh), hc, List.getElem_set_ne e]
 ·rw [World.frozen?_setCell]
  exact hf
theorem byterow_str {P : Program} {src dst e : TypeId} (hs : P.underlying src = some (.slice e)) (he : P.underlying e = some (.int .u8)) (hd : P.underlying dst = some .string)
  {w : World} {B n cap : Nat} {l : List UInt8} (h : ByteRow w B l) (hn : n = l.length) : (convert src dst (.slice (some ⟨B, 0, none⟩) n cap)).run P w = .ok (.string ⟨l.toArray⟩) w := by
 subst hn
 exact run_convert_bytes_back w src dst e ⟨B, 0, none⟩ cap l hs he hd (fun j hj => by rw [addr_add]; exact (h j hj).1)
theorem mkbytes {P : Program} {t e : TypeId} (ht : P.underlying t = some (.slice e)) (hinfo : (P.info? e).map (fun i => (i.zero, i.size, i.bytes)) = some (some (.int .u8 0), 1, 1)) (w : World) (n : Nat) (hn : n ≤ 1000000000) :
  ∃ W1, (Instr.makeSlice t (.int .i64 (n : Int)) (.int .i64 (n : Int))).run P w = .ok (.slice (some ⟨w.heap.size, 0, none⟩) n n) W1 ∧ ByteRow W1 w.heap.size (List.replicate n 0) ∧ Below w.heap.size w W1 := by
 obtain ⟨i0, hi, hz0, hz1, hz2⟩ := info_parts hinfo
 obtain ⟨w', hrun, hown, hgr⟩ := run_make_full (P := P) w w.heap.size t e i0 (.int .u8 0) 1 ht hi hz0 hz1 .i64 .i64 n (by rw [hz2]; omega) (by unfold maxLen; omega) (Nat.le_refl _)
 refine ⟨w', hrun, ?_, (Below.refl _ w).grown hgr (Nat.le_refl _) (fun k hk => by cases hk)⟩
 intro j hj
 rw [List.length_replicate] at hj
 rcases hown.2 with ⟨_, h0⟩ | ⟨g, cap, cur, hv, _, hg, h1, h2, h3, h4⟩
 ·omega
 ·simp only [Value.slice.injEq, Option.some.injEq, Addr.mk.injEq] at hv
  obtain ⟨⟨rfl, _, _⟩, _, rfl⟩ := hv
  have hcur : cur[j]? = some (.int .u8 0) := by
   have h5 : (cur.toList.take (n * 1))[j]? = some (.int .u8 0) := by
    rw [h4]
    have hv : ∀ m : Nat, (Value.int IntKind.u8 0).cells[m % (Value.int IntKind.u8 0).cells.size]! = Value.int IntKind.u8 0 := by
     intro m
     rw [show (Value.int IntKind.u8 0).cells.size = 1 from rfl, Nat.mod_one]; rfl
    simp [madeCells, hv, hj]
   rw [List.getElem?_take, if_pos (by omega)] at h5
   simpa using h5
  refine ⟨?_, ?_⟩
  ·rw [Lib.cell_of_heap hg, hcur]; simp [List.getElem_replicate]
  ·exact Lib.frozen_of_heap hg j
theorem bytes_of {P : Program} {src dst e : TypeId} (hs : P.underlying src = some .string) (hd : P.underlying dst = some (.slice e)) (he : P.underlying e = some (.int .u8)) (w : World) (s : ByteArray) :
  ∃ (W1 : World) (cap : Nat), (convert src dst (.string s)).run P w = .ok (.slice (some ⟨w.heap.size, 0, none⟩) s.size cap) W1 ∧ ByteRow W1 w.heap.size s.data.toList ∧ Below w.heap.size w W1 := by
 refine ⟨_, _, run_bytes_of_string w src dst e s hs hd he, ?_, ((Below.refl _ _).drew).alloc (Nat.le_refl _) _⟩
 intro j hj
 have hj' : j < s.data.size := by simpa using hj
 have hsz : s.size ≤ (bytesRow s (grownCap w s.size 0 e)).size := by simp [bytesRow]
 refine ⟨?_, ?_⟩
 ·have h1 := World.cell?_alloc_mark w.drew (bytesRow s (grownCap w s.size 0 e)) e ((bytesRow s (grownCap w s.size 0 e)).size, (bytesRow s (grownCap w s.size 0 e)).size + 1) j
  rw [bytesRow_at s _ j hj'] at h1
  exact h1
 ·have h2 := World.frozen?_alloc_mark w.drew (bytesRow s (grownCap w s.size 0 e)) e (bytesRow s (grownCap w s.size 0 e)).size ((bytesRow s (grownCap w s.size 0 e)).size + 1) j
  refine h2.trans ?_
  have : ¬ (bytesRow s (grownCap w s.size 0 e)).size ≤ j := by
   have : s.data.size = s.size := rfl
   omega
  simp [this]
theorem u64pow : (2 : Nat) ^ 64 = 18446744073709551616 := by decide
theorem ofInt64 (a : Nat) (ha : a < 18446744073709551616) : (BitVec.ofInt 64 (a : Int)).toNat = a := by
 rw [BitVec.ofInt_natCast, BitVec.toNat_ofNat]; exact Nat.mod_eq_of_lt (by omega)
theorem wrap_i64_nat (a : Nat) (ha : a < 9223372036854775808) : IntKind.i64.wrap (a : Int) = (a : Int) := by
 rw [IntKind.wrap_i64]
 omega
theorem i64_or_nat (a b : Nat) (ha : a < 9223372036854775808) (hb : b < 9223372036854775808) : bits .or .i64 (a : Int) (b : Int) = ((a ||| b : Nat) : Int) := by
 have hx : a ||| b < 2 ^ 63 := Nat.or_lt_two_pow (by omega) (by omega)
 show IntKind.i64.wrap ((BitVec.ofInt 64 (a : Int) ||| BitVec.ofInt 64 (b : Int)).toNat : Int) = _
 rw [BitVec.toNat_or, ofInt64 a (by omega), ofInt64 b (by omega)]
 exact wrap_i64_nat _ (by omega)
theorem i64_and_nat (a b : Nat) (ha : a < 9223372036854775808) (hb : b < 9223372036854775808) : bits .and .i64 (a : Int) (b : Int) = ((a &&& b : Nat) : Int) := by
 have hx : a &&& b < 2 ^ 63 := Nat.and_lt_two_pow _ (by omega)
 show IntKind.i64.wrap ((BitVec.ofInt 64 (a : Int) &&& BitVec.ofInt 64 (b : Int)).toNat : Int) = _
 rw [BitVec.toNat_and, ofInt64 a (by omega), ofInt64 b (by omega)]
 exact wrap_i64_nat _ (by omega)
theorem i64_or_low (k a c : Nat) (hc : c < 2 ^ k) (ha : 2 ^ k * a + c < 9223372036854775808) : bits .or .i64 ((2 ^ k * a : Nat) : Int) (c : Int) = ((2 ^ k * a + c : Nat) : Int) := by
 rw [i64_or_nat _ _ (by omega) (by omega), Nat.two_pow_add_eq_or_of_lt hc]
theorem i64_low (k a : Nat) (hk : 2 ^ k ≤ 9223372036854775808) (ha : a < 9223372036854775808) : bits .and .i64 (a : Int) ((2 ^ k - 1 : Nat) : Int) = ((a % 2 ^ k : Nat) : Int) := by
 have : 0 < 2 ^ k := Nat.two_pow_pos k
 rw [i64_and_nat _ _ ha (by omega), Nat.and_two_pow_sub_one_eq_mod]
end kt
end Go.Proofs.YtcolcogobdgejaaGreatDoor
/-! TakW -/
namespace Go.Proofs.YtcolcogobdgejaaGreatDoor
open Go.RowKit
namespace etw
theorem tk {P : Program} {ops : Array Oper} {Q : Exit → Act → World → Prop} {md : Region.Mode} {S : World → Prop} (i : Nat) (oi : Oper) {v : Value} {fuel : Nat} {listed : Array Bool} {a a2 : Act} {w : World} (hi : ops[i]? = some oi)
  (h : wpAnyH P md ops Q S fuel (listed.setIfInBounds i true) a2 w)
  (hs : Region.noSelect ops = true := by kernel_rfl) (hf : Region.free md ops listed i = true := by kernel_rfl) (hr : (Region.ready md ops listed).contains i = true := by kernel_rfl)
  (hQ : ∀ c a w, Q (.panic c) (a.put oi.dst v) w → Q (.panic c) a w := by exact fun _ _ _ h => h) (hw : Region.wanted oi (yielded ops a.tmps) = true := by rfl)
  (hy : ∀ w, S w → (execOp a.eval oi).run P w = .ok (.value v) w := by intro w hSw; (try dsimp only at hSw); go_simp; all_goals with_reducible rfl)
  (hS : S w := by assumption) (ha : a.put oi.dst v = a2 := by first | (simp only [Act.put, List.setIfInBounds_toArray, List.set_cons_zero, List.set_cons_succ]; rfl) | rfl) : wpAnyH P md ops Q S (fuel + 1) listed a w := by
 subst ha
 exact wpAnyH_take hi hs hf hr hQ (Or.inl ⟨hw, hy⟩) hS h
theorem tu {P : Program} {ops : Array Oper} {Q : Exit → Act → World → Prop} {md : Region.Mode} {S : World → Prop} (i : Nat) (oi : Oper) {fuel : Nat} {listed : Array Bool} {a a2 : Act} {w : World} (hi : ops[i]? = some oi)
  (h : wpAnyH P md ops Q S fuel (listed.setIfInBounds i true) a2 w)
  (hs : Region.noSelect ops = true := by kernel_rfl) (hf : Region.free md ops listed i = true := by kernel_rfl) (hr : (Region.ready md ops listed).contains i = true := by kernel_rfl)
  (hQ : ∀ c a w, Q (.panic c) (a.put oi.dst undef) w → Q (.panic c) a w := by exact fun _ _ _ h => h) (hw : Region.wanted oi (yielded ops a.tmps) = false := by rfl)
  (hS : S w := by assumption) (ha : a.put oi.dst undef = a2 := by first | (simp only [Act.put, List.setIfInBounds_toArray, List.set_cons_zero, List.set_cons_succ]; rfl) | rfl) : wpAnyH P md ops Q S (fuel + 1) listed a w := by
 subst ha
 exact wpAnyH_take hi hs hf hr hQ (Or.inr ⟨hw, rfl⟩) hS h
end etw
end Go.Proofs.YtcolcogobdgejaaGreatDoor
/-! AttrP -/
namespace Go.Proofs.YtcolcogobdgejaaGreatDoor
namespace atp
set_option linter.unusedVariables false
set_option linter.unusedSimpArgs false
structure Ty where
 name : List UInt8
 syn : Int
 single : Bool
deriving DecidableEq
def tys : List Ty := [⟨[99, 110], 1, false⟩, ⟨[100, 99], 1, false⟩, ⟨[100, 101, 115, 99, 114, 105, 112, 116, 105, 111, 110], 1, false⟩, ⟨[101, 110, 97, 98, 108, 101, 100], 5, true⟩, ⟨[108], 1, false⟩, ⟨[108, 105, 109, 105, 116], 4, false⟩, ⟨[109, 97, 105, 108], 1, false⟩, ⟨[109, 101, 109, 98, 101, 114], 6, false⟩, ⟨[111], 1, false⟩, ⟨[111, 98, 106, 101, 99, 116, 99, 108, 97, 115, 115], 1, false⟩, ⟨[111, 117], 1, false⟩, ⟨[112, 104, 111, 116, 111], 3, false⟩, ⟨[115, 101, 101, 97, 108, 115, 111], 6, false⟩, ⟨[115, 101, 114, 105, 97, 108, 110, 117, 109, 98, 101, 114], 2, false⟩, ⟨[115, 110], 1, false⟩, ⟨[116, 101, 108, 101, 112, 104, 111, 110, 101, 110, 117, 109, 98, 101, 114], 7, false⟩, ⟨[116, 105, 116, 108, 101], 1, false⟩, ⟨[117, 105, 100], 1, false⟩, ⟨[117, 105, 100, 110, 117, 109, 98, 101, 114], 4, true⟩, ⟨[117, 115, 101, 114, 112, 97, 115, 115, 119, 111, 114, 100], 3, false⟩]
def noTy : Ty := ⟨[], 0, false⟩
def findS (n : List UInt8) : Option Ty := tys.find? (fun t => decide (t.name = n))
theorem findS_some {n : List UInt8} {t : Ty} (h : findS n = some t) : t ∈ tys ∧ t.name = n := by
 unfold findS at h
 refine ⟨List.mem_of_find?_eq_some h, ?_⟩
 have := List.find?_some h
 simpa using this
theorem findS_none {n : List UInt8} (h : findS n = none) : ∀ t ∈ tys, t.name ≠ n := by
 intro t ht
 unfold findS at h
 have := List.find?_eq_none.1 h t ht
 simpa using this
theorem findS_all : ∀ j : Fin 20, findS (tys[j.val]'(j.isLt)).name = some (tys[j.val]'(j.isLt)) := by decide +kernel
theorem findS_at (i : Nat) (hi : i < tys.length) : findS tys[i].name = some tys[i] := by
 exact findS_all ⟨i, hi⟩
theorem findS_not {n : List UInt8} (h : ∀ i (hi : i < tys.length), tys[i].name ≠ n) : findS n = none := by
 unfold findS
 rw [List.find?_eq_none]
 intro t ht
 obtain ⟨i, hi, rfl⟩ := List.mem_iff_getElem.1 ht
 simpa using h i hi
theorem tys_len : tys.length = 20 := rfl
def bare (l : List UInt8) : List UInt8 := if l.head? = some 45 then l.tail else l
def digit (c : UInt8) : Bool := decide (48 ≤ c.toNat ∧ c.toNat ≤ 57)
def numOK (l : List UInt8) : Bool := decide (l = [48]) || (decide (1 ≤ (bare l).length) && decide ((bare l).length ≤ 18) && decide ((bare l).head? ≠ some 48) && (bare l).all digit)
def worthN (l : List UInt8) : Nat := l.foldl (fun n c => 10 * n + (c.toNat - 48)) 0
def worth (l : List UInt8) : Int := if l.head? = some 45 then - (worthN (bare l) : Int) else (worthN (bare l) : Int)
def greedy : List (List UInt8) → List UInt8 → Bool
 | [], _ => true
 | p :: r, l => if Lib.index l p < 0 then false else greedy r (l.drop ((Lib.index l p).toNat + p.length))
def partL (s a z : List UInt8) (mids : List (List UInt8)) : Bool :=
 a.isPrefixOf s && z.isSuffixOf (s.drop a.length) && greedy mids ((s.drop a.length).take ((s.drop a.length).length - z.length))
theorem partR_no {s a z : List UInt8} {mids : List (List UInt8)} (h : ¬ (a.length + z.length ≤ s.length ∧ s.take a.length = a ∧ s.drop (s.length - z.length) = z)) : partL s a z mids = false := by
 unfold partL
 rw [Bool.and_eq_false_iff, Bool.and_eq_false_iff]
 by_cases ha : a.isPrefixOf s = true
 ·by_cases hz : z.isSuffixOf (s.drop a.length) = true
  ·exfalso
   apply h
   obtain ⟨t, rfl⟩ := List.isPrefixOf_iff_prefix.1 ha
   rw [List.drop_left] at hz
   obtain ⟨u, rfl⟩ := List.isSuffixOf_iff_suffix.1 hz
   refine ⟨by simp, by simp, ?_⟩
   rw [← List.append_assoc, List.length_append, Nat.add_sub_cancel, List.drop_left]
  ·exact Or.inl (Or.inr (Bool.eq_false_iff.2 hz))
 ·exact Or.inl (Or.inl (Bool.eq_false_iff.2 ha))
theorem partR_yes {s a z : List UInt8} {mids : List (List UInt8)} (h1 : a.length + z.length ≤ s.length) (h2 : s.take a.length = a) (h3 : s.drop (s.length - z.length) = z) : partL s a z mids = greedy mids ((s.take (s.length - z.length)).drop a.length) := by
 unfold partL
 have ha : a.isPrefixOf s = true := by rw [List.isPrefixOf_iff_prefix, ← h2]; exact List.take_prefix _ _
 have hz : z.isSuffixOf (s.drop a.length) = true := by
  rw [List.isSuffixOf_iff_suffix]
  refine ⟨(s.drop a.length).take (s.length - z.length - a.length), ?_⟩
  have : s.drop (s.length - z.length) = (s.drop a.length).drop (s.length - z.length - a.length) := by rw [List.drop_drop]; congr 1; omega
  conv => lhs; rhs; rw [← h3, this]
  exact List.take_append_drop _ _
 rw [ha, hz]
 simp only [Bool.and_self, Bool.true_and]
 congr 1
 rw [List.drop_take, List.length_drop]
 congr 1
 omega
end atp
end Go.Proofs.YtcolcogobdgejaaGreatDoor
/-! NumP -/
namespace Go.Proofs.YtcolcogobdgejaaGreatDoor
namespace atp
set_option linter.unusedVariables false
set_option linter.unusedSimpArgs false
theorem all_digit {c : UInt8} {r : List UInt8} (h : (c :: r).all digit = true) : 48 ≤ c.toNat ∧ c.toNat ≤ 57 ∧ r.all digit = true := by
 rw [List.all_cons, Bool.and_eq_true] at h
 have := h.1
 unfold digit at this
 rw [decide_eq_true_iff] at this
 exact ⟨this.1, this.2, h.2⟩
theorem parse_fold : ∀ (l : List UInt8) (acc : Nat), l.all digit = true → (acc + 1) * 10 ^ l.length ≤ 1000000000000000000 → Lib.parseUint10 acc l = .ok (l.foldl (fun n c => 10 * n + (c.toNat - 48)) acc) ∧ l.foldl (fun n c => 10 * n + (c.toNat - 48)) acc < 1000000000000000000
 | [], acc, _, hb => by
  simp only [List.length_nil, Nat.pow_zero, Nat.mul_one] at hb
  exact ⟨rfl, by show acc < _; omega⟩
 | c :: r, acc, h, hb => by
  obtain ⟨h1, h2, h3⟩ := all_digit h
  rw [List.length_cons, Nat.pow_succ] at hb
  have hp : 0 < 10 ^ r.length := Nat.pos_of_ne_zero (by simp)
  have hacc : (acc + 1) * 10 ≤ 1000000000000000000 := by
   refine Nat.le_trans ?_ hb
   rw [Nat.mul_comm (10 ^ r.length) 10, ← Nat.mul_assoc]
   exact Nat.le_mul_of_pos_right _ hp
  have hstep : (acc * 10 + (c.toNat - 48) + 1) * 10 ^ r.length ≤ 1000000000000000000 := by
   refine Nat.le_trans (Nat.mul_le_mul_right _ (show acc * 10 + (c.toNat - 48) + 1 ≤ (acc + 1) * 10 by omega)) ?_
   rw [Nat.mul_assoc, Nat.mul_comm 10]
   exact hb
  obtain ⟨i1, i2⟩ := parse_fold r (acc * 10 + (c.toNat - 48)) h3 hstep
  have e : 10 * acc + (c.toNat - 48) = acc * 10 + (c.toNat - 48) := by omega
  rw [List.foldl_cons, e]
  refine ⟨?_, i2⟩
  unfold Lib.parseUint10
  rw [if_pos ⟨h1, h2⟩, if_neg (by omega), if_neg (by omega)]
  exact i1
theorem worthN_parse {l : List UInt8} (h : l.all digit = true) (hl : l.length ≤ 18) (h0 : l ≠ []) : Lib.parseMag l = .ok (worthN l) ∧ worthN l < 1000000000000000000 := by
 have hp : (0 + 1) * 10 ^ l.length ≤ 1000000000000000000 := by
  rw [Nat.zero_add, Nat.one_mul]
  refine Nat.le_trans (Nat.pow_le_pow_right (by omega) hl) ?_
  decide
 obtain ⟨i1, i2⟩ := parse_fold l 0 h hp
 unfold Lib.parseMag
 rw [if_neg h0]
 exact ⟨i1, i2⟩
theorem digit_45 : digit 45 = false := by decide
theorem atoi_num {l : List UInt8} (h : numOK l = true) : Lib.atoiAll l = .ok (worth l) ∧ -1000000000000000000 < worth l ∧ worth l < 1000000000000000000 := by
 unfold numOK at h
 rw [Bool.or_eq_true] at h
 rcases h with h | h
 ·rw [decide_eq_true_iff] at h
  subst h
  decide
 ·simp only [Bool.and_eq_true, decide_eq_true_eq] at h
  obtain ⟨⟨⟨h1, h2⟩, h3⟩, h4⟩ := h
  have hne : bare l ≠ [] := by intro e; rw [e] at h1; simp at h1
  obtain ⟨i1, i2⟩ := worthN_parse h4 h2 hne
  unfold worth
  cases l with
  | nil => unfold bare at hne; simp at hne
  | cons c r =>
   by_cases hc : c = 45
   ·subst hc
    have hb : bare (45 :: r) = r := by unfold bare; simp
    rw [hb] at i1 i2 ⊢
    rw [if_pos (by rfl)]
    refine ⟨?_, by omega, by omega⟩
    unfold Lib.atoiAll
    simp only []
    rw [if_pos (show (45 : UInt8).toNat = 43 ∨ (45 : UInt8).toNat = 45 from Or.inr rfl), i1]
    simp only [show (45 : UInt8).toNat = 45 from rfl, not_true_eq_false, false_and, if_false, true_and, if_true]
    rw [if_neg (by omega)]
   ·have hb : bare (c :: r) = c :: r := by unfold bare; rw [if_neg (by simp [hc])]
    rw [hb] at i1 i2 h4 ⊢
    obtain ⟨d1, d2, _⟩ := all_digit h4
    have hn : ¬ (c.toNat = 43 ∨ c.toNat = 45) := by omega
    have hn2 : ¬ c.toNat = 45 := by omega
    rw [if_neg (by simp [hc])]
    refine ⟨?_, by omega, by omega⟩
    unfold Lib.atoiAll
    simp only []
    rw [if_neg hn, i1]
    simp only [hn2, not_false_eq_true, true_and, false_and, if_false]
    rw [if_neg (by omega)]
end atp
end Go.Proofs.YtcolcogobdgejaaGreatDoor
/-! SmallW -/
namespace Go.Proofs.YtcolcogobdgejaaGreatDoor
open Go.RowKit
namespace sml
set_option linter.unusedVariables false
set_option linter.unusedSimpArgs false
def low (c : UInt8) : UInt8 := if 65 ≤ c.toNat ∧ c.toNat ≤ 90 then UInt8.ofNat (c.toNat + 32) else c
def lowL (l : List UInt8) : List UInt8 := l.map low
theorem low_nat (c : UInt8) : ((low c).toNat : Int) = if 65 ≤ (c.toNat : Int) ∧ (c.toNat : Int) ≤ 90 then (c.toNat : Int) + 32 else (c.toNat : Int) := by
 unfold low
 by_cases h : 65 ≤ c.toNat ∧ c.toNat ≤ 90
 ·rw [if_pos h, if_pos (by omega), UInt8.toNat_ofNat']; omega
 ·rw [if_neg h, if_neg (by omega)]
theorem infoByte : (Tryz.prog.info? 5).map (fun i => (i.zero, i.size, i.bytes)) = some (some (.int .u8 0), 1, 1) := by kernel_rfl
theorem emptyRow (w : World) (e : TypeId) : (w.alloc (.cells #[] e)).ownsRow w.heap.size e 1 (.slice (some ⟨w.heap.size, 0, none⟩) 0 0) ([] : List Value).length [] :=
 World.ownsRow_made w #[] 0 (Nat.le_refl _) (by unfold maxLen; omega) rfl
set_option maxRecDepth 20000 in
set_option maxHeartbeats 4000000 in
theorem small_any (s : ByteArray) (w : World) (hs : s.size ≤ 10000000) :
  Calls Tryz.prog 64 #[.string s] w fun e w' => e = .returned (.string ⟨(lowL s.data.toList).toArray⟩) ∧ Below w.heap.size w w' := by
 go_enter Tryz.func64, Tryz.ntmps64
 go_wp2_with fail
 go_loopw [3, 4, 5] (fun bv iv _ wr => ∃ k : Nat, k ≤ s.size ∧ iv = .int .i64 (k : Int) ∧ Hid (wr.ownsRow w.heap.size 5 1 bv (Lib.byteCells (lowL (s.data.toList.take k))).length (Lib.byteCells (lowL (s.data.toList.take k)))) ∧ Below w.heap.size w wr) (fun _ iv _ _ => s.size - (intOf iv).toNat)
 case atStart => exact ⟨0, Nat.zero_le _, rfl, emptyRow w _, (Below.refl _ _).alloc (Nat.le_refl _) _⟩
 case round =>
  obtain ⟨k, hk, rfl, hO, hB⟩ := hrel
  have hsz := hB.size
  by_cases hlt : k < s.size
  ·have hlt' : (k : Int) < (s.size : Int) := by omega
   have HT := kt.take_snoc s k hlt
   obtain ⟨c, hc⟩ : ∃ c, s[k]'hlt = c := ⟨_, rfl⟩
   rw [hc] at HT
   have hcn := c.toNat_lt
   have hlen : (Lib.byteCells (lowL (s.data.toList.take k))).length ≤ k := by rw [Lib.byteCells_length]; unfold lowL; rw [List.length_map]; exact List.length_take_le _ _
   obtain ⟨v', w1, hap, hO1, hg1, hB1⟩ := kt.app1 (P := Tryz.prog) (ty := 96) (w := wr) Tryz.underlying96 infoByte rfl (.int .u8 ((low c).toNat : Int)) rfl hO.out (by unfold maxLen; omega) (by omega) hsz
   have HO1 : Hid (w1.ownsRow w.heap.size 5 1 v' (Lib.byteCells (lowL (s.data.toList.take (k + 1)))).length (Lib.byteCells (lowL (s.data.toList.take (k + 1))))) := by
    show World.ownsRow _ _ _ _ _ _ _
    rw [HT]
    unfold lowL at hO1 ⊢
    rw [List.map_append, Lib.byteCells_append]
    exact hO1
   have HB1 := Lib.hid (hB.trans hB1)
   clear HT hO1 hg1 hB1 hlen
   have hlow := low_nat c
   by_cases hup : 65 ≤ (c.toNat : Int) ∧ (c.toNat : Int) ≤ 90
   ·rw [if_pos hup] at hlow
    rw [hlow] at hap
    obtain ⟨u1, u2⟩ := hup
    have r1 : IntKind.u8.wrap ((c.toNat : Int) + 32) = (c.toNat : Int) + 32 := IntWalk.u8_in _ (by omega)
    clear hlow
    go_wp2_with (at_builtin; refine Lib.wpList_append_run _ rfl _ _ _ _ rfl _ _ rfl rfl _ _ hap ?_)
    go_roundw
    case rel => exact ⟨k + 1, by omega, by go_num, HO1, HB1.out⟩
    case measure => simp [intOf]; omega
   ·rw [if_neg hup] at hlow
    rw [hlow] at hap
    clear hlow
    by_cases h65 : 65 ≤ (c.toNat : Int)
    ·have h90 : decide ((c.toNat : Int) ≤ 90) = false := by rw [decide_eq_false_iff_not]; omega
     clear hup
     go_wp2_with (at_builtin; refine Lib.wpList_append_run _ rfl _ _ _ _ rfl _ _ rfl rfl _ _ hap ?_)
     go_roundw
     case rel => exact ⟨k + 1, by omega, by go_num, HO1, HB1.out⟩
     case measure => simp [intOf]; omega
    ·clear hup
     go_wp2_with (at_builtin; refine Lib.wpList_append_run _ rfl _ _ _ _ rfl _ _ rfl rfl _ _ hap ?_)
     go_roundw
     case rel => exact ⟨k + 1, by omega, by go_num, HO1, HB1.out⟩
     case measure => simp [intOf]; omega
  ·obtain rfl : k = s.size := by omega
   have hO2 := hO.out
   rw [List.take_of_length_le (by simp)] at hO2
   have hst := kt.str_of_row (P := Tryz.prog) (dst := 9) Tryz.underlying96 Tryz.underlying5 Tryz.underlying9 hO2
   clear hO2
   go_wp2_with fail
   go_ret
   exact ⟨rfl, hB⟩
end sml
end Go.Proofs.YtcolcogobdgejaaGreatDoor
/-! LowerW -/
namespace Go.Proofs.YtcolcogobdgejaaGreatDoor
open Go.RowKit
namespace atw
set_option linter.unusedVariables false
set_option linter.unusedSimpArgs false
def bs (l : List UInt8) : ByteArray := ⟨l.toArray⟩
theorem bs_data (l : List UInt8) : (bs l).data.toList = l := rfl
theorem bs_of (s : ByteArray) : bs s.data.toList = s := kt.str_eq rfl
theorem bs_size (l : List UInt8) : (bs l).size = l.length := by rw [← kt.size_len]; rfl
def midL (l : List UInt8) (k : Nat) : List UInt8 := (sml.lowL l).take k ++ l.drop k
theorem midL_len (l : List UInt8) (k : Nat) : (midL l k).length = l.length := by
 unfold midL sml.lowL
 simp
 omega
theorem midL_at {l : List UInt8} {k : Nat} (h : k < l.length) : (midL l k)[k]'(by rw [midL_len]; exact h) = l[k] := by
 unfold midL sml.lowL
 rw [List.getElem_append_right (by simp; omega)]
 simp [Nat.min_eq_left (Nat.le_of_lt h)]
theorem midL_set {l : List UInt8} {k : Nat} (h : k < l.length) : (midL l k).set k (sml.low l[k]) = midL l (k + 1) := by
 unfold midL sml.lowL
 have h1 : ((l.map sml.low).take k).length = k := by simp; omega
 rw [List.set_append_right _ _ (by omega), h1, Nat.sub_self, List.drop_eq_getElem_cons h, List.set_cons_zero, List.take_succ_eq_append_getElem (by simpa using h), List.append_assoc]
 simp
theorem midL_keep {l : List UInt8} {k : Nat} (h : k < l.length) (hl : sml.low l[k] = l[k]) : midL l k = midL l (k + 1) := by
 rw [← midL_set h, hl]
 apply List.ext_getElem (by simp)
 intro i h1 h2
 by_cases e : k = i
 ·subst e
  rw [List.getElem_set_self, midL_at h]
 ·rw [List.getElem_set_ne e]
set_option maxRecDepth 20000 in
set_option maxHeartbeats 4000000 in
theorem lower_any (s : ByteArray) (w : World) (hs : s.size ≤ 10000000) :
    Calls Tryz.prog 127 #[.string s] w fun e w' => e = .returned (.string (bs (sml.lowL s.data.toList))) ∧ Below w.heap.size w w' := by
  obtain ⟨W1, cap, hrun, hrow, hB1⟩ := kt.bytes_of (P := Tryz.prog) (src := 9) (dst := 96) (e := 5) Tryz.underlying9 Tryz.underlying96 Tryz.underlying5 w s
  have HB1 := Lib.hid hB1
  have HROW := Lib.hid hrow
  obtain ⟨B, hB⟩ : ∃ B, w.heap.size = B := ⟨_, rfl⟩
  rw [hB] at hrun HROW
  have HBB := Lib.hid hB
  have hsl : s.data.toList.length = s.size := kt.size_len s
  have HSL := Lib.hid hsl
  clear hB1 hrow hB hsl
  go_enter Tryz.func127, Tryz.ntmps127
  go_wp2_with fail
  go_loopw [4, 5, 10] (fun _ _ iv wr => ∃ k : Nat, k ≤ s.size ∧ iv = .int .i64 (k : Int) ∧ Hid (kt.ByteRow wr B (midL s.data.toList k)) ∧ Hid (Below w.heap.size w wr)) (fun _ _ iv _ => s.size - (intOf iv).toNat)
  case atStart => exact ⟨0, Nat.zero_le _, rfl, (by show kt.ByteRow _ _ _; unfold midL; simpa using HROW.out), HB1.out⟩
  case round =>
    clear hrun
    obtain ⟨k, hk, rfl, hR, hB⟩ := hrel
    by_cases hlt : k < s.size
    · have hlt' : (k : Int) < (s.size : Int) := by omega
      have hkl : k < s.data.toList.length := by rw [HSL.out]; exact hlt
      obtain ⟨c0, f0⟩ := hR.out k (by rw [midL_len]; exact hkl)
      rw [midL_at hkl] at c0
      have HSET := Lib.hid (midL_set hkl)
      have HKEEP := Lib.hid (midL_keep hkl)
      have hset := fun x => kt.byterow_set hR.out k x
      generalize s.data.toList[k] = c at c0 HSET HKEEP
      have hcn := c.toNat_lt
      have hlow := sml.low_nat c
      by_cases hup : 65 ≤ (c.toNat : Int) ∧ (c.toNat : Int) ≤ 90
      · rw [if_pos hup] at hlow
        obtain ⟨u1, u2⟩ := hup
        have r1 : IntKind.u8.wrap ((c.toNat : Int) + 32) = (c.toNat : Int) + 32 := IntWalk.u8_in _ (by omega)
        have h2 := hset (sml.low c)
        rw [hlow, HSET.out] at h2
        have H2 := Lib.hid h2
        clear hlow hset h2
        go_wp2_with fail
        go_roundw
        case rel => exact ⟨k + 1, by omega, by go_num, H2, hB.out.setCell (p := ⟨B, k, none⟩) (by rw [HBB.out]; exact Nat.le_refl _) _⟩
        case measure => simp [intOf]; omega
      · rw [if_neg hup] at hlow
        have hl : sml.low c = c := by
          apply UInt8.toNat_inj.1
          omega
        have H2 : Hid (kt.ByteRow wr B (midL s.data.toList (k + 1))) := by
          show kt.ByteRow _ _ _
          rw [← HKEEP.out hl]
          exact hR.out
        clear hlow hset hl
        go_wp2_with fail
        all_goals first
          | (go_roundw
             case rel => exact ⟨k + 1, by omega, by go_num, H2, hB⟩
             case measure => simp [intOf]; omega)
          | (exfalso; simp only [decide_eq_true_eq] at *; omega)
    · obtain rfl : k = s.size := by omega
      have hst := kt.byterow_str (P := Tryz.prog) (n := s.size) (cap := cap) Tryz.underlying96 Tryz.underlying5 Tryz.underlying9 hR.out (by rw [midL_len, HSL.out])
      have hm : midL s.data.toList s.size = sml.lowL s.data.toList := by
        unfold midL sml.lowL
        rw [List.take_of_length_le (by simp), List.drop_of_length_le (by simp), List.append_nil]
      rw [hm] at hst
      have hst2 : (convert 96 9 (.slice (some ⟨B, 0, none⟩) s.size cap)).run Tryz.prog wr = .ok (.string (bs (sml.lowL s.data.toList))) wr := hst
      clear hst hm
      go_wp2_with fail
      go_ret
      exact ⟨rfl, hB.out⟩
end atw
end Go.Proofs.YtcolcogobdgejaaGreatDoor
/-! B64P -/
namespace Go.Proofs.YtcolcogobdgejaaGreatDoor
namespace b64p
set_option linter.unusedVariables false
def digits : List UInt8 := [48, 49, 50, 51, 52, 53, 54, 55, 56, 57, 97, 98, 99, 100, 101, 102]
def dg (n : Nat) : UInt8 := digits.getD n 0
def hex : List UInt8 → List UInt8
 | [] => []
 | c :: l => dg (c.toNat / 16) :: dg (c.toNat % 16) :: hex l
theorem hex_append (a b : List UInt8) : hex (a ++ b) = hex a ++ hex b := by
 induction a with
 | nil => rfl
 | cons c a ih => simp [hex, ih]
theorem hex_length (l : List UInt8) : (hex l).length = 2 * l.length := by
 induction l with
 | nil => rfl
 | cons c a ih => simp [hex, ih]; omega
def letters : List UInt8 := [65, 66, 67, 68, 69, 70, 71, 72, 73, 74, 75, 76, 77, 78, 79, 80, 81, 82, 83, 84, 85, 86, 87, 88, 89, 90, 97, 98, 99, 100, 101, 102, 103, 104, 105, 106, 107, 108, 109, 110, 111, 112, 113, 114, 115, 116, 117, 118, 119, 120, 121, 122, 48, 49, 50, 51, 52, 53, 54, 55, 56, 57, 43, 47]
def lt (n : Nat) : UInt8 := letters.getD (n % 64) 0
def numAt (l : List UInt8) : Nat → Nat
 | 0 => 0
 | j + 1 => 256 * numAt l j + (l.getD j 0).toNat
def sign (n sz j : Nat) : UInt8 := if sz < j then 61 else lt (n / 2 ^ (18 - 6 * j))
def four (l : List UInt8) : List UInt8 := (List.range 4).map (sign (numAt l 3) l.length)
def enc (l : List UInt8) : List UInt8 :=
 if h : l = [] then [] else four l ++ enc (l.drop 3)
termination_by l.length
decreasing_by
 have : l.length ≠ 0 := fun e => h (List.eq_nil_of_length_eq_zero e)
 simp; omega
theorem enc_nil : enc [] = [] := by unfold enc; simp
theorem enc_cons {l : List UInt8} (h : l ≠ []) : enc l = four l ++ enc (l.drop 3) := by
 conv => lhs; unfold enc
 rw [dif_neg h]
theorem numAt_lt (l : List UInt8) : ∀ j, numAt l j < 256 ^ j
 | 0 => by simp [numAt]
 | j + 1 => by
  have := numAt_lt l j
  have h2 := (l.getD j 0).toNat_lt
  simp only [numAt, Nat.pow_succ]
  omega
theorem four_length (l : List UInt8) : (four l).length = 4 := by simp [four]
theorem four_take (l : List UInt8) (j : Nat) (hj : j < 4) : (four l).take (j + 1) = (four l).take j ++ [sign (numAt l 3) l.length j] := by
 rw [List.take_succ_eq_append_getElem (by rw [four_length]; exact hj)]
 simp [four]
theorem enc_length : ∀ (n : Nat) (l : List UInt8), l.length ≤ n → (enc l).length ≤ 2 * l.length + 2 ∧ (enc l).length % 4 = 0
 | 0, l, h => by
  have : l = [] := List.eq_nil_of_length_eq_zero (by omega)
  subst this
  simp [enc_nil]
 | n + 1, l, h => by
  by_cases hl : l = []
  ·subst hl; simp [enc_nil]
  ·have hpos : 0 < l.length := List.length_pos_iff.2 hl
   have ih := enc_length n (l.drop 3) (by simp; omega)
   rw [enc_cons hl, List.length_append, four_length]
   simp only [List.length_drop] at ih
   by_cases h3 : l.length ≤ 3
   ·have : (l.drop 3) = [] := List.drop_eq_nil_of_le h3
    rw [this, enc_nil]
    simp; omega
   ·omega
def Good (W : Nat) (ts : List (List UInt8)) (rest l : List UInt8) : Prop :=
 (∀ i (h : i < ts.length), 1 ≤ ts[i].length ∧ ts[i].length ≤ W ∧ (i + 1 < ts.length ∨ rest ≠ [] → ts[i].length = W)) ∧ ts.flatten ++ rest = l
theorem good_nil (W : Nat) (l : List UInt8) : Good W [] l l := ⟨fun i h => absurd h (by simp), rfl⟩
theorem good_step {W : Nat} (hW : 1 ≤ W) {ts : List (List UInt8)} {rest l : List UInt8} (h : Good W ts rest l) (hne : rest ≠ []) :
  Good W (ts ++ [rest.take (min W rest.length)]) (rest.drop (min W rest.length)) l := by
 have hpos : 0 < rest.length := List.length_pos_iff.2 hne
 refine ⟨fun i hi => ?_, ?_⟩
 ·simp only [List.length_append, List.length_singleton] at hi
  by_cases hlt : i < ts.length
  ·rw [List.getElem_append_left hlt]
   obtain ⟨a, b, c⟩ := h.1 i hlt
   exact ⟨a, b, fun _ => c (Or.inr hne)⟩
  ·obtain rfl : i = ts.length := by omega
   rw [List.getElem_append_right (Nat.le_refl _)]
   simp only [Nat.sub_self, List.getElem_singleton, List.length_take, List.length_append, List.length_singleton]
   refine ⟨by omega, by omega, fun hh => ?_⟩
   rcases hh with hh | hh
   ·omega
   ·have : 0 < (rest.drop (min W rest.length)).length := List.length_pos_iff.2 hh
    rw [List.length_drop] at this
    omega
 ·rw [List.flatten_append, List.append_assoc]
  simp only [List.flatten_singleton, List.take_append_drop]
  exact h.2
theorem flat_count : ∀ (ts : List (List UInt8)), (∀ t ∈ ts, 1 ≤ t.length) → ts.length ≤ ts.flatten.length
 | [], _ => by simp
 | t :: ts, h => by
  have := flat_count ts (fun x hx => h x (List.mem_cons_of_mem _ hx))
  have h1 := h t List.mem_cons_self
  simp only [List.length_cons, List.flatten_cons, List.length_append]
  omega
theorem good_count {W : Nat} {ts : List (List UInt8)} {rest l : List UInt8} (h : Good W ts rest l) : ts.length ≤ l.length := by
 have h1 := flat_count ts (fun t ht => by obtain ⟨i, hi, rfl⟩ := List.mem_iff_getElem.1 ht; exact (h.1 i hi).1)
 have h2 := congrArg List.length h.2
 rw [List.length_append] at h2
 omega
theorem good_one {W : Nat} {ts : List (List UInt8)} {l : List UInt8} (h : Good W ts [] l) (hW : l.length ≤ W) : ts.length ≤ 1 := by
 match ts, h with
 | [], _ => simp
 | [_], _ => simp
 | a :: b :: r, h =>
  have h0 := (h.1 0 (by simp)).2.2 (Or.inl (by simp))
  have h1 := (h.1 1 (by simp)).1
  have h2 := congrArg List.length h.2
  simp at h0 h1 h2
  omega
theorem flat_take (ts : List (List UInt8)) (i : Nat) (h : i < ts.length) : (ts.take (i + 1)).flatten = (ts.take i).flatten ++ ts[i] := by
 rw [List.take_succ_eq_append_getElem h, List.flatten_append]
 simp
theorem flat_mem (ts : List (List UInt8)) (i : Nat) (h : i < ts.length) : ts[i].length ≤ ts.flatten.length := by
 induction ts generalizing i with
 | nil => simp at h
 | cons t ts ih =>
  cases i with
  | zero => simp
  | succ i =>
   have := ih i (by simpa using h)
   simp only [List.getElem_cons_succ, List.flatten_cons, List.length_append]
   omega
def valI (c : UInt8) : Int :=
 if 48 ≤ c.toNat ∧ c.toNat ≤ 57 then c.toNat - 48 else if 97 ≤ c.toNat ∧ c.toNat ≤ 102 then c.toNat - 87 else if 65 ≤ c.toNat ∧ c.toNat ≤ 70 then c.toNat - 55 else -1
theorem valI_le (c : UInt8) : -1 ≤ valI c ∧ valI c ≤ 15 := by unfold valI; split <;> (try split) <;> (try split) <;> omega
def unhex : List UInt8 → Option (List UInt8)
 | [] => some []
 | [_] => none
 | a :: b :: r => if valI a < 0 ∨ valI b < 0 then none else (unhex r).map (UInt8.ofNat (16 * valI a + valI b).toNat :: ·)
theorem valI_dg (n : Nat) (h : n < 16) : valI (dg n) = n := by
 have all : ∀ m : Fin 16, valI (dg m.val) = m.val := by decide
 exact all ⟨n, h⟩
theorem unhex_hex (l : List UInt8) : unhex (hex l) = some l := by
 induction l with
 | nil => rfl
 | cons c l ih =>
  have hc := c.toNat_lt
  simp only [hex, unhex, ih]
  rw [valI_dg _ (by omega), valI_dg _ (by omega), if_neg (by omega)]
  simp only [Option.map_some, Option.some.injEq, List.cons.injEq, and_true]
  rw [show (16 * ((c.toNat / 16 : Nat) : Int) + ((c.toNat % 16 : Nat) : Int)).toNat = c.toNat from by omega]
  exact UInt8.ofNat_toNat
theorem unhex_odd : ∀ (n : Nat) (l : List UInt8), l.length ≤ n → l.length % 2 = 1 → unhex l = none
 | _, [], _, h => by simp at h
 | _, [_], _, _ => rfl
 | 0, _ :: _ :: _, h, _ => by simp at h
 | n + 1, a :: b :: r, h, hm => by
  simp only [unhex]
  rw [unhex_odd n r (by simp at h; omega) (by simp at hm; omega)]
  simp
theorem unhex_step (l : List UInt8) (i : Nat) (h : i + 1 < l.length) :
  unhex (l.drop i) = if valI l[i] < 0 ∨ valI l[i + 1] < 0 then none else (unhex (l.drop (i + 2))).map (UInt8.ofNat (16 * valI l[i] + valI l[i + 1]).toNat :: ·) := by
 rw [List.drop_eq_getElem_cons (i := i) (by omega), List.drop_eq_getElem_cons (i := i + 1) h]
 rfl
theorem unhex_last (l : List UInt8) (i : Nat) (h : i + 1 = l.length) : unhex (l.drop i) = none := by
 rw [List.drop_eq_getElem_cons (i := i) (by omega), List.drop_of_length_le (by omega)]
 rfl
def uhV (o : Option (List UInt8)) : Value :=
 match o with
 | some l => .tuple #[.string ⟨l.toArray⟩, .int .i64 0]
 | none => .tuple #[.string ⟨#[]⟩, .int .i64 4]
end b64p
end Go.Proofs.YtcolcogobdgejaaGreatDoor
/-! DnP -/
namespace Go.Proofs.YtcolcogobdgejaaGreatDoor
namespace dnp
open b64p (valI)
set_option linter.unusedVariables false
set_option linter.unusedSimpArgs false
abbrev Sg := UInt8 × Bool
abbrev Pr := List UInt8 × List UInt8
def special (c : UInt8) : Bool := decide (c = 34 ∨ c = 43 ∨ c = 44 ∨ c = 59 ∨ c = 60 ∨ c = 61 ∨ c = 62 ∨ c = 92)
def isSep (c : UInt8) : Bool := decide (c = 44 ∨ c = 59 ∨ c = 43)
def bad (c : UInt8) : Bool := decide (c = 34 ∨ c = 60 ∨ c = 62)
def esc : List UInt8 → Option (UInt8 × Nat)
 | [] => none
 | d :: t => if special d = true ∨ d = 35 ∨ d = 32 then some (d, 1) else match t with
  | [] => none
  | e :: _ => if valI d < 0 ∨ valI e < 0 then none else some (UInt8.ofNat (16 * valI d + valI e).toNat, 2)
theorem esc_two {t : List UInt8} {d : UInt8} {n : Nat} (h : esc t = some (d, n)) : 1 ≤ n ∧ n ≤ 2 ∧ n ≤ t.length := by
 unfold esc at h
 repeat' split at h
 all_goals (try cases h)
 all_goals (simp; try omega)
def signsF : Nat → List UInt8 → Option (List Sg)
 | 0, _ => some []
 | _ + 1, [] => some []
 | f + 1, c :: t => if c ≠ 92 then (signsF f t).map ((c, true) :: ·) else match esc t with
  | none => none
  | some (d, n) => (signsF f (t.drop n)).map ((d, false) :: ·)
def signs (l : List UInt8) : Option (List Sg) := signsF l.length l
theorem signsF_more : ∀ (f g : Nat) (l : List UInt8), l.length ≤ f → l.length ≤ g → signsF f l = signsF g l
 | 0, g, l, h, _ => by
  have : l = [] := List.eq_nil_of_length_eq_zero (by omega)
  subst this
  cases g <;> rfl
 | f + 1, 0, l, _, h => by
  have : l = [] := List.eq_nil_of_length_eq_zero (by omega)
  subst this
  rfl
 | f + 1, g + 1, [], _, _ => rfl
 | f + 1, g + 1, c :: t, h, h' => by
  simp only [List.length_cons] at h h'
  unfold signsF
  by_cases e : c ≠ 92
  ·rw [if_pos e, if_pos e, signsF_more f g t (by omega) (by omega)]
  ·rw [if_neg e, if_neg e]
   cases he : esc t with
   | none => rfl
   | some p =>
    obtain ⟨d, n⟩ := p
    simp only []
    rw [signsF_more f g (t.drop n) (by rw [List.length_drop]; omega) (by rw [List.length_drop]; omega)]
theorem signs_nil : signs [] = some [] := rfl
theorem signs_bare (c : UInt8) (t : List UInt8) (h : c ≠ 92) : signs (c :: t) = (signs t).map ((c, true) :: ·) := by
 show signsF (t.length + 1) (c :: t) = _
 rw [signsF, if_pos h]; rfl
theorem signs_esc (t : List UInt8) (d : UInt8) (n : Nat) (h : esc t = some (d, n)) : signs (92 :: t) = (signs (t.drop n)).map ((d, false) :: ·) := by
 show signsF (t.length + 1) (92 :: t) = _
 rw [signsF, if_neg (by simp), h]
 simp only []
 rw [signsF_more t.length (t.drop n).length _ (by rw [List.length_drop]; omega) (Nat.le_refl _)]; rfl
theorem signs_bad (t : List UInt8) (h : esc t = none) : signs (92 :: t) = none := by
 show signsF (t.length + 1) (92 :: t) = _
 rw [signsF, if_neg (by simp), h]
theorem signs_app (p r : List UInt8) (h : (92 : UInt8) ∉ p) : signs (p ++ r) = (signs r).map (p.map (·, true) ++ ·) := by
 induction p with
 | nil => simp
 | cons c p ih =>
  simp only [List.mem_cons, not_or] at h
  rw [List.cons_append, signs_bare c _ (Ne.symm h.1), ih h.2, Option.map_map]
  rfl
theorem signs_of_bare {l : List UInt8} {c : UInt8} {L : List Sg} (h : signs l = some ((c, true) :: L)) : ∃ t, l = c :: t ∧ c ≠ 92 ∧ signs t = some L := by
 cases l with
 | nil => rw [signs_nil] at h; simp at h
 | cons d t =>
  by_cases e : d = 92
  ·subst e
   cases he : esc t with
   | none => rw [signs_bad t he] at h; cases h
   | some p =>
    obtain ⟨x, n⟩ := p
    rw [signs_esc t x n he] at h
    obtain ⟨M, _, hM⟩ := Option.map_eq_some_iff.1 h
    simp at hM
  ·rw [signs_bare d t e] at h
   obtain ⟨M, h1, hM⟩ := Option.map_eq_some_iff.1 h
   simp only [List.cons.injEq, Prod.mk.injEq, and_true] at hM
   obtain ⟨rfl, rfl⟩ := hM
   exact ⟨t, rfl, e, h1⟩
theorem signs_of_bares : ∀ (a : List UInt8) (l : List UInt8) (L : List Sg), signs l = some (a.map (·, true) ++ L) → ∃ r, l = a ++ r ∧ (92 : UInt8) ∉ a ∧ signs r = some L
 | [], l, L, h => ⟨l, rfl, by simp, h⟩
 | c :: a, l, L, h => by
  obtain ⟨t, rfl, h1, h2⟩ := signs_of_bare h
  obtain ⟨r, rfl, h3, h4⟩ := signs_of_bares a t L h2
  exact ⟨r, rfl, by simp [h3, Ne.symm h1], h4⟩
/-! ### segments -/
def sepS (x : Sg) : Bool := x.2 && isSep x.1
def segs : List Sg → List Sg × List (UInt8 × List Sg)
 | [] => ([], [])
 | x :: t => if sepS x = true then ([], (x.1, (segs t).1) :: (segs t).2) else (x :: (segs t).1, (segs t).2)
theorem segs_none (B : List Sg) (h : ∀ x ∈ B, sepS x = false) : segs B = (B, []) := by
 induction B with
 | nil => rfl
 | cons x B ih =>
  rw [segs, if_neg (by rw [h x (by simp)]; simp), ih (fun y hy => h y (by simp [hy]))]
theorem segs_at (B : List Sg) (c : UInt8) (L : List Sg) (h : ∀ x ∈ B, sepS x = false) (hc : isSep c = true) : segs (B ++ (c, true) :: L) = (B, (c, (segs L).1) :: (segs L).2) := by
 induction B with
 | nil => rw [List.nil_append, segs, if_pos (by simpa [sepS] using hc)]
 | cons x B ih =>
  rw [List.cons_append, segs, if_neg (by rw [h x (by simp)]; simp), ih (fun y hy => h y (by simp [hy]))]
theorem segs_app (B L : List Sg) (h : ∀ x ∈ B, sepS x = false) : segs (B ++ L) = (B ++ (segs L).1, (segs L).2) := by
 induction B with
 | nil => rfl
 | cons x B ih =>
  rw [List.cons_append, segs, if_neg (by rw [h x (by simp)]; simp), ih (fun y hy => h y (by simp [hy]))]; rfl
/-! ### trimming -/
def blankS (x : Sg) : Bool := x.2 && decide (x.1 = 32)
def trimR (B : List Sg) : List Sg := (B.reverse.dropWhile blankS).reverse
def trim (B : List Sg) : List Sg := trimR (B.dropWhile blankS)
theorem dropW_app {α : Type} (p : α → Bool) : ∀ (a b : List α), (∀ x ∈ a, p x = true) → (a ++ b).dropWhile p = b.dropWhile p
 | [], b, _ => rfl
 | x :: a, b, h => by
  rw [List.cons_append, List.dropWhile_cons, if_pos (h x (by simp)), dropW_app p a b (fun y hy => h y (by simp [hy]))]
theorem dropW_split {α : Type} (p : α → Bool) : ∀ (l : List α), ∃ a, l = a ++ l.dropWhile p ∧ (∀ x ∈ a, p x = true)
 | [] => ⟨[], rfl, by simp⟩
 | x :: l => by
  by_cases h : p x = true
  ·obtain ⟨a, h1, h2⟩ := dropW_split p l
   refine ⟨x :: a, ?_, ?_⟩
   ·rw [List.dropWhile_cons, if_pos h, List.cons_append, ← h1]
   ·intro y hy
    rcases List.mem_cons.1 hy with rfl | hy
    ·exact h
    ·exact h2 y hy
  ·exact ⟨[], by rw [List.dropWhile_cons, if_neg h]; rfl, by simp⟩
theorem dropW_head {α : Type} (p : α → Bool) : ∀ (l : List α) (x : α) (t : List α), l.dropWhile p = x :: t → p x = false
 | [], x, t, h => by simp at h
 | y :: l, x, t, h => by
  by_cases e : p y = true
  ·rw [List.dropWhile_cons, if_pos e] at h
   exact dropW_head p l x t h
  ·rw [List.dropWhile_cons, if_neg e] at h
   cases h
   simpa using e
theorem dropW_keep {α : Type} (p : α → Bool) (l : List α) (x : α) (h : x ∈ l) (hx : p x = false) : x ∈ l.dropWhile p := by
 obtain ⟨a, h1, h2⟩ := dropW_split p l
 rw [h1] at h
 rcases List.mem_append.1 h with h | h
 ·rw [h2 x h] at hx; cases hx
 ·exact h
theorem dropW_id {α : Type} (p : α → Bool) (l : List α) (h : ∀ x t, l = x :: t → p x = false) : l.dropWhile p = l := by
 cases l with
 | nil => rfl
 | cons x t => rw [List.dropWhile_cons, if_neg (by rw [h x t rfl]; simp)]
theorem trimR_split (B : List Sg) : ∃ a, B = trimR B ++ a ∧ ∀ x ∈ a, blankS x = true := by
 obtain ⟨a, h1, h2⟩ := dropW_split blankS B.reverse
 refine ⟨a.reverse, ?_, fun x hx => h2 x (List.mem_reverse.1 hx)⟩
 unfold trimR
 rw [← List.reverse_append, ← h1, List.reverse_reverse]
theorem trimR_keep (B : List Sg) (x : Sg) (h : x ∈ B) (hx : blankS x = false) : x ∈ trimR B := by
 unfold trimR
 rw [List.mem_reverse]
 exact dropW_keep _ _ _ (List.mem_reverse.2 h) hx
theorem trim_keep (B : List Sg) (x : Sg) (h : x ∈ B) (hx : blankS x = false) : x ∈ trim B := trimR_keep _ x (dropW_keep _ _ _ h hx) hx
theorem trimR_head (x : Sg) (B : List Sg) (hx : blankS x = false) : ∃ t, trimR (x :: B) = x :: t := by
 obtain ⟨a, h1, h2⟩ := trimR_split (x :: B)
 have hm := trimR_keep (x :: B) x (by simp) hx
 cases ht : trimR (x :: B) with
 | nil => rw [ht] at hm; simp at hm
 | cons y t =>
  rw [ht] at h1
  cases h1
  exact ⟨t, rfl⟩
theorem trimR_mem (B : List Sg) (x : Sg) (h : x ∈ trimR B) : x ∈ B := by
 obtain ⟨a, h1, _⟩ := trimR_split B
 rw [h1]; exact List.mem_append_left _ h
theorem trim_mem (B : List Sg) (x : Sg) (h : x ∈ trim B) : x ∈ B := by
 obtain ⟨a, h1, _⟩ := dropW_split blankS B
 rw [h1]; exact List.mem_append_right _ (trimR_mem _ x h)
/-! ### a type -/
def low (c : UInt8) : UInt8 := if 65 ≤ c ∧ c ≤ 90 then c + 32 else c
def letter (c : UInt8) : Bool := decide (97 ≤ c ∧ c ≤ 122)
def typeCh (c : UInt8) : Bool := letter c || decide (48 ≤ c ∧ c ≤ 57) || decide (c = 45)
def typeOK (t : List UInt8) : Bool := (match t with
 | [] => false
 | c :: _ => letter c) && decide (t.length ≤ 32) && t.all typeCh
def lowL (t : List UInt8) : List UInt8 := t.map low
theorem low_ch : ∀ c : UInt8, typeCh (low c) = true → c ≠ 32 ∧ c ≠ 61 ∧ c ≠ 92 ∧ c ≠ 44 ∧ c ≠ 59 ∧ c ≠ 43 := by
 intro c h
 refine ⟨?_, ?_, ?_, ?_, ?_, ?_⟩ <;> (rintro rfl; revert h; decide)
theorem type_mem {t : List UInt8} (h : typeOK (lowL t) = true) : t ≠ [] ∧ ∀ c ∈ t, typeCh (low c) = true := by
 unfold typeOK at h
 simp only [Bool.and_eq_true] at h
 obtain ⟨⟨h1, _⟩, h2⟩ := h
 refine ⟨?_, ?_⟩
 ·rintro rfl; simp [lowL] at h1
 ·intro c hc
  exact List.all_eq_true.1 h2 (low c) (List.mem_map.2 ⟨c, hc, rfl⟩)
/-! ### the reference's pair -/
def eqS (x : Sg) : Bool := x.2 && decide (x.1 = 61)
def rightOK (R : List Sg) : Bool := !(R.any fun x => x.2 && bad x.1) && (match R with
 | [] => true
 | x :: _ => !(x.2 && decide (x.1 = 35)))
def pairS (s : List Sg) : Option Pr :=
 match s.dropWhile (fun x => !eqS x) with
 | [] => none
 | _ :: V =>
  let left := trim (s.takeWhile fun x => !eqS x)
  if (left.all (·.2)) = true ∧ typeOK (lowL (left.map (·.1))) = true ∧ rightOK (trim V) = true then some (lowL (left.map (·.1)), (trim V).map (·.1)) else none
theorem takeW_no {α : Type} (p : α → Bool) : ∀ (a : List α) (x : α) (b : List α), (∀ y ∈ a, p y = true) → p x = false → (a ++ x :: b).takeWhile p = a ∧ (a ++ x :: b).dropWhile p = x :: b
 | [], x, b, _, hx => by simp [hx]
 | y :: a, x, b, h, hx => by
  obtain ⟨h1, h2⟩ := takeW_no p a x b (fun z hz => h z (by simp [hz])) hx
  rw [List.cons_append, List.takeWhile_cons, List.dropWhile_cons, if_pos (h y (by simp)), if_pos (h y (by simp)), h1, h2]
  exact ⟨rfl, rfl⟩
theorem pairS_at (A V : List Sg) (h : ∀ x ∈ A, eqS x = false) : pairS (A ++ (61, true) :: V) = if ((trim A).all (·.2)) = true ∧ typeOK (lowL ((trim A).map (·.1))) = true ∧ rightOK (trim V) = true then some (lowL ((trim A).map (·.1)), (trim V).map (·.1)) else none := by
 obtain ⟨h1, h2⟩ := takeW_no (fun x => !eqS x) A ((61, true) : Sg) V (fun x hx => by rw [h x hx]; rfl) (by decide)
 unfold pairS
 rw [h1, h2]
theorem pairS_some {s : List Sg} {p : Pr} (h : pairS s = some p) : ∃ A V, s = A ++ (61, true) :: V ∧ (∀ x ∈ A, eqS x = false) ∧ ((trim A).all (·.2)) = true ∧ typeOK (lowL ((trim A).map (·.1))) = true ∧ rightOK (trim V) = true ∧ p = (lowL ((trim A).map (·.1)), (trim V).map (·.1)) := by
 obtain ⟨A, h1, h2⟩ := dropW_split (fun x => !eqS x) s
 cases hd : s.dropWhile (fun x => !eqS x) with
 | nil => unfold pairS at h; rw [hd] at h; cases h
 | cons x V =>
  have hx := dropW_head _ _ _ _ hd
  have hx' : x = (61, true) := by
   obtain ⟨c, b⟩ := x
   simp only [Bool.not_eq_false', eqS, Bool.and_eq_true, decide_eq_true_eq] at hx
   obtain ⟨rfl, rfl⟩ := hx
   rfl
  subst hx'
  rw [hd] at h1
  have hA : ∀ x ∈ A, eqS x = false := fun x hx => by have := h2 x hx; simpa using this
  rw [h1, pairS_at A V hA] at h
  split at h
  ·rename_i hc
   cases h
   exact ⟨A, V, h1, hA, hc.1, hc.2.1, hc.2.2, rfl⟩
  ·cases h
/-! ### bytes trimmed -/
def trimB (l : List UInt8) : List UInt8 := ((l.dropWhile (· = 32)).reverse.dropWhile (· = 32)).reverse
theorem map_dropW {α β : Type} (f : α → β) (p : β → Bool) : ∀ l : List α, (l.map f).dropWhile p = (l.dropWhile (fun x => p (f x))).map f
 | [] => rfl
 | x :: l => by
  rw [List.map_cons, List.dropWhile_cons, List.dropWhile_cons]
  split
  ·rw [map_dropW f p l]
  ·rfl
theorem blankS_bare (c : UInt8) : blankS (c, true) = decide (c = 32) := by simp [blankS]
theorem trim_bare (a : List UInt8) : trim (a.map (·, true)) = (trimB a).map (·, true) := by
 unfold trim trimR trimB
 have e : (fun x : UInt8 => blankS (x, true)) = (fun x => decide (x = 32)) := by funext x; exact blankS_bare x
 rw [map_dropW, e, ← List.map_reverse, map_dropW, e, List.map_reverse]
theorem trimB_split (a : List UInt8) : ∃ x y, a = x ++ trimB a ++ y ∧ (∀ c ∈ x, c = 32) ∧ (∀ c ∈ y, c = 32) := by
 obtain ⟨x, h1, h2⟩ := dropW_split (fun c : UInt8 => decide (c = 32)) a
 obtain ⟨y, h3, h4⟩ := dropW_split (fun c : UInt8 => decide (c = 32)) (a.dropWhile (fun c => decide (c = 32))).reverse
 refine ⟨x, y.reverse, ?_, fun c hc => by simpa using h2 c hc, fun c hc => by simpa using h4 c (List.mem_reverse.1 hc)⟩
 have h5 : a.dropWhile (fun c => decide (c = 32)) = trimB a ++ y.reverse := by
  unfold trimB
  rw [← List.reverse_append, ← h3, List.reverse_reverse]
 rw [List.append_assoc, ← h5, ← h1]
/-! ### the program's way -/
def kindP (l : List UInt8) : Option (List UInt8 × List UInt8) :=
 let l1 := l.dropWhile (· = 32)
 let T := l1.takeWhile fun c => decide (c ≠ 61 ∧ c ≠ 32)
 match ((l1.dropWhile fun c => decide (c ≠ 61 ∧ c ≠ 32)).dropWhile (· = 32)) with
 | [] => none
 | c :: r => if c = 61 ∧ typeOK (lowL T) = true then some (lowL T, r) else none
theorem takeW_all {α : Type} (p : α → Bool) : ∀ (a b : List α), (∀ y ∈ a, p y = true) → (∀ x t, b = x :: t → p x = false) → (a ++ b).takeWhile p = a ∧ (a ++ b).dropWhile p = b
 | [], b, _, hb => by
  cases b with
  | nil => exact ⟨rfl, rfl⟩
  | cons x t => simp [hb x t rfl]
 | y :: a, b, h, hb => by
  obtain ⟨h1, h2⟩ := takeW_all p a b (fun z hz => h z (by simp [hz])) hb
  rw [List.cons_append, List.takeWhile_cons, List.dropWhile_cons, if_pos (h y (by simp)), if_pos (h y (by simp)), h1, h2]
  exact ⟨rfl, rfl⟩
theorem kindP_of (x T y r : List UInt8) (hx : ∀ c ∈ x, c = 32) (hy : ∀ c ∈ y, c = 32) (hT : typeOK (lowL T) = true) : kindP (x ++ T ++ y ++ 61 :: r) = some (lowL T, r) := by
 obtain ⟨hne, hm⟩ := type_mem hT
 unfold kindP
 have e1 : (x ++ T ++ y ++ 61 :: r).dropWhile (fun c => decide (c = 32)) = T ++ (y ++ 61 :: r) := by
  rw [List.append_assoc, List.append_assoc, dropW_app _ x _ (fun c hc => by simp [hx c hc]), dropW_id]
  intro c t hc
  cases T with
  | nil => exact absurd rfl hne
  | cons d T =>
   have hcd : d = c := by simp only [List.cons_append, List.cons.injEq] at hc; exact hc.1
   have := (low_ch d (hm d (by simp))).1
   rw [hcd] at this
   simpa using this
 have e2 := takeW_all (fun c : UInt8 => decide (c ≠ 61 ∧ c ≠ 32)) T (y ++ 61 :: r) (fun c hc => by have := low_ch c (hm c hc); simp [this.1, this.2.1]) (by
  intro c t hc
  cases y with
  | nil =>
   have hcd : 61 = c := by simp only [List.nil_append, List.cons.injEq] at hc; exact hc.1
   rw [← hcd]; decide
  | cons d y =>
   have hcd : d = c := by simp only [List.cons_append, List.cons.injEq] at hc; exact hc.1
   have := hy d (by simp)
   rw [hcd] at this
   simp [this])
 simp only [e1, e2.1, e2.2]
 rw [dropW_app _ y _ (fun c hc => by simp [hy c hc])]
 rw [List.dropWhile_cons, if_neg (by decide)]
 simp [hT]
theorem kindP_some {l t r : List UInt8} (h : kindP l = some (t, r)) : ∃ x T y, l = x ++ T ++ y ++ 61 :: r ∧ (∀ c ∈ x, c = 32) ∧ (∀ c ∈ y, c = 32) ∧ typeOK (lowL T) = true ∧ t = lowL T := by
 obtain ⟨x, hx1, hx2⟩ := dropW_split (fun c : UInt8 => decide (c = 32)) l
 unfold kindP at h
 simp only [] at h
 generalize hl1 : l.dropWhile (fun c => decide (c = 32)) = l1 at *
 have hT := List.takeWhile_append_dropWhile (p := fun c : UInt8 => decide (c ≠ 61 ∧ c ≠ 32)) (l := l1)
 generalize hl2 : l1.dropWhile (fun c : UInt8 => decide (c ≠ 61 ∧ c ≠ 32)) = l2 at *
 generalize hTT : l1.takeWhile (fun c : UInt8 => decide (c ≠ 61 ∧ c ≠ 32)) = T at *
 obtain ⟨y, hy1, hy2⟩ := dropW_split (fun c : UInt8 => decide (c = 32)) l2
 generalize hl3 : l2.dropWhile (fun c => decide (c = 32)) = l3 at *
 cases l3 with
 | nil => simp at h
 | cons c r' =>
  simp only [] at h
  split at h
  ·rename_i hc
   obtain ⟨rfl, hc2⟩ := hc
   cases h
   refine ⟨x, T, y, ?_, fun c hc => by simpa using hx2 c hc, fun c hc => by simpa using hy2 c hc, hc2, rfl⟩
   rw [hx1, ← hT, hy1]
   simp
  ·cases h
theorem trimB_of (x T y : List UInt8) (hx : ∀ c ∈ x, c = 32) (hy : ∀ c ∈ y, c = 32) (hT : typeOK (lowL T) = true) : trimB (x ++ T ++ y) = T := by
 obtain ⟨hne, hm⟩ := type_mem hT
 have h32 : ∀ c ∈ T, decide (c = 32) = false := fun c hc => by have := (low_ch c (hm c hc)).1; simpa using this
 have e1 : (x ++ T ++ y).dropWhile (fun c => decide (c = 32)) = T ++ y := by
  rw [List.append_assoc, dropW_app _ x _ (fun c hc => by simp [hx c hc]), dropW_id]
  intro c t hc
  cases T with
  | nil => exact absurd rfl hne
  | cons d T =>
   have hcd : d = c := by simp only [List.cons_append, List.cons.injEq] at hc; exact hc.1
   rw [← hcd]
   exact h32 d (by simp)
 unfold trimB
 rw [e1, List.reverse_append, dropW_app _ y.reverse _ (fun c hc => by simp [hy c (List.mem_reverse.1 hc)]), dropW_id, List.reverse_reverse]
 intro c t hc
 have : c ∈ T := by rw [← List.mem_reverse, hc]; simp
 exact h32 c this
def scanF : Nat → List UInt8 → Option (List Sg × List UInt8)
 | 0, _ => some ([], [])
 | _ + 1, [] => some ([], [])
 | f + 1, c :: t => if isSep c = true then some ([], c :: t) else if bad c = true then none else if c ≠ 92 then (scanF f t).map (fun p => ((c, true) :: p.1, p.2)) else match esc t with
  | none => none
  | some (d, n) => (scanF f (t.drop n)).map (fun p => ((d, false) :: p.1, p.2))
def scan (l : List UInt8) : Option (List Sg × List UInt8) := scanF l.length l
theorem scanF_more : ∀ (f g : Nat) (l : List UInt8), l.length ≤ f → l.length ≤ g → scanF f l = scanF g l
 | 0, g, l, h, _ => by
  have : l = [] := List.eq_nil_of_length_eq_zero (by omega)
  subst this
  cases g <;> rfl
 | f + 1, 0, l, _, h => by
  have : l = [] := List.eq_nil_of_length_eq_zero (by omega)
  subst this
  rfl
 | f + 1, g + 1, [], _, _ => rfl
 | f + 1, g + 1, c :: t, h, h' => by
  simp only [List.length_cons] at h h'
  unfold scanF
  have h1 := scanF_more f g t (by omega) (by omega)
  have h2 := fun n => scanF_more f g (t.drop n) (by rw [List.length_drop]; omega) (by rw [List.length_drop]; omega)
  rw [h1]
  split
  ·rfl
  ·split
   ·rfl
   ·split
    ·rfl
    ·cases esc t with
     | none => rfl
     | some p => obtain ⟨d, n⟩ := p; simp only []; rw [h2 n]
theorem scan_nil : scan [] = some ([], []) := rfl
theorem scan_sep (c : UInt8) (t : List UInt8) (h : isSep c = true) : scan (c :: t) = some ([], c :: t) := by
 show scanF (t.length + 1) (c :: t) = _
 rw [scanF, if_pos h]
theorem scan_bad (c : UInt8) (t : List UInt8) (h : isSep c = false) (h2 : bad c = true) : scan (c :: t) = none := by
 show scanF (t.length + 1) (c :: t) = _
 rw [scanF, if_neg (by rw [h]; simp), if_pos h2]
theorem scan_bare (c : UInt8) (t : List UInt8) (h : isSep c = false) (h2 : bad c = false) (h3 : c ≠ 92) : scan (c :: t) = (scan t).map (fun p => ((c, true) :: p.1, p.2)) := by
 show scanF (t.length + 1) (c :: t) = _
 rw [scanF, if_neg (by rw [h]; simp), if_neg (by rw [h2]; simp), if_pos h3]; rfl
theorem scan_esc (t : List UInt8) (d : UInt8) (n : Nat) (h : esc t = some (d, n)) : scan (92 :: t) = (scan (t.drop n)).map (fun p => ((d, false) :: p.1, p.2)) := by
 show scanF (t.length + 1) (92 :: t) = _
 rw [scanF, if_neg (by decide), if_neg (by decide), if_neg (by simp), h]
 simp only []
 rw [scanF_more t.length (t.drop n).length _ (by rw [List.length_drop]; omega) (Nat.le_refl _)]; rfl
theorem scan_none (t : List UInt8) (h : esc t = none) : scan (92 :: t) = none := by
 show scanF (t.length + 1) (92 :: t) = _
 rw [scanF, if_neg (by decide), if_neg (by decide), if_neg (by simp), h]
def badS (x : Sg) : Bool := x.2 && bad x.1
theorem scan_signs : ∀ (n : Nat) (l : List UInt8), l.length ≤ n →
  (scan l = none ∧ (signs l = none ∨ ∃ L, signs l = some L ∧ ∃ x ∈ (segs L).1, badS x = true)) ∨
  (∃ B, scan l = some (B, []) ∧ signs l = some B ∧ ∀ x ∈ B, sepS x = false ∧ badS x = false) ∨
  (∃ B c r, scan l = some (B, c :: r) ∧ isSep c = true ∧ r.length < l.length ∧ signs l = (signs r).map (fun L => B ++ (c, true) :: L) ∧ ∀ x ∈ B, sepS x = false ∧ badS x = false)
 | n, [], _ => Or.inr (Or.inl ⟨[], rfl, rfl, by simp⟩)
 | 0, _ :: _, h => by simp at h
 | n + 1, c :: t, h => by
  simp only [List.length_cons] at h
  by_cases hs : isSep c = true
  ·have hc : c ≠ 92 := by rintro rfl; revert hs; decide
   refine Or.inr (Or.inr ⟨[], c, t, scan_sep c t hs, hs, by simp, ?_, by simp⟩)
   rw [signs_bare c t hc]; rfl
  ·have hs' : isSep c = false := by simpa using hs
   by_cases hb : bad c = true
   ·refine Or.inl ⟨scan_bad c t hs' hb, ?_⟩
    have hc : c ≠ 92 := by rintro rfl; revert hb; decide
    rw [signs_bare c t hc]
    cases hst : signs t with
    | none => exact Or.inl rfl
    | some L =>
     refine Or.inr ⟨_, rfl, (c, true), ?_, by simpa [badS] using hb⟩
     rw [segs, if_neg (by simp [sepS, hs'])]
     simp
   ·have hb' : bad c = false := by simpa using hb
    by_cases h92 : c = 92
    ·subst h92
     cases he : esc t with
     | none => exact Or.inl ⟨scan_none t he, Or.inl (signs_bad t he)⟩
     | some p =>
      obtain ⟨d, k⟩ := p
      obtain ⟨k1, k2, k3⟩ := esc_two he
      rw [scan_esc t d k he, signs_esc t d k he]
      have hdl : (t.drop k).length ≤ n := by rw [List.length_drop]; omega
      rcases scan_signs n (t.drop k) hdl with ⟨e1, e2⟩ | ⟨B, e1, e2, e3⟩ | ⟨B, c', r, e1, e2, e3, e4, e5⟩
      ·refine Or.inl ⟨by rw [e1]; rfl, ?_⟩
       rcases e2 with e2 | ⟨L, e2, x, hx, hx2⟩
       ·exact Or.inl (by rw [e2]; rfl)
       ·refine Or.inr ⟨_, by rw [e2]; rfl, x, ?_, hx2⟩
        rw [segs, if_neg (by simp [sepS])]
        exact List.mem_cons_of_mem _ hx
      ·refine Or.inr (Or.inl ⟨(d, false) :: B, by rw [e1]; rfl, by rw [e2]; rfl, ?_⟩)
       intro x hx
       rcases List.mem_cons.1 hx with rfl | hx
       ·simp [sepS, badS]
       ·exact e3 x hx
      ·refine Or.inr (Or.inr ⟨(d, false) :: B, c', r, by rw [e1]; rfl, e2, ?_, by rw [e4, Option.map_map]; rfl, ?_⟩)
       ·rw [List.length_drop] at e3; simp only [List.length_cons]; omega
       ·intro x hx
        rcases List.mem_cons.1 hx with rfl | hx
        ·simp [sepS, badS]
        ·exact e5 x hx
    ·rw [scan_bare c t hs' hb' h92, signs_bare c t h92]
     rcases scan_signs n t (by omega) with ⟨e1, e2⟩ | ⟨B, e1, e2, e3⟩ | ⟨B, c', r, e1, e2, e3, e4, e5⟩
     ·refine Or.inl ⟨by rw [e1]; rfl, ?_⟩
      rcases e2 with e2 | ⟨L, e2, x, hx, hx2⟩
      ·exact Or.inl (by rw [e2]; rfl)
      ·refine Or.inr ⟨_, by rw [e2]; rfl, x, ?_, hx2⟩
       rw [segs, if_neg (by simp [sepS, hs'])]
       exact List.mem_cons_of_mem _ hx
     ·refine Or.inr (Or.inl ⟨(c, true) :: B, by rw [e1]; rfl, by rw [e2]; rfl, ?_⟩)
      intro x hx
      rcases List.mem_cons.1 hx with rfl | hx
      ·simp [sepS, badS, hs', hb']
      ·exact e3 x hx
     ·refine Or.inr (Or.inr ⟨(c, true) :: B, c', r, by rw [e1]; rfl, e2, by simp only [List.length_cons]; omega, by rw [e4, Option.map_map]; rfl, ?_⟩)
      intro x hx
      rcases List.mem_cons.1 hx with rfl | hx
      ·simp [sepS, badS, hs', hb']
      ·exact e5 x hx
theorem scan_head {c : UInt8} {t : List UInt8} {B : List Sg} {r : List UInt8} (h : scan (c :: t) = some (B, r)) : B = [] ∨ ∃ B', (B = (c, true) :: B' ∧ c ≠ 92) ∨ ∃ d, B = (d, false) :: B' := by
 by_cases hs : isSep c = true
 ·rw [scan_sep c t hs] at h; cases h; exact Or.inl rfl
 ·have hs' : isSep c = false := by simpa using hs
  by_cases hb : bad c = true
  ·rw [scan_bad c t hs' hb] at h; cases h
  ·have hb' : bad c = false := by simpa using hb
   by_cases h92 : c = 92
   ·subst h92
    cases he : esc t with
    | none => rw [scan_none t he] at h; cases h
    | some p =>
     obtain ⟨d, k⟩ := p
     rw [scan_esc t d k he] at h
     obtain ⟨q, _, hq⟩ := Option.map_eq_some_iff.1 h
     cases hq
     exact Or.inr ⟨_, Or.inr ⟨d, rfl⟩⟩
   ·rw [scan_bare c t hs' hb' h92] at h
    obtain ⟨q, _, hq⟩ := Option.map_eq_some_iff.1 h
    cases hq
    exact Or.inr ⟨_, Or.inl ⟨rfl, h92⟩⟩
def valueP (r : List UInt8) : Option (List UInt8 × List UInt8) :=
 if (r.dropWhile (· = 32)).head? = some 35 then none else (scan (r.dropWhile (· = 32))).map fun p => ((trimR p.1).map (·.1), p.2)
def PF : Nat → List UInt8 → Option (Pr × List (UInt8 × Pr))
 | 0, _ => none
 | f + 1, l => (kindP l).bind fun k => (valueP k.2).bind fun v => match v.2 with
  | [] => some ((k.1, v.1), [])
  | c :: r => (PF f r).map fun p => ((k.1, v.1), (c, p.1) :: p.2)
def refL (s : List Sg × List (UInt8 × List Sg)) : Option (Pr × List (UInt8 × Pr)) :=
 (pairS s.1).bind fun p => (s.2.mapM fun q => (pairS q.2).map (q.1, ·)).map (p, ·)
def R (l : List UInt8) : Option (Pr × List (UInt8 × Pr)) := (signs l).bind fun L => refL (segs L)
theorem refL_cons (A : List Sg) (c : UInt8) (s : List Sg × List (UInt8 × List Sg)) : refL (A, (c, s.1) :: s.2) = (pairS A).bind fun p => (refL s).map fun q => (p, (c, q.1) :: q.2) := by
 unfold refL
 cases pairS A with
 | none => rfl
 | some p =>
  simp only [Option.bind_some, List.mapM_cons]
  cases pairS s.1 with
  | none => rfl
  | some q =>
   simp only [Option.map_some, Option.bind_some, Option.bind_eq_bind, Option.pure_def]
   cases (s.2.mapM fun q => (pairS q.2).map (q.1, ·)) with
   | none => rfl
   | some r => rfl
theorem rightOK_bad {R : List Sg} {x : Sg} (h : x ∈ R) (hx : badS x = true) : rightOK R = false := by
 unfold rightOK
 have : (R.any fun x => x.2 && bad x.1) = true := List.any_eq_true.2 ⟨x, h, hx⟩
 rw [this]; rfl
theorem badS_not_blank {x : Sg} (h : badS x = true) : blankS x = false := by
 obtain ⟨c, b⟩ := x
 unfold badS at h
 unfold blankS
 simp only [Bool.and_eq_true] at h
 obtain ⟨rfl, h2⟩ := h
 simp only [Bool.true_and, decide_eq_false_iff_not]
 rintro rfl
 revert h2; decide
set_option maxHeartbeats 1100000 in
theorem P_eq_R : ∀ (n : Nat) (l : List UInt8), l.length < n → PF n l = R l
 | 0, l, h => by omega
 | n + 1, l, h => by
  cases hk : kindP l with
  | none =>
   have hP : PF (n + 1) l = none := by rw [PF, hk]; rfl
   rw [hP]
   unfold R
   cases hs : signs l with
   | none => rfl
   | some L =>
    simp only [Option.bind_some]
    unfold refL
    cases hp : pairS (segs L).1 with
    | none => rfl
    | some p =>
     exfalso
     obtain ⟨A, V, h1, h2, h3, h4, h5, _⟩ := pairS_some hp
     -- all of A stands bare
     have hbare : ∀ x ∈ A, x.2 = true := by
      intro x hx
      by_cases hb : blankS x = true
      ·unfold blankS at hb; simp only [Bool.and_eq_true] at hb; exact hb.1
      ·exact List.all_eq_true.1 h3 x (trim_keep A x hx (by simpa using hb))
     have hA : A = (A.map (·.1)).map (·, true) := by
      rw [List.map_map]
      conv => lhs; rw [← List.map_id A]
      apply List.map_congr_left
      intro x hx
      have := hbare x hx
      obtain ⟨c, b⟩ := x
      simp only at this
      subst this
      rfl
     generalize A.map (·.1) = a at hA
     subst hA
     -- L begins with the segment
     have hL : ∃ M, L = (segs L).1 ++ M := by
      clear hs hp h1
      induction L with
      | nil => exact ⟨[], rfl⟩
      | cons x L ih =>
       obtain ⟨M, hM⟩ := ih
       unfold segs
       split
       ·exact ⟨x :: L, rfl⟩
       ·exact ⟨M, by rw [List.cons_append, ← hM]⟩
     obtain ⟨M, hM⟩ := hL
     rw [h1, List.append_assoc, List.cons_append] at hM
     rw [hM] at hs
     obtain ⟨r, rfl, _, hr⟩ := signs_of_bares a l _ hs
     obtain ⟨r2, rfl, _, _⟩ := signs_of_bare hr
     rw [trim_bare, List.map_map] at h4
     have e5 : ((fun x : Sg => x.1) ∘ fun x : UInt8 => (x, true)) = id := rfl
     rw [e5, List.map_id] at h4
     obtain ⟨x, y, e1, e2, e3⟩ := trimB_split a
     rw [e1] at hk
     rw [kindP_of x (trimB a) y r2 e2 e3 h4] at hk
     cases hk
  | some kr =>
   obtain ⟨t, r⟩ := kr
   obtain ⟨x, T, y, rfl, hx, hy, hT, rfl⟩ := kindP_some hk
   obtain ⟨hTne, hTm⟩ := type_mem hT
   have hall : ∀ c ∈ x ++ T ++ y, c ≠ 61 ∧ c ≠ 92 ∧ isSep c = false := by
    intro c hc
    rcases List.mem_append.1 hc with hc | hc
    ·rcases List.mem_append.1 hc with hc | hc
     ·rw [hx c hc]; decide
     ·have := low_ch c (hTm c hc)
      exact ⟨this.2.1, this.2.2.1, by simp [isSep, this.2.2.2.1, this.2.2.2.2.1, this.2.2.2.2.2]⟩
    ·rw [hy c hc]; decide
   have hsl : signs (x ++ T ++ y ++ 61 :: r) = (signs r).map (fun L => (x ++ T ++ y).map (·, true) ++ (61, true) :: L) := by
    rw [signs_app _ _ (fun h => (hall 92 h).2.1 rfl), signs_bare 61 r (by decide), Option.map_map]; rfl
   have hsep : ∀ z ∈ (x ++ T ++ y).map (·, true) ++ [((61, true) : Sg)], sepS z = false := by
    intro z hz
    rcases List.mem_append.1 hz with hz | hz
    ·obtain ⟨c, hc, rfl⟩ := List.mem_map.1 hz
     simp [sepS, (hall c hc).2.2]
    ·simp at hz; subst hz; decide
   have hps : ∀ V, pairS ((x ++ T ++ y).map (·, true) ++ (61, true) :: V) = if rightOK (trim V) = true then some (lowL T, (trim V).map (·.1)) else none := by
    intro V
    rw [pairS_at _ V (by intro z hz; obtain ⟨c, hc, rfl⟩ := List.mem_map.1 hz; simp [eqS, (hall c hc).1])]
    rw [trim_bare, trimB_of x T y hx hy hT, List.map_map]
    have e5 : ((fun x : Sg => x.1) ∘ fun x : UInt8 => (x, true)) = id := rfl
    rw [e5, List.map_id]
    have e6 : ((T.map fun c : UInt8 => ((c, true) : Sg)).all fun x => x.2) = true := by rw [List.all_map]; simp
    rw [e6]
    simp only [hT, true_and]
   -- the reference, by the signs of what is behind '='
   have hR : R (x ++ T ++ y ++ 61 :: r) = (signs r).bind fun L => refL ((x ++ T ++ y).map (·, true) ++ (61, true) :: (segs L).1, (segs L).2) := by
    unfold R
    rw [hsl]
    cases signs r with
    | none => rfl
    | some L =>
     simp only [Option.map_some, Option.bind_some]
     rw [show (x ++ T ++ y).map (·, true) ++ (61, true) :: L = ((x ++ T ++ y).map (·, true) ++ [((61, true) : Sg)]) ++ L from by simp, segs_app _ L hsep]
     simp
   rw [hR, PF, hk]
   simp only [Option.bind_some]
   clear hR hsl hsep hk
   -- the value
   obtain ⟨bl, hb1, hb2⟩ := dropW_split (fun c : UInt8 => decide (c = 32)) r
   unfold valueP
   generalize hr1 : r.dropWhile (fun c => decide (c = 32)) = r1 at *
   have hbl : ∀ c ∈ bl, c = 32 := fun c hc => by simpa using hb2 c hc
   have h92 : (92 : UInt8) ∉ bl := fun h => by have := hbl 92 h; revert this; decide
   have hsr : signs r = (signs r1).map (bl.map (·, true) ++ ·) := by rw [hb1, signs_app _ _ h92]
   have hblS : ∀ z ∈ bl.map (fun c => ((c, true) : Sg)), blankS z = true ∧ sepS z = false := by
    intro z hz
    obtain ⟨c, hc, rfl⟩ := List.mem_map.1 hz
    rw [hbl c hc]; decide
   have hrl : r1.length ≤ r.length := by rw [hb1, List.length_append]; omega
   have hnl : r.length ≤ n := by
    simp only [List.length_append, List.length_cons] at h
    have : T.length ≠ 0 := fun e => hTne (List.eq_nil_of_length_eq_zero e)
    omega
   rw [hsr]
   have htrim : ∀ V, trim (bl.map (·, true) ++ V) = trim V := by
    intro V
    unfold trim
    rw [dropW_app _ _ _ (fun z hz => (hblS z hz).1)]
   by_cases h35 : r1.head? = some 35
   ·rw [if_pos h35]
    simp only [Option.bind_none]
    cases r1 with
    | nil => simp at h35
    | cons c r1 =>
     simp only [List.head?_cons, Option.some.injEq] at h35
     subst h35
     rw [signs_bare 35 r1 (by decide)]
     cases signs r1 with
     | none => rfl
     | some L =>
      simp only [Option.map_some, Option.bind_some]
      unfold refL
      simp only []
      rw [segs_app _ _ (fun z hz => (hblS z hz).2), hps, htrim]
      have : segs (((35, true) : Sg) :: L) = ((35, true) :: (segs L).1, (segs L).2) := by rw [segs, if_neg (by decide)]
      rw [this]
      simp only []
      have e7 : trim ((35, true) :: (segs L).1) = trimR ((35, true) :: (segs L).1) := by
       unfold trim
       rw [List.dropWhile_cons, if_neg (by decide)]
      obtain ⟨t', ht'⟩ := trimR_head ((35, true) : Sg) (segs L).1 (by decide)
      rw [e7, ht']
      have e8 : rightOK (((35, true) : Sg) :: t') = false := by unfold rightOK; simp
      rw [e8]
      simp
   ·rw [if_neg h35]
    rcases scan_signs r1.length r1 (Nat.le_refl _) with ⟨e1, e2⟩ | ⟨B, e1, e2, e3⟩ | ⟨B, c, r3, e1, e2, e3, e4, e5⟩
    ·rw [e1]
     simp only [Option.map_none, Option.bind_none]
     rcases e2 with e2 | ⟨L, e2, z, hz, hz2⟩
     ·rw [e2]; rfl
     ·rw [e2]
      simp only [Option.map_some, Option.bind_some]
      unfold refL
      simp only []
      rw [segs_app _ _ (fun z hz => (hblS z hz).2), hps, htrim]
      rw [rightOK_bad (trim_keep _ z hz (badS_not_blank hz2)) hz2]
      simp
    · -- the text ends
     have hB1 : trim B = trimR B ∧ rightOK (trimR B) = true := by
      refine ⟨?_, ?_⟩
      ·unfold trim
       rw [dropW_id]
       intro z t hz
       subst hz
       cases r1 with
       | nil => rw [scan_nil] at e1; cases e1
       | cons c r1 =>
        rcases scan_head e1 with h' | ⟨B', h' | ⟨d, h'⟩⟩
        ·cases h'
        ·obtain ⟨h', _⟩ := h'
         cases h'
         have := dropW_head _ _ _ _ hr1
         simpa [blankS] using this
        ·cases h'; rfl
      ·unfold rightOK
       have g1 : ((trimR B).any fun x => x.2 && bad x.1) = false := by
        rw [Bool.eq_false_iff]
        intro hh
        obtain ⟨z, hz, hz2⟩ := List.any_eq_true.1 hh
        have := (e3 z (trimR_mem B z hz)).2
        unfold badS at this
        rw [this] at hz2; cases hz2
       rw [g1]
       cases hB : trimR B with
       | nil => rfl
       | cons z t =>
        simp only [Bool.not_false, Bool.true_and]
        obtain ⟨a, ha, _⟩ := trimR_split B
        rw [hB, List.cons_append] at ha
        cases r1 with
        | nil => rw [scan_nil] at e1; cases e1; cases ha
        | cons c r1 =>
         rcases scan_head e1 with h' | ⟨B', h' | ⟨d, h'⟩⟩
         ·rw [h'] at ha; cases ha
         ·obtain ⟨h', _⟩ := h'
          rw [h'] at ha
          cases ha
          simp only [List.head?_cons, Option.some.injEq] at h35
          simp [h35]
         ·rw [h'] at ha
          cases ha
          simp
     rw [e1, e2]
     simp only [Option.map_some, Option.bind_some]
     unfold refL
     simp only []
     rw [segs_app _ _ (fun z hz => (hblS z hz).2), segs_none B (fun z hz => (e3 z hz).1), hps, htrim]
     simp only []
     rw [hB1.1, hB1.2]
     simp
    ·have hB1 : trim B = trimR B ∧ rightOK (trimR B) = true := by
      refine ⟨?_, ?_⟩
      ·unfold trim
       rw [dropW_id]
       intro z t hz
       subst hz
       cases r1 with
       | nil => rw [scan_nil] at e1; cases e1
       | cons c r1 =>
        rcases scan_head e1 with h' | ⟨B', h' | ⟨d, h'⟩⟩
        ·cases h'
        ·obtain ⟨h', _⟩ := h'
         cases h'
         have := dropW_head _ _ _ _ hr1
         simpa [blankS] using this
        ·cases h'; rfl
      ·unfold rightOK
       have g1 : ((trimR B).any fun x => x.2 && bad x.1) = false := by
        rw [Bool.eq_false_iff]
        intro hh
        obtain ⟨z, hz, hz2⟩ := List.any_eq_true.1 hh
        have := (e5 z (trimR_mem B z hz)).2
        unfold badS at this
        rw [this] at hz2; cases hz2
       rw [g1]
       cases hB : trimR B with
       | nil => rfl
       | cons z t =>
        simp only [Bool.not_false, Bool.true_and]
        obtain ⟨a, ha, _⟩ := trimR_split B
        rw [hB, List.cons_append] at ha
        cases r1 with
        | nil => rw [scan_nil] at e1; cases e1
        | cons c r1 =>
         rcases scan_head e1 with h' | ⟨B', h' | ⟨d, h'⟩⟩
         ·rw [h'] at ha; cases ha
         ·obtain ⟨h', _⟩ := h'
          rw [h'] at ha
          cases ha
          simp only [List.head?_cons, Option.some.injEq] at h35
          simp [h35]
         ·rw [h'] at ha
          cases ha
          simp
     rw [e1, e4]
     simp only [Option.map_some, Option.bind_some, Option.map_map]
     rw [P_eq_R n r3 (by omega)]
     unfold R
     cases signs r3 with
     | none => rfl
     | some L =>
      simp only [Option.map_some, Option.bind_some, Function.comp]
      rw [segs_app _ _ (fun z hz => (hblS z hz).2), segs_at B c L (fun z hz => (e5 z hz).1) e2]
      simp only []
      rw [refL_cons, hps, htrim, hB1.1, hB1.2]
      simp
end dnp
end Go.Proofs.YtcolcogobdgejaaGreatDoor
/-! LowP -/
namespace Go.Proofs.YtcolcogobdgejaaGreatDoor
namespace dnp
set_option linter.unusedVariables false
set_option linter.unusedSimpArgs false
def lowf (r : Int) : Int := if 65 ≤ r ∧ r ≤ 90 then r + 32 else r
theorem low_ascii (c : UInt8) (h : c.toNat < 128) : Lib.encodeRune (lowf (c.toNat : Int)) = [low c] := by
 have all : ∀ m : Fin 128, Lib.encodeRune (lowf (m.val : Int)) = [low (UInt8.ofNat m.val)] := by decide +kernel
 have := all ⟨c.toNat, h⟩
 simpa using this
theorem lowf_nonneg {r : Int} (h : 0 ≤ r) : 0 ≤ lowf r := by unfold lowf; split <;> omega
theorem decodeL_ascii (c : UInt8) (t : List UInt8) (h : c.toNat < 128) : Lib.decodeL (c :: t) = (c.toNat, 1) := by
 unfold Lib.decodeL
 exact decode_ascii ⟨(c :: t).toArray⟩ 0 (by show 0 < (c :: t).toArray.size; simp) h
theorem decodeL_high (c : UInt8) (t : List UInt8) (h : 128 ≤ c.toNat) : 128 ≤ (Lib.decodeL (c :: t)).1 := by
 unfold Lib.decodeL
 exact (decode_high ⟨(c :: t).toArray⟩ 0 (by show 0 < (c :: t).toArray.size; simp) h).1
theorem mapD_ascii (c : UInt8) (t : List UInt8) (h : c.toNat < 128) : Lib.mapD lowf (c :: t) = low c :: Lib.mapD lowf t := by
 rw [Lib.mapD_step lowf _ (by simp), decodeL_ascii c t h, if_pos (lowf_nonneg (by simp)), low_ascii c h]
 rfl
theorem enc_high (r : Int) (h : 128 ≤ r) : ∃ x t, Lib.encodeRune r = x :: t ∧ 128 ≤ x.toNat := by
 have key : ∀ z : Int, 128 ≤ z → z < 256 → 128 ≤ (z.toNat.toUInt8).toNat := by
  intro z h1 h2
  simp; omega
 unfold Lib.encodeRune Lib.encodeRuneZ
 repeat' split
 ·omega
 ·exact ⟨_, _, rfl, key _ (by omega) (by omega)⟩
 ·exact ⟨_, _, rfl, key _ (by omega) (by omega)⟩
 ·exact ⟨_, _, rfl, key _ (by omega) (by omega)⟩
 ·exact ⟨_, _, rfl, key _ (by omega) (by omega)⟩
theorem mapD_all : ∀ l : List UInt8, (∀ c ∈ l, c.toNat < 128) → Lib.mapD lowf l = lowL l
 | [], _ => rfl
 | c :: t, h => by
  rw [mapD_ascii c t (h c (by simp)), mapD_all t (fun x hx => h x (by simp [hx]))]; rfl
theorem mapD_high : ∀ l : List UInt8, (∃ c ∈ l, 128 ≤ c.toNat) → ∃ x ∈ Lib.mapD lowf l, 128 ≤ x.toNat
 | [], ⟨c, h, _⟩ => by simp at h
 | c :: t, ⟨d, hd, h⟩ => by
  by_cases hc : c.toNat < 128
  ·rw [mapD_ascii c t hc]
   rcases List.mem_cons.1 hd with rfl | hd
   ·omega
   ·obtain ⟨x, hx, hx2⟩ := mapD_high t ⟨d, hd, h⟩
    exact ⟨x, List.mem_cons_of_mem _ hx, hx2⟩
  ·have h1 := decodeL_high c t (by omega)
   rw [Lib.mapD_step lowf _ (by simp), if_pos (lowf_nonneg (by omega))]
   have e : lowf ((Lib.decodeL (c :: t)).1 : Int) = ((Lib.decodeL (c :: t)).1 : Int) := by unfold lowf; rw [if_neg (by omega)]
   rw [e]
   obtain ⟨x, u, hx, hx2⟩ := enc_high ((Lib.decodeL (c :: t)).1 : Int) (by omega)
   exact ⟨x, by rw [hx]; simp, hx2⟩
theorem typeOK_high {l : List UInt8} (h : ∃ x ∈ l, 128 ≤ x.toNat) : typeOK l = false := by
 obtain ⟨x, hx, hx2⟩ := h
 rw [Bool.eq_false_iff]
 intro e
 unfold typeOK at e
 simp only [Bool.and_eq_true] at e
 have h1 := List.all_eq_true.1 e.2 x hx
 have all : ∀ m : Fin 256, 128 ≤ m.val → typeCh (UInt8.ofNat m.val) = false := by decide +kernel
 have := all ⟨x.toNat, x.toNat_lt⟩ hx2
 simp only [UInt8.ofNat_toNat] at this
 rw [this] at h1
 cases h1
theorem low_high (c : UInt8) (h : 128 ≤ c.toNat) : low c = c := by
 unfold low
 rw [if_neg]
 rintro ⟨_, h2⟩
 rw [UInt8.le_iff_toNat_le] at h2
 have : (90 : UInt8).toNat = 90 := rfl
 omega
theorem low_type (l : List UInt8) : typeOK (Lib.mapD lowf l) = typeOK (lowL l) ∧ (typeOK (lowL l) = true → Lib.mapD lowf l = lowL l) := by
 by_cases h : ∃ c ∈ l, 128 ≤ c.toNat
 ·have h1 := typeOK_high (mapD_high l h)
  obtain ⟨c, hc, hc2⟩ := h
  have h2 : typeOK (lowL l) = false := typeOK_high ⟨low c, List.mem_map.2 ⟨c, hc, rfl⟩, by rw [low_high c hc2]; exact hc2⟩
  rw [h1, h2]
  exact ⟨rfl, fun e => by cases e⟩
 ·have h1 := mapD_all l (fun c hc => by
   by_cases e : c.toNat < 128
   ·exact e
   ·exact absurd ⟨c, hc, by omega⟩ h)
  rw [h1]
  exact ⟨rfl, fun _ => rfl⟩
theorem mapGoD_len (f : Int → Int) : ∀ (n : Nat) (l : List UInt8), l.length ≤ n → (Lib.mapD f l).length ≤ 4 * l.length
 | 0, l, h => by
  have : l = [] := List.eq_nil_of_length_eq_zero (by omega)
  subst this
  simp [Lib.mapD_nil]
 | n + 1, l, h => by
  by_cases hl : l = []
  ·subst hl; simp [Lib.mapD_nil]
  ·have hw := Lib.decodeL_le l hl
   have hp : 0 < l.length := List.length_pos_iff.2 hl
   have hw1 : 1 ≤ (Lib.decodeL l).2 := by
    cases l with
    | nil => exact absurd rfl hl
    | cons c t =>
     by_cases e : c.toNat < 128
     ·rw [decodeL_ascii c t e]; exact Nat.le_refl _
     ·unfold Lib.decodeL
      exact (decode_high ⟨(c :: t).toArray⟩ 0 (by show 0 < (c :: t).toArray.size; simp) (by show 128 ≤ c.toNat; omega)).2
   have ih := mapGoD_len f n (l.drop (Lib.decodeL l).2) (by rw [List.length_drop]; omega)
   rw [List.length_drop] at ih
   rw [Lib.mapD_step f l hl, List.length_append]
   have h4 : (if 0 ≤ f ((Lib.decodeL l).1 : Int) then Lib.encodeRune (f ((Lib.decodeL l).1 : Int)) else []).length ≤ 4 := by
    split
    ·have := Lib.runeCells_le (f ((Lib.decodeL l).1 : Int))
     rw [Lib.runeCells_length] at this
     exact this.2
    ·simp
   omega
end dnp
end Go.Proofs.YtcolcogobdgejaaGreatDoor
