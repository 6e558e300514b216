/- The walk of Parts. -/
import Derived.Test.YthbofgfdgpidcaaDoorSame
import Derived.Test.YthbofgfdgpidcaaDoorPartP
namespace Go.Proofs.YthbofgfdgpidcaaDoor
open Go.RowKit
namespace prt
/-- a text, off its value: a loop s measure -/
def strLen : Value → Nat
  | .string s => s.size
  | _ => 0
open tupw
theorem infoStr : (Tryd.prog.info? 9).map (fun i => (i.zero, i.size, i.bytes)) = some (some (.string ⟨#[]⟩), 1, 16) := by kernel_rfl
/-- a row of the call's own holds these texts -/
def Own (w : World) (B : Nat) (v : Value) (l : List ByteArray) : Prop := w.ownsRow B 9 1 v (l.map Value.string).length (l.map Value.string)
theorem own_strs {w : World} {B : Nat} {v : Value} {l : List ByteArray} (h : Own w B v l) : ∃ ao cap, v = .slice ao l.length cap ∧ Strs w ao l := by
  obtain ⟨ao, cap, hv, h0, hc⟩ := kt.row_slice h
  rw [List.length_map] at hv
  refine ⟨ao, cap, hv, fun i hi => ?_⟩
  unfold Own at h
  rw [hv, List.length_map] at h
  obtain ⟨g, rfl, hcell, _⟩ := kt.row_some h (by omega)
  refine ⟨g, 0, rfl, ?_⟩
  rw [Nat.zero_add]
  exact hcell i _ (by simp [List.getElem?_eq_getElem hi])
theorem own_below {w w' : World} {B : Nat} {v : Value} {l : List ByteArray} (h : Own w B v l) (hb : Below w.heap.size w w') : Own w' B v l := kt.row_below h hb
theorem own_nil (w : World) (B : Nat) : Own w B (.slice none 0 0) [] := ⟨rfl, Or.inl ⟨rfl, rfl⟩⟩
theorem own_app {w : World} {B : Nat} {v : Value} {l : List ByteArray} (h : Own w B v l) (p : ByteArray) (hl : l.length ≤ 1000000) (hB : B ≤ w.heap.size) :
    ∃ v' w1, (Builtin.append_ #[30, 30] 30 #[v, .slice (some ⟨w.heap.size, 0, none⟩) 1 1]).run Tryd.prog (w.alloc (.cells #[.string p] 9)) = .ok v' w1 ∧ Own w1 B v' (l ++ [p]) ∧ w.grownBy w1 v.ownBlock ∧ Below B w w1 := by
  have hln : (l.map Value.string).length = l.length := List.length_map _
  obtain ⟨v', w1, h1, h2, h3, h4⟩ := kt.app1 (P := Tryd.prog) (ty := 30) (w := w) Tryd.underlying30 infoStr rfl (.string p) rfl h (by rw [hln]; unfold maxLen; omega) (by rw [hln]; omega) hB
  refine ⟨v', w1, h1, ?_, h3, h4⟩
  unfold Own
  rw [List.map_append, List.map_singleton]
  exact h2
theorem parse_next (n : Nat) (l : List UInt8) (h : ¬ l = []) : tup.parse (n + 1) l = if (Lib.cut l [0, 1]).2.2 = true then (tup.parse n (Lib.cut l [0, 1]).2.1).map (⟨(tup.unesc (Lib.cut l [0, 1]).1).toArray⟩ :: ·) else none := by
  rw [tup.parse, if_neg h]
/-- what Parts answers: nothing, or a row of the call's own -/
def Ans (w : World) (B : Nat) (o : Option (List ByteArray)) (v : Value) : Prop :=
  match o with
  | none => v = .tuple #[.slice none 0 0, .int .i64 4]
  | some l => ∃ sv, v = .tuple #[sv, .int .i64 0] ∧ Own w B sv l

set_option maxHeartbeats 1000000 in
theorem parts_any (s : ByteArray) (w : World) (hs : s.size ≤ 1000000) (hE : Hid (trm.Env w)) :
    Calls Tryd.prog 21 #[.string s] w fun e w' => ∃ v, e = .returned v ∧ Ans w' w.heap.size (tup.parts s.data.toList) v ∧ Below w.heap.size w w' := by
  go_enter Tryd.func21, Tryd.ntmps21
  go_wp2_with fail
  go_loopw [4, 5] (fun lv rv wr => ∃ (acc : List ByteArray) (rest : ByteArray) (n : Nat), rv = .string rest ∧ Hid (Own wr w.heap.size lv acc) ∧ rest.size < n ∧ Hid (tup.parse (s.data.toList.length + 1) s.data.toList = (tup.parse n rest.data.toList).map (acc ++ ·)) ∧ acc.length + rest.size ≤ s.size ∧ Below w.heap.size w wr) (fun _ rv _ => strLen rv)
  case atStart => exact ⟨[], s, s.data.toList.length + 1, rfl, own_nil _ _, by rw [kt.size_len]; omega, by show _ = _; simp, by simp, Below.refl _ _⟩
  case round =>
    obtain ⟨acc, rest, n, rfl, hO, hn, hP, hlen, hB⟩ := hrel
    have hsz := hB.size
    obtain ⟨⟨mm, hmm⟩, _⟩ := trm.env_below hE.out hB
    by_cases h0 : rest.size = 0
    · have hem : rest = ByteArray.empty := kt.str_eq (List.eq_nil_of_length_eq_zero (by rw [kt.size_len]; exact h0))
      subst hem
      have hp2 : tup.parts s.data.toList = if tup.out acc = (⟨s.data.toList.toArray⟩, 0) then some acc else none := by
        unfold tup.parts
        rw [hP.out]
        obtain ⟨n', rfl⟩ : ∃ n', n = n' + 1 := ⟨n - 1, by omega⟩
        rw [show ByteArray.empty.data.toList = [] from rfl, tup.parse, if_pos rfl]
        simp
      rw [show (⟨s.data.toList.toArray⟩ : ByteArray) = s from kt.str_eq (by simp)] at hp2
      have HP := Lib.hid hp2
      clear hp2 hmm
      obtain ⟨ao, cap, rfl, hst⟩ := own_strs hO.out
      have T := Lib.hid (tuple_any ao cap acc wr (Lib.hid (trm.env_below hE.out hB)) (Lib.hid hst))
      clear hst
      obtain ⟨X, er, hX⟩ : ∃ X er, Hid (tup.out acc = (X, er)) := ⟨(tup.out acc).1, (tup.out acc).2, rfl⟩
      rw [hX.out] at T HP
      unfold tupV at T
      simp only at T
      go_wp2_with fail
      refine T.out.mono ?_
      rintro e w1 ⟨rfl, hB1⟩
      by_cases her : er = 0
      · by_cases hXs : X = s
        · have hp := HP.out
          rw [if_pos (by rw [her, hXs])] at hp
          have HP2 := Lib.hid hp
          clear hp
          subst hXs her
          go_wp2_with fail
          go_ret2
          exact ⟨_, rfl, by rw [HP2.out]; exact ⟨_, rfl, own_below hO.out hB1⟩, hB.trans (hB1.mono hsz)⟩
        · have hp := HP.out
          rw [if_neg (by intro h; injection h with h1 h2; exact hXs h1)] at hp
          have HP2 := Lib.hid hp
          clear hp
          have hne := same.str_ne hXs
          subst her
          go_wp2_with fail
          go_ret2
          exact ⟨_, rfl, by rw [HP2.out]; rfl, hB.trans (hB1.mono hsz)⟩
      · have hp := HP.out
        rw [if_neg (by intro h; injection h with h1 h2; exact her h2)] at hp
        have HP2 := Lib.hid hp
        clear hp
        have her' : (er == 0) = false := by simpa using her
        go_wp2_with fail
        go_ret2
        exact ⟨_, rfl, by rw [HP2.out]; rfl, hB.trans (hB1.mono hsz)⟩
    · have hne : rest.toList.isEmpty = false := by
        rw [Lib.toList_data]
        cases h : rest.data.toList with
        | nil => exact absurd (by rw [← kt.size_len, h]; rfl) h0
        | cons a l => rfl
      have hne2 : ¬ rest.data.toList = [] := fun h => h0 (by rw [← kt.size_len, h]; rfl)
      have C := Tryd.strings_Cut rest ⟨#[0, 1]⟩ mm wr (by omega) hmm
      obtain ⟨n', rfl⟩ : ∃ n', n = n' + 1 := ⟨n - 1, by omega⟩
      have hP1 := hP.out
      rw [parse_next n' rest.data.toList hne2] at hP1
      have hsh := tup.cut_shorter rest.data.toList
      obtain ⟨cf, hcf⟩ : ∃ cf, Hid (cf = Lib.cut rest.data.toList [0, 1]) := ⟨_, rfl⟩
      rw [show (ByteArray.mk #[0, 1]).data.toList = [0, 1] from rfl, ← hcf.out] at C
      rw [← hcf.out] at hP1 hsh
      have hfl : cf.1.length ≤ rest.size := by
        rw [hcf.out, ← kt.size_len]
        unfold Lib.cut
        split
        · simp; omega
        · exact Nat.le_refl _
      obtain ⟨f, hf⟩ : ∃ f : ByteArray, Hid (f = ⟨cf.1.toArray⟩) := ⟨_, rfl⟩
      obtain ⟨g, hg⟩ : ∃ g : ByteArray, Hid (g = ⟨cf.2.1.toArray⟩) := ⟨_, rfl⟩
      obtain ⟨b, hb⟩ : ∃ b : Bool, Hid (b = cf.2.2) := ⟨_, rfl⟩
      rw [← hf.out, ← hg.out, ← hb.out] at C
      rw [← hb.out] at hP1 hsh
      have hC := Lib.hid C
      clear C
      cases b with
      | false =>
        have hp : tup.parts s.data.toList = none := by
          unfold tup.parts
          rw [hP1]
          simp
        have HP := Lib.hid hp
        clear hp hP1 hsh hmm
        go_wp2_with fail
        refine hC.out.mono ?_
        rintro e w1 ⟨rfl, nn, rfl⟩
        go_wp2_with fail
        go_ret2
        exact ⟨_, rfl, by rw [HP.out]; rfl, same.below_drewN hB nn⟩
      | true =>
        have hgs : g.size < rest.size := by
          have := hsh rfl
          rw [kt.size_len] at this
          have h2 : g.size = cf.2.1.length := by rw [hg.out]; rfl
          omega
        have hfs : f.size ≤ rest.size := by
          have h2 : f.size = cf.1.length := by rw [hf.out]; rfl
          omega
        rw [if_pos rfl] at hP1
        have hgd : g.data.toList = cf.2.1 := by rw [hg.out]
        have hfd : f.data.toList = cf.1 := by rw [hf.out]
        rw [← hgd, ← hfd] at hP1
        obtain ⟨q, hq⟩ : ∃ q : ByteArray, Hid (q = ⟨(tup.unesc f.data.toList).toArray⟩) := ⟨_, rfl⟩
        rw [← hq.out] at hP1
        have HP1 : Hid (tup.parse (s.data.toList.length + 1) s.data.toList = (tup.parse n' g.data.toList).map ((acc ++ [q]) ++ ·)) := by
          show _ = _
          rw [hP1, Option.map_map]
          congr 1
          funext x
          simp
        have hcl := Lib.count_le f.data.toList [0, 255]
        have R := fun (nn : Nat) => Tryd.strings_ReplaceAll f ⟨#[0, 255]⟩ ⟨#[0]⟩ mm (wr.drewN nn) (by omega) hmm (by decide) (by
          have : Lib.countB f ⟨#[0, 255]⟩ ≤ f.size + 1 := by simpa [Lib.countB] using hcl
          show f.size + Lib.countB f ⟨#[0, 255]⟩ * 1 ≤ _
          omega)
        rw [show (Lib.replaceAll f.data.toList (ByteArray.mk #[0, 255]).data.toList (ByteArray.mk #[0]).data.toList) = tup.unesc f.data.toList from tup.replaceAll_unesc _, ← hq.out] at R
        have HR := Lib.hid R
        clear R hcl hmm hP1 hsh hgd hfd
        go_wp2_with fail
        refine hC.out.mono ?_
        rintro e w1 ⟨rfl, nn, rfl⟩
        go_wp2_with fail
        refine (HR.out nn).mono ?_
        rintro e w1 ⟨rfl, hB1⟩
        have hB1' : Below wr.heap.size wr w1 := ⟨hB1.os, hB1.tape, hB1.output, hB1.size, hB1.block⟩
        have hO1 := own_below hO.out hB1'
        obtain ⟨v', w2, hap, hO2, hgr, hB2⟩ := own_app hO1 q (by omega) (Nat.le_trans hsz hB1'.size)
        have HO2 := Lib.hid hO2
        have HG := Lib.hid hgr
        clear hO1 hO2 hgr
        go_wp2_with (at_builtin; refine Lib.wpList_append_run _ rfl _ _ _ _ rfl _ _ rfl rfl _ _ hap ?_)
        go_roundw
        case rel => exact ⟨acc ++ [q], g, n', rfl, HO2, by omega, HP1, by rw [List.length_append]; simp; omega, (hB.trans (hB1'.mono hsz)).trans hB2⟩
        case measure => simp [strLen]; omega
end prt
end Go.Proofs.YthbofgfdgpidcaaDoor
