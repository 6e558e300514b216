/- The walks of entry's Pack and of its closure. -/
import Derived.Test.YtcolcogobdgejaaGreatDoorYRPack
import Derived.Test.YtcolcogobdgejaaGreatDoorC8
import Derived.Test.YtcolcogobdgejaaGreatDoorC11
import Derived.Test.YtcolcogobdgejaaGreatDoorYBld
import Derived.Test.YtcolcogobdgejaaGreatDoorYField
import Derived.IntWalk
/-! PackW -/
namespace Go.Proofs.YtcolcogobdgejaaGreatDoor
open Go.RowKit
namespace etw
open atp atw etp
open dnw (Av Avas)
open tupw (Strs strs_below)
open bld (Is Keep)
set_option linter.unusedVariables false
set_option linter.unusedSimpArgs false
theorem isb_below {B b : Nat} {l : List UInt8} {w w' : World} (h : Is B b l w) (hb : Below w.heap.size w w') : Is B b l w' := by
 rcases h with ⟨h1, v, h2, h3, h4⟩ | ⟨h1, v, h2, h3, h4⟩
 ·exact Or.inl ⟨h1, v, (hb.block b (kt.bld_lt h2)).trans h2, kt.row_below h3 hb, h4⟩
 ·exact Or.inr ⟨h1, v, (hb.block b (kt.bld_lt h2)).trans h2, kt.row_below h3 hb, h4⟩
theorem isb_lt {B b : Nat} {l : List UInt8} {w : World} (h : Is B b l w) : b < w.heap.size := by
 rcases h with ⟨_, v, h2, _⟩ | ⟨_, v, h2, _⟩ <;> exact kt.bld_lt h2
theorem entB_lt {w w' : World} {p b : Nat} {r a : Value} (h : EntB w p r a) (hb : Below b w w') (hp : p < b) : EntB w' p r a := (hb.block p hp).trans h
theorem avaB_keep {w w' : World} {p b : Nat} {x y : ByteArray} (h : AvaB w p x y) (hk : Keep b w w') (hp : p ≠ b) : AvaB w' p x y := hk p _ h (fun cs f e => by injection e with _ e2 _; exact absurd e2 (by decide)) hp
theorem attrB_keep {w w' : World} {p b : Nat} {x : ByteArray} {y : Value} (h : AttrB w p x y) (hk : Keep b w w') (hp : p ≠ b) : AttrB w' p x y := hk p _ h (fun cs f e => by injection e with _ e2 _; exact absurd e2 (by decide)) hp
set_option maxRecDepth 20000 in
set_option maxHeartbeats 1000000 in
theorem pclo_any (B b : Nat) (l : List UInt8) (s : ByteArray) (w : World) (h : Hid (Is B b l w)) (hl : l.length ≤ 1000000000) (hs : s.size ≤ 5000) (hB : B ≤ w.heap.size) :
  Calls Tryz.prog 89 #[.string s, .pointer (some ⟨b, 0, none⟩)] w fun e w' => e = .returned (.tuple #[]) ∧ (Is B b (l ++ txt s) w' ∧ Below B w w' ∧ Keep b w w') := by
 have hT : Calls Tryz.prog 90 #[.string { data := #[] }, .string s] w fun e w' => e = .returned (.tuple #[.string (txtS s), .int .i64 0]) ∧ Below w.heap.size w w' := by
  have := fldw.text_any { data := #[] } s w (by show 0 ≤ _; omega) (by omega)
  unfold fldw.textV at this
  rw [if_neg (by omega)] at this
  exact this
 have HT := Lib.hid hT
 have hz : (txtS s).size ≤ 5002 := by rw [txtS_size]; omega
 have HL := Lib.hid (txtS_list s)
 clear hT
 rw [← HL.out]
 generalize txtS s = x at HT hz ⊢
 go_enter Tryz.func89, Tryz.ntmps89
 go_wp2_with fail
 refine HT.out.mono ?_
 rintro e w1 ⟨rfl, hB1⟩
 have HW := Lib.hid (bld.writeString_keep B b l x w1 (isb_below h.out hB1) (by omega) (Nat.le_trans hB hB1.size))
 have HB1 := Lib.hid (hB1.mono hB)
 have HK1 := Lib.hid (Keep.below (b := b) hB1)
 clear hB1
 go_wp2_with fail
 refine HW.out.mono ?_
 rintro e w2 ⟨rfl, h2, h3, h4⟩
 have H2 := Lib.hid h2
 have H3 := Lib.hid (HB1.out.trans h3)
 have H4 := Lib.hid (HK1.out.trans h4)
 clear h2 h3 h4 HW
 go_wp2_with fail
 go_end0
 exact ⟨rfl, H2.out, H3.out, H4.out⟩
set_option maxRecDepth 20000 in
set_option maxHeartbeats 16000000 in
theorem pack_any (v : Value) (E : En) (w : World) (hv : Hid (EntV w v E)) (hb : Hid (Pk E)) (hE : Hid (EnvE w)) :
  Calls Tryz.prog 37 #[v] w fun e w' => e = .returned (.tuple #[.string (packS E).1, .int .i64 (packS E).2]) ∧ Below w.heap.size w w' := by
 have HBD := Lib.hid (pk_bd hb.out)
 have HRI0 : Hid (∀ W, Below w.heap.size w W → Calls Tryz.prog 26 #[v] W fun e w' => e = .returned (.bool (rightE E)) ∧ Below W.heap.size W w') := fun W h => right_any v E W (Lib.hid (entV_below hv.out h)) HBD (Lib.hid (envE_below hE.out h))
 have HRS := Lib.hid hb.out.rs
 have HAS := Lib.hid hb.out.as_
 have HRES := Lib.hid (packS_eq E)
 obtain ⟨ro, rc, ao, ac, Nr, N, rfl, HN, HA, hac, HNr, HAv, hrc⟩ := ent_form hv.out
 have hNr : Nr ≤ 255 := by rw [← HNr.out]; exact hb.out.rl
 have hN : N ≤ 255 := by rw [← HN.out]; exact hb.out.al
 have HPB : Hid (packB E = UInt8.ofNat E.rdn.length :: (etp.encR E.rdn ++ (UInt8.ofNat E.ats.length :: encL E.ats))) := rfl
 rw [HN.out, HNr.out] at HPB
 obtain ⟨PB, hPB⟩ : ∃ l, packB E = l := ⟨_, rfl⟩
 obtain ⟨PS, hPS⟩ : ∃ l, packS E = l := ⟨_, rfl⟩
 rw [hPB] at HPB HRES
 rw [hPS] at HRES ⊢
 clear hPB hPS
 obtain ⟨W1, hW1⟩ : ∃ W, w.alloc (.cells #[.slice ro Nr rc, .slice ao N ac] 25) = W := ⟨_, rfl⟩
 have hB1 : Below w.heap.size w W1 := by rw [← hW1]; exact (Below.refl _ _).alloc (Nat.le_refl _) _
 have HT1 : Hid (EntB W1 w.heap.size (.slice ro Nr rc) (.slice ao N ac)) := by rw [← hW1]; exact entB_new _ _ _
 obtain ⟨k0, k1⟩ := entB_cells HT1.out
 have HB1 := Lib.hid hB1
 have HRI := Lib.hid (HRI0.out W1 hB1)
 generalize rightE E = rt at HRI HRES
 obtain ⟨rdn, L⟩ := E
 simp only at HN HA HNr HAv HRS HAS HPB
 clear hB1 HRI0 hv hb HBD hE
 go_enter Tryz.func37, Tryz.ntmps37
 cases rt with
 | false =>
  rw [if_pos rfl] at HRES
  go_wp2_with fail
  refine HRI.out.mono ?_
  rintro e w2 ⟨rfl, hB2⟩
  have HBE := Lib.hid (HB1.out.trans (hB2.mono HB1.out.size))
  clear hB2 k0 k1 hW1
  go_wp2_with fail
  go_ret2
  exact ⟨by rw [HRES.out]; rfl, HBE.out⟩
 | true =>
  rw [if_neg (by decide)] at HRES
  go_wp2_with fail
  refine HRI.out.mono ?_
  rintro e w2 ⟨rfl, hB2⟩
  have HB2 := Lib.hid (HB1.out.trans (hB2.mono HB1.out.size))
  have HT2 := Lib.hid (entB_below HT1.out hB2)
  clear hB2 k0 k1 hW1 HRI
  have hwb : w.heap.size < w2.heap.size := kt.bld_lt HT2.out
  obtain ⟨w3, hw3⟩ : ∃ W, w2.alloc (.cells #[.pointer none, .slice none 0 0] 103) = W := ⟨_, rfl⟩
  have hB3 : Below w2.heap.size w2 w3 := by rw [← hw3]; exact (Below.refl _ _).alloc (Nat.le_refl _) _
  have hI3 : Is w2.heap.size w2.heap.size [] w3 := by rw [← hw3]; exact bld.fresh w2
  have HT3 := Lib.hid (entB_below HT2.out hB3)
  have HB3 := Lib.hid (HB2.out.trans (hB3.mono HB2.out.size))
  have hz3 := hB3.size
  obtain ⟨b, hbb⟩ : ∃ b, w2.heap.size = b := ⟨_, rfl⟩
  rw [hbb] at hI3 hwb hz3
  have hwle : w.heap.size ≤ b := Nat.le_of_lt hwb
  have HWB0 : Hid (∀ (n : Nat) (l : List UInt8) W, n ≤ 255 → Is b b l W → l.length ≤ 1000000000 → b ≤ W.heap.size → Calls Tryz.prog 92 #[.pointer (some ⟨b, 0, none⟩), .int .u8 (n : Int)] W fun e w' => e = .returned .nilIface ∧ (Is b b (l ++ [UInt8.ofNat n]) w' ∧ Below b W w' ∧ Keep b W w')) := by
   intro n l W hn hi hl hbW
   have := bld.writeByte_keep b b l (UInt8.ofNat n) W hi (by omega) hbW
   rw [ofNat_toNat hn] at this
   exact this
  have HCL0 : Hid (∀ (s : ByteArray) (l : List UInt8) W, s.size ≤ 5000 → Is b b l W → l.length ≤ 1000000000 → b ≤ W.heap.size → Calls Tryz.prog 89 #[.string s, .pointer (some ⟨b, 0, none⟩)] W fun e w' => e = .returned (.tuple #[]) ∧ (Is b b (l ++ txt s) w' ∧ Below b W w' ∧ Keep b W w')) := fun s l W hs hi hl hbW => pclo_any b b l s W (Lib.hid hi) hl hs hbW
  have HWB := Lib.hid (HWB0.out Nr [] w3 hNr hI3 (by simp) hz3)
  obtain ⟨k0, k1⟩ := entB_cells HT3.out
  have hwN : IntKind.u8.wrap (Nr : Int) = (Nr : Int) := IntWalk.u8_in _ (by omega)
  clear hB3 hI3 hz3
  go_wp2_with fail
  refine HWB.out.mono ?_
  rintro e w4 ⟨rfl, hI4, hB4, _⟩
  obtain ⟨cn, hcn⟩ : ∃ c, UInt8.ofNat Nr = c := ⟨_, rfl⟩
  rw [hcn, List.nil_append] at hI4
  rw [hcn] at HPB
  obtain ⟨dn, hdn⟩ : ∃ c, UInt8.ofNat N = c := ⟨_, rfl⟩
  rw [hdn] at HPB
  have HDN := Lib.hid hdn
  have HI4 := Lib.hid hI4
  have HT4 := Lib.hid (entB_lt HT3.out hB4 hwb)
  have HB4 := Lib.hid (HB3.out.trans (hB4.mono hwle))
  have HLT4 := Lib.hid (isb_lt hI4)
  obtain ⟨m0, m1⟩ := entB_cells HT4.out
  clear hI4 hB4 k0 k1 HWB hw3 hbb hcn hdn hwN
  go_wp2_with fail
  clear m0 m1
  go_loopw [24] (fun iv wr => ∃ i : Nat, i ≤ Nr ∧ iv = .int .i64 (i : Int) ∧ Hid (Is b b (cn :: etp.encR (rdn.take i)) wr) ∧ Hid ((etp.encR (rdn.take i)).length ≤ i * 11000) ∧ Hid (Below b w4 wr)) (fun iv _ => Nr - (intOf iv).toNat)
  case atStart => exact ⟨0, Nat.zero_le _, rfl, HI4.out, Nat.zero_le _, Below.refl _ _⟩
  case round =>
   obtain ⟨i, hi, rfl, hI, hLN, hBr⟩ := hrel
   have HBr := Lib.hid (HB4.out.trans (hBr.out.mono hwle))
   have hbr : b < wr.heap.size := Nat.lt_of_lt_of_le HLT4.out hBr.out.size
   by_cases hlt : i < Nr
   ·have hltI : (i : Int) < (Nr : Int) := by omega
    have hil : i < rdn.length := by rw [HNr.out]; exact hlt
    obtain ⟨g, o, hro, x0, x1⟩ := (dnw.avas_below HAv.out HBr.out) i hil
    subst hro
    have HSN := Lib.hid (encR_snoc hil)
    have hbd := HRS.out rdn[i] (List.getElem_mem _)
    obtain ⟨a, ha⟩ : ∃ a, rdn[i] = a := ⟨_, rfl⟩
    rw [ha] at HSN hbd x0 x1
    obtain ⟨Wa, hWa⟩ : ∃ W, wr.alloc (.cells #[.string a.t, .string a.v] 62) = W := ⟨_, rfl⟩
    have hBa : Below wr.heap.size wr Wa := by rw [← hWa]; exact (Below.refl _ _).alloc (Nat.le_refl _) _
    have HTa : Hid (AvaB Wa wr.heap.size a.t a.v) := by rw [← hWa]; exact avaB_new _ _ _
    obtain ⟨y0, y1⟩ := avaB_cells HTa.out
    have hIa := isb_below hI.out hBa
    have hlr := hLN.out
    have HC1 := Lib.hid (HCL0.out a.t _ Wa (by omega) hIa (by simp only [List.length_cons]; omega) (Nat.le_trans (Nat.le_of_lt hbr) hBa.size))
    have HBa := Lib.hid (hBr.out.trans (hBa.mono (Nat.le_of_lt hbr)))
    have hl1 := txt_len a.t
    have hl2 := txt_len a.v
    have HLN2 : Hid ((etp.encR (rdn.take (i + 1))).length ≤ (i + 1) * 11000) := by
     show _ ≤ _
     rw [HSN.out, List.length_append, List.length_append]
     omega
    have HL1 : Hid ((cn :: etp.encR (rdn.take i) ++ txt a.t).length ≤ 1000000000) := by
     show _ ≤ _
     simp only [List.length_append, List.length_cons]
     omega
    have HEQ : Hid (cn :: etp.encR (rdn.take i) ++ txt a.t ++ txt a.v = cn :: etp.encR (rdn.take (i + 1))) := by
     show _ = _
     rw [HSN.out]; simp
    have hvs := hbd.2
    clear ha hbd hBa hIa hlr hl1 hl2
    go_wp2_with fail
    refine HC1.out.mono ?_
    rintro e w5 ⟨rfl, hI5, hB5, hK5⟩
    have HB5 := Lib.hid (HBa.out.trans hB5)
    have HT5 := Lib.hid (avaB_keep HTa.out hK5 (Nat.ne_of_gt hbr))
    have HC2 := Lib.hid (HCL0.out a.v _ w5 hvs hI5 HL1.out (Nat.le_trans (Nat.le_of_lt (Nat.lt_of_lt_of_le hbr (by have := HBa.out.size; exact Nat.le_trans (by rw [← hWa]; simp) hB5.size))) (Nat.le_refl _)))
    clear hI5 hB5 hK5 y0 y1 x0 x1 hWa HC1
    obtain ⟨z0, z1⟩ := avaB_cells HT5.out
    go_wp2_with fail
    refine HC2.out.mono ?_
    rintro e w6 ⟨rfl, hI6, hB6, hK6⟩
    rw [HEQ.out] at hI6
    have HI6 := Lib.hid hI6
    have HB6 := Lib.hid (HB5.out.trans hB6)
    clear hI6 hB6 hK6 z0 z1 HC2
    go_wp2_with fail
    go_roundw
    case rel => exact ⟨i + 1, by omega, by go_num, HI6.out, HLN2, HB6⟩
    case measure => simp [intOf]; omega
   ·obtain rfl : Nr = i := by omega
    have hfull : rdn.take Nr = rdn := List.take_of_length_le (by rw [HNr.out]; omega)
    rw [hfull] at hI hLN
    have HTr := Lib.hid (entB_lt HT4.out hBr.out hwb)
    obtain ⟨m0, m1⟩ := entB_cells HTr.out
    have hlr := hLN.out
    have HWB := Lib.hid (HWB0.out N _ wr hN hI.out (by simp only [List.length_cons]; omega) (Nat.le_of_lt hbr))
    rw [HDN.out] at HWB
    have hwN : IntKind.u8.wrap (N : Int) = (N : Int) := IntWalk.u8_in _ (by omega)
    have HQL : Hid ((cn :: etp.encR rdn ++ [dn]).length ≤ 3000000) := by
     show _ ≤ _
     simp only [List.length_append, List.length_cons, List.length_nil]
     omega
    clear hfull hlr
    go_wp2_with fail
    refine HWB.out.mono ?_
    rintro e w5 ⟨rfl, hI5, hB5, _⟩
    have HI5 := Lib.hid hI5
    have HB5 := Lib.hid (hBr.out.trans hB5)
    have HT5 := Lib.hid (entB_lt HTr.out hB5 hwb)
    have HW5 := Lib.hid (HB4.out.trans (HB5.out.mono hwle))
    have HLT5 := Lib.hid (isb_lt hI5)
    obtain ⟨Q, hQ⟩ : ∃ Q, cn :: etp.encR rdn ++ [dn] = Q := ⟨_, rfl⟩
    rw [hQ] at HI5 HQL
    have HPQ : Hid (PB = Q ++ encL L) := by
     show _ = _
     rw [HPB.out, ← hQ]; simp
    clear hI5 hB5 m0 m1 HWB hwN hQ HPB hI hLN hBr HBr HTr hbr hi HB5
    obtain ⟨m0, m1⟩ := entB_cells HT5.out
    go_wp2_with fail
    clear m0 m1
    go_loopw [45] (fun iv wr => ∃ i : Nat, i ≤ N ∧ iv = .int .i64 (i : Int) ∧ Hid (Is b b (Q ++ encL (L.take i)) wr) ∧ Hid ((encL (L.take i)).length ≤ i * 1400000) ∧ Hid (Below b w5 wr)) (fun iv _ => N - (intOf iv).toNat)
    case atStart => exact ⟨0, Nat.zero_le _, rfl, (by have h := HI5.out; rw [show Q ++ encL (L.take 0) = Q from by simp [encL]]; exact h), Nat.zero_le _, Below.refl _ _⟩
    case round =>
     obtain ⟨i, hi, rfl, hI, hLN, hBr⟩ := hrel
     have HBr := Lib.hid (HW5.out.trans (hBr.out.mono hwle))
     have hbr : b < wr.heap.size := Nat.lt_of_lt_of_le HLT5.out hBr.out.size
     by_cases hlt : i < N
     ·have hltI : (i : Int) < (N : Int) := by omega
      have hil : i < L.length := by rw [HN.out]; exact hlt
      have HSN := Lib.hid (encL_snoc hil)
      have HAE : Hid (encA L[i] = txt L[i].t ++ (UInt8.ofNat L[i].vs.length :: encV L[i].vs)) := rfl
      obtain ⟨g, o, ax, cx, hao, x0w, x1w, hcx, hST⟩ := HA.out i hil
      have x0 := (HBr.out.cell (World.block_lt_of_cell? w _ x0w)).trans x0w
      have x1 := (HBr.out.cell (World.block_lt_of_cell? w _ x1w)).trans x1w
      clear x0w x1w
      have hbd := HAS.out L[i] (List.getElem_mem _)
      obtain ⟨tt, htt⟩ : ∃ t, L[i].t = t := ⟨_, rfl⟩
      obtain ⟨vs, hvs⟩ : ∃ t, L[i].vs = t := ⟨_, rfl⟩
      rw [htt] at HAE x0 hbd
      rw [hvs] at HAE x1 hcx hST hbd
      clear htt hvs
      subst hao
      obtain ⟨M, hM⟩ : ∃ M, vs.length = M := ⟨_, rfl⟩
      rw [hM] at HAE x1 hcx hbd
      have HM := Lib.hid hM
      have hM255 : M ≤ 255 := hbd.2.1
      have HVB := Lib.hid hbd.2.2
      have htz := hbd.1
      have HTZ := Lib.hid hbd.1
      have HSX : Hid (∀ W, Below w.heap.size w W → Strs W ax vs) := fun W h => strs_below hST h
      obtain ⟨mb, hmb⟩ : ∃ c, UInt8.ofNat M = c := ⟨_, rfl⟩
      rw [hmb] at HAE
      obtain ⟨Wa, hWa⟩ : ∃ W, wr.alloc (.cells #[.string tt, .slice ax M cx] 57) = W := ⟨_, rfl⟩
      have hBa : Below wr.heap.size wr Wa := by rw [← hWa]; exact (Below.refl _ _).alloc (Nat.le_refl _) _
      have HTa : Hid (AttrB Wa wr.heap.size tt (.slice ax M cx)) := by rw [← hWa]; exact attrB_new _ _ _
      obtain ⟨y0, y1⟩ := attrB_cells HTa.out
      have hIa := isb_below hI.out hBa
      have hlr := hLN.out
      have hql := HQL.out
      have HC1 := Lib.hid (HCL0.out tt _ Wa htz hIa (by simp only [List.length_append]; omega) (Nat.le_trans (Nat.le_of_lt hbr) hBa.size))
      have HBa := Lib.hid (hBr.out.trans (hBa.mono (Nat.le_of_lt hbr)))
      have hl1 := txt_len tt
      have HL1 : Hid ((Q ++ encL (L.take i) ++ txt tt).length ≤ 1000000000) := by
       show _ ≤ _
       simp only [List.length_append]
       omega
      have HQ1 : Hid ((Q ++ encL (L.take i) ++ txt tt ++ [mb]).length ≤ 3000000 + i * 1400000 + 6000) := by
       show _ ≤ _
       simp only [List.length_append, List.length_cons, List.length_nil]
       omega
      have hga : b ≤ Wa.heap.size := Nat.le_trans (Nat.le_of_lt hbr) hBa.size
      have hwM : IntKind.u8.wrap (M : Int) = (M : Int) := IntWalk.u8_in _ (by omega)
      have HQA := Lib.hid hbr
      clear hM hbd htz hST hBa hIa hlr hl1 hql
      go_wp2_with fail
      refine HC1.out.mono ?_
      rintro e w6 ⟨rfl, hI6, hB6, hK6⟩
      have HB6 := Lib.hid (HBa.out.trans hB6)
      have HT6 := Lib.hid (attrB_keep HTa.out hK6 (Nat.ne_of_gt hbr))
      have HWB := Lib.hid (HWB0.out M _ w6 hM255 hI6 HL1.out (Nat.le_trans hga hB6.size))
      rw [hmb] at HWB
      have hgb := Nat.le_trans hga hB6.size
      clear hI6 hB6 hK6 y0 y1 x0 x1 HC1 hWa hga hmb
      obtain ⟨z0, z1⟩ := attrB_cells HT6.out
      go_wp2_with fail
      refine HWB.out.mono ?_
      rintro e w7 ⟨rfl, hI7, hB7, hK7⟩
      have HB7 := Lib.hid (HB6.out.trans hB7)
      have HT7 := Lib.hid (attrB_keep HT6.out hK7 (Nat.ne_of_gt hbr))
      obtain ⟨P1, hP1⟩ : ∃ l, Q ++ encL (L.take i) ++ txt tt ++ [mb] = l := ⟨_, rfl⟩
      rw [hP1] at hI7 HQ1
      have HI7 := Lib.hid hI7
      have htz2 : tt.size ≤ 5000 := HTZ.out
      have HND : Hid (Q ++ encL (L.take (i + 1)) = P1 ++ encV vs) := by
       show _ = _
       rw [← hP1, HSN.out, HAE.out]; simp
      have HLE : Hid ((encL (L.take (i + 1))).length = (encL (L.take i)).length + (3 + tt.size) + (encV vs).length) := by
       show _ = _
       rw [HSN.out, HAE.out]
       simp only [List.length_append, List.length_cons, txt_len]
       omega
      have hgc := Nat.le_trans hgb hB7.size
      clear hI7 hB7 hK7 z0 z1 HWB hwM hP1 hgb
      obtain ⟨z0, z1⟩ := attrB_cells HT7.out
      have HWW := Lib.hid (HW5.out.trans (HB7.out.mono hwle))
      go_wp2_with fail
      clear z0 z1
      go_loopw [61] (fun jv wr => ∃ j : Nat, j ≤ M ∧ jv = .int .i64 (j : Int) ∧ Hid (Is b b (P1 ++ encV (vs.take j)) wr) ∧ Hid ((encV (vs.take j)).length ≤ j * 5010) ∧ Hid (Below b w7 wr)) (fun jv _ => M - (intOf jv).toNat)
      case atStart => exact ⟨0, Nat.zero_le _, rfl, (by have h := HI7.out; rw [show P1 ++ encV (vs.take 0) = P1 from by simp [encV]]; exact h), Nat.zero_le _, Below.refl _ _⟩
      case round =>
       obtain ⟨j, hj, rfl, hI3, hLN3, hBr3⟩ := hrel
       have HBr3 := Lib.hid (HWW.out.trans (hBr3.out.mono hwle))
       have hbr3 : b ≤ wr.heap.size := Nat.le_trans hgc hBr3.out.size
       by_cases hlt3 : j < M
       ·have hltI3 : (j : Int) < (M : Int) := by omega
        have hjl : j < vs.length := by rw [HM.out]; exact hlt3
        obtain ⟨g2, og, hax, q0⟩ := HSX.out wr HBr3.out j hjl
        subst hax
        have HSN3 := Lib.hid (encV_snoc hjl)
        have hyb := HVB.out vs[j] (List.getElem_mem _)
        obtain ⟨y, hy⟩ : ∃ y, vs[j] = y := ⟨_, rfl⟩
        rw [hy] at HSN3 hyb q0
        have hq1 := HQ1.out
        have hl3 := hLN3.out
        have hl4 := txt_len y
        have HC3 := Lib.hid (HCL0.out y _ wr hyb hI3.out (by simp only [List.length_append]; omega) hbr3)
        have HEQ3 : Hid (P1 ++ encV (vs.take j) ++ txt y = P1 ++ encV (vs.take (j + 1))) := by
         show _ = _
         rw [HSN3.out]; simp
        have HLN4 : Hid ((encV (vs.take (j + 1))).length ≤ (j + 1) * 5010) := by
         show _ ≤ _
         rw [HSN3.out, List.length_append]; omega
        clear hy hyb hq1 hl3 hl4
        go_wp2_with fail
        refine HC3.out.mono ?_
        rintro e w8 ⟨rfl, hI8, hB8, _⟩
        rw [HEQ3.out] at hI8
        have HI8 := Lib.hid hI8
        have HB8 := Lib.hid (hBr3.out.trans hB8)
        clear hI8 hB8 q0 HC3
        go_wp2_with fail
        go_roundw
        case rel => exact ⟨j + 1, by omega, by go_num, HI8.out, HLN4, HB8⟩
        case measure => simp [intOf]; omega
       ·obtain rfl : M = j := by omega
        have hfull : vs.take M = vs := List.take_of_length_le (by rw [HM.out]; omega)
        rw [hfull, ← HND.out] at hI3
        rw [hfull] at hLN3
        have HLN5 : Hid ((encL (L.take (i + 1))).length ≤ (i + 1) * 1400000) := by
         show _ ≤ _
         have h1 := HLE.out
         have h2 := hLN3.out
         have h3 := hLN.out
         omega
        have HB8 := Lib.hid (HB7.out.trans hBr3.out)
        clear hfull
        go_wp2_with fail
        go_roundw
        case rel => exact ⟨i + 1, by omega, by go_num, hI3.out, HLN5, HB8⟩
        case measure => simp [intOf]; omega
     ·obtain rfl : N = i := by omega
      have hfull : L.take N = L := List.take_of_length_le (by rw [HN.out]; omega)
      rw [hfull, ← HPQ.out] at hI
      have HLN := Lib.hid (Tryz.Builder_Len b b _ wr hI.out)
      rw [Lib.byteCells_length] at HLN
      have HST := Lib.hid (Tryz.Builder_String_any b b PB wr hI.out (Nat.le_of_lt hbr))
      clear hfull
      by_cases hbig : 4000 < PB.length
      ·have hbig' : (4000 : Int) < (PB.length : Int) := by omega
       rw [if_pos hbig] at HRES
       go_wp2_with fail
       refine HLN.out.mono ?_
       rintro e w6 ⟨rfl, rfl⟩
       go_wp2_with fail
       go_ret2
       exact ⟨by rw [HRES.out]; rfl, HBr.out⟩
      ·have hbig' : ¬ (4000 : Int) < (PB.length : Int) := by omega
       rw [if_neg hbig] at HRES
       go_wp2_with fail
       refine HLN.out.mono ?_
       rintro e w6 ⟨rfl, rfl⟩
       go_wp2_with fail
       refine HST.out.mono ?_
       rintro e w7 ⟨rfl, hB7⟩
       go_wp2_with fail
       go_ret2
       refine ⟨by rw [HRES.out]; rfl, ?_⟩
       exact HBr.out.trans (Below.mono (by assumption) hwle)
end etw
end Go.Proofs.YtcolcogobdgejaaGreatDoor
