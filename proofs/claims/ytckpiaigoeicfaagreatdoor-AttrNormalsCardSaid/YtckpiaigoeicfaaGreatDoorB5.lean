/- One text out of several: PrepW, ReadyW, AvaP, RdnW, RightW, Nest, ParseP, ParseW, RefP, PrintP, PrintQ, TupP, KeyP, ParseV, NormP. -/
import Derived.Test.YtckpiaigoeicfaaGreatDoorB4
import Derived.Deep.QuietTactic
import Derived.BigQuiet
import Derived.Lib.Replace
import Derived.Lib.CountLaws
/-! PrepW -/
namespace Go.Proofs.YtckpiaigoeicfaaGreatDoor
open Go.RowKit
namespace prw
open run prp
set_option linter.unusedVariables false
set_option linter.unusedSimpArgs false
/-- what the library's variable holds -/
def Env (w : World) : Prop := ∃ m : Int, w.cell? ⟨1, 0, none⟩ = some (.int .i64 m)
theorem env_below {w w' : World} (h : Env w) (hb : Below w.heap.size w w') : Env w' := by
  obtain ⟨m, hm⟩ := h
  exact ⟨m, (hb.cell (World.block_lt_of_cell? w _ hm)).trans hm⟩
theorem text_map_len {fold : Bool} {m : List Int} (i : Nat) (hi : i ≤ m.length) : (text (mapped fold (m.take i))).length ≤ 4 * i := by
  have h1 := text_len4 (mapped fold (m.take i))
  have h2 := mapped_take_len fold m i
  omega
set_option maxRecDepth 20000 in
set_option maxHeartbeats 4000000 in
theorem map_any (s : ByteArray) (fold : Bool) (w : World) (hs : s.size ≤ 1100000) : Calls Tryz.prog 57 #[.string s, .bool fold] w fun e w' => e = .returned (pairV (mapO s.data.toList fold)) ∧ Below w.heap.size w w' := by
  rw [mapO_eq]
  have CR := runes_any s w hs
  have HM : Hid (mapO' s.data.toList fold = (runes s.data.toList).map (mapped fold)) := rfl
  cases hrs : runes s.data.toList with
  | none =>
    rw [hrs] at CR HM
    have CH := Lib.hid CR
    clear hrs CR
    go_enter Tryz.func57, Tryz.ntmps57
    go_wp2_with fail
    refine CH.out.mono ?_
    rintro e w1 ⟨hB1, rfl⟩
    go_wp2_with fail
    go_ret2
    refine ⟨?_, hB1⟩
    rw [HM.out]; rfl
  | some m =>
    rw [hrs] at CR HM
    have hml := runes_len hrs
    have hok := (runes_text _ _ m (Nat.le_refl _) hrs).2
    have CH := Lib.hid CR
    have HK := Lib.hid hok
    have hml2 : m.length ≤ 1100000 := by rw [kt.size_len] at hml; omega
    clear hrs CR hok hml
    go_enter Tryz.func57, Tryz.ntmps57
    go_wp2_with fail
    refine CH.out.mono ?_
    rintro e w1 ⟨hB1, v, rfl, hO⟩
    obtain ⟨ao, cap, rfl, hS⟩ := runs_of hO
    have HS := Lib.hid hS
    clear hO hS
    have hsz1 := hB1.size
    go_wp2_with fail
    go_loopw [10, 21] (fun xv iv wr => ∃ (i : Nat), i ≤ m.length ∧ iv = .int .i64 (i : Int) ∧ Hid (bld.Is w1.heap.size w1.heap.size (text (mapped fold (m.take i))) wr) ∧ Below w1.heap.size w1 wr ∧ w1.heap.size < wr.heap.size) (fun _ iv _ => m.length - (intOf iv).toNat)
    case atStart =>
      refine ⟨0, Nat.zero_le _, rfl, ?_, (Below.refl _ _).alloc (Nat.le_refl _) _, by simp⟩
      exact bld.fresh w1
    case round =>
      obtain ⟨i, hi, rfl, hI, hB, hgt⟩ := hrel
      have hsz := hB.size
      by_cases hlt : i < m.length
      · have hlt' : (i : Int) < (m.length : Int) := by omega
        obtain ⟨b, o, hao, hc⟩ := runs_below HS.out hB i hlt
        subst hao
        have hx := HK.out m[i] (by simp)
        have h1 := mapped_take_drop (fold := fold) hlt
        have h2 := mapped_take_keep (fold := fold) hlt
        have h3 := Lib.hid (text_map_len (fold := fold) i hi)
        generalize m[i] = x at hc hx h1 h2
        have hx3 := hx
        obtain ⟨x0, x1, _⟩ := hx
        have CD := Lib.hid (dropped_any x)
        by_cases hd : dropB x = true
        · have hI1 := hI.out
          rw [← h1 hd] at hI1
          have HI1 := Lib.hid hI1
          rw [hd] at CD
          clear h1 h2 hd hI1
          go_wp2_with fail
          refine (CD.out wr).mono ?_
          rintro e w2 ⟨rfl, rfl⟩
          go_wp2_with fail
          go_roundw
          case rel => exact ⟨i + 1, by omega, by go_num, HI1, hB, hgt⟩
          case measure => simp [intOf]; omega
        · have hd' : dropB x = false := by simpa using hd
          rw [hd'] at CD
          have h2' := h2 hd'
          have hy : okR (mapR fold x) := mapR_ok hx3
          have CW := bld.writeRune_any w1.heap.size w1.heap.size (text (mapped fold (m.take i))) (mapR fold x) wr hI.out hy.1 hy.2.1 (by have := h3.out; omega) hsz
          have e1 : text (mapped fold (m.take i)) ++ enc (mapR fold x) = text (mapped fold (m.take (i + 1))) := by rw [h2', text_append]; simp [text]
          rw [e1] at CW
          clear h1 h2 hd hd' h2' e1 hy
          have CB := Lib.hid (blank_any x)
          by_cases hb : blankB x = true
          · rw [hb] at CB
            rw [mapR_blank hb] at CW
            have CWH := Lib.hid CW
            clear CW hb
            go_wp2_with fail
            refine (CD.out wr).mono ?_
            rintro e w2 ⟨rfl, rfl⟩
            go_wp2_with fail
            refine (CB.out wr).mono ?_
            rintro e w2 ⟨rfl, rfl⟩
            go_wp2_with fail
            refine CWH.out.mono ?_
            rintro e w2 ⟨v, rfl, hI2, hB2⟩
            have HI2 := Lib.hid hI2
            have hsz2 := hB2.size
            clear hI2
            go_wp2_with fail
            go_roundw
            case rel => exact ⟨i + 1, by omega, by go_num, HI2, hB.trans hB2, by omega⟩
            case measure => simp [intOf]; omega
          · have hb' : blankB x = false := by simpa using hb
            rw [hb'] at CB
            clear hb
            cases fold with
            | true =>
              rw [mapR_small hb'] at CW
              have CS := Lib.hid (fun w => small_any x w x0 x1)
              generalize smallI x = y at CS CW
              have CWH := Lib.hid CW
              clear CW hb'
              go_wp2_with fail
              refine (CD.out wr).mono ?_
              rintro e w2 ⟨rfl, rfl⟩
              go_wp2_with fail
              refine (CB.out wr).mono ?_
              rintro e w2 ⟨rfl, rfl⟩
              go_wp2_with fail
              refine (CS.out wr).mono ?_
              rintro e w2 ⟨rfl, rfl⟩
              go_wp2_with fail
              refine CWH.out.mono ?_
              rintro e w2 ⟨v, rfl, hI2, hB2⟩
              have HI2 := Lib.hid hI2
              have hsz2 := hB2.size
              clear hI2
              go_wp2_with fail
              go_roundw
              case rel => exact ⟨i + 1, by omega, by go_num, HI2, hB.trans hB2, by omega⟩
              case measure => simp [intOf]; omega
            | false =>
              rw [mapR_same hb'] at CW
              have CWH := Lib.hid CW
              clear CW hb'
              go_wp2_with fail
              refine (CD.out wr).mono ?_
              rintro e w2 ⟨rfl, rfl⟩
              go_wp2_with fail
              refine (CB.out wr).mono ?_
              rintro e w2 ⟨rfl, rfl⟩
              go_wp2_with fail
              refine CWH.out.mono ?_
              rintro e w2 ⟨v, rfl, hI2, hB2⟩
              have HI2 := Lib.hid hI2
              have hsz2 := hB2.size
              clear hI2
              go_wp2_with fail
              go_roundw
              case rel => exact ⟨i + 1, by omega, by go_num, HI2, hB.trans hB2, by omega⟩
              case measure => simp [intOf]; omega
      · obtain rfl : i = m.length := by omega
        have hI1 := hI.out
        rw [List.take_length] at hI1
        have CS := Lib.hid (Tryz.Builder_String_any w1.heap.size w1.heap.size (text (mapped fold m)) wr hI1 hsz)
        clear hI1
        go_wp2_with fail
        refine CS.out.mono ?_
        rintro e w2 ⟨rfl, hB2⟩
        go_wp2_with fail
        go_ret2
        refine ⟨?_, hB1.trans ((hB.trans hB2).mono hsz1)⟩
        rw [HM.out]; rfl
end prw
end Go.Proofs.YtckpiaigoeicfaaGreatDoor
/-! ReadyW -/
namespace Go.Proofs.YtckpiaigoeicfaaGreatDoor
open Go.RowKit
namespace prw
open run prp
set_option linter.unusedVariables false
set_option linter.unusedSimpArgs false
theorem infoStr : (Tryz.prog.info? 9).map (fun i => (i.zero, i.size, i.bytes)) = some (some (.string ByteArray.empty), 1, 16) := by kernel_rfl
def scells (l : List ByteArray) : List Value := l.map Value.string
theorem scells_length (l : List ByteArray) : (scells l).length = l.length := by simp [scells]
/-- a row of texts that the call owns -/
def OwnT (w : World) (B : Nat) (v : Value) (l : List ByteArray) : Prop := w.ownsRow B 9 1 v (scells l).length (scells l)
theorem ownT_app {w : World} {B : Nat} {v : Value} {l : List ByteArray} (x : ByteArray) (hown : OwnT w B v l) (hl : l.length ≤ 100000000) (hbase : B ≤ w.heap.size) :
    ∃ v' w1, (Builtin.append_ #[31, 31] 31 #[v, .slice (some ⟨w.heap.size, 0, none⟩) 1 1]).run Tryz.prog (w.alloc (.cells #[.string x] 9)) = .ok v' w1 ∧ OwnT w1 B v' (l ++ [x]) ∧ Below B w w1 := by
  obtain ⟨v', w1, h1, h2, _, h3⟩ := kt.app1 (P := Tryz.prog) (t := 31) (ty := 31) Tryz.underlying31 infoStr rfl (.string x) rfl hown (by rw [scells_length]; unfold maxLen; omega) (by rw [scells_length]; omega) hbase
  refine ⟨v', w1, h1, ?_, h3⟩
  unfold OwnT
  have e : scells (l ++ [x]) = scells l ++ [.string x] := by simp [scells]
  rw [e]
  exact h2
theorem ownT_cells {w : World} {B : Nat} {v : Value} {l : List ByteArray} (h : OwnT w B v l) : ∃ (ao : Option Addr) (cap : Nat), v = .slice ao l.length cap ∧ l.length ≤ cap ∧ (l ≠ [] → ∃ g, ao = some ⟨g, 0, none⟩ ∧ g < w.heap.size ∧ ∀ (j : Nat) x, l[j]? = some x → w.cell? ⟨g, 0 + j, none⟩ = some (.string x)) := by
  obtain ⟨ao, cap, hv, _, hc⟩ := kt.row_slice h
  rw [scells_length] at hv hc
  subst hv
  refine ⟨ao, cap, rfl, hc, fun hne => ?_⟩
  have h' : w.ownsRow B 9 1 (.slice ao l.length cap) l.length (scells l) := by
    have := h
    unfold OwnT at this
    rw [scells_length] at this
    exact this
  obtain ⟨g, rfl, hcc, _⟩ := kt.row_some h' (List.length_pos_iff.2 hne)
  have hcell : ∀ (j : Nat) x, l[j]? = some x → w.cell? ⟨g, 0 + j, none⟩ = some (.string x) := by
    intro j x hj
    rw [Nat.zero_add]
    exact hcc j _ (by simp [scells, hj])
  refine ⟨g, rfl, ?_, hcell⟩
  obtain ⟨x, t, rfl⟩ := List.exists_cons_of_ne_nil hne
  exact World.block_lt_of_cell? w ⟨g, 0 + 0, none⟩ (hcell 0 x rfl)
theorem split_pieces (t : ByteArray) : (Lib.splitB ⟨#[32]⟩ 0 (Lib.countB t ⟨#[32]⟩) t).map (·.data.toList) = pieces 32 t.data.toList ∧ (Lib.splitB ⟨#[32]⟩ 0 (Lib.countB t ⟨#[32]⟩) t).length = Lib.countB t ⟨#[32]⟩ + 1 ∧ Lib.countB t ⟨#[32]⟩ ≤ t.size := by
  refine ⟨?_, Lib.splitB_all _ (by decide) 0 _ t rfl, Lib.countB_le _ (by decide) _ t (Nat.le_refl _)⟩
  rw [Lib.splitB_data]
  show Lib.splitK [32] 0 (Lib.countB t ⟨#[32]⟩) t.data.toList = _
  have : Lib.countB t ⟨#[32]⟩ = t.data.toList.count 32 := by
    show Lib.count t.data.toList [32] = _
    exact Lib.count_one 32 _
  rw [this]
  exact splitK_pieces 32 _ _ rfl
def neE (x : ByteArray) : Bool := decide (x.data.toList ≠ [])
theorem words_eq (ps : List ByteArray) : (ps.filter neE).map (·.data.toList) = (ps.map (·.data.toList)).filter (· ≠ []) := by
  rw [List.filter_map]; rfl
theorem wf_keep {m : List ByteArray} {i : Nat} (hi : i < m.length) (h : neE m[i] = true) : (m.take (i + 1)).filter neE = (m.take i).filter neE ++ [m[i]] := by
  rw [List.take_succ_eq_append_getElem hi, List.filter_append]; simp [h]
theorem wf_drop {m : List ByteArray} {i : Nat} (hi : i < m.length) (h : neE m[i] = false) : (m.take (i + 1)).filter neE = (m.take i).filter neE := by
  rw [List.take_succ_eq_append_getElem hi, List.filter_append]; simp [h]
theorem wf_len (m : List ByteArray) (i : Nat) : ((m.take i).filter neE).length ≤ i := by
  refine Nat.le_trans (List.length_filter_le _ _) ?_
  rw [List.length_take]; omega
theorem neE_false {x : ByteArray} (h : neE x = false) : x = ⟨#[]⟩ := by
  apply kt.str_eq
  unfold neE at h
  simpa using h
theorem pairV_some (t : List UInt8) : pairV (some t) = .tuple #[.string ⟨t.toArray⟩, .int .i64 0] := rfl
set_option maxRecDepth 20000 in
set_option maxHeartbeats 4000000 in
theorem ready_any (s : ByteArray) (fold : Bool) (w : World) (hs : s.size ≤ 1100000) (hE : Hid (Env w)) : Calls Tryz.prog 67 #[.string s, .bool fold] w fun e w' => e = .returned (pairV (readyO s.data.toList fold)) ∧ Below w.heap.size w w' := by
  have CR := map_any s fold w hs
  have HM := Lib.hid (readyO_of_map s.data.toList fold)
  have HL := @readyO_len s.data.toList
  cases hrs : mapO s.data.toList fold with
  | none =>
    rw [hrs] at CR HM
    have CH := Lib.hid CR
    clear hrs CR HL
    go_enter Tryz.func67, Tryz.ntmps67
    go_wp2_with fail
    refine CH.out.mono ?_
    rintro e w1 ⟨rfl, hB1⟩
    unfold pairV
    go_wp2_with fail
    go_ret2
    refine ⟨?_, hB1⟩
    rw [HM.out]; rfl
  | some t =>
    rw [hrs] at CR HM
    have htl := mapO_len hrs
    rw [kt.size_len] at htl
    have hjl := HL HM.out
    obtain ⟨ta, hta⟩ : ∃ ta : ByteArray, ta = ⟨t.toArray⟩ := ⟨_, rfl⟩
    have htd : ta.data.toList = t := by rw [hta]
    rw [pairV_some, ← hta] at CR
    have CH := Lib.hid CR
    obtain ⟨hp1, hp2, hp3⟩ := split_pieces ta
    rw [htd] at hp1
    have hts : ta.size ≤ 1100000 := by rw [← kt.size_len, htd]; omega
    have CSP : ∀ (W : World) (m : Int), W.cell? ⟨1, 0, none⟩ = some (.int .i64 m) → _ := fun W m hm => Tryz.strings_Split ta ⟨#[32]⟩ m W (by omega) hm (by decide)
    generalize hps : Lib.splitB ⟨#[32]⟩ 0 (Lib.countB ta ⟨#[32]⟩) ta = ps at hp1 hp2 CSP
    generalize hcn : Lib.countB ta ⟨#[32]⟩ = cn at hp2 hp3 CSP
    rw [← hp2] at CSP
    have hpl : ps.length ≤ 1100001 := by omega
    have HSP := Lib.hid CSP
    have hW := words_eq ps
    rw [hp1] at hW
    simp only [Option.map_some] at HM hjl
    rw [← hW] at HM hjl
    have HJL := Lib.hid hjl
    clear hrs CR HL hta htd htl hjl hp1 hp2 hp3 hps hcn CSP hW hts
    go_enter Tryz.func67, Tryz.ntmps67
    go_wp2_with fail
    refine CH.out.mono ?_
    rintro e w1 ⟨rfl, hB1⟩
    obtain ⟨mx, hmx⟩ := env_below hE.out hB1
    have HSP1 := Lib.hid (HSP.out w1 mx hmx)
    clear hmx
    have hsz1 := hB1.size
    go_wp2_with fail
    refine HSP1.out.mono ?_
    rintro e w2 ⟨rfl, hw2⟩
    have hB2 : Below w1.heap.size w1 w2 := by rw [hw2]; exact (Below.refl _ _).alloc (Nat.le_refl _) _
    have hsz2 : w1.heap.size < w2.heap.size := by rw [hw2]; simp
    have HC2 : Hid (∀ (j : Nat) (hj : j < ps.length), w2.cell? ⟨w1.heap.size, j, none⟩ = some (.string ps[j])) := by
      intro j hj
      rw [hw2, World.cell?_alloc_new]
      simp [hj]
    clear hw2 HSP HSP1 CH
    go_wp2_with fail
    go_loopw [8, 10, 23] (fun wv pv iv wr => ∃ (i : Nat), i ≤ ps.length ∧ iv = .int .i64 (i : Int) ∧ Hid (OwnT wr w2.heap.size wv ((ps.take i).filter neE)) ∧ Below w2.heap.size w2 wr) (fun _ _ iv _ => ps.length - (intOf iv).toNat)
    case atStart => exact ⟨0, Nat.zero_le _, rfl, World.ownsRow_nil _ _ _ _, Below.refl _ _⟩
    case round =>
      obtain ⟨i, hi, rfl, hO, hB⟩ := hrel
      have hsz := hB.size
      by_cases hlt : i < ps.length
      · have hlt' : (i : Int) < (ps.length : Int) := by omega
        have hc := (hB.cell (p := ⟨w1.heap.size, i, none⟩) hsz2).trans (HC2.out i hlt)
        have q1 := wf_keep hlt
        have q2 := wf_drop hlt
        have q3 := wf_len ps i
        generalize ps[i] = p at hc q1 q2
        by_cases hp : neE p = true
        · obtain ⟨v', w3, hap, hO1, hB3⟩ := ownT_app p hO.out (by omega) hsz
          rw [← q1 hp] at hO1
          have HO1 := Lib.hid hO1
          have g1 : (p.toList == []) = false := by
            rw [beq_eq_false_iff_ne, Lib.toList_data]
            unfold neE at hp
            simpa using hp
          have g2 : ¬ p.toList = [] := by simpa using g1
          clear q1 q2 q3 hp hO1
          go_wp2_with (at_builtin; refine Lib.wpList_append_run _ rfl _ _ _ _ rfl _ _ rfl rfl _ _ hap ?_)
          go_roundw
          case rel => exact ⟨i + 1, by omega, by go_num, HO1, hB.trans hB3⟩
          case measure => simp [intOf]; omega
        · have hp' : neE p = false := by simpa using hp
          have hO1 := hO.out
          rw [← q2 hp'] at hO1
          have HO1 := Lib.hid hO1
          obtain rfl := neE_false hp'
          clear q1 q2 q3 hp hp' hO1
          go_wp2_with fail
          go_roundw
          case rel => exact ⟨i + 1, by omega, by go_num, HO1, hB⟩
          case measure => simp [intOf]; omega
      · obtain rfl : i = ps.length := by omega
        have hO1 := hO.out
        rw [List.take_length] at hO1
        have q3 := wf_len ps ps.length
        rw [List.take_length] at q3
        obtain ⟨ao, cap, rfl, hcap, hcs⟩ := ownT_cells hO1
        generalize ps.filter neE = ws at hO1 q3 hcap hcs HM HJL
        by_cases hne : ws = []
        · subst hne
          have CJ := Lib.hid (Tryz.strings_Join_none ao cap ⟨#[32]⟩ wr)
          clear hO1 q3 hcap hcs
          go_wp2_with fail
          refine CJ.out.mono ?_
          rintro e w3 ⟨rfl, rfl⟩
          go_wp2_with fail
          go_ret2
          refine ⟨?_, hB1.trans ((hB2.trans (hB.mono (by omega))).mono hsz1)⟩
          rw [HM.out]; rfl
        · obtain ⟨g, rfl, hg, hcc⟩ := hcs hne
          have CJ := Lib.hid (Tryz.strings_Join g 0 cap ws ⟨#[32]⟩ wr hcc hg (by omega) hcap (by have := HJL.out; show (Lib.join _ [32]).length ≤ _; rw [kt.size_len] at this; omega))
          clear hO1 q3 hcap hcs hne hcc
          go_wp2_with fail
          refine CJ.out.mono ?_
          rintro e w3 ⟨rfl, hB3⟩
          go_wp2_with fail
          go_ret2
          refine ⟨?_, hB1.trans ((hB2.trans ((hB.trans (hB3.mono hsz)).mono (by omega))).mono hsz1)⟩
          rw [HM.out]; rfl
end prw
end Go.Proofs.YtckpiaigoeicfaaGreatDoor
/-! AvaP -/
namespace Go.Proofs.YtckpiaigoeicfaaGreatDoor
open Go.RowKit
namespace dnw
open dnp
set_option linter.unusedVariables false
set_option linter.unusedSimpArgs false
/-- a pair: type and value -/
structure Av where
  t : ByteArray
  v : ByteArray
/-- where pairs lie -/
def Avas (w : World) (ao : Option Addr) (l : List Av) : Prop := ∀ i (hi : i < l.length), ∃ b o, ao = some ⟨b, o, none⟩ ∧ w.cell? ⟨b, o + i * 2, none⟩ = some (.string l[i].t) ∧ w.cell? ⟨b, o + i * 2 + 1, none⟩ = some (.string l[i].v)
theorem avas_below {w w' : World} {ao : Option Addr} {l : List Av} (h : Avas w ao l) (hb : Below w.heap.size w w') : Avas w' ao l := by
  intro i hi
  obtain ⟨b, o, h1, h2, h3⟩ := h i hi
  exact ⟨b, o, h1, (hb.cell (World.block_lt_of_cell? w _ h2)).trans h2, (hb.cell (World.block_lt_of_cell? w _ h3)).trans h3⟩
/-- where relative names lie -/
def Rdns (w : World) (ao : Option Addr) (n : List (List Av)) : Prop := ∀ i (hi : i < n.length), ∃ b o ao' cap', ao = some ⟨b, o, none⟩ ∧ w.cell? ⟨b, o + i, none⟩ = some (.slice ao' n[i].length cap') ∧ n[i].length ≤ cap' ∧ Avas w ao' n[i]
theorem rdns_below {w w' : World} {ao : Option Addr} {n : List (List Av)} (h : Rdns w ao n) (hb : Below w.heap.size w w') : Rdns w' ao n := by
  intro i hi
  obtain ⟨b, o, ao', cap', h1, h2, h3, h4⟩ := h i hi
  exact ⟨b, o, ao', cap', h1, (hb.cell (World.block_lt_of_cell? w _ h2)).trans h2, h3, avas_below h4 hb⟩
/-- may it be a value? -/
def valOK (v : List UInt8) : Bool := decide (v.length ≤ 255) && match prp.readyO v true with
  | none => false
  | some t => decide (t ≠ [])
theorem valOK_long {v : ByteArray} (h : ¬ v.size ≤ 255) : false = valOK v.data.toList := by
  unfold valOK
  rw [decide_eq_false (by rw [kt.size_len]; exact h)]; rfl
theorem valOK_none {v : ByteArray} (h : prp.readyO v.data.toList true = none) : false = valOK v.data.toList := by
  unfold valOK
  rw [h]; simp
theorem valOK_some {v : ByteArray} {t : List UInt8} (hl : v.size ≤ 255) (h : prp.readyO v.data.toList true = some t) : decide (t ≠ []) = valOK v.data.toList := by
  unfold valOK
  have h2 : decide (v.data.toList.length ≤ 255) = true := by rw [decide_eq_true_iff, kt.size_len]; exact hl
  rw [h, h2]; simp
set_option maxRecDepth 20000 in
set_option maxHeartbeats 1100000 in
theorem rightValue_any (s : ByteArray) (w : World) (hs : s.size ≤ 1100000) (hE : Hid (prw.Env w)) : Calls Tryz.prog 147 #[.string s] w fun e w' => e = .returned (.bool (valOK s.data.toList)) ∧ Below w.heap.size w w' := by
  have CR := prw.ready_any s true w hs hE
  by_cases hl : s.size ≤ 255
  · have hl' : (s.size : Int) ≤ 255 := by omega
    cases hr : prp.readyO s.data.toList true with
    | none =>
      rw [hr] at CR
      have HR := Lib.hid CR
      have HN := Lib.hid (valOK_none hr)
      clear CR hr
      go_enter Tryz.func147, Tryz.ntmps147
      go_wp2_with fail
      refine HR.out.mono ?_
      rintro e w1 ⟨rfl, hB1⟩
      unfold prw.pairV
      go_wp2_with fail
      go_ret
      exact ⟨kt.ret_bool HN.out, hB1⟩
    | some t =>
      rw [hr, prw.pairV_some] at CR
      have HN := Lib.hid (valOK_some hl hr)
      obtain ⟨ta, hta⟩ : ∃ ta : ByteArray, ta = ⟨t.toArray⟩ := ⟨_, rfl⟩
      have htd : ta.data.toList = t := by rw [hta]
      rw [← hta] at CR
      have HR := Lib.hid CR
      clear CR hr hta
      by_cases ht : t = []
      · subst ht
        obtain rfl : ta = ⟨#[]⟩ := kt.str_eq htd
        clear htd
        go_enter Tryz.func147, Tryz.ntmps147
        go_wp2_with fail
        refine HR.out.mono ?_
        rintro e w1 ⟨rfl, hB1⟩
        go_wp2_with fail
        go_ret
        exact ⟨kt.ret_bool HN.out, hB1⟩
      · have g1 : (ta.toList == []) = false := by rw [beq_eq_false_iff_ne, Lib.toList_data, htd]; exact ht
        have g2 : ¬ ta.toList = [] := by simpa using g1
        have HN' : Hid (true = valOK s.data.toList) := by
          have := HN.out
          rw [decide_eq_true ht] at this
          exact this
        clear htd ht
        go_enter Tryz.func147, Tryz.ntmps147
        go_wp2_with fail
        refine HR.out.mono ?_
        rintro e w1 ⟨rfl, hB1⟩
        go_wp2_with fail
        go_ret
        exact ⟨kt.ret_bool HN'.out, hB1⟩
  · have hl' : decide ((s.size : Int) ≤ 255) = false := by rw [decide_eq_false_iff_not]; omega
    have HN := Lib.hid (valOK_long hl)
    have pv : ∀ o : Option (List UInt8), ∃ (t : ByteArray) (er : Int), prw.pairV o = .tuple #[.string t, .int .i64 er] := fun o => by cases o <;> exact ⟨_, _, rfl⟩
    obtain ⟨t1, e1, h1⟩ := pv (prp.readyO s.data.toList true)
    rw [h1] at CR
    have HR := Lib.hid CR
    clear CR h1 pv hl
    go_enter Tryz.func147, Tryz.ntmps147
    go_wp2_with fail
    refine HR.out.mono ?_
    rintro e w1 ⟨rfl, hB1⟩
    go_wp2_with fail
    go_ret
    exact ⟨kt.ret_bool HN.out, hB1⟩
set_option maxRecDepth 20000 in
set_option maxHeartbeats 1100000 in
theorem rvalue_any (s : ByteArray) (w : World) (hs : s.size ≤ 1100000) : Calls Tryz.prog 129 #[.string s] w fun e w' => e = .returned (.bool (valOK s.data.toList)) ∧ Below w.heap.size w w' := by
  have CR := prw.rready_any s true w hs
  by_cases hl : s.size ≤ 255
  · have hl' : (s.size : Int) ≤ 255 := by omega
    cases hr : prp.readyO s.data.toList true with
    | none =>
      rw [hr] at CR
      have HR := Lib.hid CR
      have HN := Lib.hid (valOK_none hr)
      clear CR hr
      go_enter Tryz.func129, Tryz.ntmps129
      go_wp2_with fail
      refine HR.out.mono ?_
      rintro e w1 ⟨rfl, hB1⟩
      unfold prw.pairV
      go_wp2_with fail
      go_ret
      exact ⟨kt.ret_bool HN.out, hB1⟩
    | some t =>
      rw [hr, prw.pairV_some] at CR
      have HN := Lib.hid (valOK_some hl hr)
      obtain ⟨ta, hta⟩ : ∃ ta : ByteArray, ta = ⟨t.toArray⟩ := ⟨_, rfl⟩
      have htd : ta.data.toList = t := by rw [hta]
      have hts : ta.size = t.length := by rw [← kt.size_len, htd]
      rw [← hta] at CR
      have HR := Lib.hid CR
      clear CR hr hta
      by_cases ht : t = []
      · subst ht
        obtain rfl : ta = ⟨#[]⟩ := kt.str_eq htd
        clear htd hts
        go_enter Tryz.func129, Tryz.ntmps129
        go_wp2_with fail
        refine HR.out.mono ?_
        rintro e w1 ⟨rfl, hB1⟩
        go_wp2_with fail
        go_ret
        exact ⟨kt.ret_bool HN.out, hB1⟩
      · have hp : Hid (0 < ta.size) := by
          have := List.length_pos_iff.2 ht
          show 0 < _
          omega
        have HN' : Hid (true = valOK s.data.toList) := by
          have := HN.out
          rw [decide_eq_true ht] at this
          exact this
        clear htd ht hts
        go_enter Tryz.func129, Tryz.ntmps129
        go_wp2_with fail
        refine HR.out.mono ?_
        rintro e w1 ⟨rfl, hB1⟩
        go_wp2_with fail
        go_ret
        exact ⟨kt.ret_bool ((decide_eq_true hp.out).trans HN'.out), hB1⟩
  · have hl' : decide ((s.size : Int) ≤ 255) = false := by rw [decide_eq_false_iff_not]; omega
    have HN := Lib.hid (valOK_long hl)
    have pv : ∀ o : Option (List UInt8), ∃ (t : ByteArray) (er : Int), prw.pairV o = .tuple #[.string t, .int .i64 er] := fun o => by cases o <;> exact ⟨_, _, rfl⟩
    obtain ⟨t1, e1, h1⟩ := pv (prp.readyO s.data.toList true)
    rw [h1] at CR
    have HR := Lib.hid CR
    clear CR h1 pv hl
    go_enter Tryz.func129, Tryz.ntmps129
    go_wp2_with fail
    refine HR.out.mono ?_
    rintro e w1 ⟨rfl, hB1⟩
    go_wp2_with fail
    go_ret
    exact ⟨kt.ret_bool HN.out, hB1⟩
end dnw
end Go.Proofs.YtckpiaigoeicfaaGreatDoor
/-! RdnW -/
namespace Go.Proofs.YtckpiaigoeicfaaGreatDoor
open Go.RowKit
namespace dnw
open dnp
set_option linter.unusedVariables false
set_option linter.unusedSimpArgs false
theorem str_beq (a b : ByteArray) : (a.toList == b.toList) = decide (a.data.toList = b.data.toList) := by
  rw [Lib.toList_data, Lib.toList_data]
  by_cases h : a.data.toList = b.data.toList
  · rw [h]; simp
  · rw [decide_eq_false h, beq_eq_false_iff_ne]; exact h
/-- the closure: is a pair's type the one at hand? -/
theorem clo_any (x : Av) (p : Nat) (t : ByteArray) (W : World) (hc : W.cell? ⟨p, 0, none⟩ = some (.string t)) : Calls Tryz.prog 146 #[.agg #[.string x.t, .string x.v], .pointer (some ⟨p, 0, none⟩)] W fun e w' => e = .returned (.bool (decide (x.t.data.toList = t.data.toList))) ∧ Below W.heap.size W w' := by
  have hlt : p < W.heap.size := World.block_lt_of_cell? W _ hc
  have hc1 : (W.alloc (.cells #[.string x.t, .string x.v] 96)).cell? ⟨p, 0, none⟩ = some (.string t) := (((Below.refl _ W).alloc (Nat.le_refl _) _).cell (p := ⟨p, 0, none⟩) hlt).trans hc
  have hb := str_beq x.t t
  go_enter Tryz.func146, Tryz.ntmps146
  go_wp2_with fail
  go_ret
  exact ⟨kt.ret_bool (by simp only [Array.toList_inj]), (Below.refl _ _).alloc (Nat.le_refl _) _⟩
/-- does one of the first k pairs have the type? -/
def Has (l : List Av) (k : Nat) (t : ByteArray) : Prop := ∃ i, ∃ hi : i < l.length, i < k ∧ l[i].t.data.toList = t.data.toList
def IxE (l : List Av) (k : Nat) (t : ByteArray) (w : World) (e : Ending) (w' : World) : Prop := ∃ r : Int, e = .returned (.int .i64 r) ∧ (0 ≤ r ↔ Has l k t) ∧ Below w.heap.size w w'
set_option maxRecDepth 20000 in
set_option maxHeartbeats 1100000 in
theorem index_any (ao : Option Addr) (k cap p : Nat) (l : List Av) (t : ByteArray) (w : World) (hA : Hid (Avas w ao l)) (hk : k ≤ l.length) (hkb : k ≤ 1000) (hp : w.cell? ⟨p, 0, none⟩ = some (.string t)) :
    Calls Tryz.prog 160 #[.slice ao k cap, .func (.func 146) #[] #[.pointer (some ⟨p, 0, none⟩)]] w fun e w' => IxE l k t w e w' := by
  have HP := Lib.hid hp
  have hlt : p < w.heap.size := World.block_lt_of_cell? w _ hp
  clear hp
  go_enter Tryz.func160, Tryz.ntmps160
  go_wp2_with fail
  go_loopw [5, 8] (fun _ iv wr => ∃ i : Nat, i ≤ k ∧ iv = .int .i64 (i : Int) ∧ Hid (¬ Has l i t) ∧ Below w.heap.size w wr) (fun _ iv _ => k - (intOf iv).toNat)
  case atStart => exact ⟨0, Nat.zero_le _, rfl, fun ⟨_, _, h, _⟩ => by omega, Below.refl _ _⟩
  case round =>
    obtain ⟨i, hi, rfl, hN, hB⟩ := hrel
    have hsz := hB.size
    by_cases hlt2 : i < k
    · have hlt' : (i : Int) < (k : Int) := by omega
      have hil : i < l.length := by omega
      obtain ⟨b, o, hao, hc0, hc1⟩ := (avas_below hA.out hB) i hil
      subst hao
      have hpc := (hB.cell (p := ⟨p, 0, none⟩) hlt).trans HP.out
      have CC := clo_any l[i] p t wr hpc
      by_cases he : l[i].t.data.toList = t.data.toList
      · have HH : Hid (0 ≤ (i : Int) ↔ Has l k t) := ⟨fun _ => ⟨i, hil, hlt2, he⟩, fun _ => by omega⟩
        rw [decide_eq_true he] at CC
        have HC := Lib.hid CC
        generalize l[i] = x at hc0 hc1 HC
        clear CC he hpc
        go_wp2_with fail
        refine HC.out.mono ?_
        rintro e w2 ⟨rfl, hB2⟩
        go_wp2_with fail
        go_ret
        exact ⟨(i : Int), rfl, HH.out, hB.trans (hB2.mono hsz)⟩
      · have HN2 : Hid (¬ Has l (i + 1) t) := by
          rintro ⟨j, hj, h1, h2⟩
          by_cases e : j = i
          · subst e; exact he h2
          · exact hN.out ⟨j, hj, by omega, h2⟩
        rw [decide_eq_false he] at CC
        have HC := Lib.hid CC
        generalize l[i] = x at hc0 hc1 HC
        clear CC he hpc
        go_wp2_with fail
        refine HC.out.mono ?_
        rintro e w2 ⟨rfl, hB2⟩
        go_wp2_with fail
        go_roundw
        case rel => exact ⟨i + 1, by omega, by go_num, HN2, hB.trans (hB2.mono hsz)⟩
        case measure => simp [intOf]; omega
    · obtain rfl : i = k := by omega
      go_wp2_with fail
      go_ret
      exact ⟨-1, rfl, ⟨fun h => by omega, fun h => absurd h hN.out⟩, hB⟩
def hasB (l : List Av) (k : Nat) (t : ByteArray) : Bool := (l.take k).any fun x => decide (x.t.data.toList = t.data.toList)
theorem hasB_iff (l : List Av) (k : Nat) (t : ByteArray) : hasB l k t = true ↔ Has l k t := by
  unfold hasB Has
  rw [List.any_eq_true]
  constructor
  · rintro ⟨x, hx, h⟩
    obtain ⟨i, hi, rfl⟩ := List.mem_iff_getElem.1 hx
    rw [List.length_take] at hi
    rw [List.getElem_take] at h
    exact ⟨i, by omega, by omega, by simpa using h⟩
  · rintro ⟨i, hi, h1, h2⟩
    refine ⟨l[i], ?_, by simpa using h2⟩
    rw [List.mem_iff_getElem]
    exact ⟨i, by rw [List.length_take]; omega, by rw [List.getElem_take]⟩
set_option maxRecDepth 20000 in
theorem contains_any (ao : Option Addr) (k cap p : Nat) (l : List Av) (t : ByteArray) (w : World) (hA : Hid (Avas w ao l)) (hk : k ≤ l.length) (hkb : k ≤ 1000) (hp : w.cell? ⟨p, 0, none⟩ = some (.string t)) :
    Calls Tryz.prog 145 #[.slice ao k cap, .func (.func 146) #[] #[.pointer (some ⟨p, 0, none⟩)]] w fun e w' => e = .returned (.bool (hasB l k t)) ∧ Below w.heap.size w w' := by
  have CI := Lib.hid (index_any ao k cap p l t w hA hk hkb hp)
  have hI := hasB_iff l k t
  clear hp
  by_cases hH : hasB l k t = true
  · have HH := Lib.hid (hI.1 hH)
    rw [hH]
    clear hI hH
    go_enter Tryz.func145, Tryz.ntmps145
    go_wp2_with fail
    refine CI.out.mono ?_
    rintro e w1 ⟨r, rfl, h1, hB1⟩
    have h2 : 0 ≤ r := h1.2 HH.out
    clear h1
    go_wp2_with fail
    go_ret
    exact ⟨kt.ret_bool (by first | rfl | exact decide_eq_true h2), hB1⟩
  · have HH := Lib.hid (fun h => hH (hI.2 h))
    have hH' : hasB l k t = false := by simpa using hH
    rw [hH']
    clear hI hH hH'
    go_enter Tryz.func145, Tryz.ntmps145
    go_wp2_with fail
    refine CI.out.mono ?_
    rintro e w1 ⟨r, rfl, h1, hB1⟩
    have h2 : ¬ 0 ≤ r := fun h => HH.out (h1.1 h)
    clear h1
    go_wp2_with fail
    go_ret
    exact ⟨kt.ret_bool (by simpa using h2), hB1⟩
/-- may a pair stand at place i? -/
def pairB (l : List Av) (i : Nat) (x : Av) : Bool := !hasB l i x.t && typeOK x.t.data.toList && valOK x.v.data.toList
def rdnOK (l : List Av) : Bool := decide (1 ≤ l.length) && decide (l.length ≤ 4) && (List.range l.length).all fun i => match l[i]? with
  | none => false
  | some x => pairB l i x
theorem rdnOK_len {l : List Av} (h : l.length < 1 ∨ 4 < l.length) : false = rdnOK l := by
  unfold rdnOK
  rcases h with h | h
  · rw [decide_eq_false (by omega : ¬ 1 ≤ l.length)]; rfl
  · rw [decide_eq_false (by omega : ¬ l.length ≤ 4)]; simp
theorem rdnOK_no {l : List Av} {i : Nat} (hi : i < l.length) (h : pairB l i l[i] = false) : false = rdnOK l := by
  symm
  unfold rdnOK
  rw [Bool.and_eq_false_iff]
  right
  rw [Bool.eq_false_iff]
  intro e
  have := List.all_eq_true.1 e i (List.mem_range.2 hi)
  rw [List.getElem?_eq_getElem hi] at this
  simp only [] at this
  rw [h] at this
  cases this
theorem rdnOK_yes {l : List Av} (h1 : 1 ≤ l.length) (h4 : l.length ≤ 4) (h : ∀ i (hi : i < l.length), pairB l i l[i] = true) : true = rdnOK l := by
  symm
  unfold rdnOK
  rw [decide_eq_true h1, decide_eq_true h4]
  simp only [Bool.true_and]
  rw [List.all_eq_true]
  intro i hi
  have hi' := List.mem_range.1 hi
  rw [List.getElem?_eq_getElem hi']
  exact h i hi'
/-- sizes that can be gone through -/
def Smalls (l : List Av) : Prop := ∀ x ∈ l, x.t.size ≤ 100000 ∧ x.v.size ≤ 1100000
set_option maxRecDepth 20000 in
set_option maxHeartbeats 4000000 in
theorem rightRdn_any (ao : Option Addr) (cap : Nat) (l : List Av) (w : World) (hA : Hid (Avas w ao l)) (hE : Hid (prw.Env w)) (hS : Hid (l.length ≤ 4 → Smalls l)) (hlc : l.length ≤ cap) :
    Calls Tryz.prog 125 #[.slice ao l.length cap] w fun e w' => e = .returned (.bool (rdnOK l)) ∧ Below w.heap.size w w' := by
  by_cases h1 : l.length < 1
  · have h1' : (l.length : Int) < 1 := by omega
    have HN := Lib.hid (rdnOK_len (l := l) (Or.inl h1))
    go_enter Tryz.func125, Tryz.ntmps125
    go_wp2_with fail
    go_ret
    exact ⟨kt.ret_bool HN.out, Below.refl _ _⟩
  · have h1' : ¬ (l.length : Int) < 1 := by omega
    by_cases h4 : 4 < l.length
    · have h4' : 4 < (l.length : Int) := by omega
      have HN := Lib.hid (rdnOK_len (l := l) (Or.inr h4))
      go_enter Tryz.func125, Tryz.ntmps125
      go_wp2_with fail
      go_ret
      exact ⟨kt.ret_bool HN.out, Below.refl _ _⟩
    · have h4' : ¬ 4 < (l.length : Int) := by omega
      have HSm := Lib.hid (hS.out (by omega))
      have h1n : 1 ≤ l.length := by omega
      have h4n : l.length ≤ 4 := by omega
      go_enter Tryz.func125, Tryz.ntmps125
      go_wp2_with fail
      go_loopw [3, 4, 5, 16] (fun _ _ _ iv wr => ∃ i : Nat, i ≤ l.length ∧ iv = .int .i64 (i : Int) ∧ Hid (∀ j (hj : j < l.length), j < i → pairB l j l[j] = true) ∧ Below w.heap.size w wr) (fun _ _ _ iv _ => l.length - (intOf iv).toNat)
      case atStart => exact ⟨0, Nat.zero_le _, rfl, fun j _ h => by omega, Below.refl _ _⟩
      case round =>
        obtain ⟨i, hi, rfl, hP, hB⟩ := hrel
        have hsz := hB.size
        by_cases hlt : i < l.length
        · have hlt' : (i : Int) < (l.length : Int) := by omega
          obtain ⟨b, o, hao, hc0, hc1⟩ := (avas_below hA.out hB) i hlt
          obtain ⟨hts, hvs⟩ := HSm.out l[i] (by simp)
          have hpn := fun h => rdnOK_no (l := l) hlt h
          have hpy : pairB l i l[i] = true → ∀ j (hj : j < l.length), j < i + 1 → pairB l j l[j] = true := by
            intro h j hj hji
            by_cases e : j = i
            · subst e; exact h
            · exact hP.out j hj (by omega)
          have hBA : ∀ x : Av, Below w.heap.size w (wr.alloc (.cells #[.string x.t, .string x.v] 96)) := fun x => hB.alloc hsz _
          have CC : ∀ x : Av, Calls Tryz.prog 145 #[.slice ao i cap, .func (.func 146) #[] #[.pointer (some ⟨wr.heap.size, 0, none⟩)]] (wr.alloc (.cells #[.string x.t, .string x.v] 96)) fun e w' => e = .returned (.bool (hasB l i x.t)) ∧ Below (wr.alloc (.cells #[.string x.t, .string x.v] 96)).heap.size (wr.alloc (.cells #[.string x.t, .string x.v] 96)) w' :=
            fun x => contains_any ao i cap wr.heap.size l x.t _ (Lib.hid (avas_below hA.out (hBA x))) hi (by omega) (by rw [World.cell?_alloc_new]; rfl)
          subst hao
          have hx : pairB l i l[i] = (!hasB l i l[i].t && typeOK l[i].t.data.toList && valOK l[i].v.data.toList) := rfl
          have CC1 := CC l[i]
          have hBA1 := Lib.hid (hBA l[i])
          generalize l[i] = x at hc0 hc1 hts hvs hpn hpy CC1 hx hBA1
          have HTy : Hid (∀ W, Calls Tryz.prog 123 #[.string x.t] W fun e w' => e = .returned (.bool (typeOK x.t.data.toList)) ∧ W = w') := fun W => rightType_any x.t W hts
          have HVa : Hid (∀ W, Hid (prw.Env W) → Calls Tryz.prog 147 #[.string x.v] W fun e w' => e = .returned (.bool (valOK x.v.data.toList)) ∧ Below W.heap.size W w') := fun W h => rightValue_any x.v W hvs h
          generalize hasB l i x.t = b1 at CC1 hx
          generalize typeOK x.t.data.toList = b2 at HTy hx
          generalize valOK x.v.data.toList = b3 at HVa hx
          have HC := Lib.hid CC1
          clear CC CC1 hBA
          go_wp2_with fail
          refine HC.out.mono ?_
          rintro e w2 ⟨rfl, hC2⟩
          have hnb : wr.heap.size < (wr.alloc (.cells #[.string x.t, .string x.v] 96)).heap.size := by simp
          have y0 : w2.cell? ⟨wr.heap.size, 0, none⟩ = some (.string x.t) := (hC2.cell (p := ⟨wr.heap.size, 0, none⟩) hnb).trans (by rw [World.cell?_alloc_new]; rfl)
          have y1 : w2.cell? ⟨wr.heap.size, 1, none⟩ = some (.string x.v) := (hC2.cell (p := ⟨wr.heap.size, 1, none⟩) hnb).trans (by rw [World.cell?_alloc_new]; rfl)
          have hB2 := hBA1.out.trans (hC2.mono hBA1.out.size)
          have HE2 := Lib.hid (prw.env_below hE.out hB2)
          have hsz2 := hB2.size
          clear hc0 hc1 hC2 hnb HC
          cases b1 with
          | true =>
            have HN := Lib.hid (hpn (by rw [hx]; rfl))
            clear hpn hpy hx
            go_wp2_with fail
            go_ret
            exact ⟨kt.ret_bool HN.out, hB2⟩
          | false =>
            cases b2 with
            | false =>
              have HN := Lib.hid (hpn (by rw [hx]; rfl))
              clear hpn hpy hx
              go_wp2_with fail
              refine (HTy.out _).mono ?_
              rintro e w3 ⟨rfl, rfl⟩
              go_wp2_with fail
              go_ret
              exact ⟨kt.ret_bool HN.out, hB2⟩
            | true =>
              have HV2 := Lib.hid (HVa.out w2 HE2)
              cases b3 with
              | false =>
                have HN := Lib.hid (hpn (by rw [hx]; rfl))
                clear hpn hpy hx
                go_wp2_with fail
                refine (HTy.out _).mono ?_
                rintro e w3 ⟨rfl, rfl⟩
                go_wp2_with fail
                refine HV2.out.mono ?_
                rintro e w4 ⟨rfl, hB4⟩
                go_wp2_with fail
                go_ret
                exact ⟨kt.ret_bool HN.out, hB2.trans (hB4.mono hsz2)⟩
              | true =>
                have HY := Lib.hid (hpy (by rw [hx]; rfl))
                clear hpn hpy hx
                go_wp2_with fail
                refine (HTy.out _).mono ?_
                rintro e w3 ⟨rfl, rfl⟩
                go_wp2_with fail
                refine HV2.out.mono ?_
                rintro e w4 ⟨rfl, hB4⟩
                go_wp2_with fail
                go_roundw
                case rel => exact ⟨i + 1, by omega, by go_num, HY, hB2.trans (hB4.mono hsz2)⟩
                case measure => simp [intOf]; omega
        · obtain rfl : i = l.length := by omega
          have HN := Lib.hid (rdnOK_yes (l := l) (by omega) (by omega) (fun j hj => hP.out j hj hj))
          go_wp2_with fail
          go_ret
          exact ⟨kt.ret_bool HN.out, hB⟩
end dnw
end Go.Proofs.YtckpiaigoeicfaaGreatDoor
/-! RightW -/
namespace Go.Proofs.YtckpiaigoeicfaaGreatDoor
open Go.RowKit
namespace dnw
open dnp
set_option linter.unusedVariables false
set_option linter.unusedSimpArgs false
/-- may it be a name? -/
def nameOK (n : List (List Av)) : Bool := decide (n.length ≤ 12) && n.all rdnOK
theorem nameOK_len {n : List (List Av)} (h : 12 < n.length) : false = nameOK n := by
  unfold nameOK; rw [decide_eq_false (by omega : ¬ n.length ≤ 12)]; rfl
theorem nameOK_no {n : List (List Av)} {i : Nat} (hi : i < n.length) (h : rdnOK n[i] = false) : false = nameOK n := by
  symm
  unfold nameOK
  rw [Bool.and_eq_false_iff]
  right
  rw [Bool.eq_false_iff]
  intro e
  have := List.all_eq_true.1 e n[i] (List.getElem_mem hi)
  rw [h] at this
  cases this
theorem nameOK_all {n : List (List Av)} (h : ∀ i (hi : i < n.length), rdnOK n[i] = true) : decide (n.length ≤ 12) = nameOK n := by
  unfold nameOK
  have : n.all rdnOK = true := by
    rw [List.all_eq_true]
    intro l hl
    obtain ⟨i, hi, rfl⟩ := List.mem_iff_getElem.1 hl
    exact h i hi
  rw [this, Bool.and_true]
set_option maxRecDepth 20000 in
set_option maxHeartbeats 2000000 in
theorem right_any (ao : Option Addr) (cap : Nat) (n : List (List Av)) (w : World) (hA : Hid (Rdns w ao n)) (hE : Hid (prw.Env w)) (hS : Hid (∀ l ∈ n, l.length ≤ 4 → Smalls l)) :
    Calls Tryz.prog 99 #[.slice ao n.length cap] w fun e w' => e = .returned (.bool (nameOK n)) ∧ Below w.heap.size w w' := by
  by_cases h12 : 12 < n.length
  · have h12' : 12 < (n.length : Int) := by omega
    have HN := Lib.hid (nameOK_len h12)
    go_enter Tryz.func99, Tryz.ntmps99
    go_wp2_with fail
    go_ret
    exact ⟨kt.ret_bool HN.out, Below.refl _ _⟩
  · have h12' : ¬ 12 < (n.length : Int) := by omega
    have hn12 : n.length ≤ 12 := by omega
    go_enter Tryz.func99, Tryz.ntmps99
    go_wp2_with fail
    go_loopw [4, 10] (fun _ iv wr => ∃ i : Nat, i ≤ n.length ∧ iv = .int .i64 (i : Int) ∧ Hid (∀ j (hj : j < n.length), j < i → rdnOK n[j] = true) ∧ Below w.heap.size w wr) (fun _ iv _ => n.length - (intOf iv).toNat)
    case atStart => exact ⟨0, Nat.zero_le _, rfl, fun j _ h => by omega, Below.refl _ _⟩
    case round =>
      obtain ⟨i, hi, rfl, hP, hB⟩ := hrel
      have hsz := hB.size
      by_cases hlt : i < n.length
      · have hlt' : (i : Int) < (n.length : Int) := by omega
        obtain ⟨b, o, ao', cap', hao, hc0, hcc, hAv⟩ := (rdns_below hA.out hB) i hlt
        subst hao
        have hSm := hS.out n[i] (List.getElem_mem hlt)
        have hpn := fun h => nameOK_no (n := n) hlt h
        have hpy : rdnOK n[i] = true → ∀ j (hj : j < n.length), j < i + 1 → rdnOK n[j] = true := by
          intro h j hj hji
          by_cases e : j = i
          · subst e; exact h
          · exact hP.out j hj (by omega)
        have CR := rightRdn_any ao' cap' n[i] wr (Lib.hid hAv) (Lib.hid (prw.env_below hE.out hB)) (Lib.hid hSm) hcc
        generalize n[i] = l at hc0 hpn hpy CR
        generalize hm : l.length = m at hc0 CR
        cases hr : rdnOK l with
        | false =>
          rw [hr] at CR
          have HN := Lib.hid (hpn hr)
          have HC := Lib.hid CR
          clear CR hpn hpy hr hm hAv hSm hcc
          go_wp2_with fail
          refine HC.out.mono ?_
          rintro e w2 ⟨rfl, hB2⟩
          go_wp2_with fail
          go_ret
          exact ⟨kt.ret_bool HN.out, hB.trans (hB2.mono hsz)⟩
        | true =>
          rw [hr] at CR
          have HY := Lib.hid (hpy hr)
          have HC := Lib.hid CR
          clear CR hpn hpy hr hm hAv hSm hcc
          go_wp2_with fail
          refine HC.out.mono ?_
          rintro e w2 ⟨rfl, hB2⟩
          go_wp2_with fail
          go_roundw
          case rel => exact ⟨i + 1, by omega, by go_num, HY, hB.trans (hB2.mono hsz)⟩
          case measure => simp [intOf]; omega
      · obtain rfl : i = n.length := by omega
        have HN := Lib.hid ((decide_eq_true hn12).symm.trans (nameOK_all (n := n) (fun j hj => hP.out j hj hj)))
        go_wp2_with fail
        go_ret
        exact ⟨kt.ret_bool HN.out, hB⟩
end dnw
end Go.Proofs.YtckpiaigoeicfaaGreatDoor
/-! Nest -/
namespace Go.Proofs.YtckpiaigoeicfaaGreatDoor
open Go.RowKit
namespace dnw
set_option linter.unusedVariables false
set_option linter.unusedSimpArgs false
def acell (x : Av) : List Value := [.string x.t, .string x.v]
def acells (l : List Av) : List Value := l.flatMap acell
theorem acells_append (a b : List Av) : acells (a ++ b) = acells a ++ acells b := List.flatMap_append ..
theorem infoAva : (Tryz.prog.info? 96).map (fun i => (i.zero, i.size, i.bytes)) = some (some (.agg #[.string ByteArray.empty, .string ByteArray.empty]), 2, 32) := by kernel_rfl
theorem infoRow : (Tryz.prog.info? 92).map (fun i => (i.zero, i.size, i.bytes)) = some (some (.slice none 0 0), 1, 24) := by kernel_rfl
/-- a row of pairs that the call owns -/
def OwnA (w : World) (B : Nat) (v : Value) (l : List Av) : Prop := kt.SegX w B 96 2 v l.length (acells l)
theorem ownA_nil (w : World) (B : Nat) : OwnA w B (.slice none 0 0) [] := kt.segX_nil _ _ _ _
theorem ownA_same {w w' : World} {B : Nat} {v : Value} {l : List Av} (h : OwnA w B v l) (hb : ∀ k, v.ownBlock = some k → w'.heap[k]? = w.heap[k]?) : OwnA w' B v l := kt.segX_same h hb
theorem ownA_lt {w : World} {B : Nat} {v : Value} {l : List Av} (h : OwnA w B v l) : ∀ k, v.ownBlock = some k → B ≤ k ∧ k < w.heap.size := kt.segX_lt h
theorem ownA_form {w : World} {B : Nat} {v : Value} {l : List Av} (h : OwnA w B v l) : ∃ ao cap, v = .slice ao l.length cap ∧ l.length ≤ cap := kt.segX_slice h
theorem ownA_avas {w : World} {B cap : Nat} {ao : Option Addr} {l : List Av} (h : OwnA w B (.slice ao l.length cap) l) : Avas w ao l := by
  intro i hi
  obtain ⟨g, o, cap', hv, _, _, hc⟩ := kt.segX_cell h (by omega)
  simp only [Value.slice.injEq] at hv
  obtain ⟨rfl, _, _⟩ := hv
  have h0 := kt.flat_get acell 2 (fun _ => rfl) l i 0 hi (by omega)
  have h1 := kt.flat_get acell 2 (fun _ => rfl) l i 1 hi (by omega)
  refine ⟨g, o, rfl, ?_, ?_⟩
  · exact hc _ _ h0
  · rw [Nat.add_assoc]; exact hc _ _ h1
/-- a name being built: the outer row vn, the row at hand vl, the rows laid already -/
structure Nest (w : World) (B : Nat) (vn vl : Value) (ns : List (List Av)) (cur : List Av) (vals : List Value) : Prop where
  outer : kt.SegX w B 92 1 vn vals.length vals
  len : vals.length = ns.length
  inner : ∀ j (h : j < vals.length) (h' : j < ns.length), OwnA w B vals[j] ns[j] ∧ ∀ k, vals[j].ownBlock = some k → vn.ownBlock ≠ some k ∧ vl.ownBlock ≠ some k
  cur : OwnA w B vl cur
  apart : ∀ k, vl.ownBlock = some k → vn.ownBlock ≠ some k
theorem nest_nil (w : World) (B : Nat) : Nest w B (.slice none 0 0) (.slice none 0 0) [] [] [] :=
  ⟨kt.segX_nil _ _ _ _, rfl, fun j h _ => by simp at h, ownA_nil _ _, fun k h => by simp [Value.ownBlock] at h⟩
/-- where no block of the call's own turns, it stands -/
theorem nest_same {w w' : World} {B : Nat} {vn vl : Value} {ns : List (List Av)} {cur : List Av} {vals : List Value} (h : Nest w B vn vl ns cur vals) (hb : ∀ k, B ≤ k → k < w.heap.size → w'.heap[k]? = w.heap[k]?) : Nest w' B vn vl ns cur vals := by
  refine ⟨kt.segX_same h.outer fun k hk => ?_, h.len, fun j h1 h2 => ⟨ownA_same (h.inner j h1 h2).1 fun k hk => ?_, (h.inner j h1 h2).2⟩, ownA_same h.cur fun k hk => ?_, h.apart⟩
  · have := kt.segX_lt h.outer k hk; exact hb k this.1 this.2
  · have := ownA_lt (h.inner j h1 h2).1 k hk; exact hb k this.1 this.2
  · have := ownA_lt h.cur k hk; exact hb k this.1 this.2
theorem nest_gr {w w' : World} {B b : Nat} {vn vl : Value} {ns : List (List Av)} {cur : List Av} {vals : List Value} (h : Nest w B vn vl ns cur vals) (hb : b < B) (hg : w.grownBy w' (some b)) : Nest w' B vn vl ns cur vals :=
  nest_same h fun k hk hlt => hg.block k hlt (by intro e; cases e; omega)
theorem nest_below {w w' : World} {B : Nat} {vn vl : Value} {ns : List (List Av)} {cur : List Av} {vals : List Value} (h : Nest w B vn vl ns cur vals) (hb : Below w.heap.size w w') : Nest w' B vn vl ns cur vals :=
  nest_same h fun k _ hlt => hb.block k hlt
theorem below_of_gr {w w1 : World} {B : Nat} {v : Value} (hg : w.grownBy w1 v.ownBlock) (hB : B ≤ w.heap.size) (hv : ∀ k, v.ownBlock = some k → B ≤ k) : Below B w w1 := (Below.refl B w).grown hg hB hv
/-- a pair laid behind the row at hand -/
theorem nest_app {w : World} {B : Nat} {vn vl : Value} {ns : List (List Av)} {cur : List Av} {vals : List Value} (x : Av) (h : Nest w B vn vl ns cur vals) (hl : cur.length ≤ 1100000) (hB : B ≤ w.heap.size) :
    ∃ vl' w1, (Builtin.append_ #[92, 92] 92 #[vl, .slice (some ⟨w.heap.size, 0, none⟩) 1 1]).run Tryz.prog (w.alloc (.cells #[.string x.t, .string x.v] 96)) = .ok vl' w1 ∧ Nest w1 B vn vl' ns (cur ++ [x]) vals ∧ Below B w w1 := by
  have hn := nest_below h (w' := w.alloc (.cells #[.string x.t, .string x.v] 96)) ((Below.refl _ _).alloc (Nat.le_refl _) _)
  obtain ⟨vl', w1, h1, h2, h3, h4⟩ := kt.segX_append (P := Tryz.prog) (t := 92) (ty := 92) Tryz.underlying92 infoAva rfl (by omega) ⟨w.heap.size, 0, none⟩ 1 1 (acell x) rfl (fun j u hj => by
      rw [kt.addr_add, World.cell?_alloc_new]
      simpa [acell] using hj) (by intro u hu; simp [acell] at hu; rcases hu with rfl | rfl <;> rfl) hn.cur (by unfold maxLen; omega) (by omega) (by simp; omega)
  have hne : ∀ (v : Value), (∀ k, v.ownBlock = some k → vl.ownBlock ≠ some k) → ∀ k, v.ownBlock = some k → k < (w.alloc (.cells #[.string x.t, .string x.v] 96)).heap.size → w1.heap[k]? = (w.alloc (.cells #[.string x.t, .string x.v] 96)).heap[k]? := by
    intro v hv k hk hlt
    exact h3.block k hlt (fun e => hv k hk e.symm)
  have hnew : ∀ k, k < (w.alloc (.cells #[.string x.t, .string x.v] 96)).heap.size → vl.ownBlock ≠ some k → vl'.ownBlock ≠ some k := by
    intro k hlt hk e
    rcases h4 k e with e2 | e2
    · exact hk e2
    · omega
  refine ⟨vl', w1, h1, ⟨kt.segX_same hn.outer fun k hk => ?_, hn.len, fun j a b => ?_, ?_, ?_⟩, ?_⟩
  · have hlt := (kt.segX_lt hn.outer k hk).2
    exact hne vn (fun k hk e => hn.apart k e hk) k hk hlt
  · obtain ⟨i1, i2⟩ := hn.inner j a b
    refine ⟨ownA_same i1 fun k hk => hne _ (fun k hk => (i2 k hk).2) k hk (ownA_lt i1 k hk).2, fun k hk => ⟨(i2 k hk).1, hnew k (ownA_lt i1 k hk).2 (i2 k hk).2⟩⟩
  · unfold OwnA
    rw [List.length_append, acells_append]
    have e : acells [x] = acell x := by simp [acells]
    rw [e]
    exact h2
  · intro k hk e
    have hlt := (kt.segX_lt hn.outer k e).2
    exact hnew k hlt (fun e2 => hn.apart k e2 e) hk
  · refine ((Below.refl B w).alloc hB _).trans (below_of_gr h3 (by simp; omega) (fun k hk => (ownA_lt hn.cur k hk).1))
/-- the row at hand laid behind the outer one -/
theorem nest_push {w : World} {B : Nat} {vn vl : Value} {ns : List (List Av)} {cur : List Av} {vals : List Value} (h : Nest w B vn vl ns cur vals) (hl : vals.length ≤ 1100000) (hB : B ≤ w.heap.size) :
    ∃ vn' w1, (Builtin.append_ #[71, 71] 71 #[vn, .slice (some ⟨w.heap.size, 0, none⟩) 1 1]).run Tryz.prog (w.alloc (.cells #[vl] 92)) = .ok vn' w1 ∧ Nest w1 B vn' (.slice none 0 0) (ns ++ [cur]) [] (vals ++ [vl]) ∧ Below B w w1 := by
  have hn := nest_below h (w' := w.alloc (.cells #[vl] 92)) ((Below.refl _ _).alloc (Nat.le_refl _) _)
  obtain ⟨ao, cap, hvl, _⟩ := ownA_form h.cur
  obtain ⟨vn', w1, h1, h2, h3, h4⟩ := kt.segX_append (P := Tryz.prog) (t := 71) (ty := 71) Tryz.underlying71 infoRow rfl (by omega) ⟨w.heap.size, 0, none⟩ 1 1 [vl] rfl (fun j u hj => by
      rw [kt.addr_add, World.cell?_alloc_new]
      simpa using hj) (by intro u hu; simp at hu; subst hu; rw [hvl]; rfl) hn.outer (by unfold maxLen; omega) (by omega) (by simp; omega)
  have hne : ∀ (v : Value), (∀ k, v.ownBlock = some k → vn.ownBlock ≠ some k) → ∀ k, v.ownBlock = some k → k < (w.alloc (.cells #[vl] 92)).heap.size → w1.heap[k]? = (w.alloc (.cells #[vl] 92)).heap[k]? := by
    intro v hv k hk hlt
    exact h3.block k hlt (fun e => hv k hk e.symm)
  have hnew : ∀ k, k < (w.alloc (.cells #[vl] 92)).heap.size → vn.ownBlock ≠ some k → vn'.ownBlock ≠ some k := by
    intro k hlt hk e
    rcases h4 k e with e2 | e2
    · exact hk e2
    · omega
  have hnil : ∀ k, (Value.slice none 0 0).ownBlock ≠ some k := fun k e => by simp [Value.ownBlock] at e
  refine ⟨vn', w1, h1, ⟨?_, by simp [h.len], fun j a b => ?_, ownA_nil _ _, fun k hk => absurd hk (hnil k)⟩, ?_⟩
  · rw [List.length_append]; exact h2
  · by_cases e : j < vals.length
    · rw [List.getElem_append_left e, List.getElem_append_left (by rw [← h.len]; exact e)]
      obtain ⟨i1, i2⟩ := hn.inner j e (by rw [← h.len]; exact e)
      exact ⟨ownA_same i1 fun k hk => hne _ (fun k hk => (i2 k hk).1) k hk (ownA_lt i1 k hk).2, fun k hk => ⟨hnew k (ownA_lt i1 k hk).2 (i2 k hk).1, hnil k⟩⟩
    · have ej : j = vals.length := by simp at a; omega
      subst ej
      rw [List.getElem_append_right (Nat.le_refl _), List.getElem_append_right (by rw [h.len]; exact Nat.le_refl _)]
      simp only [Nat.sub_self, h.len, List.getElem_cons_zero]
      exact ⟨ownA_same hn.cur fun k hk => hne _ hn.apart k hk (ownA_lt hn.cur k hk).2, fun k hk => ⟨hnew k (ownA_lt hn.cur k hk).2 (hn.apart k hk), hnil k⟩⟩
  · refine ((Below.refl B w).alloc hB _).trans (below_of_gr h3 (by simp; omega) (fun k hk => (kt.segX_lt hn.outer k hk).1))
theorem nest_form {w : World} {B : Nat} {vn vl : Value} {ns : List (List Av)} {cur : List Av} {vals : List Value} (h : Nest w B vn vl ns cur vals) : (∃ ao cap, vn = .slice ao ns.length cap ∧ ns.length ≤ cap) ∧ (∃ ao cap, vl = .slice ao cur.length cap ∧ cur.length ≤ cap) := by
  refine ⟨?_, ownA_form h.cur⟩
  have := kt.segX_slice h.outer
  rw [h.len] at this
  exact this
theorem nest_rdns {w : World} {B cap : Nat} {ao : Option Addr} {vl : Value} {ns : List (List Av)} {cur : List Av} {vals : List Value} (h : Nest w B (.slice ao ns.length cap) vl ns cur vals) : Rdns w ao ns := by
  intro i hi
  have hi' : i < vals.length := by rw [h.len]; exact hi
  obtain ⟨g, o, cap', hv, _, _, hc⟩ := kt.segX_cell h.outer (by omega)
  simp only [Value.slice.injEq] at hv
  obtain ⟨rfl, _, _⟩ := hv
  obtain ⟨i1, _⟩ := h.inner i hi' hi
  obtain ⟨ao', cap2, hf, hcap⟩ := ownA_form i1
  rw [hf] at i1
  refine ⟨g, o, ao', cap2, rfl, ?_, hcap, ownA_avas i1⟩
  rw [← hf]
  exact hc i vals[i] (List.getElem?_eq_getElem hi')
end dnw
end Go.Proofs.YtckpiaigoeicfaaGreatDoor
/-! ParseP -/
namespace Go.Proofs.YtckpiaigoeicfaaGreatDoor
namespace dnw
open dnp
set_option linter.unusedVariables false
set_option linter.unusedSimpArgs false
def av (p : Pr) : Av := ⟨⟨p.1.toArray⟩, ⟨p.2.toArray⟩⟩
def grpA (cur : List Av) : List (UInt8 × Pr) → List (List Av)
  | [] => [cur]
  | (c, p) :: r => if c = 43 then grpA (cur ++ [av p]) r else cur :: grpA [av p] r
/-- the pairs of a text, the program's way -/
def P (l : List UInt8) : Option (Pr × List (UInt8 × Pr)) := PF (l.length + 1) l
theorem P_R (l : List UInt8) : P l = R l := P_eq_R _ l (Nat.lt_succ_self _)
theorem P_step (l : List UInt8) : P l = (kindP l).bind fun k => (valueP k.2).bind fun v => match v.2 with
    | [] => some ((k.1, v.1), [])
    | c :: r => (P r).map fun p => ((k.1, v.1), (c, p.1) :: p.2) := by
  unfold P
  rw [PF]
  cases hk : kindP l with
  | none => rfl
  | some k =>
    simp only [Option.bind_some]
    cases hv : valueP k.2 with
    | none => rfl
    | some v =>
      simp only [Option.bind_some]
      cases hr : v.2 with
      | nil => rfl
      | cons c r =>
        simp only []
        -- the rest is shorter
        have hlen : r.length < l.length := by
          obtain ⟨t, rr⟩ := k
          obtain ⟨x, T, y, rfl, _, _, _, _⟩ := kindP_some hk
          have h1 : (c :: r).length ≤ rr.length := by
            unfold valueP at hv
            split at hv
            · cases hv
            · obtain ⟨q, hq, hq2⟩ := Option.map_eq_some_iff.1 hv
              rw [← hq2] at hr
              simp only at hr
              obtain ⟨a, ha, _⟩ := dropW_split (fun c : UInt8 => decide (c = 32)) rr
              have h2 : (rr.dropWhile fun c => decide (c = 32)).length ≤ rr.length := by
                have := congrArg List.length ha
                rw [List.length_append] at this
                omega
              rcases scan_signs _ (rr.dropWhile fun c => decide (c = 32)) (Nat.le_refl _) with ⟨e1, _⟩ | ⟨B, e1, _⟩ | ⟨B, c', r', e1, _, e3, _⟩
              · rw [e1] at hq; cases hq
              · rw [e1] at hq; cases hq; cases hr
              · rw [e1] at hq
                cases hq
                cases hr
                simp only [List.length_cons]
                omega
          simp only [List.length_append, List.length_cons] at h1 ⊢
          omega
        rw [P_eq_R _ r (by omega), P_eq_R _ r (by omega)]
/-- the name of a text, behind what is there already -/
def GP (ns : List (List Av)) (cur : List Av) (l : List UInt8) : Option (List (List Av)) := (P l).map fun q => ns ++ grpA (cur ++ [av q.1]) q.2
theorem GP_kind {ns : List (List Av)} {cur : List Av} {l : List UInt8} (h : kindP l = none) : GP ns cur l = none := by
  unfold GP; rw [P_step, h]; rfl
theorem GP_value {ns : List (List Av)} {cur : List Av} {l t r : List UInt8} (h : kindP l = some (t, r)) (h2 : valueP r = none) : GP ns cur l = none := by
  unfold GP; rw [P_step, h]; simp only [Option.bind_some]; rw [h2]; rfl
theorem GP_end {ns : List (List Av)} {cur : List Av} {l t r v : List UInt8} (h : kindP l = some (t, r)) (h2 : valueP r = some (v, [])) : GP ns cur l = some (ns ++ [cur ++ [av (t, v)]]) := by
  unfold GP; rw [P_step, h]; simp only [Option.bind_some]; rw [h2]; rfl
theorem GP_plus {ns : List (List Av)} {cur : List Av} {l t r v u : List UInt8} (h : kindP l = some (t, r)) (h2 : valueP r = some (v, 43 :: u)) : GP ns cur l = GP ns (cur ++ [av (t, v)]) u := by
  unfold GP; rw [P_step, h]; simp only [Option.bind_some]; rw [h2]
  simp only [Option.bind_some, Option.map_map]
  congr 1
theorem GP_next {ns : List (List Av)} {cur : List Av} {l t r v u : List UInt8} {c : UInt8} (h : kindP l = some (t, r)) (h2 : valueP r = some (v, c :: u)) (hc : c ≠ 43) : GP ns cur l = GP (ns ++ [cur ++ [av (t, v)]]) [] u := by
  unfold GP; rw [P_step, h]; simp only [Option.bind_some]; rw [h2]
  simp only [Option.bind_some, Option.map_map]
  congr 1
  funext q
  simp only [Function.comp]
  rw [grpA, if_neg hc]
  first | done | simp
theorem scan_len : ∀ (n : Nat) (l : List UInt8) (B : List Sg) (r : List UInt8), l.length ≤ n → scan l = some (B, r) → B.length ≤ l.length
  | n, [], B, r, _, h => by rw [scan_nil] at h; cases h; exact Nat.le_refl _
  | 0, _ :: _, _, _, h, _ => by simp at h
  | n + 1, c :: t, B, r, hn, h => by
    simp only [List.length_cons] at hn
    by_cases hs : isSep c = true
    · rw [scan_sep c t hs] at h; cases h; exact Nat.zero_le _
    · have hs' : isSep c = false := by simpa using hs
      by_cases hb : bad c = true
      · rw [scan_bad c t hs' hb] at h; cases h
      · have hb' : bad c = false := by simpa using hb
        by_cases h92 : c = 92
        · subst h92
          cases he : esc t with
          | none => rw [scan_none t he] at h; cases h
          | some p =>
            obtain ⟨d, k⟩ := p
            rw [scan_esc t d k he] at h
            obtain ⟨q, hq, hq2⟩ := Option.map_eq_some_iff.1 h
            cases hq2
            have := scan_len n (t.drop k) q.1 q.2 (by rw [List.length_drop]; omega) hq
            rw [List.length_drop] at this
            simp only [List.length_cons]
            omega
        · rw [scan_bare c t hs' hb' h92] at h
          obtain ⟨q, hq, hq2⟩ := Option.map_eq_some_iff.1 h
          cases hq2
          have := scan_len n t q.1 q.2 (by omega) hq
          simp only [List.length_cons]
          omega
theorem value_len {r v u : List UInt8} (h : valueP r = some (v, u)) : v.length ≤ r.length := by
  unfold valueP at h
  split at h
  · cases h
  · obtain ⟨q, hq, hq2⟩ := Option.map_eq_some_iff.1 h
    cases hq2
    have h1 := scan_len _ _ q.1 q.2 (Nat.le_refl _) hq
    have h2 := trimR_len q.1
    obtain ⟨a, ha, _⟩ := dropW_split (fun c : UInt8 => decide (c = 32)) r
    have h3 := congrArg List.length ha
    rw [List.length_append] at h3
    rw [List.length_map]
    omega
theorem kind_len {l t r : List UInt8} (h : kindP l = some (t, r)) : t.length ≤ 32 := by
  obtain ⟨x, T, y, _, _, _, hT, rfl⟩ := kindP_some h
  unfold typeOK at hT
  simp only [Bool.and_eq_true, decide_eq_true_eq] at hT
  exact hT.1.2
theorem av_small {t v : List UInt8} (ht : t.length ≤ 32) (hv : v.length ≤ 10000) : (av (t, v)).t.size ≤ 100000 ∧ (av (t, v)).v.size ≤ 1100000 := by
  unfold av
  refine ⟨?_, ?_⟩
  · rw [← kt.size_len]; show t.length ≤ _; omega
  · rw [← kt.size_len]; show v.length ≤ _; omega
/-- the name of a text; none: it is none's -/
def parseR (l : List UInt8) : Option (List (List Av)) :=
  if l.dropWhile (· = 32) = [] then some [] else match GP [] [] (l.dropWhile (· = 32)) with
    | none => none
    | some n => if nameOK n = true then some n else none
end dnw
end Go.Proofs.YtckpiaigoeicfaaGreatDoor
/-! ParseW -/
namespace Go.Proofs.YtckpiaigoeicfaaGreatDoor
open Go.RowKit
namespace dnw
open dnp
set_option linter.unusedVariables false
set_option linter.unusedSimpArgs false
/-- what Parse leaves -/
def ParseE (s : ByteArray) (w : World) (e : Ending) (w' : World) : Prop :=
  Below w.heap.size w w' ∧ if 1000 < s.size then e = .returned (.tuple #[.slice none 0 0, .int .i64 5]) else match parseR s.data.toList with
    | none => e = .returned (.tuple #[.slice none 0 0, .int .i64 4])
    | some n => ∃ ao cap, e = .returned (.tuple #[.slice ao n.length cap, .int .i64 0]) ∧ n.length ≤ cap ∧ Rdns w' ao n ∧ ∀ l ∈ n, Smalls l
/-- what the loop carries -/
structure PRel (w wr : World) (s : ByteArray) (j0 j : Nat) (vn vl : Value) (ns : List (List Av)) (cur : List Av) (vals : List Value) : Prop where
  nest : Nest wr (w.heap.size + 1) vn vl ns cur vals
  sc : Sc wr w.heap.size s j
  below : Below w.heap.size w wr
  gp : GP [] [] (s.data.toList.drop j0) = GP ns cur (s.data.toList.drop j)
  len : ns.length + cur.length ≤ j
  small : (∀ l ∈ ns, Smalls l) ∧ Smalls cur
theorem below_gr {w wr w2 : World} (h : Below w.heap.size w wr) (hg : wr.grownBy w2 (some w.heap.size)) : Below w.heap.size w w2 :=
  ⟨hg.os.trans h.os, hg.tape.trans h.tape, hg.output.trans h.output, Nat.le_trans h.size hg.size, fun k hk => (hg.block k (Nat.lt_of_lt_of_le hk h.size) (by intro e; cases e; omega)).trans (h.block k hk)⟩
theorem prel_gr {w wr w2 : World} {s : ByteArray} {j0 j : Nat} {vn vl : Value} {ns : List (List Av)} {cur : List Av} {vals : List Value} (h : PRel w wr s j0 j vn vl ns cur vals) (hg : wr.grownBy w2 (some w.heap.size)) : Nest w2 (w.heap.size + 1) vn vl ns cur vals ∧ Below w.heap.size w w2 :=
  ⟨nest_gr h.nest (by omega) hg, below_gr h.below hg⟩
theorem tabs_gr {w wr w2 : World} (hT : Tabs w) (hb : Below w.heap.size w wr) (hg : wr.grownBy w2 (some w.heap.size)) : Tabs w2 := tabs_below hT (below_gr hb hg)
/-- the rows' values, their lengths behind letters -/
theorem nest_letters {w : World} {B : Nat} {vn vl : Value} {ns : List (List Av)} {cur : List Av} {vals : List Value} (h : Nest w B vn vl ns cur vals) : (∃ (ao : Option Addr) (m cap : Nat), vn = .slice ao m cap ∧ Hid (m = ns.length) ∧ m ≤ cap) ∧ (∃ (ao : Option Addr) (m cap : Nat), vl = .slice ao m cap ∧ Hid (m = cur.length) ∧ m ≤ cap) := by
  obtain ⟨⟨a, c, h1, h2⟩, ⟨a', c', h3, h4⟩⟩ := nest_form h
  exact ⟨⟨a, _, c, h1, rfl, h2⟩, ⟨a', _, c', h3, rfl, h4⟩⟩
/-- the scanner steps past a sign -/
theorem prel_move {w w4 : World} {s : ByteArray} {j0 j2 : Nat} {vn vl : Value} {ns : List (List Av)} {cur : List Av} {vals : List Value} (hN : Nest w4 (w.heap.size + 1) vn vl ns cur vals) (hS : Sc w4 w.heap.size s j2) (hB : Below w.heap.size w w4)
    (hg : GP [] [] (s.data.toList.drop j0) = GP ns cur (s.data.toList.drop (j2 + 1))) (hl : ns.length + cur.length ≤ j2 + 1) (hs : (∀ l ∈ ns, Smalls l) ∧ Smalls cur) :
    PRel w (w4.setCell ⟨w.heap.size, 1, none⟩ (.int .i64 ((j2 : Int) + 1))) s j0 (j2 + 1) vn vl ns cur vals := by
  have hgr : w4.grownBy (w4.setCell ⟨w.heap.size, 1, none⟩ (.int .i64 ((j2 : Int) + 1))) (some w.heap.size) := gr_set0 (gr_refl _ _) _
  exact ⟨nest_gr hN (by omega) hgr, sc_inc0 hS, below_gr hB hgr, hg, hl, hs⟩
set_option maxRecDepth 100000 in
set_option maxHeartbeats 4000000 in
theorem parse_any (s : ByteArray) (w : World) (hs : s.size ≤ 140737488351232) (hE : Hid (prw.Env w)) (hT : Hid (Tabs w)) :
    Calls Tryz.prog 69 #[.string s] w fun e w' => ParseE s w e w' := by
  by_cases h1000 : 1000 < s.size
  · have h' : 1000 < (s.size : Int) := by omega
    have H1 := Lib.hid h1000
    go_enter Tryz.func69, Tryz.ntmps69
    go_wp2_with fail
    go_ret2
    refine ⟨Below.refl _ _, ?_⟩
    rw [if_pos H1.out]
    rfl
  · have h' : ¬ 1000 < (s.size : Int) := by omega
    have H1 := Lib.hid h1000
    have hs1 : s.size ≤ 1000 := by omega
    have HW1 : Hid (Sc (w.alloc (.cells #[.string s, .int .i64 0] 120)) w.heap.size s 0) := heap_alloc_new w _
    have CB := Lib.hid (blanks_any w.heap.size s 0 _ HW1 (Nat.zero_le _) (by omega))
    have HB1 : Hid (Below w.heap.size w (w.alloc (.cells #[.string s, .int .i64 0] 120))) := (Below.refl _ _).alloc (Nat.le_refl _) _
    go_enter Tryz.func69, Tryz.ntmps69
    go_wp2_with fail
    refine CB.out.mono ?_
    rintro e w1 ⟨rfl, j0, _, hj0, hD0, hS1, hG1⟩
    have HD0 := Lib.hid hD0
    have HS1 := Lib.hid hS1
    have HBw := Lib.hid (below_gr HB1.out hG1)
    obtain ⟨c0, c1, f1, hb1⟩ := sc_cells hS1
    clear hD0 hS1 hG1 CB HB1 HW1
    by_cases hend : j0 = s.size
    · subst hend
      go_wp2_with fail
      go_ret2
      refine ⟨HBw.out, ?_⟩
      rw [if_neg H1.out]
      have e0 : parseR s.data.toList = some [] := by
        unfold parseR
        rw [if_pos]
        have := HD0.out
        rw [drop_end] at this
        exact this.symm
      rw [e0]
      exact ⟨none, 0, rfl, Nat.le_refl _, fun i hi => by simp at hi, fun l hl => by simp at hl⟩
    · have hne : ((j0 : Int) == (s.size : Int)) = false := by rw [beq_eq_false_iff_ne]; omega
      have hj0l : j0 < s.size := by omega
      have HNO : Hid (∀ w', Below w.heap.size w w' → GP [] [] (s.data.toList.drop j0) = none → ParseE s w (.returned (.tuple #[.slice none 0 0, .int .i64 4])) w') := by
        intro w' hb hg
        refine ⟨hb, ?_⟩
        rw [if_neg H1.out]
        have e0 : parseR s.data.toList = none := by
          unfold parseR
          have := HD0.out
          rw [List.drop_zero] at this
          rw [← this, if_neg (prw.drop_ne hj0l), hg]
        rw [e0]
      have HYES : Hid (∀ n, GP [] [] (s.data.toList.drop j0) = some n → parseR s.data.toList = if nameOK n = true then some n else none) := by
        intro n hg
        unfold parseR
        have := HD0.out
        rw [List.drop_zero] at this
        rw [← this, if_neg (prw.drop_ne hj0l), hg]
      clear hend
      have HR0 : Hid (PRel w w1 s j0 j0 (.slice none 0 0) (.slice none 0 0) [] [] []) := ⟨nest_nil _ _, HS1.out, HBw.out, rfl, Nat.zero_le _, fun l hl => by simp at hl, fun x hx => by simp at hx⟩
      go_wp2_with fail
      clear c0 c1 f1 hb1
      go_loopw [5, 6, 7, 8, 9, 10] (fun nv lv _ _ _ _ wr => ∃ (j : Nat) (ns : List (List Av)) (cur : List Av) (vals : List Value), j0 ≤ j ∧ j ≤ s.size ∧ Hid (PRel w wr s j0 j nv lv ns cur vals)) (fun _ _ _ _ _ _ wr => s.size + 1 - posOf wr w.heap.size)
      case atStart => exact ⟨j0, [], [], [], Nat.le_refl _, hj0, HR0⟩
      case round =>
        obtain ⟨j, ns, cur, vals, hj0j, hj, hR⟩ := hrel
        obtain ⟨⟨aoN, mN, capN, rfl, hmN, hcN⟩, ⟨aoL, mL, capL, rfl, hmL, hcL⟩⟩ := nest_letters hR.out.nest
        have HPOS := Lib.hid (posOf_sc hR.out.sc)
        have CK := kind_any w.heap.size s j wr (Lib.hid hR.out.sc) hj (by omega) (Lib.hid (tabs_below hT.out hR.out.below)) (Lib.hid (fun w' hg => tabs_gr hT.out hR.out.below hg))
        cases hk : kindP (s.data.toList.drop j) with
        | none =>
          have HC : Hid (Calls Tryz.prog 97 #[.pointer (some ⟨w.heap.size, 0, none⟩)] wr fun e w' => wr.grownBy w' (some w.heap.size) ∧ ∃ j', e = .returned (.tuple #[.string ⟨#[]⟩, .bool false]) ∧ Sc w' w.heap.size s j') := by
            refine CK.mono fun e w' h => ?_
            unfold KindE at h
            rw [hk] at h
            exact h
          have HG : Hid (GP [] [] (s.data.toList.drop j0) = none) := hR.out.gp.trans (GP_kind hk)
          clear CK hk
          go_wp2_with fail
          refine HC.out.mono ?_
          rintro e w2 ⟨hg2, j', rfl, _⟩
          go_wp2_with fail
          go_ret2
          exact HNO.out _ (below_gr hR.out.below hg2) HG.out
        | some kr =>
          obtain ⟨t, r⟩ := kr
          have HC : Hid (Calls Tryz.prog 97 #[.pointer (some ⟨w.heap.size, 0, none⟩)] wr fun e w' => wr.grownBy w' (some w.heap.size) ∧ ∃ j', e = .returned (.tuple #[.string ⟨t.toArray⟩, .bool true]) ∧ j < j' ∧ j' ≤ s.size ∧ s.data.toList.drop j' = r ∧ Sc w' w.heap.size s j') := by
            refine CK.mono fun e w' h => ?_
            unfold KindE at h
            rw [hk] at h
            exact h
          have HK := Lib.hid hk
          clear CK hk
          go_wp2_with fail
          refine HC.out.mono ?_
          rintro e w2 ⟨hg2, j1, rfl, hjj1, hj1, hdr, hS2⟩
          have HDR := Lib.hid hdr
          have HG2 := Lib.hid hg2
          have CV := value_any w.heap.size s j1 w2 (Lib.hid hS2) hj1 (by omega)
          clear hdr hg2 hS2 HC
          cases hv : valueP (s.data.toList.drop j1) with
          | none =>
            have HC : Hid (Calls Tryz.prog 98 #[.pointer (some ⟨w.heap.size, 0, none⟩)] w2 fun e w' => w2.grownBy w' (some w.heap.size) ∧ ∃ j', e = .returned (.tuple #[.string ⟨#[]⟩, .bool false]) ∧ Sc w' w.heap.size s j') := by
              refine CV.mono fun e w' h => ?_
              unfold ValE at h
              rw [hv] at h
              exact h
            rw [HDR.out] at hv
            have HG : Hid (GP [] [] (s.data.toList.drop j0) = none) := hR.out.gp.trans (GP_value HK.out hv)
            clear CV hv
            go_wp2_with fail
            refine HC.out.mono ?_
            rintro e w3 ⟨hg3, j', rfl, _⟩
            go_wp2_with fail
            go_ret2
            exact HNO.out _ (below_gr hR.out.below (gr_trans HG2.out hg3)) HG.out
          | some vr =>
            obtain ⟨v, u⟩ := vr
            have HC : Hid (Calls Tryz.prog 98 #[.pointer (some ⟨w.heap.size, 0, none⟩)] w2 fun e w' => w2.grownBy w' (some w.heap.size) ∧ ∃ j', e = .returned (.tuple #[.string ⟨v.toArray⟩, .bool true]) ∧ j1 ≤ j' ∧ j' ≤ s.size ∧ s.data.toList.drop j' = u ∧ Sc w' w.heap.size s j') := by
              refine CV.mono fun e w' h => ?_
              unfold ValE at h
              rw [hv] at h
              exact h
            rw [HDR.out] at hv
            have HV := Lib.hid hv
            clear CV hv
            go_wp2_with fail
            refine HC.out.mono ?_
            rintro e w3 ⟨hg3, j2, rfl, hj12, hj2, hdu, hS3⟩
            have HG3 := Lib.hid (gr_trans HG2.out hg3)
            obtain ⟨hn3, hB3⟩ := prel_gr hR.out HG3.out
            have hcl : cur.length ≤ 1000 := by have := hR.out.len; omega
            have hnl : ns.length ≤ 1000 := by have := hR.out.len; omega
            obtain ⟨vl', w4, hap, hN4, hB4⟩ := nest_app (av (t, v)) hn3 (by omega) (by have := kt.bld_lt hS3; omega)
            have hS4 : Sc w4 w.heap.size s j2 := (hB4.block _ (by omega)).trans hS3
            have hB4' : Below w.heap.size w w4 := hB3.trans (hB4.mono (by omega))
            have hsm : Smalls (cur ++ [av (t, v)]) := by
              intro x hx
              rcases List.mem_append.1 hx with hx | hx
              · exact hR.out.small.2 x hx
              · simp only [List.mem_singleton] at hx
                subst hx
                refine av_small (kind_len HK.out) ?_
                have := value_len HV.out
                have h2 := congrArg List.length HDR.out
                rw [List.length_drop, kt.size_len] at h2
                omega
            obtain ⟨_, ⟨aoL4, mL4, capL4, rfl, hmL4, hcL4⟩⟩ := nest_letters hN4
            have HN4 := Lib.hid hN4
            have HS4 := Lib.hid hS4
            have HB4 := Lib.hid hB4'
            have HSM := Lib.hid hsm
            have HDU := Lib.hid hdu
            obtain ⟨d0, d1, g1, hb4⟩ := sc_cells hS4
            have hap' : (Builtin.append_ #[92, 92] 92 #[_, .slice (some ⟨w3.heap.size, 0, none⟩) 1 1]).run Tryz.prog (w3.alloc (.cells #[.string ⟨t.toArray⟩, .string ⟨v.toArray⟩] 96)) = .ok (.slice aoL4 mL4 capL4) w4 := hap
            clear hn3 hB3 hN4 hS4 hB4 hB4' hsm hdu hg3 hS3 HC hap
            obtain ⟨vn', w5, hap2, hN5, hB5⟩ := nest_push HN4.out (by rw [HN4.out.len]; omega) (by have := kt.bld_lt HS4.out; omega)
            have HN5 := Lib.hid hN5
            have HB5 := Lib.hid (HB4.out.trans (hB5.mono (by omega)))
            have HS5 : Hid (Sc w5 w.heap.size s j2) := (hB5.block _ (by omega)).trans HS4.out
            have HSM5 : Hid (∀ l ∈ ns ++ [cur ++ [av (t, v)]], Smalls l) := by
              intro l hl
              rcases List.mem_append.1 hl with hl | hl
              · exact hR.out.small.1 l hl
              · simp only [List.mem_singleton] at hl
                subst hl
                exact HSM.out
            have HLEN : Hid (ns.length + cur.length ≤ j) := hR.out.len
            clear hN5 hB5
            by_cases hend : j2 = s.size
            · have hq : ((j2 : Int) == (s.size : Int)) = true := by rw [beq_iff_eq]; omega
              have HG : Hid (GP [] [] (s.data.toList.drop j0) = some (ns ++ [cur ++ [av (t, v)]])) := by
                have hu : u = [] := by rw [← HDU.out, hend, drop_end]
                have hv := HV.out
                rw [hu] at hv
                exact hR.out.gp.trans (GP_end HK.out hv)
              obtain ⟨⟨ao5, m5, cap5, hvn, hm5, hcap5⟩, _⟩ := nest_letters HN5.out
              subst hvn
              have hn5 := HN5.out
              rw [hm5.out] at hn5 hcap5
              have HRD := Lib.hid (nest_rdns hn5)
              have CR := right_any ao5 cap5 (ns ++ [cur ++ [av (t, v)]]) w5 HRD (Lib.hid (prw.env_below hE.out HB5.out)) (Lib.hid (fun l hl _ => HSM5.out l hl))
              have hy := HYES.out _ HG.out
              have HCAP := Lib.hid hcap5
              rw [← hm5.out] at CR
              generalize hnn : ns ++ [cur ++ [av (t, v)]] = nn at HRD CR hy HCAP HSM5 hm5
              clear hend hcap5 HG HV HN5 hnn hn5
              cases hok : nameOK nn with
              | false =>
                rw [hok] at CR hy
                have HCR := Lib.hid CR
                have HY := Lib.hid hy
                clear CR hy hok
                go_wp2_with (first | (at_builtin; refine Lib.wpList_append_run _ rfl _ _ _ _ rfl _ _ rfl rfl _ _ hap' ?_) | (at_builtin; refine Lib.wpList_append_run _ rfl _ _ _ _ rfl _ _ rfl rfl _ _ hap2 ?_))
                refine HCR.out.mono ?_
                rintro e w6 ⟨rfl, hB6⟩
                go_wp2_with fail
                go_ret2
                refine ⟨HB5.out.trans (hB6.mono HB5.out.size), ?_⟩
                rw [if_neg H1.out, HY.out]
                rfl
              | true =>
                rw [hok] at CR hy
                have HCR := Lib.hid CR
                have HY := Lib.hid hy
                clear CR hy hok
                go_wp2_with (first | (at_builtin; refine Lib.wpList_append_run _ rfl _ _ _ _ rfl _ _ rfl rfl _ _ hap' ?_) | (at_builtin; refine Lib.wpList_append_run _ rfl _ _ _ _ rfl _ _ rfl rfl _ _ hap2 ?_))
                refine HCR.out.mono ?_
                rintro e w6 ⟨rfl, hB6⟩
                go_wp2_with fail
                go_ret2
                refine ⟨HB5.out.trans (hB6.mono HB5.out.size), ?_⟩
                rw [if_neg H1.out, HY.out]
                exact ⟨ao5, cap5, by rw [← hm5.out]; rfl, HCAP.out, rdns_below HRD.out hB6, HSM5.out⟩
            · have hlt : j2 < s.size := by omega
              have hlt' : (j2 : Int) < (s.size : Int) := by omega
              have hq : ((j2 : Int) == (s.size : Int)) = false := by rw [beq_eq_false_iff_ne]; omega
              have hu : u = s[j2] :: s.data.toList.drop (j2 + 1) := by rw [← HDU.out, drop_cons s j2 hlt]
              have hv := HV.out
              rw [hu] at hv
              by_cases h43 : ((s[j2]'hlt).toNat : Int) = 43
              · have q43a : (((s[j2]'hlt).toNat : Int) == 43) = true := by rw [beq_iff_eq]; exact h43
                have q43b : (((s[j2]'hlt).toNat : Int) != 43) = false := by rw [bne_eq_false_iff_eq]; exact h43
                have h43' : s[j2] = 43 := u8_eq (n := 43) (by omega) h43
                rw [h43'] at hv
                have hg := hR.out.gp.trans (GP_plus HK.out hv)
                have HPR := Lib.hid (prel_move HN4.out HS4.out HB4.out hg (by have := HLEN.out; simp; omega) ⟨hR.out.small.1, HSM.out⟩)
                have HPOS2 := Lib.hid (posOf_sc HPR.out.sc)
                clear hend hu hv h43 h43' hg hap2 HV HN5 HB5 HS5 HSM5
                go_wp2_with (first | (at_builtin; refine Lib.wpList_append_run _ rfl _ _ _ _ rfl _ _ rfl rfl _ _ hap' ?_))
                go_roundw
                case rel => exact ⟨j2 + 1, ns, _, vals, by omega, by omega, HPR⟩
                case measure => rw [HPOS.out, HPOS2.out]; omega
              · have q43a : (((s[j2]'hlt).toNat : Int) == 43) = false := by rw [beq_eq_false_iff_ne]; exact h43
                have q43b : (((s[j2]'hlt).toNat : Int) != 43) = true := by rw [bne_iff_ne]; exact h43
                have hg := hR.out.gp.trans (GP_next HK.out hv (u8_ne (n := 43) (by omega) h43))
                have HPR := Lib.hid (prel_move HN5.out HS5.out HB5.out hg (by have := HLEN.out; simp; omega) ⟨HSM5.out, fun x hx => by simp at hx⟩)
                have HPOS2 := Lib.hid (posOf_sc HPR.out.sc)
                obtain ⟨e0, e1, k1, hb5⟩ := sc_cells HS5.out
                obtain ⟨⟨ao5, m5, cap5, hvn, hm5, hcap5⟩, _⟩ := nest_letters HN5.out
                subst hvn
                clear hend hu hv h43 hg HV
                go_wp2_with (first | (at_builtin; refine Lib.wpList_append_run _ rfl _ _ _ _ rfl _ _ rfl rfl _ _ hap' ?_) | (at_builtin; refine Lib.wpList_append_run _ rfl _ _ _ _ rfl _ _ rfl rfl _ _ hap2 ?_))
                go_roundw
                case rel => exact ⟨j2 + 1, _, [], _, by omega, by omega, HPR⟩
                case measure => rw [HPOS.out, HPOS2.out]; omega
end dnw
end Go.Proofs.YtckpiaigoeicfaaGreatDoor
/-! RefP -/
namespace Go.Proofs.YtckpiaigoeicfaaGreatDoor
namespace dnw
open dnp
set_option linter.unusedVariables false
set_option linter.unusedSimpArgs false
/-- the name of signs, behind what is there already -/
def GR (ns : List (List Av)) (cur : List Av) (L : List Sg) : Option (List (List Av)) := (refL (segs L)).map fun q => ns ++ grpA (cur ++ [av q.1]) q.2
theorem GR_bad_end {ns : List (List Av)} {cur : List Av} {B : List Sg} (h : ∀ x ∈ B, sepS x = false) (hp : pairS B = none) : GR ns cur B = none := by
  unfold GR; rw [segs_none B h]; unfold refL; simp only []; rw [hp]; rfl
theorem GR_bad {ns : List (List Av)} {cur : List Av} {B L : List Sg} {c : UInt8} (h : ∀ x ∈ B, sepS x = false) (hc : isSep c = true) (hp : pairS B = none) : GR ns cur (B ++ (c, true) :: L) = none := by
  unfold GR; rw [segs_at B c L h hc]; unfold refL; simp only []; rw [hp]; rfl
theorem GR_end {ns : List (List Av)} {cur : List Av} {B : List Sg} {p : Pr} (h : ∀ x ∈ B, sepS x = false) (hp : pairS B = some p) : GR ns cur B = some (ns ++ [cur ++ [av p]]) := by
  unfold GR; rw [segs_none B h]; unfold refL; simp only []; rw [hp]; rfl
theorem GR_plus {ns : List (List Av)} {cur : List Av} {B L : List Sg} {p : Pr} (h : ∀ x ∈ B, sepS x = false) (hp : pairS B = some p) : GR ns cur (B ++ (43, true) :: L) = GR ns (cur ++ [av p]) L := by
  unfold GR
  rw [segs_at B 43 L h (by decide), refL_cons, hp]
  simp only [Option.bind_some, Option.map_map]
  congr 1
theorem GR_next {ns : List (List Av)} {cur : List Av} {B L : List Sg} {p : Pr} {c : UInt8} (h : ∀ x ∈ B, sepS x = false) (hs : isSep c = true) (hc : c ≠ 43) (hp : pairS B = some p) : GR ns cur (B ++ (c, true) :: L) = GR (ns ++ [cur ++ [av p]]) [] L := by
  unfold GR
  rw [segs_at B c L h hs, refL_cons, hp]
  simp only [Option.bind_some, Option.map_map]
  congr 1
  funext q
  simp only [Function.comp]
  rw [grpA, if_neg hc]
  first | done | simp
theorem dropW_idem (l : List UInt8) : (l.dropWhile (· = 32)).dropWhile (· = 32) = l.dropWhile (· = 32) := by
  rw [dropW_id]
  intro x t h
  exact dropW_head (fun c : UInt8 => decide (c = 32)) _ _ _ h
theorem kindP_drop (l : List UInt8) : kindP (l.dropWhile (· = 32)) = kindP l := by
  unfold kindP
  simp only [dropW_idem]
theorem P_drop (l : List UInt8) : P (l.dropWhile (· = 32)) = P l := by rw [P_step, P_step, kindP_drop]
theorem trim_blank {L : List Sg} (h : trim L = []) : ∀ x ∈ L, blankS x = true := by
  intro x hx
  cases hb : blankS x with
  | true => rfl
  | false => have := trim_keep L x hx hb; rw [h] at this; simp at this
theorem trim_of_blank {L : List Sg} (h : ∀ x ∈ L, blankS x = true) : trim L = [] := by
  cases hL : trim L with
  | nil => rfl
  | cons x t =>
    exfalso
    have h0 : L.dropWhile blankS = [] := by
      have := dropW_app blankS L [] h
      rw [List.append_nil] at this
      rw [this]; rfl
    unfold trim at hL
    rw [h0] at hL
    cases hL
/-- the reference's way to the same answer -/
theorem parseR_signs (l : List UInt8) : parseR l = match signs l with
    | none => none
    | some L => if trim L = [] then some [] else match GR [] [] L with
      | none => none
      | some n => if nameOK n = true then some n else none := by
  unfold parseR
  obtain ⟨a, ha, hab⟩ := dropW_split (fun c : UInt8 => decide (c = 32)) l
  have hab' : ∀ c ∈ a, c = 32 := fun c hc => by simpa using hab c hc
  by_cases h0 : l.dropWhile (· = 32) = []
  · rw [if_pos h0]
    rw [h0, List.append_nil] at ha
    have hs : signs l = some (l.map (·, true)) := by
      have := signs_app l [] (fun h => by rw [ha] at h; have := hab' 92 h; revert this; decide)
      rw [List.append_nil, signs_nil] at this
      simpa using this
    rw [hs]
    have : trim (l.map fun c => ((c, true) : Sg)) = [] := trim_of_blank (by
      intro x hx
      obtain ⟨c, hc, rfl⟩ := List.mem_map.1 hx
      rw [ha] at hc
      rw [hab' c hc]; decide)
    simp only [this, if_true]
  · rw [if_neg h0]
    have hg : GP [] [] (l.dropWhile (· = 32)) = (signs l).bind fun L => GR [] [] L := by
      unfold GP GR
      rw [P_drop, P_R]
      unfold R
      cases signs l with
      | none => rfl
      | some L => rfl
    rw [hg]
    cases hs : signs l with
    | none => rfl
    | some L =>
      have ht : ¬ trim L = [] := by
        intro ht
        apply h0
        have hb := trim_blank ht
        have hL : L = (L.map (·.1)).map (·, true) := by
          rw [List.map_map]
          conv => lhs; rw [← List.map_id L]
          apply List.map_congr_left
          intro x hx
          have := hb x hx
          obtain ⟨c, b⟩ := x
          unfold blankS at this
          simp only [Bool.and_eq_true] at this
          obtain ⟨rfl, _⟩ := this
          rfl
        rw [hL] at hs
        rw [← List.append_nil (List.map _ _)] at hs
        obtain ⟨r, h1, _, h3⟩ := signs_of_bares _ _ _ hs
        have hr : r = [] := by
          cases r with
          | nil => rfl
          | cons c r =>
            exfalso
            by_cases e : c = 92
            · subst e
              cases he : esc r with
              | none => rw [signs_bad r he] at h3; cases h3
              | some p => rw [signs_esc r p.1 p.2 he] at h3; obtain ⟨M, _, hM⟩ := Option.map_eq_some_iff.1 h3; cases hM
            · rw [signs_bare c r e] at h3; obtain ⟨M, _, hM⟩ := Option.map_eq_some_iff.1 h3; cases hM
        rw [h1, hr, List.append_nil]
        have := dropW_app (fun c : UInt8 => decide (c = 32)) (L.map (·.1)) [] (by
          intro c hc
          obtain ⟨x, hx, rfl⟩ := List.mem_map.1 hc
          have := hb x hx
          unfold blankS at this
          simp only [Bool.and_eq_true] at this
          exact this.2)
        rw [List.append_nil] at this
        rw [this]; rfl
      simp only [Option.bind_some]
      rw [if_neg ht]
      all_goals (cases GR [] [] L <;> rfl)
end dnw
end Go.Proofs.YtckpiaigoeicfaaGreatDoor
/-! PrintP -/
namespace Go.Proofs.YtckpiaigoeicfaaGreatDoor
namespace dnw
open dnp
set_option linter.unusedVariables false
set_option linter.unusedSimpArgs false
def hexed (c : UInt8) : Bool := decide (c < 32 ∨ c = 127)
def fenced (first last : Bool) (c : UInt8) : Bool := special c || (decide (c = 32) && (first || last)) || (decide (c = 35) && first)
/-- a byte of a value, as its text has it -/
def textB (first last : Bool) (c : UInt8) : List UInt8 := if hexed c = true then 92 :: b64p.hex [c] else if fenced first last c = true then [92, c] else [c]
def textF : Bool → List UInt8 → List UInt8
  | _, [] => []
  | f, c :: t => textB f t.isEmpty c ++ textF false t
def textL (v : List UInt8) : List UInt8 := textF true v
def sgB (first last : Bool) (c : UInt8) : Sg := (c, !(hexed c || fenced first last c))
def sgF : Bool → List UInt8 → List Sg
  | _, [] => []
  | f, c :: t => sgB f t.isEmpty c :: sgF false t
theorem textB_len (f l : Bool) (c : UInt8) : (textB f l c).length ≤ 3 := by
  unfold textB
  split
  · simp [b64p.hex]
  · split <;> simp
theorem textF_len : ∀ (f : Bool) (v : List UInt8), (textF f v).length ≤ 3 * v.length
  | _, [] => by simp [textF]
  | f, c :: t => by
    have := textB_len f t.isEmpty c
    have := textF_len false t
    simp only [textF, List.length_append, List.length_cons]
    omega
theorem esc_hexed (c : UInt8) (r : List UInt8) : esc (b64p.hex [c] ++ r) = some (c, 2) := by
  have all : ∀ m : Fin 256, (special (b64p.dg (m.val / 16)) || decide (b64p.dg (m.val / 16) = 35) || decide (b64p.dg (m.val / 16) = 32)) = false ∧ (0 ≤ b64p.valI (b64p.dg (m.val / 16)) ∧ 0 ≤ b64p.valI (b64p.dg (m.val % 16))) ∧ UInt8.ofNat (16 * b64p.valI (b64p.dg (m.val / 16)) + b64p.valI (b64p.dg (m.val % 16))).toNat = UInt8.ofNat m.val := by decide +kernel
  obtain ⟨h1, ⟨h2, h3⟩, h4⟩ := all ⟨c.toNat, c.toNat_lt⟩
  simp only [UInt8.ofNat_toNat] at h1 h2 h3 h4
  have hp : ¬ plainEsc (b64p.dg (c.toNat / 16)) := by
    rintro (h | h | h)
    · rw [h] at h1; cases h1
    · rw [h] at h1; revert h1; decide
    · rw [h] at h1; revert h1; decide
  have := esc_hex (t := r) hp (e := b64p.dg (c.toNat % 16)) (by omega)
  rw [h4] at this
  exact this
theorem fenced_plain {f l : Bool} {c : UInt8} (h : fenced f l c = true) : plainEsc c := by
  unfold fenced at h
  simp only [Bool.or_eq_true, Bool.and_eq_true, decide_eq_true_eq] at h
  rcases h with (h | h) | h
  · exact Or.inl h
  · exact Or.inr (Or.inr h.1)
  · exact Or.inr (Or.inl h.1)
theorem scan_textB (f l : Bool) (c : UInt8) (r : List UInt8) : scan (textB f l c ++ r) = (scan r).map fun p => (sgB f l c :: p.1, p.2) := by
  unfold textB sgB
  by_cases h1 : hexed c = true
  · rw [if_pos h1, h1, List.cons_append, scan_esc _ c 2 (esc_hexed c r)]
    rfl
  · rw [if_neg h1]
    have h1' : hexed c = false := by simpa using h1
    rw [h1']
    by_cases h2 : fenced f l c = true
    · rw [if_pos h2, h2]
      show scan (92 :: (c :: r)) = _
      rw [scan_esc _ c 1 (esc_plain (fenced_plain h2))]
      rfl
    · rw [if_neg h2]
      have h2' : fenced f l c = false := by simpa using h2
      rw [h2']
      have hs : special c = false := by
        unfold fenced at h2'
        simp only [Bool.or_eq_false_iff] at h2'
        exact h2'.1.1
      have h3 : isSep c = false ∧ bad c = false ∧ c ≠ 92 := by
        unfold special at hs
        simp only [decide_eq_false_iff_not, not_or] at hs
        refine ⟨?_, ?_, hs.2.2.2.2.2.2.2⟩
        · simp only [isSep, decide_eq_false_iff_not, not_or]; exact ⟨hs.2.2.1, hs.2.2.2.1, hs.2.1⟩
        · simp only [bad, decide_eq_false_iff_not, not_or]; exact ⟨hs.1, hs.2.2.2.2.1, hs.2.2.2.2.2.2.1⟩
      show scan (c :: r) = _
      rw [scan_bare c r h3.1 h3.2.1 h3.2.2]
      rfl
theorem scan_textF : ∀ (f : Bool) (v r : List UInt8), scan (textF f v ++ r) = (scan r).map fun p => (sgF f v ++ p.1, p.2)
  | _, [], r => by simp [textF, sgF]
  | f, c :: t, r => by
    rw [textF, List.append_assoc, scan_textB, scan_textF false t r, Option.map_map]
    rfl
theorem sgF_fst : ∀ (f : Bool) (v : List UInt8), (sgF f v).map (·.1) = v
  | _, [] => rfl
  | f, c :: t => by rw [sgF, List.map_cons, sgF_fst false t]; rfl
theorem sgF_last : ∀ (f : Bool) (c : UInt8) (t : List UInt8), ∃ A x, sgF f (c :: t) = A ++ [x] ∧ blankS x = false
  | f, c, [] => by
    refine ⟨[], sgB f true c, rfl, ?_⟩
    unfold blankS sgB fenced
    by_cases h : c = 32
    · subst h; simp
    · simp [h]
  | f, c, d :: t => by
    obtain ⟨A, x, h1, h2⟩ := sgF_last false d t
    refine ⟨sgB f false c :: A, x, ?_, h2⟩
    rw [sgF, h1]; rfl
theorem trimR_keepall (A u : List Sg) (x : Sg) (hx : blankS x = false) (hu : ∀ y ∈ u, blankS y = true) : trimR (A ++ [x] ++ u) = A ++ [x] := by
  unfold trimR
  rw [List.reverse_append, dropW_app _ u.reverse _ (fun y hy => hu y (List.mem_reverse.1 hy)), dropW_id, List.reverse_reverse]
  intro y t h
  rw [List.reverse_append] at h
  cases h
  exact hx
theorem trimR_all (u : List Sg) (hu : ∀ y ∈ u, blankS y = true) : trimR u = [] := by
  unfold trimR
  have := dropW_app blankS u.reverse [] (fun y hy => hu y (List.mem_reverse.1 hy))
  rw [List.append_nil] at this
  rw [this]; rfl
theorem scan_blanks : ∀ (u r : List UInt8), (∀ c ∈ u, c = 32) → scan (u ++ r) = (scan r).map fun p => (u.map (·, true) ++ p.1, p.2)
  | [], r, _ => by simp
  | c :: u, r, h => by
    have hc := h c (by simp)
    subst hc
    rw [List.cons_append, scan_bare 32 _ (by decide) (by decide) (by decide), scan_blanks u r (fun d hd => h d (by simp [hd])), Option.map_map]
    rfl
theorem textF_head (c : UInt8) (t : List UInt8) : ∃ d s, textF true (c :: t) = d :: s ∧ d ≠ 32 ∧ d ≠ 35 := by
  rw [textF]
  unfold textB
  by_cases h1 : hexed c = true
  · rw [if_pos h1]; exact ⟨92, _, rfl, by decide, by decide⟩
  · rw [if_neg h1]
    by_cases h2 : fenced true t.isEmpty c = true
    · rw [if_pos h2]; exact ⟨92, _, rfl, by decide, by decide⟩
    · rw [if_neg h2]
      refine ⟨c, _, rfl, ?_, ?_⟩
      · rintro rfl; apply h2; simp [fenced]
      · rintro rfl; apply h2; simp [fenced]
/-- what may stand behind a value -/
def EndSep (r : List UInt8) : Prop := r = [] ∨ ∃ c t, r = c :: t ∧ isSep c = true
theorem endSep_scan {r : List UInt8} (h : EndSep r) : scan r = some ([], r) := by
  rcases h with rfl | ⟨c, t, rfl, h⟩
  · exact scan_nil
  · exact scan_sep c t h
theorem sep_ne {c : UInt8} (h : isSep c = true) : c ≠ 32 ∧ c ≠ 35 := by
  constructor <;> (rintro rfl; revert h; decide)
theorem value_text (z v u r : List UInt8) (hz : ∀ c ∈ z, c = 32) (hu : ∀ c ∈ u, c = 32) (hr : EndSep r) : valueP (z ++ (textL v ++ (u ++ r))) = some (v, r) := by
  have hub : ∀ y ∈ u.map (fun c => ((c, true) : Sg)), blankS y = true := by
    intro y hy
    obtain ⟨c, hc, rfl⟩ := List.mem_map.1 hy
    rw [hu c hc]; decide
  unfold valueP
  rw [dropW_app _ z _ (fun c hc => by simp [hz c hc])]
  cases v with
  | nil =>
    have e : (textL [] ++ (u ++ r)).dropWhile (fun c => decide (c = 32)) = r := by
      show (u ++ r).dropWhile _ = r
      rw [dropW_app _ u _ (fun c hc => by simp [hu c hc]), dropW_id]
      intro x t hx
      rcases hr with rfl | ⟨c, t', rfl, h⟩
      · cases hx
      · cases hx; simpa using (sep_ne h).1
    rw [e, if_neg, endSep_scan hr]
    · rfl
    · rcases hr with rfl | ⟨c, t', rfl, h⟩
      · simp
      · simpa using (sep_ne h).2
  | cons c t =>
    obtain ⟨d, s, hd, h32, h35⟩ := textF_head c t
    have e : (textL (c :: t) ++ (u ++ r)).dropWhile (fun c => decide (c = 32)) = textL (c :: t) ++ (u ++ r) := by
      rw [dropW_id]
      intro x t' hx
      unfold textL at hx
      rw [hd] at hx
      cases hx
      simpa using h32
    rw [e, if_neg]
    · unfold textL
      rw [scan_textF, scan_blanks u r hu, endSep_scan hr]
      simp only [Option.map_some, List.append_nil]
      obtain ⟨A, x, h1, h2⟩ := sgF_last true c t
      have h3 := sgF_fst true (c :: t)
      rw [h1] at h3 ⊢
      rw [trimR_keepall A _ x h2 hub, h3]
    · unfold textL
      rw [hd]
      simpa using h35
/-! ### a whole name -/
theorem av_back (a : Av) : av (a.t.data.toList, a.v.data.toList) = a := by
  unfold av
  cases a with | mk t v => simp
section
variable (U : List UInt8 → List UInt8) (b : List UInt8) (s2 : UInt8)
def pt (a : Av) : List UInt8 := U a.t.data.toList ++ (b ++ 61 :: (b ++ textL a.v.data.toList))
def tailR (r : List Av) : List UInt8 := r.flatMap fun a => b ++ 43 :: (b ++ pt U b a)
def rdnT : List Av → List UInt8
  | [] => []
  | a :: r => pt U b a ++ tailR U b r
def tailN (m : List (List Av)) : List UInt8 := m.flatMap fun l => b ++ s2 :: (b ++ rdnT U b l)
def nameT : List (List Av) → List UInt8
  | [] => []
  | l :: m => rdnT U b l ++ tailN U b s2 m
end
/-- a type as it may be written -/
def TyAs (U : List UInt8 → List UInt8) (a : Av) : Prop := lowL (U a.t.data.toList) = a.t.data.toList ∧ typeOK a.t.data.toList = true
theorem kind_text {U : List UInt8 → List UInt8} {a : Av} (h : TyAs U a) {b pre : List UInt8} (hb : ∀ c ∈ b, c = 32) (hp : ∀ c ∈ pre, c = 32) (r : List UInt8) : kindP (pre ++ (U a.t.data.toList ++ (b ++ 61 :: r))) = some (a.t.data.toList, r) := by
  have := kindP_of pre (U a.t.data.toList) b r hp hb (by rw [h.1]; exact h.2)
  rw [h.1] at this
  rw [← this]
  simp
theorem GP_text {U : List UInt8 → List UInt8} {b : List UInt8} {s2 : UInt8} (hb : ∀ c ∈ b, c = 32) (hs : isSep s2 = true) (h43 : s2 ≠ 43) :
    ∀ (m : List (List Av)) (r : List Av) (ns : List (List Av)) (cur : List Av) (a : Av) (pre : List UInt8), (∀ c ∈ pre, c = 32) → (∀ x ∈ a :: r, TyAs U x) → (∀ l ∈ m, l ≠ [] ∧ ∀ x ∈ l, TyAs U x) →
      GP ns cur (pre ++ (pt U b a ++ (tailR U b r ++ tailN U b s2 m))) = some (ns ++ (cur ++ a :: r) :: m) := by
  intro m
  induction m with
  | nil =>
    intro r
    induction r with
    | nil =>
      intro ns cur a pre hp ha _
      have hk := kind_text (ha a (by simp)) hb hp (b ++ (textL a.v.data.toList ++ ([] ++ [])))
      have hv := value_text b a.v.data.toList [] [] hb (by simp) (Or.inl rfl)
      have e : pre ++ (pt U b a ++ (tailR U b [] ++ tailN U b s2 [])) = pre ++ (U a.t.data.toList ++ (b ++ 61 :: (b ++ (textL a.v.data.toList ++ ([] ++ []))))) := by
        simp [pt, tailR, tailN]
      rw [e, GP_end hk hv, av_back]
    | cons a' r ih =>
      intro ns cur a pre hp ha hm
      have hk := kind_text (ha a (by simp)) hb hp (b ++ (textL a.v.data.toList ++ (b ++ 43 :: (b ++ (pt U b a' ++ (tailR U b r ++ tailN U b s2 []))))))
      have hv := value_text b a.v.data.toList b (43 :: (b ++ (pt U b a' ++ (tailR U b r ++ tailN U b s2 [])))) hb hb (Or.inr ⟨43, _, rfl, by decide⟩)
      have e : pre ++ (pt U b a ++ (tailR U b (a' :: r) ++ tailN U b s2 [])) = pre ++ (U a.t.data.toList ++ (b ++ 61 :: (b ++ (textL a.v.data.toList ++ (b ++ 43 :: (b ++ (pt U b a' ++ (tailR U b r ++ tailN U b s2 [])))))))) := by
        simp [pt, tailR, tailN]
      rw [e, GP_plus hk hv, av_back, ih _ _ a' b hb (fun x hx => ha x (by simp only [List.mem_cons] at hx ⊢; exact Or.inr hx)) hm]
      simp
  | cons l m ihm =>
    intro r
    induction r with
    | nil =>
      intro ns cur a pre hp ha hm
      obtain ⟨hl, hlx⟩ := hm l (by simp)
      obtain ⟨a', r', rfl⟩ := List.exists_cons_of_ne_nil hl
      have hk := kind_text (ha a (by simp)) hb hp (b ++ (textL a.v.data.toList ++ (b ++ s2 :: (b ++ (pt U b a' ++ (tailR U b r' ++ tailN U b s2 m))))))
      have hv := value_text b a.v.data.toList b (s2 :: (b ++ (pt U b a' ++ (tailR U b r' ++ tailN U b s2 m)))) hb hb (Or.inr ⟨s2, _, rfl, hs⟩)
      have e : pre ++ (pt U b a ++ (tailR U b [] ++ tailN U b s2 ((a' :: r') :: m))) = pre ++ (U a.t.data.toList ++ (b ++ 61 :: (b ++ (textL a.v.data.toList ++ (b ++ s2 :: (b ++ (pt U b a' ++ (tailR U b r' ++ tailN U b s2 m)))))))) := by
        simp [pt, tailR, tailN, rdnT]
      rw [e, GP_next hk hv h43, av_back, ihm r' _ [] a' b hb hlx (fun l hl => hm l (by simp [hl]))]
      simp
    | cons a' r ih =>
      intro ns cur a pre hp ha hm
      have hk := kind_text (ha a (by simp)) hb hp (b ++ (textL a.v.data.toList ++ (b ++ 43 :: (b ++ (pt U b a' ++ (tailR U b r ++ tailN U b s2 (l :: m)))))))
      have hv := value_text b a.v.data.toList b (43 :: (b ++ (pt U b a' ++ (tailR U b r ++ tailN U b s2 (l :: m))))) hb hb (Or.inr ⟨43, _, rfl, by decide⟩)
      have e : pre ++ (pt U b a ++ (tailR U b (a' :: r) ++ tailN U b s2 (l :: m))) = pre ++ (U a.t.data.toList ++ (b ++ 61 :: (b ++ (textL a.v.data.toList ++ (b ++ 43 :: (b ++ (pt U b a' ++ (tailR U b r ++ tailN U b s2 (l :: m))))))))) := by
        simp [pt, tailR, tailN]
      rw [e, GP_plus hk hv, av_back, ih _ _ a' b hb (fun x hx => ha x (by simp only [List.mem_cons] at hx ⊢; exact Or.inr hx)) hm]
      simp
/-- WHAT IS WRITTEN IS READ AS IT WAS -/
theorem parse_text {U : List UInt8 → List UInt8} {b : List UInt8} {s2 : UInt8} (hb : ∀ c ∈ b, c = 32) (hs : isSep s2 = true) (h43 : s2 ≠ 43) (n : List (List Av)) (hn : nameOK n = true) (hne : ∀ l ∈ n, l ≠ [] ∧ ∀ x ∈ l, TyAs U x) : parseR (nameT U b s2 n) = some n := by
  cases n with
  | nil => rfl
  | cons l m =>
    obtain ⟨hl, hlx⟩ := hne l (by simp)
    obtain ⟨a, r, rfl⟩ := List.exists_cons_of_ne_nil hl
    have hg := GP_text hb hs h43 m r [] [] a [] (by simp) hlx (fun l hl => hne l (by simp [hl]))
    simp only [List.nil_append] at hg
    have e : nameT U b s2 ((a :: r) :: m) = pt U b a ++ (tailR U b r ++ tailN U b s2 m) := by simp [nameT, rdnT]
    rw [← e] at hg
    unfold parseR
    have hd : GP [] [] ((nameT U b s2 ((a :: r) :: m)).dropWhile fun c => decide (c = 32)) = some ((a :: r) :: m) := by
      rw [← hg]; unfold GP; rw [P_drop]
    rw [if_neg]
    · rw [hd]; simp only [hn, if_true]
    · intro h0
      rw [h0] at hd
      rw [GP_kind (l := []) rfl] at hd
      cases hd
end dnw
end Go.Proofs.YtckpiaigoeicfaaGreatDoor
/-! PrintQ -/
namespace Go.Proofs.YtckpiaigoeicfaaGreatDoor
namespace dnw
open dnp
set_option linter.unusedVariables false
set_option linter.unusedSimpArgs false
theorem rdnOK_facts {l : List Av} (h : rdnOK l = true) : 1 ≤ l.length ∧ l.length ≤ 4 ∧ ∀ i (hi : i < l.length), pairB l i l[i] = true := by
  unfold rdnOK at h
  simp only [Bool.and_eq_true, decide_eq_true_eq] at h
  refine ⟨h.1.1, h.1.2, fun i hi => ?_⟩
  have := List.all_eq_true.1 h.2 i (List.mem_range.2 hi)
  rw [List.getElem?_eq_getElem hi] at this
  exact this
theorem rdnOK_av {l : List Av} (h : rdnOK l = true) : ∀ x ∈ l, typeOK x.t.data.toList = true ∧ valOK x.v.data.toList = true := by
  intro x hx
  obtain ⟨i, hi, rfl⟩ := List.mem_iff_getElem.1 hx
  have := (rdnOK_facts h).2.2 i hi
  unfold pairB at this
  simp only [Bool.and_eq_true] at this
  exact ⟨this.1.2, this.2⟩
theorem nameOK_facts {n : List (List Av)} (h : nameOK n = true) : n.length ≤ 12 ∧ ∀ l ∈ n, rdnOK l = true := by
  unfold nameOK at h
  simp only [Bool.and_eq_true, decide_eq_true_eq] at h
  exact ⟨h.1, fun l hl => List.all_eq_true.1 h.2 l hl⟩
theorem valOK_le {v : List UInt8} (h : valOK v = true) : v.length ≤ 255 := by
  unfold valOK at h
  simp only [Bool.and_eq_true, decide_eq_true_eq] at h
  exact h.1
theorem typeOK_le {t : List UInt8} (h : typeOK t = true) : t.length ≤ 32 := by
  unfold typeOK at h
  simp only [Bool.and_eq_true, decide_eq_true_eq] at h
  exact h.1.2
theorem low_type : ∀ c : UInt8, typeCh c = true → low c = c := by
  have all : ∀ m : Fin 256, (!typeCh (UInt8.ofNat m.val) || decide (low (UInt8.ofNat m.val) = UInt8.ofNat m.val)) = true := by decide +kernel
  intro c h
  have := all ⟨c.toNat, c.toNat_lt⟩
  simp only [UInt8.ofNat_toNat, h, Bool.not_true, Bool.false_or, decide_eq_true_eq] at this
  exact this
theorem lowL_type {t : List UInt8} (h : typeOK t = true) : lowL t = t := by
  unfold typeOK at h
  simp only [Bool.and_eq_true] at h
  unfold lowL
  conv => rhs; rw [← List.map_id t]
  apply List.map_congr_left
  intro c hc
  exact low_type c (List.all_eq_true.1 h.2 c hc)
theorem tyAs_id {a : Av} (h : typeOK a.t.data.toList = true) : TyAs id a := ⟨lowL_type h, h⟩
/-- a pair's text, as it is printed -/
def ptx (a : Av) : List UInt8 := a.t.data.toList ++ 61 :: textL a.v.data.toList
theorem pt_id (a : Av) : pt id [] a = ptx a := rfl
def rdnX (l : List Av) : List UInt8 := Lib.join (l.map ptx) [43]
def nameX (n : List (List Av)) : List UInt8 := Lib.join (n.map rdnX) [44]
theorem rdnX_cons (a : Av) (r : List Av) : rdnX (a :: r) = ptx a ++ r.flatMap fun a => 43 :: ptx a := by
  unfold rdnX
  rw [List.map_cons, Lib.join_cons, Lib.joinTail, List.map_map, List.flatMap_def]
  rfl
theorem nameX_cons (l : List Av) (m : List (List Av)) : nameX (l :: m) = rdnX l ++ m.flatMap fun l => 44 :: rdnX l := by
  unfold nameX
  rw [List.map_cons, Lib.join_cons, Lib.joinTail, List.map_map, List.flatMap_def]
  rfl
theorem rdnT_id (l : List Av) : rdnT id [] l = rdnX l := by
  cases l with
  | nil => rfl
  | cons a r => rw [rdnX_cons]; rfl
theorem nameT_id (n : List (List Av)) : nameT id [] 44 n = nameX n := by
  cases n with
  | nil => rfl
  | cons l m =>
    rw [nameX_cons]
    show rdnT id [] l ++ m.flatMap (fun l => 44 :: rdnT id [] l) = _
    rw [rdnT_id]
    congr 2
    funext l
    rw [rdnT_id]
/-- what Print answers -/
def printR (n : List (List Av)) : List UInt8 × Nat := if nameOK n = true then (if 1000 < (nameX n).length then ([], 5) else (nameX n, 0)) else ([], 4)
theorem parse_print (n : List (List Av)) (h : nameOK n = true) : parseR (nameX n) = some n := by
  rw [← nameT_id]
  refine parse_text (by simp) (by decide) (by decide) n h fun l hl => ?_
  have hr := (nameOK_facts h).2 l hl
  refine ⟨?_, fun x hx => tyAs_id (rdnOK_av hr x hx).1⟩
  rintro rfl
  have := (rdnOK_facts hr).1
  simp at this
theorem ptx_len {a : Av} (h1 : typeOK a.t.data.toList = true) (h2 : valOK a.v.data.toList = true) : (ptx a).length ≤ 798 := by
  have := typeOK_le h1
  have := valOK_le h2
  have := textF_len true a.v.data.toList
  unfold ptx textL
  rw [List.length_append, List.length_cons]
  omega
theorem flat_len_le {α : Type} (f : α → List UInt8) (k : Nat) : ∀ l : List α, (∀ x ∈ l, (f x).length ≤ k) → (l.flatMap f).length ≤ l.length * k
  | [], _ => by simp
  | x :: l, h => by
    have h1 := h x (by simp)
    have h2 := flat_len_le f k l (fun y hy => h y (by simp [hy]))
    rw [List.flatMap_cons, List.length_append, List.length_cons, Nat.add_mul]
    omega
theorem rdnX_len {l : List Av} (h : rdnOK l = true) : (rdnX l).length ≤ 4000 := by
  have hx := rdnOK_av h
  have h4 := (rdnOK_facts h).2.1
  cases l with
  | nil => simp [rdnX, Lib.join, List.intercalate]
  | cons a r =>
    rw [rdnX_cons, List.length_append]
    have h1 := ptx_len (hx a (by simp)).1 (hx a (by simp)).2
    have h2 := flat_len_le (fun a => 43 :: ptx a) 799 r (fun x hx' => by
      have := ptx_len (hx x (by simp [hx'])).1 (hx x (by simp [hx'])).2
      simp only [List.length_cons]; omega)
    simp only [List.length_cons] at h4
    have : r.length * 799 ≤ 3 * 799 := Nat.mul_le_mul_right _ (by omega)
    omega
theorem nameX_len {n : List (List Av)} (h : nameOK n = true) : (nameX n).length ≤ 60000 := by
  obtain ⟨h12, hx⟩ := nameOK_facts h
  cases n with
  | nil => simp [nameX, Lib.join, List.intercalate]
  | cons l m =>
    rw [nameX_cons, List.length_append]
    have h1 := rdnX_len (hx l (by simp))
    have h2 := flat_len_le (fun l => 44 :: rdnX l) 4001 m (fun x hx' => by
      have := rdnX_len (hx x (by simp [hx']))
      simp only [List.length_cons]; omega)
    simp only [List.length_cons] at h12
    have : m.length * 4001 ≤ 12 * 4001 := Nat.mul_le_mul_right _ (by omega)
    omega
end dnw
end Go.Proofs.YtckpiaigoeicfaaGreatDoor
/-! TupP -/
namespace Go.Proofs.YtckpiaigoeicfaaGreatDoor
namespace tup
open Go.Lib

def rep (old new s : List UInt8) : List UInt8 := replaceK old new (count s old) s
theorem replaceAll_rep {old new : List UInt8} (h : (old == new) = false) (s : List UInt8) : replaceAll s old new = rep old new s := by
  unfold replaceAll replace rep replaceNum
  rw [h]
  simp
theorem rep_nil {old new : List UInt8} (h : old ≠ []) : rep old new [] = [] := by
  have h1 : index [] old = -1 := by
    unfold index
    cases old with
    | nil => exact absurd rfl h
    | cons a t => rfl
  unfold rep
  rw [count_miss h1]
  rfl
theorem rep_miss {old new : List UInt8} (ho : old ≠ []) (x : UInt8) (r : List UInt8) (h : old.isPrefixOf (x :: r) = false) : rep old new (x :: r) = x :: rep old new r := by
  have hi : index (x :: r) old = if index r old == -1 then -1 else index r old + 1 := by
    rw [index, h]; rfl
  by_cases hm : index r old = -1
  · rw [hm] at hi
    have hi' : index (x :: r) old = -1 := hi
    unfold rep
    rw [count_miss hi', count_miss hm]
    rfl
  · have hge := index_ge r old
    obtain ⟨i, hi0⟩ : ∃ i : Nat, index r old = i := ⟨(index r old).toNat, by omega⟩
    have hi1 : index (x :: r) old = ((i + 1 : Nat) : Int) := by
      rw [hi, hi0, if_neg (by simp)]; rfl
    unfold rep
    rw [count_hit ho hi0, count_hit ho hi1, Nat.add_comm 1, Nat.add_comm 1, replaceK_hit _ _ _ _ _ hi0, replaceK_hit _ _ _ _ _ hi1]
    have e : i + 1 + old.length = (i + old.length) + 1 := by omega
    rw [e]
    simp
theorem rep_hit {old new : List UInt8} (ho : old ≠ []) (r : List UInt8) : rep old new (old ++ r) = new ++ rep old new r := by
  have hi : index (old ++ r) old = ((0 : Nat) : Int) := index_first (i := 0) (Nat.zero_le _) (by simp [occAt]) (fun _ h => absurd h (Nat.not_lt_zero _))
  unfold rep
  rw [count_hit ho hi, Nat.add_comm 1, replaceK_hit _ _ _ _ _ hi]
  simp

/-- a null byte is followed by 255 -/
def esc : List UInt8 → List UInt8
  | [] => []
  | c :: r => (if c = 0 then [0, 255] else [c]) ++ esc r
theorem replace_esc (s : List UInt8) : replaceAll s [0] [0, 255] = esc s := by
  rw [replaceAll_rep (by decide)]
  induction s with
  | nil => exact rep_nil (by simp)
  | cons c r ih =>
    by_cases hc : c = 0
    · subst hc
      have := rep_hit (old := [0]) (new := [0, 255]) (by simp) r
      rw [List.singleton_append] at this
      rw [this, ih]
      rfl
    · rw [rep_miss (by simp) c r (by
        rw [Bool.eq_false_iff]
        intro e
        simp [List.isPrefixOf] at e
        exact hc e.symm), ih]
      simp [esc, hc]
def unesc : List UInt8 → List UInt8
  | [] => []
  | [c] => [c]
  | c :: d :: r => if c = 0 ∧ d = 255 then 0 :: unesc r else c :: unesc (d :: r)
theorem replace_unesc : ∀ s : List UInt8, rep [0, 255] [0] s = unesc s
  | [] => rep_nil (by simp)
  | [c] => by
    rw [rep_miss (by simp) c [] (by simp [List.isPrefixOf]), rep_nil (by simp)]
    rfl
  | c :: d :: r => by
    by_cases h : c = 0 ∧ d = 255
    · obtain ⟨rfl, rfl⟩ := h
      have := rep_hit (old := [0, 255]) (new := [0]) (by simp) r
      simp only [List.cons_append, List.nil_append] at this
      rw [this, replace_unesc r]
      simp [unesc]
    · rw [rep_miss (by simp) c (d :: r) (by
        rw [Bool.eq_false_iff]
        intro e
        apply h
        simp [List.isPrefixOf] at e
        exact ⟨e.1.symm, e.2.symm⟩), replace_unesc (d :: r)]
      simp [unesc, h]
theorem replaceAll_unesc (s : List UInt8) : replaceAll s [0, 255] [0] = unesc s := by
  rw [replaceAll_rep (by decide), replace_unesc]
theorem esc_length (s : List UInt8) : s.length ≤ (esc s).length ∧ (esc s).length ≤ 2 * s.length := by
  induction s with
  | nil => simp [esc]
  | cons c r ih =>
    simp only [esc, List.length_append, List.length_cons]
    split <;> simp <;> omega
theorem unesc_esc (s : List UInt8) : unesc (esc s) = s := by
  induction s with
  | nil => rfl
  | cons c r ih =>
    by_cases hc : c = 0
    · subst hc
      simp [esc, unesc, ih]
    · simp only [esc, hc, if_false, List.singleton_append]
      cases he : esc r with
      | nil => 
        rw [he] at ih
        simp [unesc] at ih ⊢
        exact ih
      | cons d t =>
        rw [he] at ih
        simp [unesc, hc, ih]

/-- the bytes of a tuple -/
def bytes : List ByteArray → List UInt8
  | [] => []
  | p :: r => esc p.data.toList ++ [0, 1] ++ bytes r
theorem bytes_append (a b : List ByteArray) : bytes (a ++ b) = bytes a ++ bytes b := by
  induction a with
  | nil => rfl
  | cons p r ih => simp [bytes, ih]
theorem bytes_mem {l : List ByteArray} {p : ByteArray} (h : p ∈ l) : p.size ≤ (bytes l).length := by
  induction l with
  | nil => cases h
  | cons q r ih =>
    have he := (esc_length q.data.toList).1
    rcases List.mem_cons.1 h with rfl | h'
    · simp only [bytes, List.length_append]
      simp at he
      omega
    · have := ih h'
      simp only [bytes, List.length_append]
      omega
theorem bytes_small {l : List ByteArray} (h : ∀ p ∈ l, p.size ≤ 4096) : (bytes l).length ≤ 8194 * l.length := by
  induction l with
  | nil => simp [bytes]
  | cons q r ih =>
    have he := (esc_length q.data.toList).2
    have h1 := h q (by simp)
    have h2 := ih (fun p hp => h p (by simp [hp]))
    simp at he
    simp only [bytes, List.length_append, List.length_cons]
    simp
    omega
/-- what Tuple answers -/
def out (l : List ByteArray) : ByteArray × Int :=
  if 16 < l.length then (⟨#[]⟩, 1) else if 4096 < (bytes l).length then (⟨#[]⟩, 5) else (⟨(bytes l).toArray⟩, 0)
end tup
end Go.Proofs.YtckpiaigoeicfaaGreatDoor
/-! KeyP -/
namespace Go.Proofs.YtckpiaigoeicfaaGreatDoor
namespace dnw
open dnp
set_option linter.unusedVariables false
set_option linter.unusedSimpArgs false
/-- a value made ready -/
def rv (v : List UInt8) : List UInt8 := (prp.readyO v true).getD []
theorem rv_ok {v : List UInt8} (h : valOK v = true) : prp.readyO v true = some (rv v) := by
  unfold valOK at h
  unfold rv
  cases hr : prp.readyO v true with
  | none => rw [hr] at h; simp at h
  | some t => rfl
def partB (a : Av) : ByteArray := (tup.out [a.t, ⟨(rv a.v.data.toList).toArray⟩]).1
theorem partB_len (a : Av) : (partB a).size ≤ 4096 := by
  unfold partB tup.out
  rw [if_neg (by simp)]
  split
  · exact Nat.zero_le _
  · rename_i h
    rw [← kt.size_len]
    show (tup.bytes _).length ≤ _
    omega
def sortL (l : List (List UInt8)) : List (List UInt8) := l.mergeSort fun x y => decide (x ≤ y)
theorem sortL_sorted (l : List (List UInt8)) : (sortL l).Pairwise (fun x y => x ≤ y) := by
  have h := List.pairwise_mergeSort (le := fun x y : List UInt8 => decide (x ≤ y)) (fun a b c h1 h2 => by
    simp only [decide_eq_true_eq] at h1 h2 ⊢
    exact List.le_trans h1 h2) (fun a b => by
    simp only [Bool.or_eq_true, decide_eq_true_eq]
    exact List.le_total a b) l
  exact h.imp (fun h => by simpa using h)
theorem sorted_eq {a b : List (List UInt8)} (ha : a.Pairwise (fun x y => x ≤ y)) (hb : b.Pairwise (fun x y => x ≤ y)) (h : a.Perm b) : a = b :=
  List.Perm.eq_of_pairwise (le := fun x y => x ≤ y) (fun x y _ _ h1 h2 => List.le_antisymm h1 h2) ha hb h
theorem sortL_perm {a b : List (List UInt8)} (h : a.Perm b) : sortL a = sortL b :=
  sorted_eq (sortL_sorted a) (sortL_sorted b) (((List.mergeSort_perm a _).trans h).trans (List.mergeSort_perm b _).symm)
def partsL (l : List Av) : List (List UInt8) := l.map fun a => (partB a).data.toList
/-- a relative name's key -/
def keyL (l : List Av) : List UInt8 := (sortL (partsL l)).flatten
theorem keyL_perm {a b : List Av} (h : a.Perm b) : keyL a = keyL b := by
  unfold keyL partsL
  rw [sortL_perm (h.map _)]
theorem join_flat (xs : List (List UInt8)) : Lib.join xs [] = xs.flatten := by
  cases xs with
  | nil => rfl
  | cons x r =>
    rw [Lib.join_cons, Lib.joinTail, List.flatten_cons]
    congr 2
    simp
theorem flatten_len_le (k : Nat) : ∀ l : List (List UInt8), (∀ x ∈ l, x.length ≤ k) → l.flatten.length ≤ l.length * k
  | [], _ => by simp
  | x :: l, h => by
    have h1 := h x (by simp)
    have h2 := flatten_len_le k l (fun y hy => h y (by simp [hy]))
    rw [List.flatten_cons, List.length_append, List.length_cons, Nat.add_mul]
    omega
theorem keyL_len (l : List Av) : (keyL l).length ≤ l.length * 4096 := by
  have h := flatten_len_le 4096 (sortL (partsL l)) (fun x hx => by
    have := (List.mergeSort_perm (partsL l) _).mem_iff.1 hx
    unfold partsL at this
    obtain ⟨a, _, rfl⟩ := List.mem_map.1 this
    rw [kt.size_len]
    exact partB_len a)
  have h2 : (sortL (partsL l)).length = l.length := by unfold sortL partsL; simp
  rw [h2] at h
  exact h
/-- a name's keys, the topmost first -/
def keysL (n : List (List Av)) : List (List UInt8) := n.reverse.map keyL
def keysB (n : List (List Av)) : List ByteArray := n.reverse.map fun l => ⟨(keyL l).toArray⟩
def underR (n b : List (List Av)) : Bool := nameOK n && nameOK b && decide (b.length ≤ n.length) && decide ((keysB n).take b.length = keysB b)
def sameR (n b : List (List Av)) : Bool := decide (n.length = b.length) && underR n b
theorem keysB_len (n : List (List Av)) : (keysB n).length = n.length := by simp [keysB]
end dnw
end Go.Proofs.YtckpiaigoeicfaaGreatDoor
/-! ParseV -/
namespace Go.Proofs.YtckpiaigoeicfaaGreatDoor
open Go.RowKit
namespace dnw
open dnp
set_option linter.unusedVariables false
set_option linter.unusedSimpArgs false
theorem parseR_ok {l : List UInt8} {n : List (List Av)} (h : parseR l = some n) : nameOK n = true := by
  unfold parseR at h
  split at h
  · cases h; rfl
  · split at h
    · cases h
    · split at h
      · cases h; assumption
      · cases h
def parseV (s : ByteArray) : List (List Av) × Int := if 1000 < s.size then ([], 5) else match parseR s.data.toList with
  | none => ([], 4)
  | some n => (n, 0)
theorem parseV_small (s : ByteArray) : (parseV s).1.length ≤ 12 ∧ ∀ l ∈ (parseV s).1, l.length ≤ 4 := by
  unfold parseV
  split
  · simp
  · cases h : parseR s.data.toList with
    | none => simp
    | some n =>
      have hn := nameOK_facts (parseR_ok h)
      exact ⟨hn.1, fun l hl => (rdnOK_facts (hn.2 l hl)).2.1⟩
theorem parseE_V {s : ByteArray} {w : World} {e : Ending} {w' : World} (h : ParseE s w e w') : Below w.heap.size w w' ∧ ∃ ao cap, e = .returned (.tuple #[.slice ao (parseV s).1.length cap, .int .i64 (parseV s).2]) ∧ Rdns w' ao (parseV s).1 := by
  obtain ⟨h1, h2⟩ := h
  refine ⟨h1, ?_⟩
  unfold parseV
  split at h2
  · rename_i hl
    rw [if_pos hl]
    exact ⟨none, 0, h2, fun i hi => by simp at hi⟩
  · rename_i hl
    rw [if_neg hl]
    cases hp : parseR s.data.toList with
    | none =>
      rw [hp] at h2
      exact ⟨none, 0, h2, fun i hi => by simp at hi⟩
    | some n =>
      rw [hp] at h2
      obtain ⟨ao, cap, h3, _, h4, _⟩ := h2
      exact ⟨ao, cap, h3, h4⟩
end dnw
end Go.Proofs.YtckpiaigoeicfaaGreatDoor
/-! NormP -/
namespace Go.Proofs.YtckpiaigoeicfaaGreatDoor
namespace atp
open atw (bs)
set_option linter.unusedVariables false
set_option linter.unusedSimpArgs false
def tT : List UInt8 := [84, 82, 85, 69]
def tF : List UInt8 := [70, 65, 76, 83, 69]
def ne0 (o : Option (List UInt8)) : Option (List UInt8) := match o with
  | none => none
  | some u => if u = [] then none else some u
theorem ne0_some {u : List UInt8} (h : u ≠ []) : ne0 (some u) = some u := by unfold ne0; exact if_neg h
def joinK (l : List ByteArray) : List UInt8 := (l.map (·.data.toList)).flatten
/-- a name's keys, one behind the other -/
def nameK (l : List UInt8) : Option (List UInt8) := match dnw.parseR l with
  | none => none
  | some n => some (joinK (dnw.keysB n))
def formO (syn : Int) (l : List UInt8) : Option (List UInt8) :=
  if syn = 1 then ne0 (prp.readyO l true) else if syn = 2 then ne0 (prp.readyO l false) else if syn = 7 then ne0 (prp.phoneO l)
  else if syn = 4 then (if numOK l = true then some l else none)
  else if syn = 5 then (if l = tT ∨ l = tF then some l else none)
  else if syn = 6 then nameK l
  else some l
/-- a value's normal form, or the error -/
def normL (syn : Int) (l : List UInt8) : List UInt8 × Int :=
  if ¬ (1 ≤ syn ∧ syn ≤ 7) then ([], 14) else if 1000 < l.length then ([], 5) else if l = [] then ([], 4) else match formO syn l with
    | none => ([], 4)
    | some u => (u, 0)
theorem normL_bad {syn : Int} {l : List UInt8} (h : ¬ (1 ≤ syn ∧ syn ≤ 7)) : normL syn l = ([], 14) := by unfold normL; rw [if_pos h]
theorem normL_long {syn : Int} {l : List UInt8} (h : 1 ≤ syn ∧ syn ≤ 7) (h1 : 1000 < l.length) : normL syn l = ([], 5) := by unfold normL; rw [if_neg (not_not_intro h), if_pos h1]
theorem normL_nil {syn : Int} {l : List UInt8} (h : 1 ≤ syn ∧ syn ≤ 7) (h1 : l = []) : normL syn l = ([], 4) := by unfold normL; rw [if_neg (not_not_intro h), if_neg (by rw [h1]; simp), if_pos h1]
theorem normL_form {syn : Int} {l : List UInt8} (h : 1 ≤ syn ∧ syn ≤ 7) (h1 : l.length ≤ 1000) (h2 : l ≠ []) : normL syn l = match formO syn l with
    | none => ([], 4)
    | some u => (u, 0) := by unfold normL; rw [if_neg (not_not_intro h), if_neg (by omega), if_neg h2]
/-- a name that may be has small parts -/
theorem name_smalls {n : List (List dnw.Av)} (h : dnw.nameOK n = true) : ∀ l ∈ n, dnw.Smalls l := by
  intro l hl x hx
  unfold dnw.nameOK at h
  rw [Bool.and_eq_true] at h
  have h1 := List.all_eq_true.1 h.2 l hl
  unfold dnw.rdnOK at h1
  simp only [Bool.and_eq_true] at h1
  obtain ⟨i, hi, rfl⟩ := List.mem_iff_getElem.1 hx
  have h2 := List.all_eq_true.1 h1.2 i (List.mem_range.2 hi)
  rw [List.getElem?_eq_getElem hi] at h2
  simp only at h2
  unfold dnw.pairB at h2
  simp only [Bool.and_eq_true] at h2
  have h3 := (dnw.typeOK_iff _).1 h2.1.2
  have h4 := h2.2
  unfold dnw.valOK at h4
  rw [Bool.and_eq_true, decide_eq_true_eq] at h4
  have e1 := h3.2.1
  have e2 := h4.1
  rw [kt.size_len] at e1 e2
  exact ⟨by omega, by omega⟩
theorem parseR_ok {l : List UInt8} {n : List (List dnw.Av)} (h : dnw.parseR l = some n) : dnw.nameOK n = true := by
  unfold dnw.parseR at h
  split at h
  · cases h; decide
  · split at h
    · cases h
    · split at h
      · cases h; assumption
      · cases h
theorem joinK_len (n : List (List dnw.Av)) (h : dnw.nameOK n = true) : (joinK (dnw.keysB n)).length ≤ 200000 := by
  have hn : n.length ≤ 12 := by
    unfold dnw.nameOK at h
    rw [Bool.and_eq_true, decide_eq_true_eq] at h
    exact h.1
  have hl : ∀ l ∈ n, l.length ≤ 4 := by
    intro l hl
    unfold dnw.nameOK at h
    rw [Bool.and_eq_true] at h
    have h1 := List.all_eq_true.1 h.2 l hl
    unfold dnw.rdnOK at h1
    simp only [Bool.and_eq_true, decide_eq_true_eq] at h1
    exact h1.1.2
  have h2 := dnw.flatten_len_le 16384 ((dnw.keysB n).map (·.data.toList)) (by
    intro x hx
    unfold dnw.keysB at hx
    rw [List.map_map] at hx
    obtain ⟨l, hl2, rfl⟩ := List.mem_map.1 hx
    have := dnw.keyL_len l
    have := hl l (List.mem_reverse.1 hl2)
    show (dnw.keyL l).length ≤ _
    omega)
  unfold joinK
  rw [List.length_map, dnw.keysB_len] at h2
  omega
theorem text_filter (p : Int → Bool) (m : List Int) : (run.text (m.filter p)).length ≤ (run.text m).length := by
  induction m with
  | nil => exact Nat.le_refl _
  | cons v m ih =>
    rw [List.filter_cons]
    split
    · rw [run.text_cons, run.text_cons, List.length_append, List.length_append]; omega
    · rw [run.text_cons, List.length_append]; omega
theorem phoneO_len {l o : List UInt8} (h : prp.phoneO l = some o) : o.length ≤ l.length := by
  unfold prp.phoneO at h
  obtain ⟨m, hm, rfl⟩ := Option.map_eq_some_iff.1 h
  obtain ⟨h1, h2⟩ := run.runes_text _ l m (Nat.le_refl _) hm
  have h3 := prp.mapped_len true m h2
  rw [h1] at h3
  unfold prp.phoneR
  exact Nat.le_trans (text_filter _ _) h3
theorem ne0_len {o : Option (List UInt8)} {u : List UInt8} (h : ne0 o = some u) : o = some u ∧ u ≠ [] := by
  cases o with
  | none => cases h
  | some v =>
    unfold ne0 at h
    simp only at h
    split at h
    · cases h
    · cases h; exact ⟨rfl, by assumption⟩
theorem formO_len {syn : Int} {l u : List UInt8} (h : formO syn l = some u) (hl : l.length ≤ 1000) : u.length ≤ 200000 := by
  unfold formO at h
  split at h
  · have := prp.readyO_len (ne0_len h).1; omega
  · split at h
    · have := prp.readyO_len (ne0_len h).1; omega
    · split at h
      · have := phoneO_len (ne0_len h).1
        omega
      · split at h
        · split at h
          · cases h; omega
          · cases h
        · split at h
          · split at h
            · cases h; omega
            · cases h
          · split at h
            · unfold nameK at h
              cases hp : dnw.parseR l with
              | none => rw [hp] at h; cases h
              | some n =>
                rw [hp] at h
                cases h
                exact joinK_len n (parseR_ok hp)
            · cases h; omega
theorem normL_len (syn : Int) (l : List UInt8) : (normL syn l).1.length ≤ 200000 := by
  unfold normL
  split
  · simp
  · split
    · simp
    · split
      · simp
      · cases hf : formO syn l with
        | none => simp
        | some u => exact formO_len hf (by omega)
end atp
end Go.Proofs.YtckpiaigoeicfaaGreatDoor
