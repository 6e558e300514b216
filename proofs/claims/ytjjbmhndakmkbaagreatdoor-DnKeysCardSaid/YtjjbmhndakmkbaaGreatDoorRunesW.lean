/- The walks of Runes, the program's and the reference's: the runes of a text, one by one. -/
import Derived.Test.YtjjbmhndakmkbaaGreatDoorOneW
import Derived.Test.YtjjbmhndakmkbaaGreatDoorShelf
import Derived.Lib.OthersKept
namespace Go.Proofs.YtjjbmhndakmkbaaGreatDoor
open Go.RowKit
namespace prw
open run prp
set_option linter.unusedVariables false
set_option linter.unusedSimpArgs false
/-- runes as cells -/
def rcells (m : List Int) : List Value := m.map (Value.int .i32 ·)
theorem rcells_length (m : List Int) : (rcells m).length = m.length := by simp [rcells]
theorem rcells_append (a b : List Int) : rcells (a ++ b) = rcells a ++ rcells b := by simp [rcells]
theorem infoRune : (Tryz.prog.info? 21).map (fun i => (i.zero, i.size, i.bytes)) = some (some (.int .i32 0), 1, 4) := by kernel_rfl
/-- a row of runes that the call owns -/
def OwnR (w : World) (B : Nat) (v : Value) (m : List Int) : Prop := w.ownsRow B 21 1 v (rcells m).length (rcells m)
theorem ownR_nil (w : World) (B : Nat) : OwnR w B (.slice none 0 0) [] := World.ownsRow_nil _ _ _ _
theorem ownR_below {w w' : World} {B : Nat} {v : Value} {m : List Int} (h : OwnR w B v m) (hb : Below w.heap.size w w') : OwnR w' B v m := kt.row_below h hb
theorem ownR_form {w : World} {B : Nat} {v : Value} {m : List Int} (h : OwnR w B v m) : ∃ (ao : Option Addr) (cap : Nat), v = .slice ao m.length cap := by
  obtain ⟨ao, cap, hv, _⟩ := kt.row_slice h
  rw [rcells_length] at hv
  exact ⟨ao, cap, hv⟩
theorem ownR_mono {w : World} {B B' : Nat} {v : Value} {m : List Int} (h : OwnR w B v m) (hB : B' ≤ B) : OwnR w B' v m := by
  refine ⟨h.1, ?_⟩
  rcases h.2 with h0 | ⟨g, cap, cur, hv, hBg, hg, h1, h2, h3, h4⟩
  · exact Or.inl h0
  · exact Or.inr ⟨g, cap, cur, hv, by omega, hg, h1, h2, h3, h4⟩
theorem row_iter {w : World} {B k pos pos' : Nat} {e : TypeId} {v : Value} {n : Nat} {xs : List Value} {s : ByteArray} (h : w.ownsRow B e 1 v n xs) (hk : w.heap[k]? = some (.stringIter s pos)) : (w.iterAt k s pos').ownsRow B e 1 v n xs := by
  refine ⟨h.1, ?_⟩
  rcases h.2 with h0 | ⟨g, cap, cur, hv, hBg, hg, h1, h2, h3, h4⟩
  · exact Or.inl h0
  · refine Or.inr ⟨g, cap, cur, hv, hBg, ?_, h1, h2, h3, h4⟩
    rw [Lib.iterAt_other _ _ _ _ _ (by rintro rfl; rw [hk] at hg; cases hg)]
    exact hg
theorem ownR_app {w : World} {B : Nat} {v : Value} {m : List Int} (x : Int) (hown : OwnR w B v m) (hl : m.length ≤ 100000000) (hbase : B ≤ w.heap.size) :
    ∃ v' w1, (Builtin.append_ #[57, 57] 57 #[v, .slice (some ⟨w.heap.size, 0, none⟩) 1 1]).run Tryz.prog (w.alloc (.cells #[.int .i32 x] 21)) = .ok v' w1 ∧ OwnR w1 B v' (m ++ [x]) ∧ Below B w w1 := by
  obtain ⟨v', w1, h1, h2, _, h3⟩ := kt.app1 (P := Tryz.prog) (t := 57) (ty := 57) Tryz.underlying57 infoRune rfl (.int .i32 x) rfl hown (by rw [rcells_length]; unfold maxLen; omega) (by rw [rcells_length]; omega) hbase
  refine ⟨v', w1, h1, ?_, h3⟩
  unfold OwnR
  rw [rcells_append]
  exact h2
/-- what Runes hands back -/
def RunesE (o : Option (List Int)) (w : World) (e : Ending) (w' : World) : Prop :=
  Below w.heap.size w w' ∧ match o with
    | none => e = .returned (.tuple #[.slice none 0 0, .int .i64 19])
    | some m => ∃ v, e = .returned (.tuple #[v, .int .i64 0]) ∧ OwnR w' w.heap.size v m
theorem drop_ne {s : ByteArray} {i : Nat} (hi : i < s.size) : s.data.toList.drop i ≠ [] := by
  intro e
  have := congrArg List.length e
  rw [drop_len] at this
  simp at this
  omega
theorem runes_on {s : ByteArray} {i : Nat} {m : List Int} (hi : i < s.size) (h : runes s.data.toList = (runes (s.data.toList.drop i)).map (m ++ ·)) (h1 : (oneL (s.data.toList.drop i)).2 ≠ 0) :
    runes s.data.toList = (runes (s.data.toList.drop (i + (oneL (s.data.toList.drop i)).2))).map ((m ++ [((oneL (s.data.toList.drop i)).1 : Int)]) ++ ·) := by
  rw [runes_step _ (drop_ne hi), if_neg h1, List.drop_drop] at h
  rw [h, Option.map_map]
  congr 1
  funext x
  simp
theorem runes_off {s : ByteArray} {i : Nat} {m : List Int} (hi : i < s.size) (h : runes s.data.toList = (runes (s.data.toList.drop i)).map (m ++ ·)) (h1 : (oneL (s.data.toList.drop i)).2 = 0) : runes s.data.toList = none := by
  rw [runes_step _ (drop_ne hi), if_pos h1] at h
  exact h
theorem runes_end {s : ByteArray} {m : List Int} (h : runes s.data.toList = (runes (s.data.toList.drop s.size)).map (m ++ ·)) : runes s.data.toList = some m := by
  rw [List.drop_of_length_le (by simp), runes_nil] at h
  simpa using h
theorem one_le {s : ByteArray} {i : Nat} (hi : i < s.size) : i + (oneL (s.data.toList.drop i)).2 ≤ s.size := by
  have := one_width _ (drop_ne hi)
  rw [drop_len] at this
  omega
set_option maxRecDepth 20000 in
set_option maxHeartbeats 2000000 in
theorem rrunes_any (s : ByteArray) (w : World) (hs : s.size ≤ 1000000) : Calls Tryz.prog 58 #[.string s] w fun e w' => RunesE (runes s.data.toList) w e w' := by
  go_enter Tryz.func58, Tryz.ntmps58
  go_wp2_with fail
  go_loopw [4, 5] (fun lv iv wr => ∃ (i : Nat) (m : List Int), i ≤ s.size ∧ iv = .int .i64 (i : Int) ∧ Hid (OwnR wr w.heap.size lv m) ∧ m.length ≤ i ∧ Hid (runes s.data.toList = (runes (s.data.toList.drop i)).map (m ++ ·)) ∧ Below w.heap.size w wr) (fun _ iv _ => s.size - (intOf iv).toNat)
  case atStart =>
    refine ⟨0, [], Nat.zero_le _, rfl, ?_, by simp, by show _ = _; simp, ?_⟩
    · exact World.ownsRow_made _ #[] 0 (by simp) (by unfold maxLen; omega) rfl
    · exact (Below.refl _ _).alloc (Nat.le_refl _) _
  case round =>
    obtain ⟨i, m, hi, rfl, hO, hm, hR, hB⟩ := hrel
    have hsz := hB.size
    by_cases hlt : i < s.size
    · have hlt' : (i : Int) < (s.size : Int) := by omega
      have ho := one_any s i wr hlt hs
      have h1 := one_le hlt
      unfold oneV at ho
      by_cases hz : (oneL (s.data.toList.drop i)).2 = 0
      · have HN : Hid (runes s.data.toList = none) := runes_off hlt hR.out hz
        rw [hz] at ho
        generalize ((oneL (s.data.toList.drop i)).1 : Int) = r at ho
        have HO := Lib.hid ho
        clear ho hz h1
        go_wp2_with fail
        refine HO.out.mono ?_
        rintro e w1 ⟨rfl, rfl⟩
        go_wp2_with fail
        go_ret2
        refine ⟨hB, ?_⟩
        rw [HN.out]; rfl
      · have HN := Lib.hid (runes_on hlt hR.out hz)
        have hn0 : 1 ≤ (oneL (s.data.toList.drop i)).2 := by omega
        have hok := one_ok _ hz
        generalize hrr : ((oneL (s.data.toList.drop i)).1 : Int) = r at ho HN hok
        generalize hnn : (oneL (s.data.toList.drop i)).2 = n at ho HN h1 hn0
        have HO := Lib.hid ho
        obtain ⟨hr0, hr1, _⟩ := hok
        have hnz : ((n : Int) == 0) = false := by rw [beq_eq_false_iff_ne]; omega
        obtain ⟨v', w1, hap, hO1, hB1⟩ := ownR_app r hO.out (by omega) hsz
        have HO1 := Lib.hid hO1
        have HB1 := Lib.hid hB1
        have hn1 : (n : Int) ≤ 1000000 := by omega
        have hin : i + n ≤ s.size := h1
        clear ho hz hnn hrr hO1 hB1 h1
        go_wp2_with fail
        refine HO.out.mono ?_
        rintro e w1 ⟨rfl, rfl⟩
        go_wp2_with (at_builtin; refine Lib.wpList_append_run _ rfl _ _ _ _ rfl _ _ rfl rfl _ _ hap ?_)
        go_roundw
        case rel => exact ⟨i + n, m ++ [r], hin, by go_num, HO1, by simp; omega, HN, hB.trans HB1.out⟩
        case measure => simp [intOf]; omega
    · obtain rfl : i = s.size := by omega
      have HN : Hid (runes s.data.toList = some m) := runes_end hR.out
      go_wp2_with fail
      go_ret2
      refine ⟨hB, ?_⟩
      rw [HN.out]
      exact ⟨_, rfl, hO.out⟩
set_option maxRecDepth 20000 in
set_option maxHeartbeats 2000000 in
theorem runes_any (s : ByteArray) (w : World) (hs : s.size ≤ 1000000) : Calls Tryz.prog 70 #[.string s] w fun e w' => RunesE (runes s.data.toList) w e w' := by
  go_enter Tryz.func70, Tryz.ntmps70
  go_wp2_with fail
  go_loopw [4] (fun lv wr => ∃ (i : Nat) (m : List Int), i ≤ s.size ∧ wr.heap[w.heap.size]? = some (.stringIter s i) ∧ Hid (OwnR wr (w.heap.size + 1) lv m) ∧ m.length ≤ i ∧ Hid (runes s.data.toList = (runes (s.data.toList.drop i)).map (m ++ ·)) ∧ Below w.heap.size w wr) (fun _ wr => s.size - wr.iterPos w.heap.size)
  case atStart =>
    refine ⟨0, [], Nat.zero_le _, ?_, ?_, by simp, by show _ = _; simp, ?_⟩
    · exact World.iter_heap w s 0
    · exact ownR_nil _ _
    · exact (Below.refl _ _).alloc (Nat.le_refl _) _
  case round =>
    obtain ⟨i, m, hi, hit, hO, hm, hR, hB⟩ := hrel
    have hsz : w.heap.size < wr.heap.size := (Array.getElem?_eq_some_iff.1 hit).1
    by_cases hlt : i < s.size
    · have h1 := one_le hlt
      by_cases hz : (oneL (s.data.toList.drop i)).2 = 0
      · have HN : Hid (runes s.data.toList = none) := runes_off hlt hR.out hz
        obtain ⟨hdec, hno⟩ := decode_no s i hlt hz
        have hnx : ∀ ty, (Instr.next (.pointer (some ⟨w.heap.size, 0, none⟩)) true ty).run Tryz.prog wr = _ := fun ty => Lib.run_next_any_at wr w.heap.size s i ty hit hlt
        rw [hdec] at hnx
        have hB2 := Lib.below_iterAt hB (Nat.le_refl _) s (i + 1)
        have hp : Lib.hasPrefix (s.extract i s.size).data.toList [239, 191, 189] = false := by
          unfold Lib.hasPrefix
          rw [Bool.eq_false_iff]
          intro e
          rw [List.isPrefixOf_iff_prefix, Lib.extract_to_end] at e
          exact hno ((fffd_prefix _).2 e)
        have CP := Tryz.strings_HasPrefix (s.extract i s.size) ⟨#[239, 191, 189]⟩ (wr.iterAt w.heap.size s (i + 1))
        rw [show (⟨#[239, 191, 189]⟩ : ByteArray).data.toList = [239, 191, 189] from rfl, hp] at CP
        have HP := Lib.hid CP
        clear CP hp hdec hno hz h1
        go_wp2_with fail
        refine HP.out.mono ?_
        rintro e w1 ⟨rfl, rfl⟩
        go_wp2_with fail
        go_ret2
        refine ⟨hB2, ?_⟩
        rw [HN.out]; rfl
      · have HN := Lib.hid (runes_on hlt hR.out hz)
        have hn0 : 1 ≤ (oneL (s.data.toList.drop i)).2 := by omega
        have hdec := decode_yes s i hlt hz
        have hff := fffd_yes _ hz
        have hnx : ∀ ty, (Instr.next (.pointer (some ⟨w.heap.size, 0, none⟩)) true ty).run Tryz.prog wr = _ := fun ty => Lib.run_next_any_at wr w.heap.size s i ty hit hlt
        rw [hdec] at hnx
        have hff2 : ((oneL (s.data.toList.drop i)).1 : Int) = 65533 → fffd (s.data.toList.drop i) := fun e => hff (by omega)
        clear hff
        generalize hrr : ((oneL (s.data.toList.drop i)).1 : Int) = rn at HN hnx hff2
        generalize hnn : (oneL (s.data.toList.drop i)).2 = n at HN h1 hn0 hnx
        have hB2 := Lib.hid (Lib.below_iterAt hB (Nat.le_refl _) s (i + n))
        have hit2 := Lib.hid (Lib.iterAt_heap wr w.heap.size s i (i + n) hit)
        have hsz2 : w.heap.size + 1 ≤ (wr.iterAt w.heap.size s (i + n)).heap.size := by rw [Lib.iterAt_size]; exact hsz
        have hO2 : OwnR (wr.iterAt w.heap.size s (i + n)) (w.heap.size + 1) _ m := row_iter hO.out hit
        obtain ⟨v', w1, hap, hO1, hB1⟩ := ownR_app rn hO2 (by omega) hsz2
        have hit3 : w1.heap[w.heap.size]? = some (.stringIter s (i + n)) := (hB1.block _ (by omega)).trans hit2.out
        have hms : Hid (s.size - w1.iterPos w.heap.size < s.size - wr.iterPos w.heap.size) := by
          show _ < _
          simp only [World.iterPos, hit3, hit]
          omega
        have HIT3 := Lib.hid hit3
        have HO1 := Lib.hid hO1
        have HB1 := Lib.hid (hB2.out.trans (hB1.mono (by omega)))
        have hin : i + n ≤ s.size := h1
        clear hdec hz hnn hO1 hB1 h1 hO2 hit3
        by_cases h65 : rn = 65533
        · have hpx := (fffd_prefix _).1 (hff2 h65)
          have hp : Lib.hasPrefix (s.extract i s.size).data.toList [239, 191, 189] = true := by
            unfold Lib.hasPrefix
            rw [List.isPrefixOf_iff_prefix, Lib.extract_to_end]
            exact hpx
          have CP := Tryz.strings_HasPrefix (s.extract i s.size) ⟨#[239, 191, 189]⟩ (wr.iterAt w.heap.size s (i + n))
          rw [show (⟨#[239, 191, 189]⟩ : ByteArray).data.toList = [239, 191, 189] from rfl, hp] at CP
          have HP := Lib.hid CP
          clear CP hp hpx hff2 hrr
          subst h65
          go_wp2_with fail
          refine HP.out.mono ?_
          rintro e w1 ⟨rfl, rfl⟩
          go_wp2_with (at_builtin; refine Lib.wpList_append_run _ rfl _ _ _ _ rfl _ _ rfl rfl _ _ hap ?_)
          go_roundw
          case rel => exact ⟨i + n, m ++ [65533], hin, HIT3.out, HO1, by simp; omega, HN, HB1.out⟩
          case measure => exact hms.out
        · have h65' : (rn == 65533) = false := by rw [beq_eq_false_iff_ne]; omega
          clear hff2 hrr h65
          go_wp2_with (at_builtin; refine Lib.wpList_append_run _ rfl _ _ _ _ rfl _ _ rfl rfl _ _ hap ?_)
          go_roundw
          case rel => exact ⟨i + n, m ++ [rn], hin, HIT3.out, HO1, by simp; omega, HN, HB1.out⟩
          case measure => exact hms.out
    · obtain rfl : i = s.size := by omega
      have HN : Hid (runes s.data.toList = some m) := runes_end hR.out
      have hnx : ∀ ty, (Instr.next (.pointer (some ⟨w.heap.size, 0, none⟩)) true ty).run Tryz.prog wr = _ := fun ty => Lib.run_next_end_at wr w.heap.size s s.size ty hit hlt
      go_wp2_with fail
      go_ret2
      refine ⟨hB, ?_⟩
      rw [HN.out]
      exact ⟨_, rfl, ownR_mono hO.out (by omega)⟩
end prw
end Go.Proofs.YtjjbmhndakmkbaaGreatDoor
