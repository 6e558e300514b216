/- The walk of Decode: the cells of bytes. -/
import Derived.Test.YtkeheaempbmmaaaDecP
import Derived.Test.YtkeheaempbmmaaaRowS
namespace Go.Proofs.Ytkeheaempbmmaaa
open Go.RowKit
namespace nod
open fldw
def Cel.cells (c : Cel) : List Value := [.string c.key, .string c.val, .int .i64 c.over, .int .i64 c.size, .int .i64 c.child]
/-- the call's own row of cells -/
def OwnC (w : World) (B : Nat) (v : Value) (l : List Cel) : Prop := w.ownsRow B 35 5 v l.length (l.flatMap Cel.cells)
theorem infoCel : (Try.prog.info? 35).map (fun i => (i.zero, i.size, i.bytes)) = some (some (.agg #[.string ⟨#[]⟩, .string ⟨#[]⟩, .int .i64 0, .int .i64 0, .int .i64 0]), 5, 56) := by kernel_rfl
theorem ownC_slice {w : World} {B : Nat} {v : Value} {l : List Cel} (h : OwnC w B v l) : ∃ ao cap, v = .slice ao l.length cap ∧ Cels w ao l := by
  obtain ⟨ao, cap, rfl, hc⟩ := kt.rowS_slice h
  refine ⟨ao, cap, rfl, fun i hi => ?_⟩
  obtain ⟨g, rfl, hg, _⟩ := kt.rowS_some h (by omega)
  have hj : ∀ j, j < 5 → (l.flatMap Cel.cells)[i * 5 + j]? = (Cel.cells l[i])[j]? := fun j hj => kt.flat_get Cel.cells 5 (fun _ => rfl) l i j hi hj
  refine ⟨g, 0, rfl, ?_, ?_, ?_, ?_, ?_⟩
  · exact hg _ _ (by rw [Nat.zero_add]; exact hj 0 (by omega))
  · exact hg _ _ (by rw [Nat.zero_add]; exact hj 1 (by omega))
  · exact hg _ _ (by rw [Nat.zero_add]; exact hj 2 (by omega))
  · exact hg _ _ (by rw [Nat.zero_add]; exact hj 3 (by omega))
  · exact hg _ _ (by rw [Nat.zero_add]; exact hj 4 (by omega))
theorem ownC_app {w : World} {B : Nat} {v : Value} {l : List Cel} (c : Cel) (h : OwnC w B v l) (hn : l.length ≤ 1000000) (hb : B ≤ w.heap.size) :
    ∃ v' w1, (Builtin.append_ #[23, 23] 23 #[v, .slice (some ⟨w.heap.size, 0, none⟩) 1 1]).run Try.prog (w.alloc (.cells #[.string c.key, .string c.val, .int .i64 c.over, .int .i64 c.size, .int .i64 c.child] 35)) = .ok v' w1 ∧ OwnC w1 B v' (l ++ [c]) ∧ Below B w w1 := by
  obtain ⟨v', w1, hr, ho, _, hB⟩ := kt.appS (P := Try.prog) (ty := 23) Try.underlying23 infoCel rfl (by omega) (Cel.cells c) rfl (by intro u hu; simp [Cel.cells] at hu; rcases hu with rfl | rfl | rfl | rfl | rfl <;> rfl) h (by unfold maxLen; omega) (by omega) hb
  refine ⟨v', w1, hr, ?_, hB⟩
  show World.ownsRow _ _ _ _ _ _ _
  rw [List.length_append, List.flatMap_append]
  simpa using ho
theorem takeT_le {s : List UInt8} {a : Int} {k : List UInt8} {p : Nat} (h : fld.takeT s a = .ok (k, p)) : k.length ≤ s.length := by
  unfold fld.takeT at h
  split at h
  · cases h
  · split at h
    · cases h
    · injection h with h
      injection h with h1 h2
      rw [← h1, List.length_take, List.length_drop]
      omega
theorem uncell_small (leaf : Bool) (s : List UInt8) (a : Int) : (uncellP leaf s a).1.key.size ≤ s.length ∧ (uncellP leaf s a).1.val.size ≤ s.length := by
  have z : (⟨#[]⟩ : ByteArray).size = 0 := rfl
  have sz : ∀ k : List UInt8, (⟨k.toArray⟩ : ByteArray).size = k.length := fun k => by rw [← kt.size_len]
  unfold uncellP
  split
  · simp only [z]; omega
  · rename_i k p hk
    have h1 := takeT_le hk
    split
    · split
      · simp only [z, sz]; omega
      · split
        · simp only [z, sz]; omega
        · split
          · simp only [z, sz]; omega
          · rename_i v q hv
            have h2 := takeT_le hv
            simp only [sz]; omega
    · simp only [z, sz]; omega
theorem get_small (leaf : Bool) (s : List UInt8) (i : Nat) : (getP leaf s i).1.key.size ≤ s.length ∧ (getP leaf s i).1.val.size ≤ s.length := by
  unfold getP
  split
  · have z : (⟨#[]⟩ : ByteArray).size = 0 := rfl
    simp only [z]; omega
  · exact uncell_small _ _ _
theorem gets_small (leaf : Bool) (s : List UInt8) : ∀ (i : Nat) (l : List Cel), gets leaf s i = some l → l.length = i ∧ ∀ c ∈ l, c.key.size ≤ s.length ∧ c.val.size ≤ s.length := by
  intro i
  induction i with
  | zero => intro l h; cases h; exact ⟨rfl, fun c hc => by simp at hc⟩
  | succ i ih =>
    intro l h
    rw [gets] at h
    split at h
    · cases h
    · rename_i m hm
      obtain ⟨h1, h2⟩ := ih m hm
      split at h
      · cases h
        refine ⟨by simp [h1], fun c hc => ?_⟩
        rcases List.mem_append.1 hc with h | h
        · exact h2 c h
        · simp at h; subst h; exact get_small _ _ _
      · cases h
theorem cnt_small (s : List UInt8) : cntP s ≤ s.length := by
  unfold cntP
  split
  · omega
  · split <;> omega
/-- what Decode answers -/
def DecE (leaf : Bool) (s : ByteArray) (e : Ending) (w' : World) : Prop := ∃ ao cap l er, e = .returned (.tuple #[.slice ao (List.length l) cap, .int .i64 er]) ∧ DecAns leaf s l er ∧ Cels w' ao l
theorem cels_nil (w : World) (ao : Option Addr) : Cels w ao [] := fun i h => by simp at h
theorem decE_no {leaf : Bool} {s : ByteArray} {w' : World} (h : ∀ m, ¬ Good leaf m s) : DecE leaf s (.returned (.tuple #[.slice none 0 0, .int .i64 4])) w' := ⟨none, 0, [], 4, rfl, Or.inr ⟨rfl, rfl, h⟩, cels_nil _ _⟩
theorem no_good {leaf : Bool} {s : ByteArray} {i : Nat} (hi : i < cntP s.data.toList) (h : (getP leaf s.data.toList i).2 = false) : ∀ m, ¬ Good leaf m s := by
  intro m hm
  rw [good_cnt hm] at hi
  rw [good_get hm i hi] at h
  cases h
theorem all_good {leaf : Bool} {s : ByteArray} {l : List Cel} (h : gets leaf s.data.toList (cntP s.data.toList) = some l) : ∀ m, Good leaf m s → m = l := by
  intro m hm
  have h1 := good_gets hm m.length (Nat.le_refl _)
  rw [good_cnt hm, h1, List.take_of_length_le (Nat.le_refl _)] at h
  exact Option.some.inj h
set_option maxHeartbeats 2000000 in
theorem decode_any (leaf : Bool) (s : ByteArray) (w : World) (hs : s.size ≤ 1000000) :
    Calls Try.prog 7 #[.bool leaf, .string s] w fun e w' => DecE leaf s e w' ∧ Below w.heap.size w w' := by
  have C := Lib.hid (fun w => cnt_any s w hs)
  obtain ⟨n, hn⟩ : ∃ n : Nat, Hid (n = cntP s.data.toList) := ⟨_, rfl⟩
  rw [← hn.out] at C
  have hnb : n ≤ 1000000 := by have := cnt_small s.data.toList; rw [kt.size_len] at this; rw [hn.out]; omega
  go_enter Try.func7, Try.ntmps7
  go_wp2_with fail
  refine (C.out _).mono ?_
  rintro e w1 ⟨rfl, hB1⟩
  go_wp2_with fail
  go_loopw [6, 14] (fun lv iv wr => ∃ (i : Nat) (acc : List Cel) (v : Value), i ≤ n ∧ v = lv ∧ iv = .int .i64 i ∧ Hid (gets leaf s.data.toList i = some acc) ∧ Hid (OwnC wr w.heap.size v acc) ∧ Below w.heap.size w wr) (fun _ iv _ => n - (intOf iv).toNat)
  case atStart => exact ⟨0, [], _, Nat.zero_le _, rfl, rfl, rfl, kt.row_nil _ _ _ _, hB1⟩
  case round =>
    obtain ⟨i, acc, v, hi, rfl, rfl, hG, hO, hB⟩ := hrel
    have hsz := hB.size
    by_cases hin : i < n
    · have hin' : (i : Int) < (n : Int) := by omega
      have G := fun w => get_any leaf s i w hs (by omega)
      have hgs := get_small leaf s.data.toList i
      have hgn := gets_small leaf _ _ _ hG.out
      have hstep : (getP leaf s.data.toList i).2 = true → gets leaf s.data.toList (i + 1) = some (acc ++ [(getP leaf s.data.toList i).1]) := by
        intro h
        rw [gets, hG.out]
        simp [h]
      have hno : (getP leaf s.data.toList i).2 = false → ∀ m, ¬ Good leaf m s := no_good (by rw [← hn.out]; exact hin)
      generalize getP leaf s.data.toList i = r at G hgs hstep hno
      obtain ⟨c, b⟩ := r
      dsimp only at G hgs hstep hno
      have GH := Lib.hid G
      have HST := Lib.hid hstep
      have HNO := Lib.hid hno
      have HGN := Lib.hid hgn
      have HGS := Lib.hid hgs
      clear G hstep hno hgn hgs
      unfold Cel.v at GH
      cases b with
      | false =>
        have HNN : Hid (∀ m, ¬ Good leaf m s) := HNO.out rfl
        clear HNO HST
        go_wp2_with fail
        refine (GH.out _).mono ?_
        rintro e w2 ⟨rfl, hB2⟩
        go_wp2_with fail
        go_ret2
        exact ⟨decE_no HNN.out, (hB.trans (hB2.mono hsz)).alloc (by have := hB2.size; omega) _⟩
      | true =>
        have HNN : Hid (gets leaf s.data.toList (i + 1) = some (acc ++ [c])) := HST.out rfl
        clear HNO HST
        go_wp2_with fail
        refine (GH.out _).mono ?_
        rintro e w2 ⟨rfl, hB2⟩
        have hsz2 := hB2.size
        have hO2 : OwnC (w2.alloc (.cells #[.string c.key, .string c.val, .int .i64 c.over, .int .i64 c.size, .int .i64 c.child] 35)) w.heap.size v acc := (kt.rowS_below hO.out hB2).alloc _
        have hBx : Below w.heap.size w (w2.alloc (.cells #[.string c.key, .string c.val, .int .i64 c.over, .int .i64 c.size, .int .i64 c.child] 35)) := (hB.trans (hB2.mono hsz)).alloc (by omega) _
        obtain ⟨v', w3, hap, hO3, hB3⟩ := ownC_app c hO2 (by have := HGN.out.1; omega) hBx.size
        rw [size1] at hap
        have HO3 := Lib.hid hO3
        have HBX := Lib.hid hBx
        have HB3 := Lib.hid hB3
        clear hO2 hO3 hBx hB3
        go_wp2_with (at_builtin; refine Lib.wpList_append_run _ rfl _ _ _ _ rfl _ _ rfl rfl _ _ hap ?_)
        go_roundw
        case rel => exact ⟨i + 1, acc ++ [c], v', by omega, rfl, by go_num, HNN, HO3.out, HBX.out.trans HB3.out⟩
        case measure => simp [intOf]; omega
    · obtain rfl : i = n := by omega
      have hin' : ¬ (i : Int) < (i : Int) := by omega
      have hgn := gets_small leaf _ _ _ hG.out
      obtain ⟨ao, cap, rfl, hcl⟩ := ownC_slice hO.out
      have E := Lib.hid (encode_any leaf ao cap acc wr hcl (Lib.hid (fun c hc => by have := hgn.2 c hc; rw [kt.size_len] at this; omega)) (by omega))
      have HA : Hid (∀ m, Good leaf m s → m = acc) := all_good (by rw [← hn.out]; exact hG.out)
      have HCL := Lib.hid hcl
      clear hgn hcl
      go_wp2_with fail
      refine E.out.mono ?_
      rintro e w2 ⟨⟨x, er, rfl, hA⟩, hB2⟩
      have HB : Below w.heap.size w w2 := hB.trans (hB2.mono hsz)
      have HC2 : Hid (Cels w2 ao acc) := cels_below HCL.out hB2
      by_cases he : er = 0
      · subst he
        by_cases hx : x = s
        · have HG : Hid (Good leaf acc s) := dec_yes hA hx
          subst hx
          clear hA
          go_wp2_with fail
          go_ret2
          exact ⟨⟨ao, cap, acc, 0, rfl, Or.inl ⟨rfl, HG.out⟩, HC2.out⟩, HB⟩
        · have HN : Hid (∀ m, ¬ Good leaf m x → ¬ Good leaf m s) := fun m _ hm => dec_no hA (fun h => hx h.2) (by rw [← HA.out m hm]; exact hm)
          have HN2 : Hid (∀ m, ¬ Good leaf m s) := fun m hm => dec_no hA (fun h => hx h.2) (by rw [← HA.out m hm]; exact hm)
          have hx' := str_ne hx
          clear hA hx HN
          go_wp2_with fail
          go_ret2
          exact ⟨decE_no HN2.out, HB⟩
      · have HN2 : Hid (∀ m, ¬ Good leaf m s) := fun m hm => dec_no hA (fun h => he h.1) (by rw [← HA.out m hm]; exact hm)
        have he' : (er != 0) = true := by simpa using he
        have he2 : (er == 0) = false := by simpa using he
        clear hA he
        go_wp2_with fail
        go_ret2
        exact ⟨decE_no HN2.out, HB⟩
end nod
end Go.Proofs.Ytkeheaempbmmaaa
