/- The walk of the reference's Parts. -/
import Derived.Test.YthbofgfdgpidcaaDoorPartW
import Derived.Test.YthbofgfdgpidcaaDoorFieldS
namespace Go.Proofs.YthbofgfdgpidcaaDoor
open Go.RowKit
namespace prt
open tupw
theorem apart {w : World} {B B' : Nat} {e e' : TypeId} (hne : e ≠ e') {v v' : Value} {n n' : Nat} {xs xs' : List Value} (h : w.ownsRow B e 1 v n xs) (h' : w.ownsRow B' e' 1 v' n' xs') : v.ownBlock = none ∨ v.ownBlock ≠ v'.ownBlock := by
  rcases h.2 with ⟨rfl, _⟩ | ⟨g, cap, cur, rfl, _, hg, _⟩
  · exact Or.inl rfl
  · rcases h'.2 with ⟨rfl, _⟩ | ⟨g', cap', cur', rfl, _, hg', _⟩
    · exact Or.inr (by simp [Value.ownBlock])
    · refine Or.inr fun he => ?_
      simp [Value.ownBlock] at he
      subst he
      rw [hg] at hg'
      injection hg' with hg2
      injection hg2 with _ h3 _
      exact hne h3
theorem kept2 {w w1 : World} {B B' : Nat} {e e' : TypeId} (hne : e ≠ e') {v v' : Value} {n n' : Nat} {xs xs' : List Value} (h : w.ownsRow B e 1 v n xs) (h' : w.ownsRow B' e' 1 v' n' xs') (hg : w.grownBy w1 v'.ownBlock) : w1.ownsRow B e 1 v n xs :=
  h.kept hg (apart hne h h')
/-- a row of the call's own holds these bytes -/
def OwnB (w : World) (B : Nat) (v : Value) (l : List UInt8) : Prop := w.ownsRow B 5 1 v (Lib.byteCells l).length (Lib.byteCells l)
theorem ownb_app {w : World} {B : Nat} {v : Value} {l : List UInt8} (h : OwnB w B v l) (x : UInt8) (hl : l.length ≤ 1000000) (hB : B ≤ w.heap.size) :
    ∃ v' w1, (Builtin.append_ #[46, 46] 46 #[v, .slice (some ⟨w.heap.size, 0, none⟩) 1 1]).run Tryd.prog (w.alloc (.cells #[.int .u8 (x.toNat : Int)] 5)) = .ok v' w1 ∧ OwnB w1 B v' (l ++ [x]) ∧ w.grownBy w1 v.ownBlock ∧ Below B w w1 := by
  obtain ⟨v', w1, h1, h2, h3, h4⟩ := kt.app1 (P := Tryd.prog) (ty := 46) (w := w) Tryd.underlying46 fldw.infoByte rfl (.int .u8 (x.toNat : Int)) rfl h (by rw [Lib.byteCells_length]; unfold maxLen; omega) (by rw [Lib.byteCells_length]; omega) hB
  refine ⟨v', w1, h1, ?_, h3, h4⟩
  unfold OwnB
  rw [Lib.byteCells_append]
  exact h2
theorem ownb_new (w : World) (B : Nat) (hB : B ≤ w.heap.size) : OwnB (w.alloc (.cells #[] 5)) B (.slice (some ⟨w.heap.size, 0, none⟩) 0 0) [] :=
  World.ownsRow_made w #[] 0 hB (by unfold maxLen; omega) rfl
theorem own_new (w : World) (B : Nat) (hB : B ≤ w.heap.size) : Own (w.alloc (.cells #[] 9)) B (.slice (some ⟨w.heap.size, 0, none⟩) 0 0) [] :=
  World.ownsRow_made w #[] 0 hB (by unfold maxLen; omega) rfl
theorem drop_at (s : ByteArray) (k : Nat) (h : k < s.size) : s.data.toList.drop k = s[k] :: s.data.toList.drop (k + 1) := by
  rw [List.drop_eq_getElem_cons (by rw [kt.size_len]; exact h)]
  rfl
theorem drop_end (s : ByteArray) (k : Nat) (h : s.size ≤ k) : s.data.toList.drop k = [] := List.drop_eq_nil_of_le (by rw [kt.size_len]; exact h)

def fin (o : Option (List ByteArray)) : Option (List ByteArray) :=
  match o with
  | none => none
  | some m => if 16 < m.length then none else some m
theorem size1 (w : World) (o : Obj) : (w.alloc o).heap.size = w.heap.size + 1 := by
  show (w.heap.push o).size = _
  simp
set_option maxHeartbeats 2000000 in
theorem rparts_any (s : ByteArray) (w : World) (hs : s.size ≤ 140737488351232) :
    Calls Tryd.prog 22 #[.string s] w fun e w' => ∃ v, e = .returned v ∧ Ans w' w.heap.size (tup.rparts s.data.toList) v ∧ Below w.heap.size w w' := by
  by_cases hbig : 4096 < s.size
  · have hp : tup.rparts s.data.toList = none := by unfold tup.rparts; rw [if_pos (by rw [kt.size_len]; exact hbig)]
    have HP := Lib.hid hp
    have hb' : 4096 < (s.size : Int) := by omega
    clear hp hbig
    go_enter Tryd.func22, Tryd.ntmps22
    go_wp2_with fail
    go_ret2
    exact ⟨_, rfl, by rw [HP.out]; rfl, Below.refl _ _⟩
  · have hb' : ¬ 4096 < (s.size : Int) := by omega
    have hp : ∀ o, tup.rparse s.data.toList [] false [] = o → tup.rparts s.data.toList = fin o := by
      intro o ho
      unfold tup.rparts fin
      rw [if_neg (by rw [kt.size_len]; exact hbig), ho]
      cases o <;> rfl
    have HP := Lib.hid hp
    clear hp
    go_enter Tryd.func22, Tryd.ntmps22
    go_wp2_with fail
    go_loopw [4, 5, 6, 7] (fun lv bv ov iv wr => ∃ (k : Nat) (acc : List ByteArray) (b : List UInt8) (o : Bool), k ≤ s.size ∧ iv = .int .i64 (k : Int) ∧ ov = .bool o ∧ Hid (Own wr w.heap.size lv acc) ∧ Hid (OwnB wr w.heap.size bv b) ∧ acc.length ≤ k ∧ b.length ≤ k ∧ Hid (tup.rparse s.data.toList [] false [] = tup.rparse (s.data.toList.drop k) b o acc) ∧ Below w.heap.size w wr) (fun _ _ _ iv _ => s.size - (intOf iv).toNat)
    case atStart => exact ⟨0, [], [], false, Nat.zero_le _, rfl, rfl, (own_new w _ (Nat.le_refl _)).alloc _, by
      have h2 := ownb_new (w.alloc (.cells #[] 9)) w.heap.size (by rw [size1]; omega)
      rw [size1] at h2
      exact h2, Nat.le_refl _, Nat.le_refl _, by show _ = _; simp, ((Below.refl _ _).alloc (Nat.le_refl _) _).alloc (by rw [size1]; omega) _⟩
    case round =>
      obtain ⟨k, acc, b, o, hk, rfl, rfl, hO, hOB, hla, hlb, hR, hB⟩ := hrel
      have hsz := hB.size
      by_cases hks : k < s.size
      · have hks' : (k : Int) < (s.size : Int) := by omega
        obtain ⟨c, hc⟩ : ∃ c : UInt8, Hid (c = s[k]'hks) := ⟨s[k]'hks, rfl⟩
        have ec : (s[k]'hks).toNat = c.toNat := by rw [hc.out]
        have hd := drop_at s k hks
        rw [← hc.out] at hd
        by_cases hc0 : c = 0
        · subst hc0
          have ec0 : (s[k]'hks).toNat = 0 := ec
          clear ec
          by_cases hk1 : s.size ≤ k + 1
          · have hk1' : (s.size : Int) ≤ (k : Int) + 1 := by omega
            have hr := hR.out
            rw [hd, drop_end s (k + 1) hk1, tup.rparse_z0] at hr
            have hp := HP.out _ hr
            have HP2 := Lib.hid hp
            clear hp hr hd
            go_wp2_with fail
            go_ret2
            exact ⟨_, rfl, by rw [HP2.out]; rfl, hB⟩
          · have hk1' : ¬ (s.size : Int) ≤ (k : Int) + 1 := by omega
            have hk1s : k + 1 < s.size := by omega
            have q1 : ((k : Int) + 1).toNat = k + 1 := by omega
            obtain ⟨d, hd1⟩ : ∃ d : UInt8, Hid (d = s[k + 1]'hk1s) := ⟨s[k + 1]'hk1s, rfl⟩
            have ed : (s[k + 1]'hk1s).toNat = d.toNat := by rw [hd1.out]
            have hdd := drop_at s (k + 1) hk1s
            rw [← hd1.out] at hdd
            have hr := hR.out
            rw [hd, hdd, tup.rparse_z] at hr
            by_cases hd255 : d = 255
            · subst hd255
              rw [if_pos rfl] at hr
              have HR := Lib.hid hr
              have ed' : (s[k + 1]'hk1s).toNat = 255 := ed
              clear hr ed hd hdd
              obtain ⟨v', w1, hap, hO1, hgr, hB1⟩ := ownb_app hOB.out 0 (by omega) hsz
              have HL : Hid (Own w1 w.heap.size _ acc) := kept2 (by decide) hO.out hOB.out hgr
              have HO1 := Lib.hid hO1
              clear hO1 hgr
              change (Builtin.append_ _ _ #[_, .slice (some ⟨wr.heap.size, 0, none⟩) 1 1]).run _ (wr.alloc (.cells #[.int .u8 0] 5)) = .ok v' w1 at hap
              go_wp2_with (at_builtin; refine Lib.wpList_append_run _ rfl _ _ _ _ rfl _ _ rfl rfl _ _ hap ?_)
              go_roundw
              case rel => exact ⟨k + 2, acc, b ++ [0], true, by omega, by go_num, rfl, HL, HO1, by omega, by simp; omega, HR.out, hB.trans hB1⟩
              case measure => simp [intOf]; omega
            · rw [if_neg hd255] at hr
              have ed255 : ¬ d.toNat = 255 := fun h => hd255 (UInt8.toNat_inj.1 h)
              by_cases hd1' : d = 1
              · subst hd1'
                rw [if_pos rfl] at hr
                have HR := Lib.hid hr
                have ed' : (s[k + 1]'hk1s).toNat = 1 := ed
                clear hr ed hd hdd ed255
                obtain ⟨q, hq⟩ : ∃ q : ByteArray, Hid (q = ⟨b.toArray⟩) := ⟨_, rfl⟩
                rw [← hq.out] at HR
                have hst := kt.str_of_row (P := Tryd.prog) (dst := 9) Tryd.underlying46 Tryd.underlying5 Tryd.underlying9 hOB.out
                rw [← hq.out] at hst
                obtain ⟨v', w1, hap, hO1, hgr, hB1⟩ := own_app hO.out q (by omega) hsz
                have HO1 := Lib.hid hO1
                have hs1 := hB1.size
                clear hO1 hgr
                go_wp2_with (at_builtin; refine Lib.wpList_append_run _ rfl _ _ _ _ rfl _ _ rfl rfl _ _ hap ?_)
                go_roundw
                case rel => exact ⟨k + 2, acc ++ [q], [], false, by omega, by go_num, rfl, HO1.out.alloc _, ownb_new _ _ (Nat.le_trans hsz hs1), by simp; omega, by simp, HR.out, (hB.trans hB1).alloc (Nat.le_trans hsz hs1) _⟩
                case measure => simp [intOf]; omega
              · rw [if_neg hd1'] at hr
                have ed1 : ¬ d.toNat = 1 := fun h => hd1' (UInt8.toNat_inj.1 h)
                have hp := HP.out _ hr
                have HP2 := Lib.hid hp
                have n1 : ((d.toNat : Int) != 1) = true := by rw [bne_iff_ne]; omega
                have n2 : ((d.toNat : Int) != 255) = true := by rw [bne_iff_ne]; omega
                clear hp hr hd hdd
                go_wp2_with fail
                go_ret2
                exact ⟨_, rfl, by rw [HP2.out]; rfl, hB⟩
        · have n0 : ((c.toNat : Int) == 0) = false := by
            rw [beq_eq_false_iff_ne]
            intro h
            exact hc0 (UInt8.toNat_inj.1 (by simpa using h))
          have hr := hR.out
          rw [hd, tup.rparse_ne hc0] at hr
          have HR := Lib.hid hr
          clear hr hd
          obtain ⟨v', w1, hap, hO1, hgr, hB1⟩ := ownb_app hOB.out c (by omega) hsz
          have HL : Hid (Own w1 w.heap.size _ acc) := kept2 (by decide) hO.out hOB.out hgr
          have HO1 := Lib.hid hO1
          clear hO1 hgr
          go_wp2_with (at_builtin; refine Lib.wpList_append_run _ rfl _ _ _ _ rfl _ _ rfl rfl _ _ hap ?_)
          go_roundw
          case rel => exact ⟨k + 1, acc, b ++ [c], true, by omega, by go_num, rfl, HL, HO1, by omega, by simp; omega, HR.out, hB.trans hB1⟩
          case measure => simp [intOf]; omega
      · obtain rfl : k = s.size := by omega
        have hks' : ¬ (s.size : Int) < (s.size : Int) := by omega
        have hr := hR.out
        rw [drop_end s s.size (Nat.le_refl _), tup.rparse_nil] at hr
        cases o with
        | true =>
          have hp := HP.out _ hr
          have HP2 := Lib.hid hp
          clear hp hr
          go_wp2_with fail
          go_ret2
          exact ⟨_, rfl, by rw [HP2.out]; rfl, hB⟩
        | false =>
          have hp := HP.out _ hr
          obtain ⟨ao, cap, rfl, _⟩ := own_strs hO.out
          by_cases h16 : 16 < acc.length
          · have h16' : 16 < (acc.length : Int) := by omega
            have HP2 : Hid (tup.rparts s.data.toList = none) := by
              show _ = _
              rw [hp]
              simp [fin, h16]
            clear hp hr
            go_wp2_with fail
            go_ret2
            exact ⟨_, rfl, by rw [HP2.out]; rfl, hB⟩
          · have h16' : ¬ 16 < (acc.length : Int) := by omega
            have HP2 : Hid (tup.rparts s.data.toList = some acc) := by
              show _ = _
              rw [hp]
              simp [fin, h16]
            clear hp hr
            go_wp2_with fail
            go_ret2
            exact ⟨_, rfl, by rw [HP2.out]; exact ⟨_, rfl, hO.out⟩, hB⟩
end prt
end Go.Proofs.YthbofgfdgpidcaaDoor
