/- Lines in memory: the program's and the reference's rows, as a call owns them. -/
import Derived.Test.YtifplgnabkkbjaaDoorRowS
import Derived.Test.YtifplgnabkkbjaaDoorSegU
import Derived.Test.YtifplgnabkkbjaaDoorLdifP
import Derived.Test.YtifplgnabkkbjaaDoorRows
namespace Go.Proofs.YtifplgnabkkbjaaDoor
open Go.RowKit
namespace ldw
open ldp
set_option linter.unusedVariables false
set_option linter.unusedSimpArgs false
def bs (l : List UInt8) : ByteArray := ⟨l.toArray⟩
theorem bs_data (l : List UInt8) : (bs l).data.toList = l := rfl
theorem bs_of (s : ByteArray) : bs s.data.toList = s := kt.str_eq rfl
def wcell (r : Row) : List Value := [.string (bs r.text), .int .i64 (r.no : Int)]
def rcell (r : Row) : List Value := [.string (bs r.text), .int .i64 (r.no : Int), .bool r.lost]
theorem infoW : (Tryd.prog.info? 39).map (fun i => (i.zero, i.size, i.bytes)) = some (some (.agg #[.string ByteArray.empty, .int .i64 0]), 2, 24) := by kernel_rfl
theorem infoR : (Tryd.prog.info? 46).map (fun i => (i.zero, i.size, i.bytes)) = some (some (.agg #[.string ByteArray.empty, .int .i64 0, .bool false]), 3, 32) := by kernel_rfl
/-- the program's rows -/
def WRow (w : World) (B : Nat) (v : Value) (l : List Row) : Prop := kt.SegX w B 39 2 v l.length (l.flatMap wcell)
/-- the reference's rows -/
def RRow (w : World) (B : Nat) (v : Value) (l : List Row) : Prop := kt.SegX w B 46 3 v l.length (l.flatMap rcell)
theorem wrow_below {w w' : World} {B : Nat} {v : Value} {l : List Row} (h : WRow w B v l) (hb : Below w.heap.size w w') : WRow w' B v l := kt.segX_below h hb
theorem rrow_below {w w' : World} {B : Nat} {v : Value} {l : List Row} (h : RRow w B v l) (hb : Below w.heap.size w w') : RRow w' B v l := kt.segX_below h hb
theorem wrow_form {w : World} {B : Nat} {v : Value} {l : List Row} (h : WRow w B v l) : ∃ ao n cap, v = .slice ao n cap ∧ Hid (n = l.length) ∧ n ≤ cap := by
  obtain ⟨ao, cap, hv, hc⟩ := kt.segX_slice h
  exact ⟨ao, _, cap, hv, rfl, hc⟩
theorem rrow_form {w : World} {B : Nat} {v : Value} {l : List Row} (h : RRow w B v l) : ∃ ao n cap, v = .slice ao n cap ∧ Hid (n = l.length) ∧ n ≤ cap := by
  obtain ⟨ao, cap, hv, hc⟩ := kt.segX_slice h
  exact ⟨ao, _, cap, hv, rfl, hc⟩
theorem ret_alloc {B : Nat} {w w1 w2 : World} (h : Below B w w1) (hB : B ≤ w.heap.size) : True := trivial
/-- a row laid behind the program's -/
theorem wrow_app {w : World} {B : Nat} {v : Value} {l : List Row} (x : Row) (t : ByteArray) (ht : bs x.text = t) (h : WRow w B v l) (hl : l.length ≤ 1000000) (hB : B ≤ w.heap.size) :
    ∃ ao n cap w1, (Builtin.append_ #[34, 34] 34 #[v, .slice (some ⟨w.heap.size, 0, none⟩) 1 1]).run Tryd.prog (w.alloc (.cells #[.string t, .int .i64 (x.no : Int)] 39)) = .ok (.slice ao n cap) w1 ∧ WRow w1 B (.slice ao n cap) (l ++ [x]) ∧ Below B w w1 := by
  subst ht
  have hn := kt.segX_below h (w' := w.alloc (.cells #[.string (bs x.text), .int .i64 (x.no : Int)] 39)) ((Below.refl _ _).alloc (Nat.le_refl _) _)
  obtain ⟨v', w1, h1, h2, h3, h4⟩ := kt.segX_append (P := Tryd.prog) (t := 34) (ty := 34) Tryd.underlying34 infoW rfl (by omega) ⟨w.heap.size, 0, none⟩ 1 1 (wcell x) rfl (fun j u hj => by
      rw [kt.addr_add, World.cell?_alloc_new]
      simpa [wcell] using hj) (by intro u hu; simp [wcell] at hu; rcases hu with rfl | rfl <;> rfl) hn (by unfold maxLen; omega) (by omega) (by simp; omega)
  obtain ⟨ao, cap, rfl, _⟩ := kt.segX_slice h2
  refine ⟨ao, _, cap, w1, h1, ?_, ((Below.refl B w).alloc hB _).trans ((Below.refl B _).grown h3 (by simp; omega) (fun k hk => (kt.segX_lt hn k hk).1))⟩
  unfold WRow
  rw [List.length_append, List.flatMap_append]
  simpa using h2
/-- a row laid behind the reference's -/
theorem rrow_app {w : World} {B : Nat} {v : Value} {l : List Row} (x : Row) (t : ByteArray) (ht : bs x.text = t) (h : RRow w B v l) (hl : l.length ≤ 1000000) (hB : B ≤ w.heap.size) :
    ∃ ao n cap w1, (Builtin.append_ #[43, 43] 43 #[v, .slice (some ⟨w.heap.size, 0, none⟩) 1 1]).run Tryd.prog (w.alloc (.cells #[.string t, .int .i64 (x.no : Int), .bool x.lost] 46)) = .ok (.slice ao n cap) w1 ∧ RRow w1 B (.slice ao n cap) (l ++ [x]) ∧ Below B w w1 := by
  subst ht
  have hn := kt.segX_below h (w' := w.alloc (.cells #[.string (bs x.text), .int .i64 (x.no : Int), .bool x.lost] 46)) ((Below.refl _ _).alloc (Nat.le_refl _) _)
  obtain ⟨v', w1, h1, h2, h3, h4⟩ := kt.segX_append (P := Tryd.prog) (t := 43) (ty := 43) Tryd.underlying43 infoR rfl (by omega) ⟨w.heap.size, 0, none⟩ 1 1 (rcell x) rfl (fun j u hj => by
      rw [kt.addr_add, World.cell?_alloc_new]
      simpa [rcell] using hj) (by intro u hu; simp [rcell] at hu; rcases hu with rfl | rfl | rfl <;> rfl) hn (by unfold maxLen; omega) (by omega) (by simp; omega)
  obtain ⟨ao, cap, rfl, _⟩ := kt.segX_slice h2
  refine ⟨ao, _, cap, w1, h1, ?_, ((Below.refl B w).alloc hB _).trans ((Below.refl B _).grown h3 (by simp; omega) (fun k hk => (kt.segX_lt hn k hk).1))⟩
  unfold RRow
  rw [List.length_append, List.flatMap_append]
  simpa using h2
/-- the last row of the program's: where it lies, and with another text -/
theorem wrow_last {w : World} {B n cap : Nat} {ao : Option Addr} {l : List Row} {x : Row} (h : WRow w B (.slice ao n cap) (l ++ [x])) (hn : n = l.length + 1) :
    ∃ g o, ao = some ⟨g, o, none⟩ ∧ B ≤ g ∧ w.cell? ⟨g, o + l.length * 2, none⟩ = some (.string (bs x.text)) ∧ w.frozen? ⟨g, o + l.length * 2, none⟩ = false ∧
      ∀ t (b : Bool), WRow (w.setCell ⟨g, o + l.length * 2, none⟩ (.string (bs t))) B (.slice ao n cap) (l ++ [⟨t, x.no, b⟩]) := by
  subst hn
  have h0 := h
  unfold WRow at h0
  rw [List.length_append] at h0
  have h1 : kt.SegX w B 39 2 (.slice ao (l.length + 1) cap) (l.length + 1) ((l ++ [x]).flatMap wcell) := h0
  obtain ⟨g, o, rfl⟩ := kt.segX_addr h1 (by omega)
  obtain ⟨hB, hlt, hc, hf⟩ := kt.segX_at h1
  have hlen : (l.flatMap wcell).length = l.length * 2 := kt.flat_len wcell 2 (fun _ => rfl) l
  have hx : ((l ++ [x]).flatMap wcell)[l.length * 2]? = some (.string (bs x.text)) := by
    rw [List.flatMap_append, List.getElem?_append_right (by omega), hlen]
    simp [wcell]
  refine ⟨g, o, rfl, hB, hc _ _ hx, hf _, fun t b => ?_⟩
  have h2 := (kt.segX_set h1 (l.length * 2) (by rw [kt.flat_len wcell 2 (fun _ => rfl)]; simp) (.string (bs t))).1
  unfold WRow
  rw [List.length_append]
  have e : ((l ++ [x]).flatMap wcell).set (l.length * 2) (.string (bs t)) = (l ++ [(⟨t, x.no, b⟩ : Row)]).flatMap wcell := by
    rw [List.flatMap_append, List.flatMap_append, List.set_append_right _ _ (by omega), hlen]
    simp [wcell]
  rw [← e]
  exact h2
theorem rrow_last {w : World} {B n cap : Nat} {ao : Option Addr} {l : List Row} {x : Row} (h : RRow w B (.slice ao n cap) (l ++ [x])) (hn : n = l.length + 1) :
    ∃ g o, ao = some ⟨g, o, none⟩ ∧ B ≤ g ∧ w.cell? ⟨g, o + l.length * 3, none⟩ = some (.string (bs x.text)) ∧ w.cell? ⟨g, o + l.length * 3 + 2, none⟩ = some (.bool x.lost) ∧ w.frozen? ⟨g, o + l.length * 3, none⟩ = false ∧
      ∀ t, RRow (w.setCell ⟨g, o + l.length * 3, none⟩ (.string (bs t))) B (.slice ao n cap) (l ++ [⟨t, x.no, x.lost⟩]) := by
  subst hn
  have h0 := h
  unfold RRow at h0
  rw [List.length_append] at h0
  have h1 : kt.SegX w B 46 3 (.slice ao (l.length + 1) cap) (l.length + 1) ((l ++ [x]).flatMap rcell) := h0
  obtain ⟨g, o, rfl⟩ := kt.segX_addr h1 (by omega)
  obtain ⟨hB, hlt, hc, hf⟩ := kt.segX_at h1
  have hlen : (l.flatMap rcell).length = l.length * 3 := kt.flat_len rcell 3 (fun _ => rfl) l
  have hx : ((l ++ [x]).flatMap rcell)[l.length * 3]? = some (.string (bs x.text)) := by
    rw [List.flatMap_append, List.getElem?_append_right (by omega), hlen]
    simp [rcell]
  have hx2 : ((l ++ [x]).flatMap rcell)[l.length * 3 + 2]? = some (.bool x.lost) := by
    rw [List.flatMap_append, List.getElem?_append_right (by omega), hlen]
    rw [show l.length * 3 + 2 - l.length * 3 = 2 from by omega]
    simp [rcell]
  refine ⟨g, o, rfl, hB, hc _ _ hx, ?_, hf _, fun t => ?_⟩
  · rw [Nat.add_assoc]; exact hc _ _ hx2
  have h2 := (kt.segX_set h1 (l.length * 3) (by rw [kt.flat_len rcell 3 (fun _ => rfl)]; simp) (.string (bs t))).1
  unfold RRow
  rw [List.length_append]
  have e : ((l ++ [x]).flatMap rcell).set (l.length * 3) (.string (bs t)) = (l ++ [(⟨t, x.no, x.lost⟩ : Row)]).flatMap rcell := by
    rw [List.flatMap_append, List.flatMap_append, List.set_append_right _ _ (by omega), hlen]
    simp [rcell]
  rw [← e]
  exact h2
/-- any row's cells -/
theorem wrow_at {w : World} {B n cap : Nat} {ao : Option Addr} {l : List Row} (h : WRow w B (.slice ao n cap) l) (i : Nat) (hi : i < l.length) :
    ∃ g o, ao = some ⟨g, o, none⟩ ∧ g < w.heap.size ∧ w.cell? ⟨g, o + i * 2, none⟩ = some (.string (bs l[i].text)) ∧ w.cell? ⟨g, o + i * 2 + 1, none⟩ = some (.int .i64 (l[i].no : Int)) := by
  have h1 := h
  unfold WRow at h1
  obtain ⟨ao', cap', hv, _⟩ := kt.segX_slice h1
  simp only [Value.slice.injEq] at hv
  obtain ⟨rfl, rfl, rfl⟩ := hv
  obtain ⟨g, o, rfl⟩ := kt.segX_addr h1 (by omega)
  obtain ⟨hB, hlt, hc, hf⟩ := kt.segX_at h1
  have f0 := kt.flat_get wcell 2 (fun _ => rfl) l i 0 hi (by omega)
  have f1 := kt.flat_get wcell 2 (fun _ => rfl) l i 1 hi (by omega)
  exact ⟨g, o, rfl, hlt, hc _ _ f0, by rw [Nat.add_assoc]; exact hc _ _ f1⟩
theorem rrow_at {w : World} {B n cap : Nat} {ao : Option Addr} {l : List Row} (h : RRow w B (.slice ao n cap) l) (i : Nat) (hi : i < l.length) :
    ∃ g o, ao = some ⟨g, o, none⟩ ∧ g < w.heap.size ∧ w.cell? ⟨g, o + i * 3, none⟩ = some (.string (bs l[i].text)) ∧ w.cell? ⟨g, o + i * 3 + 1, none⟩ = some (.int .i64 (l[i].no : Int)) ∧ w.cell? ⟨g, o + i * 3 + 2, none⟩ = some (.bool l[i].lost) := by
  have h1 := h
  unfold RRow at h1
  obtain ⟨ao', cap', hv, _⟩ := kt.segX_slice h1
  simp only [Value.slice.injEq] at hv
  obtain ⟨rfl, rfl, rfl⟩ := hv
  obtain ⟨g, o, rfl⟩ := kt.segX_addr h1 (by omega)
  obtain ⟨hB, hlt, hc, hf⟩ := kt.segX_at h1
  have f0 := kt.flat_get rcell 3 (fun _ => rfl) l i 0 hi (by omega)
  have f1 := kt.flat_get rcell 3 (fun _ => rfl) l i 1 hi (by omega)
  have f2 := kt.flat_get rcell 3 (fun _ => rfl) l i 2 hi (by omega)
  exact ⟨g, o, rfl, hlt, hc _ _ f0, by rw [Nat.add_assoc]; exact hc _ _ f1, by rw [Nat.add_assoc]; exact hc _ _ f2⟩
end ldw
end Go.Proofs.YtifplgnabkkbjaaDoor
