/- One text out of several: EntQ, EntR, EntS, EntK, LikeW, RValW, DKeyW, RightE. -/
import Derived.Test.YtcolcogobdgejaaGreatDoorC7
import Derived.Test.YtcolcogobdgejaaGreatDoorC5
import Derived.Test.YtcolcogobdgejaaGreatDoorC2
import Derived.Test.YtcolcogobdgejaaGreatDoorC1
import Derived.Test.YtcolcogobdgejaaGreatDoorC6
import Derived.Laws.Cover1
/-! EntQ -/
namespace Go.Proofs.YtcolcogobdgejaaGreatDoor
namespace etp
open atp atw
set_option linter.unusedVariables false
set_option linter.unusedSimpArgs false
theorem bytes_inj {a b : ByteArray} (h : a.data.toList = b.data.toList) : a = b := kt.str_eq h
theorem ltB_trans {a b c : ByteArray} (h1 : ltB a b = true) (h2 : ltB b c = true) : ltB a c = true := by
 unfold ltB at *
 rw [decide_eq_true_iff] at *
 exact ord.cmp_trans h1 h2
theorem ltB_irr (a : ByteArray) : ltB a a = false := by
 unfold ltB
 rw [decide_eq_false_iff_not, (ord.cmp_zero _ _).2 rfl]
 decide
theorem ltB_ne {a b : ByteArray} (h : ltB a b = true) : a ≠ b := by
 rintro rfl
 rw [ltB_irr] at h
 cases h
theorem ltB_asym {a b : ByteArray} (h : ltB a b = true) : ltB b a = false := by
 rw [Bool.eq_false_iff]
 intro h2
 have := ltB_trans h h2
 rw [ltB_irr] at this
 cases this
theorem ltB_three (a b : ByteArray) : ltB a b = true ∨ a = b ∨ ltB b a = true := by
 rcases ord.cmp_three a.data.toList b.data.toList with h | h | h
 ·exact Or.inl (decide_eq_true h)
 ·exact Or.inr (Or.inl (bytes_inj ((ord.cmp_zero _ _).1 h)))
 ·refine Or.inr (Or.inr (decide_eq_true ?_))
  rw [ord.cmp_neg, h]
theorem atsF_iff : ∀ (L : List At) (p : Option ByteArray), atsF p L = true ↔ (∀ a ∈ L, atOK a = true) ∧ L.Pairwise (fun a b => ltB a.t b.t = true) ∧ (∀ q, p = some q → ∀ a ∈ L, ltB q a.t = true)
 | [], p => by simp [atsF]
 | a :: r, p => by
  unfold atsF
  rw [Bool.and_eq_true, Bool.and_eq_true, atsF_iff r (some a.t), List.pairwise_cons]
  constructor
  ·rintro ⟨⟨h1, h2⟩, h3, h4, h5⟩
   have hq : ∀ q, p = some q → ltB q a.t = true := by
    rintro q rfl
    exact h2
   refine ⟨fun b hb => ?_, ⟨fun b hb => h5 _ rfl b hb, h4⟩, fun q hp b hb => ?_⟩
   ·rcases List.mem_cons.1 hb with rfl | hb
    ·exact h1
    ·exact h3 b hb
   ·rcases List.mem_cons.1 hb with rfl | hb
    ·exact hq q hp
    ·exact ltB_trans (hq q hp) (h5 _ rfl b hb)
  ·rintro ⟨h1, ⟨h2, h3⟩, h4⟩
   refine ⟨⟨h1 a (by simp), ?_⟩, fun b hb => h1 b (by simp [hb]), h3, fun q hq b hb => ?_⟩
   ·cases p with
    | none => rfl
    | some q => exact h4 q rfl a (by simp)
   ·cases hq
    exact h2 b hb
structure Part (n : ByteArray) (L lo mid hi : List At) : Prop where
 eq : L = lo ++ (mid ++ hi)
 lo : ∀ a ∈ lo, ltB a.t n = true
 hi : ∀ a ∈ hi, ltB n a.t = true
 mid : mid = [] ∨ ∃ v, mid = [⟨n, v⟩]
theorem part_of (n : ByteArray) : ∀ (L : List At) (p : Option ByteArray), atsF p L = true → ∃ lo mid hi, Part n L lo mid hi
 | [], _, _ => ⟨[], [], [], ⟨rfl, by simp, by simp, Or.inl rfl⟩⟩
 | a :: r, p, h => by
  obtain ⟨h1, h2, h3⟩ := (atsF_iff _ _).1 h
  rw [List.pairwise_cons] at h2
  rcases ltB_three a.t n with hl | he | hg
  ·have hr : atsF (some a.t) r = true := (atsF_iff _ _).2 ⟨fun b hb => h1 b (by simp [hb]), h2.2, fun q hq b hb => by cases hq; exact h2.1 b hb⟩
   obtain ⟨lo, mid, hi, hp⟩ := part_of n r (some a.t) hr
   refine ⟨a :: lo, mid, hi, ⟨by rw [hp.eq]; rfl, fun b hb => ?_, hp.hi, hp.mid⟩⟩
   rcases List.mem_cons.1 hb with rfl | hb
   ·exact hl
   ·exact hp.lo b hb
  ·refine ⟨[], [a], r, ⟨rfl, by simp, fun b hb => ?_, Or.inr ⟨a.vs, ?_⟩⟩⟩
   ·rw [← he]; exact h2.1 b hb
   ·cases a; cases he; rfl
  ·refine ⟨[], [], a :: r, ⟨rfl, by simp, fun b hb => ?_, Or.inl rfl⟩⟩
   rcases List.mem_cons.1 hb with rfl | hb
   ·exact hg
   ·exact ltB_trans hg (h2.1 b hb)
theorem withF_hi (n : ByteArray) (l : List ByteArray) : ∀ hi : List At, (∀ a ∈ hi, ltB n a.t = true) → withF n l true hi = hi
 | [], _ => rfl
 | a :: r, h => by
  have ha := h a (by simp)
  show (if (!true && !ltB a.t n) = true then [⟨n, l⟩] else []) ++ (if a.t = n then [] else [a]) ++ withF n l (true || (!true && !ltB a.t n)) r = _
  rw [if_neg (by simp), if_neg (fun e => ltB_ne ha e.symm), Bool.true_or, withF_hi n l r (fun b hb => h b (by simp [hb]))]
  rfl
theorem withF_put (n : ByteArray) (l : List ByteArray) (hi : List At) (h : ∀ a ∈ hi, ltB n a.t = true) : withF n l false hi = ⟨n, l⟩ :: hi := by
 cases hi with
 | nil => rfl
 | cons a r =>
  have ha := h a (by simp)
  have hf : ltB a.t n = false := ltB_asym ha
  show (if (!false && !ltB a.t n) = true then [⟨n, l⟩] else []) ++ (if a.t = n then [] else [a]) ++ withF n l (false || (!false && !ltB a.t n)) r = _
  rw [hf, if_pos (by simp), if_neg (fun e => ltB_ne ha e.symm)]
  rw [show (false || (!false && !false)) = true from rfl, withF_hi n l r (fun b hb => h b (by simp [hb]))]
  rfl
theorem withF_lo (n : ByteArray) (l : List ByteArray) (d : Bool) : ∀ (lo L : List At), (∀ a ∈ lo, ltB a.t n = true) → withF n l d (lo ++ L) = lo ++ withF n l d L
 | [], L, _ => rfl
 | a :: r, L, h => by
  have ha := h a (by simp)
  show (if (!d && !ltB a.t n) = true then [⟨n, l⟩] else []) ++ (if a.t = n then [] else [a]) ++ withF n l (d || (!d && !ltB a.t n)) (r ++ L) = _
  rw [ha, if_neg (by simp), if_neg (ltB_ne ha)]
  rw [show (d || (!d && !true)) = d by cases d <;> rfl, withF_lo n l d r L (fun b hb => h b (by simp [hb]))]
  rfl
theorem withF_mid (n : ByteArray) (l : List ByteArray) (d : Bool) {mid hi : List At} (hm : mid = [] ∨ ∃ v, mid = [⟨n, v⟩]) (h : ∀ a ∈ hi, ltB n a.t = true) : withF n l d (mid ++ hi) = if d then hi else ⟨n, l⟩ :: hi := by
 rcases hm with rfl | ⟨v, rfl⟩
 ·cases d with
  | true => exact withF_hi n l hi h
  | false => exact withF_put n l hi h
 ·show (if (!d && !ltB n n) = true then [⟨n, l⟩] else []) ++ (if n = n then [] else [⟨n, v⟩]) ++ withF n l (d || (!d && !ltB n n)) hi = _
  rw [ltB_irr, if_pos rfl]
  rw [show (d || (!d && !false)) = true by cases d <;> rfl, withF_hi n l hi h]
  cases d <;> rfl
theorem with_part {n : ByteArray} {L lo mid hi : List At} (h : Part n L lo mid hi) (l : List ByteArray) (d : Bool) : withF n l d L = lo ++ ((if d then [] else [⟨n, l⟩]) ++ hi) := by
 rw [h.eq, withF_lo n l d lo _ h.lo, withF_mid n l d h.mid h.hi]
 cases d <;> rfl
theorem part_with {n : ByteArray} {L lo mid hi : List At} (h : Part n L lo mid hi) (l : List ByteArray) (d : Bool) : Part n (withF n l d L) lo (if d then [] else [⟨n, l⟩]) hi :=
 ⟨with_part h l d, h.lo, h.hi, by cases d; exact Or.inr ⟨l, rfl⟩; exact Or.inl rfl⟩
theorem find_no {n : ByteArray} {L : List At} (h : ∀ a ∈ L, a.t ≠ n) : valsA L n = [] := by
 unfold valsA
 rw [List.find?_eq_none.2 (by intro a ha; simpa using h a ha)]
def midV : List At → List ByteArray
 | [] => []
 | a :: _ => a.vs
theorem vals_part {n : ByteArray} {L lo mid hi : List At} (h : Part n L lo mid hi) : valsA L n = midV mid := by
 obtain ⟨he, hlo, hhi, hmid⟩ := h
 subst he
 unfold valsA
 rw [List.find?_append, List.find?_eq_none.2 (by intro a ha; simpa using ltB_ne (hlo a ha))]
 rcases hmid with rfl | ⟨v, rfl⟩
 ·rw [List.nil_append, List.find?_eq_none.2 (by intro a ha; simpa using (ltB_ne (hhi a ha)).symm)]
  rfl
 ·simp [midV]
theorem with_right {n : ByteArray} {L : List At} (h : atsF none L = true) {l : List ByteArray} {d : Bool} (hl : d = false → atOK ⟨n, l⟩ = true) : atsF none (withF n l d L) = true := by
 obtain ⟨lo, mid, hi, hp⟩ := part_of n L none h
 obtain ⟨h1, h2, _⟩ := (atsF_iff _ _).1 h
 rw [with_part hp l d]
 rw [hp.eq] at h1 h2
 rw [List.pairwise_append, List.pairwise_append] at h2
 obtain ⟨a1, ⟨a2, a3, a4⟩, a5⟩ := h2
 refine (atsF_iff _ _).2 ⟨?_, ?_, by simp⟩
 ·intro a ha
  rcases List.mem_append.1 ha with ha | ha
  ·exact h1 a (by simp [ha])
  ·rcases List.mem_append.1 ha with ha | ha
   ·cases d with
    | true => cases ha
    | false =>
     rw [if_neg (by simp), List.mem_singleton] at ha
     subst ha
     exact hl rfl
   ·exact h1 a (by simp [ha])
 ·rw [List.pairwise_append, List.pairwise_append]
  refine ⟨a1, ⟨?_, a3, ?_⟩, ?_⟩
  ·cases d <;> simp
  ·intro x hx y hy
   cases d with
   | true => cases hx
   | false =>
    rw [if_neg (by simp), List.mem_singleton] at hx
    subst hx
    exact hp.hi y hy
  ·intro x hx y hy
   rcases List.mem_append.1 hy with hy | hy
   ·cases d with
    | true => cases hy
    | false =>
     rw [if_neg (by simp), List.mem_singleton] at hy
     subst hy
     exact hp.lo x hx
   ·exact a5 x hx y (by simp [hy])
theorem with_back {n : ByteArray} {L : List At} (h : atsF none L = true) (l : List ByteArray) : withF n (valsA L n) (decide (valsA L n = [])) (withF n l false L) = L := by
 obtain ⟨lo, mid, hi, hp⟩ := part_of n L none h
 obtain ⟨h1, _, _⟩ := (atsF_iff _ _).1 h
 rw [with_part (part_with hp l false), vals_part hp]
 conv => rhs; rw [hp.eq]
 rcases hp.mid with rfl | ⟨v, rfl⟩
 ·rfl
 ·show lo ++ ((if decide (v = []) then [] else [⟨n, v⟩]) ++ hi) = _
  have hv : v ≠ [] := by
   rintro rfl
   have := h1 ⟨n, []⟩ (by rw [hp.eq]; simp)
   unfold atOK at this
   cases hty : tyOf n with
   | none => rw [hty] at this; cases this
   | some ty => rw [hty] at this; simp [valsOK] at this
  simp [hv]
theorem join_fresh {syn : Int} : ∀ (l p : List ByteArray), (∀ v ∈ l, okV syn v = true) → joinF syn p l = if fresh syn p l = true then some (p ++ l) else none
 | [], p, _ => by simp [joinF, fresh]
 | v :: r, p, h => by
  unfold joinF fresh
  rw [h v (by simp), Bool.true_and]
  by_cases hl : likeI syn p v < 0
  ·rw [if_pos hl, join_fresh r (p ++ [v]) (fun u hu => h u (by simp [hu])), decide_eq_true hl, Bool.true_and, List.append_assoc]
   rfl
  ·rw [if_neg hl, decide_eq_false hl, Bool.false_and, if_neg (by simp)]
theorem drop_back {syn : Int} : ∀ (l p : List ByteArray), (∀ v ∈ p ++ l, okV syn v = true) → ((p ++ l).map (nv syn)).Nodup → dropF syn (p ++ l) l = some p
 | [], p, _, _ => by simp [dropF]
 | v :: r, p, h, hn => by
  have hv : likeN syn (p ++ v :: r) v = some p.length := by
   unfold likeN
   rw [List.findIdx?_eq_some_iff_getElem]
   refine ⟨by simp, ?_, fun j hj => ?_⟩
   ·rw [List.getElem_append_right (Nat.le_refl _)]
    simp only [Nat.sub_self, List.getElem_cons_zero]
    exact alike_self (h v (by simp))
   ·rw [List.getElem_append_left hj]
    have hne : nv syn p[j] ≠ nv syn v := by
     rw [List.map_append, List.nodup_append] at hn
     exact hn.2.2 _ (List.mem_map.2 ⟨p[j], List.getElem_mem _, rfl⟩) _ (by simp)
    intro ha
    exact hne (alike_iff.1 ha).2.2
  unfold dropF
  rw [hv]
  have e : (p ++ v :: r).take p.length ++ (p ++ v :: r).drop (p.length + 1) = p ++ r := by
   rw [List.take_left, show p ++ v :: r = (p ++ [v]) ++ r by simp, show p.length + 1 = (p ++ [v]).length by simp, List.drop_left]
  simp only
  rw [e]
  refine drop_back r p (fun u hu => h u ?_) ?_
  ·rcases List.mem_append.1 hu with hu | hu
   ·exact List.mem_append_left _ hu
   ·exact List.mem_append_right _ (List.mem_cons_of_mem _ hu)
  ·have hs : (p ++ r).Sublist (p ++ v :: r) := List.Sublist.append_left (List.sublist_cons_self v r) p
   exact hn.sublist (hs.map _)
end etp
end Go.Proofs.YtcolcogobdgejaaGreatDoor
/-! EntR -/
namespace Go.Proofs.YtcolcogobdgejaaGreatDoor
namespace etp
open atp atw
set_option linter.unusedVariables false
set_option linter.unusedSimpArgs false
def findE (e : En) (n : List UInt8) : Except Int Ty :=
 if rightE e = false then .error 4 else match findS (sml.lowL n) with
  | none => .error 14
  | some ty => .ok ty
def addE (e : En) (n : List UInt8) (l : List ByteArray) : Except Int En :=
 match findE e n with
 | .error f => .error f
 | .ok ty => if l = [] then .error 1 else if faultI ty.syn l ≠ 0 then .error (faultI ty.syn l) else match joinF ty.syn (valsA e.ats (bs ty.name)) l with
  | none => .error 8
  | some all => if mostT ty.single < all.length then .error 9 else .ok (withE e (bs ty.name) all)
def removeE (e : En) (n : List UInt8) (l : List ByteArray) : Except Int En :=
 match findE e n with
 | .error f => .error f
 | .ok ty => if faultI ty.syn l ≠ 0 then .error (faultI ty.syn l) else if valsA e.ats (bs ty.name) = [] then .error 7 else match dropF ty.syn (valsA e.ats (bs ty.name)) l with
  | none => .error 7
  | some left => .ok (withE e (bs ty.name) (if l = [] then [] else left))
def replaceE (e : En) (n : List UInt8) (l : List ByteArray) : Except Int En :=
 match findE e n with
 | .error f => .error f
 | .ok ty => if l = [] then .ok (withE e (bs ty.name) []) else addE (withE e (bs ty.name) []) n l
def hasE (e : En) (n : List UInt8) (v : ByteArray) : Bool := match findS (sml.lowL n) with
 | none => false
 | some ty => rightE e && decide (0 ≤ likeI ty.syn (valsA e.ats (bs ty.name)) v)
def valuesE (e : En) (n : List UInt8) : List ByteArray := match findS (sml.lowL n) with
 | none => []
 | some ty => if rightE e = true then valsA e.ats (bs ty.name) else []
theorem findE_ok {e : En} {n : List UInt8} {ty : Ty} (h : findE e n = .ok ty) : rightE e = true ∧ findS (sml.lowL n) = some ty := by
 unfold findE at h
 by_cases hr : rightE e = false
 ·rw [if_pos hr] at h; cases h
 ·rw [if_neg hr] at h
  cases hf : findS (sml.lowL n) with
  | none => rw [hf] at h; cases h
  | some t =>
   rw [hf] at h
   cases h
   exact ⟨by simpa using hr, rfl⟩
theorem findE_of {e : En} {n : List UInt8} {ty : Ty} (h1 : rightE e = true) (h2 : findS (sml.lowL n) = some ty) : findE e n = .ok ty := by
 unfold findE
 rw [if_neg (by rw [h1]; simp), h2]
theorem ty_self {n : List UInt8} {ty : Ty} (h : findS n = some ty) : tyOf (bs ty.name) = some ty := by
 unfold tyOf
 rw [bs_data, (findS_some h).2]
 exact h
theorem right_iff {e : En} : rightE e = true ↔ dnw.rdnOK e.rdn = true ∧ atsF none e.ats = true := by unfold rightE; rw [Bool.and_eq_true]
theorem vals_ok {L : List At} {ty : Ty} {n : List UInt8} (h : atsF none L = true) (hf : findS n = some ty) : (∀ v ∈ valsA L (bs ty.name), okV ty.syn v = true) ∧ ((valsA L (bs ty.name)).map (nv ty.syn)).Nodup := by
 obtain ⟨lo, mid, hi, hp⟩ := part_of (bs ty.name) L none h
 rw [vals_part hp]
 rcases hp.mid with rfl | ⟨v, rfl⟩
 ·exact ⟨fun v hv => (by cases hv), List.nodup_nil⟩
 ·have h1 := ((atsF_iff _ _).1 h).1 ⟨bs ty.name, v⟩ (by rw [hp.eq]; simp)
  unfold atOK at h1
  rw [show tyOf (⟨bs ty.name, v⟩ : At).t = some ty from ty_self hf] at h1
  simp only [valsOK, Bool.and_eq_true] at h1
  have := (fresh_iff v [] (by simp) List.nodup_nil).1 h1.2
  simpa [midV] using this
theorem atOK_of {ty : Ty} {n : List UInt8} {l : List ByteArray} (hf : findS n = some ty) (h1 : l ≠ []) (h2 : l.length ≤ mostT ty.single) (h3 : ∀ v ∈ l, okV ty.syn v = true) (h4 : (l.map (nv ty.syn)).Nodup) : atOK ⟨bs ty.name, l⟩ = true := by
 unfold atOK
 rw [show tyOf (⟨bs ty.name, l⟩ : At).t = some ty from ty_self hf]
 show valsOK ty l = true
 unfold valsOK
 rw [Bool.and_eq_true, Bool.and_eq_true, decide_eq_true_iff, decide_eq_true_iff]
 exact ⟨⟨List.length_pos_iff.2 h1, h2⟩, (fresh_iff l [] (by simp) List.nodup_nil).2 ⟨h3, by simpa using h4⟩⟩
theorem add_ok {e a : En} {n : List UInt8} {l : List ByteArray} (h : addE e n l = .ok a) : ∃ ty, rightE e = true ∧ findS (sml.lowL n) = some ty ∧ l ≠ [] ∧ (∀ v ∈ l, okV ty.syn v = true) ∧
  ((valsA e.ats (bs ty.name) ++ l).map (nv ty.syn)).Nodup ∧ (valsA e.ats (bs ty.name) ++ l).length ≤ mostT ty.single ∧ a = withE e (bs ty.name) (valsA e.ats (bs ty.name) ++ l) := by
 unfold addE at h
 cases hf : findE e n with
 | error f => rw [hf] at h; cases h
 | ok ty =>
  rw [hf] at h
  obtain ⟨h1, h2⟩ := findE_ok hf
  simp only at h
  by_cases hl : l = []
  ·rw [if_pos hl] at h; cases h
  ·rw [if_neg hl] at h
   by_cases hz : faultI ty.syn l = 0
   ·rw [if_neg (not_not_intro hz)] at h
    have hok := (fault_zero l).1 hz
    rw [join_fresh l _ hok] at h
    by_cases hfr : fresh ty.syn (valsA e.ats (bs ty.name)) l = true
    ·rw [if_pos hfr] at h
     simp only at h
     by_cases hm : mostT ty.single < (valsA e.ats (bs ty.name) ++ l).length
     ·rw [if_pos hm] at h; cases h
     ·rw [if_neg hm] at h
      cases h
      obtain ⟨o1, o2⟩ := vals_ok (right_iff.1 h1).2 h2
      exact ⟨ty, h1, h2, hl, hok, ((fresh_iff l _ o1 o2).1 hfr).2, by omega, rfl⟩
    ·rw [if_neg hfr] at h; cases h
   ·rw [if_pos hz] at h; cases h
theorem withE_false {e : En} {n : ByteArray} {l : List ByteArray} (h : l ≠ []) : withE e n l = ⟨e.rdn, withF n l false e.ats⟩ := by unfold withE; rw [decide_eq_false h]
theorem app_ne {α : Type} {p l : List α} (h : l ≠ []) : p ++ l ≠ [] := fun e => h (List.append_eq_nil_iff.1 e).2
theorem add_right {e a : En} {n : List UInt8} {l : List ByteArray} (h : addE e n l = .ok a) : rightE a = true := by
 obtain ⟨ty, h1, h2, h3, h4, h5, h6, rfl⟩ := add_ok h
 rw [withE_false (app_ne h3)]
 have hr := right_iff.1 h1
 refine right_iff.2 ⟨hr.1, with_right hr.2 fun _ => atOK_of h2 (app_ne h3) h6 ?_ h5⟩
 intro v hv
 rcases List.mem_append.1 hv with hv | hv
 ·exact (vals_ok hr.2 h2).1 v hv
 ·exact h4 v hv
theorem vals_with {e : En} {n : ByteArray} {l : List ByteArray} (h : rightE e = true) : valsA (withE e n l).ats n = l := by
 obtain ⟨lo, mid, hi, hp⟩ := part_of n e.ats none (right_iff.1 h).2
 unfold withE
 rw [vals_part (part_with hp l (decide (l = [])))]
 by_cases hl : l = []
 ·subst hl; rfl
 ·rw [decide_eq_false hl]; rfl
theorem like_in {syn : Int} {l : List ByteArray} {v : ByteArray} (h : v ∈ l) (hv : okV syn v = true) : 0 ≤ likeI syn l v := by
 by_cases hn : likeI syn l v < 0
 ·rw [likeI_neg, likeN_none] at hn
  have := hn v h
  rw [alike_self hv] at this
  cases this
 ·omega
theorem like_not {syn : Int} {p l : List ByteArray} {v : ByteArray} (hn : ((p ++ l).map (nv syn)).Nodup) (h : v ∈ l) : likeI syn p v < 0 := by
 rw [likeI_neg, likeN_none]
 intro x hx
 rw [Bool.eq_false_iff]
 intro ha
 rw [List.map_append, List.nodup_append] at hn
 exact hn.2.2 _ (List.mem_map.2 ⟨x, hx, rfl⟩) _ (List.mem_map.2 ⟨v, h, rfl⟩) (alike_iff.1 ha).2.2
theorem back {e a : En} {n : List UInt8} {l : List ByteArray} (h : addE e n l = .ok a) : removeE a n l = .ok e ∧ rightE a = true ∧ ∀ v ∈ l, hasE a n v = true ∧ hasE e n v = false := by
 have hra := add_right h
 obtain ⟨ty, h1, h2, h3, h4, h5, h6, rfl⟩ := add_ok h
 have hv := vals_with (n := bs ty.name) (l := valsA e.ats (bs ty.name) ++ l) h1
 refine ⟨?_, hra, fun v hvl => ⟨?_, ?_⟩⟩
 ·unfold removeE
  rw [findE_of hra h2]
  simp only
  rw [if_neg (not_not_intro ((fault_zero l).2 h4)), hv, if_neg (app_ne h3)]
  have hok : ∀ u ∈ valsA e.ats (bs ty.name) ++ l, okV ty.syn u = true := by
   intro u hu
   rcases List.mem_append.1 hu with hu | hu
   ·exact (vals_ok (right_iff.1 h1).2 h2).1 u hu
   ·exact h4 u hu
  rw [drop_back l _ hok h5]
  simp only
  rw [if_neg h3, withE_false (app_ne h3)]
  unfold withE
  simp only
  rw [with_back (right_iff.1 h1).2]
 ·unfold hasE
  rw [h2]
  simp only
  rw [hra, hv, Bool.true_and, decide_eq_true_iff]
  exact like_in (List.mem_append_right _ hvl) (h4 v hvl)
 ·unfold hasE
  rw [h2]
  simp only
  rw [h1, Bool.true_and, decide_eq_false_iff_not]
  have := like_not h5 hvl
  omega
theorem drop_one {syn : Int} {l : List ByteArray} {v : ByteArray} {k : Nat} (h : likeN syn l v = some k) : dropF syn l [v] = some (l.take k ++ l.drop (k + 1)) := by
 unfold dropF
 rw [h]
 rfl
end etp
end Go.Proofs.YtcolcogobdgejaaGreatDoor
/-! EntS -/
namespace Go.Proofs.YtcolcogobdgejaaGreatDoor
namespace etp
open atp atw
set_option linter.unusedVariables false
set_option linter.unusedSimpArgs false
open dnw (Av)
def namedA (ats : List At) (a : Av) : Bool := match findS a.t.data.toList with
 | none => false
 | some ty => decide (0 ≤ likeI ty.syn (valsA ats a.t) a.v)
def namedE (e : En) : Bool := rightE e && e.rdn.all (namedA e.ats)
theorem find_small {n : List UInt8} {ty : Ty} (h : findS n = some ty) : findS (sml.lowL n) = some ty := (find_low.2 h).1
end etp
end Go.Proofs.YtcolcogobdgejaaGreatDoor
/-! EntK -/
namespace Go.Proofs.YtcolcogobdgejaaGreatDoor
open Go.RowKit
namespace etw
open atp atw etp
open dnw (Av Avas)
open tupw (Strs strs_below)
set_option linter.unusedVariables false
set_option linter.unusedSimpArgs false
structure EnvE (w : World) : Prop where
 e : prw.Env w
 t : dnw.Tabs w
 y : TyEnv w
theorem envE_below {w w' : World} (h : EnvE w) (hb : Below w.heap.size w w') : EnvE w' := ⟨prw.env_below h.e hb, dnw.tabs_below h.t hb, tyEnv_below h.y hb⟩
def ElemAt (w : World) (x : Value) (vs : List ByteArray) : Prop := ∃ a c, x = .slice a vs.length c ∧ vs.length ≤ c ∧ Strs w a vs
def Ats (w : World) (ao : Option Addr) (l : List At) : Prop := ∀ i (hi : i < l.length), ∃ b o a c, ao = some ⟨b, o, none⟩ ∧ w.cell? ⟨b, o + i * 2, none⟩ = some (.string l[i].t) ∧ w.cell? ⟨b, o + i * 2 + 1, none⟩ = some (.slice a l[i].vs.length c) ∧ l[i].vs.length ≤ c ∧ Strs w a l[i].vs
theorem elem_below {w w' : World} {x : Value} {vs : List ByteArray} (h : ElemAt w x vs) (hb : Below w.heap.size w w') : ElemAt w' x vs := by
 obtain ⟨a, c, h1, h2, h3⟩ := h
 exact ⟨a, c, h1, h2, strs_below h3 hb⟩
theorem ats_below {w w' : World} {ao : Option Addr} {l : List At} (h : Ats w ao l) (hb : Below w.heap.size w w') : Ats w' ao l := by
 intro i hi
 obtain ⟨b, o, a, c, h1, h2, h3, h4, h5⟩ := h i hi
 exact ⟨b, o, a, c, h1, (hb.cell (World.block_lt_of_cell? w _ h2)).trans h2, (hb.cell (World.block_lt_of_cell? w _ h3)).trans h3, h4, strs_below h5 hb⟩
theorem strs_same {w w' : World} {a : Option Addr} {vs : List ByteArray} (h : Strs w a vs) (hb : vs ≠ [] → ∀ p, a = some p → w'.heap[p.block]? = w.heap[p.block]?) : Strs w' a vs := by
 intro i hi
 obtain ⟨b, o, e, hc⟩ := h i hi
 exact ⟨b, o, e, (World.cell?_of_block (w := w) (a := ⟨b, o + i, none⟩) (hb (by intro e0; rw [e0] at hi; cases hi) ⟨b, o, none⟩ e)).trans hc⟩
theorem strs_lt {w : World} {a : Option Addr} {vs : List ByteArray} (h : Strs w a vs) (hv : vs ≠ []) : ∃ b o, a = some ⟨b, o, none⟩ ∧ b < w.heap.size := by
 cases vs with
 | nil => exact absurd rfl hv
 | cons x t =>
  obtain ⟨b, o, e, hc⟩ := h 0 (by simp)
  exact ⟨b, o, e, World.block_lt_of_cell? w _ hc⟩
theorem own_elem {w : World} {B : Nat} {v : Value} {l : List ByteArray} (h : prw.OwnT w B v l) : ElemAt w v l := by
 obtain ⟨ao, cap, rfl, hc, h1⟩ := prw.ownT_cells h
 refine ⟨ao, cap, rfl, hc, fun i hi => ?_⟩
 obtain ⟨g, rfl, hg, h2⟩ := h1 (by intro e0; rw [e0] at hi; cases hi)
 refine ⟨g, 0, rfl, ?_⟩
 exact h2 i _ (List.getElem?_eq_getElem hi)
theorem elem_form {w : World} {v : Value} {l : List ByteArray} (h : ElemAt w v l) : ∃ a n c, v = .slice a n c ∧ Hid (n = l.length) ∧ n ≤ c ∧ Strs w a l := by
 obtain ⟨a, c, h1, h2, h3⟩ := h
 exact ⟨a, _, c, h1, rfl, h2, h3⟩
abbrev AV := At × Value
def acell (x : AV) : List Value := [.string x.1.t, x.2]
theorem infoAt : (Tryz.prog.info? 57).map (fun i => (i.zero, i.size, i.bytes)) = some (some (.agg #[.string ByteArray.empty, .slice none 0 0]), 2, 40) := by kernel_rfl
structure OwnA (w : World) (B : Nat) (v : Value) (l : List AV) : Prop where
 outer : kt.SegX w B 57 2 v l.length (l.flatMap acell)
 inner : ∀ x ∈ l, ElemAt w x.2 x.1.vs ∧ (x.1.vs ≠ [] → ∀ k, x.2.ownBlock = some k → v.ownBlock ≠ some k)
theorem ownA_nil (w : World) (B : Nat) : OwnA w B (.slice none 0 0) [] := ⟨kt.segX_nil _ _ _ _, fun x h => by cases h⟩
theorem elem_lt {w : World} {x : Value} {vs : List ByteArray} (h : ElemAt w x vs) (hv : vs ≠ []) : ∀ k, x.ownBlock = some k → k < w.heap.size := by
 obtain ⟨a, c, rfl, h2, h3⟩ := h
 obtain ⟨b, o, rfl, hb⟩ := strs_lt h3 hv
 intro k hk
 simp [Value.ownBlock] at hk
 omega
theorem elem_same {w w' : World} {x : Value} {vs : List ByteArray} (h : ElemAt w x vs) (hb : vs ≠ [] → ∀ k, x.ownBlock = some k → w'.heap[k]? = w.heap[k]?) : ElemAt w' x vs := by
 obtain ⟨a, c, rfl, h2, h3⟩ := h
 refine ⟨a, c, rfl, h2, strs_same h3 fun hv p hp => ?_⟩
 exact hb hv p.block (by rw [hp]; rfl)
theorem ownA_below {w w' : World} {B : Nat} {v : Value} {l : List AV} (h : OwnA w B v l) (hb : Below w.heap.size w w') : OwnA w' B v l :=
 ⟨kt.segX_below h.outer hb, fun x hx => ⟨elem_below (h.inner x hx).1 hb, (h.inner x hx).2⟩⟩
theorem ownA_form {w : World} {B : Nat} {v : Value} {l : List AV} (h : OwnA w B v l) : ∃ ao n cap, v = .slice ao n cap ∧ Hid (n = l.length) ∧ n ≤ cap := by
 obtain ⟨ao, cap, hv, hc⟩ := kt.segX_slice h.outer
 exact ⟨ao, _, cap, hv, rfl, hc⟩
theorem ownA_ats {w : World} {B : Nat} {ao : Option Addr} {n cap : Nat} {l : List AV} (h : OwnA w B (.slice ao n cap) l) : Ats w ao (l.map Prod.fst) := by
 intro i hi
 have hi' : i < l.length := by simpa using hi
 obtain ⟨g, o, cap', hv, _, _, hcell⟩ := kt.segX_cell h.outer (by omega)
 simp only [Value.slice.injEq] at hv
 obtain ⟨rfl, _, rfl⟩ := hv
 have hj : ∀ j, j < 2 → (l.flatMap acell)[i * 2 + j]? = (acell l[i])[j]? := fun j hj => kt.flat_get acell 2 (fun _ => rfl) l i j hi' hj
 obtain ⟨⟨a, c, e, h2, h3⟩, _⟩ := h.inner l[i] (List.getElem_mem hi')
 refine ⟨g, o, a, c, rfl, ?_, ?_, ?_, ?_⟩
 ·have := hcell _ _ (hj 0 (by omega))
  simpa using this
 ·have := hcell (i * 2 + 1) (.slice a l[i].fst.vs.length c) (by rw [hj 1 (by omega), ← e]; rfl)
  rw [Nat.add_assoc]
  simpa using this
 ·simpa using h2
 ·simpa using h3
theorem ownA_app {w : World} {B : Nat} {v : Value} {l : List AV} (t : ByteArray) (x : Value) (vs : List ByteArray) (h : OwnA w B v l) (hx : ElemAt w x vs) (hne : vs ≠ [] → ∀ k, x.ownBlock = some k → v.ownBlock ≠ some k) (hl : l.length ≤ 1000000) (hB : B ≤ w.heap.size) :
  ∃ ao n cap w1, (Builtin.append_ #[23, 23] 23 #[v, .slice (some ⟨w.heap.size, 0, none⟩) 1 1]).run Tryz.prog (w.alloc (.cells #[.string t, x] 57)) = .ok (.slice ao n cap) w1 ∧ OwnA w1 B (.slice ao n cap) (l ++ [(⟨t, vs⟩, x)]) ∧ Below B w w1 ∧ n = l.length + 1 ∧ n ≤ cap ∧ w.heap.size ≤ w1.heap.size ∧
   (∀ y us, ElemAt w y us → (us ≠ [] → ∀ k, y.ownBlock = some k → v.ownBlock ≠ some k) → ElemAt w1 y us ∧ (us ≠ [] → ∀ k, y.ownBlock = some k → (Value.slice ao n cap).ownBlock ≠ some k)) ∧
   (∀ k, k < w.heap.size → v.ownBlock ≠ some k → w1.heap[k]? = w.heap[k]?) ∧ (∀ k, (Value.slice ao n cap).ownBlock = some k → v.ownBlock = some k ∨ w.heap.size ≤ k) := by
 have hA : Below w.heap.size w (w.alloc (.cells #[.string t, x] 57)) := (Below.refl _ _).alloc (Nat.le_refl _) _
 have hn := ownA_below h hA
 obtain ⟨a, c, hxe, _, _⟩ := id hx
 obtain ⟨v', w1, h1, h2, h3, h4⟩ := kt.segX_append (P := Tryz.prog) (t := 23) (ty := 23) Tryz.underlying23 infoAt rfl (by omega) ⟨w.heap.size, 0, none⟩ 1 1 (acell (⟨t, vs⟩, x)) rfl (fun j u hj => by
   rw [kt.addr_add, World.cell?_alloc_new]
   simpa [acell] using hj) (by intro u hu; simp [acell] at hu; rcases hu with rfl | rfl <;> (try rw [hxe]) <;> rfl) hn.outer (by unfold maxLen; omega) (by omega) (by simp; omega)
 obtain ⟨ao, cap, rfl, hc⟩ := kt.segX_slice h2
 have hs := hA.size
 have key : ∀ y us, ElemAt w y us → (us ≠ [] → ∀ k, y.ownBlock = some k → v.ownBlock ≠ some k) → ElemAt w1 y us ∧ (us ≠ [] → ∀ k, y.ownBlock = some k → (Value.slice ao (l.length + 1) cap).ownBlock ≠ some k) := by
  intro y us hy hd
  have hy1 := elem_below hy hA
  refine ⟨elem_same hy1 fun hv k hk => h3.block k (elem_lt hy1 hv k hk) (fun e => hd hv k hk e.symm), fun hv k hk e2 => ?_⟩
  rcases h4 k e2 with e3 | e3
  ·exact hd hv k hk e3
  ·have := elem_lt hy1 hv k hk; omega
 refine ⟨ao, _, cap, w1, h1, ⟨?_, fun y hy => ?_⟩, ((Below.refl B w).alloc hB _).trans ((Below.refl B _).grown h3 (by simp; omega) (fun k hk => (kt.segX_lt hn.outer k hk).1)), rfl, hc, ?_, key, fun k hk hne => (h3.block k (by simp; omega) (fun e => hne e.symm)).trans (hA.block k hk), fun k hk => by
  rcases h4 k hk with e | e
  ·exact Or.inl e
  ·exact Or.inr (by omega)⟩
 ·rw [List.length_append, List.flatMap_append]
  simpa using h2
 ·rcases List.mem_append.1 hy with hy | hy
  ·exact key y.2 y.1.vs (h.inner y hy).1 (h.inner y hy).2
  ·rw [List.mem_singleton] at hy
   subst hy
   exact key x vs hx hne
 ·exact Nat.le_trans hs h3.size
structure Bd (e : En) : Prop where
 rl : e.rdn.length ≤ 100000
 rs : ∀ a ∈ e.rdn, a.t.size ≤ 100000 ∧ a.v.size ≤ 100000
 al : e.ats.length ≤ 100000
 as_ : ∀ a ∈ e.ats, a.t.size ≤ 100000 ∧ a.vs.length ≤ 100000 ∧ ∀ v ∈ a.vs, v.size ≤ 100000
theorem bd_smalls {e : En} (h : Bd e) : e.rdn.length ≤ 4 → dnw.Smalls e.rdn := fun _ x hx => ⟨(h.rs x hx).1, by have := (h.rs x hx).2; omega⟩
def EntV (w : World) (v : Value) (e : En) : Prop := ∃ ro rc ao ac, v = .agg #[.slice ro e.rdn.length rc, .slice ao e.ats.length ac] ∧ e.rdn.length ≤ rc ∧ e.ats.length ≤ ac ∧ Avas w ro e.rdn ∧ Ats w ao e.ats
theorem entV_below {w w' : World} {v : Value} {e : En} (h : EntV w v e) (hb : Below w.heap.size w w') : EntV w' v e := by
 obtain ⟨ro, rc, ao, ac, h1, h2, h3, h4, h5⟩ := h
 exact ⟨ro, rc, ao, ac, h1, h2, h3, dnw.avas_below h4 hb, ats_below h5 hb⟩
end etw
end Go.Proofs.YtcolcogobdgejaaGreatDoor
/-! LikeW -/
namespace Go.Proofs.YtcolcogobdgejaaGreatDoor
open Go.RowKit
namespace etw
open atp atw etp
open tupw (Strs strs_below)
set_option linter.unusedVariables false
set_option linter.unusedSimpArgs false
def Fit (l : List ByteArray) : Prop := ∀ v ∈ l, v.size ≤ 140737488351232
def VB (w : World) (p : Nat) (v : ByteArray) : Prop := w.heap[p]? = some (.cells #[.string v] 9 (0, 0))
theorem vb_new (w : World) (v : ByteArray) : VB (w.alloc (.cells #[.string v] 9)) w.heap.size v := heap_alloc_new w _
theorem vb_cell {w : World} {p : Nat} {v : ByteArray} (h : VB w p v) : w.cell? ⟨p, 0, none⟩ = some (.string v) := by rw [Lib.cell_of_heap h]; rfl
theorem vb_below {w w' : World} {p : Nat} {v : ByteArray} (h : VB w p v) (hb : Below w.heap.size w w') : VB w' p v := (hb.block p (kt.bld_lt h)).trans h
theorem equal_alike (nm : ByteArray) (syn : Int) (sg : Bool) (a b : ByteArray) (w : World) (ha : a.size ≤ 140737488351232) (hb : b.size ≤ 140737488351232) (hE : EnvE w) :
  ∃ er : Int, (alike syn a b = true → er = 0) ∧ Calls Tryz.prog 130 #[.agg #[.string nm, .int .i64 syn, .bool sg], .string a, .string b] w fun e w' => e = .returned (.tuple #[.bool (alike syn a b), .int .i64 er]) ∧ Below w.heap.size w w' :=
 ⟨_, fun h => alike_err h, equal_any nm syn sg a b w ha hb (Lib.hid hE.e) (Lib.hid hE.t)⟩
theorem requal_alike (nm : ByteArray) (syn : Int) (sg : Bool) (a b : ByteArray) (w : World) (ha : a.size ≤ 140737488351232) (hb : b.size ≤ 140737488351232) :
  ∃ er : Int, (alike syn a b = true → er = 0) ∧ Calls Tryz.prog 74 #[.agg #[.string nm, .int .i64 syn, .bool sg], .string a, .string b] w fun e w' => e = .returned (.tuple #[.bool (alike syn a b), .int .i64 er]) ∧ Below w.heap.size w w' :=
 ⟨_, fun h => alike_err h, requal_any nm syn sg a b w ha hb⟩
set_option maxRecDepth 20000 in
set_option maxHeartbeats 4000000 in
theorem clo_any (nm : ByteArray) (syn : Int) (sg : Bool) (v s : ByteArray) (bt bv : Nat) (w : World) (hs : s.size ≤ 140737488351232) (hv : v.size ≤ 140737488351232) (hE : Hid (EnvE w)) (hT : Hid (TB w bt nm syn sg)) (hV : Hid (VB w bv v)) :
  Calls Tryz.prog 129 #[.string s, .pointer (some ⟨bt, 0, none⟩), .pointer (some ⟨bv, 0, none⟩)] w fun e w' => e = .returned (.bool (alike syn s v)) ∧ Below w.heap.size w w' := by
 obtain ⟨er, her, CE⟩ := equal_alike nm syn sg s v w hs hv hE.out
 have HC := Lib.hid CE
 obtain ⟨k0, k1, k2⟩ := tb_cells hT.out
 have k3 := vb_cell hV.out
 clear CE
 cases hal : alike syn s v with
 | true =>
  have h0 := her hal
  subst h0
  rw [hal] at HC
  clear her hal
  go_enter Tryz.func129, Tryz.ntmps129
  go_wp2_with fail
  refine HC.out.mono ?_
  rintro e w1 ⟨rfl, hB1⟩
  have HB1 := Lib.hid hB1
  clear hB1 k0 k1 k2 k3
  go_wp2_with fail
  go_ret
  exact ⟨rfl, HB1.out⟩
 | false =>
  rw [hal] at HC
  clear her hal
  go_enter Tryz.func129, Tryz.ntmps129
  go_wp2_with fail
  refine HC.out.mono ?_
  rintro e w1 ⟨rfl, hB1⟩
  have HB1 := Lib.hid hB1
  clear hB1 k0 k1 k2 k3
  go_wp2_with fail
  go_ret
  exact ⟨rfl, HB1.out⟩
set_option maxRecDepth 20000 in
set_option maxHeartbeats 4000000 in
theorem idx_any (syn : Int) (v : ByteArray) (bt bv : Nat) (ao : Option Addr) (cap : Nat) (l : List ByteArray) (w : World) (hl : Hid (Strs w ao l)) (hn : l.length ≤ 1000000)
  (hF : Hid (∀ W, ∀ x ∈ l, Below w.heap.size w W → Calls Tryz.prog 129 #[.string x, .pointer (some ⟨bt, 0, none⟩), .pointer (some ⟨bv, 0, none⟩)] W fun e w' => e = .returned (.bool (alike syn x v)) ∧ Below W.heap.size W w')) :
  Calls Tryz.prog 128 #[.slice ao l.length cap, .func (.func 129) #[] #[.pointer (some ⟨bt, 0, none⟩), .pointer (some ⟨bv, 0, none⟩)]] w fun e w' => e = .returned (.int .i64 (likeI syn l v)) ∧ Below w.heap.size w w' := by
 obtain ⟨N, hN⟩ : ∃ N, l.length = N := ⟨_, rfl⟩
 have HN := Lib.hid hN
 rw [hN]
 rw [hN] at hn
 clear hN
 go_enter Tryz.func128, Tryz.ntmps128
 go_wp2_with fail
 go_loopw [8] (fun iv wr => ∃ i : Nat, i ≤ N ∧ iv = .int .i64 (i : Int) ∧ Hid (Below w.heap.size w wr) ∧ Hid (∀ j (hj : j < l.length), j < i → alike syn l[j] v = false)) (fun iv _ => N - (intOf iv).toNat)
 case atStart => exact ⟨0, Nat.zero_le _, rfl, Below.refl _ _, fun j hj h => absurd h (Nat.not_lt_zero _)⟩
 case round =>
  obtain ⟨i, hi, rfl, hB, hJ⟩ := hrel
  have hsz := hB.out.size
  by_cases hlt : i < N
  ·have hltI : (i : Int) < (N : Int) := by omega
   have hil : i < l.length := by rw [HN.out]; exact hlt
   obtain ⟨b, o, hao, hc0⟩ := (strs_below hl.out hB.out) i hil
   subst hao
   have HF := Lib.hid (hF.out wr l[i] (List.getElem_mem _) hB.out)
   obtain ⟨x, hx⟩ : ∃ x, l[i] = x := ⟨_, rfl⟩
   have HX := Lib.hid hx
   rw [hx] at HF hc0
   clear hx
   cases hal : alike syn x v with
   | true =>
    rw [hal] at HF
    have HR : Hid (likeI syn l v = (i : Int)) := likeI_hit hil (by rw [HX.out]; exact hal) hJ.out
    clear hal
    go_wp2_with (go_at_call 129; refine HF.out.mono ?_; rintro e w1 ⟨rfl, hB1⟩)
    go_ret
    exact ⟨kt.ret_int HR.out.symm, hB.out.trans (‹Below wr.heap.size wr _›.mono hsz)⟩
   | false =>
    rw [hal] at HF
    have HJ : Hid (∀ j (hj : j < l.length), j < i + 1 → alike syn l[j] v = false) := by
     intro j hj h
     by_cases e : j = i
     ·subst e; rw [HX.out]; exact hal
     ·exact hJ.out j hj (by omega)
    clear hal
    go_wp2_with (go_at_call 129; refine HF.out.mono ?_; rintro e w1 ⟨rfl, hB1⟩)
    go_roundw
    case rel => exact ⟨i + 1, by omega, by go_num, hB.out.trans (‹Below wr.heap.size wr _›.mono hsz), HJ⟩
    case measure => simp [intOf]; omega
  ·obtain rfl : N = i := by omega
   have HR : Hid (likeI syn l v = -1) := likeI_none fun j hj => hJ.out j hj (by rw [← HN.out]; exact hj)
   go_wp2_with fail
   go_ret
   exact ⟨kt.ret_int HR.out.symm, hB.out⟩
set_option maxRecDepth 20000 in
set_option maxHeartbeats 4000000 in
theorem like_any (nm : ByteArray) (syn : Int) (sg : Bool) (ao : Option Addr) (cap : Nat) (l : List ByteArray) (v : ByteArray) (w : World) (hl : Hid (Strs w ao l)) (hn : l.length ≤ 1000000) (hf : Hid (Fit l)) (hv : v.size ≤ 140737488351232) (hE : Hid (EnvE w)) :
  Calls Tryz.prog 73 #[.agg #[.string nm, .int .i64 syn, .bool sg], .slice ao l.length cap, .string v] w fun e w' => e = .returned (.int .i64 (likeI syn l v)) ∧ Below w.heap.size w w' := by
 obtain ⟨W1, hW1⟩ : ∃ W, w.alloc (.cells #[.string nm, .int .i64 syn, .bool sg] 29) = W := ⟨_, rfl⟩
 have hB1 : Below w.heap.size w W1 := by rw [← hW1]; exact (Below.refl _ _).alloc (Nat.le_refl _) _
 have hT1 : TB W1 w.heap.size nm syn sg := by rw [← hW1]; exact tb_new w nm syn sg
 obtain ⟨W2, hW2⟩ : ∃ W, W1.alloc (.cells #[.string v] 9) = W := ⟨_, rfl⟩
 have hB2 : Below W1.heap.size W1 W2 := by rw [← hW2]; exact (Below.refl _ _).alloc (Nat.le_refl _) _
 have hV2 : VB W2 W1.heap.size v := by rw [← hW2]; exact vb_new W1 v
 have hB12 := hB1.trans (hB2.mono hB1.size)
 have HB12 := Lib.hid hB12
 have hT2 := tb_below hT1 hB2
 have HF : Hid (Calls Tryz.prog 128 #[.slice ao l.length cap, .func (.func 129) #[] #[.pointer (some ⟨w.heap.size, 0, none⟩), .pointer (some ⟨W1.heap.size, 0, none⟩)]] W2 fun e w' => e = .returned (.int .i64 (likeI syn l v)) ∧ Below W2.heap.size W2 w') :=
  idx_any syn v w.heap.size W1.heap.size ao cap l W2 (Lib.hid (strs_below hl.out hB12)) hn (Lib.hid fun W x hx hb => clo_any nm syn sg v x w.heap.size W1.heap.size W (hf.out x hx) hv (Lib.hid (envE_below (envE_below hE.out hB12) hb)) (Lib.hid (tb_below hT2 hb)) (Lib.hid (vb_below hV2 hb)))
 have hz := hB12.size
 clear hB1 hB2 hT1 hT2 hV2 hB12
 obtain ⟨N, hN⟩ : ∃ N, l.length = N := ⟨_, rfl⟩
 rw [hN] at HF ⊢
 clear hN
 generalize likeI syn l v = r at HF ⊢
 go_enter Tryz.func73, Tryz.ntmps73
 go_wp2_with fail
 refine HF.out.mono ?_
 rintro e w3 ⟨rfl, hB3⟩
 go_wp2_with fail
 go_ret
 exact ⟨rfl, HB12.out.trans (hB3.mono hz)⟩
set_option maxRecDepth 20000 in
set_option maxHeartbeats 4000000 in
theorem rlike_any (nm : ByteArray) (syn : Int) (sg : Bool) (ao : Option Addr) (cap : Nat) (l : List ByteArray) (v : ByteArray) (w : World) (hl : Hid (Strs w ao l)) (hn : l.length ≤ 1000000) (hf : Hid (Fit l)) (hv : v.size ≤ 140737488351232) :
  Calls Tryz.prog 22 #[.agg #[.string nm, .int .i64 syn, .bool sg], .slice ao l.length cap, .string v] w fun e w' => e = .returned (.int .i64 (likeI syn l v)) ∧ Below w.heap.size w w' := by
 obtain ⟨W1, hW1⟩ : ∃ W, w.alloc (.cells #[.string nm, .int .i64 syn, .bool sg] 29) = W := ⟨_, rfl⟩
 have hB1 : Below w.heap.size w W1 := by rw [← hW1]; exact (Below.refl _ _).alloc (Nat.le_refl _) _
 have HT1 : Hid (TB W1 w.heap.size nm syn sg) := by rw [← hW1]; exact tb_new w nm syn sg
 have HB1 := Lib.hid hB1
 clear hB1
 obtain ⟨N, hN⟩ : ∃ N, l.length = N := ⟨_, rfl⟩
 have HN := Lib.hid hN
 rw [hN]
 rw [hN] at hn
 clear hN
 go_enter Tryz.func22, Tryz.ntmps22
 go_wp2_with fail
 go_loopw [7] (fun iv wr => ∃ i : Nat, i ≤ N ∧ iv = .int .i64 (i : Int) ∧ Hid (Below W1.heap.size W1 wr) ∧ Hid (∀ j (hj : j < l.length), j < i → alike syn l[j] v = false)) (fun iv _ => N - (intOf iv).toNat)
 case atStart => exact ⟨0, Nat.zero_le _, rfl, Below.refl _ _, fun j hj h => absurd h (Nat.not_lt_zero _)⟩
 case round =>
  obtain ⟨i, hi, rfl, hB, hJ⟩ := hrel
  have hsz := hB.out.size
  have HBw := Lib.hid (HB1.out.trans (hB.out.mono HB1.out.size))
  have hszw := HBw.out.size
  obtain ⟨n0, n1, n2⟩ := tb_cells (tb_below HT1.out hB.out)
  by_cases hlt : i < N
  ·have hltI : (i : Int) < (N : Int) := by omega
   have hil : i < l.length := by rw [HN.out]; exact hlt
   obtain ⟨b, o, hao, hc0⟩ := (strs_below hl.out HBw.out) i hil
   subst hao
   have hl1 := World.block_lt_of_cell? wr _ n0
   have hl2 := World.block_lt_of_cell? wr _ hc0
   obtain ⟨x, hx⟩ : ∃ x, l[i] = x := ⟨_, rfl⟩
   have HX := Lib.hid hx
   have hxs : x.size ≤ 140737488351232 := by rw [← hx]; exact hf.out _ (List.getElem_mem _)
   rw [hx] at hc0
   clear hx
   have HE0 : Hid (∀ W, ∃ er : Int, (alike syn x v = true → er = 0) ∧ Calls Tryz.prog 74 #[.agg #[.string nm, .int .i64 syn, .bool sg], .string x, .string v] W fun e w' => e = .returned (.tuple #[.bool (alike syn x v), .int .i64 er]) ∧ Below W.heap.size W w') := fun W => requal_alike nm syn sg x v W hxs hv
   have HE1 : ∃ er : Int, (alike syn x v = true → er = 0) ∧ Hid (∀ W, Calls Tryz.prog 74 #[.agg #[.string nm, .int .i64 syn, .bool sg], .string x, .string v] W fun e w' => e = .returned (.tuple #[.bool (alike syn x v), .int .i64 er]) ∧ Below W.heap.size W w') :=
    ⟨_, fun h => alike_err h, fun W => requal_any nm syn sg x v W hxs hv⟩
   obtain ⟨er, her, HE⟩ := HE1
   clear HE0
   cases hal : alike syn x v with
   | true =>
    have h0 := her hal
    subst h0
    rw [hal] at HE
    have HR : Hid (likeI syn l v = (i : Int)) := likeI_hit hil (by rw [HX.out]; exact hal) hJ.out
    clear hal her
    go_wp2_with fail
    go_region_held3 (fun W => W.cell? ⟨w.heap.size, 0, none⟩ = some (.string nm) ∧ W.cell? ⟨w.heap.size, 1, none⟩ = some (.int .i64 syn) ∧ W.cell? ⟨w.heap.size, 2, none⟩ = some (.bool sg) ∧ W.cell? ⟨b, o + i, none⟩ = some (.string x)) (first
      | exact ⟨n0, n1, n2, hc0⟩
      | exact ⟨(hB6.cell (p := ⟨w.heap.size, 0, none⟩) hl1).trans n0, (hB6.cell (p := ⟨w.heap.size, 1, none⟩) hl1).trans n1, (hB6.cell (p := ⟨w.heap.size, 2, none⟩) hl1).trans n2, (hB6.cell (p := ⟨b, o + i, none⟩) hl2).trans hc0⟩)
     (first | (go_at_call 74; refine (HE.out _).mono ?_; rintro e w6 ⟨rfl, hB6⟩) | fail)
    all_goals
     have HB6 := Lib.hid (HBw.out.trans (((Below.refl wr.heap.size wr).drew.trans hB6).mono hszw))
     clear hB6 n0 n1 n2 hc0
     go_wp2_with fail
     go_ret
     exact ⟨kt.ret_int HR.out.symm, HB6.out⟩
   | false =>
    rw [hal] at HE
    have HJ : Hid (∀ j (hj : j < l.length), j < i + 1 → alike syn l[j] v = false) := by
     intro j hj h
     by_cases e : j = i
     ·subst e; rw [HX.out]; exact hal
     ·exact hJ.out j hj (by omega)
    clear hal her
    go_wp2_with fail
    go_region_held3 (fun W => W.cell? ⟨w.heap.size, 0, none⟩ = some (.string nm) ∧ W.cell? ⟨w.heap.size, 1, none⟩ = some (.int .i64 syn) ∧ W.cell? ⟨w.heap.size, 2, none⟩ = some (.bool sg) ∧ W.cell? ⟨b, o + i, none⟩ = some (.string x)) (first
      | exact ⟨n0, n1, n2, hc0⟩
      | exact ⟨(hB6.cell (p := ⟨w.heap.size, 0, none⟩) hl1).trans n0, (hB6.cell (p := ⟨w.heap.size, 1, none⟩) hl1).trans n1, (hB6.cell (p := ⟨w.heap.size, 2, none⟩) hl1).trans n2, (hB6.cell (p := ⟨b, o + i, none⟩) hl2).trans hc0⟩)
     (first | (go_at_call 74; refine (HE.out _).mono ?_; rintro e w6 ⟨rfl, hB6⟩) | fail)
    all_goals
     have HB6 := Lib.hid (hB.out.trans (((Below.refl wr.heap.size wr).drew.trans hB6).mono hsz))
     clear hB6 n0 n1 n2 hc0
     go_wp2_with fail
     go_roundw
     case rel => exact ⟨i + 1, by omega, by go_num, HB6, HJ⟩
     case measure => simp [intOf]; omega
  ·obtain rfl : N = i := by omega
   have HR : Hid (likeI syn l v = -1) := likeI_none fun j hj => hJ.out j hj (by rw [← HN.out]; exact hj)
   go_wp2_with fail
   go_ret
   exact ⟨kt.ret_int HR.out.symm, HBw.out⟩
end etw
end Go.Proofs.YtcolcogobdgejaaGreatDoor
/-! RValW -/
namespace Go.Proofs.YtcolcogobdgejaaGreatDoor
open Go.RowKit
namespace etw
open atp atw etp
open dnw (Av Avas)
open tupw (Strs strs_below)
set_option linter.unusedVariables false
set_option linter.unusedSimpArgs false
set_option maxRecDepth 20000 in
set_option maxHeartbeats 4000000 in
theorem room_any (nm : ByteArray) (syn : Int) (sg : Bool) (w : World) : Calls Tryz.prog 77 #[.agg #[.string nm, .int .i64 syn, .bool sg]] w fun e w' => e = .returned (.int .i64 (mostT sg : Int)) ∧ Below w.heap.size w w' := by
 have hB : Below w.heap.size w (w.alloc (.cells #[.string nm, .int .i64 syn, .bool sg] 29)) := (Below.refl _ _).alloc (Nat.le_refl _) _
 have HB := Lib.hid hB
 clear hB
 cases sg
 all_goals
  go_enter Tryz.func77, Tryz.ntmps77
  go_wp2_with fail
  go_ret
  exact ⟨rfl, HB.out⟩
set_option maxRecDepth 20000 in
set_option maxHeartbeats 4000000 in
theorem most_any (nm : ByteArray) (syn : Int) (sg : Bool) (w : World) : Calls Tryz.prog 67 #[.agg #[.string nm, .int .i64 syn, .bool sg]] w fun e w' => e = .returned (.int .i64 (mostT sg : Int)) ∧ Below w.heap.size w w' := by
 have hB : Below w.heap.size w (w.alloc (.cells #[.string nm, .int .i64 syn, .bool sg] 29)) := (Below.refl _ _).alloc (Nat.le_refl _) _
 have HB := Lib.hid hB
 clear hB
 cases sg
 all_goals
  go_enter Tryz.func67, Tryz.ntmps67
  go_wp2_with fail
  go_ret
  exact ⟨rfl, HB.out⟩
set_option maxRecDepth 20000 in
set_option maxHeartbeats 4000000 in
theorem rvals_any (nm : ByteArray) (syn : Int) (sg : Bool) (ao : Option Addr) (cap : Nat) (l : List ByteArray) (w : World) (hl : Hid (Strs w ao l)) (hn : l.length ≤ 100000) (hcap : l.length ≤ cap) (hf : Hid (Fit l)) (hE : Hid (EnvE w)) :
  Calls Tryz.prog 81 #[.agg #[.string nm, .int .i64 syn, .bool sg], .slice ao l.length cap] w fun e w' => e = .returned (.bool (decide (1 ≤ l.length) && decide (l.length ≤ mostT sg) && fresh syn [] l)) ∧ Below w.heap.size w w' := by
 obtain ⟨W1, hW1⟩ : ∃ W, w.alloc (.cells #[.string nm, .int .i64 syn, .bool sg] 29) = W := ⟨_, rfl⟩
 have hB1 : Below w.heap.size w W1 := by rw [← hW1]; exact (Below.refl _ _).alloc (Nat.le_refl _) _
 have HT1 : Hid (TB W1 w.heap.size nm syn sg) := by rw [← hW1]; exact tb_new w nm syn sg
 obtain ⟨k0, k1, k2⟩ := tb_cells HT1.out
 have HB1 := Lib.hid hB1
 have hs1 := hB1.size
 clear hB1
 obtain ⟨N, hN⟩ : ∃ N, l.length = N := ⟨_, rfl⟩
 have HN := Lib.hid hN
 rw [hN] at hn hcap
 rw [hN]
 clear hN
 have HR := Lib.hid (fun w => room_any nm syn sg w)
 have hm20 : mostT sg ≤ 20 := by unfold mostT; split <;> omega
 have HMS : Hid (∃ M, mostT sg = M) := ⟨_, rfl⟩
 generalize mostT sg = M at HR hm20 ⊢
 clear HMS
 by_cases h1 : 1 ≤ N
 ·have d1 : decide ((N : Int) < 1) = false := decide_eq_false (by omega)
  have d1' : decide (N < 1) = false := decide_eq_false (by omega)
  by_cases h2 : N ≤ M
  ·have d2 : decide (M < N) = false := decide_eq_false (by omega)
   have HRES : Hid ((decide (1 ≤ N) && decide (N ≤ M) && fresh syn [] l) = fresh syn [] l) := by show _ = _; rw [decide_eq_true h1, decide_eq_true h2]; rfl
   rw [HRES.out]
   clear HRES
   go_enter Tryz.func81, Tryz.ntmps81
   go_wp2_with fail
   refine (HR.out _).mono ?_
   rintro e w2 ⟨rfl, hB2⟩
   have HB2 := Lib.hid hB2
   have HT2 := Lib.hid (tb_below HT1.out hB2)
   have HB02 := Lib.hid (HB1.out.trans (hB2.mono hs1))
   have hs2 := HB02.out.size
   clear hB2 k0 k1 k2 hW1
   go_wp2_with fail
   go_loopw [19] (fun iv wr => ∃ i : Nat, i ≤ N ∧ iv = .int .i64 (i : Int) ∧ Hid (Below w2.heap.size w2 wr) ∧ Hid (fresh syn [] l = fresh syn (l.take i) (l.drop i))) (fun iv _ => N - (intOf iv).toNat)
   case atStart => exact ⟨0, Nat.zero_le _, rfl, Below.refl _ _, rfl⟩
   case round =>
    obtain ⟨i, hi, rfl, hB, hJ⟩ := hrel
    have hsz := hB.out.size
    have HBw := Lib.hid (HB02.out.trans (hB.out.mono hs2))
    have hszw := HBw.out.size
    obtain ⟨n0, n1, n2⟩ := tb_cells (tb_below HT2.out hB.out)
    have hl1 := World.block_lt_of_cell? wr _ n0
    by_cases hlt : i < N
    ·have hltI : (i : Int) < (N : Int) := by omega
     have hil : i < l.length := by rw [HN.out]; exact hlt
     have hic : i ≤ cap := by omega
     have HSt := Lib.hid (strs_below hl.out HBw.out)
     obtain ⟨b, o, hao, hc0⟩ := HSt.out i hil
     subst hao
     have HFR : Hid (fresh syn (l.take i) (l.drop i) = (okV syn l[i] && decide (likeI syn (l.take i) l[i] < 0) && fresh syn (l.take (i + 1)) (l.drop (i + 1)))) := by
      show _ = _
      rw [List.drop_eq_getElem_cons hil, List.take_succ_eq_append_getElem hil]
      rfl
     have HST : Hid (Strs wr (some ⟨b, o, none⟩) (l.take i)) := by
      intro j hj
      rw [List.length_take] at hj
      obtain ⟨b', o', e, hc⟩ := HSt.out j (by omega)
      rw [List.getElem_take]
      exact ⟨b', o', e, hc⟩
     have HFT : Hid (Fit (l.take i)) := fun v hv => hf.out v (List.mem_of_mem_take hv)
     have hti : (l.take i).length = i := by rw [List.length_take]; omega
     have hxs : l[i].size ≤ 140737488351232 := hf.out _ (List.getElem_mem _)
     obtain ⟨x, hx⟩ : ∃ x, l[i] = x := ⟨_, rfl⟩
     rw [hx] at HFR hc0 hxs
     clear hx
     have HEr := Lib.hid (envE_below hE.out HBw.out)
     have HC : Hid (∀ W, Below wr.heap.size wr W → Calls Tryz.prog 131 #[.agg #[.string nm, .int .i64 syn, .bool sg], .string x] W fun e w' => e = .returned (.int .i64 (normL syn x.data.toList).2) ∧ Below W.heap.size W w') := fun W hb => check_any nm syn sg x W hxs (Lib.hid (envE_below HEr.out hb).e) (Lib.hid (envE_below HEr.out hb).t)
     have HK : Hid (∀ W, Below wr.heap.size wr W → Calls Tryz.prog 73 #[.agg #[.string nm, .int .i64 syn, .bool sg], .slice (some ⟨b, o, none⟩) i cap, .string x] W fun e w' => e = .returned (.int .i64 (likeI syn (l.take i) x)) ∧ Below W.heap.size W w') := fun W hb => by
      have := like_any nm syn sg (some ⟨b, o, none⟩) cap (l.take i) x W (Lib.hid (strs_below HST.out hb)) (by omega) HFT hxs (Lib.hid (envE_below HEr.out hb))
      rw [hti] at this
      exact this
     have HOK : Hid (okV syn x = decide ((normL syn x.data.toList).2 = 0)) := rfl
     clear hti hxs
     generalize (normL syn x.data.toList).2 = er at HC HOK
     generalize likeI syn (l.take i) x = lk at HK HFR
     by_cases her : er = 0
     ·have q : (er != 0) = false := by rw [bne_eq_false_iff_eq]; exact her
      have HO1 : Hid (okV syn x = true) := by rw [HOK.out]; exact decide_eq_true her
      clear her
      by_cases hlk : lk < 0
      ·have q2 : decide ((0 : Int) ≤ lk) = false := decide_eq_false (by omega)
       have HJ : Hid (fresh syn [] l = fresh syn (l.take (i + 1)) (l.drop (i + 1))) := by
        show _ = _
        rw [hJ.out, HFR.out, HO1.out, decide_eq_true hlk]; rfl
       go_wp2_with fail
       refine wp_region_held_drew (S := fun W => W.cell? ⟨w.heap.size, 0, none⟩ = some (.string nm) ∧ W.cell? ⟨w.heap.size, 1, none⟩ = some (.int .i64 syn) ∧ W.cell? ⟨w.heap.size, 2, none⟩ = some (.bool sg)) (by kernel_rfl) (⟨n0, n1, n2⟩) (fun hHeld => ?_)
       refine tk 0 ⟨some 24,_,_,_,_,_⟩ rfl ?_
       refine tk 1 ⟨some 25,_,_,_,_,_⟩ rfl ?_
       refine tc 2 ⟨some 26,_,_,_,_,_⟩ rfl (fun K hK => ?_)
       go_simp
       go_at_call 131; refine (HC.out _ ((Below.refl wr.heap.size wr).drew)).mono ?_; rintro e w5 ⟨rfl, hB5⟩
       refine hK.out _ _ (⟨(hB5.cell (p := ⟨w.heap.size, 0, none⟩) hl1).trans (n0), (hB5.cell (p := ⟨w.heap.size, 1, none⟩) hl1).trans (n1), (hB5.cell (p := ⟨w.heap.size, 2, none⟩) hl1).trans (n2)⟩) (fun hHeld => ?_)
       clear hK
       try simp only [Act.put, List.setIfInBounds_toArray, List.set_cons_zero, List.set_cons_succ]
       refine tk 3 ⟨some 27,_,_,_,_,_⟩ rfl ?_
       refine tk 4 ⟨some 28,_,_,_,_,_⟩ rfl ?_
       refine tk 5 ⟨some 29,_,_,_,_,_⟩ rfl ?_
       refine tk 6 ⟨some 30,_,_,_,_,_⟩ rfl ?_
       refine tk 7 ⟨some 31,_,_,_,_,_⟩ rfl ?_
       refine tk 8 ⟨some 32,_,_,_,_,_⟩ rfl ?_
       refine tk 9 ⟨some 33,_,_,_,_,_⟩ rfl ?_
       refine tc 10 ⟨some 34,_,_,_,_,_⟩ rfl (fun K hK => ?_)
       go_simp
       go_at_call 73; refine (HK.out _ (((Below.refl wr.heap.size wr).drew).trans hB5)).mono ?_; rintro e w6 ⟨rfl, hB6⟩
       refine hK.out _ _ (⟨(hB6.cell (p := ⟨w.heap.size, 0, none⟩) (Nat.lt_of_lt_of_le hl1 hB5.size)).trans ((hB5.cell (p := ⟨w.heap.size, 0, none⟩) hl1).trans (n0)), (hB6.cell (p := ⟨w.heap.size, 1, none⟩) (Nat.lt_of_lt_of_le hl1 hB5.size)).trans ((hB5.cell (p := ⟨w.heap.size, 1, none⟩) hl1).trans (n1)), (hB6.cell (p := ⟨w.heap.size, 2, none⟩) (Nat.lt_of_lt_of_le hl1 hB5.size)).trans ((hB5.cell (p := ⟨w.heap.size, 2, none⟩) hl1).trans (n2))⟩) (fun hHeld => ?_)
       clear hK
       try simp only [Act.put, List.setIfInBounds_toArray, List.set_cons_zero, List.set_cons_succ]
       refine tk 11 ⟨some 35,_,_,_,_,_⟩ rfl ?_
       refine tk 12 ⟨some 36,_,_,_,_,_⟩ rfl ?_
       refine wpAnyH_done (by kernel_rfl) ?_ _
       have HB6 := Lib.hid (hB.out.trans ((((Below.refl wr.heap.size wr).drew.trans hB5).trans (hB6.mono hB5.size)).mono hsz))
       clear hB5 hB6 hHeld n0 n1 n2 hc0
       go_wp2_with fail
       go_roundw
       case rel => exact ⟨i + 1, by omega, by go_num, HB6, HJ⟩
       case measure => simp [intOf]; omega
      ·have q2 : decide ((0 : Int) ≤ lk) = true := decide_eq_true (by omega)
       have HJ : Hid (fresh syn [] l = false) := by
        show _ = _
        rw [hJ.out, HFR.out, decide_eq_false hlk, Bool.and_false, Bool.false_and]
       go_wp2_with fail
       refine wp_region_held_drew (S := fun W => W.cell? ⟨w.heap.size, 0, none⟩ = some (.string nm) ∧ W.cell? ⟨w.heap.size, 1, none⟩ = some (.int .i64 syn) ∧ W.cell? ⟨w.heap.size, 2, none⟩ = some (.bool sg)) (by kernel_rfl) (⟨n0, n1, n2⟩) (fun hHeld => ?_)
       refine tk 0 ⟨some 24,_,_,_,_,_⟩ rfl ?_
       refine tk 1 ⟨some 25,_,_,_,_,_⟩ rfl ?_
       refine tc 2 ⟨some 26,_,_,_,_,_⟩ rfl (fun K hK => ?_)
       go_simp
       go_at_call 131; refine (HC.out _ ((Below.refl wr.heap.size wr).drew)).mono ?_; rintro e w5 ⟨rfl, hB5⟩
       refine hK.out _ _ (⟨(hB5.cell (p := ⟨w.heap.size, 0, none⟩) hl1).trans (n0), (hB5.cell (p := ⟨w.heap.size, 1, none⟩) hl1).trans (n1), (hB5.cell (p := ⟨w.heap.size, 2, none⟩) hl1).trans (n2)⟩) (fun hHeld => ?_)
       clear hK
       try simp only [Act.put, List.setIfInBounds_toArray, List.set_cons_zero, List.set_cons_succ]
       refine tk 3 ⟨some 27,_,_,_,_,_⟩ rfl ?_
       refine tk 4 ⟨some 28,_,_,_,_,_⟩ rfl ?_
       refine tk 5 ⟨some 29,_,_,_,_,_⟩ rfl ?_
       refine tk 6 ⟨some 30,_,_,_,_,_⟩ rfl ?_
       refine tk 7 ⟨some 31,_,_,_,_,_⟩ rfl ?_
       refine tk 8 ⟨some 32,_,_,_,_,_⟩ rfl ?_
       refine tk 9 ⟨some 33,_,_,_,_,_⟩ rfl ?_
       refine tc 10 ⟨some 34,_,_,_,_,_⟩ rfl (fun K hK => ?_)
       go_simp
       go_at_call 73; refine (HK.out _ (((Below.refl wr.heap.size wr).drew).trans hB5)).mono ?_; rintro e w6 ⟨rfl, hB6⟩
       refine hK.out _ _ (⟨(hB6.cell (p := ⟨w.heap.size, 0, none⟩) (Nat.lt_of_lt_of_le hl1 hB5.size)).trans ((hB5.cell (p := ⟨w.heap.size, 0, none⟩) hl1).trans (n0)), (hB6.cell (p := ⟨w.heap.size, 1, none⟩) (Nat.lt_of_lt_of_le hl1 hB5.size)).trans ((hB5.cell (p := ⟨w.heap.size, 1, none⟩) hl1).trans (n1)), (hB6.cell (p := ⟨w.heap.size, 2, none⟩) (Nat.lt_of_lt_of_le hl1 hB5.size)).trans ((hB5.cell (p := ⟨w.heap.size, 2, none⟩) hl1).trans (n2))⟩) (fun hHeld => ?_)
       clear hK
       try simp only [Act.put, List.setIfInBounds_toArray, List.set_cons_zero, List.set_cons_succ]
       refine tk 11 ⟨some 35,_,_,_,_,_⟩ rfl ?_
       refine tk 12 ⟨some 36,_,_,_,_,_⟩ rfl ?_
       refine wpAnyH_done (by kernel_rfl) ?_ _
       have HB6 := Lib.hid (HBw.out.trans ((((Below.refl wr.heap.size wr).drew.trans hB5).trans (hB6.mono hB5.size)).mono hszw))
       clear hB5 hB6 hHeld n0 n1 n2 hc0
       go_wp2_with fail
       go_ret
       exact ⟨kt.ret_bool HJ.out.symm, HB6.out⟩
     ·have q : (er != 0) = true := by rw [bne_iff_ne]; exact her
      have HJ : Hid (fresh syn [] l = false) := by
       show _ = _
       rw [hJ.out, HFR.out, HOK.out, decide_eq_false her]; rfl
      clear her
      go_wp2_with fail
      refine wp_region_held_drew (S := fun W => W.cell? ⟨w.heap.size, 0, none⟩ = some (.string nm) ∧ W.cell? ⟨w.heap.size, 1, none⟩ = some (.int .i64 syn) ∧ W.cell? ⟨w.heap.size, 2, none⟩ = some (.bool sg)) (by kernel_rfl) (⟨n0, n1, n2⟩) (fun hHeld => ?_)
      refine tk 0 ⟨some 24,_,_,_,_,_⟩ rfl ?_
      refine tk 1 ⟨some 25,_,_,_,_,_⟩ rfl ?_
      refine tc 2 ⟨some 26,_,_,_,_,_⟩ rfl (fun K hK => ?_)
      go_simp
      go_at_call 131; refine (HC.out _ ((Below.refl wr.heap.size wr).drew)).mono ?_; rintro e w5 ⟨rfl, hB5⟩
      refine hK.out _ _ (⟨(hB5.cell (p := ⟨w.heap.size, 0, none⟩) hl1).trans (n0), (hB5.cell (p := ⟨w.heap.size, 1, none⟩) hl1).trans (n1), (hB5.cell (p := ⟨w.heap.size, 2, none⟩) hl1).trans (n2)⟩) (fun hHeld => ?_)
      clear hK
      try simp only [Act.put, List.setIfInBounds_toArray, List.set_cons_zero, List.set_cons_succ]
      refine tk 3 ⟨some 27,_,_,_,_,_⟩ rfl ?_
      refine tk 4 ⟨some 28,_,_,_,_,_⟩ rfl ?_
      refine tu 5 ⟨some 29,_,_,_,_,_⟩ rfl ?_
      refine tu 6 ⟨some 30,_,_,_,_,_⟩ rfl ?_
      refine tu 7 ⟨some 31,_,_,_,_,_⟩ rfl ?_
      refine tu 8 ⟨some 32,_,_,_,_,_⟩ rfl ?_
      refine tu 9 ⟨some 33,_,_,_,_,_⟩ rfl ?_
      refine tu 10 ⟨some 34,_,_,_,_,_⟩ rfl ?_
      refine tu 11 ⟨some 35,_,_,_,_,_⟩ rfl ?_
      refine tk 12 ⟨some 36,_,_,_,_,_⟩ rfl ?_
      refine wpAnyH_done (by kernel_rfl) ?_ _
      have HB5 := Lib.hid (HBw.out.trans (((Below.refl wr.heap.size wr).drew.trans hB5).mono hszw))
      clear hB5 hHeld n0 n1 n2 hc0
      go_wp2_with fail
      go_ret
      exact ⟨kt.ret_bool HJ.out.symm, HB5.out⟩
    ·obtain rfl : N = i := by omega
     have HJ : Hid (fresh syn [] l = true) := by
      show _ = _
      rw [hJ.out, ← HN.out, List.drop_length]; rfl
     go_wp2_with fail
     go_ret
     exact ⟨kt.ret_bool HJ.out.symm, HBw.out⟩
  ·have d2 : decide (M < N) = true := decide_eq_true (by omega)
   have HRES : Hid ((decide (1 ≤ N) && decide (N ≤ M) && fresh syn [] l) = false) := by show _ = _; rw [decide_eq_false h2, Bool.and_false, Bool.false_and]
   go_enter Tryz.func81, Tryz.ntmps81
   go_wp2_with fail
   refine (HR.out _).mono ?_
   rintro e w2 ⟨rfl, hB2⟩
   have HB02 := Lib.hid (HB1.out.trans (hB2.mono hs1))
   clear hB2 k0 k1 k2 hW1
   go_wp2_with fail
   go_ret
   exact ⟨kt.ret_bool HRES.out.symm, HB02.out⟩
 ·have d1 : decide ((N : Int) < 1) = true := decide_eq_true (by omega)
  have d1' : decide (N < 1) = true := decide_eq_true (by omega)
  have HRES : Hid ((decide (1 ≤ N) && decide (N ≤ M) && fresh syn [] l) = false) := by show _ = _; rw [decide_eq_false h1]; rfl
  obtain rfl : N = 0 := by omega
  clear h1
  go_enter Tryz.func81, Tryz.ntmps81
  go_wp2_with fail
  go_ret
  exact ⟨kt.ret_bool HRES.out.symm, HB1.out⟩
end etw
end Go.Proofs.YtcolcogobdgejaaGreatDoor
/-! DKeyW -/
namespace Go.Proofs.YtcolcogobdgejaaGreatDoor
open Go.RowKit
namespace dnw
open dnp
set_option linter.unusedVariables false
set_option linter.unusedSimpArgs false
set_option maxRecDepth 20000 in
theorem dkey_any (ao : Option Addr) (cap : Nat) (l : List Av) (w : World) (hA : Hid (Avas w ao l)) (hE : Hid (prw.Env w)) (hT : Hid (Tabs w)) (hS : Hid (l.length ≤ 4 → Smalls l)) (hc : l.length ≤ cap) :
  Calls Tryz.prog 80 #[.slice ao l.length cap] w fun e w' => KeyE l e ∧ Below w.heap.size w w' := by
 have CR := rightRdn_any ao cap l w hA hE hS hc
 have CK : rdnOK l = true → Hid (∀ W, Below w.heap.size w W → Calls Tryz.prog 133 #[.slice ao l.length cap] W fun e w' => e = .returned (.string (bytes (keyL l))) ∧ Below W.heap.size W w') := fun h W hb => key_any ao cap l W (Lib.hid (avas_below hA.out hb)) (Lib.hid (prw.env_below hE.out hb)) (Lib.hid (tabs_below hT.out hb)) h
 obtain ⟨m, hm⟩ : ∃ m, m = l.length := ⟨_, rfl⟩
 rw [← hm] at CR CK ⊢
 clear hm hc
 cases hok : rdnOK l with
 | false =>
  rw [hok] at CR
  have HC := Lib.hid CR
  have HN := Lib.hid (keyE_no hok)
  clear CR CK hok
  go_enter Tryz.func80, Tryz.ntmps80
  go_wp2_with fail
  refine HC.out.mono ?_
  rintro e w1 ⟨rfl, hB1⟩
  go_wp2_with fail
  go_ret2
  exact ⟨HN.out, hB1⟩
 | true =>
  rw [hok] at CR
  have HC := Lib.hid CR
  have HN := Lib.hid (keyE_yes hok)
  have HK := CK hok
  clear CR CK hok
  go_enter Tryz.func80, Tryz.ntmps80
  go_wp2_with fail
  refine HC.out.mono ?_
  rintro e w1 ⟨rfl, hB1⟩
  have HK1 := Lib.hid (HK.out w1 hB1)
  go_wp2_with fail
  refine HK1.out.mono ?_
  rintro e w2 ⟨rfl, hB2⟩
  go_wp2_with fail
  go_ret2
  exact ⟨HN.out, hB1.trans (hB2.mono hB1.size)⟩
end dnw
end Go.Proofs.YtcolcogobdgejaaGreatDoor
/-! RightE -/
namespace Go.Proofs.YtcolcogobdgejaaGreatDoor
open Go.RowKit
namespace etw
open atp atw etp
open dnw (Av Avas)
open tupw (Strs strs_below)
set_option linter.unusedVariables false
set_option linter.unusedSimpArgs false
def prevT (L : List At) (i : Nat) : Option ByteArray := if i = 0 then none else (L[i - 1]?).map (·.t)
theorem less_ltB (a b : ByteArray) : Op.bytesLess a.toList b.toList = ltB a b := by
 unfold ltB
 rw [Lib.toList_data, Lib.toList_data, ord.less_cmp]
theorem ne_str {x y : ByteArray} (h : ¬ x = y) : (x.toList == y.toList) = false := by
 rw [beq_eq_false_iff_ne]
 intro e
 exact h (kt.str_eq (by rw [← Lib.toList_data, ← Lib.toList_data, e]))
def prevOK (L : List At) (i : Nat) (t : ByteArray) : Bool := match prevT L i with
 | none => true
 | some q => ltB q t
theorem atsF_step {L : List At} {i : Nat} (h : i < L.length) : atsF (prevT L i) (L.drop i) = (atOK L[i] && prevOK L i L[i].t && atsF (prevT L (i + 1)) (L.drop (i + 1))) := by
 rw [List.drop_eq_getElem_cons h]
 have e : prevT L (i + 1) = some L[i].t := by
  unfold prevT
  rw [if_neg (Nat.succ_ne_zero i), Nat.add_sub_cancel, List.getElem?_eq_getElem h]
  rfl
 rw [e]
 rfl
theorem find_name {n : ByteArray} {ty : Ty} (h : findS (sml.lowL n.data.toList) = some ty) : (tyOf n = if (bs ty.name) = n then some ty else none) := by
 by_cases e : bs ty.name = n
 ·rw [if_pos e]
  have : ty.name = n.data.toList := by rw [← e, bs_data]
  exact find_low.1 ⟨h, this⟩
 ·rw [if_neg e]
  unfold tyOf
  cases hf : findS n.data.toList with
  | none => rfl
  | some t2 =>
   obtain ⟨h1, h2⟩ := find_low.2 hf
   rw [h] at h1
   cases h1
   exact absurd (kt.str_eq (by rw [bs_data]; exact h2)) e
theorem find_none {n : ByteArray} (h : findS (sml.lowL n.data.toList) = none) : tyOf n = none := by
 unfold tyOf
 cases hf : findS n.data.toList with
 | none => rfl
 | some t2 =>
  obtain ⟨h1, _⟩ := find_low.2 hf
  rw [h] at h1
  cases h1
theorem atOK_none {a : At} (h : tyOf a.t = none) : atOK a = false := by unfold atOK; rw [h]
theorem atOK_some {a : At} {ty : Ty} (h : tyOf a.t = some ty) : atOK a = (decide (1 ≤ a.vs.length) && decide (a.vs.length ≤ mostT ty.single) && fresh ty.syn [] a.vs) := by unfold atOK; rw [h]; rfl
def AttrB (w : World) (p : Nat) (t : ByteArray) (v : Value) : Prop := w.heap[p]? = some (.cells #[.string t, v] 57 (0, 0))
theorem attrB_new (w : World) (t : ByteArray) (v : Value) : AttrB (w.alloc (.cells #[.string t, v] 57)) w.heap.size t v := heap_alloc_new w _
theorem attrB_cells {w : World} {p : Nat} {t : ByteArray} {v : Value} (h : AttrB w p t v) : w.cell? ⟨p, 0, none⟩ = some (.string t) ∧ w.cell? ⟨p, 1, none⟩ = some v :=
 ⟨by rw [Lib.cell_of_heap h]; rfl, by rw [Lib.cell_of_heap h]; rfl⟩
theorem attrB_below {w w' : World} {p : Nat} {t : ByteArray} {v : Value} (h : AttrB w p t v) (hb : Below w.heap.size w w') : AttrB w' p t v := (hb.block p (kt.bld_lt h)).trans h
def EntB (w : World) (p : Nat) (r a : Value) : Prop := w.heap[p]? = some (.cells #[r, a] 25 (0, 0))
theorem entB_new (w : World) (r a : Value) : EntB (w.alloc (.cells #[r, a] 25)) w.heap.size r a := heap_alloc_new w _
theorem entB_cells {w : World} {p : Nat} {r a : Value} (h : EntB w p r a) : w.cell? ⟨p, 0, none⟩ = some r ∧ w.cell? ⟨p, 1, none⟩ = some a :=
 ⟨by rw [Lib.cell_of_heap h]; rfl, by rw [Lib.cell_of_heap h]; rfl⟩
theorem entB_below {w w' : World} {p : Nat} {r a : Value} (h : EntB w p r a) (hb : Below w.heap.size w w') : EntB w' p r a := (hb.block p (kt.bld_lt h)).trans h
set_option maxRecDepth 20000 in
set_option maxHeartbeats 4000000 in
theorem right_any (v : Value) (E : En) (w : World) (hv : Hid (EntV w v E)) (hb : Hid (Bd E)) (hE : Hid (EnvE w)) :
  Calls Tryz.prog 26 #[v] w fun e w' => e = .returned (.bool (rightE E)) ∧ Below w.heap.size w w' := by
 obtain ⟨rdn, L⟩ := E
 obtain ⟨ro, rc, ao, ac, rfl, hrc, hac, hR, hA⟩ := hv.out
 simp only at hrc hac hR hA ⊢
 have HA := Lib.hid hA
 have hL := hb.out.al
 have HBD : Hid (∀ a ∈ L, a.t.size ≤ 100000 ∧ a.vs.length ≤ 100000 ∧ ∀ v ∈ a.vs, v.size ≤ 100000) := hb.out.as_
 simp only at hL
 obtain ⟨W1, hW1⟩ : ∃ W, w.alloc (.cells #[.slice ro rdn.length rc, .slice ao L.length ac] 25) = W := ⟨_, rfl⟩
 have hB1 : Below w.heap.size w W1 := by rw [← hW1]; exact (Below.refl _ _).alloc (Nat.le_refl _) _
 have HT1 : Hid (EntB W1 w.heap.size (.slice ro rdn.length rc) (.slice ao L.length ac)) := by rw [← hW1]; exact entB_new _ _ _
 obtain ⟨k0, k1⟩ := entB_cells HT1.out
 have HB1 := Lib.hid hB1
 have hs1 := hB1.size
 have HK0 := dnw.dkey_any ro rc rdn W1 (Lib.hid (dnw.avas_below hR hB1)) (Lib.hid (envE_below hE.out hB1).e) (Lib.hid (envE_below hE.out hB1).t) (Lib.hid (bd_smalls hb.out)) hrc
 have HRE : Hid (rightE ⟨rdn, L⟩ = (dnw.rdnOK rdn && atsF none L)) := rfl
 rw [HRE.out]
 clear HRE hB1 hR hA
 obtain ⟨Nr, hNr⟩ : ∃ N, rdn.length = N := ⟨_, rfl⟩
 obtain ⟨N, hN⟩ : ∃ N, L.length = N := ⟨_, rfl⟩
 have HN := Lib.hid hN
 rw [hN] at hac hL HT1 k1 hW1
 rw [hNr] at HK0 HT1 k0 hW1
 rw [hN, hNr]
 clear hN hNr hrc
 unfold dnw.KeyE at HK0
 cases hok : dnw.rdnOK rdn with
 | false =>
  rw [hok, if_neg (by decide)] at HK0
  have HK := Lib.hid HK0
  clear HK0 hok
  go_enter Tryz.func26, Tryz.ntmps26
  go_wp2_with fail
  refine HK.out.mono ?_
  rintro e w2 ⟨rfl, hB2⟩
  have HBF := Lib.hid (HB1.out.trans (hB2.mono hs1))
  clear hB2 k0 k1 hW1
  go_wp2_with fail
  go_ret
  exact ⟨rfl, HBF.out⟩
 | true =>
  rw [hok, if_pos rfl] at HK0
  have HK := Lib.hid HK0
  clear HK0 hok
  go_enter Tryz.func26, Tryz.ntmps26
  go_wp2_with fail
  refine HK.out.mono ?_
  rintro e w0 ⟨rfl, hB0⟩
  have HB01 := Lib.hid hB0
  have HB0 := Lib.hid (HB1.out.trans (hB0.mono hs1))
  have HT0 := Lib.hid (entB_below HT1.out hB0)
  obtain ⟨m0, m1⟩ := entB_cells HT0.out
  have hs0 := HB0.out.size
  clear hB0 k0 k1 hW1 HK HT1 HB1 HB01 hs1
  have HB1 := HB0
  have hs1 := hs0
  go_wp2_with fail
  go_loopw [20] (fun iv wr => ∃ i : Nat, i ≤ N ∧ iv = .int .i64 (i : Int) ∧ Hid (Below w0.heap.size w0 wr) ∧ Hid (atsF none L = atsF (prevT L i) (L.drop i))) (fun iv _ => N - (intOf iv).toNat)
  case atStart => exact ⟨0, Nat.zero_le _, rfl, Below.refl _ _, rfl⟩
  case round =>
   obtain ⟨i, hi, rfl, hB, hJ⟩ := hrel
   have hsz := hB.out.size
   have HBw := Lib.hid (HB1.out.trans (hB.out.mono hs1))
   have ze := (entB_cells (entB_below HT0.out hB.out)).2
   have hlz0 := World.block_lt_of_cell? wr _ ze
   by_cases hlt : i < N
   ·have hltI : (i : Int) < (N : Int) := by omega
    have hil : i < L.length := by rw [HN.out]; exact hlt
    have HAr := Lib.hid (ats_below HA.out HBw.out)
    obtain ⟨b, o, ax, cx, hao, q0, q1, hcx, hST⟩ := HAr.out i hil
    subst hao
    have HST := Lib.hid (atsF_step hil)
    have hbd := HBD.out L[i] (List.getElem_mem _)
    have HPV : Hid (0 < i → ∃ p, prevT L i = some p ∧ wr.cell? ⟨b, o + (i - 1) * 2, none⟩ = some (.string p)) := by
     intro hpos
     obtain ⟨b', o', ax', cx', e', q', _⟩ := HAr.out (i - 1) (by omega)
     simp only [Option.some.injEq, Addr.mk.injEq, and_true] at e'
     obtain ⟨rfl, rfl⟩ := e'
     refine ⟨_, ?_, q'⟩
     unfold prevT
     rw [if_neg (by omega), List.getElem?_eq_getElem (by omega)]
     rfl
    obtain ⟨a, ha⟩ : ∃ a, L[i] = a := ⟨_, rfl⟩
    rw [ha] at HST hbd q0 q1 hcx hST
    clear ha HAr
    have HSV := Lib.hid hST
    have hts := hbd.1
    have hvl := hbd.2.1
    have HFT : Hid (Fit a.vs) := fun v hv => Nat.le_trans (hbd.2.2 v hv) (by omega)
    obtain ⟨M, hM⟩ : ∃ M, a.vs.length = M := ⟨_, rfl⟩
    have HM := Lib.hid hM
    have hlq := World.block_lt_of_cell? wr _ q0
    obtain ⟨Wa, hWa⟩ : ∃ W, wr.alloc (.cells #[.string a.t, .slice ax M cx] 57) = W := ⟨_, rfl⟩
    have hBA : Below wr.heap.size wr Wa := by rw [← hWa]; exact (Below.refl _ _).alloc (Nat.le_refl _) _
    have HTA : Hid (AttrB Wa wr.heap.size a.t (.slice ax M cx)) := by rw [← hWa]; exact attrB_new _ _ _
    have HYr : Hid (TyEnv Wa) := (envE_below (envE_below hE.out HBw.out) hBA).y
    have HEr := Lib.hid (envE_below hE.out HBw.out)
    have HBA := Lib.hid hBA
    have xa := (attrB_cells HTA.out).1
    have HFD0 : Hid (∀ W, TyEnv W → Calls Tryz.prog 70 #[.string a.t] W fun e w' => e = .returned (resT (findS (sml.lowL a.t.data.toList))) ∧ Below W.heap.size W w') := fun W hy => find_any a.t W (by omega) (Lib.hid hy)
    have HRV1 : Hid (∀ nm syn sg W, Below wr.heap.size wr W → Calls Tryz.prog 81 #[.agg #[.string nm, .int .i64 syn, .bool sg], .slice ax a.vs.length cx] W fun e w' => e = .returned (.bool (decide (1 ≤ a.vs.length) && decide (a.vs.length ≤ mostT sg) && fresh syn [] a.vs)) ∧ Below W.heap.size W w') := fun nm syn sg W hbw => rvals_any nm syn sg ax cx a.vs W (Lib.hid (strs_below HSV.out hbw)) hvl hcx HFT (Lib.hid (envE_below HEr.out hbw))
    rw [hM] at q1
    clear hM hbd hST hBA hts hcx
    cases hfd : findS (sml.lowL a.t.data.toList) with
    | none =>
     rw [hfd] at HFD0
     obtain ⟨nm, syn, sg, HFD⟩ : ∃ nm syn sg, Hid (∀ W, TyEnv W → Calls Tryz.prog 70 #[.string a.t] W fun e w' => e = .returned (.tuple #[.agg #[.string nm, .int .i64 syn, .bool sg], .bool false]) ∧ Below W.heap.size W w') := ⟨_, _, _, HFD0⟩
     have HJ : Hid (atsF none L = false) := by
      show _ = _
      rw [hJ.out, HST.out, atOK_none (find_none hfd)]; rfl
     clear hfd HFD0 HRV1
     go_wp2_with fail
     refine (HFD.out _ HYr.out).mono ?_
     rintro e w2 ⟨rfl, hB2⟩
     obtain ⟨w3, hw3⟩ : ∃ W, w2.alloc (.cells #[.string nm, .int .i64 syn, .bool sg] 29) = W := ⟨_, rfl⟩
     have hB3 : Below w2.heap.size w2 w3 := by rw [← hw3]; exact (Below.refl _ _).alloc (Nat.le_refl _) _
     have y0 : w3.cell? ⟨w2.heap.size, 0, none⟩ = some (.string nm) := by rw [← hw3, World.cell?_alloc_new]; rfl
     have y1 : w3.cell? ⟨w2.heap.size, 1, none⟩ = some (.int .i64 syn) := by rw [← hw3, World.cell?_alloc_new]; rfl
     have y2 : w3.cell? ⟨w2.heap.size, 2, none⟩ = some (.bool sg) := by rw [← hw3, World.cell?_alloc_new]; rfl
     have hBa : Below wr.heap.size wr w3 := HBA.out.trans ((hB2.trans (hB3.mono hB2.size)).mono HBA.out.size)
     have hA23 := hB2.trans (hB3.mono hB2.size)
     have HTA3 := Lib.hid (attrB_below HTA.out hA23)
     obtain ⟨x0, x1⟩ := attrB_cells HTA3.out
     have z1 := (hBa.cell (p := ⟨w.heap.size, 1, none⟩) hlz0).trans ze
     have HBr3 := Lib.hid (hB.out.trans (hBa.mono hsz))
     have HBw3 := Lib.hid (HB1.out.trans (HBr3.out.mono hs1))
     have hla := World.block_lt_of_cell? w3 _ x0
     have hlt2 := World.block_lt_of_cell? w3 _ y0
     have hlz := World.block_lt_of_cell? w3 _ z1
     have HB3 := Lib.hid hB3
     have HBA3 := Lib.hid hBa
     clear hB2 hB3 hBa hA23 ze
     go_wp2_with fail
     refine wp_region_held_drew (S := fun W => W.cell? ⟨wr.heap.size, 0, none⟩ = some (.string a.t) ∧ W.cell? ⟨wr.heap.size, 1, none⟩ = some (.slice ax M cx) ∧ W.cell? ⟨w2.heap.size, 0, none⟩ = some (.string nm) ∧ W.cell? ⟨w2.heap.size, 1, none⟩ = some (.int .i64 syn) ∧ W.cell? ⟨w2.heap.size, 2, none⟩ = some (.bool sg) ∧ W.cell? ⟨w.heap.size, 1, none⟩ = some (.slice (some ⟨b, o, none⟩) N ac)) (by kernel_rfl) (⟨x0, x1, y0, y1, y2, z1⟩) (fun hHeld => ?_)
     refine tk 0 ⟨some 31,_,_,_,_,_⟩ rfl ?_
     refine tk 1 ⟨some 32,_,_,_,_,_⟩ rfl ?_
     refine tk 2 ⟨some 33,_,_,_,_,_⟩ rfl ?_
     refine tu 3 ⟨some 34,_,_,_,_,_⟩ rfl ?_
     refine tu 4 ⟨some 35,_,_,_,_,_⟩ rfl ?_
     refine tu 5 ⟨some 36,_,_,_,_,_⟩ rfl ?_
     refine tu 6 ⟨some 37,_,_,_,_,_⟩ rfl ?_
     refine tu 7 ⟨some 38,_,_,_,_,_⟩ rfl ?_
     refine tk 8 ⟨some 39,_,_,_,_,_⟩ rfl ?_
     refine tk 9 ⟨some 40,_,_,_,_,_⟩ rfl ?_
     refine tu 10 ⟨some 41,_,_,_,_,_⟩ rfl ?_
     refine tu 11 ⟨some 42,_,_,_,_,_⟩ rfl ?_
     refine tu 12 ⟨some 43,_,_,_,_,_⟩ rfl ?_
     refine tu 13 ⟨some 44,_,_,_,_,_⟩ rfl ?_
     refine tu 14 ⟨some 45,_,_,_,_,_⟩ rfl ?_
     refine tu 15 ⟨some 46,_,_,_,_,_⟩ rfl ?_
     refine tu 16 ⟨some 47,_,_,_,_,_⟩ rfl ?_
     refine tu 17 ⟨some 48,_,_,_,_,_⟩ rfl ?_
     refine tu 18 ⟨some 49,_,_,_,_,_⟩ rfl ?_
     refine tu 19 ⟨some 50,_,_,_,_,_⟩ rfl ?_
     refine tu 20 ⟨some 51,_,_,_,_,_⟩ rfl ?_
     refine tu 21 ⟨some 52,_,_,_,_,_⟩ rfl ?_
     refine tu 22 ⟨some 53,_,_,_,_,_⟩ rfl ?_
     refine tu 23 ⟨some 54,_,_,_,_,_⟩ rfl ?_
     refine tk 24 ⟨some 55,_,_,_,_,_⟩ rfl ?_
     refine tk 25 ⟨some 56,_,_,_,_,_⟩ rfl ?_
     refine tu 26 ⟨some 57,_,_,_,_,_⟩ rfl ?_
     refine tu 27 ⟨some 58,_,_,_,_,_⟩ rfl ?_
     refine tu 28 ⟨some 59,_,_,_,_,_⟩ rfl ?_
     refine tu 29 ⟨some 60,_,_,_,_,_⟩ rfl ?_
     refine tu 30 ⟨some 61,_,_,_,_,_⟩ rfl ?_
     refine tk 31 ⟨some 62,_,_,_,_,_⟩ rfl ?_
     refine wpAnyH_done (by kernel_rfl) ?_ _
     have HBF := Lib.hid HB3.out
     clear hHeld
     go_wp2_with fail
     go_ret
     exact ⟨kt.ret_bool HJ.out.symm, HBw3.out.drew⟩
    | some ty =>
     rw [hfd] at HFD0
     have HFN := Lib.hid (find_name hfd)
     have HFD1 : Hid (∀ W, TyEnv W → Calls Tryz.prog 70 #[.string a.t] W fun e w' => e = .returned (.tuple #[.agg #[.string (bs ty.name), .int .i64 ty.syn, .bool ty.single], .bool true]) ∧ Below W.heap.size W w') := HFD0
     clear hfd HFD0
     by_cases hne : bs ty.name = a.t
     ·have HTY : Hid (tyOf a.t = some ty) := by rw [HFN.out, if_pos hne]; exact rfl
      have HAO := Lib.hid (atOK_some HTY.out)
      have qn : ((bs ty.name).toList != a.t.toList) = false := by rw [hne]; simp
      have qe : ((bs ty.name).toList == a.t.toList) = true := by rw [hne]; simp
      have HRV2 : Hid (∀ W, Below wr.heap.size wr W → Calls Tryz.prog 81 #[.agg #[.string (bs ty.name), .int .i64 ty.syn, .bool ty.single], .slice ax a.vs.length cx] W fun e w' => e = .returned (.bool (decide (1 ≤ a.vs.length) && decide (a.vs.length ≤ mostT ty.single) && fresh ty.syn [] a.vs)) ∧ Below W.heap.size W w') := fun W h => HRV1.out (bs ty.name) ty.syn ty.single W h
      clear HRV1 HFN HTY
      rw [HM.out] at HRV2
      have HAO2 : Hid (atOK a = (decide (1 ≤ M) && decide (M ≤ mostT ty.single) && fresh ty.syn [] a.vs)) := by rw [← HM.out]; exact HAO.out
      rw [← HAO2.out] at HRV2
      clear HAO HAO2
      generalize bs ty.name = nm at HFD1 HRV2 qn qe
      have hne' : True := trivial
      clear hne hne'
      generalize ty.syn = syn at HFD1 HRV2
      generalize ty.single = sg at HFD1 HRV2
      have HFD := HFD1
      clear HFD1
      by_cases hi0 : i = 0
      ·have di : decide ((i : Int) > 0) = false := decide_eq_false (by omega)
       have di' : decide (0 < i) = false := decide_eq_false (by omega)
       have HPO : Hid (prevOK L i a.t = true) := by unfold prevOK prevT; rw [if_pos hi0]; exact rfl
       have hi00 : ¬ 0 < i := by omega
       clear hi0
       go_wp2_with fail
       refine (HFD.out _ HYr.out).mono ?_
       rintro e w2 ⟨rfl, hB2⟩
       obtain ⟨w3, hw3⟩ : ∃ W, w2.alloc (.cells #[.string nm, .int .i64 syn, .bool sg] 29) = W := ⟨_, rfl⟩
       have hB3 : Below w2.heap.size w2 w3 := by rw [← hw3]; exact (Below.refl _ _).alloc (Nat.le_refl _) _
       have y0 : w3.cell? ⟨w2.heap.size, 0, none⟩ = some (.string nm) := by rw [← hw3, World.cell?_alloc_new]; rfl
       have y1 : w3.cell? ⟨w2.heap.size, 1, none⟩ = some (.int .i64 syn) := by rw [← hw3, World.cell?_alloc_new]; rfl
       have y2 : w3.cell? ⟨w2.heap.size, 2, none⟩ = some (.bool sg) := by rw [← hw3, World.cell?_alloc_new]; rfl
       have hBa : Below wr.heap.size wr w3 := HBA.out.trans ((hB2.trans (hB3.mono hB2.size)).mono HBA.out.size)
       have hA23 := hB2.trans (hB3.mono hB2.size)
       have HTA3 := Lib.hid (attrB_below HTA.out hA23)
       obtain ⟨x0, x1⟩ := attrB_cells HTA3.out
       have z1 := (hBa.cell (p := ⟨w.heap.size, 1, none⟩) hlz0).trans ze
       have HBr3 := Lib.hid (hB.out.trans (hBa.mono hsz))
       have HBw3 := Lib.hid (HB1.out.trans (HBr3.out.mono hs1))
       have hla := World.block_lt_of_cell? w3 _ x0
       have hlt2 := World.block_lt_of_cell? w3 _ y0
       have hlz := World.block_lt_of_cell? w3 _ z1
       have HB3 := Lib.hid hB3
       have HBA3 := Lib.hid hBa
       clear hB2 hB3 hBa hA23 ze
       cases hvv : atOK a with
       | true =>
        have HJ : Hid (atsF none L = atsF (prevT L (i + 1)) (L.drop (i + 1))) := by
         show _ = _
         rw [hJ.out, HST.out, hvv, HPO.out]; rfl
        rw [hvv] at HRV2
        have HRV : Hid (∀ W, Below w3.heap.size w3 W → _) := fun W h => HRV2.out W (HBA3.out.trans (h.mono HBA3.out.size))
        clear hvv
        go_wp2_with fail
        refine wp_region_held_drew (S := fun W => W.cell? ⟨wr.heap.size, 0, none⟩ = some (.string a.t) ∧ W.cell? ⟨wr.heap.size, 1, none⟩ = some (.slice ax M cx) ∧ W.cell? ⟨w2.heap.size, 0, none⟩ = some (.string nm) ∧ W.cell? ⟨w2.heap.size, 1, none⟩ = some (.int .i64 syn) ∧ W.cell? ⟨w2.heap.size, 2, none⟩ = some (.bool sg) ∧ W.cell? ⟨w.heap.size, 1, none⟩ = some (.slice (some ⟨b, o, none⟩) N ac)) (by kernel_rfl) (⟨x0, x1, y0, y1, y2, z1⟩) (fun hHeld => ?_)
        refine tk 0 ⟨some 31,_,_,_,_,_⟩ rfl ?_
        refine tk 1 ⟨some 32,_,_,_,_,_⟩ rfl ?_
        refine tk 2 ⟨some 33,_,_,_,_,_⟩ rfl ?_
        refine tk 3 ⟨some 34,_,_,_,_,_⟩ rfl ?_
        refine tk 4 ⟨some 35,_,_,_,_,_⟩ rfl ?_
        refine tk 5 ⟨some 36,_,_,_,_,_⟩ rfl ?_
        refine tk 6 ⟨some 37,_,_,_,_,_⟩ rfl ?_
        refine tk 7 ⟨some 38,_,_,_,_,_⟩ rfl ?_
        refine tk 8 ⟨some 39,_,_,_,_,_⟩ rfl ?_
        refine tk 9 ⟨some 40,_,_,_,_,_⟩ rfl ?_
        refine tk 10 ⟨some 41,_,_,_,_,_⟩ rfl ?_
        refine tk 11 ⟨some 42,_,_,_,_,_⟩ rfl ?_
        refine tk 12 ⟨some 43,_,_,_,_,_⟩ rfl ?_
        refine tu 13 ⟨some 44,_,_,_,_,_⟩ rfl ?_
        refine tu 14 ⟨some 45,_,_,_,_,_⟩ rfl ?_
        refine tu 15 ⟨some 46,_,_,_,_,_⟩ rfl ?_
        refine tu 16 ⟨some 47,_,_,_,_,_⟩ rfl ?_
        refine tu 17 ⟨some 48,_,_,_,_,_⟩ rfl ?_
        refine tu 18 ⟨some 49,_,_,_,_,_⟩ rfl ?_
        refine tu 19 ⟨some 50,_,_,_,_,_⟩ rfl ?_
        refine tu 20 ⟨some 51,_,_,_,_,_⟩ rfl ?_
        refine tu 21 ⟨some 52,_,_,_,_,_⟩ rfl ?_
        refine tu 22 ⟨some 53,_,_,_,_,_⟩ rfl ?_
        refine tk 23 ⟨some 54,_,_,_,_,_⟩ rfl ?_
        refine tk 24 ⟨some 55,_,_,_,_,_⟩ rfl ?_
        refine tk 25 ⟨some 56,_,_,_,_,_⟩ rfl ?_
        refine tk 26 ⟨some 57,_,_,_,_,_⟩ rfl ?_
        refine tk 27 ⟨some 58,_,_,_,_,_⟩ rfl ?_
        refine tk 28 ⟨some 59,_,_,_,_,_⟩ rfl ?_
        refine tc 29 ⟨some 60,_,_,_,_,_⟩ rfl (fun K hK => ?_)
        go_simp
        go_at_call 81; refine (HRV.out _ ((Below.refl w3.heap.size w3).drew)).mono ?_; rintro e w6 ⟨rfl, hB6⟩
        refine hK.out _ _ (⟨(hB6.cell (p := ⟨wr.heap.size, 0, none⟩) hla).trans (x0), (hB6.cell (p := ⟨wr.heap.size, 1, none⟩) hla).trans (x1), (hB6.cell (p := ⟨w2.heap.size, 0, none⟩) hlt2).trans (y0), (hB6.cell (p := ⟨w2.heap.size, 1, none⟩) hlt2).trans (y1), (hB6.cell (p := ⟨w2.heap.size, 2, none⟩) hlt2).trans (y2), (hB6.cell (p := ⟨w.heap.size, 1, none⟩) hlz).trans (z1)⟩) (fun hHeld => ?_)
        clear hK
        try simp only [Act.put, List.setIfInBounds_toArray, List.set_cons_zero, List.set_cons_succ]
        refine tk 30 ⟨some 61,_,_,_,_,_⟩ rfl ?_
        refine tk 31 ⟨some 62,_,_,_,_,_⟩ rfl ?_
        refine wpAnyH_done (by kernel_rfl) ?_ _
        have HB6 := Lib.hid (HBr3.out.trans ((((Below.refl w3.heap.size w3).drew.trans hB6)).mono HBr3.out.size))
        clear hB6 hHeld x0 x1 y0 y1 y2 z1
        go_wp2_with fail
        go_roundw
        case rel => exact ⟨i + 1, by omega, by go_num, HB6, HJ⟩
        case measure => simp [intOf]; omega
       | false =>
        have HJ : Hid (atsF none L = false) := by
         show _ = _
         rw [hJ.out, HST.out, hvv]; rfl
        rw [hvv] at HRV2
        have HRV : Hid (∀ W, Below w3.heap.size w3 W → _) := fun W h => HRV2.out W (HBA3.out.trans (h.mono HBA3.out.size))
        clear hvv
        go_wp2_with fail
        refine wp_region_held_drew (S := fun W => W.cell? ⟨wr.heap.size, 0, none⟩ = some (.string a.t) ∧ W.cell? ⟨wr.heap.size, 1, none⟩ = some (.slice ax M cx) ∧ W.cell? ⟨w2.heap.size, 0, none⟩ = some (.string nm) ∧ W.cell? ⟨w2.heap.size, 1, none⟩ = some (.int .i64 syn) ∧ W.cell? ⟨w2.heap.size, 2, none⟩ = some (.bool sg) ∧ W.cell? ⟨w.heap.size, 1, none⟩ = some (.slice (some ⟨b, o, none⟩) N ac)) (by kernel_rfl) (⟨x0, x1, y0, y1, y2, z1⟩) (fun hHeld => ?_)
        refine tk 0 ⟨some 31,_,_,_,_,_⟩ rfl ?_
        refine tk 1 ⟨some 32,_,_,_,_,_⟩ rfl ?_
        refine tk 2 ⟨some 33,_,_,_,_,_⟩ rfl ?_
        refine tk 3 ⟨some 34,_,_,_,_,_⟩ rfl ?_
        refine tk 4 ⟨some 35,_,_,_,_,_⟩ rfl ?_
        refine tk 5 ⟨some 36,_,_,_,_,_⟩ rfl ?_
        refine tk 6 ⟨some 37,_,_,_,_,_⟩ rfl ?_
        refine tk 7 ⟨some 38,_,_,_,_,_⟩ rfl ?_
        refine tk 8 ⟨some 39,_,_,_,_,_⟩ rfl ?_
        refine tk 9 ⟨some 40,_,_,_,_,_⟩ rfl ?_
        refine tk 10 ⟨some 41,_,_,_,_,_⟩ rfl ?_
        refine tk 11 ⟨some 42,_,_,_,_,_⟩ rfl ?_
        refine tk 12 ⟨some 43,_,_,_,_,_⟩ rfl ?_
        refine tu 13 ⟨some 44,_,_,_,_,_⟩ rfl ?_
        refine tu 14 ⟨some 45,_,_,_,_,_⟩ rfl ?_
        refine tu 15 ⟨some 46,_,_,_,_,_⟩ rfl ?_
        refine tu 16 ⟨some 47,_,_,_,_,_⟩ rfl ?_
        refine tu 17 ⟨some 48,_,_,_,_,_⟩ rfl ?_
        refine tu 18 ⟨some 49,_,_,_,_,_⟩ rfl ?_
        refine tu 19 ⟨some 50,_,_,_,_,_⟩ rfl ?_
        refine tu 20 ⟨some 51,_,_,_,_,_⟩ rfl ?_
        refine tu 21 ⟨some 52,_,_,_,_,_⟩ rfl ?_
        refine tu 22 ⟨some 53,_,_,_,_,_⟩ rfl ?_
        refine tk 23 ⟨some 54,_,_,_,_,_⟩ rfl ?_
        refine tk 24 ⟨some 55,_,_,_,_,_⟩ rfl ?_
        refine tk 25 ⟨some 56,_,_,_,_,_⟩ rfl ?_
        refine tk 26 ⟨some 57,_,_,_,_,_⟩ rfl ?_
        refine tk 27 ⟨some 58,_,_,_,_,_⟩ rfl ?_
        refine tk 28 ⟨some 59,_,_,_,_,_⟩ rfl ?_
        refine tc 29 ⟨some 60,_,_,_,_,_⟩ rfl (fun K hK => ?_)
        go_simp
        go_at_call 81; refine (HRV.out _ ((Below.refl w3.heap.size w3).drew)).mono ?_; rintro e w6 ⟨rfl, hB6⟩
        refine hK.out _ _ (⟨(hB6.cell (p := ⟨wr.heap.size, 0, none⟩) hla).trans (x0), (hB6.cell (p := ⟨wr.heap.size, 1, none⟩) hla).trans (x1), (hB6.cell (p := ⟨w2.heap.size, 0, none⟩) hlt2).trans (y0), (hB6.cell (p := ⟨w2.heap.size, 1, none⟩) hlt2).trans (y1), (hB6.cell (p := ⟨w2.heap.size, 2, none⟩) hlt2).trans (y2), (hB6.cell (p := ⟨w.heap.size, 1, none⟩) hlz).trans (z1)⟩) (fun hHeld => ?_)
        clear hK
        try simp only [Act.put, List.setIfInBounds_toArray, List.set_cons_zero, List.set_cons_succ]
        refine tk 30 ⟨some 61,_,_,_,_,_⟩ rfl ?_
        refine tk 31 ⟨some 62,_,_,_,_,_⟩ rfl ?_
        refine wpAnyH_done (by kernel_rfl) ?_ _
        have HB6 := Lib.hid (HBw3.out.trans ((((Below.refl w3.heap.size w3).drew.trans hB6)).mono HBw3.out.size))
        clear hB6 hHeld x0 x1 y0 y1 y2 z1
        go_wp2_with fail
        go_ret
        exact ⟨kt.ret_bool HJ.out.symm, HB6.out⟩
      ·have di : decide ((i : Int) > 0) = true := decide_eq_true (by omega)
       have di' : decide (0 < i) = true := decide_eq_true (by omega)
       obtain ⟨p, hp, p00⟩ := HPV.out (by omega)
       obtain ⟨kp, hkp⟩ : ∃ k, i - 1 = k := ⟨_, rfl⟩
       rw [hkp] at p00
       have ekp : IntKind.i64.wrap ((i : Int) - 1) = (kp : Int) := by rw [IntWalk.i64_in _ (by omega)]; omega
       have hkN : kp < N := by omega
       clear hkp
       have HPO : Hid (prevOK L i a.t = ltB p a.t) := by unfold prevOK; rw [hp]; exact rfl
       have hbl := less_ltB p a.t
       have hi00 : 0 < i := by omega
       clear hp hi0
       cases hlb : ltB p a.t with
       | true =>
        rw [hlb] at HPO hbl
        clear hlb
        go_wp2_with fail
        refine (HFD.out _ HYr.out).mono ?_
        rintro e w2 ⟨rfl, hB2⟩
        obtain ⟨w3, hw3⟩ : ∃ W, w2.alloc (.cells #[.string nm, .int .i64 syn, .bool sg] 29) = W := ⟨_, rfl⟩
        have hB3 : Below w2.heap.size w2 w3 := by rw [← hw3]; exact (Below.refl _ _).alloc (Nat.le_refl _) _
        have y0 : w3.cell? ⟨w2.heap.size, 0, none⟩ = some (.string nm) := by rw [← hw3, World.cell?_alloc_new]; rfl
        have y1 : w3.cell? ⟨w2.heap.size, 1, none⟩ = some (.int .i64 syn) := by rw [← hw3, World.cell?_alloc_new]; rfl
        have y2 : w3.cell? ⟨w2.heap.size, 2, none⟩ = some (.bool sg) := by rw [← hw3, World.cell?_alloc_new]; rfl
        have hBa : Below wr.heap.size wr w3 := HBA.out.trans ((hB2.trans (hB3.mono hB2.size)).mono HBA.out.size)
        have hA23 := hB2.trans (hB3.mono hB2.size)
        have HTA3 := Lib.hid (attrB_below HTA.out hA23)
        obtain ⟨x0, x1⟩ := attrB_cells HTA3.out
        have z1 := (hBa.cell (p := ⟨w.heap.size, 1, none⟩) hlz0).trans ze
        have HBr3 := Lib.hid (hB.out.trans (hBa.mono hsz))
        have HBw3 := Lib.hid (HB1.out.trans (HBr3.out.mono hs1))
        have hla := World.block_lt_of_cell? w3 _ x0
        have hlt2 := World.block_lt_of_cell? w3 _ y0
        have hlz := World.block_lt_of_cell? w3 _ z1
        have HB3 := Lib.hid hB3
        have HBA3 := Lib.hid hBa
        clear hB2 hB3 hBa hA23 ze
        have p0 := (HBA3.out.cell (p := ⟨b, o + kp * 2, none⟩) (World.block_lt_of_cell? wr _ p00)).trans p00
        have hlp := World.block_lt_of_cell? w3 _ p0
        clear p00
        cases hvv : atOK a with
        | true =>
         have HJ : Hid (atsF none L = atsF (prevT L (i + 1)) (L.drop (i + 1))) := by
          show _ = _
          rw [hJ.out, HST.out, hvv, HPO.out]; rfl
         rw [hvv] at HRV2
         have HRV : Hid (∀ W, Below w3.heap.size w3 W → _) := fun W h => HRV2.out W (HBA3.out.trans (h.mono HBA3.out.size))
         clear hvv
         go_wp2_with fail
         refine wp_region_held_drew (S := fun W => W.cell? ⟨wr.heap.size, 0, none⟩ = some (.string a.t) ∧ W.cell? ⟨wr.heap.size, 1, none⟩ = some (.slice ax M cx) ∧ W.cell? ⟨w2.heap.size, 0, none⟩ = some (.string nm) ∧ W.cell? ⟨w2.heap.size, 1, none⟩ = some (.int .i64 syn) ∧ W.cell? ⟨w2.heap.size, 2, none⟩ = some (.bool sg) ∧ W.cell? ⟨w.heap.size, 1, none⟩ = some (.slice (some ⟨b, o, none⟩) N ac) ∧ W.cell? ⟨b, o + kp * 2, none⟩ = some (.string p)) (by kernel_rfl) (⟨x0, x1, y0, y1, y2, z1, p0⟩) (fun hHeld => ?_)
         refine tk 0 ⟨some 31,_,_,_,_,_⟩ rfl ?_
         refine tk 1 ⟨some 32,_,_,_,_,_⟩ rfl ?_
         refine tk 2 ⟨some 33,_,_,_,_,_⟩ rfl ?_
         refine tk 3 ⟨some 34,_,_,_,_,_⟩ rfl ?_
         refine tk 4 ⟨some 35,_,_,_,_,_⟩ rfl ?_
         refine tk 5 ⟨some 36,_,_,_,_,_⟩ rfl ?_
         refine tk 6 ⟨some 37,_,_,_,_,_⟩ rfl ?_
         refine tk 7 ⟨some 38,_,_,_,_,_⟩ rfl ?_
         refine tk 8 ⟨some 39,_,_,_,_,_⟩ rfl ?_
         refine tk 9 ⟨some 40,_,_,_,_,_⟩ rfl ?_
         refine tk 10 ⟨some 41,_,_,_,_,_⟩ rfl ?_
         refine tk 11 ⟨some 42,_,_,_,_,_⟩ rfl ?_
         refine tk 12 ⟨some 43,_,_,_,_,_⟩ rfl ?_
         refine tk 13 ⟨some 44,_,_,_,_,_⟩ rfl ?_
         refine tk 14 ⟨some 45,_,_,_,_,_⟩ rfl ?_
         refine tk 15 ⟨some 46,_,_,_,_,_⟩ rfl ?_
         refine tk 16 ⟨some 47,_,_,_,_,_⟩ rfl ?_
         refine tk 17 ⟨some 48,_,_,_,_,_⟩ rfl ?_
         refine tk 18 ⟨some 49,_,_,_,_,_⟩ rfl ?_
         refine tk 19 ⟨some 50,_,_,_,_,_⟩ rfl ?_
         refine tk 20 ⟨some 51,_,_,_,_,_⟩ rfl ?_
         refine tk 21 ⟨some 52,_,_,_,_,_⟩ rfl ?_
         refine tk 22 ⟨some 53,_,_,_,_,_⟩ rfl ?_
         refine tk 23 ⟨some 54,_,_,_,_,_⟩ rfl ?_
         refine tk 24 ⟨some 55,_,_,_,_,_⟩ rfl ?_
         refine tk 25 ⟨some 56,_,_,_,_,_⟩ rfl ?_
         refine tk 26 ⟨some 57,_,_,_,_,_⟩ rfl ?_
         refine tk 27 ⟨some 58,_,_,_,_,_⟩ rfl ?_
         refine tk 28 ⟨some 59,_,_,_,_,_⟩ rfl ?_
         refine tc 29 ⟨some 60,_,_,_,_,_⟩ rfl (fun K hK => ?_)
         go_simp
         go_at_call 81; refine (HRV.out _ ((Below.refl w3.heap.size w3).drew)).mono ?_; rintro e w6 ⟨rfl, hB6⟩
         refine hK.out _ _ (⟨(hB6.cell (p := ⟨wr.heap.size, 0, none⟩) hla).trans (x0), (hB6.cell (p := ⟨wr.heap.size, 1, none⟩) hla).trans (x1), (hB6.cell (p := ⟨w2.heap.size, 0, none⟩) hlt2).trans (y0), (hB6.cell (p := ⟨w2.heap.size, 1, none⟩) hlt2).trans (y1), (hB6.cell (p := ⟨w2.heap.size, 2, none⟩) hlt2).trans (y2), (hB6.cell (p := ⟨w.heap.size, 1, none⟩) hlz).trans (z1), (hB6.cell (p := ⟨b, o + kp * 2, none⟩) hlp).trans (p0)⟩) (fun hHeld => ?_)
         clear hK
         try simp only [Act.put, List.setIfInBounds_toArray, List.set_cons_zero, List.set_cons_succ]
         refine tk 30 ⟨some 61,_,_,_,_,_⟩ rfl ?_
         refine tk 31 ⟨some 62,_,_,_,_,_⟩ rfl ?_
         refine wpAnyH_done (by kernel_rfl) ?_ _
         have HB6 := Lib.hid (HBr3.out.trans ((((Below.refl w3.heap.size w3).drew.trans hB6)).mono HBr3.out.size))
         clear hB6 hHeld x0 x1 y0 y1 y2 z1
         go_wp2_with fail
         go_roundw
         case rel => exact ⟨i + 1, by omega, by go_num, HB6, HJ⟩
         case measure => simp [intOf]; omega
        | false =>
         have HJ : Hid (atsF none L = false) := by
          show _ = _
          rw [hJ.out, HST.out, hvv]; rfl
         rw [hvv] at HRV2
         have HRV : Hid (∀ W, Below w3.heap.size w3 W → _) := fun W h => HRV2.out W (HBA3.out.trans (h.mono HBA3.out.size))
         clear hvv
         go_wp2_with fail
         refine wp_region_held_drew (S := fun W => W.cell? ⟨wr.heap.size, 0, none⟩ = some (.string a.t) ∧ W.cell? ⟨wr.heap.size, 1, none⟩ = some (.slice ax M cx) ∧ W.cell? ⟨w2.heap.size, 0, none⟩ = some (.string nm) ∧ W.cell? ⟨w2.heap.size, 1, none⟩ = some (.int .i64 syn) ∧ W.cell? ⟨w2.heap.size, 2, none⟩ = some (.bool sg) ∧ W.cell? ⟨w.heap.size, 1, none⟩ = some (.slice (some ⟨b, o, none⟩) N ac) ∧ W.cell? ⟨b, o + kp * 2, none⟩ = some (.string p)) (by kernel_rfl) (⟨x0, x1, y0, y1, y2, z1, p0⟩) (fun hHeld => ?_)
         refine tk 0 ⟨some 31,_,_,_,_,_⟩ rfl ?_
         refine tk 1 ⟨some 32,_,_,_,_,_⟩ rfl ?_
         refine tk 2 ⟨some 33,_,_,_,_,_⟩ rfl ?_
         refine tk 3 ⟨some 34,_,_,_,_,_⟩ rfl ?_
         refine tk 4 ⟨some 35,_,_,_,_,_⟩ rfl ?_
         refine tk 5 ⟨some 36,_,_,_,_,_⟩ rfl ?_
         refine tk 6 ⟨some 37,_,_,_,_,_⟩ rfl ?_
         refine tk 7 ⟨some 38,_,_,_,_,_⟩ rfl ?_
         refine tk 8 ⟨some 39,_,_,_,_,_⟩ rfl ?_
         refine tk 9 ⟨some 40,_,_,_,_,_⟩ rfl ?_
         refine tk 10 ⟨some 41,_,_,_,_,_⟩ rfl ?_
         refine tk 11 ⟨some 42,_,_,_,_,_⟩ rfl ?_
         refine tk 12 ⟨some 43,_,_,_,_,_⟩ rfl ?_
         refine tk 13 ⟨some 44,_,_,_,_,_⟩ rfl ?_
         refine tk 14 ⟨some 45,_,_,_,_,_⟩ rfl ?_
         refine tk 15 ⟨some 46,_,_,_,_,_⟩ rfl ?_
         refine tk 16 ⟨some 47,_,_,_,_,_⟩ rfl ?_
         refine tk 17 ⟨some 48,_,_,_,_,_⟩ rfl ?_
         refine tk 18 ⟨some 49,_,_,_,_,_⟩ rfl ?_
         refine tk 19 ⟨some 50,_,_,_,_,_⟩ rfl ?_
         refine tk 20 ⟨some 51,_,_,_,_,_⟩ rfl ?_
         refine tk 21 ⟨some 52,_,_,_,_,_⟩ rfl ?_
         refine tk 22 ⟨some 53,_,_,_,_,_⟩ rfl ?_
         refine tk 23 ⟨some 54,_,_,_,_,_⟩ rfl ?_
         refine tk 24 ⟨some 55,_,_,_,_,_⟩ rfl ?_
         refine tk 25 ⟨some 56,_,_,_,_,_⟩ rfl ?_
         refine tk 26 ⟨some 57,_,_,_,_,_⟩ rfl ?_
         refine tk 27 ⟨some 58,_,_,_,_,_⟩ rfl ?_
         refine tk 28 ⟨some 59,_,_,_,_,_⟩ rfl ?_
         refine tc 29 ⟨some 60,_,_,_,_,_⟩ rfl (fun K hK => ?_)
         go_simp
         go_at_call 81; refine (HRV.out _ ((Below.refl w3.heap.size w3).drew)).mono ?_; rintro e w6 ⟨rfl, hB6⟩
         refine hK.out _ _ (⟨(hB6.cell (p := ⟨wr.heap.size, 0, none⟩) hla).trans (x0), (hB6.cell (p := ⟨wr.heap.size, 1, none⟩) hla).trans (x1), (hB6.cell (p := ⟨w2.heap.size, 0, none⟩) hlt2).trans (y0), (hB6.cell (p := ⟨w2.heap.size, 1, none⟩) hlt2).trans (y1), (hB6.cell (p := ⟨w2.heap.size, 2, none⟩) hlt2).trans (y2), (hB6.cell (p := ⟨w.heap.size, 1, none⟩) hlz).trans (z1), (hB6.cell (p := ⟨b, o + kp * 2, none⟩) hlp).trans (p0)⟩) (fun hHeld => ?_)
         clear hK
         try simp only [Act.put, List.setIfInBounds_toArray, List.set_cons_zero, List.set_cons_succ]
         refine tk 30 ⟨some 61,_,_,_,_,_⟩ rfl ?_
         refine tk 31 ⟨some 62,_,_,_,_,_⟩ rfl ?_
         refine wpAnyH_done (by kernel_rfl) ?_ _
         have HB6 := Lib.hid (HBw3.out.trans ((((Below.refl w3.heap.size w3).drew.trans hB6)).mono HBw3.out.size))
         clear hB6 hHeld x0 x1 y0 y1 y2 z1
         go_wp2_with fail
         go_ret
         exact ⟨kt.ret_bool HJ.out.symm, HB6.out⟩
       | false =>
        rw [hlb] at HPO hbl
        clear hlb HRV2
        have HJ : Hid (atsF none L = false) := by
         show _ = _
         rw [hJ.out, HST.out, HPO.out, Bool.and_false]; rfl
        go_wp2_with fail
        refine (HFD.out _ HYr.out).mono ?_
        rintro e w2 ⟨rfl, hB2⟩
        obtain ⟨w3, hw3⟩ : ∃ W, w2.alloc (.cells #[.string nm, .int .i64 syn, .bool sg] 29) = W := ⟨_, rfl⟩
        have hB3 : Below w2.heap.size w2 w3 := by rw [← hw3]; exact (Below.refl _ _).alloc (Nat.le_refl _) _
        have y0 : w3.cell? ⟨w2.heap.size, 0, none⟩ = some (.string nm) := by rw [← hw3, World.cell?_alloc_new]; rfl
        have y1 : w3.cell? ⟨w2.heap.size, 1, none⟩ = some (.int .i64 syn) := by rw [← hw3, World.cell?_alloc_new]; rfl
        have y2 : w3.cell? ⟨w2.heap.size, 2, none⟩ = some (.bool sg) := by rw [← hw3, World.cell?_alloc_new]; rfl
        have hBa : Below wr.heap.size wr w3 := HBA.out.trans ((hB2.trans (hB3.mono hB2.size)).mono HBA.out.size)
        have hA23 := hB2.trans (hB3.mono hB2.size)
        have HTA3 := Lib.hid (attrB_below HTA.out hA23)
        obtain ⟨x0, x1⟩ := attrB_cells HTA3.out
        have z1 := (hBa.cell (p := ⟨w.heap.size, 1, none⟩) hlz0).trans ze
        have HBr3 := Lib.hid (hB.out.trans (hBa.mono hsz))
        have HBw3 := Lib.hid (HB1.out.trans (HBr3.out.mono hs1))
        have hla := World.block_lt_of_cell? w3 _ x0
        have hlt2 := World.block_lt_of_cell? w3 _ y0
        have hlz := World.block_lt_of_cell? w3 _ z1
        have HB3 := Lib.hid hB3
        have HBA3 := Lib.hid hBa
        clear hB2 hB3 hBa hA23 ze
        have p0 := (HBA3.out.cell (p := ⟨b, o + kp * 2, none⟩) (World.block_lt_of_cell? wr _ p00)).trans p00
        have hlp := World.block_lt_of_cell? w3 _ p0
        clear p00
        go_wp2_with fail
        refine wp_region_held_drew (S := fun W => W.cell? ⟨wr.heap.size, 0, none⟩ = some (.string a.t) ∧ W.cell? ⟨wr.heap.size, 1, none⟩ = some (.slice ax M cx) ∧ W.cell? ⟨w2.heap.size, 0, none⟩ = some (.string nm) ∧ W.cell? ⟨w2.heap.size, 1, none⟩ = some (.int .i64 syn) ∧ W.cell? ⟨w2.heap.size, 2, none⟩ = some (.bool sg) ∧ W.cell? ⟨w.heap.size, 1, none⟩ = some (.slice (some ⟨b, o, none⟩) N ac) ∧ W.cell? ⟨b, o + kp * 2, none⟩ = some (.string p)) (by kernel_rfl) (⟨x0, x1, y0, y1, y2, z1, p0⟩) (fun hHeld => ?_)
        refine tk 0 ⟨some 31,_,_,_,_,_⟩ rfl ?_
        refine tk 1 ⟨some 32,_,_,_,_,_⟩ rfl ?_
        refine tk 2 ⟨some 33,_,_,_,_,_⟩ rfl ?_
        refine tk 3 ⟨some 34,_,_,_,_,_⟩ rfl ?_
        refine tk 4 ⟨some 35,_,_,_,_,_⟩ rfl ?_
        refine tk 5 ⟨some 36,_,_,_,_,_⟩ rfl ?_
        refine tk 6 ⟨some 37,_,_,_,_,_⟩ rfl ?_
        refine tk 7 ⟨some 38,_,_,_,_,_⟩ rfl ?_
        refine tk 8 ⟨some 39,_,_,_,_,_⟩ rfl ?_
        refine tk 9 ⟨some 40,_,_,_,_,_⟩ rfl ?_
        refine tk 10 ⟨some 41,_,_,_,_,_⟩ rfl ?_
        refine tk 11 ⟨some 42,_,_,_,_,_⟩ rfl ?_
        refine tk 12 ⟨some 43,_,_,_,_,_⟩ rfl ?_
        refine tk 13 ⟨some 44,_,_,_,_,_⟩ rfl ?_
        refine tk 14 ⟨some 45,_,_,_,_,_⟩ rfl ?_
        refine tk 15 ⟨some 46,_,_,_,_,_⟩ rfl ?_
        refine tk 16 ⟨some 47,_,_,_,_,_⟩ rfl ?_
        refine tk 17 ⟨some 48,_,_,_,_,_⟩ rfl ?_
        refine tk 18 ⟨some 49,_,_,_,_,_⟩ rfl ?_
        refine tk 19 ⟨some 50,_,_,_,_,_⟩ rfl ?_
        refine tk 20 ⟨some 51,_,_,_,_,_⟩ rfl ?_
        refine tk 21 ⟨some 52,_,_,_,_,_⟩ rfl ?_
        refine tk 22 ⟨some 53,_,_,_,_,_⟩ rfl ?_
        refine tk 23 ⟨some 54,_,_,_,_,_⟩ rfl ?_
        refine tk 24 ⟨some 55,_,_,_,_,_⟩ rfl ?_
        refine tk 25 ⟨some 56,_,_,_,_,_⟩ rfl ?_
        refine tu 26 ⟨some 57,_,_,_,_,_⟩ rfl ?_
        refine tu 27 ⟨some 58,_,_,_,_,_⟩ rfl ?_
        refine tu 28 ⟨some 59,_,_,_,_,_⟩ rfl ?_
        refine tu 29 ⟨some 60,_,_,_,_,_⟩ rfl ?_
        refine tu 30 ⟨some 61,_,_,_,_,_⟩ rfl ?_
        refine tk 31 ⟨some 62,_,_,_,_,_⟩ rfl ?_
        refine wpAnyH_done (by kernel_rfl) ?_ _
        have HBF := Lib.hid HB3.out
        clear hHeld
        go_wp2_with fail
        go_ret
        exact ⟨kt.ret_bool HJ.out.symm, HBw3.out.drew⟩
     ·have HTY : Hid (tyOf a.t = none) := by rw [HFN.out, if_neg hne]; exact rfl
      have HJ : Hid (atsF none L = false) := by
       show _ = _
       rw [hJ.out, HST.out, atOK_none HTY.out]; rfl
      have qe : ((bs ty.name).toList == a.t.toList) = false := ne_str hne
      have qn : ((bs ty.name).toList != a.t.toList) = true := by
       have := ne_str hne
       rw [bne, this]; rfl
      clear HFN hne HRV1 HTY
      generalize bs ty.name = nm at HFD1 qn qe
      generalize ty.syn = syn at HFD1
      generalize ty.single = sg at HFD1
      have HFD := HFD1
      clear HFD1
      go_wp2_with fail
      refine (HFD.out _ HYr.out).mono ?_
      rintro e w2 ⟨rfl, hB2⟩
      obtain ⟨w3, hw3⟩ : ∃ W, w2.alloc (.cells #[.string nm, .int .i64 syn, .bool sg] 29) = W := ⟨_, rfl⟩
      have hB3 : Below w2.heap.size w2 w3 := by rw [← hw3]; exact (Below.refl _ _).alloc (Nat.le_refl _) _
      have y0 : w3.cell? ⟨w2.heap.size, 0, none⟩ = some (.string nm) := by rw [← hw3, World.cell?_alloc_new]; rfl
      have y1 : w3.cell? ⟨w2.heap.size, 1, none⟩ = some (.int .i64 syn) := by rw [← hw3, World.cell?_alloc_new]; rfl
      have y2 : w3.cell? ⟨w2.heap.size, 2, none⟩ = some (.bool sg) := by rw [← hw3, World.cell?_alloc_new]; rfl
      have hBa : Below wr.heap.size wr w3 := HBA.out.trans ((hB2.trans (hB3.mono hB2.size)).mono HBA.out.size)
      have hA23 := hB2.trans (hB3.mono hB2.size)
      have HTA3 := Lib.hid (attrB_below HTA.out hA23)
      obtain ⟨x0, x1⟩ := attrB_cells HTA3.out
      have z1 := (hBa.cell (p := ⟨w.heap.size, 1, none⟩) hlz0).trans ze
      have HBr3 := Lib.hid (hB.out.trans (hBa.mono hsz))
      have HBw3 := Lib.hid (HB1.out.trans (HBr3.out.mono hs1))
      have hla := World.block_lt_of_cell? w3 _ x0
      have hlt2 := World.block_lt_of_cell? w3 _ y0
      have hlz := World.block_lt_of_cell? w3 _ z1
      have HB3 := Lib.hid hB3
      have HBA3 := Lib.hid hBa
      clear hB2 hB3 hBa hA23 ze
      go_wp2_with fail
      refine wp_region_held_drew (S := fun W => W.cell? ⟨wr.heap.size, 0, none⟩ = some (.string a.t) ∧ W.cell? ⟨wr.heap.size, 1, none⟩ = some (.slice ax M cx) ∧ W.cell? ⟨w2.heap.size, 0, none⟩ = some (.string nm) ∧ W.cell? ⟨w2.heap.size, 1, none⟩ = some (.int .i64 syn) ∧ W.cell? ⟨w2.heap.size, 2, none⟩ = some (.bool sg) ∧ W.cell? ⟨w.heap.size, 1, none⟩ = some (.slice (some ⟨b, o, none⟩) N ac)) (by kernel_rfl) (⟨x0, x1, y0, y1, y2, z1⟩) (fun hHeld => ?_)
      refine tk 0 ⟨some 31,_,_,_,_,_⟩ rfl ?_
      refine tk 1 ⟨some 32,_,_,_,_,_⟩ rfl ?_
      refine tk 2 ⟨some 33,_,_,_,_,_⟩ rfl ?_
      refine tk 3 ⟨some 34,_,_,_,_,_⟩ rfl ?_
      refine tk 4 ⟨some 35,_,_,_,_,_⟩ rfl ?_
      refine tk 5 ⟨some 36,_,_,_,_,_⟩ rfl ?_
      refine tk 6 ⟨some 37,_,_,_,_,_⟩ rfl ?_
      refine tk 7 ⟨some 38,_,_,_,_,_⟩ rfl ?_
      refine tk 8 ⟨some 39,_,_,_,_,_⟩ rfl ?_
      refine tk 9 ⟨some 40,_,_,_,_,_⟩ rfl ?_
      refine tu 10 ⟨some 41,_,_,_,_,_⟩ rfl ?_
      refine tu 11 ⟨some 42,_,_,_,_,_⟩ rfl ?_
      refine tu 12 ⟨some 43,_,_,_,_,_⟩ rfl ?_
      refine tu 13 ⟨some 44,_,_,_,_,_⟩ rfl ?_
      refine tu 14 ⟨some 45,_,_,_,_,_⟩ rfl ?_
      refine tu 15 ⟨some 46,_,_,_,_,_⟩ rfl ?_
      refine tu 16 ⟨some 47,_,_,_,_,_⟩ rfl ?_
      refine tu 17 ⟨some 48,_,_,_,_,_⟩ rfl ?_
      refine tu 18 ⟨some 49,_,_,_,_,_⟩ rfl ?_
      refine tu 19 ⟨some 50,_,_,_,_,_⟩ rfl ?_
      refine tu 20 ⟨some 51,_,_,_,_,_⟩ rfl ?_
      refine tu 21 ⟨some 52,_,_,_,_,_⟩ rfl ?_
      refine tu 22 ⟨some 53,_,_,_,_,_⟩ rfl ?_
      refine tu 23 ⟨some 54,_,_,_,_,_⟩ rfl ?_
      refine tk 24 ⟨some 55,_,_,_,_,_⟩ rfl ?_
      refine tk 25 ⟨some 56,_,_,_,_,_⟩ rfl ?_
      refine tu 26 ⟨some 57,_,_,_,_,_⟩ rfl ?_
      refine tu 27 ⟨some 58,_,_,_,_,_⟩ rfl ?_
      refine tu 28 ⟨some 59,_,_,_,_,_⟩ rfl ?_
      refine tu 29 ⟨some 60,_,_,_,_,_⟩ rfl ?_
      refine tu 30 ⟨some 61,_,_,_,_,_⟩ rfl ?_
      refine tk 31 ⟨some 62,_,_,_,_,_⟩ rfl ?_
      refine wpAnyH_done (by kernel_rfl) ?_ _
      have HBF := Lib.hid HB3.out
      clear hHeld
      go_wp2_with fail
      go_ret
      exact ⟨kt.ret_bool HJ.out.symm, HBw3.out.drew⟩
   ·obtain rfl : N = i := by omega
    have HJ : Hid (atsF none L = true) := by
     show _ = _
     rw [hJ.out, ← HN.out, List.drop_length]; rfl
    clear ze
    go_wp2_with fail
    go_ret
    exact ⟨kt.ret_bool HJ.out.symm, HBw.out⟩
end etw
end Go.Proofs.YtcolcogobdgejaaGreatDoor
