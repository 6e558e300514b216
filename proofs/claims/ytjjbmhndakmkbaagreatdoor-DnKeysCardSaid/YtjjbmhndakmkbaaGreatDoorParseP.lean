/- A name's pairs grouped to relative names: plain laws. -/
import Derived.Test.YtjjbmhndakmkbaaGreatDoorNest
namespace Go.Proofs.YtjjbmhndakmkbaaGreatDoor
namespace dnw
open dnp
set_option linter.unusedVariables false
set_option linter.unusedSimpArgs false
def av (p : Pr) : Av := ⟨⟨p.1.toArray⟩, ⟨p.2.toArray⟩⟩
def grpA (cur : List Av) : List (UInt8 × Pr) → List (List Av)
  | [] => [cur]
  | (c, p) :: r => if c = 43 then grpA (cur ++ [av p]) r else cur :: grpA [av p] r
/-- the pairs of a text, the program's way -/
def P (l : List UInt8) : Option (Pr × List (UInt8 × Pr)) := PF (l.length + 1) l
theorem P_R (l : List UInt8) : P l = R l := P_eq_R _ l (Nat.lt_succ_self _)
theorem P_step (l : List UInt8) : P l = (kindP l).bind fun k => (valueP k.2).bind fun v => match v.2 with
    | [] => some ((k.1, v.1), [])
    | c :: r => (P r).map fun p => ((k.1, v.1), (c, p.1) :: p.2) := by
  unfold P
  rw [PF]
  cases hk : kindP l with
  | none => rfl
  | some k =>
    simp only [Option.bind_some]
    cases hv : valueP k.2 with
    | none => rfl
    | some v =>
      simp only [Option.bind_some]
      cases hr : v.2 with
      | nil => rfl
      | cons c r =>
        simp only []
        -- the rest is shorter
        have hlen : r.length < l.length := by
          obtain ⟨t, rr⟩ := k
          obtain ⟨x, T, y, rfl, _, _, _, _⟩ := kindP_some hk
          have h1 : (c :: r).length ≤ rr.length := by
            unfold valueP at hv
            split at hv
            · cases hv
            · obtain ⟨q, hq, hq2⟩ := Option.map_eq_some_iff.1 hv
              rw [← hq2] at hr
              simp only at hr
              obtain ⟨a, ha, _⟩ := dropW_split (fun c : UInt8 => decide (c = 32)) rr
              have h2 : (rr.dropWhile fun c => decide (c = 32)).length ≤ rr.length := by
                have := congrArg List.length ha
                rw [List.length_append] at this
                omega
              rcases scan_signs _ (rr.dropWhile fun c => decide (c = 32)) (Nat.le_refl _) with ⟨e1, _⟩ | ⟨B, e1, _⟩ | ⟨B, c', r', e1, _, e3, _⟩
              · rw [e1] at hq; cases hq
              · rw [e1] at hq; cases hq; cases hr
              · rw [e1] at hq
                cases hq
                cases hr
                simp only [List.length_cons]
                omega
          simp only [List.length_append, List.length_cons] at h1 ⊢
          omega
        rw [P_eq_R _ r (by omega), P_eq_R _ r (by omega)]
/-- the name of a text, behind what is there already -/
def GP (ns : List (List Av)) (cur : List Av) (l : List UInt8) : Option (List (List Av)) := (P l).map fun q => ns ++ grpA (cur ++ [av q.1]) q.2
theorem GP_kind {ns : List (List Av)} {cur : List Av} {l : List UInt8} (h : kindP l = none) : GP ns cur l = none := by
  unfold GP; rw [P_step, h]; rfl
theorem GP_value {ns : List (List Av)} {cur : List Av} {l t r : List UInt8} (h : kindP l = some (t, r)) (h2 : valueP r = none) : GP ns cur l = none := by
  unfold GP; rw [P_step, h]; simp only [Option.bind_some]; rw [h2]; rfl
theorem GP_end {ns : List (List Av)} {cur : List Av} {l t r v : List UInt8} (h : kindP l = some (t, r)) (h2 : valueP r = some (v, [])) : GP ns cur l = some (ns ++ [cur ++ [av (t, v)]]) := by
  unfold GP; rw [P_step, h]; simp only [Option.bind_some]; rw [h2]; rfl
theorem GP_plus {ns : List (List Av)} {cur : List Av} {l t r v u : List UInt8} (h : kindP l = some (t, r)) (h2 : valueP r = some (v, 43 :: u)) : GP ns cur l = GP ns (cur ++ [av (t, v)]) u := by
  unfold GP; rw [P_step, h]; simp only [Option.bind_some]; rw [h2]
  simp only [Option.bind_some, Option.map_map]
  congr 1
theorem GP_next {ns : List (List Av)} {cur : List Av} {l t r v u : List UInt8} {c : UInt8} (h : kindP l = some (t, r)) (h2 : valueP r = some (v, c :: u)) (hc : c ≠ 43) : GP ns cur l = GP (ns ++ [cur ++ [av (t, v)]]) [] u := by
  unfold GP; rw [P_step, h]; simp only [Option.bind_some]; rw [h2]
  simp only [Option.bind_some, Option.map_map]
  congr 1
  funext q
  simp only [Function.comp]
  rw [grpA, if_neg hc]
  first | done | simp
theorem scan_len : ∀ (n : Nat) (l : List UInt8) (B : List Sg) (r : List UInt8), l.length ≤ n → scan l = some (B, r) → B.length ≤ l.length
  | n, [], B, r, _, h => by rw [scan_nil] at h; cases h; exact Nat.le_refl _
  | 0, _ :: _, _, _, h, _ => by simp at h
  | n + 1, c :: t, B, r, hn, h => by
    simp only [List.length_cons] at hn
    by_cases hs : isSep c = true
    · rw [scan_sep c t hs] at h; cases h; exact Nat.zero_le _
    · have hs' : isSep c = false := by simpa using hs
      by_cases hb : bad c = true
      · rw [scan_bad c t hs' hb] at h; cases h
      · have hb' : bad c = false := by simpa using hb
        by_cases h92 : c = 92
        · subst h92
          cases he : esc t with
          | none => rw [scan_none t he] at h; cases h
          | some p =>
            obtain ⟨d, k⟩ := p
            rw [scan_esc t d k he] at h
            obtain ⟨q, hq, hq2⟩ := Option.map_eq_some_iff.1 h
            cases hq2
            have := scan_len n (t.drop k) q.1 q.2 (by rw [List.length_drop]; omega) hq
            rw [List.length_drop] at this
            simp only [List.length_cons]
            omega
        · rw [scan_bare c t hs' hb' h92] at h
          obtain ⟨q, hq, hq2⟩ := Option.map_eq_some_iff.1 h
          cases hq2
          have := scan_len n t q.1 q.2 (by omega) hq
          simp only [List.length_cons]
          omega
theorem value_len {r v u : List UInt8} (h : valueP r = some (v, u)) : v.length ≤ r.length := by
  unfold valueP at h
  split at h
  · cases h
  · obtain ⟨q, hq, hq2⟩ := Option.map_eq_some_iff.1 h
    cases hq2
    have h1 := scan_len _ _ q.1 q.2 (Nat.le_refl _) hq
    have h2 := trimR_len q.1
    obtain ⟨a, ha, _⟩ := dropW_split (fun c : UInt8 => decide (c = 32)) r
    have h3 := congrArg List.length ha
    rw [List.length_append] at h3
    rw [List.length_map]
    omega
theorem kind_len {l t r : List UInt8} (h : kindP l = some (t, r)) : t.length ≤ 32 := by
  obtain ⟨x, T, y, _, _, _, hT, rfl⟩ := kindP_some h
  unfold typeOK at hT
  simp only [Bool.and_eq_true, decide_eq_true_eq] at hT
  exact hT.1.2
theorem av_small {t v : List UInt8} (ht : t.length ≤ 32) (hv : v.length ≤ 10000) : (av (t, v)).t.size ≤ 100000 ∧ (av (t, v)).v.size ≤ 1000000 := by
  unfold av
  refine ⟨?_, ?_⟩
  · rw [← kt.size_len]; show t.length ≤ _; omega
  · rw [← kt.size_len]; show v.length ≤ _; omega
/-- the name of a text; none: it is none's -/
def parseR (l : List UInt8) : Option (List (List Av)) :=
  if l.dropWhile (· = 32) = [] then some [] else match GP [] [] (l.dropWhile (· = 32)) with
    | none => none
    | some n => if nameOK n = true then some n else none
end dnw
end Go.Proofs.YtjjbmhndakmkbaaGreatDoor
