/- The reference's reading of a name: plain laws. -/
import Derived.Test.YtjjbmhndakmkbaaGreatDoorParseW
namespace Go.Proofs.YtjjbmhndakmkbaaGreatDoor
namespace dnw
open dnp
set_option linter.unusedVariables false
set_option linter.unusedSimpArgs false
/-- the name of signs, behind what is there already -/
def GR (ns : List (List Av)) (cur : List Av) (L : List Sg) : Option (List (List Av)) := (refL (segs L)).map fun q => ns ++ grpA (cur ++ [av q.1]) q.2
theorem GR_bad_end {ns : List (List Av)} {cur : List Av} {B : List Sg} (h : ∀ x ∈ B, sepS x = false) (hp : pairS B = none) : GR ns cur B = none := by
  unfold GR; rw [segs_none B h]; unfold refL; simp only []; rw [hp]; rfl
theorem GR_bad {ns : List (List Av)} {cur : List Av} {B L : List Sg} {c : UInt8} (h : ∀ x ∈ B, sepS x = false) (hc : isSep c = true) (hp : pairS B = none) : GR ns cur (B ++ (c, true) :: L) = none := by
  unfold GR; rw [segs_at B c L h hc]; unfold refL; simp only []; rw [hp]; rfl
theorem GR_end {ns : List (List Av)} {cur : List Av} {B : List Sg} {p : Pr} (h : ∀ x ∈ B, sepS x = false) (hp : pairS B = some p) : GR ns cur B = some (ns ++ [cur ++ [av p]]) := by
  unfold GR; rw [segs_none B h]; unfold refL; simp only []; rw [hp]; rfl
theorem GR_plus {ns : List (List Av)} {cur : List Av} {B L : List Sg} {p : Pr} (h : ∀ x ∈ B, sepS x = false) (hp : pairS B = some p) : GR ns cur (B ++ (43, true) :: L) = GR ns (cur ++ [av p]) L := by
  unfold GR
  rw [segs_at B 43 L h (by decide), refL_cons, hp]
  simp only [Option.bind_some, Option.map_map]
  congr 1
theorem GR_next {ns : List (List Av)} {cur : List Av} {B L : List Sg} {p : Pr} {c : UInt8} (h : ∀ x ∈ B, sepS x = false) (hs : isSep c = true) (hc : c ≠ 43) (hp : pairS B = some p) : GR ns cur (B ++ (c, true) :: L) = GR (ns ++ [cur ++ [av p]]) [] L := by
  unfold GR
  rw [segs_at B c L h hs, refL_cons, hp]
  simp only [Option.bind_some, Option.map_map]
  congr 1
  funext q
  simp only [Function.comp]
  rw [grpA, if_neg hc]
  first | done | simp
theorem dropW_idem (l : List UInt8) : (l.dropWhile (· = 32)).dropWhile (· = 32) = l.dropWhile (· = 32) := by
  rw [dropW_id]
  intro x t h
  exact dropW_head (fun c : UInt8 => decide (c = 32)) _ _ _ h
theorem kindP_drop (l : List UInt8) : kindP (l.dropWhile (· = 32)) = kindP l := by
  unfold kindP
  simp only [dropW_idem]
theorem P_drop (l : List UInt8) : P (l.dropWhile (· = 32)) = P l := by rw [P_step, P_step, kindP_drop]
theorem trim_blank {L : List Sg} (h : trim L = []) : ∀ x ∈ L, blankS x = true := by
  intro x hx
  cases hb : blankS x with
  | true => rfl
  | false => have := trim_keep L x hx hb; rw [h] at this; simp at this
theorem trim_of_blank {L : List Sg} (h : ∀ x ∈ L, blankS x = true) : trim L = [] := by
  cases hL : trim L with
  | nil => rfl
  | cons x t =>
    exfalso
    have h0 : L.dropWhile blankS = [] := by
      have := dropW_app blankS L [] h
      rw [List.append_nil] at this
      rw [this]; rfl
    unfold trim at hL
    rw [h0] at hL
    cases hL
/-- the reference's way to the same answer -/
theorem parseR_signs (l : List UInt8) : parseR l = match signs l with
    | none => none
    | some L => if trim L = [] then some [] else match GR [] [] L with
      | none => none
      | some n => if nameOK n = true then some n else none := by
  unfold parseR
  obtain ⟨a, ha, hab⟩ := dropW_split (fun c : UInt8 => decide (c = 32)) l
  have hab' : ∀ c ∈ a, c = 32 := fun c hc => by simpa using hab c hc
  by_cases h0 : l.dropWhile (· = 32) = []
  · rw [if_pos h0]
    rw [h0, List.append_nil] at ha
    have hs : signs l = some (l.map (·, true)) := by
      have := signs_app l [] (fun h => by rw [ha] at h; have := hab' 92 h; revert this; decide)
      rw [List.append_nil, signs_nil] at this
      simpa using this
    rw [hs]
    have : trim (l.map fun c => ((c, true) : Sg)) = [] := trim_of_blank (by
      intro x hx
      obtain ⟨c, hc, rfl⟩ := List.mem_map.1 hx
      rw [ha] at hc
      rw [hab' c hc]; decide)
    simp only [this, if_true]
  · rw [if_neg h0]
    have hg : GP [] [] (l.dropWhile (· = 32)) = (signs l).bind fun L => GR [] [] L := by
      unfold GP GR
      rw [P_drop, P_R]
      unfold R
      cases signs l with
      | none => rfl
      | some L => rfl
    rw [hg]
    cases hs : signs l with
    | none => rfl
    | some L =>
      have ht : ¬ trim L = [] := by
        intro ht
        apply h0
        have hb := trim_blank ht
        have hL : L = (L.map (·.1)).map (·, true) := by
          rw [List.map_map]
          conv => lhs; rw [← List.map_id L]
          apply List.map_congr_left
          intro x hx
          have := hb x hx
          obtain ⟨c, b⟩ := x
          unfold blankS at this
          simp only [Bool.and_eq_true] at this
          obtain ⟨rfl, _⟩ := this
          rfl
        rw [hL] at hs
        rw [← List.append_nil (List.map _ _)] at hs
        obtain ⟨r, h1, _, h3⟩ := signs_of_bares _ _ _ hs
        have hr : r = [] := by
          cases r with
          | nil => rfl
          | cons c r =>
            exfalso
            by_cases e : c = 92
            · subst e
              cases he : esc r with
              | none => rw [signs_bad r he] at h3; cases h3
              | some p => rw [signs_esc r p.1 p.2 he] at h3; obtain ⟨M, _, hM⟩ := Option.map_eq_some_iff.1 h3; cases hM
            · rw [signs_bare c r e] at h3; obtain ⟨M, _, hM⟩ := Option.map_eq_some_iff.1 h3; cases hM
        rw [h1, hr, List.append_nil]
        have := dropW_app (fun c : UInt8 => decide (c = 32)) (L.map (·.1)) [] (by
          intro c hc
          obtain ⟨x, hx, rfl⟩ := List.mem_map.1 hc
          have := hb x hx
          unfold blankS at this
          simp only [Bool.and_eq_true] at this
          exact this.2)
        rw [List.append_nil] at this
        rw [this]; rfl
      simp only [Option.bind_some]
      rw [if_neg ht]
      cases GR [] [] L <;> rfl
end dnw
end Go.Proofs.YtjjbmhndakmkbaaGreatDoor
