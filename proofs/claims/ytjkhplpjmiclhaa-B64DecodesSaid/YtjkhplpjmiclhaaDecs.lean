/- The walks of the laws B64Encodes, B64Decodes. -/
import Derived.Test.YtjkhplpjmiclhaaDec2
namespace Go.Proofs.Ytjkhplpjmiclhaa
open Go.RowKit

set_option maxHeartbeats 1000000 in
theorem encodes_any (s : ByteArray) (w : World) (hs : s.size ≤ 140737488351232) :
    Calls Try.prog 5 #[.string s] w fun e w' => e = .returned (.bool true) ∧ Below w.heap.size w w' := by
  by_cases hbig : 3000 < s.size
  · have C := Lib.hid (awake_any w)
    go_enter Try.func5, Try.ntmps5
    go_wp2_with fail
    refine C.out.mono ?_
    rintro e w1 ⟨rfl, hB1⟩
    go_wp2_with fail
    go_ret
    exact ⟨rfl, hB1⟩
  · obtain ⟨h, hh⟩ : ∃ h : ByteArray, Hid (h = ⟨(b64p.enc s.data.toList).toArray⟩) := ⟨⟨(b64p.enc s.data.toList).toArray⟩, rfl⟩
    have hhs : h.size ≤ 9000 := by
      have h1 : h.size = (b64p.enc s.data.toList).length := by rw [hh.out]; rfl
      have h2 := (b64p.enc_length _ s.data.toList (Nat.le_refl _)).1
      rw [kt.size_len] at h2
      omega
    have C := Lib.hid (awake_any w)
    have C2 : Hid (∀ w, Calls Try.prog 13 #[.string s] w fun e w' => e = .returned (.string h) ∧ Below w.heap.size w w') := by
      intro w; rw [hh.out]; exact encode_any s w (by omega)
    have C3 : Hid (∀ w, Calls Try.prog 15 #[.string s] w fun e w' => e = .returned (.string h) ∧ Below w.heap.size w w') := by
      intro w; rw [hh.out]; exact rencode_any s w (by omega)
    have C4 : Hid (∀ w, Calls Try.prog 14 #[.string h] w fun e w' => e = .returned (.tuple #[.string s, .int .i64 0]) ∧ Below w.heap.size w w') := by
      intro w
      have := decode_any h w hhs
      rw [show h.data.toList = b64p.enc s.data.toList from by rw [hh.out], b64p.D_enc] at this
      have e : b64p.uhV (some s.data.toList) = .tuple #[.string s, .int .i64 0] := rfl
      unfold DecRes at this
      rw [e] at this
      exact this
    go_enter Try.func5, Try.ntmps5
    go_wp2_with fail
    refine C.out.mono ?_
    rintro e w1 ⟨rfl, hB1⟩
    go_wp2_with fail
    refine (C2.out _).mono ?_
    rintro e w2 ⟨rfl, hB2⟩
    go_wp2_with fail
    refine (C4.out _).mono ?_
    rintro e w3 ⟨rfl, hB3⟩
    go_wp2_with fail
    refine (C3.out _).mono ?_
    rintro e w4 ⟨rfl, hB4⟩
    have z1 := hB1.size
    have z2 := hB2.size
    have z3 := hB3.size
    go_wp2_with fail
    go_ret
    exact ⟨kt.ret_bool (by simp), hB1.trans ((hB2.mono (by omega)).trans ((hB3.mono (by omega)).trans (hB4.mono (by omega))))⟩

set_option maxHeartbeats 1000000 in
theorem decodes_any (s : ByteArray) (w : World) (hs : s.size ≤ 140737488351232) :
    Calls Try.prog 6 #[.string s] w fun e w' => e = .returned (.bool true) ∧ Below w.heap.size w w' := by
  by_cases hbig : 3000 < s.size
  · have C := Lib.hid (awake_any w)
    go_enter Try.func6, Try.ntmps6
    go_wp2_with fail
    refine C.out.mono ?_
    rintro e w1 ⟨rfl, hB1⟩
    go_wp2_with fail
    go_ret
    exact ⟨rfl, hB1⟩
  · have C := Lib.hid (awake_any w)
    obtain ⟨t, n, ht⟩ : ∃ (t : ByteArray) (n : Int), Hid (b64p.uhV (b64p.D s.data.toList) = .tuple #[.string t, .int .i64 n]) := by
      cases b64p.D s.data.toList with
      | none => exact ⟨_, _, rfl⟩
      | some l => exact ⟨_, _, rfl⟩
    have C5 : Hid (∀ w, Calls Try.prog 14 #[.string s] w fun e w' => e = .returned (.tuple #[.string t, .int .i64 n]) ∧ Below w.heap.size w w') := by
      intro w; rw [← ht.out]; exact decode_any s w (by omega)
    have C6 : Hid (∀ w, Calls Try.prog 16 #[.string s] w fun e w' => e = .returned (.tuple #[.string t, .int .i64 n]) ∧ Below w.heap.size w w') := by
      intro w; rw [← ht.out, b64p.D_eq_R]; exact rdecode_any s w (by omega)
    go_enter Try.func6, Try.ntmps6
    go_wp2_with fail
    refine C.out.mono ?_
    rintro e w1 ⟨rfl, hB1⟩
    go_wp2_with fail
    refine (C5.out _).mono ?_
    rintro e w2 ⟨rfl, hB2⟩
    go_wp2_with fail
    refine (C6.out _).mono ?_
    rintro e w3 ⟨rfl, hB3⟩
    have z1 := hB1.size
    have z2 := hB2.size
    go_wp2_with fail
    go_ret
    exact ⟨kt.ret_bool (by simp), hB1.trans ((hB2.mono (by omega)).trans (hB3.mono (by omega)))⟩
end Go.Proofs.Ytjkhplpjmiclhaa
