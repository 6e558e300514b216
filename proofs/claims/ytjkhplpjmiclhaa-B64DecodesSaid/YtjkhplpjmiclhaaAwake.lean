/- The walk of the law's awake: the chapter's examples. -/
import Derived.Test.YtjkhplpjmiclhaaEnc
import Derived.Test.YtjkhplpjmiclhaaHex
namespace Go.Proofs.Ytjkhplpjmiclhaa
open Go.RowKit
theorem awake_any (w : World) : Calls Try.prog 7 #[] w fun e w' => e = .returned (.bool true) ∧ Below w.heap.size w w' := by
  have h1 := encode_any { data := #[97, 98, 99, 100] } w (by decide)
  rw [show b64p.enc _ = [89, 87, 74, 106, 90, 65, 61, 61] from by simp [b64p.enc_cons, b64p.enc_nil]; decide] at h1
  have H1 := Lib.hid h1
  clear h1
  have H2 : ∀ w1, Hid (Calls Try.prog 9 #[.string { data := #[97, 255] }] w1 fun e w' => e = .returned (.string ⟨#[54, 49, 102, 102]⟩) ∧ Below w1.heap.size w1 w') := by
    intro w1
    have h2 := hex_any { data := #[97, 255] } w1 (by decide)
    rw [show b64p.hex _ = [54, 49, 102, 102] from by decide] at h2
    exact h2
  go_enter Try.func7, Try.ntmps7
  go_wp2_with fail
  refine H1.out.mono ?_
  rintro e w1 ⟨rfl, hB1⟩
  go_wp2_with fail
  refine (H2 w1).out.mono ?_
  rintro e w2 ⟨rfl, hB2⟩
  go_wp2_with fail
  go_ret
  exact ⟨rfl, hB1.trans (hB2.mono hB1.size)⟩
end Go.Proofs.Ytjkhplpjmiclhaa
