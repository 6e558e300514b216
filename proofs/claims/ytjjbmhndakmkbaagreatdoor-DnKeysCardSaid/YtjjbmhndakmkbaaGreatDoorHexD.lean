/- The walks of one digit's worth, the program's and the reference's. -/
import Derived.Test.YtjjbmhndakmkbaaGreatDoorB64P
import Derived.Test.YtjjbmhndakmkbaaGreatDoorShelf
import Derived.Test.YtjjbmhndakmkbaaGreatDoorRows
namespace Go.Proofs.YtjjbmhndakmkbaaGreatDoor
open Go.RowKit
theorem hx_drewN {B : Nat} {a b : World} (h : Below B a b) (n : Nat) : Below B a (b.drewN n) := ⟨h.os, h.tape, h.output, h.size, h.block⟩

theorem ix_val (c : UInt8) : Lib.indexByte b64p.digits ((if 65 ≤ c.toNat ∧ c.toNat ≤ 70 then c.toNat + 32 else c.toNat).toUInt8) = b64p.valI c := by
  have all : ∀ m : Fin 256, Lib.indexByte b64p.digits ((if 65 ≤ m.val ∧ m.val ≤ 70 then m.val + 32 else m.val).toUInt8) = b64p.valI (UInt8.ofNat m.val) := by decide +kernel
  have h := all ⟨c.toNat, c.toNat_lt⟩
  simpa using h

theorem digit_any (c : UInt8) (w : World) : Calls Tryz.prog 92 #[.int .u8 (c.toNat : Int)] w fun e w' => e = .returned (.int .i64 (b64p.valI c)) ∧ w = w' := by
  have hx := ix_val c
  have hc := c.toNat_lt
  by_cases h1 : 65 ≤ c.toNat
  · by_cases h2 : c.toNat ≤ 70
    · rw [if_pos ⟨h1, h2⟩] at hx
      have C := Tryz.strings_IndexByte { data := #[48, 49, 50, 51, 52, 53, 54, 55, 56, 57, 97, 98, 99, 100, 101, 102] } ((c.toNat : Int) + 32) w
      have hi : Lib.indexByte (ByteArray.mk #[48, 49, 50, 51, 52, 53, 54, 55, 56, 57, 97, 98, 99, 100, 101, 102]).data.toList ((c.toNat : Int) + 32).toNat.toUInt8 = b64p.valI c := hx
      rw [hi] at C
      have C := Lib.hid C
      clear hx hi
      go_enter Tryz.func92, Tryz.ntmps92
      go_wp2_with fail
      refine C.out.mono ?_
      rintro e w' ⟨rfl, rfl⟩
      go_wp2_with fail
      go_ret
      exact ⟨rfl, rfl⟩
    · rw [if_neg (by omega)] at hx
      have C := Tryz.strings_IndexByte { data := #[48, 49, 50, 51, 52, 53, 54, 55, 56, 57, 97, 98, 99, 100, 101, 102] } (c.toNat : Int) w
      have hi : Lib.indexByte (ByteArray.mk #[48, 49, 50, 51, 52, 53, 54, 55, 56, 57, 97, 98, 99, 100, 101, 102]).data.toList (c.toNat : Int).toNat.toUInt8 = b64p.valI c := hx
      rw [hi] at C
      have C := Lib.hid C
      clear hx hi
      go_enter Tryz.func92, Tryz.ntmps92
      go_wp2_with fail
      refine C.out.mono ?_
      rintro e w' ⟨rfl, rfl⟩
      go_wp2_with fail
      go_ret
      exact ⟨rfl, rfl⟩
  · rw [if_neg (by omega)] at hx
    have C := Tryz.strings_IndexByte { data := #[48, 49, 50, 51, 52, 53, 54, 55, 56, 57, 97, 98, 99, 100, 101, 102] } (c.toNat : Int) w
    have hi : Lib.indexByte (ByteArray.mk #[48, 49, 50, 51, 52, 53, 54, 55, 56, 57, 97, 98, 99, 100, 101, 102]).data.toList (c.toNat : Int).toNat.toUInt8 = b64p.valI c := hx
    rw [hi] at C
    have C := Lib.hid C
    clear hx hi
    go_enter Tryz.func92, Tryz.ntmps92
    go_wp2_with fail
    refine C.out.mono ?_
    rintro e w' ⟨rfl, rfl⟩
    go_wp2_with fail
    go_ret
    exact ⟨rfl, rfl⟩

end Go.Proofs.YtjjbmhndakmkbaaGreatDoor
