/- The walks of one digit's worth, the program's and the reference's. -/
import Derived.Test.YtjjbmhndakmkbaaDoorB64P
import Derived.Test.YtjjbmhndakmkbaaDoorShelf
import Derived.Test.YtjjbmhndakmkbaaDoorRows
namespace Go.Proofs.YtjjbmhndakmkbaaDoor
open Go.RowKit
theorem hx_drewN {B : Nat} {a b : World} (h : Below B a b) (n : Nat) : Below B a (b.drewN n) := ⟨h.os, h.tape, h.output, h.size, h.block⟩

theorem ix_val (c : UInt8) : Lib.indexByte b64p.digits ((if 65 ≤ c.toNat ∧ c.toNat ≤ 70 then c.toNat + 32 else c.toNat).toUInt8) = b64p.valI c := by
  have all : ∀ m : Fin 256, Lib.indexByte b64p.digits ((if 65 ≤ m.val ∧ m.val ≤ 70 then m.val + 32 else m.val).toUInt8) = b64p.valI (UInt8.ofNat m.val) := by decide +kernel
  have h := all ⟨c.toNat, c.toNat_lt⟩
  simpa using h

theorem digit_any (c : UInt8) (w : World) : Calls Tryd.prog 67 #[.int .u8 (c.toNat : Int)] w fun e w' => e = .returned (.int .i64 (b64p.valI c)) ∧ w = w' := by
  have hx := ix_val c
  have hc := c.toNat_lt
  by_cases h1 : 65 ≤ c.toNat
  · by_cases h2 : c.toNat ≤ 70
    · rw [if_pos ⟨h1, h2⟩] at hx
      have C := Tryd.strings_IndexByte { data := #[48, 49, 50, 51, 52, 53, 54, 55, 56, 57, 97, 98, 99, 100, 101, 102] } ((c.toNat : Int) + 32) w
      have hi : Lib.indexByte (ByteArray.mk #[48, 49, 50, 51, 52, 53, 54, 55, 56, 57, 97, 98, 99, 100, 101, 102]).data.toList ((c.toNat : Int) + 32).toNat.toUInt8 = b64p.valI c := hx
      rw [hi] at C
      have C := Lib.hid C
      clear hx hi
      go_enter Tryd.func67, Tryd.ntmps67
      go_wp2_with fail
      refine C.out.mono ?_
      rintro e w' ⟨rfl, rfl⟩
      go_wp2_with fail
      go_ret
      exact ⟨rfl, rfl⟩
    · rw [if_neg (by omega)] at hx
      have C := Tryd.strings_IndexByte { data := #[48, 49, 50, 51, 52, 53, 54, 55, 56, 57, 97, 98, 99, 100, 101, 102] } (c.toNat : Int) w
      have hi : Lib.indexByte (ByteArray.mk #[48, 49, 50, 51, 52, 53, 54, 55, 56, 57, 97, 98, 99, 100, 101, 102]).data.toList (c.toNat : Int).toNat.toUInt8 = b64p.valI c := hx
      rw [hi] at C
      have C := Lib.hid C
      clear hx hi
      go_enter Tryd.func67, Tryd.ntmps67
      go_wp2_with fail
      refine C.out.mono ?_
      rintro e w' ⟨rfl, rfl⟩
      go_wp2_with fail
      go_ret
      exact ⟨rfl, rfl⟩
  · rw [if_neg (by omega)] at hx
    have C := Tryd.strings_IndexByte { data := #[48, 49, 50, 51, 52, 53, 54, 55, 56, 57, 97, 98, 99, 100, 101, 102] } (c.toNat : Int) w
    have hi : Lib.indexByte (ByteArray.mk #[48, 49, 50, 51, 52, 53, 54, 55, 56, 57, 97, 98, 99, 100, 101, 102]).data.toList (c.toNat : Int).toNat.toUInt8 = b64p.valI c := hx
    rw [hi] at C
    have C := Lib.hid C
    clear hx hi
    go_enter Tryd.func67, Tryd.ntmps67
    go_wp2_with fail
    refine C.out.mono ?_
    rintro e w' ⟨rfl, rfl⟩
    go_wp2_with fail
    go_ret
    exact ⟨rfl, rfl⟩

theorem value_any (c : UInt8) (w : World) : Calls Tryd.prog 38 #[.int .u8 (c.toNat : Int)] w fun e w' => e = .returned (.int .i64 (b64p.valI c)) ∧ w = w' := by
  have hc := c.toNat_lt
  unfold b64p.valI
  by_cases a1 : 48 ≤ c.toNat <;> by_cases a2 : c.toNat ≤ 57 <;> by_cases a3 : 97 ≤ c.toNat <;> by_cases a4 : c.toNat ≤ 102 <;> by_cases a5 : 65 ≤ c.toNat <;> by_cases a6 : c.toNat ≤ 70 <;> first | (exfalso; omega) | skip
  all_goals
    go_enter Tryd.func38, Tryd.ntmps38
    go_wp2_with fail
    go_ret
    exact ⟨kt.ret_int (by simp [*]), rfl⟩

theorem rdigit_any (n : Nat) (hn : n < 16) (w : World) : Calls Tryd.prog 30 #[.int .i64 (n : Int)] w fun e w' => e = .returned (.int .u8 ((b64p.dg n).toNat : Int)) ∧ w = w' := by
  have hd : ((b64p.dg n).toNat : Int) = if n < 10 then 48 + (n : Int) else 87 + n := by
    have all : ∀ m : Fin 16, ((b64p.dg m.val).toNat : Int) = if m.val < 10 then 48 + (m.val : Int) else 87 + m.val := by decide
    exact all ⟨n, hn⟩
  by_cases h : n < 10
  · rw [hd, if_pos h]
    clear hd
    go_enter Tryd.func30, Tryd.ntmps30
    go_wp2_with fail
    go_ret
    exact ⟨kt.ret_int (by omega), rfl⟩
  · rw [hd, if_neg h]
    clear hd
    go_enter Tryd.func30, Tryd.ntmps30
    go_wp2_with fail
    go_ret
    exact ⟨kt.ret_int (by omega), rfl⟩
end Go.Proofs.YtjjbmhndakmkbaaDoor
