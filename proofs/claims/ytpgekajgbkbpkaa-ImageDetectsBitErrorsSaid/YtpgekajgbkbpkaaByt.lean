/-
  Bytes: and, or, and-not of numbers of eight bits. No program; no condition.
-/
import Derived.Test.YtpgekajgbkbpkaaQ
namespace Go.Ev
open Go
theorem ofInt_u8 (x : UInt8) : BitVec.ofInt 8 ((x.toNat : Nat) : Int) = x.toBitVec := by
  rw [BitVec.ofInt_natCast]
  apply BitVec.eq_of_toNat_eq
  rw [BitVec.toNat_ofNat]
  exact Nat.mod_eq_of_lt x.toNat_lt
theorem wrap_bv8 (b : BitVec 8) : IntKind.wrap .u8 ((b.toNat : Nat) : Int) = ((b.toNat : Nat) : Int) := by
  rw [wrap_u8']
  have := b.isLt
  omega
theorem and8 (x y : UInt8) : band .u8 (x.toNat : Int) (y.toNat : Int) = ((x &&& y).toNat : Int) := by
  unfold band
  rw [show IntKind.bits .u8 = 8 from rfl, ofInt_u8, ofInt_u8, wrap_bv8]
  rfl
theorem or8 (x y : UInt8) : bor .u8 (x.toNat : Int) (y.toNat : Int) = ((x ||| y).toNat : Int) := by
  unfold bor
  rw [show IntKind.bits .u8 = 8 from rfl, ofInt_u8, ofInt_u8, wrap_bv8]
  rfl
theorem andNot8 (x y : UInt8) : bandNot .u8 (x.toNat : Int) (y.toNat : Int) = ((x &&& ~~~y).toNat : Int) := by
  unfold bandNot
  rw [show IntKind.bits .u8 = 8 from rfl, ofInt_u8, ofInt_u8, wrap_bv8]
  rfl
theorem xor8 (x y : UInt8) : bxor .u8 (x.toNat : Int) (y.toNat : Int) = ((x ^^^ y).toNat : Int) := by
  unfold bxor
  rw [show IntKind.bits .u8 = 8 from rfl, ofInt_u8, ofInt_u8, wrap_bv8]
  rfl
theorem byte_ne0 (x : UInt8) : (((x.toNat : Nat) : Int) != 0) = decide (x ≠ 0) := by
  by_cases h : x = 0
  · subst h; rfl
  · rw [decide_eq_true h, bne_iff_ne]
    intro hc
    exact h (UInt8.toNat_inj.mp (by show x.toNat = 0; omega))
end Go.Ev
