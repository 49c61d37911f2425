/-
  The operations of numbers of 32 bits as operations of bits. No program; no condition.
-/
import Derived.Test.YtpgekajgbkbpkaaImA
namespace Go.Proofs.Ytpgekajgbkbpkaa.Im
open Go Go.Ev

theorem ofInt32 (v : B) : BitVec.ofInt 32 ((v.toNat : Nat) : Int) = v := by
  rw [BitVec.ofInt_natCast]
  apply BitVec.eq_of_toNat_eq
  rw [BitVec.toNat_ofNat]
  exact Nat.mod_eq_of_lt v.isLt
theorem wrap32 (v : B) : IntKind.wrap .u32 ((v.toNat : Nat) : Int) = ((v.toNat : Nat) : Int) := by
  rw [wrap_u32']
  have := v.isLt
  omega
theorem xor32 (a b : B) : bxor .u32 (a.toNat : Int) (b.toNat : Int) = ((a ^^^ b).toNat : Int) := by
  unfold bxor
  rw [show IntKind.bits .u32 = 32 from rfl, ofInt32, ofInt32, wrap32]
theorem and32 (a b : B) : band .u32 (a.toNat : Int) (b.toNat : Int) = ((a &&& b).toNat : Int) := by
  unfold band
  rw [show IntKind.bits .u32 = 32 from rfl, ofInt32, ofInt32, wrap32]
theorem shr32 (a : B) (k : Nat) : Int.fdiv (a.toNat : Int) (2 ^ k) = ((a >>> k).toNat : Int) := by
  rw [BitVec.toNat_ushiftRight, Nat.shiftRight_eq_div_pow]
  rw [Int.fdiv_eq_ediv_of_nonneg _ (by exact Int.pow_nonneg (by omega))]
  norm_cast
theorem byte32 (x : UInt8) : IntKind.wrap .u32 (x.toNat : Int) = ((byB x).toNat : Int) := by
  unfold byB
  have := x.toNat_lt
  rw [wrap_u32', BitVec.toNat_ofNat]
  omega
theorem low32 (c : B) : c &&& 1#32 = if c.getLsbD 0 then 1#32 else 0#32 := by
  apply BitVec.eq_of_getLsbD_eq
  intro i hi
  rw [BitVec.getLsbD_and]
  by_cases h : i = 0
  · subst h
    cases c.getLsbD 0 <;> rfl
  · have : (1#32).getLsbD i = false := by
      rw [BitVec.getLsbD_ofNat]
      have : Nat.testBit 1 i = false := Nat.testBit_lt_two_pow (Nat.one_lt_two_pow h)
      rw [this]; simp
    rw [this]
    cases c.getLsbD 0
    · simp
    · simp [this]
end Go.Proofs.Ytpgekajgbkbpkaa.Im
