/-
  Page compression: bits and bytes of the program's operations. No program in sight.
-/
import Derived.Test.YtpgekajgbkbpkaaPzA
namespace Go.Proofs.Ytpgekajgbkbpkaa.Pz
open Go Go.Ev

theorem wrap_byte (n : Nat) : IntKind.wrap .u8 (n : Int) = ((UInt8.ofNat n).toNat : Int) := by
  rw [UInt8.toNat_ofNat']
  rw [wrap_u8']
  omega
theorem wrap_u8n {n : Nat} (h : n < 256) : IntKind.wrap .u8 (n : Int) = (n : Int) := by rw [wrap_u8']; omega
theorem wrap_u32n {n : Nat} (h : n < 4294967296) : IntKind.wrap .u32 (n : Int) = (n : Int) := by rw [wrap_u32']; omega
theorem fdiv_n (n m : Nat) : Int.fdiv (n : Int) (m : Int) = ((n / m : Nat) : Int) := by
  rw [Int.fdiv_eq_ediv_of_nonneg _ (by omega)]; rfl
theorem fdiv8 (n : Nat) : Int.fdiv (n : Int) (2 ^ 8) = ((n / 256 : Nat) : Int) := fdiv_n n 256
theorem fdiv16 (n : Nat) : Int.fdiv (n : Int) (2 ^ 16) = ((n / 65536 : Nat) : Int) := fdiv_n n 65536
theorem fdiv24 (n : Nat) : Int.fdiv (n : Int) (2 ^ 24) = ((n / 16777216 : Nat) : Int) := fdiv_n n 16777216
theorem tmod_n (n m : Nat) : Int.tmod (n : Int) (m : Int) = ((n % m : Nat) : Int) := rfl
theorem tdiv_n (n m : Nat) : Int.tdiv (n : Int) (m : Int) = ((n / m : Nat) : Int) := rfl

theorem bor_u32 {a b : Nat} (ha : a < 4294967296) (hb : b < 4294967296) : bor .u32 (a : Int) (b : Int) = ((a ||| b : Nat) : Int) := by
  unfold bor
  have : (BitVec.ofInt (IntKind.bits .u32) (a : Int) ||| BitVec.ofInt (IntKind.bits .u32) (b : Int)).toNat = a ||| b := by
    show (BitVec.ofInt 32 (a : Int) ||| BitVec.ofInt 32 (b : Int)).toNat = a ||| b
    rw [BitVec.ofInt_natCast, BitVec.ofInt_natCast, BitVec.toNat_or, BitVec.toNat_ofNat, BitVec.toNat_ofNat]
    rw [Nat.mod_eq_of_lt (by omega), Nat.mod_eq_of_lt (by omega)]
  rw [this, wrap_u32n (Nat.or_lt_two_pow (n := 32) (by omega) (by omega))]
theorem bor_u8 {a b : Nat} (ha : a < 256) (hb : b < 256) : bor .u8 (a : Int) (b : Int) = ((a ||| b : Nat) : Int) := by
  unfold bor
  have : (BitVec.ofInt (IntKind.bits .u8) (a : Int) ||| BitVec.ofInt (IntKind.bits .u8) (b : Int)).toNat = a ||| b := by
    show (BitVec.ofInt 8 (a : Int) ||| BitVec.ofInt 8 (b : Int)).toNat = a ||| b
    rw [BitVec.ofInt_natCast, BitVec.ofInt_natCast, BitVec.toNat_or, BitVec.toNat_ofNat, BitVec.toNat_ofNat]
    rw [Nat.mod_eq_of_lt (by omega), Nat.mod_eq_of_lt (by omega)]
  rw [this, wrap_u8n (Nat.or_lt_two_pow (n := 8) (by omega) (by omega))]
theorem band_u32 {a b : Nat} (ha : a < 4294967296) (hb : b < 4294967296) : band .u32 (a : Int) (b : Int) = ((a &&& b : Nat) : Int) := by
  unfold band
  have : (BitVec.ofInt (IntKind.bits .u32) (a : Int) &&& BitVec.ofInt (IntKind.bits .u32) (b : Int)).toNat = a &&& b := by
    show (BitVec.ofInt 32 (a : Int) &&& BitVec.ofInt 32 (b : Int)).toNat = a &&& b
    rw [BitVec.ofInt_natCast, BitVec.ofInt_natCast, BitVec.toNat_and, BitVec.toNat_ofNat, BitVec.toNat_ofNat]
    rw [Nat.mod_eq_of_lt (by omega), Nat.mod_eq_of_lt (by omega)]
  rw [this, wrap_u32n (Nat.lt_of_le_of_lt Nat.and_le_left ha)]
/-- Or of numbers that share no bits. -/
theorem or_add (a b i : Nat) (h : a < 2 ^ i) : a ||| (b * 2 ^ i) = a + b * 2 ^ i := by
  rw [Nat.or_comm, Nat.mul_comm, ← Nat.two_pow_add_eq_or_of_lt h, Nat.add_comm]

theorem word_or (a b c d : UInt8) : bor .u32 (bor .u32 (bor .u32 (IntKind.wrap .u32 (a.toNat : Int)) (IntKind.wrap .u32 ((IntKind.wrap .u32 (b.toNat : Int)) * 2 ^ 8))) (IntKind.wrap .u32 ((IntKind.wrap .u32 (c.toNat : Int)) * 2 ^ 16))) (IntKind.wrap .u32 ((IntKind.wrap .u32 (d.toNat : Int)) * 2 ^ 24))
    = ((a.toNat + b.toNat * 256 + c.toNat * 65536 + d.toNat * 16777216 : Nat) : Int) := by
  have h0 := a.toNat_lt; have h1 := b.toNat_lt; have h2 := c.toNat_lt; have h3 := d.toNat_lt
  rw [wrap_u32n (n := a.toNat) (by omega), wrap_u32n (n := b.toNat) (by omega), wrap_u32n (n := c.toNat) (by omega), wrap_u32n (n := d.toNat) (by omega)]
  rw [show (b.toNat : Int) * 2 ^ 8 = ((b.toNat * 2 ^ 8 : Nat) : Int) by rw [Int.natCast_mul]; rfl, show (c.toNat : Int) * 2 ^ 16 = ((c.toNat * 2 ^ 16 : Nat) : Int) by rw [Int.natCast_mul]; rfl, show (d.toNat : Int) * 2 ^ 24 = ((d.toNat * 2 ^ 24 : Nat) : Int) by rw [Int.natCast_mul]; rfl]
  rw [wrap_u32n (by omega), wrap_u32n (by omega), wrap_u32n (by omega)]
  rw [bor_u32 (by omega) (by omega), or_add _ _ 8 (by omega), bor_u32 (by omega) (by omega), or_add _ _ 16 (by omega), bor_u32 (by omega) (by omega), or_add _ _ 24 (by omega)]
theorem word_add (a b c d : UInt8) : IntKind.wrap .u32 ((IntKind.wrap .u32 ((IntKind.wrap .u32 ((IntKind.wrap .u32 (a.toNat : Int)) + (IntKind.wrap .u32 ((IntKind.wrap .u32 (b.toNat : Int)) * 2 ^ 8)))) + (IntKind.wrap .u32 ((IntKind.wrap .u32 (c.toNat : Int)) * 2 ^ 16)))) + (IntKind.wrap .u32 ((IntKind.wrap .u32 (d.toNat : Int)) * 2 ^ 24)))
    = ((a.toNat + b.toNat * 256 + c.toNat * 65536 + d.toNat * 16777216 : Nat) : Int) := by
  have h0 := a.toNat_lt; have h1 := b.toNat_lt; have h2 := c.toNat_lt; have h3 := d.toNat_lt
  simp only [wrap_u32']
  omega
theorem word_get {l : List UInt8} (h : 4 ≤ l.length) : word l = (l[0]'(by omega)).toNat + (l[1]'(by omega)).toNat * 256 + (l[2]'(by omega)).toNat * 65536 + (l[3]'(by omega)).toNat * 16777216 := by
  simp only [word, List.getD_eq_getElem?_getD, List.getElem?_eq_getElem (show 0 < l.length by omega), List.getElem?_eq_getElem (show 1 < l.length by omega), List.getElem?_eq_getElem (show 2 < l.length by omega), List.getElem?_eq_getElem (show 3 < l.length by omega), Option.getD_some]
theorem and_hi {x : Nat} (h : x < 4294967296) : x &&& 4294901760 = x / 65536 * 65536 := by
  have : x &&& 4294901760 = x ^^^ (x &&& 65535) := by
    apply Nat.eq_of_testBit_eq
    intro i
    have hx : ∀ i, 32 ≤ i → x.testBit i = false := fun i hi => Nat.testBit_lt_two_pow (Nat.lt_of_lt_of_le h (Nat.pow_le_pow_right (n := 2) (by decide) hi))
    rw [Nat.testBit_and, Nat.testBit_xor, Nat.testBit_and, show (65535 : Nat) = 2 ^ 16 - 1 by rfl, Nat.testBit_two_pow_sub_one]
    by_cases hi : 32 ≤ i
    · rw [hx i hi]; rfl
    · have : (4294901760 : Nat).testBit i = !decide (i < 16) := by
        have : ∀ i : Fin 32, (4294901760 : Nat).testBit i.val = !decide (i.val < 16) := by decide +kernel
        exact this ⟨i, by omega⟩
      rw [this]
      cases x.testBit i <;> cases decide (i < 16) <;> rfl
  rw [this, show (65535 : Nat) = 2 ^ 16 - 1 by rfl, Nat.and_two_pow_sub_one_eq_mod]
  have hm : x % 2 ^ 16 < 2 ^ 16 := Nat.mod_lt _ (by omega)
  have hx : x = (x / 65536 * 2 ^ 16) ||| (x % 2 ^ 16) := by
    rw [Nat.or_comm, or_add _ _ 16 hm]
    omega
  have h2 : (x / 65536 * 2 ^ 16) ||| (x % 2 ^ 16) = (x / 65536 * 2 ^ 16) ^^^ (x % 2 ^ 16) := by
    apply Nat.eq_of_testBit_eq
    intro i
    rw [Nat.testBit_or, Nat.testBit_xor, Nat.testBit_mul_two_pow, Nat.testBit_mod_two_pow]
    by_cases hi : i < 16
    · rw [show decide (i ≥ 16) = false by simp; omega]; simp
    · rw [show decide (i < 16) = false by simp; omega]; simp
  conv => lhs; lhs; rw [hx, h2]
  rw [Nat.xor_assoc, Nat.xor_self, Nat.xor_zero]
end Go.Proofs.Ytpgekajgbkbpkaa.Pz
