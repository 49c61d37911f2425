/-
  The checksum in plain terms: the step by one bit, by four, by eight; a table of sixteen gives the step by four; the sum is affine. No program; no condition.
-/
import Derived.Test.YtpgekajgbkbpkaaQ
namespace Go.Proofs.Ytpgekajgbkbpkaa.Im

abbrev B := BitVec 32
def poly : B := 3988292384#32
def stp (c : B) : B := (c >>> 1) ^^^ (if c.getLsbD 0 then poly else 0#32)
def st4 (c : B) : B := stp (stp (stp (stp c)))
def st8 (c : B) : B := st4 (st4 c)
def byB (x : UInt8) : B := BitVec.ofNat 32 x.toNat
def crcU (c : B) (l : List UInt8) : B := l.foldl (fun c x => st8 (c ^^^ byB x)) c
def ones : B := 4294967295#32
def crc (l : List UInt8) : B := ~~~(crcU ones l)

theorem xor_swap (a b c d : B) : (a ^^^ b) ^^^ (c ^^^ d) = (a ^^^ c) ^^^ (b ^^^ d) := by
  apply BitVec.eq_of_getLsbD_eq
  intro i hi
  simp only [BitVec.getLsbD_xor]
  cases a.getLsbD i <;> cases b.getLsbD i <;> cases c.getLsbD i <;> cases d.getLsbD i <;> rfl
theorem shr_xor (a b : B) (n : Nat) : (a ^^^ b) >>> n = (a >>> n) ^^^ (b >>> n) := by
  apply BitVec.eq_of_getLsbD_eq
  intro i hi
  simp only [BitVec.getLsbD_xor, BitVec.getLsbD_ushiftRight]
theorem stp_xor (a b : B) : stp (a ^^^ b) = stp a ^^^ stp b := by
  unfold stp
  rw [shr_xor, BitVec.getLsbD_xor, xor_swap]
  congr 1
  cases a.getLsbD 0 <;> cases b.getLsbD 0 <;> decide
theorem st4_xor (a b : B) : st4 (a ^^^ b) = st4 a ^^^ st4 b := by unfold st4; simp only [stp_xor]
theorem st8_xor (a b : B) : st8 (a ^^^ b) = st8 a ^^^ st8 b := by unfold st8; simp only [st4_xor]
theorem stp_even {c : B} (h : c.getLsbD 0 = false) : stp c = c >>> 1 := by
  unfold stp
  rw [h]
  simp
/-- Four steps, by the table. -/
theorem st4_table (c : B) : st4 c = (c >>> 4) ^^^ st4 (c &&& 15#32) := by
  have hs : c = (c &&& ~~~15#32) ^^^ (c &&& 15#32) := by
    apply BitVec.eq_of_getLsbD_eq
    intro i hi
    simp only [BitVec.getLsbD_xor, BitVec.getLsbD_and, BitVec.getLsbD_not, hi, decide_true, Bool.true_and]
    cases c.getLsbD i <;> cases (15#32).getLsbD i <;> rfl
  have hz : st4 (c &&& ~~~15#32) = c >>> 4 := by
    have h0 : ∀ k, k < 4 → ((c &&& ~~~15#32) >>> k).getLsbD 0 = false := by
      intro k hk
      rw [BitVec.getLsbD_ushiftRight, BitVec.getLsbD_and, BitVec.getLsbD_not]
      have : (15#32).getLsbD (k + 0) = true := by
        obtain rfl | rfl | rfl | rfl : k = 0 ∨ k = 1 ∨ k = 2 ∨ k = 3 := by omega
        all_goals rfl
      rw [this]; simp
    unfold st4
    have e1 : stp (c &&& ~~~15#32) = (c &&& ~~~15#32) >>> 1 := stp_even (by have := h0 0 (by omega); rw [BitVec.ushiftRight_zero] at this; exact this)
    rw [e1, stp_even (h0 1 (by omega)), ← BitVec.shiftRight_add, stp_even (h0 2 (by omega)), ← BitVec.shiftRight_add, stp_even (h0 3 (by omega)), ← BitVec.shiftRight_add]
    apply BitVec.eq_of_getLsbD_eq
    intro i hi
    simp only [BitVec.getLsbD_ushiftRight, BitVec.getLsbD_and, BitVec.getLsbD_not]
    by_cases h : 4 + i < 32
    · have : (15#32).getLsbD (4 + i) = false := by
        rw [BitVec.getLsbD_ofNat]
        have : Nat.testBit 15 (4 + i) = false := Nat.testBit_lt_two_pow (Nat.lt_of_lt_of_le (by decide : 15 < 2 ^ 4) (Nat.pow_le_pow_right (by omega) (by omega)))
        rw [this]; simp
      simp only [Nat.reduceAdd]
      rw [this]; simp [h]
    · have : c.getLsbD (4 + i) = false := BitVec.getLsbD_of_ge _ _ (by omega)
      simp only [Nat.reduceAdd]
      rw [this]; simp
  rw [← hz, ← st4_xor, ← hs]

theorem byB_xor (x y : UInt8) : byB (x ^^^ y) = byB x ^^^ byB y := by
  unfold byB
  rw [UInt8.toNat_xor, BitVec.ofNat_xor]
/-- The sum of an exclusive or. -/
theorem crcU_xor : ∀ (l m : List UInt8) (a b : B), l.length = m.length → crcU (a ^^^ b) (List.zipWith (· ^^^ ·) l m) = crcU a l ^^^ crcU b m
  | [], [], _, _, _ => rfl
  | x :: l, y :: m, a, b, h => by
    simp only [List.zipWith_cons_cons]
    show crcU (st8 ((a ^^^ b) ^^^ byB (x ^^^ y))) _ = crcU (st8 (a ^^^ byB x)) l ^^^ crcU (st8 (b ^^^ byB y)) m
    rw [byB_xor, xor_swap, st8_xor, crcU_xor l m _ _ (by simpa using h)]
  | [], _ :: _, _, _, h => by cases h
  | _ :: _, [], _, _, h => by cases h
theorem crc_affine {l m n : List UInt8} (h1 : l.length = m.length) (h2 : m.length = n.length) :
    crc l ^^^ crc m ^^^ crc n = crc (List.zipWith (· ^^^ ·) (List.zipWith (· ^^^ ·) l m) n) := by
  unfold crc
  have h : crcU ones (List.zipWith (· ^^^ ·) (List.zipWith (· ^^^ ·) l m) n) = crcU ones l ^^^ crcU ones m ^^^ crcU ones n := by
    have := crcU_xor (List.zipWith (· ^^^ ·) l m) n (ones ^^^ ones) ones (by rw [List.length_zipWith, h1, Nat.min_self, h2])
    rw [crcU_xor l m ones ones h1, show (ones ^^^ ones ^^^ ones : B) = ones from rfl] at this
    exact this
  rw [h]
  apply BitVec.eq_of_getLsbD_eq
  intro i hi
  simp only [BitVec.getLsbD_xor, BitVec.getLsbD_not, hi, decide_true, Bool.true_and]
  cases (crcU ones l).getLsbD i <;> cases (crcU ones m).getLsbD i <;> cases (crcU ones n).getLsbD i <;> rfl
end Go.Proofs.Ytpgekajgbkbpkaa.Im
