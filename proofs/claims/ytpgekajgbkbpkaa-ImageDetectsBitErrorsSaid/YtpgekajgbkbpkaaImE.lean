/-
  The header of an image in plain terms: what is encoded is decoded. No program; no condition beyond those stated.
-/
import Derived.Test.YtpgekajgbkbpkaaImD
namespace Go.Proofs.Ytpgekajgbkbpkaa.Im
open Go Go.Ev Go.Proofs

theorem num_le (v : Nat) : ∀ n, num (le v n) = v % 256 ^ n
  | 0 => by simp [le, num, Nat.mod_one]
  | n + 1 => by
    rw [le_succ, num_append, num_le v n, le_length, UInt8.toNat_ofNat', show (256 : Nat) ^ (n + 1) = 256 ^ n * 256 from Nat.pow_succ _ _, Nat.mod_mul, Nat.mul_comm (256 ^ n)]
theorem num_le_of {v n : Nat} (h : v < 256 ^ n) : num (le v n) = v := by rw [num_le, Nat.mod_eq_of_lt h]
theorem hdr0_length {g n s : Nat} {bd : List UInt8} (h : bd.length = 32) : (hdr0 g bd n s).length = 52 := by simp [hdr0, le_length, h]
theorem hdr_length {g n s : Nat} {bd : List UInt8} (h : bd.length = 32) : (hdr g bd n s).length = 64 := by
  unfold hdr
  rw [List.length_append, List.length_append, hdr0_length h, le_length, le_length]
/-- The middle of three parts. -/
theorem sub_mid {a b c : List UInt8} {i j : Nat} (hi : a.length = i) (hj : i + b.length = j) : sub (a ++ b ++ c) i j = b := by
  unfold sub
  subst hi hj
  rw [← List.length_append, List.take_left, List.drop_left]
theorem decH_hdr {g n s : Nat} {bd : List UInt8} (hb : bd.length = 32) (hg : g < 18446744073709551616) (hn : n < 4294967296) (hs : s < 4294967296) : decH (hdr g bd n s) = (hdrC g bd n s, 0) := by
  have e0 : hdr g bd n s = mag ++ le g 8 ++ (bd ++ le n 4 ++ le s 4 ++ le (crc (hdr0 g bd n s)).toNat 4 ++ le 0 8) := by simp [hdr, hdr0, mag]
  have e1 : hdr g bd n s = (mag ++ le g 8) ++ bd ++ (le n 4 ++ le s 4 ++ le (crc (hdr0 g bd n s)).toNat 4 ++ le 0 8) := by simp [hdr, hdr0, mag]
  have e2 : hdr g bd n s = (mag ++ le g 8 ++ bd) ++ le n 4 ++ (le s 4 ++ le (crc (hdr0 g bd n s)).toNat 4 ++ le 0 8) := by simp [hdr, hdr0, mag]
  have e3 : hdr g bd n s = (mag ++ le g 8 ++ bd ++ le n 4) ++ le s 4 ++ (le (crc (hdr0 g bd n s)).toNat 4 ++ le 0 8) := by simp [hdr, hdr0, mag]
  have hm : mag.length = 4 := rfl
  have l12 : (mag ++ le g 8).length = 12 := by rw [List.length_append, le_length, hm]
  have l44 : (mag ++ le g 8 ++ bd).length = 44 := by rw [List.length_append, l12, hb]
  have l48 : (mag ++ le g 8 ++ bd ++ le n 4).length = 48 := by rw [List.length_append, l44, le_length]
  have s1 : sub (hdr g bd n s) 4 12 = le g 8 := by rw [e0]; exact sub_mid hm (by rw [le_length])
  have s2 : sub (hdr g bd n s) 12 44 = bd := by rw [e1]; exact sub_mid l12 (by rw [hb])
  have s3 : sub (hdr g bd n s) 44 48 = le n 4 := by rw [e2]; exact sub_mid l44 (by rw [le_length])
  have s4 : sub (hdr g bd n s) 48 52 = le s 4 := by rw [e3]; exact sub_mid l48 (by rw [le_length])
  have s5 : sub (hdr g bd n s) 52 56 = le (crc (hdr0 g bd n s)).toNat 4 := sub_mid (hdr0_length hb) (by rw [le_length])
  have s6 : (hdr g bd n s).drop 56 = le 0 8 := by
    unfold hdr
    exact List.drop_left' (by rw [List.length_append, hdr0_length hb, le_length])
  have s7 : (hdr g bd n s).take 52 = hdr0 g bd n s := by
    unfold hdr
    rw [List.append_assoc]
    exact List.take_left' (hdr0_length hb)
  have s8 : (hdr g bd n s).take 4 = mag := by
    rw [e0, List.append_assoc]
    exact List.take_left' hm
  have hc := (crc (hdr0 g bd n s)).isLt
  unfold decH
  rw [if_neg (by rw [hdr_length hb]; omega), if_neg (by rw [s8]; simp), if_neg (by rw [s6, num_le_of (by omega)]; simp), if_neg (by rw [s5, s7, num_le_of (by omega)]; simp), s1, s2, s3, s4, num_le_of (by omega), num_le_of (by omega), num_le_of (by omega)]
end Go.Proofs.Ytpgekajgbkbpkaa.Im
