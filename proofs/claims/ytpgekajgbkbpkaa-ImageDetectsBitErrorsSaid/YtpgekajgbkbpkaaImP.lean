/-
  The checksum over the code: the program's and the reference's. No condition beyond those stated.
-/
import Derived.Test.YtpgekajgbkbpkaaImB
import Derived.Test.YtpgekajgbkbpkaaW1
import Derived.Test.YtpgekajgbkbpkaaR
namespace Go.Proofs.Ytpgekajgbkbpkaa.Im
open Go Go.Ev Go.Proofs

def itr : Nat → B → B
  | 0, c => c
  | n + 1, c => stp (itr n c)
theorem itr4 (c : B) : itr 4 c = st4 c := rfl
theorem itr8 (c : B) : itr 8 c = st8 c := rfl
theorem stp_odd {c : B} (h : c.getLsbD 0 = true) : stp c = (c >>> 1) ^^^ poly := by unfold stp; rw [if_pos h]
theorem low_ne (c : B) : (band .u32 ((c.toNat : Nat) : Int) 1 != 0) = c.getLsbD 0 := by
  have := and32 c 1#32
  rw [low32] at this
  rw [show (1 : Int) = (((1#32 : B).toNat : Nat) : Int) from rfl, this]
  cases c.getLsbD 0 <;> rfl
theorem low_eq (c : B) : (band .u32 ((c.toNat : Nat) : Int) 1 == 1) = c.getLsbD 0 := by
  have h := and32 c 1#32
  rw [low32] at h
  have h' : band .u32 ((c.toNat : Nat) : Int) 1 = _ := h
  rw [h']
  cases c.getLsbD 0 <;> rfl
theorem xor_poly (c : B) : bxor .u32 (Int.fdiv ((c.toNat : Nat) : Int) (2 ^ 1)) 3988292384 = (((c >>> 1) ^^^ poly).toNat : Int) := by
  rw [shr32]
  exact xor32 (c >>> 1) poly
theorem max_xor (c : B) : bxor .u32 (IntKind.max .u32) ((c.toNat : Nat) : Int) = ((~~~c).toNat : Int) := by
  have h := xor32 ones c
  rw [show (IntKind.max .u32 : Int) = ((ones.toNat : Nat) : Int) from rfl, h, show ones ^^^ c = ~~~c by rw [show ones = BitVec.allOnes 32 from rfl, BitVec.allOnes_xor]]
/-- The table, its first k lines. -/
def tabE (k i : Nat) : B := if i < k then st4 (BitVec.ofNat 32 i) else 0#32
def tab (k : Nat) : List Value := (List.range 16).map fun i => .int .u32 (((tabE k i).toNat : Nat) : Int)
theorem tab_length (k : Nat) : (tab k).length = 16 := by simp [tab]
theorem tab_E {k i : Nat} (h : i < (tab k).length) : (tab k)[i] = .int .u32 (((tabE k i).toNat : Nat) : Int) := by simp [tab]
theorem tab_set {k : Nat} (hk : k < 16) : (tab k).set k (.int .u32 (((st4 (BitVec.ofNat 32 k)).toNat : Nat) : Int)) = tab (k + 1) := by
  apply List.ext_getElem
  · simp [tab]
  · intro i h1 h2
    rw [List.getElem_set, tab_E, tab_E]
    unfold tabE
    by_cases h : k = i
    · subst h; rw [if_pos rfl, if_pos (by omega)]
    · rw [if_neg h]
      by_cases h' : i < k
      · rw [if_pos h', if_pos (by omega)]
      · rw [if_neg h', if_neg (by omega)]
theorem tab_get {n : Nat} (h : n < 16) : (tab 16)[n]? = some (.int .u32 (((st4 (BitVec.ofNat 32 n)).toNat : Nat) : Int)) := by
  unfold tab
  rw [List.getElem?_map, List.getElem?_range h, Option.map_some]
  unfold tabE
  rw [if_pos h]
theorem and15 (c : B) : ∃ n : Nat, n < 16 ∧ band .u32 ((c.toNat : Nat) : Int) 15 = (n : Int) ∧ BitVec.ofNat 32 n = c &&& 15#32 := by
  refine ⟨(c &&& 15#32).toNat, ?_, and32 c 15#32, by simp⟩
  rw [BitVec.toNat_and]
  exact Nat.lt_of_le_of_lt Nat.and_le_right (by decide)
theorem crcU_snoc (c : B) (l : List UInt8) (x : UInt8) : crcU c (l ++ [x]) = st8 (crcU c l ^^^ byB x) := by simp [crcU]

section
variable {U w : World} {Q : Value → World → Prop}

theorem checksum_k14 {l : List UInt8} {tb : Nat} (h : At w tb (tab 16) 62) (hl : l.length ≤ 1000000000000) (hQ : Q (.int .u32 (((crc l).toNat : Nat) : Int)) w) : W.image_Checksum_k14 (mkS l) ⟨tb, 0, none⟩ w Q := by
  unfold W.image_Checksum_k14
  rw [mkS_size]
  refine LoopW.nat l.length (fun j x w' => x = ((((crcU ones (l.take j)).toNat : Nat) : Int), (j : Int), ()) ∧ w' = w) ⟨rfl, rfl⟩ ?_
  rintro j x w1 next hj ⟨rfl, rfl⟩ hnext
  dsimp only
  by_cases hlt : j < l.length
  case neg =>
    rw [decide_eq_false (by omega), br_false]
    obtain rfl : j = l.length := by omega
    rw [List.take_length, max_xor]
    exact hQ
  rw [decide_eq_true (by omega), br_true]
  refine qI (sxn j hlt) ?_
  generalize hx : l.getD j 0 = x
  rw [byte32, xor32]
  generalize hd : crcU ones (l.take j) ^^^ byB x = d
  obtain ⟨n, hn, hn1, hn2⟩ := and15 d
  rw [hn1]
  refine ixa n 16 1 23 hn ?_
  refine ldI h (by rw [Nat.mul_one]; exact tab_get hn) ?_
  rw [shr32, xor32, hn2, ← st4_table]
  obtain ⟨m, hm, hm1, hm2⟩ := and15 (st4 d)
  rw [hm1]
  refine ixa m 16 1 23 hm ?_
  refine ldI h (by rw [Nat.mul_one]; exact tab_get hm) ?_
  rw [shr32, xor32, hm2, ← st4_table, inc_nat (by omega)]
  refine hnext hlt _ _ ⟨?_, rfl⟩
  have ht : l.take (j + 1) = l.take j ++ [x] := by
    rw [← hx, List.getD_eq_getElem?_getD, List.getElem?_eq_getElem hlt, Option.getD_some, List.take_append_getElem hlt]
  rw [ht, crcU_snoc, hd]
  rfl

theorem checksum_c {l : List UInt8} (hl : l.length ≤ 1000000000000) (hQ : ∀ w', Ext w w' (fun _ => False) → Q (.int .u32 (((crc l).toNat : Nat) : Int)) w') : CallE Try.prog 13 #[.string (mkS l)] w Q := by
  apply C.image_Checksum
  unfold W.image_Checksum
  refine al_i fun tb w1 htb a1 e1 z1 => ?_
  have hz : (zeroT Try.prog 62).cells.toList = tab 0 := by kernel_rfl
  rw [hz] at a1
  refine LoopW.nat 16 (fun i x w' => x = ((i : Int), ()) ∧ At w' tb (tab i) 62 ∧ Ext w w' (fun _ => False)) ⟨rfl, a1, e1⟩ ?_
  rintro i x w2 next hi ⟨rfl, a2, e2⟩ hnext
  dsimp only
  by_cases hlt : i < 16
  case neg =>
    rw [decide_eq_false (by omega), br_false]
    obtain rfl : i = 16 := by omega
    exact checksum_k14 a2 hl (hQ w2 e2)
  rw [decide_eq_true (by omega), br_true]
  have hc0 : IntKind.wrap .u32 (i : Int) = (((BitVec.ofNat 32 i : B).toNat : Nat) : Int) := by
    rw [wrap_u32', BitVec.toNat_ofNat]; omega
  rw [hc0]
  refine LoopW.nat 4 (fun k y w' => y = ((((itr k (BitVec.ofNat 32 i)).toNat : Nat) : Int), (k : Int), ()) ∧ w' = w2) ⟨rfl, rfl⟩ ?_
  rintro k y w3 next3 hk ⟨rfl, rfl⟩ hnext3
  dsimp only
  by_cases hkt : k < 4
  case neg =>
    rw [decide_eq_false (by omega), br_false]
    obtain rfl : k = 4 := by omega
    refine ixa i 16 1 23 hlt ?_
    refine st_i a2 (by rw [tab_length]; omega) fun w4 a4 e4 z4 => ?_
    rw [Nat.mul_one, itr4, tab_set hlt] at a4
    rw [inc_nat (by omega)]
    exact hnext hlt _ _ ⟨rfl, a4, e2.trans e4 (fun _ _ h => h) (fun b hb hx => by omega)⟩
  rw [decide_eq_true (by omega), br_true, low_ne, xor_poly, shr32, inc_nat (by omega)]
  refine br_of (fun h => ?_) (fun h => ?_)
  · exact hnext3 hkt _ _ ⟨by rw [← stp_odd h]; rfl, rfl⟩
  · exact hnext3 hkt _ _ ⟨by rw [← stp_even h]; rfl, rfl⟩

theorem rchecksum_c {l : List UInt8} (hl : l.length ≤ 1000000000000) (hQ : Q (.int .u32 (((crc l).toNat : Nat) : Int)) w) : CallE Try.prog 14 #[.string (mkS l)] w Q := by
  apply C.ref34_Checksum
  unfold W.ref34_Checksum
  rw [mkS_size]
  refine LoopW.nat l.length (fun j x w' => x = ((((crcU ones (l.take j)).toNat : Nat) : Int), (j : Int), ()) ∧ w' = w) ⟨rfl, rfl⟩ ?_
  rintro j x w1 next hj ⟨rfl, rfl⟩ hnext
  dsimp only
  by_cases hlt : j < l.length
  case neg =>
    rw [decide_eq_false (by omega), br_false]
    obtain rfl : j = l.length := by omega
    rw [List.take_length, max_xor]
    exact hQ
  rw [decide_eq_true (by omega), br_true]
  refine qI (sxn j hlt) ?_
  generalize hx : l.getD j 0 = x
  rw [byte32, xor32]
  generalize hd : crcU ones (l.take j) ^^^ byB x = d
  refine LoopW.nat 8 (fun k y w' => y = ((((itr k d).toNat : Nat) : Int), (k : Int), ()) ∧ w' = w1) ⟨rfl, rfl⟩ ?_
  rintro k y w3 next3 hk ⟨rfl, rfl⟩ hnext3
  dsimp only
  by_cases hkt : k < 8
  case neg =>
    rw [decide_eq_false (by omega), br_false]
    obtain rfl : k = 8 := by omega
    rw [inc_nat (by omega)]
    refine hnext hlt _ _ ⟨?_, rfl⟩
    have ht : l.take (j + 1) = l.take j ++ [x] := by
      rw [← hx, List.getD_eq_getElem?_getD, List.getElem?_eq_getElem hlt, Option.getD_some, List.take_append_getElem hlt]
    rw [ht, crcU_snoc, hd, itr8]
  rw [decide_eq_true (by omega), br_true, low_eq, xor_poly, shr32, inc_nat (by omega)]
  refine br_of (fun h => ?_) (fun h => ?_)
  · exact hnext3 hkt _ _ ⟨by rw [← stp_odd h]; rfl, rfl⟩
  · exact hnext3 hkt _ _ ⟨by rw [← stp_even h]; rfl, rfl⟩
end
end Go.Proofs.Ytpgekajgbkbpkaa.Im
