/-
  Several texts in one (ImA, ImB, ImP, ImN, ImH, ImD, ImE, ImG, ImI, ImJ, ImK, ImL, ImU), each with its own word below. No condition beyond those stated.
-/
import Derived.Test.YtpinpccamfhofaaGA
import Derived.Test.YtpinpccamfhofaaW1
import Derived.Test.YtpinpccamfhofaaGC
import Derived.Test.YtpinpccamfhofaaGB
import Derived.Test.YtpinpccamfhofaaShf
set_option linter.unusedVariables false
set_option linter.unusedSimpArgs false
/-
  The checksum in plain terms: the step by one bit, by four, by eight; a table of sixteen gives the step by four; the sum is affine. No program; no condition.
-/
set_option maxRecDepth 100000
namespace Go.Proofs.Ytpinpccamfhofaa.Im

abbrev B := BitVec 32
def poly : B := 3988292384#32
def stp (c : B) : B := (c >>> 1) ^^^ (if c.getLsbD 0 then poly else 0#32)
def st4 (c : B) : B := stp (stp (stp (stp c)))
def st8 (c : B) : B := st4 (st4 c)
def byB (x : UInt8) : B := BitVec.ofNat 32 x.toNat
def crcU (c : B) (l : List UInt8) : B := l.foldl (fun c x => st8 (c ^^^ byB x)) c
def ones : B := 4294967295#32
def crc (l : List UInt8) : B := ~~~(crcU ones l)

theorem xor_swap (a b c d : B) : (a ^^^ b) ^^^ (c ^^^ d) = (a ^^^ c) ^^^ (b ^^^ d) := by
  apply BitVec.eq_of_getLsbD_eq
  intro i hi
  simp only [BitVec.getLsbD_xor]
  cases a.getLsbD i <;> cases b.getLsbD i <;> cases c.getLsbD i <;> cases d.getLsbD i <;> rfl
theorem shr_xor (a b : B) (n : Nat) : (a ^^^ b) >>> n = (a >>> n) ^^^ (b >>> n) := by
  apply BitVec.eq_of_getLsbD_eq
  intro i hi
  simp only [BitVec.getLsbD_xor, BitVec.getLsbD_ushiftRight]
theorem stp_xor (a b : B) : stp (a ^^^ b) = stp a ^^^ stp b := by
  unfold stp
  rw [shr_xor, BitVec.getLsbD_xor, xor_swap]
  congr 1
  cases a.getLsbD 0 <;> cases b.getLsbD 0 <;> decide
theorem st4_xor (a b : B) : st4 (a ^^^ b) = st4 a ^^^ st4 b := by unfold st4; simp only [stp_xor]
theorem st8_xor (a b : B) : st8 (a ^^^ b) = st8 a ^^^ st8 b := by unfold st8; simp only [st4_xor]
theorem stp_even {c : B} (h : c.getLsbD 0 = false) : stp c = c >>> 1 := by
  unfold stp
  rw [h]
  simp
/-- Four steps, by the table. -/
theorem st4_table (c : B) : st4 c = (c >>> 4) ^^^ st4 (c &&& 15#32) := by
  have hs : c = (c &&& ~~~15#32) ^^^ (c &&& 15#32) := by
    apply BitVec.eq_of_getLsbD_eq
    intro i hi
    simp only [BitVec.getLsbD_xor, BitVec.getLsbD_and, BitVec.getLsbD_not, hi, decide_true, Bool.true_and]
    cases c.getLsbD i <;> cases (15#32).getLsbD i <;> rfl
  have hz : st4 (c &&& ~~~15#32) = c >>> 4 := by
    have h0 : ∀ k, k < 4 → ((c &&& ~~~15#32) >>> k).getLsbD 0 = false := by
      intro k hk
      rw [BitVec.getLsbD_ushiftRight, BitVec.getLsbD_and, BitVec.getLsbD_not]
      have : (15#32).getLsbD (k + 0) = true := by
        obtain rfl | rfl | rfl | rfl : k = 0 ∨ k = 1 ∨ k = 2 ∨ k = 3 := by omega
        all_goals rfl
      rw [this]; simp
    unfold st4
    have e1 : stp (c &&& ~~~15#32) = (c &&& ~~~15#32) >>> 1 := stp_even (by have := h0 0 (by omega); rw [BitVec.ushiftRight_zero] at this; exact this)
    rw [e1, stp_even (h0 1 (by omega)), ← BitVec.shiftRight_add, stp_even (h0 2 (by omega)), ← BitVec.shiftRight_add, stp_even (h0 3 (by omega)), ← BitVec.shiftRight_add]
    apply BitVec.eq_of_getLsbD_eq
    intro i hi
    simp only [BitVec.getLsbD_ushiftRight, BitVec.getLsbD_and, BitVec.getLsbD_not]
    by_cases h : 4 + i < 32
    · have : (15#32).getLsbD (4 + i) = false := by
        rw [BitVec.getLsbD_ofNat]
        have : Nat.testBit 15 (4 + i) = false := Nat.testBit_lt_two_pow (Nat.lt_of_lt_of_le (by decide : 15 < 2 ^ 4) (Nat.pow_le_pow_right (by omega) (by omega)))
        rw [this]; simp
      simp only [Nat.reduceAdd]
      rw [this]; simp [h]
    · have : c.getLsbD (4 + i) = false := BitVec.getLsbD_of_ge _ _ (by omega)
      simp only [Nat.reduceAdd]
      rw [this]; simp
  rw [← hz, ← st4_xor, ← hs]

theorem byB_xor (x y : UInt8) : byB (x ^^^ y) = byB x ^^^ byB y := by
  unfold byB
  rw [UInt8.toNat_xor, BitVec.ofNat_xor]
/-- The sum of an exclusive or. -/
theorem crcU_xor : ∀ (l m : List UInt8) (a b : B), l.length = m.length → crcU (a ^^^ b) (List.zipWith (· ^^^ ·) l m) = crcU a l ^^^ crcU b m
  | [], [], _, _, _ => rfl
  | x :: l, y :: m, a, b, h => by
    simp only [List.zipWith_cons_cons]
    show crcU (st8 ((a ^^^ b) ^^^ byB (x ^^^ y))) _ = crcU (st8 (a ^^^ byB x)) l ^^^ crcU (st8 (b ^^^ byB y)) m
    rw [byB_xor, xor_swap, st8_xor, crcU_xor l m _ _ (by simpa using h)]
  | [], _ :: _, _, _, h => by cases h
  | _ :: _, [], _, _, h => by cases h
theorem crc_affine {l m n : List UInt8} (h1 : l.length = m.length) (h2 : m.length = n.length) :
    crc l ^^^ crc m ^^^ crc n = crc (List.zipWith (· ^^^ ·) (List.zipWith (· ^^^ ·) l m) n) := by
  unfold crc
  have h : crcU ones (List.zipWith (· ^^^ ·) (List.zipWith (· ^^^ ·) l m) n) = crcU ones l ^^^ crcU ones m ^^^ crcU ones n := by
    have := crcU_xor (List.zipWith (· ^^^ ·) l m) n (ones ^^^ ones) ones (by rw [List.length_zipWith, h1, Nat.min_self, h2])
    rw [crcU_xor l m ones ones h1, show (ones ^^^ ones ^^^ ones : B) = ones from rfl] at this
    exact this
  rw [h]
  apply BitVec.eq_of_getLsbD_eq
  intro i hi
  simp only [BitVec.getLsbD_xor, BitVec.getLsbD_not, hi, decide_true, Bool.true_and]
  cases (crcU ones l).getLsbD i <;> cases (crcU ones m).getLsbD i <;> cases (crcU ones n).getLsbD i <;> rfl
end Go.Proofs.Ytpinpccamfhofaa.Im

/-
  The operations of numbers of 32 bits as operations of bits. No program; no condition.
-/
set_option maxRecDepth 100000
namespace Go.Proofs.Ytpinpccamfhofaa.Im
open Go Go.Ev

theorem ofInt32 (v : B) : BitVec.ofInt 32 ((v.toNat : Nat) : Int) = v := by
  rw [BitVec.ofInt_natCast]
  apply BitVec.eq_of_toNat_eq
  rw [BitVec.toNat_ofNat]
  exact Nat.mod_eq_of_lt v.isLt
theorem wrap32 (v : B) : IntKind.wrap .u32 ((v.toNat : Nat) : Int) = ((v.toNat : Nat) : Int) := by
  rw [wrap_u32']
  have := v.isLt
  omega
theorem xor32 (a b : B) : bxor .u32 (a.toNat : Int) (b.toNat : Int) = ((a ^^^ b).toNat : Int) := by
  unfold bxor
  rw [show IntKind.bits .u32 = 32 from rfl, ofInt32, ofInt32, wrap32]
theorem and32 (a b : B) : band .u32 (a.toNat : Int) (b.toNat : Int) = ((a &&& b).toNat : Int) := by
  unfold band
  rw [show IntKind.bits .u32 = 32 from rfl, ofInt32, ofInt32, wrap32]
theorem shr32 (a : B) (k : Nat) : Int.fdiv (a.toNat : Int) (2 ^ k) = ((a >>> k).toNat : Int) := by
  rw [BitVec.toNat_ushiftRight, Nat.shiftRight_eq_div_pow]
  rw [Int.fdiv_eq_ediv_of_nonneg _ (by exact Int.pow_nonneg (by omega))]
  norm_cast
theorem byte32 (x : UInt8) : IntKind.wrap .u32 (x.toNat : Int) = ((byB x).toNat : Int) := by
  unfold byB
  have := x.toNat_lt
  rw [wrap_u32', BitVec.toNat_ofNat]
  omega
theorem low32 (c : B) : c &&& 1#32 = if c.getLsbD 0 then 1#32 else 0#32 := by
  apply BitVec.eq_of_getLsbD_eq
  intro i hi
  rw [BitVec.getLsbD_and]
  by_cases h : i = 0
  · subst h
    cases c.getLsbD 0 <;> rfl
  · have : (1#32).getLsbD i = false := by
      rw [BitVec.getLsbD_ofNat]
      have : Nat.testBit 1 i = false := Nat.testBit_lt_two_pow (Nat.one_lt_two_pow h)
      rw [this]; simp
    rw [this]
    cases c.getLsbD 0
    · simp
    · simp [this]
end Go.Proofs.Ytpinpccamfhofaa.Im

/-
  The checksum over the code: the program's and the reference's. No condition beyond those stated.
-/
set_option maxRecDepth 100000
namespace Go.Proofs.Ytpinpccamfhofaa.Im
open Go Go.Ev Go.Proofs

def itr : Nat → B → B
  | 0, c => c
  | n + 1, c => stp (itr n c)
theorem itr4 (c : B) : itr 4 c = st4 c := rfl
theorem itr8 (c : B) : itr 8 c = st8 c := rfl
theorem stp_odd {c : B} (h : c.getLsbD 0 = true) : stp c = (c >>> 1) ^^^ poly := by unfold stp; rw [if_pos h]
theorem low_ne (c : B) : (band .u32 ((c.toNat : Nat) : Int) 1 != 0) = c.getLsbD 0 := by
  have := and32 c 1#32
  rw [low32] at this
  rw [show (1 : Int) = (((1#32 : B).toNat : Nat) : Int) from rfl, this]
  cases c.getLsbD 0 <;> rfl
theorem low_eq (c : B) : (band .u32 ((c.toNat : Nat) : Int) 1 == 1) = c.getLsbD 0 := by
  have h := and32 c 1#32
  rw [low32] at h
  have h' : band .u32 ((c.toNat : Nat) : Int) 1 = _ := h
  rw [h']
  cases c.getLsbD 0 <;> rfl
theorem xor_poly (c : B) : bxor .u32 (Int.fdiv ((c.toNat : Nat) : Int) (2 ^ 1)) 3988292384 = (((c >>> 1) ^^^ poly).toNat : Int) := by
  rw [shr32]
  exact xor32 (c >>> 1) poly
theorem max_xor (c : B) : bxor .u32 (IntKind.max .u32) ((c.toNat : Nat) : Int) = ((~~~c).toNat : Int) := by
  have h := xor32 ones c
  rw [show (IntKind.max .u32 : Int) = ((ones.toNat : Nat) : Int) from rfl, h, show ones ^^^ c = ~~~c by rw [show ones = BitVec.allOnes 32 from rfl, BitVec.allOnes_xor]]
/-- The table, its first k lines. -/
def tabE (k i : Nat) : B := if i < k then st4 (BitVec.ofNat 32 i) else 0#32
def tab (k : Nat) : List Value := (List.range 16).map fun i => .int .u32 (((tabE k i).toNat : Nat) : Int)
theorem tab_length (k : Nat) : (tab k).length = 16 := by simp [tab]
theorem tab_E {k i : Nat} (h : i < (tab k).length) : (tab k)[i] = .int .u32 (((tabE k i).toNat : Nat) : Int) := by simp [tab]
theorem tab_set {k : Nat} (hk : k < 16) : (tab k).set k (.int .u32 (((st4 (BitVec.ofNat 32 k)).toNat : Nat) : Int)) = tab (k + 1) := by
  apply List.ext_getElem
  · simp [tab]
  · intro i h1 h2
    rw [List.getElem_set, tab_E, tab_E]
    unfold tabE
    by_cases h : k = i
    · subst h; rw [if_pos rfl, if_pos (by omega)]
    · rw [if_neg h]
      by_cases h' : i < k
      · rw [if_pos h', if_pos (by omega)]
      · rw [if_neg h', if_neg (by omega)]
theorem tab_get {n : Nat} (h : n < 16) : (tab 16)[n]? = some (.int .u32 (((st4 (BitVec.ofNat 32 n)).toNat : Nat) : Int)) := by
  unfold tab
  rw [List.getElem?_map, List.getElem?_range h, Option.map_some]
  unfold tabE
  rw [if_pos h]
theorem and15 (c : B) : ∃ n : Nat, n < 16 ∧ band .u32 ((c.toNat : Nat) : Int) 15 = (n : Int) ∧ BitVec.ofNat 32 n = c &&& 15#32 := by
  refine ⟨(c &&& 15#32).toNat, ?_, and32 c 15#32, by simp⟩
  rw [BitVec.toNat_and]
  exact Nat.lt_of_le_of_lt Nat.and_le_right (by decide)
theorem crcU_snoc (c : B) (l : List UInt8) (x : UInt8) : crcU c (l ++ [x]) = st8 (crcU c l ^^^ byB x) := by simp [crcU]

section
variable {U w : World} {Q : Value → World → Prop}

theorem checksum_k14 {l : List UInt8} {tb : Nat} (h : At w tb (tab 16) 169) (hl : l.length ≤ 1000000000000) (hQ : Q (.int .u32 (((crc l).toNat : Nat) : Int)) w) : W.image_Checksum_k14 (mkS l) ⟨tb, 0, none⟩ w Q := by
  unfold W.image_Checksum_k14
  rw [mkS_size]
  refine LoopW.nat l.length (fun j x w' => x = ((((crcU ones (l.take j)).toNat : Nat) : Int), (j : Int), ()) ∧ w' = w) ⟨rfl, rfl⟩ ?_
  rintro j x w1 next hj ⟨rfl, rfl⟩ hnext
  dsimp only
  by_cases hlt : j < l.length
  case neg =>
    rw [decide_eq_false (by omega), br_false]
    obtain rfl : j = l.length := by omega
    rw [List.take_length, max_xor]
    exact hQ
  rw [decide_eq_true (by omega), br_true]
  refine qI (sxn j hlt) ?_
  generalize hx : l.getD j 0 = x
  rw [byte32, xor32]
  generalize hd : crcU ones (l.take j) ^^^ byB x = d
  obtain ⟨n, hn, hn1, hn2⟩ := and15 d
  rw [hn1]
  refine ixa n 16 1 119 hn ?_
  refine ldI h (by rw [Nat.mul_one]; exact tab_get hn) ?_
  rw [shr32, xor32, hn2, ← st4_table]
  obtain ⟨m, hm, hm1, hm2⟩ := and15 (st4 d)
  rw [hm1]
  refine ixa m 16 1 119 hm ?_
  refine ldI h (by rw [Nat.mul_one]; exact tab_get hm) ?_
  rw [shr32, xor32, hm2, ← st4_table, inc_nat (by omega)]
  refine hnext hlt _ _ ⟨?_, rfl⟩
  have ht : l.take (j + 1) = l.take j ++ [x] := by
    rw [← hx, List.getD_eq_getElem?_getD, List.getElem?_eq_getElem hlt, Option.getD_some, List.take_append_getElem hlt]
  rw [ht, crcU_snoc, hd]
  rfl

theorem checksum_c {l : List UInt8} (hl : l.length ≤ 1000000000000) (hQ : ∀ w', Ext w w' (fun _ => False) → Q (.int .u32 (((crc l).toNat : Nat) : Int)) w') : CallE Try.prog 73 #[.string (mkS l)] w Q := by
  apply C.image_Checksum
  unfold W.image_Checksum
  refine al_i fun tb w1 htb a1 e1 z1 => ?_
  have hz : (zeroT Try.prog 169).cells.toList = tab 0 := by kernel_rfl
  rw [hz] at a1
  refine LoopW.nat 16 (fun i x w' => x = ((i : Int), ()) ∧ At w' tb (tab i) 169 ∧ Ext w w' (fun _ => False)) ⟨rfl, a1, e1⟩ ?_
  rintro i x w2 next hi ⟨rfl, a2, e2⟩ hnext
  dsimp only
  by_cases hlt : i < 16
  case neg =>
    rw [decide_eq_false (by omega), br_false]
    obtain rfl : i = 16 := by omega
    exact checksum_k14 a2 hl (hQ w2 e2)
  rw [decide_eq_true (by omega), br_true]
  have hc0 : IntKind.wrap .u32 (i : Int) = (((BitVec.ofNat 32 i : B).toNat : Nat) : Int) := by
    rw [wrap_u32', BitVec.toNat_ofNat]; omega
  rw [hc0]
  refine LoopW.nat 4 (fun k y w' => y = ((((itr k (BitVec.ofNat 32 i)).toNat : Nat) : Int), (k : Int), ()) ∧ w' = w2) ⟨rfl, rfl⟩ ?_
  rintro k y w3 next3 hk ⟨rfl, rfl⟩ hnext3
  dsimp only
  by_cases hkt : k < 4
  case neg =>
    rw [decide_eq_false (by omega), br_false]
    obtain rfl : k = 4 := by omega
    refine ixa i 16 1 119 hlt ?_
    refine st_i a2 (by rw [tab_length]; omega) fun w4 a4 e4 z4 => ?_
    rw [Nat.mul_one, itr4, tab_set hlt] at a4
    rw [inc_nat (by omega)]
    exact hnext hlt _ _ ⟨rfl, a4, e2.trans e4 (fun _ _ h => h) (fun b hb hx => by omega)⟩
  rw [decide_eq_true (by omega), br_true, low_ne, xor_poly, shr32, inc_nat (by omega)]
  refine br_of (fun h => ?_) (fun h => ?_)
  · exact hnext3 hkt _ _ ⟨by rw [← stp_odd h]; rfl, rfl⟩
  · exact hnext3 hkt _ _ ⟨by rw [← stp_even h]; rfl, rfl⟩

theorem rchecksum_c {l : List UInt8} (hl : l.length ≤ 1000000000000) (hQ : Q (.int .u32 (((crc l).toNat : Nat) : Int)) w) : CallE Try.prog 109 #[.string (mkS l)] w Q := by
  apply C.ref34_Checksum
  unfold W.ref34_Checksum
  rw [mkS_size]
  refine LoopW.nat l.length (fun j x w' => x = ((((crcU ones (l.take j)).toNat : Nat) : Int), (j : Int), ()) ∧ w' = w) ⟨rfl, rfl⟩ ?_
  rintro j x w1 next hj ⟨rfl, rfl⟩ hnext
  dsimp only
  by_cases hlt : j < l.length
  case neg =>
    rw [decide_eq_false (by omega), br_false]
    obtain rfl : j = l.length := by omega
    rw [List.take_length, max_xor]
    exact hQ
  rw [decide_eq_true (by omega), br_true]
  refine qI (sxn j hlt) ?_
  generalize hx : l.getD j 0 = x
  rw [byte32, xor32]
  generalize hd : crcU ones (l.take j) ^^^ byB x = d
  refine LoopW.nat 8 (fun k y w' => y = ((((itr k d).toNat : Nat) : Int), (k : Int), ()) ∧ w' = w1) ⟨rfl, rfl⟩ ?_
  rintro k y w3 next3 hk ⟨rfl, rfl⟩ hnext3
  dsimp only
  by_cases hkt : k < 8
  case neg =>
    rw [decide_eq_false (by omega), br_false]
    obtain rfl : k = 8 := by omega
    rw [inc_nat (by omega)]
    refine hnext hlt _ _ ⟨?_, rfl⟩
    have ht : l.take (j + 1) = l.take j ++ [x] := by
      rw [← hx, List.getD_eq_getElem?_getD, List.getElem?_eq_getElem hlt, Option.getD_some, List.take_append_getElem hlt]
    rw [ht, crcU_snoc, hd, itr8]
  rw [decide_eq_true (by omega), br_true, low_eq, xor_poly, shr32, inc_nat (by omega)]
  refine br_of (fun h => ?_) (fun h => ?_)
  · exact hnext3 hkt _ _ ⟨by rw [← stp_odd h]; rfl, rfl⟩
  · exact hnext3 hkt _ _ ⟨by rw [← stp_even h]; rfl, rfl⟩
end
end Go.Proofs.Ytpinpccamfhofaa.Im

/-
  Numbers in bytes, lowest first: the program's and the reference's functions. No condition beyond those stated.
-/
set_option maxRecDepth 100000
namespace Go.Proofs.Ytpinpccamfhofaa.Im
open Go Go.Ev Go.Proofs

def le (v n : Nat) : List UInt8 := (List.range n).map fun i => UInt8.ofNat (v / 256 ^ i)
def num : List UInt8 → Nat
  | [] => 0
  | x :: l => x.toNat + 256 * num l
theorem le_length (v n : Nat) : (le v n).length = n := by simp [le]
theorem le_succ (v n : Nat) : le v (n + 1) = le v n ++ [UInt8.ofNat (v / 256 ^ n)] := by simp [le, List.range_succ]
theorem num_lt : ∀ l : List UInt8, num l < 256 ^ l.length
  | [] => by simp [num]
  | x :: l => by
    have h1 := num_lt l
    have h2 := x.toNat_lt
    show x.toNat + 256 * num l < 256 ^ (l.length + 1)
    rw [Nat.pow_succ]
    omega
theorem num_append : ∀ (l : List UInt8) (x : UInt8), num (l ++ [x]) = num l + x.toNat * 256 ^ l.length
  | [], x => by simp [num]
  | y :: l, x => by
    show y.toNat + 256 * num (l ++ [x]) = (y.toNat + 256 * num l) + x.toNat * 256 ^ (l.length + 1)
    rw [num_append l x, Nat.pow_succ, Nat.mul_add, ← Nat.mul_assoc x.toNat, Nat.mul_comm _ 256]
    omega
theorem wrap_by (n : Nat) : IntKind.wrap .u8 (n : Int) = ((UInt8.ofNat n).toNat : Int) := by
  rw [UInt8.toNat_ofNat', wrap_u8']
  omega
theorem fdiv_8 (n : Nat) : Int.fdiv (n : Int) (2 ^ 8) = ((n / 256 : Nat) : Int) := by
  rw [Int.fdiv_eq_ediv_of_nonneg _ (by omega)]; rfl
theorem wrap_64 {n : Nat} (h : n < 18446744073709551616) : IntKind.wrap .u64 (n : Int) = (n : Int) := wrap_u64 (by omega) (by omega)
theorem bor_64 {a b : Nat} (ha : a < 18446744073709551616) (hb : b < 18446744073709551616) : bor .u64 (a : Int) (b : Int) = ((a ||| b : Nat) : Int) := by
  unfold bor
  have : (BitVec.ofInt (IntKind.bits .u64) (a : Int) ||| BitVec.ofInt (IntKind.bits .u64) (b : Int)).toNat = a ||| b := by
    show (BitVec.ofInt 64 (a : Int) ||| BitVec.ofInt 64 (b : Int)).toNat = a ||| b
    rw [BitVec.ofInt_natCast, BitVec.ofInt_natCast, BitVec.toNat_or, BitVec.toNat_ofNat, BitVec.toNat_ofNat]
    rw [Nat.mod_eq_of_lt (by omega), Nat.mod_eq_of_lt (by omega)]
  rw [this, wrap_64 (Nat.or_lt_two_pow (n := 64) (by omega) (by omega))]

section
variable {U w : World} {Q : Value → World → Prop}

theorem appendNumber_c {a : Option Addr} {n c v k : Nat} {xs : List Value} (hs : Sl w 5 1 a n c xs) (hk : k ≤ 8) (hn : n ≤ 900000000)
    (hQ : ∀ a' c' w', Sl w' 5 1 a' (n + k) c' (xs ++ by_ (le v k)) → (∀ b, a' = some ⟨b, 0, none⟩ → a = some ⟨b, 0, none⟩ ∨ w.heap.size ≤ b) → (a.isSome = true → a'.isSome = true) → Ext w w' (fun b => a = some ⟨b, 0, none⟩) → Q (.slice a' (n + k) c') w') :
    CallE Try.prog 72 #[.slice a n c, .int .u64 (v : Int), .int .i64 (k : Int)] w Q := by
  apply C.image_appendNumber
  unfold W.image_appendNumber
  refine LoopW.nat k (fun j x w' => ∃ a' c', x = ((a', n + j, c'), ((v / 256 ^ j : Nat) : Int), (j : Int), ()) ∧ Sl w' 5 1 a' (n + j) c' (xs ++ by_ (le v j)) ∧ (∀ b, a' = some ⟨b, 0, none⟩ → a = some ⟨b, 0, none⟩ ∨ w.heap.size ≤ b) ∧ (a.isSome = true → a'.isSome = true) ∧ Ext w w' (fun b => a = some ⟨b, 0, none⟩))
    ⟨a, c, by simp, by simpa [le, by_] using hs, fun b hb => .inl hb, fun h => h, Ext.refl _ _⟩ ?_
  rintro j x w1 next hj ⟨a', c', rfl, s1, f1, g1, e1⟩ hnext
  dsimp only
  by_cases hlt : j < k
  case neg =>
    rw [decide_eq_false (by omega), br_false]
    obtain rfl : j = k := by omega
    exact hQ a' c' w1 s1 f1 g1 e1
  rw [decide_eq_true (by omega), br_true, wrap_by]
  refine al_i fun tb w2 htb a2 e2 z2 => ?_
  refine ap_i 5 1 (vs := by_ [UInt8.ofNat (v / 256 ^ j)]) (s1.ext e2 (fun _ _ h => h)) (.inr ⟨_, rfl, fun k hk => by rw [add_mk, a2.cell, Nat.zero_add]; rfl⟩) rfl (by_one _) (by omega) fun a'' c'' w3 s3 hor hsome e3 => fs ?_
  rw [fdiv_8, inc_nat (by omega), Nat.div_div_eq_div_mul, ← Nat.pow_succ]
  have hs1 := e1.size
  refine hnext hlt _ _ ⟨a'', c'', rfl, ?_, fun b hb => ?_, fun h => hsome (g1 h), (e1.trans e2 (fun _ _ h => h) (fun _ _ h => h.elim)).trans e3 (fun _ _ h => h) (fun b hb hx => ?_)⟩
  · rw [le_succ, by_append, ← List.append_assoc]
    exact s3
  · rcases hor b hb with h | h
    · exact f1 b h
    · exact .inr (by omega)
  · rcases f1 b hx with h | h
    · exact h
    · omega

theorem number_c {l : List UInt8} (hl : l.length ≤ 8) (hQ : Q (.int .u64 ((num l : Nat) : Int)) w) : CallE Try.prog 100 #[.string (mkS l)] w Q := by
  apply C.image_number
  unfold W.image_number
  rw [mkS_size, wrap_i64 (by omega) (by omega)]
  refine LoopW.nat l.length (fun k x w' => x = (((num (l.drop (l.length - k)) : Nat) : Int), ((l.length : Int) - 1 - (k : Int)), ()) ∧ w' = w) ⟨by simp [num], rfl⟩ ?_
  rintro k x w1 next hk ⟨rfl, rfl⟩ hnext
  dsimp only
  by_cases hlt : k < l.length
  case neg =>
    rw [decide_eq_false (by omega), br_false]
    obtain rfl : k = l.length := by omega
    rw [Nat.sub_self, List.drop_zero]
    exact hQ
  rw [decide_eq_true (by omega), br_true]
  obtain ⟨i, hi⟩ : ∃ i : Nat, l.length = i + 1 + k := ⟨l.length - 1 - k, by omega⟩
  have hil : i < l.length := by omega
  rw [show (l.length : Int) - 1 - (k : Int) = (i : Int) by omega]
  refine qI (sxn i hil) ?_
  have hx : l.getD i 0 = l[i] := by rw [List.getD_eq_getElem?_getD, List.getElem?_eq_getElem hil]; rfl
  have hd1 : l.drop (l.length - k) = l.drop (i + 1) := by rw [show l.length - k = i + 1 by omega]
  have hd2 : l.drop (l.length - (k + 1)) = l[i] :: l.drop (i + 1) := by rw [show l.length - (k + 1) = i by omega]; exact List.drop_eq_getElem_cons hil
  have hlt2 := num_lt (l.drop (i + 1))
  have hle7 : (256 : Nat) ^ (l.drop (i + 1)).length ≤ 256 ^ 7 := Nat.pow_le_pow_right (by omega) (by rw [List.length_drop]; omega)
  have hb := l[i].toNat_lt
  rw [hd1, hx]
  generalize hmm : num (l.drop (i + 1)) = m at *
  have hm : m < 72057594037927936 := Nat.lt_of_lt_of_le hlt2 hle7
  have hmul : ((m : Nat) : Int) * 2 ^ 8 = ((m * 256 : Nat) : Int) := by omega
  rw [hmul, wrap_64 (by omega), wrap_64 (by omega), bor_64 (by omega) (by omega)]
  have hor : m * 256 ||| l[i].toNat = m * 256 + l[i].toNat := by
    have := Nat.two_pow_add_eq_or_of_lt (i := 8) (b := l[i].toNat) (by omega) m
    rw [Nat.mul_comm m 256]
    exact this.symm
  rw [hor, wrap_i64 (by omega) (by omega)]
  refine hnext hlt _ _ ⟨?_, rfl⟩
  rw [hd2, show num (l[i] :: l.drop (i + 1)) = l[i].toNat + 256 * num (l.drop (i + 1)) from rfl, hmm, show l[i].toNat + 256 * m = m * 256 + l[i].toNat by omega, show (l.length : Int) - 1 - ((k + 1 : Nat) : Int) = (i : Int) - 1 by omega]

theorem pow_8 (j : Nat) : (2 : Int) ^ (8 * (j : Int)).toNat = ((256 ^ j : Nat) : Int) := by
  rw [show (8 * (j : Int)).toNat = 8 * j by omega, Int.pow_mul, Int.natCast_pow]
  rfl
theorem bits_8 {j : Nat} (h : j ≤ 8) : IntKind.wrap .u64 (IntKind.wrap .i64 (8 * (j : Int))) = 8 * (j : Int) := by
  rw [wrap_i64 (by omega) (by omega), wrap_u64 (by omega) (by omega)]

theorem little_c {v k : Nat} (hk : k ≤ 8) (hQ : ∀ w', Ext w w' (fun _ => False) → Q (.string (mkS (le v k))) w') : CallE Try.prog 108 #[.int .u64 (v : Int), .int .i64 (k : Int)] w Q := by
  apply C.ref34_little
  unfold W.ref34_little
  refine LoopW.nat k (fun j x w' => ∃ a' c', x = ((a', j, c'), (j : Int), ()) ∧ Sl w' 5 1 a' j c' (by_ (le v j)) ∧ (∀ b, a' = some ⟨b, 0, none⟩ → w.heap.size ≤ b) ∧ Ext w w' (fun _ => False))
    ⟨none, 0, rfl, .inl ⟨rfl, rfl, rfl, rfl⟩, (fun b hb => by cases hb), Ext.refl _ _⟩ ?_
  rintro j x w1 next hj ⟨a', c', rfl, s1, f1, e1⟩ hnext
  dsimp only
  by_cases hlt : j < k
  case neg =>
    rw [decide_eq_false (by omega), br_false]
    obtain rfl : j = k := by omega
    unfold W.ref34_little_k6
    refine slT s1 (le_length _ _) ?_
    exact hQ w1 e1
  rw [decide_eq_true (by omega), br_true, bits_8 (by omega)]
  refine qI (shr_i (by omega) (by show 8 * (j : Int) ≤ 64; omega)) ?_
  have hdv : Int.fdiv (v : Int) (2 ^ (8 * (j : Int)).toNat) = ((v / 256 ^ j : Nat) : Int) := by
    rw [pow_8, Int.fdiv_eq_ediv_of_nonneg _ (Int.natCast_nonneg _)]; rfl
  rw [hdv, wrap_by]
  refine al_i fun tb w2 htb a2 e2 z2 => ?_
  refine ap_i 5 1 (vs := by_ [UInt8.ofNat (v / 256 ^ j)]) (s1.ext e2 (fun _ _ h => h)) (.inr ⟨_, rfl, fun k hk => by rw [add_mk, a2.cell, Nat.zero_add]; rfl⟩) rfl (by_one _) (by omega) fun a'' c'' w3 s3 hor hsome e3 => fs ?_
  rw [inc_nat (by omega)]
  have hs1 := e1.size
  refine hnext hlt _ _ ⟨a'', c'', rfl, ?_, fun b hb => ?_, (e1.tr e2).trans e3 (fun _ _ h => h) (fun b hb hx => ?_)⟩
  · rw [le_succ, by_append]
    exact s3
  · rcases hor b hb with h | h
    · exact f1 b h
    · omega
  · have := f1 b hx
    omega

theorem value_c {l : List UInt8} (hl : l.length ≤ 8) (hQ : Q (.int .u64 ((num l : Nat) : Int)) w) : CallE Try.prog 111 #[.string (mkS l)] w Q := by
  apply C.ref34_value
  unfold W.ref34_value
  rw [mkS_size]
  refine LoopW.nat l.length (fun j x w' => x = (((num (l.take j) : Nat) : Int), (j : Int), ()) ∧ w' = w) ⟨rfl, rfl⟩ ?_
  rintro j x w1 next hj ⟨rfl, rfl⟩ hnext
  dsimp only
  by_cases hlt : j < l.length
  case neg =>
    rw [decide_eq_false (by omega), br_false]
    obtain rfl : j = l.length := by omega
    rw [List.take_length]
    exact hQ
  rw [decide_eq_true (by omega), br_true]
  refine qI (sxn j hlt) ?_
  have hx : l.getD j 0 = l[j] := by rw [List.getD_eq_getElem?_getD, List.getElem?_eq_getElem hlt]; rfl
  have hb := l[j].toNat_lt
  rw [hx, wrap_64 (by omega), bits_8 (by omega)]
  refine qI (shl_i (by omega) (by show 8 * (j : Int) ≤ 64; omega)) ?_
  have ht : l.take (j + 1) = l.take j ++ [l[j]] := by rw [List.take_append_getElem hlt]
  have hnum := num_append (l.take j) l[j]
  rw [← ht, List.length_take, Nat.min_eq_left (by omega)] at hnum
  have hlt1 := num_lt (l.take (j + 1))
  have hle : (256 : Nat) ^ (l.take (j + 1)).length ≤ 256 ^ 8 := Nat.pow_le_pow_right (by omega) (by rw [List.length_take]; omega)
  have h64 : num (l.take (j + 1)) < 18446744073709551616 := Nat.lt_of_lt_of_le hlt1 hle
  have hmul : ((l[j].toNat : Nat) : Int) * 2 ^ (8 * (j : Int)).toNat = ((l[j].toNat * 256 ^ j : Nat) : Int) := by rw [pow_8]; rfl
  rw [hmul, wrap_64 (by omega), show ((num (l.take j) : Nat) : Int) + ((l[j].toNat * 256 ^ j : Nat) : Int) = ((num (l.take (j + 1)) : Nat) : Int) by rw [hnum]; rfl, wrap_64 h64, inc_nat (by omega)]
  exact hnext hlt _ _ ⟨rfl, rfl⟩
end
end Go.Proofs.Ytpinpccamfhofaa.Im

/-
  The header of an image: what EncodeHeader returns. No condition beyond those stated.
-/
set_option maxRecDepth 100000
namespace Go.Proofs.Ytpinpccamfhofaa.Im
open Go Go.Ev Go.Proofs

/-- A header as a value, and as bytes. -/
def hdrC (g : Nat) (bd : List UInt8) (n s : Nat) : List Value := .int .u64 (g : Int) :: (by_ bd ++ [.int .u32 (n : Int), .int .u32 (s : Int)])
def hdr0 (g : Nat) (bd : List UInt8) (n s : Nat) : List UInt8 := [72, 73, 66, 49] ++ le g 8 ++ bd ++ le n 4 ++ le s 4
def hdr (g : Nat) (bd : List UInt8) (n s : Nat) : List UInt8 := hdr0 g bd n s ++ le (crc (hdr0 g bd n s)).toNat 4 ++ le 0 8

/-- A buffer of the code's own, younger than a world. -/
structure Bf (w0 w : World) (a : Option Addr) (n c : Nat) (l : List UInt8) : Prop where
  s : Sl w 5 1 a n c (by_ l)
  f : ∀ b, a = some ⟨b, 0, none⟩ → w0.heap.size ≤ b
  e : Ext w0 w (fun _ => False)
theorem Bf.step {w0 w w' : World} {a a' : Option Addr} {n c n' c' : Nat} {l l' : List UInt8} (h : Bf w0 w a n c l) (s' : Sl w' 5 1 a' n' c' (by_ l ++ by_ l')) (f' : ∀ b, a' = some ⟨b, 0, none⟩ → a = some ⟨b, 0, none⟩ ∨ w.heap.size ≤ b) (e' : Ext w w' (fun b => a = some ⟨b, 0, none⟩)) : Bf w0 w' a' n' c' (l ++ l') := by
  have hs := h.e.size
  refine ⟨by rw [by_append]; exact s', fun b hb => ?_, h.e.trans e' (fun _ _ h => h) (fun b hb hx => ?_)⟩
  · rcases f' b hb with hx | hx
    · exact h.f b hx
    · omega
  · have := h.f b hx
    omega
theorem Bf.same {w0 w w' : World} {a : Option Addr} {n c : Nat} {l : List UInt8} (h : Bf w0 w a n c l) (e : Ext w w' (fun _ => False)) : Bf w0 w' a n c l := ⟨h.s.ext e (fun _ _ h => h), h.f, h.e.tr e⟩

section
variable {U w : World} {Q : Value → World → Prop}

theorem encodeHeader_c {g n s : Nat} {bd : List UInt8} (hbd : bd.length = 32) (hn : n < 4294967296) (hs : s < 4294967296) (hQ : ∀ w', Ext w w' (fun _ => False) → Q (.string (mkS (hdr g bd n s))) w') :
    CallE Try.prog 74 #[.agg (hdrC g bd n s).toArray] w Q := by
  apply C.image_EncodeHeader
  unfold W.image_EncodeHeader
  refine al_i fun hb w1 hhb a1 e1 z1 => ?_
  change At w1 hb (hdrC g bd n s) 121 at a1
  simp only [add_mk, Nat.zero_add]
  refine mk_0 5 1 (by omega) (by omega) fun bb w2 hbb s2 e2 z2 => fs ?_
  have b2 : Bf w1 w2 (some ⟨bb, 0, none⟩) 0 64 [] := ⟨s2, fun b hb => by simp only [Option.some.injEq, Addr.mk.injEq, and_true] at hb; omega, e2⟩
  refine ap_s (l := [72, 73, 66, 49]) 5 b2.s (by show 0 + 4 ≤ _; omega) fun a3 c3 w3 s3 f3 g3 e3 => fs ?_
  have b3 := b2.step s3 f3 e3
  refine ldI (a1.ext b3.e (fun h => h)) rfl ?_
  refine appendNumber_c (v := g) (k := 8) b3.s (by omega) (by show 0 + 4 ≤ _; omega) fun a4 c4 w4 s4 f4 g4 e4 => fs ?_
  have b4 := b3.step s4 f4 e4
  refine rq_r (a_all 32) (fs ?_)
  have a14 := a1.ext b4.e (fun h => h)
  refine ap_i 5 1 (vs := by_ bd) b4.s (.inr ⟨_, rfl, fun j hj => ?_⟩) (by rw [by_length, hbd]) (by_one _) (by show 0 + 4 + 8 + 32 ≤ _; omega) fun a5 c5 w5 s5 f5 g5 e5 => fs ?_
  · rw [add_mk, a14.cell, Nat.add_comm]
    unfold hdrC
    rw [List.getElem?_cons_succ, List.getElem?_append_left hj]
  have b5 := b4.step s5 f5 e5
  have hc33 : (hdrC g bd n s)[33]? = some (.int .u32 (n : Int)) := by
    unfold hdrC
    rw [List.getElem?_cons_succ, List.getElem?_append_right (by rw [by_length, hbd]; omega), by_length, hbd]
    rfl
  have hc34 : (hdrC g bd n s)[34]? = some (.int .u32 (s : Int)) := by
    unfold hdrC
    rw [List.getElem?_cons_succ, List.getElem?_append_right (by rw [by_length, hbd]; omega), by_length, hbd]
    rfl
  refine ldI (a1.ext b5.e (fun h => h)) hc33 ?_
  rw [wrap_64 (by omega)]
  refine appendNumber_c (v := n) (k := 4) b5.s (by omega) (by show 0 + 4 + 8 + 32 ≤ _; omega) fun a6 c6 w6 s6 f6 g6 e6 => fs ?_
  have b6 := b5.step s6 f6 e6
  refine ldI (a1.ext b6.e (fun h => h)) hc34 ?_
  rw [wrap_64 (by omega)]
  refine appendNumber_c (v := s) (k := 4) b6.s (by omega) (by show 0 + 4 + 8 + 32 + 4 ≤ _; omega) fun a7 c7 w7 s7 f7 g7 e7 => fs ?_
  have b7 := b6.step s7 f7 e7
  rw [List.nil_append] at b7
  change Bf w1 w7 a7 _ c7 (hdr0 g bd n s) at b7
  have h0l : (hdr0 g bd n s).length = 0 + 4 + 8 + 32 + 4 + 4 := by simp [hdr0, le_length, hbd]
  refine slT b7.s h0l ?_
  refine checksum_c (by rw [h0l]; omega) fun w8 e8 => fi ?_
  have b8 := b7.same e8
  have hcr := (crc (hdr0 g bd n s)).isLt
  rw [wrap_64 (by omega)]
  refine appendNumber_c (k := 4) b8.s (by omega) (by show 0 + 4 + 8 + 32 + 4 + 4 ≤ _; omega) fun a9 c9 w9 s9 f9 g9 e9 => fs ?_
  have b9 := b8.step s9 f9 e9
  refine appendNumber_c (v := 0) (k := 8) b9.s (by omega) (by show 0 + 4 + 8 + 32 + 4 + 4 + 4 ≤ _; omega) fun a10 c10 w10 s10 f10 g10 e10 => fs ?_
  have b10 := b9.step s10 f10 e10
  refine slT b10.s (by rw [List.length_append, List.length_append, h0l, le_length, le_length]; rfl) ?_
  exact hQ w10 (e1.tr b10.e)
end
end Go.Proofs.Ytpinpccamfhofaa.Im

/-
  The header of an image: what DecodeHeader returns. No condition beyond those stated.
-/
set_option maxRecDepth 100000
namespace Go.Proofs.Ytpinpccamfhofaa.Im
open Go Go.Ev Go.Proofs

def mag : List UInt8 := [72, 73, 66, 49]
/-- The bytes from i up to j. -/
def sub (l : List UInt8) (i j : Nat) : List UInt8 := (l.take j).drop i
theorem sub_length {l : List UInt8} {i j : Nat} (h : j ≤ l.length) : (sub l i j).length = j - i := by unfold sub; rw [List.length_drop, List.length_take, Nat.min_eq_left h]
def zb : List UInt8 := List.replicate 32 0
def decH (l : List UInt8) : List Value × Int :=
  if l.length ≠ 64 then (hdrC 0 zb 0 0, 3) else if l.take 4 ≠ mag then (hdrC 0 zb 0 0, 3) else if num (l.drop 56) ≠ 0 then (hdrC 0 zb 0 0, 3)
  else if num (sub l 52 56) ≠ (crc (l.take 52)).toNat then (hdrC 0 zb 0 0, 5)
  else (hdrC (num (sub l 4 12)) (sub l 12 44) (num (sub l 44 48)) (num (sub l 48 52)), 0)
theorem hdrC_length {g n s : Nat} {bd : List UInt8} (h : bd.length = 32) : (hdrC g bd n s).length = 35 := by simp [hdrC, by_length, h]
theorem hdrC_one (g n s : Nat) (bd : List UInt8) : ∀ v ∈ hdrC g bd n s, one v = true := by
  intro v hv
  unfold hdrC at hv
  rcases List.mem_cons.1 hv with rfl | hv
  · rfl
  rcases List.mem_append.1 hv with hv | hv
  · exact by_one _ _ hv
  · simp only [List.mem_cons, List.not_mem_nil, or_false] at hv
    rcases hv with rfl | rfl <;> rfl

section
variable {U w : World} {Q : Value → World → Prop}

theorem hasPrefix_c {l m : List UInt8} (h : m.length ≤ l.length) (hQ : Q (.bool (decide (l.take m.length = m))) w) : CallE Try.prog 95 #[.string (mkS l), .string (mkS m)] w Q := by
  apply C.strings_HasPrefix
  unfold W.strings_HasPrefix
  apply C.internal_stringslite_HasPrefix
  unfold W.internal_stringslite_HasPrefix
  rw [mkS_size, mkS_size, decide_eq_true (by omega), br_true]
  refine qT (s_hi (by omega) (by omega)) ?_
  refine qB s_eq ?_
  rw [Int.toNat_natCast]
  exact fb hQ
theorem splice_all {cs vs : List Value} (h : vs.length = cs.length) : splice cs 0 vs = vs := by
  rw [splice_eq _ _ _ (by omega), List.take_zero, List.nil_append, Nat.zero_add, h, List.drop_length, List.append_nil]
theorem splice_hdr {g n s : Nat} {bd : List UInt8} (h : bd.length = 32) : splice (hdrC g zb n s) 1 (by_ bd) = hdrC g bd n s := by
  rw [splice_eq _ _ _ (by rw [hdrC_length rfl, by_length, h]; omega), by_length, h]
  rfl

theorem decodeHeader_k8 {l : List UInt8} {rb tb g n s : Nat} (hl : l.length = 64) (hr : At w rb (hdrC 0 zb 0 0) 121) (ht : At w tb (hdrC g zb n s) 121) (hne : rb ≠ tb)
    (hQ : ∀ w', Ext w w' (fun b => b = rb ∨ b = tb) → Q (.tuple #[.agg (hdrC g (sub l 12 44) n s).toArray, .int .i64 0]) w') : W.image_DecodeHeader_k8 (mkS l) ⟨rb, 0, none⟩ ⟨tb, 0, none⟩ w Q := by
  unfold W.image_DecodeHeader_k8
  simp only [add_mk, Nat.zero_add]
  unfold dr
  have hb : (sub l 12 44).length = 32 := sub_length (by omega)
  refine rq_r (a_all 32) (fs ?_)
  refine qT (s_lh (by omega) (by omega) (by rw [hl]; omega)) ?_
  have ed : Ext w (drew w) (fun _ => False) := (Ext.refl _ _).drew_
  refine cp_s 5 (l := sub l 12 44) (w := drew w) (ht.ext ed (fun h => h)) hb (by rw [hdrC_length rfl]; omega) fun w1 a1 e1 z1 => fi ?_
  rw [splice_hdr hb] at a1
  have r1 := (hr.ext ed (fun h => h)).ext e1 hne
  refine ld_w a1 (fg ?_) (hs := by rw [hdrC_length hb]; kernel_rfl)
  refine st_g 35 r1 (by rw [hdrC_length rfl]; omega) (hdrC_length hb) (hdrC_one _ _ _ _) fun w2 a2 e2 z2 => ?_
  rw [splice_all (by rw [hdrC_length hb, hdrC_length rfl])] at a2
  refine ld_w a2 (fg ?_) (hs := by rw [hdrC_length hb]; kernel_rfl)
  exact hQ w2 ((ed.trans e1 (Z := fun b => b = rb ∨ b = tb) (fun _ _ h => h.elim) (fun _ _ h => .inr h)).trans e2 (fun _ _ h => h) (fun _ _ h => .inl h))
theorem num_32 {l : List UInt8} {i j : Nat} (h : j ≤ l.length) (hij : j - i ≤ 4) : num (sub l i j) < 4294967296 := by
  have h1 := num_lt (sub l i j)
  rw [sub_length h] at h1
  exact Nat.lt_of_lt_of_le h1 (show 256 ^ (j - i) ≤ 256 ^ 4 from Nat.pow_le_pow_right (by omega) hij)
theorem wrap_32 {n : Nat} (h : n < 4294967296) : IntKind.wrap .u32 (n : Int) = (n : Int) := by rw [wrap_u32']; omega

theorem decodeHeader_c {l : List UInt8} (hQ : ∀ w', Ext w w' (fun _ => False) → Q (.tuple #[.agg (decH l).1.toArray, .int .i64 (decH l).2]) w') : CallE Try.prog 67 #[.string (mkS l)] w Q := by
  apply C.image_DecodeHeader
  unfold W.image_DecodeHeader
  refine al_i fun rb w1 hrb a1 e1 z1 => ?_
  have hz : (zeroT Try.prog 121).cells.toList = hdrC 0 zb 0 0 := by kernel_rfl
  rw [hz] at a1
  rw [mkS_size]
  unfold decH at hQ
  have bad : ∀ (w' : World) (r : Int), Ext w1 w' (fun _ => False) → (∀ w'', Ext w w'' (fun _ => False) → Q (.tuple #[.agg (hdrC 0 zb 0 0).toArray, .int .i64 r]) w'') →
      st Try.prog 121 ⟨rb, 0, none⟩ (.agg (hdrC 0 zb 0 0).toArray) w' fun w3 => ld Try.prog 121 ⟨rb, 0, none⟩ w3 fun v4 => fG v4 fun g5 => Q (.tuple #[.agg g5, .int .i64 r]) w3 := by
    intro w' r e' hq
    refine st_g 35 (a1.ext e' (fun h => h)) (by rw [hdrC_length rfl]; omega) (hdrC_length rfl) (hdrC_one _ _ _ _) fun w2 a2 e2 z2 => ?_
    rw [splice_all rfl] at a2
    refine ld_w a2 (fg ?_) (hs := by rw [hdrC_length rfl]; kernel_rfl)
    exact hq w2 ((e1.tr e').trans e2 (fun _ _ h => h) (fun b hb hx => by omega))
  by_cases h64 : l.length = 64
  case neg =>
    rw [if_pos h64] at hQ
    rw [show (((l.length : Nat) : Int) != 64) = true by rw [bne_iff_ne]; omega, br_true]
    exact bad w1 3 (Ext.refl _ _) hQ
  rw [if_neg (by omega)] at hQ
  rw [h64, show (((64 : Nat) : Int) != 64) = false from rfl, br_false]
  refine hasPrefix_c (m := mag) (by rw [h64]; show 4 ≤ 64; omega) (fb ?_)
  change br (!decide (l.take 4 = mag)) _ _
  by_cases hm : l.take 4 = mag
  case neg =>
    rw [if_pos hm] at hQ
    rw [decide_eq_false hm, Bool.not_false, br_true]
    exact bad w1 3 (Ext.refl _ _) hQ
  rw [if_neg (by simp [hm])] at hQ
  rw [decide_eq_true hm, Bool.not_true, br_false]
  refine qT (s_lo (by omega) (by rw [h64]; omega)) ?_
  refine number_c (by rw [List.length_drop, h64]; show 64 - 56 ≤ 8; omega) (fi ?_)
  change br (((num (l.drop 56) : Nat) : Int) != 0) _ _
  by_cases hp : num (l.drop 56) = 0
  case neg =>
    rw [if_pos hp] at hQ
    rw [show (((num (l.drop 56) : Nat) : Int) != 0) = true by rw [bne_iff_ne]; omega, br_true]
    exact bad w1 3 (Ext.refl _ _) hQ
  rw [if_neg (by simp [hp])] at hQ
  rw [hp, show (((0 : Nat) : Int) != 0) = false from rfl, br_false]
  refine ⟨fun _ => True, trivial, ?_⟩
  refine qST (s_lh (by omega) (by omega) (by rw [h64]; omega)) ?_
  refine qST (s_hi (by omega) (by rw [h64]; omega)) ?_
  refine number_c (l := sub l 52 56) (by rw [sub_length (by omega)]; omega) (fi ⟨trivial, ?_⟩)
  refine checksum_c (l := l.take 52) (by rw [List.length_take]; omega) fun w2 e2 => fi ⟨trivial, ?_⟩
  have hcr := (crc (l.take 52)).isLt
  rw [wrap_64 (by omega)]
  have e12 : Ext w1 w2 (fun _ => False) := (Ext.refl w1 _).drew_.tr e2
  by_cases hc : num (sub l 52 56) = (crc (l.take 52)).toNat
  case neg =>
    rw [if_pos hc] at hQ
    rw [show (((num (sub l 52 56) : Nat) : Int) != (((crc (l.take 52)).toNat : Nat) : Int)) = true by rw [bne_iff_ne]; omega, br_true]
    exact bad w2 5 e12 hQ
  rw [if_neg (by simp [hc])] at hQ
  rw [hc, bne_self_eq_false, br_false]
  refine ⟨fun _ => True, trivial, ?_⟩
  refine qST (s_lh (by omega) (by omega) (by rw [h64]; omega)) ?_
  refine qST (s_lh (by omega) (by omega) (by rw [h64]; omega)) ?_
  refine qST (s_lh (by omega) (by omega) (by rw [h64]; omega)) ?_
  have n1 : (sub l 4 12).length ≤ 8 := by rw [sub_length (by omega)]; omega
  have n2 : (sub l 44 48).length ≤ 8 := by rw [sub_length (by omega)]; omega
  have n3 : (sub l 48 52).length ≤ 8 := by rw [sub_length (by omega)]; omega
  have k2 := wrap_32 (num_32 (l := l) (i := 44) (j := 48) (by omega) (by omega))
  have k3 := wrap_32 (num_32 (l := l) (i := 48) (j := 52) (by omega) (by omega))
  have e3 : Ext w1 (drew w2) (fun _ => False) := e12.drew_
  have tail : ∀ (tb : Nat) (w' : World), tb = (drew w2).heap.size → At w' tb (hdrC 0 zb 0 0) 121 → Ext (drew w2) w' (fun _ => False) →
      st Try.prog 121 ⟨tb, 0, none⟩ (.agg (hdrC (num (sub l 4 12)) zb (num (sub l 44 48)) (num (sub l 48 52))).toArray) w' fun w3 => True ∧ W.image_DecodeHeader_k8 (mkS l) ⟨rb, 0, none⟩ ⟨tb, 0, none⟩ w3 Q := by
    intro tb w' htb at' e'
    have hlt := a1.lt
    have hs := e3.size
    refine st_g 35 at' (by rw [hdrC_length rfl]; omega) (hdrC_length rfl) (hdrC_one _ _ _ _) fun w3 a3 e4 z3 => ⟨trivial, ?_⟩
    rw [splice_all (by rw [hdrC_length rfl, hdrC_length rfl])] at a3
    refine decodeHeader_k8 h64 (((a1.ext e3 (fun h => h)).ext e' (fun h => h)).ext e4 (by omega)) a3 (by omega) fun w4 e5 => hQ w4 ?_
    have hs1 := e1.size
    exact (((e1.tr e3).tr e').trans e4 (fun _ _ h => h) (fun b hb hx => by omega)).trans e5 (fun _ _ h => h) (fun b hb hx => by rcases hx with hx | hx <;> omega)
  refine ⟨?_, ?_⟩
  · refine number_c (l := sub l 4 12) n1 (fi ⟨trivial, ?_, ?_⟩)
    · refine number_c (l := sub l 44 48) n2 (fi ⟨trivial, ?_, ?_⟩)
      · refine number_c (l := sub l 48 52) n3 (fi ⟨trivial, ?_⟩)
        refine al_i fun tb w3 htb a3 e4 z3 => ⟨trivial, ?_⟩
        rw [hz] at a3
        rw [k2, k3]
        exact tail tb w3 htb a3 e4
      · refine al_i fun tb w3 htb a3 e4 z3 => ⟨trivial, ?_⟩
        rw [hz] at a3
        refine number_c (l := sub l 48 52) n3 (fi ⟨trivial, ?_⟩)
        rw [k2, k3]
        exact tail tb w3 htb a3 e4
    · refine al_i fun tb w3 htb a3 e4 z3 => ⟨trivial, ?_⟩
      rw [hz] at a3
      refine number_c (l := sub l 44 48) n2 (fi ⟨trivial, ?_⟩)
      refine number_c (l := sub l 48 52) n3 (fi ⟨trivial, ?_⟩)
      rw [k2, k3]
      exact tail tb w3 htb a3 e4
  · refine al_i fun tb w3 htb a3 e4 z3 => ⟨trivial, ?_⟩
    rw [hz] at a3
    refine number_c (l := sub l 4 12) n1 (fi ⟨trivial, ?_⟩)
    refine number_c (l := sub l 44 48) n2 (fi ⟨trivial, ?_⟩)
    refine number_c (l := sub l 48 52) n3 (fi ⟨trivial, ?_⟩)
    rw [k2, k3]
    exact tail tb w3 htb a3 e4
end
end Go.Proofs.Ytpinpccamfhofaa.Im

/-
  The header of an image in plain terms: what is encoded is decoded. No program; no condition beyond those stated.
-/
set_option maxRecDepth 100000
namespace Go.Proofs.Ytpinpccamfhofaa.Im
open Go Go.Ev Go.Proofs

theorem num_le (v : Nat) : ∀ n, num (le v n) = v % 256 ^ n
  | 0 => by simp [le, num, Nat.mod_one]
  | n + 1 => by
    rw [le_succ, num_append, num_le v n, le_length, UInt8.toNat_ofNat', show (256 : Nat) ^ (n + 1) = 256 ^ n * 256 from Nat.pow_succ _ _, Nat.mod_mul, Nat.mul_comm (256 ^ n)]
theorem num_le_of {v n : Nat} (h : v < 256 ^ n) : num (le v n) = v := by rw [num_le, Nat.mod_eq_of_lt h]
theorem hdr0_length {g n s : Nat} {bd : List UInt8} (h : bd.length = 32) : (hdr0 g bd n s).length = 52 := by simp [hdr0, le_length, h]
theorem hdr_length {g n s : Nat} {bd : List UInt8} (h : bd.length = 32) : (hdr g bd n s).length = 64 := by
  unfold hdr
  rw [List.length_append, List.length_append, hdr0_length h, le_length, le_length]
/-- The middle of three parts. -/
theorem sub_mid {a b c : List UInt8} {i j : Nat} (hi : a.length = i) (hj : i + b.length = j) : sub (a ++ b ++ c) i j = b := by
  unfold sub
  subst hi hj
  rw [← List.length_append, List.take_left, List.drop_left]
theorem decH_hdr {g n s : Nat} {bd : List UInt8} (hb : bd.length = 32) (hg : g < 18446744073709551616) (hn : n < 4294967296) (hs : s < 4294967296) : decH (hdr g bd n s) = (hdrC g bd n s, 0) := by
  have e0 : hdr g bd n s = mag ++ le g 8 ++ (bd ++ le n 4 ++ le s 4 ++ le (crc (hdr0 g bd n s)).toNat 4 ++ le 0 8) := by simp [hdr, hdr0, mag]
  have e1 : hdr g bd n s = (mag ++ le g 8) ++ bd ++ (le n 4 ++ le s 4 ++ le (crc (hdr0 g bd n s)).toNat 4 ++ le 0 8) := by simp [hdr, hdr0, mag]
  have e2 : hdr g bd n s = (mag ++ le g 8 ++ bd) ++ le n 4 ++ (le s 4 ++ le (crc (hdr0 g bd n s)).toNat 4 ++ le 0 8) := by simp [hdr, hdr0, mag]
  have e3 : hdr g bd n s = (mag ++ le g 8 ++ bd ++ le n 4) ++ le s 4 ++ (le (crc (hdr0 g bd n s)).toNat 4 ++ le 0 8) := by simp [hdr, hdr0, mag]
  have hm : mag.length = 4 := rfl
  have l12 : (mag ++ le g 8).length = 12 := by rw [List.length_append, le_length, hm]
  have l44 : (mag ++ le g 8 ++ bd).length = 44 := by rw [List.length_append, l12, hb]
  have l48 : (mag ++ le g 8 ++ bd ++ le n 4).length = 48 := by rw [List.length_append, l44, le_length]
  have s1 : sub (hdr g bd n s) 4 12 = le g 8 := by rw [e0]; exact sub_mid hm (by rw [le_length])
  have s2 : sub (hdr g bd n s) 12 44 = bd := by rw [e1]; exact sub_mid l12 (by rw [hb])
  have s3 : sub (hdr g bd n s) 44 48 = le n 4 := by rw [e2]; exact sub_mid l44 (by rw [le_length])
  have s4 : sub (hdr g bd n s) 48 52 = le s 4 := by rw [e3]; exact sub_mid l48 (by rw [le_length])
  have s5 : sub (hdr g bd n s) 52 56 = le (crc (hdr0 g bd n s)).toNat 4 := sub_mid (hdr0_length hb) (by rw [le_length])
  have s6 : (hdr g bd n s).drop 56 = le 0 8 := by
    unfold hdr
    exact List.drop_left' (by rw [List.length_append, hdr0_length hb, le_length])
  have s7 : (hdr g bd n s).take 52 = hdr0 g bd n s := by
    unfold hdr
    rw [List.append_assoc]
    exact List.take_left' (hdr0_length hb)
  have s8 : (hdr g bd n s).take 4 = mag := by
    rw [e0, List.append_assoc]
    exact List.take_left' hm
  have hc := (crc (hdr0 g bd n s)).isLt
  unfold decH
  rw [if_neg (by rw [hdr_length hb]; omega), if_neg (by rw [s8]; simp), if_neg (by rw [s6, num_le_of (by omega)]; simp), if_neg (by rw [s5, s7, num_le_of (by omega)]; simp), s1, s2, s3, s4, num_le_of (by omega), num_le_of (by omega), num_le_of (by omega)]
end Go.Proofs.Ytpinpccamfhofaa.Im

/-
  An image with its pages: what Encode returns. No condition beyond those stated.
-/
set_option maxRecDepth 100000
namespace Go.Proofs.Ytpinpccamfhofaa.Im
open Go Go.Ev Go.Proofs

abbrev Pg := Int × List UInt8
def pgC (p : Pg) : List Value := [.int .i64 p.1, .string (mkS p.2)]
theorem pgC_length (p : Pg) : (pgC p).length = 2 := rfl
theorem pgC_one (p : Pg) : ∀ v ∈ pgC p, one v = true := by
  intro v hv
  simp only [pgC, List.mem_cons, List.not_mem_nil, or_false] at hv
  rcases hv with rfl | rfl <;> rfl
def imgC (bd : List UInt8) (g : Nat) (pa : Option Addr) (n c : Nat) : List Value := by_ bd ++ [.int .u64 (g : Int), .slice pa n c]
theorem imgC_length {bd : List UInt8} {g : Nat} {pa : Option Addr} {n c : Nat} (h : bd.length = 32) : (imgC bd g pa n c).length = 34 := by simp [imgC, by_length, h]
theorem imgC_32 {bd : List UInt8} {g : Nat} {pa : Option Addr} {n c : Nat} (h : bd.length = 32) : (imgC bd g pa n c)[32]? = some (.int .u64 (g : Int)) := by
  unfold imgC
  rw [List.getElem?_append_right (by rw [by_length]; omega), by_length, h]
  rfl
theorem imgC_33 {bd : List UInt8} {g : Nat} {pa : Option Addr} {n c : Nat} (h : bd.length = 32) : (imgC bd g pa n c)[33]? = some (.slice pa n c) := by
  unfold imgC
  rw [List.getElem?_append_right (by rw [by_length]; omega), by_length, h]
  rfl
theorem imgC_one (bd : List UInt8) (g : Nat) (pa : Option Addr) (n c : Nat) : ∀ v ∈ imgC bd g pa n c, one v = true := by
  intro v hv
  unfold imgC at hv
  rcases List.mem_append.1 hv with hv | hv
  · exact by_one _ _ hv
  · simp only [List.mem_cons, List.not_mem_nil, or_false] at hv
    rcases hv with rfl | rfl <;> rfl

/-- Numbers from 0 to 2^31 - 1, each above the one ahead of it. -/
def incr : Int → List Pg → Bool
  | _, [] => true
  | m, p :: r => decide (0 ≤ p.1) && decide (p.1 ≤ 2147483647) && decide (m < p.1) && incr p.1 r
theorem incr_cons (m : Int) (p : Pg) (r : List Pg) : incr m (p :: r) = (decide (0 ≤ p.1) && decide (p.1 ≤ 2147483647) && decide (m < p.1) && incr p.1 r) := rfl
def validP (ps : List Pg) : Bool := decide (ps.length ≤ 512) && incr (-1) ps
def OkP (ps : List Pg) : Prop := validP ps = true ∧ ∀ p ∈ ps, p.2.length = 256
def prev (ps : List Pg) : Nat → Int
  | 0 => -1
  | i + 1 => (ps.getD i (0, [])).1
theorem incr_mem : ∀ {ps : List Pg} {m : Int}, incr m ps = true → ∀ p ∈ ps, 0 ≤ p.1 ∧ p.1 ≤ 2147483647
  | p :: r, m, h, q, hq => by
    simp only [incr, Bool.and_eq_true, decide_eq_true_eq] at h
    rcases List.mem_cons.1 hq with rfl | hq
    · exact ⟨h.1.1.1, h.1.1.2⟩
    · exact incr_mem h.2 q hq
def pgB (p : Pg) : List UInt8 := le p.1.toNat 4 ++ le (Pz.comp p.2).length 2 ++ Pz.comp p.2
def bodyOf (ps : List Pg) : List UInt8 := ps.flatMap pgB
def padn (n : Nat) : Nat := (64 - n % 64) % 64
def pad (l : List UInt8) : List UInt8 := l ++ List.replicate (padn l.length) 0
def chunks (k : Nat) (l : List UInt8) : List (List UInt8) := (List.range k).map fun j => (l.drop (64 * j)).take 64
def cuts (l : List UInt8) : List (List UInt8) := chunks ((pad l).length / 64) (pad l)
def secs (g : Nat) (bd : List UInt8) (ps : List Pg) : List (List UInt8) := hdr g bd (bodyOf ps).length (crc (bodyOf ps)).toNat :: cuts (bodyOf ps)
def strs (ss : List (List UInt8)) : List Value := ss.map fun s => .string (mkS s)
theorem strs_length (ss : List (List UInt8)) : (strs ss).length = ss.length := by simp [strs]
theorem strs_one (ss : List (List UInt8)) : ∀ v ∈ strs ss, one v = true := by
  intro v hv
  simp only [strs, List.mem_map] at hv
  obtain ⟨s, _, rfl⟩ := hv
  rfl
theorem chunks_length (k : Nat) (l : List UInt8) : (chunks k l).length = k := by simp [chunks]
theorem chunks_succ (k : Nat) (l : List UInt8) : chunks (k + 1) l = chunks k l ++ [(l.drop (64 * k)).take 64] := by simp [chunks, List.range_succ]
theorem pad_length (l : List UInt8) : (pad l).length = l.length + padn l.length := by simp [pad]
theorem pad_mod (l : List UInt8) : (pad l).length % 64 = 0 := by
  rw [pad_length]
  unfold padn
  omega
theorem pgB_le {p : Pg} (h : p.2.length = 256) : (pgB p).length ≤ 263 := by
  have := (Pz.comp_length h).2
  unfold pgB
  simp only [List.length_append, le_length]
  omega
theorem bodyOf_le : ∀ {ps : List Pg}, (∀ p ∈ ps, p.2.length = 256) → (bodyOf ps).length ≤ 263 * ps.length
  | [], _ => by simp [bodyOf]
  | p :: r, h => by
    have h1 := pgB_le (h p (.head _))
    have h2 := bodyOf_le (ps := r) fun q hq => h q (.tail _ hq)
    unfold bodyOf at h2 ⊢
    rw [List.flatMap_cons, List.length_append, List.length_cons]
    omega

section
variable {U w : World} {Q : Value → World → Prop}

theorem validPages_c {pa : Option Addr} {n c : Nat} {ps : List Pg} (h : Reads w pa (ps.flatMap pgC)) (hn : ps.length = n) (hQ : ∀ w', Ext w w' (fun _ => False) → Q (.bool (validP ps)) w') : CallE Try.prog 70 #[.slice pa n c] w Q := by
  apply C.image_validPages
  unfold W.image_validPages
  subst hn
  unfold validP at hQ
  by_cases h5 : ps.length ≤ 512
  case neg =>
    rw [decide_eq_false h5, Bool.false_and] at hQ
    rw [decide_eq_true (by omega), br_true]
    exact hQ w (Ext.refl _ _)
  rw [decide_eq_true h5, Bool.true_and] at hQ
  rw [decide_eq_false (by omega), br_false]
  refine LoopW.nat ps.length (fun i x w' => x = ((i : Int), ()) ∧ Ext w w' (fun _ => False) ∧ incr (-1) ps = incr (prev ps i) (ps.drop i)) ⟨rfl, Ext.refl _ _, rfl⟩ ?_
  rintro i x w1 next hi ⟨rfl, e1, hv⟩ hnext
  dsimp only
  by_cases hlt : i < ps.length
  case neg =>
    rw [decide_eq_false (by omega), br_false]
    obtain rfl : i = ps.length := by omega
    rw [List.drop_length] at hv
    have := hQ w1 e1
    rw [hv] at this
    exact this
  rw [decide_eq_true (by omega), br_true]
  have hr := h.ext e1 (fun _ _ _ h => h)
  have hl0 : 0 < (ps.flatMap pgC).length := by rw [flat_length pgC_length]; omega
  obtain ⟨p, rfl⟩ := hr.some_ hl0
  refine ixs i 2 85 hlt ?_
  refine rdG i hlt hr pgC_length (by omega) (fg ?_)
  refine al_st 2 (pgC_length _) (pgC_one _) fun vb w2 hvb a2 e2 z2 => ?_
  simp only [add_mk, Nat.zero_add]
  have hv' : ∀ b : Bool, (decide (0 ≤ ps[i].1) && decide (ps[i].1 ≤ 2147483647) && decide (prev ps i < ps[i].1)) = b → (b = false → incr (-1) ps = false) ∧ (b = true → incr (-1) ps = incr (prev ps (i + 1)) (ps.drop (i + 1))) := by
    intro b hb
    rw [List.drop_eq_getElem_cons hlt, incr_cons, hb] at hv
    constructor
    · rintro rfl; rw [hv]; rfl
    · rintro rfl
      rw [hv, Bool.true_and]
      have : prev ps (i + 1) = ps[i].1 := by simp [prev, List.getD_eq_getElem?_getD, List.getElem?_eq_getElem hlt]
      rw [this]
  have bad : ∀ w', Ext w1 w' (fun _ => False) → (decide (0 ≤ ps[i].1) && decide (ps[i].1 ≤ 2147483647) && decide (prev ps i < ps[i].1)) = false → Q (.bool false) w' := by
    intro w' e' hb
    have := hQ w' (e1.tr e')
    rw [(hv' _ hb).1 rfl] at this
    exact this
  refine ldI a2 rfl ?_
  by_cases c1 : ps[i].1 < 0
  · rw [decide_eq_true c1, br_true]
    exact bad w2 e2 (by rw [decide_eq_false (by omega)]; rfl)
  rw [decide_eq_false c1, br_false]
  refine ldI a2 rfl ?_
  by_cases c2 : ps[i].1 > 2147483647
  · rw [decide_eq_true c2, br_true]
    exact bad w2 e2 (by rw [decide_eq_true (by omega), decide_eq_false (by omega)]; rfl)
  rw [decide_eq_false c2, br_false]
  unfold dr
  dsimp only
  have e2' := e2.drew_
  by_cases c3 : i = 0
  · subst c3
    rw [decide_eq_false (by omega), br_false]
    refine hnext hlt _ _ ⟨rfl, e1.tr e2', (hv' _ ?_).2 rfl⟩
    rw [decide_eq_true (by omega), decide_eq_true (by omega), decide_eq_true (by show -1 < _; omega)]
    rfl
  rw [decide_eq_true (by omega), br_true]
  refine ldI (w := drew w2) a2.drew_ rfl ?_
  obtain ⟨k, rfl⟩ : ∃ k, i = k + 1 := ⟨i - 1, by omega⟩
  rw [show IntKind.wrap .i64 (((k + 1 : Nat) : Int) - 1) = ((k : Nat) : Int) by rw [wrap_i64 (by omega) (by omega)]; omega]
  refine ixs k 2 85 (by omega) ?_
  refine rdF (o := 0) k (by omega) (hr.ext e2' (fun _ _ _ h => h)) pgC_length (by omega) rfl (fi ?_)
  have hpk : prev ps (k + 1) = (ps[k]'(by omega)).1 := by simp [prev, List.getD_eq_getElem?_getD, List.getElem?_eq_getElem (show k < ps.length by omega)]
  by_cases c4 : ps[k + 1].1 ≤ (ps[k]'(by omega)).1
  · rw [decide_eq_true c4, br_true]
    exact bad _ e2' (by rw [hpk, decide_eq_false (p := (ps[k]'(by omega)).1 < ps[k + 1].1) (by omega), Bool.and_false])
  rw [decide_eq_false c4, br_false, inc_nat (by omega)]
  refine hnext hlt _ _ ⟨rfl, e1.tr e2', (hv' _ ?_).2 rfl⟩
  rw [hpk, decide_eq_true (by omega), decide_eq_true (by omega), decide_eq_true (by omega)]
  rfl
end
end Go.Proofs.Ytpinpccamfhofaa.Im

/-
  An image with its pages: what Encode returns, its second half. No condition beyond those stated.
-/
set_option maxRecDepth 100000
namespace Go.Proofs.Ytpinpccamfhofaa.Im
open Go Go.Ev Go.Proofs

theorem by_rep (l : List UInt8) (k : Nat) : by_ (l ++ List.replicate k 0) ++ by_ [0] = by_ (l ++ List.replicate (k + 1) 0) := by
  rw [← by_append, List.append_assoc, ← List.replicate_succ']
theorem splice_end {cs : List Value} {v x : Value} {o : Nat} {r : List Value} (h : cs.length = o) : splice (cs ++ x :: r) o [v] = cs ++ v :: r := by
  subst h
  show (cs ++ x :: r).set cs.length v = _
  rw [List.set_append_right _ _ (Nat.le_refl _), Nat.sub_self]
  rfl
theorem buildH {g n s : Nat} {bd : List UInt8} (hbd : bd.length = 32) : ∀ w, (Instr.build 121 #[(0, .int .u64 (g : Int)), (1, .agg (by_ bd).toArray), (2, .int .u32 (n : Int)), (3, .int .u32 (s : Int))]).run Try.prog w = .ok (.agg (hdrC g bd n s).toArray) w := by
  refine bld_run (structFs Try.prog 121) #[(0, 1), (1, 32), (33, 1), (34, 1)] (zeroT Try.prog 121) (hdrC 0 zb 0 0) (by kernel_rfl) (by kernel_rfl) (by kernel_rfl) (by kernel_rfl) ?_
  have l1 : ∀ g' n' s', (hdrC g' zb n' s').length = 35 := fun _ _ _ => hdrC_length rfl
  have l2 : ∀ g' n' s', (hdrC g' bd n' s').length = 35 := fun _ _ _ => hdrC_length hbd
  rw [fill_cons 0 [.int .u64 (g : Int)] rfl rfl (by rw [l1]; show 0 + 1 ≤ 35; omega)]
  rw [show splice (hdrC 0 zb 0 0) 0 [.int .u64 (g : Int)] = hdrC g zb 0 0 from rfl]
  rw [fill_cons 1 (by_ bd) (by rw [by_length, hbd]; rfl) rfl (by rw [l1, by_length, hbd]; omega), splice_hdr hbd]
  have s3 : splice (hdrC g bd 0 0) 33 [.int .u32 (n : Int)] = hdrC g bd n 0 := by
    unfold hdrC
    show splice ((.int .u64 (g : Int) :: by_ bd) ++ .int .u32 _ :: [.int .u32 _]) 33 _ = _
    rw [splice_end (by rw [List.length_cons, by_length, hbd])]
    rfl
  rw [fill_cons 33 [.int .u32 (n : Int)] rfl rfl (by rw [l2]; show 33 + 1 ≤ 35; omega), s3]
  have s4 : splice (hdrC g bd n 0) 34 [.int .u32 (s : Int)] = hdrC g bd n s := by
    unfold hdrC
    have e : ∀ x : Nat, (.int .u64 (g : Int) :: (by_ bd ++ [.int .u32 (n : Int), .int .u32 (x : Int)]) : List Value) = (.int .u64 (g : Int) :: (by_ bd ++ [.int .u32 (n : Int)])) ++ .int .u32 (x : Int) :: [] := by intro x; simp
    rw [e, splice_end (by rw [List.length_cons, List.length_append, by_length, hbd]; rfl), ← e]
  rw [fill_cons 34 [.int .u32 (s : Int)] rfl rfl (by rw [l2]; show 34 + 1 ≤ 35; omega), s4]
  rfl

section
variable {U w : World} {Q : Value → World → Prop}

/-- The sectors of a body whose length is a multiple of 64. -/
theorem encode_k20 {a : Option Addr} {n c sb : Nat} {l h : List UInt8} (b : Bf U w a n c l) (hn : n = l.length) (hm : l.length % 64 = 0) (hl : l.length ≤ 500000) (s0 : Sl w 9 1 (some ⟨sb, 0, none⟩) 1 1 (strs [h])) (hsb : U.heap.size ≤ sb) (hne : ∀ x, a = some ⟨x, 0, none⟩ → x ≠ sb)
    (hQ : ∀ sb c w', Sl w' 9 1 (some ⟨sb, 0, none⟩) (l.length / 64 + 1) c (strs (h :: chunks (l.length / 64) l)) → U.heap.size ≤ sb → Ext U w' (fun _ => False) → Q (.tuple #[.slice (some ⟨sb, 0, none⟩) (l.length / 64 + 1) c, .int .i64 0]) w') :
    W.image_Encode_k20 a n c (some ⟨sb, 0, none⟩) 1 1 w Q := by
  unfold W.image_Encode_k20
  subst hn
  refine LoopW.nat (l.length / 64) (fun j x w' => ∃ sb' c', x = ((some ⟨sb', 0, none⟩, j + 1, c'), ((64 * j : Nat) : Int), ()) ∧ Sl w' 9 1 (some ⟨sb', 0, none⟩) (j + 1) c' (strs (h :: chunks j l)) ∧ U.heap.size ≤ sb' ∧ (∀ x, a = some ⟨x, 0, none⟩ → x ≠ sb') ∧ Bf U w' a l.length c l)
    ⟨sb, 1, rfl, s0, hsb, hne, b⟩ ?_
  rintro j x w1 next hj ⟨sb', c', rfl, s1, f1, g1, b1⟩ hnext
  dsimp only
  by_cases hlt : j < l.length / 64
  case neg =>
    rw [decide_eq_false (by omega), br_false]
    obtain rfl : j = l.length / 64 := by omega
    exact hQ sb' c' w1 s1 f1 b1.e
  rw [decide_eq_true (by omega), br_true]
  rw [show IntKind.wrap .i64 (((64 * j : Nat) : Int) + 64) = ((64 * (j + 1) : Nat) : Int) by rw [wrap_i64 (by omega) (by omega)]; omega]
  obtain ⟨bb, rfl⟩ := b1.s.one_block (by omega)
  obtain ⟨sp, ab, hxl, _, hnc⟩ := b1.s.at_
  refine qL (sl_lh 5 1 (by omega) (by omega) (by omega)) ?_
  have hrd : Reads w1 (some ((⟨bb, 0, none⟩ : Addr).add (64 * j * 1))) (by_ ((l.drop (64 * j)).take 64)) := by
    have := Reads.sub (64 * j) 64 b1.s.reads
    rw [Nat.mul_one]
    simpa [by_, List.map_drop, List.map_take] using this
  refine bs_str hrd (by rw [List.length_take, List.length_drop]; omega) (ft ?_)
  refine al_i fun tb w2 htb a2 e2 z2 => ?_
  refine ap_i 9 1 (vs := strs [(l.drop (64 * j)).take 64]) (s1.ext e2 (fun _ _ h => h)) (.inr ⟨_, rfl, fun k hk => by rw [add_mk, a2.cell, Nat.zero_add]; rfl⟩) rfl (strs_one _) (by omega) fun a3 c3 w3 s3 f3 g3 e3 => fs ?_
  have ha3 := g3 rfl
  obtain ⟨sb3, sp3, rfl, _⟩ := s3.isome ha3
  have hb2 := (b1.same e2)
  have hbb : bb < w1.heap.size := ab.lt
  refine hnext hlt _ _ ⟨sb3, c3, rfl, ?_, ?_, ?_, ?_⟩
  · have : strs (h :: chunks (j + 1) l) = strs (h :: chunks j l) ++ strs [(l.drop (64 * j)).take 64] := by rw [chunks_succ]; simp [strs]
    rw [this]
    exact s3
  · rcases f3 sb3 rfl with hx | hx
    · simp only [Option.some.injEq, Addr.mk.injEq, and_true] at hx; omega
    · have := b1.e.size; omega
  · intro x hx
    rcases f3 sb3 rfl with hy | hy
    · have := g1 x hx
      simp only [Option.some.injEq, Addr.mk.injEq, and_true] at hy; omega
    · simp only [Option.some.injEq, Addr.mk.injEq, and_true] at hx; omega
  · refine ⟨hb2.s.ext e3 (fun x hx hy => ?_), b.f, hb2.e.trans e3 (fun _ _ h => h) (fun x hx hy => ?_)⟩
    · have := g1 x hx
      simp only [Option.some.injEq, Addr.mk.injEq, and_true] at hy; omega
    · simp only [Option.some.injEq, Addr.mk.injEq, and_true] at hy; omega

theorem encode_k17 {a : Option Addr} {n c hb g len s : Nat} {bd l : List UInt8} (hh : At w hb (hdrC g bd len s) 121) (hbd : bd.length = 32) (hlen : len < 4294967296) (hs : s < 4294967296) (b : Bf U w a n c l) (hn : n = l.length) (hl : l.length ≤ 400000)
    (hQ : ∀ sb c w', Sl w' 9 1 (some ⟨sb, 0, none⟩) ((hdr g bd len s :: cuts l).length) c (strs (hdr g bd len s :: cuts l)) → U.heap.size ≤ sb → Ext U w' (fun _ => False) → Q (.tuple #[.slice (some ⟨sb, 0, none⟩) ((hdr g bd len s :: cuts l).length) c, .int .i64 0]) w') :
    W.image_Encode_k17 a n c ⟨hb, 0, none⟩ w Q := by
  unfold W.image_Encode_k17
  refine ld_w hh (fg ?_) (hs := by rw [hdrC_length hbd]; kernel_rfl)
  refine encodeHeader_c hbd hlen hs fun w1 e1 => ft ?_
  refine al_i fun sb w2 hsb a2 e2 z2 => ?_
  have b2 := (b.same e1).same e2
  have ss2 : Sl w2 9 1 (some ⟨sb, 0, none⟩) 1 1 (strs [hdr g bd len s]) := Sl.new a2 rfl
  have hU : U.heap.size ≤ sb := by have := (b.same e1).e.size; omega
  have hne : ∀ x, a = some ⟨x, 0, none⟩ → x ≠ sb := by
    intro x hx
    subst hx
    obtain ⟨sp, ab, _⟩ := (b.same e1).s.at_
    have := ab.lt
    omega
  have hpd : padn l.length < 64 := Nat.mod_lt _ (by omega)
  have hpm := pad_mod l
  rw [pad_length] at hpm
  subst hn
  refine LoopW.nat (padn l.length) (fun j x w' => ∃ a' c', x = ((a', l.length + j, c'), ()) ∧ Bf U w' a' (l.length + j) c' (l ++ List.replicate j 0) ∧ Sl w' 9 1 (some ⟨sb, 0, none⟩) 1 1 (strs [hdr g bd len s]) ∧ (∀ x, a' = some ⟨x, 0, none⟩ → x ≠ sb))
    ⟨a, c, rfl, by simpa using b2, ss2, hne⟩ ?_
  rintro j x w3 next hj ⟨a3, c3, rfl, b3, s3, g3⟩ hnext
  dsimp only
  by_cases hlt : j < padn l.length
  case neg =>
    obtain rfl : j = padn l.length := by omega
    rw [show ((Int.tmod (((l.length + padn l.length : Nat)) : Int) 64 : Int) != 0) = false by
      rw [show Int.tmod (((l.length + padn l.length : Nat)) : Int) 64 = (((l.length + padn l.length) % 64 : Nat) : Int) from rfl, hpm]; rfl, br_false]
    have e64 : (l ++ List.replicate (padn l.length) 0).length = l.length + padn l.length := by simp
    refine encode_k20 (l := pad l) (h := hdr g bd len s) b3 (by rw [pad_length]) (by rw [pad_length]; exact hpm) (by rw [pad_length]; omega) s3 hU g3 fun sb' c' w' s' f' e' => ?_
    have hcl : (hdr g bd len s :: cuts l).length = (pad l).length / 64 + 1 := by unfold cuts; rw [List.length_cons, chunks_length]
    have := hQ sb' c' w'
    rw [hcl] at this
    exact this s' f' e'
  have hnz : (l.length + j) % 64 ≠ 0 := by unfold padn at hlt; omega
  rw [show ((Int.tmod (((l.length + j : Nat)) : Int) 64 : Int) != 0) = true by
      rw [bne_iff_ne, show Int.tmod (((l.length + j : Nat)) : Int) 64 = (((l.length + j) % 64 : Nat) : Int) from rfl]; omega, br_true]
  refine al_i fun tb w4 htb a4 e4 z4 => ?_
  have b4 := b3.same e4
  refine ap_i 5 1 (vs := by_ [0]) b4.s (.inr ⟨_, rfl, fun k hk => by rw [add_mk, a4.cell, Nat.zero_add]; rfl⟩) rfl (by_one _) (by omega) fun a5 c5 w5 s5 f5 g5 e5 => fs ?_
  have b5 := b4.step s5 f5 e5
  rw [List.append_assoc, ← List.replicate_succ'] at b5
  have hsl : sb < w4.heap.size := by
    obtain ⟨sp, as_, _⟩ := s3.at_
    have h1 := as_.lt
    have h2 := e4.size
    omega
  refine hnext hlt _ _ ⟨a5, c5, rfl, b5, (s3.ext e4 (fun _ _ h => h)).ext e5 (fun x hx hy => ?_), fun x hx => ?_⟩
  · simp only [Option.some.injEq, Addr.mk.injEq, and_true] at hx
    exact g3 x hy hx.symm
  · rcases f5 x hx with hy | hy
    · exact g3 x hy
    · omega

theorem encode_k16 {a pa : Option Addr} {n c ib g pn pc : Nat} {bd l : List UInt8} (hi : At w ib (imgC bd g pa pn pc) 41) (hbd : bd.length = 32) (b : Bf U w a n c l) (hn : n = l.length) (hl : l.length ≤ 400000)
    (hQ : ∀ sb c w', Sl w' 9 1 (some ⟨sb, 0, none⟩) ((hdr g bd l.length (crc l).toNat :: cuts l).length) c (strs (hdr g bd l.length (crc l).toNat :: cuts l)) → U.heap.size ≤ sb → Ext U w' (fun _ => False) → Q (.tuple #[.slice (some ⟨sb, 0, none⟩) ((hdr g bd l.length (crc l).toNat :: cuts l).length) c, .int .i64 0]) w') :
    W.image_Encode_k16 ⟨ib, 0, none⟩ a n c w Q := by
  unfold W.image_Encode_k16
  simp only [add_mk, Nat.zero_add]
  subst hn
  have hcr := (crc l).isLt
  refine ⟨fun w' => At w' ib (imgC bd g pa pn pc) 41, hi.drew_, ?_⟩
  refine ldS_i (fun _ h => h) (imgC_32 hbd) (fi ?_)
  refine ldS_cs (vs := by_ bd) (fun w' h j hj => ?_) (fg ?_) (hs := by rw [by_length, hbd]; kernel_rfl)
  · rw [add_mk, Nat.zero_add, h.cell]
    unfold imgC
    rw [List.getElem?_append_left hj]
  have b0 : Bf U (drew w) a l.length c l := b.same ((Ext.refl w _).drew_)
  have hz : (zeroT Try.prog 121).cells.toList = hdrC 0 zb 0 0 := by kernel_rfl
  rw [wrap_32 (by omega)]
  have tail : ∀ (hb : Nat) (w1 : World), At w1 hb (hdrC 0 zb 0 0) 121 → At w1 ib (imgC bd g pa pn pc) 41 → ib ≠ hb → Bf U w1 a l.length c l → U.heap.size ≤ hb → (∀ x, a = some ⟨x, 0, none⟩ → x ≠ hb) →
      st Try.prog 121 ⟨hb, 0, none⟩ (.agg (hdrC g bd l.length (crc l).toNat).toArray) w1 fun w2 => At w2 ib (imgC bd g pa pn pc) 41 ∧ W.image_Encode_k17 a l.length c ⟨hb, 0, none⟩ w2 Q := by
    intro hb w1 ah ai hne b1 hU hx
    refine st_w 35 ah (hdrC_length rfl) (hdrC_length hbd) (hdrC_one _ _ _ _) fun w2 a2 e2 z2 => ⟨ai.ext e2 hne, ?_⟩
    refine encode_k17 a2 hbd (by omega) hcr ⟨b1.s.ext e2 hx, b1.f, b1.e.trans e2 (fun _ _ h => h) (fun x hx hy => by omega)⟩ rfl hl hQ
  have fresh : ∀ (w1 w2 : World) (hb : Nat), At w1 ib (imgC bd g pa pn pc) 41 → Bf U w1 a l.length c l → hb = w1.heap.size → Ext w1 w2 (fun _ => False) → ib ≠ hb ∧ U.heap.size ≤ hb ∧ (∀ x, a = some ⟨x, 0, none⟩ → x ≠ hb) := by
    intro w1 w2 hb h1 h2 h3 h4
    have l1 := h1.lt
    have l2 := h2.e.size
    refine ⟨by omega, by omega, fun x hx => ?_⟩
    subst hx
    obtain ⟨sp, ab, _⟩ := h2.s.at_
    have := ab.lt
    omega
  refine ⟨?_, ?_⟩
  · refine slT b0.s rfl ⟨hi.drew_, ?_, ?_⟩
    · refine checksum_c (by omega) fun w1 e1 => fi ⟨hi.drew_.ext e1 (fun h => h), ?_⟩
      refine rqS_r (buildH hbd) (fg ?_)
      refine al_i fun hb w2 hhb a2 e2 z2 => ?_
      rw [hz] at a2
      obtain ⟨f1, f2, f3⟩ := fresh w1 w2 hb (hi.drew_.ext e1 (fun h => h)) (b0.same e1) hhb e2
      have hi2 := (hi.drew_.ext e1 (fun h => h)).ext e2 (fun h => h)
      exact ⟨hi2, tail hb w2 a2 hi2 f1 ((b0.same e1).same e2) f2 f3⟩
    · refine al_i fun hb w2 hhb a2 e2 z2 => ?_
      rw [hz] at a2
      obtain ⟨f1, f2, f3⟩ := fresh (drew w) w2 hb hi.drew_ b0 hhb e2
      have hi2 := hi.drew_.ext e2 (fun h => h)
      refine ⟨hi2, ?_⟩
      refine checksum_c (by omega) fun w1 e1 => fi ⟨hi2.ext e1 (fun h => h), ?_⟩
      refine rqS_r (buildH hbd) (fg ?_)
      exact tail hb w1 (a2.ext e1 (fun h => h)) (hi2.ext e1 (fun h => h)) f1 ((b0.same e2).same e1) f2 f3
  · refine al_i fun hb w2 hhb a2 e2 z2 => ?_
    rw [hz] at a2
    obtain ⟨f1, f2, f3⟩ := fresh (drew w) w2 hb hi.drew_ b0 hhb e2
    have hi2 := hi.drew_.ext e2 (fun h => h)
    refine ⟨hi2, ?_⟩
    refine slT (b0.same e2).s rfl ⟨hi2, ?_⟩
    refine checksum_c (by omega) fun w1 e1 => fi ⟨hi2.ext e1 (fun h => h), ?_⟩
    refine rqS_r (buildH hbd) (fg ?_)
    exact tail hb w1 (a2.ext e1 (fun h => h)) (hi2.ext e1 (fun h => h)) f1 ((b0.same e2).same e1) f2 f3

theorem bodyOf_snoc (ps : List Pg) (p : Pg) : bodyOf (ps ++ [p]) = bodyOf ps ++ pgB p := by simp [bodyOf]

/-- Encode, of an image whose pages are ps. -/
theorem encode_c {bd : List UInt8} {g : Nat} {pa : Option Addr} {n c : Nat} {ps : List Pg} (hbd : bd.length = 32) (h : Reads w pa (ps.flatMap pgC)) (hn : ps.length = n)
    (h0 : ¬ OkP ps → ∀ w', Ext w w' (fun _ => False) → Q (.tuple #[.slice none 0 0, .int .i64 1]) w')
    (h1 : OkP ps → ∀ sb c' w', Sl w' 9 1 (some ⟨sb, 0, none⟩) (secs g bd ps).length c' (strs (secs g bd ps)) → w.heap.size ≤ sb → Ext w w' (fun _ => False) → Q (.tuple #[.slice (some ⟨sb, 0, none⟩) (secs g bd ps).length c', .int .i64 0]) w') :
    CallE Try.prog 25 #[.agg (imgC bd g pa n c).toArray] w Q := by
  apply C.image_Encode
  unfold W.image_Encode
  subst hn
  refine al_i fun ib w1 hib a1 e1 z1 => ?_
  change At w1 ib (imgC bd g pa ps.length c) 41 at a1
  simp only [add_mk, Nat.zero_add]
  refine ldL a1 (imgC_33 hbd) ?_
  have hr1 := h.ext e1 (fun _ _ _ h => h)
  refine validPages_c hr1 rfl fun w2 e2 => fb ?_
  by_cases hv : validP ps = true
  case neg =>
    rw [Bool.eq_false_iff.2 hv, Bool.not_false, br_true]
    exact h0 (fun hc => hv hc.1) w2 (e1.tr e2)
  rw [hv, Bool.not_true, br_false]
  have a2 := a1.ext e2 (fun h => h)
  refine ldL a2 (imgC_33 hbd) ?_
  have hr2 := hr1.ext e2 (fun _ _ _ h => h)
  have hv' := hv
  unfold validP at hv'
  simp only [Bool.and_eq_true, decide_eq_true_eq] at hv'
  obtain ⟨hv1, hv2⟩ := hv'
  have hvm := incr_mem hv2
  refine LoopW.nat ps.length (fun i x w' => ∃ a' c', x = ((a', (bodyOf (ps.take i)).length, c'), (i : Int), ()) ∧ Bf w2 w' a' (bodyOf (ps.take i)).length c' (bodyOf (ps.take i)) ∧ ∀ p ∈ ps.take i, p.2.length = 256)
    ⟨none, 0, by simp [bodyOf], ⟨.inl ⟨rfl, by simp [bodyOf], rfl, by simp [bodyOf, by_]⟩, (fun b hb => by cases hb), Ext.refl _ _⟩, by simp⟩ ?_
  rintro i x w3 next hi ⟨a3, c3, rfl, b3, hd3⟩ hnext
  dsimp only
  have hle := bodyOf_le hd3
  have htl : (ps.take i).length ≤ 512 := by rw [List.length_take]; omega
  by_cases hlt : i < ps.length
  case neg =>
    rw [decide_eq_false (by omega), br_false]
    obtain rfl : i = ps.length := by omega
    rw [List.take_length] at *
    refine encode_k16 (a2.ext b3.e (fun h => h)) hbd b3 rfl (by omega) fun sb c' w' s' f' e' => ?_
    have hs1 := e1.size
    have hs2 := e2.size
    exact h1 ⟨hv, hd3⟩ sb c' w' s' (by omega) ((e1.tr e2).tr e')
  rw [decide_eq_true (by omega), br_true]
  have hr3 := hr2.ext b3.e (fun _ _ _ h => h)
  have hl0 : 0 < (ps.flatMap pgC).length := by rw [flat_length pgC_length]; omega
  obtain ⟨p, rfl⟩ := hr3.some_ hl0
  refine ixs i 2 85 hlt ?_
  refine rdG i hlt hr3 pgC_length (by omega) (fg ?_)
  refine al_st 2 (pgC_length _) (pgC_one _) fun vb w4 hvb a4 e4 z4 => ?_
  simp only [add_mk, Nat.zero_add]
  have b4 := b3.same e4
  refine ldT a4 rfl ?_
  rw [mkS_size]
  have bad : ¬ (ps[i].2.length = 256) → ∀ w', Ext w4 w' (fun _ => False) → Q (.tuple #[.slice none 0 0, .int .i64 1]) w' := by
    intro hne w' e'
    exact h0 (fun hc => hne (hc.2 _ (List.getElem_mem hlt))) w' (((e1.tr e2).tr b4.e).tr e')
  by_cases h256 : ps[i].2.length = 256
  case neg =>
    rw [show ((((ps[i].2.length : Nat) : Int) : Int) != 256) = true by rw [bne_iff_ne]; omega, br_true]
    exact bad h256 w4 (Ext.refl _ _)
  rw [show ((((ps[i].2.length : Nat) : Int) : Int) != 256) = false by rw [h256]; rfl, br_false]
  refine ldT a4 rfl ?_
  refine Pz.compress_c h256 fun w5 e5 => ⟨_, _, rfl, ?_⟩
  rw [show ((0 : Int) != 0) = false from rfl, br_false]
  refine ldI (a4.ext e5 (fun h => h)) rfl ?_
  have b5 := b4.same e5
  obtain ⟨hp0, hp1⟩ := hvm _ (List.getElem_mem hlt)
  have hcl := Pz.comp_length h256
  rw [mkS_size, show IntKind.wrap .u64 ps[i].1 = ((ps[i].1.toNat : Nat) : Int) by rw [wrap_u64 (by omega) (by omega)]; omega, wrap_64 (n := (Pz.comp ps[i].2).length) (by omega)]
  refine appendNumber_c (v := ps[i].1.toNat) (k := 4) b5.s (by omega) (by omega) fun a6 c6 w6 s6 f6 g6 e6 => fs ?_
  have b6 := b5.step s6 f6 e6
  refine appendNumber_c (v := (Pz.comp ps[i].2).length) (k := 2) b6.s (by omega) (by omega) fun a7 c7 w7 s7 f7 g7 e7 => fs ?_
  have b7 := b6.step s7 f7 e7
  refine ap_s (l := Pz.comp ps[i].2) 5 b7.s (by omega) fun a8 c8 w8 s8 f8 g8 e8 => fs ?_
  have b8 := b7.step s8 f8 e8
  have htk : ps.take (i + 1) = ps.take i ++ [ps[i]] := by rw [List.take_append_getElem hlt]
  have hbo : bodyOf (ps.take (i + 1)) = bodyOf (ps.take i) ++ le ps[i].1.toNat 4 ++ le (Pz.comp ps[i].2).length 2 ++ Pz.comp ps[i].2 := by rw [htk, bodyOf_snoc]; simp [pgB]
  have hbl : (bodyOf (ps.take (i + 1))).length = (bodyOf (ps.take i)).length + 4 + 2 + (Pz.comp ps[i].2).length := by rw [hbo]; simp only [List.length_append, le_length]
  rw [inc_nat (by omega)]
  refine hnext hlt _ _ ⟨a8, c8, by rw [hbl], by rw [hbl, hbo]; exact b8, fun q hq => ?_⟩
  rw [htk] at hq
  rcases List.mem_append.1 hq with hq | hq
  · exact hd3 q hq
  · rw [List.mem_singleton.1 hq]; exact h256
end
end Go.Proofs.Ytpinpccamfhofaa.Im

/-
  An image with its pages: what Decode returns. No condition beyond those stated.
-/
set_option maxRecDepth 100000
namespace Go.Proofs.Ytpinpccamfhofaa.Im
open Go Go.Ev Go.Proofs

/-- One page of a body, and what follows it; k pages stand ahead of it. -/
def stepB (l : List UInt8) (k : Nat) : Option (Pg × List UInt8) :=
  if l.length < 6 then none else if k = 512 then none else if num (l.take 4) > 2147483647 then none else if num (sub l 4 6) > (l.drop 6).length then none
  else if (Pz.back (Pz.expP ((l.drop 6).take (num (sub l 4 6)))) ((l.drop 6).take (num (sub l 4 6)))).2 ≠ 0 then none
  else some ((((num (l.take 4) : Nat) : Int), (Pz.back (Pz.expP ((l.drop 6).take (num (sub l 4 6)))) ((l.drop 6).take (num (sub l 4 6)))).1), (l.drop 6).drop (num (sub l 4 6)))
def parse : Nat → List UInt8 → List Pg → Option (List Pg)
  | 0, l, acc => if l = [] then some acc else none
  | f + 1, l, acc => if l = [] then some acc else match stepB l acc.length with
    | none => none
    | some (p, r) => parse f r (acc ++ [p])
theorem parse_nil (f : Nat) (acc : List Pg) : parse f [] acc = some acc := by cases f <;> simp [parse]
theorem parse_succ {f : Nat} {l : List UInt8} {acc : List Pg} (h : l ≠ []) : parse (f + 1) l acc = match stepB l acc.length with
    | none => none
    | some (p, r) => parse f r (acc ++ [p]) := by
  rw [parse, if_neg h]
def decI (ss : List (List UInt8)) : Sum Int (List UInt8 × Nat × List Pg) :=
  match ss with
  | [] => .inl 3
  | s0 :: r => if ¬ (∀ s ∈ s0 :: r, s.length = 64) then .inl 3 else if (decH s0).2 ≠ 0 then .inl (decH s0).2 else if r.length * 64 < num (sub s0 44 48) then .inl 4
    else if (crc (r.flatten.take (num (sub s0 44 48)))).toNat ≠ num (sub s0 48 52) then .inl 5
    else match parse (r.flatten.take (num (sub s0 44 48))).length (r.flatten.take (num (sub s0 44 48))) [] with
      | none => .inl 3
      | some ps => if validP ps = true then .inr (sub s0 12 44, num (sub s0 4 12), ps) else .inl 3
theorem decH_ok {l : List UInt8} (h : (decH l).2 = 0) : (decH l).1 = hdrC (num (sub l 4 12)) (sub l 12 44) (num (sub l 44 48)) (num (sub l 48 52)) := by
  unfold decH at h ⊢
  split at h
  · cases h
  split at h
  · cases h
  split at h
  · cases h
  split at h
  · cases h
  rename_i h1 h2 h3 h4
  rw [if_neg h1, if_neg h2, if_neg h3, if_neg h4]
theorem decH_len (l : List UInt8) : (decH l).1.length = 35 := by
  unfold decH
  split
  · rfl
  split
  · rfl
  split
  · rfl
  split
  · rfl
  rename_i h1 h2 h3 h4
  exact hdrC_length (sub_length (by omega))
theorem decH_one (l : List UInt8) : ∀ v ∈ (decH l).1, one v = true := by
  unfold decH
  split
  · exact hdrC_one _ _ _ _
  split
  · exact hdrC_one _ _ _ _
  split
  · exact hdrC_one _ _ _ _
  split
  · exact hdrC_one _ _ _ _
  exact hdrC_one _ _ _ _
theorem flatten_take : ∀ (r : List (List UInt8)) (k : Nat), (∀ s ∈ r, s.length = 64) → (r.take k).flatten = r.flatten.take (64 * k)
  | [], k, _ => by simp
  | s :: r, 0, _ => by simp
  | s :: r, k + 1, h => by
    have hs := h s (.head _)
    rw [List.take_succ_cons, List.flatten_cons, List.flatten_cons, flatten_take r k (fun x hx => h x (.tail _ hx)), List.take_append, hs]
    rw [List.take_of_length_le (l := s) (by omega), show 64 * (k + 1) - 64 = 64 * k by omega]
theorem flatten_len : ∀ (r : List (List UInt8)), (∀ s ∈ r, s.length = 64) → r.flatten.length = 64 * r.length
  | [], _ => rfl
  | s :: r, h => by
    rw [List.flatten_cons, List.length_append, flatten_len r (fun x hx => h x (.tail _ hx)), h s (.head _), List.length_cons]
    omega
theorem join_flat (xs : List (List UInt8)) : Lib.join xs [] = xs.flatten := by
  cases xs with
  | nil => rfl
  | cons x r => rw [Lib.join_cons]; simp [Lib.joinTail]
theorem buildI {bd : List UInt8} {g : Nat} {pa : Option Addr} {n c : Nat} (hbd : bd.length = 32) : ∀ w, (Instr.build 41 #[(0, .agg (by_ bd).toArray), (1, .int .u64 (g : Int)), (2, .slice pa n c)]).run Try.prog w = .ok (.agg (imgC bd g pa n c).toArray) w := by
  refine bld_run (structFs Try.prog 41) #[(0, 32), (32, 1), (33, 1)] (zeroT Try.prog 41) (imgC zb 0 none 0 0) (by kernel_rfl) (by kernel_rfl) (by kernel_rfl) (by kernel_rfl) ?_
  have l1 : (imgC zb 0 none 0 0).length = 34 := rfl
  have l2 : ∀ g' pa' n' c', (imgC bd g' pa' n' c').length = 34 := fun _ _ _ _ => imgC_length hbd
  have s1 : splice (imgC zb 0 none 0 0) 0 (by_ bd) = imgC bd 0 none 0 0 := by
    rw [splice_eq _ _ _ (by rw [l1, by_length, hbd]; omega), by_length, hbd]
    rfl
  have s2 : splice (imgC bd 0 none 0 0) 32 [.int .u64 (g : Int)] = imgC bd g none 0 0 := splice_end (by rw [by_length, hbd])
  have s3 : splice (imgC bd g none 0 0) 33 [.slice pa n c] = imgC bd g pa n c := by
    have e : ∀ v, (by_ bd ++ [.int .u64 (g : Int), v] : List Value) = (by_ bd ++ [.int .u64 (g : Int)]) ++ v :: [] := by intro v; simp
    unfold imgC
    rw [e, splice_end (by rw [List.length_append, by_length, hbd]; rfl), ← e]
  rw [fill_cons 0 (by_ bd) (by rw [by_length, hbd]; rfl) rfl (by rw [l1, by_length, hbd]; omega), s1]
  rw [fill_cons 32 [.int .u64 (g : Int)] rfl rfl (by rw [l2]; show 32 + 1 ≤ 34; omega), s2]
  rw [fill_cons 33 [.slice pa n c] rfl rfl (by rw [l2]; show 33 + 1 ≤ 34; omega), s3]
  rfl

section
variable {U w : World} {Q : Value → World → Prop}

theorem join_c {b o c : Nat} {xs : List (List UInt8)} (hr : ∀ j x, xs[j]? = some x → w.cell? ⟨b, o + j, none⟩ = some (.string (mkS x))) (hb : b < w.heap.size) (hc : xs.length ≤ c) (hn : xs.length ≤ 1000000) (hl : xs.flatten.length ≤ 100000000)
    (hQ : ∀ w', Ext w w' (fun _ => False) → Q (.string (mkS xs.flatten)) w') : CallE Try.prog 101 #[.slice (some ⟨b, o, none⟩) xs.length c, .string (mkS [])] w Q := by
  have hm : (xs.map mkS).map (·.data.toList) = xs := by
    rw [List.map_map]
    conv => rhs; rw [← List.map_id xs]
    apply List.map_congr_left
    intro x _
    simp [mkS]
  have := Try.strings_Join b o c (xs.map mkS) (mkS []) w (fun j x hx => by
    rw [List.getElem?_map] at hx
    cases hy : xs[j]? with
    | none => rw [hy] at hx; cases hx
    | some y =>
      rw [hy] at hx
      cases hx
      exact hr j y hy) hb (by rw [List.length_map]; omega) (by rw [List.length_map]; exact hc) (by
      rw [hm, show (mkS []).data.toList = [] from rfl, join_flat]; omega)
  rw [List.length_map] at this
  refine Calls.mono this ?_
  rintro e w' ⟨rfl, hbw⟩
  refine ⟨_, rfl, ?_⟩
  have h2 := hQ w' ⟨hbw.os, hbw.tape, hbw.output, hbw.size, fun b hb _ => hbw.block b hb⟩
  rw [hm, show (mkS []).data.toList = [] from rfl, join_flat]
  exact h2

theorem decodeBody_c {l : List UInt8} (hl : l.length ≤ 10000000) (h0 : parse l.length l [] = none → ∀ w', Ext w w' (fun _ => False) → Q (.tuple #[.slice none 0 0, .bool false]) w')
    (h1 : ∀ ps, parse l.length l [] = some ps → ∀ a c w', Sl w' 85 2 a ps.length c (ps.flatMap pgC) → (∀ b, a = some ⟨b, 0, none⟩ → w.heap.size ≤ b) → Ext w w' (fun _ => False) → Q (.tuple #[.slice a ps.length c, .bool (validP ps)]) w') :
    CallE Try.prog 102 #[.string (mkS l)] w Q := by
  apply C.image_decodeBody
  unfold W.image_decodeBody
  refine LoopW.nat l.length (fun j x w' => ∃ r a c ps, x = (mkS r, (a, ps.length, c), ()) ∧ r.length + j ≤ l.length ∧ ps.length ≤ 512 ∧ parse (l.length - j) r ps = parse l.length l [] ∧ Sl w' 85 2 a ps.length c (ps.flatMap pgC) ∧ (∀ b, a = some ⟨b, 0, none⟩ → w.heap.size ≤ b) ∧ Ext w w' (fun _ => False))
    ⟨l, none, 0, [], rfl, by omega, by simp, by rw [Nat.sub_zero], .inl ⟨rfl, rfl, rfl, rfl⟩, (fun b hb => by cases hb), Ext.refl _ _⟩ ?_
  rintro j x w1 next hj ⟨r, a, c, ps, rfl, hrl, hp5, hpe, s1, f1, e1⟩ hnext
  dsimp only
  rw [mkS_size]
  by_cases hr0 : r.length = 0
  · rw [decide_eq_false (by omega), br_false]
    have : r = [] := List.eq_nil_of_length_eq_zero hr0
    subst this
    rw [parse_nil] at hpe
    unfold W.image_decodeBody_k15
    refine validPages_c s1.reads rfl fun w2 e2 => fb ?_
    exact h1 ps hpe.symm a c w2 (s1.ext e2 (fun _ _ h => h)) f1 (e1.tr e2)
  have hrne : r ≠ [] := by rintro rfl; exact hr0 rfl
  rw [decide_eq_true (by omega), br_true]
  have hlt : j < l.length := by omega
  obtain ⟨f, hf⟩ : ∃ f, l.length - j = f + 1 := ⟨l.length - j - 1, by omega⟩
  rw [hf, parse_succ hrne] at hpe
  have bad : stepB r ps.length = none → ∀ w', Ext w1 w' (fun _ => False) → Q (.tuple #[.slice none 0 0, .bool false]) w' := by
    intro hn w' e'
    rw [hn] at hpe
    exact h0 hpe.symm w' (e1.tr e')
  by_cases h6 : r.length < 6
  · rw [decide_eq_true (by omega), br_true]
    exact bad (by unfold stepB; rw [if_pos h6]) w1 (Ext.refl _ _)
  rw [decide_eq_false (by omega), br_false]
  by_cases h5 : ps.length = 512
  · rw [show ((((ps.length : Nat) : Int) : Int) == 512) = true by rw [h5]; rfl, br_true]
    exact bad (by unfold stepB; rw [if_neg h6, if_pos h5]) w1 (Ext.refl _ _)
  rw [show ((((ps.length : Nat) : Int) : Int) == 512) = false by rw [beq_eq_false_iff_ne]; omega, br_false]
  refine qT (s_hi (by omega) (by omega)) ?_
  refine number_c (l := r.take 4) (by rw [List.length_take]; omega) (fi ?_)
  refine qT (s_lh (by omega) (by omega) (by omega)) ?_
  refine number_c (l := sub r 4 6) (by rw [sub_length (by omega)]; omega) (fi ?_)
  refine qT (s_lo (by omega) (by omega)) ?_
  change br (decide (((num (r.take 4) : Nat) : Int) > 2147483647)) _ _
  by_cases hn : num (r.take 4) > 2147483647
  · rw [decide_eq_true (by omega), br_true]
    exact bad (by unfold stepB; rw [if_neg h6, if_neg h5, if_pos hn]) w1 (Ext.refl _ _)
  rw [decide_eq_false (by omega), br_false]
  have hm2 : num (sub r 4 6) < 65536 := by
    have := num_lt (sub r 4 6)
    rw [sub_length (by omega)] at this
    exact this
  rw [wrap_i64 (x := ((num (sub r 4 6) : Nat) : Int)) (by omega) (by omega)]
  change br (decide (((num (sub r 4 6) : Nat) : Int) > (((mkS (r.drop 6)).size : Nat) : Int))) _ _
  rw [mkS_size]
  by_cases hm : num (sub r 4 6) > (r.drop 6).length
  · rw [decide_eq_true (by omega), br_true]
    exact bad (by unfold stepB; rw [if_neg h6, if_neg h5, if_neg hn, if_pos hm]) w1 (Ext.refl _ _)
  rw [decide_eq_false (by omega), br_false]
  generalize hmm : num (sub r 4 6) = m at *
  change rq _ (Instr.sliceAt 9 (.string (mkS (r.drop 6))) none (some (.int .i64 (m : Int))) none) _ _
  refine qT (s_hi (by omega) (by omega)) ?_
  rw [Int.toNat_natCast]
  refine Pz.decompress_c (by rw [List.length_take]; omega) fun w2 e2 => ⟨_, _, rfl, ?_⟩
  generalize hbk : Pz.back (Pz.expP ((r.drop 6).take m)) ((r.drop 6).take m) = bk at *
  by_cases hz : bk.2 = 0
  case neg =>
    rw [show (bk.2 != 0) = true by rw [bne_iff_ne]; exact hz, br_true]
    exact bad (by unfold stepB; rw [if_neg h6, if_neg h5, if_neg hn, hmm, if_neg hm, hbk, if_pos hz]) w2 e2
  rw [show (bk.2 != 0) = false by rw [hz]; rfl, br_false]
  change rq _ (Instr.sliceAt 9 (.string (mkS (r.drop 6))) (some (.int .i64 (m : Int))) none none) _ _
  refine qT (s_lo (by omega) (by omega)) ?_
  rw [Int.toNat_natCast, wrap_i64 (x := ((num (r.take 4) : Nat) : Int)) (by omega) (by omega)]
  have hst : stepB r ps.length = some ((((num (r.take 4) : Nat) : Int), bk.1), (r.drop 6).drop m) := by
    unfold stepB
    rw [if_neg h6, if_neg h5, if_neg hn, hmm, if_neg hm, hbk, if_neg (by simp [hz])]
  rw [hst] at hpe
  dsimp only at hpe
  refine al_i fun tb w3 htb a3 e3 z3 => ?_
  refine ap_i 85 2 (vs := pgC (((num (r.take 4) : Nat) : Int), bk.1)) ((s1.ext e2 (fun _ _ h => h)).ext e3 (fun _ _ h => h)) (.inr ⟨_, rfl, fun k hk => by rw [add_mk, a3.cell, Nat.zero_add]; rfl⟩) rfl (pgC_one _) (by omega) fun a4 c4 w4 s4 f4 g4 e4 => fs ?_
  have hs1 := e1.size
  have hs2 := e2.size
  have hs3 := e3.size
  refine hnext hlt _ _ ⟨(r.drop 6).drop m, a4, c4, ps ++ [(((num (r.take 4) : Nat) : Int), bk.1)], ?_, ?_, ?_, ?_, ?_, ?_, ?_⟩
  · rw [List.length_append]; rfl
  · rw [List.length_drop, List.length_drop]; omega
  · rw [List.length_append]; show ps.length + 1 ≤ 512; omega
  · rw [show l.length - (j + 1) = f by omega]; exact hpe
  · rw [List.length_append, List.flatMap_append]
    simpa using s4
  · intro b hb
    rcases f4 b hb with hx | hx
    · exact f1 b hx
    · omega
  · exact ((e1.tr e2).tr e3).trans e4 (fun _ _ h => h) (fun b hb hx => by have := f1 b hx; omega)
end
end Go.Proofs.Ytpinpccamfhofaa.Im

/-
  Decode over the code. No condition beyond those stated.
-/
set_option maxRecDepth 100000
namespace Go.Proofs.Ytpinpccamfhofaa.Im
open Go Go.Ev Go.Proofs
section
variable {U w : World} {Q : Value → World → Prop}

theorem zimg : (zeroT Try.prog 41).cells.toList = imgC zb 0 none 0 0 := by kernel_rfl
/-- The empty image is returned. -/
theorem retz {rb : Nat} {e : Int} {cs : List Value} (h : At w rb cs 41) (hcs : cs.length = 34) (hQ : ∀ w', Ext w w' (· = rb) → Q (.tuple #[.agg (imgC zb 0 none 0 0).toArray, .int .i64 e]) w') :
    st Try.prog 41 ⟨rb, 0, none⟩ (.agg (imgC zb 0 none 0 0).toArray) w fun w3 => ld Try.prog 41 ⟨rb, 0, none⟩ w3 fun v4 => fG v4 fun g5 => Q (.tuple #[.agg g5, .int .i64 e]) w3 := by
  refine st_w 34 h hcs rfl (imgC_one _ _ _ _ _) fun w2 a2 e2 z2 => ?_
  refine ld_w a2 (fg ?_)
  exact hQ w2 e2

theorem decode_nil {a : Option Addr} {c : Nat} (hQ : ∀ w', Ext w w' (fun _ => False) → Q (.tuple #[.agg (imgC zb 0 none 0 0).toArray, .int .i64 3]) w') : CallE Try.prog 68 #[.slice a 0 c] w Q := by
  apply C.image_Decode
  unfold W.image_Decode
  refine al_i fun rb w1 hrb a1 e1 z1 => ?_
  rw [zimg] at a1
  rw [show ((((0 : Nat) : Int) : Int) == 0) = true from rfl, br_true]
  exact retz a1 rfl fun w2 e2 => hQ w2 (e1.trans e2 (fun _ _ h => h) (fun b hb hx => by omega))

theorem decode_c {sb n c : Nat} {ss : List (List UInt8)} (h : Reads w (some ⟨sb, 0, none⟩) (strs ss)) (hn : ss.length = n) (hc : n ≤ c) (hsb : sb < w.heap.size) (hbd : n ≤ 100000)
    (h0 : ∀ e, decI ss = .inl e → ∀ w', Ext w w' (fun _ => False) → Q (.tuple #[.agg (imgC zb 0 none 0 0).toArray, .int .i64 e]) w')
    (h1 : ∀ bd g ps, decI ss = .inr (bd, g, ps) → ∀ a c' w', Sl w' 85 2 a ps.length c' (ps.flatMap pgC) → (∀ b, a = some ⟨b, 0, none⟩ → w.heap.size ≤ b) → Ext w w' (fun _ => False) → Q (.tuple #[.agg (imgC bd g a ps.length c').toArray, .int .i64 0]) w') :
    CallE Try.prog 68 #[.slice (some ⟨sb, 0, none⟩) n c] w Q := by
  subst hn
  match ss, h, hc, hbd, h0, h1 with
  | [], h, hc, hbd, h0, h1 => exact decode_nil fun w' e' => h0 3 rfl w' e'
  | s0 :: r, h, hc, hbd, h0, h1 => ?_
  apply C.image_Decode
  unfold W.image_Decode
  refine al_i fun rb w1 hrb a1 e1 z1 => ?_
  rw [zimg] at a1
  have hcl : (s0 :: r).length = r.length + 1 := rfl
  rw [show (((((s0 :: r).length : Nat) : Int) : Int) == 0) = false by rw [beq_eq_false_iff_ne, hcl]; omega, br_false]
  have ret : ∀ (e : Int) (w' : World), decI (s0 :: r) = .inl e → Ext w1 w' (fun _ => False) →
      st Try.prog 41 ⟨rb, 0, none⟩ (.agg (imgC zb 0 none 0 0).toArray) w' fun w3 => ld Try.prog 41 ⟨rb, 0, none⟩ w3 fun v4 => fG v4 fun g5 => Q (.tuple #[.agg g5, .int .i64 e]) w3 := by
    intro e w' he e'
    exact retz (a1.ext e' (fun h => h)) rfl fun w2 e2 => h0 e he w2 ((e1.tr e').trans e2 (fun _ _ h => h) (fun b hb hx => by omega))
  have hr1 := h.ext e1 (fun _ _ _ h => h)
  have hget : ∀ i (hi : i < (s0 :: r).length), (strs (s0 :: r))[i]? = some (.string (mkS (s0 :: r)[i])) := by
    intro i hi
    unfold strs
    rw [List.getElem?_map, List.getElem?_eq_getElem hi]
    rfl
  refine LoopW.nat (s0 :: r).length (fun i x w' => x = ((i : Int), ()) ∧ w' = w1 ∧ ∀ j (hj : j < (s0 :: r).length), j < i → (s0 :: r)[j].length = 64) ⟨rfl, rfl, fun j hj h => by omega⟩ ?_
  rintro i x w2 next hi ⟨rfl, rfl, hal⟩ hnext
  dsimp only
  by_cases hlt : i < (s0 :: r).length
  · rw [decide_eq_true (by omega), br_true]
    refine ixb i 1 9 hlt ?_
    have : (⟨sb, i * 1, none⟩ : Addr) = Addr.add ⟨sb, 0, none⟩ i := by rw [add_mk, Nat.mul_one, Nat.zero_add]
    rw [this]
    refine rdL hr1 (hget i hlt) (ft ?_)
    rw [mkS_size]
    by_cases h64 : (s0 :: r)[i].length = 64
    case neg =>
      rw [show (((((s0 :: r)[i].length : Nat) : Int) : Int) != 64) = true by rw [bne_iff_ne]; omega, br_true]
      exact ret 3 _ (by
        unfold decI
        dsimp only
        rw [if_pos (fun hc => h64 (hc _ (List.getElem_mem hlt)))]) (Ext.refl _ _)
    rw [show (((((s0 :: r)[i].length : Nat) : Int) : Int) != 64) = false by rw [h64]; rfl, br_false, inc_nat (by omega)]
    refine hnext hlt _ _ ⟨rfl, rfl, fun j hj hji => ?_⟩
    by_cases hjeq : j = i
    · subst hjeq; exact h64
    · exact hal j hj (by omega)
  rw [decide_eq_false (by omega), br_false]
  have hall : ∀ s ∈ s0 :: r, s.length = 64 := by
    intro s hs
    obtain ⟨j, hj, rfl⟩ := List.getElem_of_mem hs
    exact hal j hj (by omega)
  have hrall : ∀ s ∈ r, s.length = 64 := fun s hs => hall s (.tail _ hs)
  unfold W.image_Decode_k9
  refine ixb 0 1 9 (by rw [hcl]; omega) ?_
  have hz0 : (⟨sb, 0 * 1, none⟩ : Addr) = Addr.add ⟨sb, 0, none⟩ 0 := by rw [add_mk, Nat.zero_mul]
  rw [hz0]
  refine rdL hr1 (hget 0 (by rw [hcl]; omega)) (ft ?_)
  show CallE _ _ #[.string (mkS s0)] _ _
  refine decodeHeader_c fun w3 e3 => ⟨_, _, rfl, ?_⟩
  refine al_st 35 (decH_len s0) (decH_one s0) fun hb w4 hhb a4 e4 z4 => ?_
  have e14 := e3.tr e4
  by_cases hd : (decH s0).2 = 0
  case neg =>
    rw [show ((decH s0).2 != 0) = true by rw [bne_iff_ne]; exact hd, br_true]
    exact ret _ w4 (by
      unfold decI
      dsimp only
      rw [if_neg (by simpa using hall), if_pos hd]) e14
  rw [show ((decH s0).2 != 0) = false by rw [hd]; rfl, br_false]
  rw [decH_ok hd] at a4
  have hbl : (sub s0 12 44).length = 32 := sub_length (by rw [hall s0 (.head _)]; omega)
  have hlen32 : num (sub s0 44 48) < 4294967296 := num_32 (by rw [hall s0 (.head _)]; omega) (by omega)
  have hsum32 : num (sub s0 48 52) < 4294967296 := num_32 (by rw [hall s0 (.head _)]; omega) (by omega)
  simp only [add_mk, Nat.zero_add]
  generalize hg : num (sub s0 4 12) = g at *
  generalize hL : num (sub s0 44 48) = L at *
  generalize hS : num (sub s0 48 52) = S at *
  generalize hB : sub s0 12 44 = bd at *
  have hc33 : (hdrC g bd L S)[33]? = some (.int .u32 (L : Int)) := by
    unfold hdrC
    rw [List.getElem?_cons_succ, List.getElem?_append_right (by rw [by_length, hbl]; omega), by_length, hbl]
    rfl
  have hc34 : (hdrC g bd L S)[34]? = some (.int .u32 (S : Int)) := by
    unfold hdrC
    rw [List.getElem?_cons_succ, List.getElem?_append_right (by rw [by_length, hbl]; omega), by_length, hbl]
    rfl
  refine ldI a4 hc33 ?_
  refine qL (sl_fr (i := 1) 9 1 (by rw [hcl]; omega)) ?_
  have hdec : decI (s0 :: r) = if r.length * 64 < L then .inl 4 else if (crc (r.flatten.take L)).toNat ≠ S then .inl 5
      else match parse (r.flatten.take L).length (r.flatten.take L) [] with
      | none => .inl 3
      | some ps => if validP ps = true then .inr (bd, g, ps) else .inl 3 := by
    unfold decI
    dsimp only
    rw [if_neg (by simpa using hall), if_neg (by simp [hd]), hL, hS, hB, hg] <;> rfl
  rw [show (s0 :: r).length - 1 = r.length from rfl, wrap_64 (n := r.length) (by omega), show ((r.length : Nat) : Int) * 64 = ((r.length * 64 : Nat) : Int) by omega, wrap_64 (n := r.length * 64) (by omega), wrap_64 (n := L) (by omega)]
  by_cases htr : r.length * 64 < L
  · rw [decide_eq_true (by omega), br_true]
    exact ret 4 w4 (by rw [hdec, if_pos htr]) e14
  rw [decide_eq_false (by omega), br_false]
  rw [if_neg htr] at hdec
  have hcnt : IntKind.wrap .i64 (IntKind.wrap .u64 (Int.tdiv (IntKind.wrap .u64 ((IntKind.wrap .u64 ((L : Int) + 64)) - 1)) 64)) = (((L + 63) / 64 : Nat) : Int) := by
    rw [show (L : Int) + 64 = ((L + 64 : Nat) : Int) by omega, wrap_64 (by omega), show ((L + 64 : Nat) : Int) - 1 = ((L + 63 : Nat) : Int) by omega, wrap_64 (by omega), show Int.tdiv ((L + 63 : Nat) : Int) 64 = (((L + 63) / 64 : Nat) : Int) from rfl, wrap_64 (by omega), wrap_i64 (by omega) (by omega)]
  rw [hcnt]
  generalize hK : (L + 63) / 64 = K
  have hKr : K ≤ r.length := by omega
  refine qL (sl_to 9 (by omega)) ?_
  have hrd4 := hr1.ext e14 (fun _ _ _ h => h)
  have hsb4 : sb < w4.heap.size := by
    have := e1.size; have := e14.size; omega
  have hpick : (if c = 1 then (⟨sb, 0, none⟩ : Addr) else Addr.add ⟨sb, 0, none⟩ (1 * 1)) = ⟨sb, if c = 1 then 0 else 1, none⟩ := by
    by_cases hc1 : c = 1
    · rw [if_pos hc1, if_pos hc1]
    · rw [if_neg hc1, if_neg hc1, add_mk]
  rw [hpick]
  have htkl : (r.take K).length = K := by rw [List.length_take]; omega
  have hfl := flatten_take r K hrall
  have hfl2 := flatten_len (r.take K) (fun s hs => hrall s (List.mem_of_mem_take hs))
  rw [htkl] at hfl2
  have hjoin : ∀ Q' : Value → World → Prop, (∀ w', Ext w4 w' (fun _ => False) → Q' (.string (mkS (r.take K).flatten)) w') → CallE Try.prog 101 #[.slice (some ⟨sb, if c = 1 then 0 else 1, none⟩) K (c - 1), .string ⟨#[]⟩] w4 Q' := by
    intro Q' hq
    have := join_c (w := w4) (b := sb) (o := if c = 1 then 0 else 1) (c := c - 1) (xs := r.take K) (Q := Q') (fun j x hx => ?_) hsb4 (by omega) (by omega) (by omega) hq
    · rw [htkl] at this
      exact this
    · have hjk : j < (r.take K).length := by
        rcases Nat.lt_or_ge j (r.take K).length with hh | hh
        · exact hh
        · rw [List.getElem?_eq_none hh] at hx; cases hx
      have hc1 : c ≠ 1 := by rw [hcl] at hc; omega
      rw [if_neg hc1]
      rcases hrd4 with hh | ⟨p, hp, hh⟩
      · exact absurd (congrArg List.length hh) (by rw [strs_length]; simp)
      · cases hp
        have := hh (1 + j) (by rw [strs_length, hcl]; omega)
        rw [add_mk, Nat.zero_add] at this
        rw [this, hget (1 + j) (by rw [hcl]; omega)]
        rw [List.getElem?_take_of_lt (by omega)] at hx
        have h3 : (s0 :: r)[1 + j]? = some x := by rw [Nat.add_comm, List.getElem?_cons_succ]; exact hx
        rw [List.getElem?_eq_getElem (by rw [hcl]; omega)] at h3
        rw [Option.some.inj h3]
  refine hjoin _ fun w5 e5 => ft ?_
  refine qT (s_hi (by omega) (by omega)) ?_
  have hbody : ((r.take K).flatten).take (L : Int).toNat = r.flatten.take L := by
    rw [Int.toNat_natCast, hfl, List.take_take, Nat.min_eq_left (by omega)]
  rw [hbody]
  have hbl2 : (r.flatten.take L).length = L := by
    rw [List.length_take, flatten_len r hrall]; omega
  generalize hbo : r.flatten.take L = body at *
  have e15 := e14.tr e5
  have a5 : At (drew w5) hb (hdrC g bd L S) 121 := (a4.ext e5 (fun h => h)).drew_
  refine ⟨fun w' => At w' hb (hdrC g bd L S) 121, a5, ?_⟩
  refine ldS_i (fun _ h => h) hc34 (fi ?_)
  refine checksum_c (by omega) fun w6 e6 => fi ⟨a5.ext e6 (fun h => h), ?_⟩
  have e16 : Ext w2 w6 (fun _ => False) := e15.drew_.tr e6
  have hcr := (crc body).isLt
  by_cases hsm : (crc body).toNat = S
  case neg =>
    rw [show ((((crc body).toNat : Nat) : Int) != ((S : Nat) : Int)) = true by rw [bne_iff_ne]; omega, br_true]
    exact ret 5 w6 (by rw [hdec, if_pos hsm]) e16
  rw [show ((((crc body).toNat : Nat) : Int) != ((S : Nat) : Int)) = false by rw [hsm]; simp, br_false]
  rw [if_neg (by simp [hsm])] at hdec
  have a6 := a5.ext e6 (fun h => h)
  refine decodeBody_c (by omega) (fun hpn w7 e7 => ⟨_, _, _, _, rfl, ?_⟩) (fun ps hps a7 c7 w7 s7 f7 e7 => ⟨_, _, _, _, rfl, ?_⟩)
  · rw [Bool.not_false, br_true]
    exact ret 3 w7 (by rw [hdec, hpn]) (e16.tr e7)
  · rw [hps] at hdec
    dsimp only at hdec
    by_cases hv : validP ps = true
    case neg =>
      rw [Bool.eq_false_iff.2 hv, Bool.not_false, br_true]
      exact ret 3 w7 (by rw [hdec, if_neg hv]) (e16.tr e7)
    rw [hv, Bool.not_true, br_false]
    rw [if_pos hv] at hdec
    have a7' := a6.ext e7 (fun h => h)
    refine ld_g 32 a7' (by rw [hdrC_length hbl]; omega) (fg ?_)
    have hbd' : ((hdrC g bd L S).drop 1).take 32 = by_ bd := by
      unfold hdrC
      show (by_ bd ++ _).take 32 = _
      exact List.take_left' (by rw [by_length, hbl])
    rw [hbd']
    refine ldI a7' rfl ?_
    refine rq_r (buildI hbl) (fg ?_)
    have r7 := a1.ext (e16.tr e7) (fun h => h)
    have hs6 := e16.size
    refine st_w 34 r7 rfl (imgC_length hbl) (imgC_one _ _ _ _ _) fun w8 a8 e8 z8 => ?_
    refine ld_w a8 (fg ?_) (hs := by rw [imgC_length hbl]; kernel_rfl)
    have hlt1 := a1.lt
    refine h1 bd g ps hdec a7 c7 w8 (s7.ext e8 (fun b hb hx => ?_)) (fun b hb => ?_) ((e1.tr (e16.tr e7)).trans e8 (fun _ _ h => h) (fun b hb hx => by omega))
    · have := f7 b hb; omega
    · have := f7 b hb
      have := e1.size
      omega
end
end Go.Proofs.Ytpinpccamfhofaa.Im

/-
  An image in plain terms: what is encoded is decoded. No program; no condition beyond those stated.
-/
set_option maxRecDepth 100000
namespace Go.Proofs.Ytpinpccamfhofaa.Im
open Go Go.Ev Go.Proofs

theorem by_inj : ∀ {a b : List UInt8}, by_ a = by_ b → a = b
  | [], [], _ => rfl
  | x :: a, y :: b, h => by
    simp only [by_, List.map_cons, List.cons.injEq, Value.int.injEq, true_and] at h
    obtain ⟨h1, h2⟩ := h
    have : x = y := UInt8.toNat_inj.1 (by omega)
    rw [this, by_inj (a := a) (b := b) h2]
  | [], _ :: _, h => by simp [by_] at h
  | _ :: _, [], h => by simp [by_] at h
theorem hdrC_inj {g n s g' n' s' : Nat} {bd bd' : List UInt8} (h1 : bd.length = 32) (h2 : bd'.length = 32) (h : hdrC g bd n s = hdrC g' bd' n' s') : g = g' ∧ bd = bd' ∧ n = n' ∧ s = s' := by
  unfold hdrC at h
  simp only [List.cons.injEq, Value.int.injEq, true_and] at h
  obtain ⟨hg, h⟩ := h
  obtain ⟨hb, h⟩ := List.append_inj h (by rw [by_length, by_length, h1, h2])
  simp only [List.cons.injEq, Value.int.injEq, true_and, and_true] at h
  exact ⟨by omega, by_inj hb, by omega, by omega⟩
/-- The fields of a header, as Decode reads them. -/
theorem hdr_fields {g n s : Nat} {bd : List UInt8} (hb : bd.length = 32) (hg : g < 18446744073709551616) (hn : n < 4294967296) (hs : s < 4294967296) :
    num (sub (hdr g bd n s) 4 12) = g ∧ sub (hdr g bd n s) 12 44 = bd ∧ num (sub (hdr g bd n s) 44 48) = n ∧ num (sub (hdr g bd n s) 48 52) = s := by
  have h := decH_hdr hb hg hn hs
  have h2 := decH_ok (l := hdr g bd n s) (by rw [h])
  rw [h] at h2
  obtain ⟨a, b, c, d⟩ := hdrC_inj hb (by rw [sub_length (by rw [hdr_length hb]; omega)]) h2
  exact ⟨a.symm, b.symm, c.symm, d.symm⟩

theorem stepB_pgB {p : Pg} {r : List UInt8} {k : Nat} (h0 : 0 ≤ p.1) (h1 : p.1 ≤ 2147483647) (hd : p.2.length = 256) (hk : k < 512) : stepB (pgB p ++ r) k = some (p, r) := by
  have hcl := Pz.comp_length hd
  have e1 : pgB p ++ r = le p.1.toNat 4 ++ (le (Pz.comp p.2).length 2 ++ Pz.comp p.2 ++ r) := by simp [pgB]
  have e2 : pgB p ++ r = le p.1.toNat 4 ++ le (Pz.comp p.2).length 2 ++ (Pz.comp p.2 ++ r) := by simp [pgB]
  have t4 : (pgB p ++ r).take 4 = le p.1.toNat 4 := by rw [e1]; exact List.take_left' (le_length _ _)
  have t46 : sub (pgB p ++ r) 4 6 = le (Pz.comp p.2).length 2 := by rw [e2]; exact sub_mid (le_length _ _) (by rw [le_length])
  have d6 : (pgB p ++ r).drop 6 = Pz.comp p.2 ++ r := by rw [e2]; exact List.drop_left' (by rw [List.length_append, le_length, le_length])
  have n4 : num (le p.1.toNat 4) = p.1.toNat := num_le_of (by omega)
  have n2 : num (le (Pz.comp p.2).length 2) = (Pz.comp p.2).length := num_le_of (by omega)
  have hl : (pgB p ++ r).length = 6 + (Pz.comp p.2).length + r.length := by rw [e2]; simp only [List.length_append, le_length]; omega
  unfold stepB
  rw [if_neg (by omega), if_neg (by omega), t4, n4, if_neg (by omega), t46, n2, d6, if_neg (by rw [List.length_append]; omega), List.take_left, Pz.back_comp hd, if_neg (by simp), List.drop_left]
  rw [show ((p.1.toNat : Nat) : Int) = p.1 by omega]
theorem parse_body : ∀ (ps : List Pg) (acc : List Pg) (f : Nat), (∀ p ∈ ps, 0 ≤ p.1 ∧ p.1 ≤ 2147483647 ∧ p.2.length = 256) → (bodyOf ps).length ≤ f → acc.length + ps.length ≤ 512 → parse f (bodyOf ps) acc = some (acc ++ ps)
  | [], acc, f, _, _, _ => by rw [show bodyOf [] = [] from rfl, parse_nil, List.append_nil]
  | p :: ps, acc, f, h, hf, hl => by
    obtain ⟨h0, h1, hd⟩ := h p (.head _)
    have hb : bodyOf (p :: ps) = pgB p ++ bodyOf ps := by simp [bodyOf]
    have hpl : 6 ≤ (pgB p).length := by
      unfold pgB
      simp only [List.length_append, le_length]
      omega
    rw [hb, List.length_append] at hf
    rw [List.length_cons] at hl
    obtain ⟨f', rfl⟩ : ∃ f', f = f' + 1 := ⟨f - 1, by omega⟩
    rw [hb, parse_succ (by intro hc; have := congrArg List.length hc; rw [List.length_append, List.length_nil] at this; omega), stepB_pgB h0 h1 hd (by omega)]
    dsimp only
    rw [parse_body ps (acc ++ [p]) f' (fun q hq => h q (.tail _ hq)) (by omega) (by rw [List.length_append]; show acc.length + 1 + _ ≤ _; omega)]
    simp
theorem chunks_flat (l : List UInt8) : ∀ k, 64 * k ≤ l.length → (chunks k l).flatten = l.take (64 * k)
  | 0, _ => by simp [chunks]
  | k + 1, h => by
    rw [chunks_succ, List.flatten_append, chunks_flat l k (by omega), Nat.mul_succ, List.take_add]
    simp
theorem cuts_flat (l : List UInt8) : (cuts l).flatten = pad l := by
  unfold cuts
  have := pad_mod l
  rw [chunks_flat _ _ (by omega), List.take_of_length_le (by omega)]
theorem chunks_len (l : List UInt8) (k : Nat) (h : 64 * k ≤ l.length) : ∀ s ∈ chunks k l, s.length = 64 := by
  intro s hs
  simp only [chunks, List.mem_map, List.mem_range] at hs
  obtain ⟨j, hj, rfl⟩ := hs
  rw [List.length_take, List.length_drop]
  omega
theorem cuts_len (l : List UInt8) : ∀ s ∈ cuts l, s.length = 64 := by
  have := pad_mod l
  exact chunks_len _ _ (by omega)
theorem okP_mem {ps : List Pg} (h : OkP ps) : ps.length ≤ 512 ∧ ∀ p ∈ ps, 0 ≤ p.1 ∧ p.1 ≤ 2147483647 ∧ p.2.length = 256 := by
  obtain ⟨hv, hd⟩ := h
  unfold validP at hv
  simp only [Bool.and_eq_true, decide_eq_true_eq] at hv
  exact ⟨hv.1, fun p hp => ⟨(incr_mem hv.2 p hp).1, (incr_mem hv.2 p hp).2, hd p hp⟩⟩
theorem body_lt {ps : List Pg} (h : OkP ps) : (bodyOf ps).length ≤ 134656 := by
  have h1 := bodyOf_le h.2
  have h2 := (okP_mem h).1
  omega
theorem secs_len {g : Nat} {bd : List UInt8} (hb : bd.length = 32) (ps : List Pg) : ∀ s ∈ secs g bd ps, s.length = 64 := by
  intro s hs
  unfold secs at hs
  rcases List.mem_cons.1 hs with rfl | hs
  · exact hdr_length hb
  · exact cuts_len _ s hs
theorem cuts_count (l : List UInt8) : (cuts l).length = (l.length + padn l.length) / 64 := by unfold cuts; rw [chunks_length, pad_length]
/-- What was encoded is decoded, whatever sectors follow. -/
theorem decI_secs {g : Nat} {bd : List UInt8} {ps : List Pg} {more : List (List UInt8)} (hb : bd.length = 32) (hg : g < 18446744073709551616) (h : OkP ps) (hm : ∀ s ∈ more, s.length = 64) : decI (secs g bd ps ++ more) = .inr (bd, g, ps) := by
  have hbl := body_lt h
  have hcr := (crc (bodyOf ps)).isLt
  obtain ⟨f1, f2, f3, f4⟩ := hdr_fields (g := g) (n := (bodyOf ps).length) (s := (crc (bodyOf ps)).toNat) hb hg (by omega) (by omega)
  have hH := decH_hdr (g := g) (n := (bodyOf ps).length) (s := (crc (bodyOf ps)).toNat) hb hg (by omega) (by omega)
  have hall : ∀ s ∈ secs g bd ps ++ more, s.length = 64 := fun s hs => by
    rcases List.mem_append.1 hs with hs | hs
    · exact secs_len hb ps s hs
    · exact hm s hs
  have hfl : (cuts (bodyOf ps) ++ more).flatten.take (bodyOf ps).length = bodyOf ps := by
    rw [List.flatten_append, cuts_flat]
    unfold pad
    rw [List.append_assoc, List.take_left]
  have hcount := cuts_count (bodyOf ps)
  have hpm := pad_mod (bodyOf ps)
  rw [pad_length] at hpm
  unfold secs at hall ⊢
  rw [List.cons_append] at hall ⊢
  unfold decI
  dsimp only
  rw [if_neg (by simpa using hall), if_neg (by rw [hH]; simp), f1, f2, f3, f4, if_neg (by rw [List.length_append]; omega), hfl, if_neg (by simp)]
  rw [parse_body ps [] _ (okP_mem h).2 (Nat.le_refl _) (by have := (okP_mem h).1; simpa using this)]
  dsimp only [List.nil_append]
  rw [if_pos h.1]
theorem okP_nil : OkP [] := ⟨by decide, by simp⟩
end Go.Proofs.Ytpinpccamfhofaa.Im

/-
  A byte of a row is replaced. No program; no condition beyond those stated.
-/
set_option maxRecDepth 100000
namespace Go.Proofs.Ytpinpccamfhofaa.Im
open Go Go.Ev Go.Proofs
theorem by_setx (a b : List UInt8) (x y : UInt8) (i : Nat) (h : a.length = i) : (by_ (a ++ x :: b)).set i (.int .u8 (y.toNat : Int)) = by_ (a ++ y :: b) := by
  subst h
  unfold by_
  rw [← List.map_set (f := fun b : UInt8 => Value.int .u8 (b.toNat : Int)), List.set_append_right _ _ (Nat.le_refl _), Nat.sub_self]
  rfl

end Go.Proofs.Ytpinpccamfhofaa.Im
