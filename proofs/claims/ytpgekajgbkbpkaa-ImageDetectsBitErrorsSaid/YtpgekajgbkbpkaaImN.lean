/-
  Numbers in bytes, lowest first: the program's and the reference's functions. No condition beyond those stated.
-/
import Derived.Test.YtpgekajgbkbpkaaImP
namespace Go.Proofs.Ytpgekajgbkbpkaa.Im
open Go Go.Ev Go.Proofs

def le (v n : Nat) : List UInt8 := (List.range n).map fun i => UInt8.ofNat (v / 256 ^ i)
def num : List UInt8 → Nat
  | [] => 0
  | x :: l => x.toNat + 256 * num l
theorem le_length (v n : Nat) : (le v n).length = n := by simp [le]
theorem le_succ (v n : Nat) : le v (n + 1) = le v n ++ [UInt8.ofNat (v / 256 ^ n)] := by simp [le, List.range_succ]
theorem num_lt : ∀ l : List UInt8, num l < 256 ^ l.length
  | [] => by simp [num]
  | x :: l => by
    have h1 := num_lt l
    have h2 := x.toNat_lt
    show x.toNat + 256 * num l < 256 ^ (l.length + 1)
    rw [Nat.pow_succ]
    omega
theorem num_append : ∀ (l : List UInt8) (x : UInt8), num (l ++ [x]) = num l + x.toNat * 256 ^ l.length
  | [], x => by simp [num]
  | y :: l, x => by
    show y.toNat + 256 * num (l ++ [x]) = (y.toNat + 256 * num l) + x.toNat * 256 ^ (l.length + 1)
    rw [num_append l x, Nat.pow_succ, Nat.mul_add, ← Nat.mul_assoc x.toNat, Nat.mul_comm _ 256]
    omega
theorem wrap_by (n : Nat) : IntKind.wrap .u8 (n : Int) = ((UInt8.ofNat n).toNat : Int) := by
  rw [UInt8.toNat_ofNat', wrap_u8']
  omega
theorem fdiv_8 (n : Nat) : Int.fdiv (n : Int) (2 ^ 8) = ((n / 256 : Nat) : Int) := by
  rw [Int.fdiv_eq_ediv_of_nonneg _ (by omega)]; rfl
theorem wrap_64 {n : Nat} (h : n < 18446744073709551616) : IntKind.wrap .u64 (n : Int) = (n : Int) := wrap_u64 (by omega) (by omega)
theorem bor_64 {a b : Nat} (ha : a < 18446744073709551616) (hb : b < 18446744073709551616) : bor .u64 (a : Int) (b : Int) = ((a ||| b : Nat) : Int) := by
  unfold bor
  have : (BitVec.ofInt (IntKind.bits .u64) (a : Int) ||| BitVec.ofInt (IntKind.bits .u64) (b : Int)).toNat = a ||| b := by
    show (BitVec.ofInt 64 (a : Int) ||| BitVec.ofInt 64 (b : Int)).toNat = a ||| b
    rw [BitVec.ofInt_natCast, BitVec.ofInt_natCast, BitVec.toNat_or, BitVec.toNat_ofNat, BitVec.toNat_ofNat]
    rw [Nat.mod_eq_of_lt (by omega), Nat.mod_eq_of_lt (by omega)]
  rw [this, wrap_64 (Nat.or_lt_two_pow (n := 64) (by omega) (by omega))]

section
variable {U w : World} {Q : Value → World → Prop}

theorem appendNumber_c {a : Option Addr} {n c v k : Nat} {xs : List Value} (hs : Sl w 5 1 a n c xs) (hk : k ≤ 8) (hn : n ≤ 900000000)
    (hQ : ∀ a' c' w', Sl w' 5 1 a' (n + k) c' (xs ++ by_ (le v k)) → (∀ b, a' = some ⟨b, 0, none⟩ → a = some ⟨b, 0, none⟩ ∨ w.heap.size ≤ b) → (a.isSome = true → a'.isSome = true) → Ext w w' (fun b => a = some ⟨b, 0, none⟩) → Q (.slice a' (n + k) c') w') :
    CallE Try.prog 27 #[.slice a n c, .int .u64 (v : Int), .int .i64 (k : Int)] w Q := by
  apply C.image_appendNumber
  unfold W.image_appendNumber
  refine LoopW.nat k (fun j x w' => ∃ a' c', x = ((a', n + j, c'), ((v / 256 ^ j : Nat) : Int), (j : Int), ()) ∧ Sl w' 5 1 a' (n + j) c' (xs ++ by_ (le v j)) ∧ (∀ b, a' = some ⟨b, 0, none⟩ → a = some ⟨b, 0, none⟩ ∨ w.heap.size ≤ b) ∧ (a.isSome = true → a'.isSome = true) ∧ Ext w w' (fun b => a = some ⟨b, 0, none⟩))
    ⟨a, c, by simp, by simpa [le, by_] using hs, fun b hb => .inl hb, fun h => h, Ext.refl _ _⟩ ?_
  rintro j x w1 next hj ⟨a', c', rfl, s1, f1, g1, e1⟩ hnext
  dsimp only
  by_cases hlt : j < k
  case neg =>
    rw [decide_eq_false (by omega), br_false]
    obtain rfl : j = k := by omega
    exact hQ a' c' w1 s1 f1 g1 e1
  rw [decide_eq_true (by omega), br_true, wrap_by]
  refine al_i fun tb w2 htb a2 e2 z2 => ?_
  refine ap_i 5 1 (vs := by_ [UInt8.ofNat (v / 256 ^ j)]) (s1.ext e2 (fun _ _ h => h)) (.inr ⟨_, rfl, fun k hk => by rw [add_mk, a2.cell, Nat.zero_add]; rfl⟩) rfl (by_one _) (by omega) fun a'' c'' w3 s3 hor hsome e3 => fs ?_
  rw [fdiv_8, inc_nat (by omega), Nat.div_div_eq_div_mul, ← Nat.pow_succ]
  have hs1 := e1.size
  refine hnext hlt _ _ ⟨a'', c'', rfl, ?_, fun b hb => ?_, fun h => hsome (g1 h), (e1.trans e2 (fun _ _ h => h) (fun _ _ h => h.elim)).trans e3 (fun _ _ h => h) (fun b hb hx => ?_)⟩
  · rw [le_succ, by_append, ← List.append_assoc]
    exact s3
  · rcases hor b hb with h | h
    · exact f1 b h
    · exact .inr (by omega)
  · rcases f1 b hx with h | h
    · exact h
    · omega

theorem number_c {l : List UInt8} (hl : l.length ≤ 8) (hQ : Q (.int .u64 ((num l : Nat) : Int)) w) : CallE Try.prog 29 #[.string (mkS l)] w Q := by
  apply C.image_number
  unfold W.image_number
  rw [mkS_size, wrap_i64 (by omega) (by omega)]
  refine LoopW.nat l.length (fun k x w' => x = (((num (l.drop (l.length - k)) : Nat) : Int), ((l.length : Int) - 1 - (k : Int)), ()) ∧ w' = w) ⟨by simp [num], rfl⟩ ?_
  rintro k x w1 next hk ⟨rfl, rfl⟩ hnext
  dsimp only
  by_cases hlt : k < l.length
  case neg =>
    rw [decide_eq_false (by omega), br_false]
    obtain rfl : k = l.length := by omega
    rw [Nat.sub_self, List.drop_zero]
    exact hQ
  rw [decide_eq_true (by omega), br_true]
  obtain ⟨i, hi⟩ : ∃ i : Nat, l.length = i + 1 + k := ⟨l.length - 1 - k, by omega⟩
  have hil : i < l.length := by omega
  rw [show (l.length : Int) - 1 - (k : Int) = (i : Int) by omega]
  refine qI (sxn i hil) ?_
  have hx : l.getD i 0 = l[i] := by rw [List.getD_eq_getElem?_getD, List.getElem?_eq_getElem hil]; rfl
  have hd1 : l.drop (l.length - k) = l.drop (i + 1) := by rw [show l.length - k = i + 1 by omega]
  have hd2 : l.drop (l.length - (k + 1)) = l[i] :: l.drop (i + 1) := by rw [show l.length - (k + 1) = i by omega]; exact List.drop_eq_getElem_cons hil
  have hlt2 := num_lt (l.drop (i + 1))
  have hle7 : (256 : Nat) ^ (l.drop (i + 1)).length ≤ 256 ^ 7 := Nat.pow_le_pow_right (by omega) (by rw [List.length_drop]; omega)
  have hb := l[i].toNat_lt
  rw [hd1, hx]
  generalize hmm : num (l.drop (i + 1)) = m at *
  have hm : m < 72057594037927936 := Nat.lt_of_lt_of_le hlt2 hle7
  have hmul : ((m : Nat) : Int) * 2 ^ 8 = ((m * 256 : Nat) : Int) := by omega
  rw [hmul, wrap_64 (by omega), wrap_64 (by omega), bor_64 (by omega) (by omega)]
  have hor : m * 256 ||| l[i].toNat = m * 256 + l[i].toNat := by
    have := Nat.two_pow_add_eq_or_of_lt (i := 8) (b := l[i].toNat) (by omega) m
    rw [Nat.mul_comm m 256]
    exact this.symm
  rw [hor, wrap_i64 (by omega) (by omega)]
  refine hnext hlt _ _ ⟨?_, rfl⟩
  rw [hd2, show num (l[i] :: l.drop (i + 1)) = l[i].toNat + 256 * num (l.drop (i + 1)) from rfl, hmm, show l[i].toNat + 256 * m = m * 256 + l[i].toNat by omega, show (l.length : Int) - 1 - ((k + 1 : Nat) : Int) = (i : Int) - 1 by omega]

theorem pow_8 (j : Nat) : (2 : Int) ^ (8 * (j : Int)).toNat = ((256 ^ j : Nat) : Int) := by
  rw [show (8 * (j : Int)).toNat = 8 * j by omega, Int.pow_mul, Int.natCast_pow]
  rfl
theorem bits_8 {j : Nat} (h : j ≤ 8) : IntKind.wrap .u64 (IntKind.wrap .i64 (8 * (j : Int))) = 8 * (j : Int) := by
  rw [wrap_i64 (by omega) (by omega), wrap_u64 (by omega) (by omega)]

theorem little_c {v k : Nat} (hk : k ≤ 8) (hQ : ∀ w', Ext w w' (fun _ => False) → Q (.string (mkS (le v k))) w') : CallE Try.prog 30 #[.int .u64 (v : Int), .int .i64 (k : Int)] w Q := by
  apply C.ref34_little
  unfold W.ref34_little
  refine LoopW.nat k (fun j x w' => ∃ a' c', x = ((a', j, c'), (j : Int), ()) ∧ Sl w' 5 1 a' j c' (by_ (le v j)) ∧ (∀ b, a' = some ⟨b, 0, none⟩ → w.heap.size ≤ b) ∧ Ext w w' (fun _ => False))
    ⟨none, 0, rfl, .inl ⟨rfl, rfl, rfl, rfl⟩, (fun b hb => by cases hb), Ext.refl _ _⟩ ?_
  rintro j x w1 next hj ⟨a', c', rfl, s1, f1, e1⟩ hnext
  dsimp only
  by_cases hlt : j < k
  case neg =>
    rw [decide_eq_false (by omega), br_false]
    obtain rfl : j = k := by omega
    unfold W.ref34_little_k6
    refine slT s1 (le_length _ _) ?_
    exact hQ w1 e1
  rw [decide_eq_true (by omega), br_true, bits_8 (by omega)]
  refine qI (shr_i (by omega) (by show 8 * (j : Int) ≤ 64; omega)) ?_
  have hdv : Int.fdiv (v : Int) (2 ^ (8 * (j : Int)).toNat) = ((v / 256 ^ j : Nat) : Int) := by
    rw [pow_8, Int.fdiv_eq_ediv_of_nonneg _ (Int.natCast_nonneg _)]; rfl
  rw [hdv, wrap_by]
  refine al_i fun tb w2 htb a2 e2 z2 => ?_
  refine ap_i 5 1 (vs := by_ [UInt8.ofNat (v / 256 ^ j)]) (s1.ext e2 (fun _ _ h => h)) (.inr ⟨_, rfl, fun k hk => by rw [add_mk, a2.cell, Nat.zero_add]; rfl⟩) rfl (by_one _) (by omega) fun a'' c'' w3 s3 hor hsome e3 => fs ?_
  rw [inc_nat (by omega)]
  have hs1 := e1.size
  refine hnext hlt _ _ ⟨a'', c'', rfl, ?_, fun b hb => ?_, (e1.tr e2).trans e3 (fun _ _ h => h) (fun b hb hx => ?_)⟩
  · rw [le_succ, by_append]
    exact s3
  · rcases hor b hb with h | h
    · exact f1 b h
    · omega
  · have := f1 b hx
    omega

theorem value_c {l : List UInt8} (hl : l.length ≤ 8) (hQ : Q (.int .u64 ((num l : Nat) : Int)) w) : CallE Try.prog 31 #[.string (mkS l)] w Q := by
  apply C.ref34_value
  unfold W.ref34_value
  rw [mkS_size]
  refine LoopW.nat l.length (fun j x w' => x = (((num (l.take j) : Nat) : Int), (j : Int), ()) ∧ w' = w) ⟨rfl, rfl⟩ ?_
  rintro j x w1 next hj ⟨rfl, rfl⟩ hnext
  dsimp only
  by_cases hlt : j < l.length
  case neg =>
    rw [decide_eq_false (by omega), br_false]
    obtain rfl : j = l.length := by omega
    rw [List.take_length]
    exact hQ
  rw [decide_eq_true (by omega), br_true]
  refine qI (sxn j hlt) ?_
  have hx : l.getD j 0 = l[j] := by rw [List.getD_eq_getElem?_getD, List.getElem?_eq_getElem hlt]; rfl
  have hb := l[j].toNat_lt
  rw [hx, wrap_64 (by omega), bits_8 (by omega)]
  refine qI (shl_i (by omega) (by show 8 * (j : Int) ≤ 64; omega)) ?_
  have ht : l.take (j + 1) = l.take j ++ [l[j]] := by rw [List.take_append_getElem hlt]
  have hnum := num_append (l.take j) l[j]
  rw [← ht, List.length_take, Nat.min_eq_left (by omega)] at hnum
  have hlt1 := num_lt (l.take (j + 1))
  have hle : (256 : Nat) ^ (l.take (j + 1)).length ≤ 256 ^ 8 := Nat.pow_le_pow_right (by omega) (by rw [List.length_take]; omega)
  have h64 : num (l.take (j + 1)) < 18446744073709551616 := Nat.lt_of_lt_of_le hlt1 hle
  have hmul : ((l[j].toNat : Nat) : Int) * 2 ^ (8 * (j : Int)).toNat = ((l[j].toNat * 256 ^ j : Nat) : Int) := by rw [pow_8]; rfl
  rw [hmul, wrap_64 (by omega), show ((num (l.take j) : Nat) : Int) + ((l[j].toNat * 256 ^ j : Nat) : Int) = ((num (l.take (j + 1)) : Nat) : Int) by rw [hnum]; rfl, wrap_64 h64, inc_nat (by omega)]
  exact hnext hlt _ _ ⟨rfl, rfl⟩
end
end Go.Proofs.Ytpgekajgbkbpkaa.Im
