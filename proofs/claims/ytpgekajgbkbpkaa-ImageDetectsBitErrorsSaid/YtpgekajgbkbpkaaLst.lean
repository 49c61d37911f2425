/-
  Laws on lists that are laid out as rows of equal length, and on integers that wrap. No program; no condition.
-/
import Derived.Test.YtpgekajgbkbpkaaMem
namespace Go.Ev
open Go

section
variable {α β : Type} {f : α → List β} {m : Nat}

theorem flat_length (hf : ∀ x, (f x).length = m) : ∀ (l : List α), (l.flatMap f).length = l.length * m
  | [] => by simp
  | x :: l => by simp [List.flatMap_cons, hf x, flat_length hf l, Nat.add_mul, Nat.add_comm]

theorem flat_get (hf : ∀ x, (f x).length = m) : ∀ (l : List α) (i j : Nat) (hi : i < l.length), j < m → (l.flatMap f)[i * m + j]? = (f l[i])[j]?
  | x :: l, 0, j, _, hj => by
    rw [List.flatMap_cons, List.getElem?_append_left (by rw [hf x]; omega)]; simp
  | x :: l, i + 1, j, hi, hj => by
    rw [List.flatMap_cons, List.getElem?_append_right (by rw [hf x, Nat.add_mul]; omega), hf x]
    have : (i + 1) * m + j - m = i * m + j := by rw [Nat.add_mul]; omega
    rw [this, flat_get hf l i j (by simpa using hi) hj]; simp

theorem flat_row (hf : ∀ x, (f x).length = m) (l : List α) (i : Nat) (hi : i < l.length) : ((l.flatMap f).drop (i * m)).take m = f l[i] := by
  apply List.ext_getElem?
  intro j
  by_cases hj : j < m
  · rw [List.getElem?_take_of_lt hj, List.getElem?_drop, flat_get hf l i j hi hj]
  · rw [List.getElem?_eq_none (by simp; omega), List.getElem?_eq_none (by rw [hf]; omega)]

theorem flat_set (hf : ∀ x, (f x).length = m) (v : β) (y : α) : ∀ (l : List α) (i j : Nat) (hi : i < l.length), j < m → (f l[i]).set j v = f y → (l.flatMap f).set (i * m + j) v = (l.set i y).flatMap f
  | x :: l, 0, j, _, hj, h => by
    simp only [List.flatMap_cons, List.set_cons_zero]
    rw [List.set_append_left _ _ (by rw [hf x]; omega)]
    simp only [Nat.zero_mul, Nat.zero_add]
    rw [← h]; rfl
  | x :: l, i + 1, j, hi, hj, h => by
    simp only [List.flatMap_cons, List.set_cons_succ]
    rw [List.set_append_right _ _ (by rw [hf x, Nat.add_mul]; omega), hf x]
    have : (i + 1) * m + j - m = i * m + j := by rw [Nat.add_mul]; omega
    rw [this, flat_set hf v y l i j (by simpa using hi) hj (by simpa using h)]

end

theorem wrap_i64 {x : Int} (h0 : -9223372036854775808 ≤ x) (h1 : x ≤ 9223372036854775807) : IntKind.wrap .i64 x = x := by
  simp only [IntKind.wrap, IntKind.bits, IntKind.signed, Bool.true_and]
  split <;> rename_i h <;> simp at h <;> omega
theorem wrap_u64 {x : Int} (h0 : 0 ≤ x) (h1 : x ≤ 18446744073709551615) : IntKind.wrap .u64 x = x := by
  simp only [IntKind.wrap, IntKind.bits, IntKind.signed, Bool.false_and, Bool.false_eq_true, if_false]
  omega
theorem wrap_u64' (x : Int) : IntKind.wrap .u64 x = x % 18446744073709551616 := by
  simp [IntKind.wrap, IntKind.bits, IntKind.signed]
theorem wrap_u32' (x : Int) : IntKind.wrap .u32 x = x % 4294967296 := by
  simp [IntKind.wrap, IntKind.bits, IntKind.signed]
theorem wrap_u8' (x : Int) : IntKind.wrap .u8 x = x % 256 := by
  simp [IntKind.wrap, IntKind.bits, IntKind.signed]
theorem wrap_i64' (x : Int) : IntKind.wrap .i64 x = (x + 9223372036854775808) % 18446744073709551616 - 9223372036854775808 := by
  simp only [IntKind.wrap, IntKind.bits, IntKind.signed, Bool.true_and]
  split <;> rename_i h <;> simp at h <;> omega

end Go.Ev
