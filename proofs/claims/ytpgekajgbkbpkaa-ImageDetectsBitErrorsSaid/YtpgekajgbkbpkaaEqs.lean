/-
  Comparison of arrays of bytes and of structs. Of any program; no condition beyond those stated.
-/
import Derived.Test.YtpgekajgbkbpkaaR
import Derived.ChangeKeysEq
namespace Go.Ev
open Go

section
variable {P : Program} {w : World} {t e : TypeId}
theorem run_partS {xs : List Value} {off : Nat} {v : Value} (hs : isScal P e = true) (h : xs[off]? = some v) : (part e xs.toArray off).run P w = .ok v w := by
  unfold part
  rw [Sem.run_bind, run_isAgg_false hs]
  simp [Result.andThen, h]
theorem run_partG {xs : List Value} {off n : Nat} (hs : isAggT P e = true) (hn : sizeT P e = n) (hh : hasT P e = true) : (part e xs.toArray off).run P w = .ok (.agg ((xs.drop off).take n).toArray) w := by
  unfold part
  rw [Sem.run_bind, run_isAgg_true hs]
  simp only [Result.andThen, if_true]
  rw [Sem.run_bind, run_sizeOf hn hh]
  simp [Result.andThen, List.extract_eq_take_drop]
theorem eqItems_u8 {d : Nat} {a b : List UInt8} (hu : P.underlying e = some (.int .u8)) (hs : isScal P e = true) : ∀ (is : List Nat), (∀ i ∈ is, i < a.length ∧ i < b.length) →
    (Op.eqItems (d + 1) e 1 (by_ a).toArray (by_ b).toArray is).run P w = .ok (is.all fun i => decide (a[i]? = b[i]?)) w
  | [], _ => rfl
  | i :: is, h => by
    obtain ⟨ha, hb⟩ := h i (.head _)
    have ih := eqItems_u8 (d := d) hu hs is fun j hj => h j (.tail _ hj)
    have pa : (part e (by_ a).toArray (i * 1)).run P w = .ok (.int .u8 (a[i].toNat : Int)) w := run_partS hs (by rw [Nat.mul_one, by_get, List.getElem?_eq_getElem ha]; rfl)
    have pb : (part e (by_ b).toArray (i * 1)).run P w = .ok (.int .u8 (b[i].toNat : Int)) w := run_partS hs (by rw [Nat.mul_one, by_get, List.getElem?_eq_getElem hb]; rfl)
    have pe : (Op.equalIn (d + 1) e (.int .u8 (a[i].toNat : Int)) (.int .u8 (b[i].toNat : Int))).run P w = .ok (((a[i].toNat : Int)) == ((b[i].toNat : Int))) w := run_equalIn_int w d e .u8 .u8 _ _ hu
    unfold Op.eqItems
    rw [Sem.run_bind, pa]
    simp only [Result.andThen]
    rw [Sem.run_bind, pb]
    simp only [Result.andThen]
    rw [Sem.run_bind, pe]
    simp only [Result.andThen]
    rw [List.all_cons, List.getElem?_eq_getElem ha, List.getElem?_eq_getElem hb]
    by_cases hc : a[i] = b[i]
    · rw [hc]
      simpa using ih
    · have hne : ¬ ((a[i].toNat : Int) = (b[i].toNat : Int)) := fun h => hc (UInt8.toNat_inj.1 (by omega))
      simp [hc, hne]
/-- [n]byte == [n]byte -/
theorem eq_bytes {d n : Nat} {a b : List UInt8} (e : TypeId) (ha : a.length = n) (hb : b.length = n) (ht : P.underlying t = some (.array n e) := by kernel_rfl) (hu : P.underlying e = some (.int .u8) := by kernel_rfl) (hs : isScal P e = true := by kernel_rfl) (hh : (P.info? e).isSome = true := by kernel_rfl) (hc : P.cellsOf e = 1 := by kernel_rfl) :
    (Op.equalIn (d + 2) t (.agg (by_ a).toArray) (.agg (by_ b).toArray)).run P w = .ok (decide (a = b)) w := by
  obtain ⟨i, hi⟩ := Option.isSome_iff_exists.1 hh
  rw [run_equalIn_array w (d + 1) (by_ a).toArray (by_ b).toArray ht hi, hc, eqItems_u8 hu hs (List.range n) (fun j hj => by rw [List.mem_range] at hj; omega)]
  congr 1
  by_cases h : a = b
  · subst h; simp
  · rw [decide_eq_false h, Bool.eq_false_iff]
    intro hall
    apply h
    apply List.ext_getElem?
    intro j
    by_cases hj : j < n
    · have := List.all_eq_true.1 hall j (List.mem_range.2 hj)
      exact of_decide_eq_true this
    · rw [List.getElem?_eq_none (by omega), List.getElem?_eq_none (by omega)]
theorem eqFields_cons {d : Nat} {xs ys : List Value} {f : Field} {fs : List Field} {a b : Value} {r s : Bool} (hn : (f.name == "_") = false) (ha : (part f.type xs.toArray f.offset).run P w = .ok a w) (hb : (part f.type ys.toArray f.offset).run P w = .ok b w)
    (hr : (Op.equalIn d f.type a b).run P w = .ok r w) (hs : (Op.eqFields d xs.toArray ys.toArray fs).run P w = .ok s w) : (Op.eqFields d xs.toArray ys.toArray (f :: fs)).run P w = .ok (r && s) w := by
  unfold Op.eqFields
  have hn' : f.name ≠ "_" := by
    intro hc
    rw [hc] at hn
    simp at hn
  rw [if_pos hn']
  simp only [Sem.run_bind, ha, hb, hr, Result.andThen]
  cases r
  · rfl
  · simpa using hs
/-- == and != of structs and arrays, from what the comparison gives. -/
theorem agg_eq {x y : Operand} {xs ys : Array Value} {r : Bool} (h : (Op.equalIn 10000 t (.agg xs) (.agg ys)).run P w = .ok r w) (hm : P.eqGuardType P.depth t = false := by kernel_rfl) :
    (do eqGuard .eql t x y (.agg xs) (.agg ys); binOp .eql t (.agg xs) (.agg ys) : Sem Value).run P w = .ok (.bool r) w := by
  rw [Sem.run_bind, run_eqGuard_agg w .eql t x y xs ys hm]
  simp only [Result.andThen]
  rw [run_eql_struct, h]
  rfl
theorem agg_ne {x y : Operand} {xs ys : Array Value} {r : Bool} (h : (Op.equalIn 10000 t (.agg xs) (.agg ys)).run P w = .ok r w) (hm : P.eqGuardType P.depth t = false := by kernel_rfl) :
    (do eqGuard .neq t x y (.agg xs) (.agg ys); binOp .neq t (.agg xs) (.agg ys) : Sem Value).run P w = .ok (.bool (!r)) w := by
  rw [Sem.run_bind, run_eqGuard_agg w .neq t x y xs ys hm]
  simp only [Result.andThen]
  rw [run_neq_struct, h]
  rfl
end
end Go.Ev
