/-
  Laws on strings of bytes, shifts and conversions. Of any program; no condition.
-/
import Derived.Test.YtpgekajgbkbpkaaSli
import Derived.Laws.IdiomStrings
import Derived.Laws.Strings
namespace Go.Ev
open Go

def mkS (l : List UInt8) : ByteArray := ⟨l.toArray⟩
theorem mkS_size (l : List UInt8) : (mkS l).size = l.length := by simp [mkS, ByteArray.size]
theorem mkS_of (s : ByteArray) : s = mkS s.data.toList := by cases s; simp [mkS]
theorem mkS_inj {a b : List UInt8} : mkS a = mkS b ↔ a = b := by
  constructor
  · intro h
    have := congrArg (fun s => s.data.toList) h
    simpa [mkS] using this
  · rintro rfl; rfl
theorem mkS_nil : (⟨#[]⟩ : ByteArray) = mkS [] := rfl
theorem mkS_extract (l : List UInt8) (a b : Nat) : (mkS l).extract a b = mkS ((l.take b).drop a) := by
  rw [mkS_of ((mkS l).extract a b)]
  congr 1
  rw [ByteArray.data_extract]
  simp [mkS, List.extract_eq_take_drop, List.drop_take]
theorem mkS_append (a b : List UInt8) : mkS a ++ mkS b = mkS (a ++ b) := by
  rw [mkS_of (mkS a ++ mkS b)]
  congr 1
theorem mkS_get (l : List UInt8) (i : Nat) : (mkS l)[i]? = l[i]? := by
  by_cases h : i < l.length
  · rw [getElem?_pos (mkS l) i (by rw [mkS_size]; exact h), List.getElem?_eq_getElem h]
    congr 1
  · rw [getElem?_neg (mkS l) i (by rw [mkS_size]; exact h), List.getElem?_eq_none (by omega)]

/-- The cells of a row of bytes. -/
def by_ (l : List UInt8) : List Value := l.map fun b => .int .u8 (b.toNat : Int)
theorem by_length (l : List UInt8) : (by_ l).length = l.length := by simp [by_]
theorem by_append (a b : List UInt8) : by_ (a ++ b) = by_ a ++ by_ b := by simp [by_]
theorem by_one (l : List UInt8) : ∀ v ∈ by_ l, one v = true := by
  intro v hv
  simp only [by_, List.mem_map] at hv
  obtain ⟨b, _, rfl⟩ := hv
  rfl
theorem by_get (l : List UInt8) (i : Nat) : (by_ l)[i]? = (l[i]?).map fun b => Value.int .u8 (b.toNat : Int) := by simp [by_]

section
variable {P : Program} {w : World} {t : TypeId}

theorem rq_r {s : Sem Value} {v : Value} {K : Value → Prop} (h : ∀ w, s.run P w = .ok v w) (hK : K v) : rq P s w K := ⟨v, h w, hK⟩
theorem rqS_r {S : World → Prop} {s : Sem Value} {v : Value} {K : Value → Prop} (h : ∀ w, s.run P w = .ok v w) (hK : K v) : rqS P S s K := ⟨v, fun w _ => h w, hK⟩

def isStr (P : Program) (t : TypeId) : Bool :=
  match P.underlying t with
  | some .string => true
  | _ => false
theorem isStr_eq (h : isStr P t = true) : P.underlying t = some .string := by
  unfold isStr at h
  split at h
  · assumption
  · cases h

/-- s[i] -/
theorem sx {l : List UInt8} {k : IntKind} {i : Int} (h0 : 0 ≤ i) (h1 : i < l.length) (ht : isStr P t = true := by kernel_rfl) :
    ∀ w, (Instr.index t (.string (mkS l)) (.int k i)).run P w = .ok (.int .u8 ((l[i.toNat]'(by omega)).toNat : Int)) w := by
  intro w
  unfold Instr.index
  simp only [asIntOf, Sem.run_bind, Sem.run_pure, Result.andThen, run_underlying_ok (isStr_eq ht)]
  rw [if_pos h0, mkS_get, List.getElem?_eq_getElem (by omega)]
  rfl

/-- s[i], the byte by its number. -/
theorem sxn {l : List UInt8} {k : IntKind} (i : Nat) (h1 : i < l.length) (ht : isStr P t = true := by kernel_rfl) :
    ∀ w, (Instr.index t (.string (mkS l)) (.int k (i : Int))).run P w = .ok (.int .u8 ((l.getD i 0).toNat : Int)) w := by
  intro w
  rw [sx (by omega) (by omega) ht, List.getD_eq_getElem?_getD, List.getElem?_eq_getElem h1]
  rfl

theorem run_sliceBound {k : IntKind} {i : Int} {n : Nat} {c : BoundsCode} (h0 : 0 ≤ i) (h1 : i ≤ n) : (Instr.sliceBound (.int k i) n c).run P w = .ok i.toNat w := by
  unfold Instr.sliceBound
  simp only [asIntOf, Sem.run_bind, Sem.run_pure, Result.andThen]
  rw [if_pos ⟨h0, h1⟩]
  rfl

/-- s[a:] -/
theorem s_lo {l : List UInt8} {k : IntKind} {i : Int} (h0 : 0 ≤ i) (h1 : i ≤ l.length) (ht : isStr P t = true := by kernel_rfl) :
    ∀ w, (Instr.sliceAt t (.string (mkS l)) (some (.int k i)) none none).run P w = .ok (.string (mkS (l.drop i.toNat))) w := by
  intro w
  unfold Instr.sliceAt Instr.slice
  simp only [Sem.run_bind, Result.andThen, run_underlying_ok (isStr_eq ht), Instr.sliceBounds, Sem.run_pure, mkS_size, run_sliceBound h0 h1, Option.isSome_none, Bool.false_eq_true, if_false, mkS_extract, List.take_length]
/-- s[:b] -/
theorem s_hi {l : List UInt8} {k : IntKind} {i : Int} (h0 : 0 ≤ i) (h1 : i ≤ l.length) (ht : isStr P t = true := by kernel_rfl) :
    ∀ w, (Instr.sliceAt t (.string (mkS l)) none (some (.int k i)) none).run P w = .ok (.string (mkS (l.take i.toNat))) w := by
  intro w
  unfold Instr.sliceAt Instr.slice
  simp only [Sem.run_bind, Result.andThen, run_underlying_ok (isStr_eq ht), Instr.sliceBounds, Sem.run_pure, mkS_size, run_sliceBound h0 h1, Option.isSome_none, Bool.false_eq_true, if_false, mkS_extract, List.drop_zero]
/-- s[a:b] -/
theorem s_lh {l : List UInt8} {k k' : IntKind} {i j : Int} (h0 : 0 ≤ i) (hij : i ≤ j) (h1 : j ≤ l.length) (ht : isStr P t = true := by kernel_rfl) :
    ∀ w, (Instr.sliceAt t (.string (mkS l)) (some (.int k i)) (some (.int k' j)) none).run P w = .ok (.string (mkS ((l.take j.toNat).drop i.toNat))) w := by
  intro w
  unfold Instr.sliceAt Instr.slice
  simp only [Sem.run_bind, Result.andThen, run_underlying_ok (isStr_eq ht), Instr.sliceBounds, Sem.run_pure, mkS_size, run_sliceBound (show 0 ≤ j by omega) h1, run_sliceBound (n := j.toNat) h0 (by omega), Option.isSome_none, Bool.false_eq_true, if_false, mkS_extract]

theorem toList_mkS (l : List UInt8) : (mkS l).toList = l := by
  rw [ByteArray.toList_eq]
  simp [mkS]

/-- a + b -/
theorem s_add {a b : List UInt8} {x y : Operand} (h : a.length + b.length < 9223372036854775807) :
    ∀ w, (do eqGuard .add t x y (.string (mkS a)) (.string (mkS b)); binOp .add t (.string (mkS a)) (.string (mkS b)) : Sem Value).run P w = .ok (.string (mkS (a ++ b))) w := by
  intro w
  rw [Sem.run_bind, run_eqGuard_other (by simp) (by simp)]
  simp only [Result.andThen, binOp, Op.stringOp, mkS_size, mkS_append]
  rw [if_neg (by simp [IntKind.max, IntKind.signed, IntKind.bits]; omega)]
  rfl
theorem run_eqGuard_str {op : BinOp} {x y : Operand} {a b : ByteArray} : (eqGuard op t x y (.string a) (.string b)).run P w = .ok () w := by
  unfold eqGuard
  cases op <;> rfl
/-- a == b -/
theorem s_eq {a b : List UInt8} {x y : Operand} :
    ∀ w, (do eqGuard .eql t x y (.string (mkS a)) (.string (mkS b)); binOp .eql t (.string (mkS a)) (.string (mkS b)) : Sem Value).run P w = .ok (.bool (decide (a = b))) w := by
  intro w
  rw [Sem.run_bind, run_eqGuard_str]
  simp only [Result.andThen, binOp, Op.stringOp, toList_mkS]
  rw [show (a == b) = decide (a = b) by by_cases h : a = b <;> simp [h]]
  rfl
/-- a != b -/
theorem s_ne {a b : List UInt8} {x y : Operand} :
    ∀ w, (do eqGuard .neq t x y (.string (mkS a)) (.string (mkS b)); binOp .neq t (.string (mkS a)) (.string (mkS b)) : Sem Value).run P w = .ok (.bool (!decide (a = b))) w := by
  intro w
  rw [Sem.run_bind, run_eqGuard_str]
  simp only [Result.andThen, binOp, Op.stringOp, toList_mkS]
  rw [show (a == b) = decide (a = b) by by_cases h : a = b <;> simp [h]]
  rfl

/-- x << n, x >> n -/
theorem shl_i {k k' : IntKind} {a b : Int} {x y : Operand} (h0 : 0 ≤ b) (h1 : b ≤ k.bits) :
    ∀ w, (do eqGuard .shl t x y (.int k a) (.int k' b); binOp .shl t (.int k a) (.int k' b) : Sem Value).run P w = .ok (.int k (k.wrap (a * 2 ^ b.toNat))) w := by
  intro w
  rw [Sem.run_bind, run_eqGuard_other (by simp) (by simp)]
  simp only [Result.andThen, binOp, Op.shift]
  rw [if_neg (by omega), Nat.min_eq_left (by omega)]
  rfl
theorem shr_i {k k' : IntKind} {a b : Int} {x y : Operand} (h0 : 0 ≤ b) (h1 : b ≤ k.bits) :
    ∀ w, (do eqGuard .shr t x y (.int k a) (.int k' b); binOp .shr t (.int k a) (.int k' b) : Sem Value).run P w = .ok (.int k (a.fdiv (2 ^ b.toNat))) w := by
  intro w
  rw [Sem.run_bind, run_eqGuard_other (by simp) (by simp)]
  simp only [Result.andThen, binOp, Op.shift]
  rw [if_neg (by omega), Nat.min_eq_left (by omega)]
  rfl

def isBytes (P : Program) (t : TypeId) : Bool :=
  match P.underlying t with
  | some (.slice e) => (match P.underlying e with | some (.int .u8) => true | _ => false)
  | _ => false

/-- string(bytes) -/
theorem bs_str {a : Option Addr} {n c : Nat} {l : List UInt8} {d : TypeId} {K : Value → World → Prop} (h : Reads w a (by_ l)) (hl : l.length = n) (hK : K (.string (mkS l)) w)
    (ht : isBytes P t = true := by kernel_rfl) (hd : isStr P d = true := by kernel_rfl) : rv P (convert t d (.slice a n c)) w K := by
  refine ⟨_, _, ?_, hK⟩
  unfold isBytes at ht
  split at ht
  · rename_i e hu
    split at ht
    · rename_i he
      cases a with
      | none =>
        rcases h with h | ⟨p, hp, _⟩
        · have : l = [] := by cases l with | nil => rfl | cons _ _ => simp [by_] at h
          subst this
          rw [run_convert_bytes_string w t d e none n c hu he (isStr_eq hd)]
          rfl
        · cases hp
      | some p =>
        subst hl
        refine run_convert_bytes_back w t d e p c l hu he (isStr_eq hd) ?_
        intro j hj
        rcases h with h | ⟨p', hp, hc⟩
        · have : l = [] := by cases l with | nil => rfl | cons _ _ => simp [by_] at h
          subst this
          simp at hj
        · cases hp
          rw [hc j (by rw [by_length]; exact hj), by_get, List.getElem?_eq_getElem hj]
          rfl
    · cases ht
  · cases ht

def arrT (P : Program) (t : TypeId) (n : Nat) : Bool :=
  match P.underlying t with
  | some (.array m e) => Nat.beq m n && hasT P e
  | _ => false
/-- arr[:] -/
theorem a_all {a : Addr} (n : Nat) (ht : arrT P t n = true := by kernel_rfl) :
    ∀ w, (Instr.sliceAt t (.pointer (some a)) none none none).run P w = .ok (.slice (some a) n n) w := by
  intro w
  unfold arrT at ht
  split at ht
  · rename_i m e hu
    simp only [Bool.and_eq_true] at ht
    obtain rfl := Nat.eq_of_beq_eq_true ht.1
    unfold Instr.sliceAt
    simp only [Sem.run_bind, Result.andThen, run_underlying_ok hu, Instr.sliceBounds, Sem.run_pure, Instr.sureAddr, run_sizeOf rfl ht.2, Nat.sub_zero, Nat.zero_mul]
    have : a.add 0 = a := by unfold Addr.add; rw [if_pos rfl]
    rw [this, ite_self]
  · cases ht
end
end Go.Ev
