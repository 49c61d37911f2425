/-
  More rules: slices held against nil, copy, clones, a slice of a slice. Of any program; no condition.
-/
import Derived.Test.YtpgekajgbkbpkaaQ
namespace Go.Ev
open Go

section
variable {P : Program} {w : World} {t : TypeId}

theorem run_eqGuard_sl {op : BinOp} {x y : Operand} {a b : Option Addr} {n c n' c' : Nat} : (eqGuard op t x y (.slice a n c) (.slice b n' c')).run P w = .ok () w := by
  unfold eqGuard
  cases op <;> rfl
theorem run_equal_slnil {a : Option Addr} {n c : Nat} (ht : isSlT P t = true) : (Op.equal t (.slice a n c) (.slice none 0 0)).run P w = .ok a.isNone w := by
  unfold isSlT at ht
  cases hu : P.underlying t with
  | none => rw [hu] at ht; cases ht
  | some d =>
    rw [hu] at ht
    cases d <;> first | cases ht | skip
    unfold Op.equal Op.maxDepth Op.equalIn
    rw [Sem.run_bind, run_underlying_ok hu]
    cases a <;> rfl
/-- s == nil -/
theorem sl_nil {x y : Operand} {a : Option Addr} {n c : Nat} (ht : isSlT P t = true := by kernel_rfl) :
    ∀ w, (do eqGuard .eql t x y (.slice a n c) (.slice none 0 0); binOp .eql t (.slice a n c) (.slice none 0 0) : Sem Value).run P w = .ok (.bool a.isNone) w := by
  intro w
  rw [Sem.run_bind, run_eqGuard_sl]
  simp only [Result.andThen, binOp]
  rw [Sem.run_bind, run_equal_slnil ht]
  rfl

/-- []byte(s) -/
theorem str_bs {l : List UInt8} {d : TypeId} {K : Value → World → Prop} (e : TypeId) (hK : ∀ b c w', b = w.heap.size → Sl w' e 1 (some ⟨b, 0, none⟩) l.length c (by_ l) → Ext w w' (fun _ => False) → K (.slice (some ⟨b, 0, none⟩) l.length c) w')
    (hs : isStr P t = true := by kernel_rfl) (hd : P.underlying d = some (.slice e) := by kernel_rfl) (he : P.underlying e = some (.int .u8) := by kernel_rfl) : rv P (convert t d (.string (mkS l))) w K := by
  have hc : l.length ≤ grownCap w (mkS l).size 0 e := by
    rw [mkS_size]
    exact Nat.le_add_right _ _
  generalize hcp : grownCap w (mkS l).size 0 e = cap at *
  refine ⟨_, _, run_bytes_of_string w t d e (mkS l) (isStr_eq hs) hd he, ?_⟩
  rw [hcp, mkS_size]
  have hrow : bytesRow (mkS l) cap = (by_ l ++ List.replicate (cap - l.length) (Value.int .u8 0)).toArray := by
    unfold bytesRow
    rw [mkS_size]
    simp [by_, mkS]
  rw [hrow]
  generalize hro : by_ l ++ List.replicate (cap - l.length) (Value.int .u8 0) = row
  have hh : ∀ o : Obj, (w.drew.alloc o).heap = w.heap.push o := fun o => rfl
  refine hK w.heap.size cap _ rfl (.inr ⟨w.heap.size, List.replicate (cap - l.length) (Value.int .u8 0), rfl, ?_, by rw [by_length, Nat.mul_one], by rw [List.length_replicate, Nat.mul_one], hc⟩) ⟨rfl, rfl, rfl, by rw [hh]; simp, fun b hb _ => ?_⟩
  · rw [hro]
    refine ⟨_, by rw [hh, Array.getElem?_push, if_pos rfl], .inr ?_⟩
    simp
  · rw [hh, Array.getElem?_push, if_neg (by omega)]

/-- copy(dst, src), the same number of elements. -/
theorem cp_sl {b n c xc : Nat} {xa : Option Addr} {xs vs : List Value} {t2 t3 : TypeId} {K : Value → World → Prop} (e : TypeId) (m : Nat) (hs : Sl w e m (some ⟨b, 0, none⟩) n c xs) (hx : Reads w xa vs) (hl : vs.length = n * m) (hone : ∀ v ∈ vs, one v = true)
    (hK : ∀ w', Sl w' e m (some ⟨b, 0, none⟩) n c vs → Ext w w' (· = b) → w'.heap.size = w.heap.size → K (.int .i64 (n : Int)) w')
    (hu : P.underlying t = some (.slice e) := by kernel_rfl) (hm : sizeT P e = m := by kernel_rfl) (hh : hasT P e = true := by kernel_rfl) :
    rv P (Builtin.copy_ #[t, t2] t3 #[.slice (some ⟨b, 0, none⟩) n c, .slice xa n xc]) w K := by
  rcases hs with ⟨h, _⟩ | ⟨b', sp, hb, h1, h2, h3, h4⟩
  · cases h
  simp only [Option.some.injEq, Addr.mk.injEq, and_true] at hb
  subst hb
  obtain ⟨w', hr, ha, he, hz⟩ := run_storeCells (P := P) (b := b) (o := 0) vs (xs ++ sp) w 0 h1 hone (by rw [List.length_append]; omega)
  have hsp : splice (xs ++ sp) 0 vs = vs ++ sp := by
    rw [splice_eq _ _ _ (by rw [List.length_append]; omega)]
    simp only [List.take_zero, List.nil_append, Nat.zero_add]
    rw [hl, ← h2, List.drop_left]
  refine ⟨.int .i64 (n : Int), w', ?_, hK w' (.inr ⟨b, sp, rfl, ?_, hl, h3, h4⟩) he hz⟩
  · unfold Builtin.copy_
    simp only [List.getElem?_toArray, List.getElem?_cons_zero, List.getElem?_cons_succ, Sem.run_bind, run_underlying_ok hu, Result.andThen, Builtin.lenOf, Sem.run_pure, run_sizeOf hm hh]
    rw [show Nat.min n n = n from Nat.min_self n, run_firstCells hx hl]
    simp only [Result.andThen, Sem.run_bind]
    rw [hr]
    rfl
  · rw [← hsp]; exact ha
theorem Sl.one_block {w : World} {e : TypeId} {m : Nat} {a : Option Addr} {n c : Nat} {xs : List Value} (h : Sl w e m a n c xs) (hn : 0 < n) : ∃ b, a = some ⟨b, 0, none⟩ := by
  rcases h with ⟨_, h0, _⟩ | ⟨b, sp, rfl, _⟩
  · omega
  · exact ⟨b, rfl⟩
theorem Sl.at_ {w : World} {e : TypeId} {m b n c : Nat} {xs : List Value} (h : Sl w e m (some ⟨b, 0, none⟩) n c xs) : ∃ sp, At w b (xs ++ sp) e ∧ xs.length = n * m ∧ sp.length = (c - n) * m ∧ n ≤ c := by
  rcases h with ⟨h, _⟩ | ⟨b', sp, hb, h1, h2, h3, h4⟩
  · cases h
  simp only [Option.some.injEq, Addr.mk.injEq, and_true] at hb
  subst hb
  exact ⟨sp, h1, h2, h3, h4⟩
theorem Sl.len_ {w : World} {e : TypeId} {m : Nat} {a : Option Addr} {n c : Nat} {xs : List Value} (h : Sl w e m a n c xs) : xs.length = n * m := by
  rcases h with ⟨_, rfl, _, rfl⟩ | ⟨b, sp, rfl, _, h, _⟩
  · simp
  · exact h
theorem Sl.lt {w : World} {e : TypeId} {m b n c : Nat} {xs : List Value} (h : Sl w e m (some ⟨b, 0, none⟩) n c xs) : b < w.heap.size := by
  obtain ⟨sp, h, _⟩ := h.at_
  exact h.lt
/-- One cell of a slice of the code's own is loaded. -/
theorem slL {b n c o : Nat} {xs : List Value} {e : TypeId} {m : Nat} {v : Value} {K : Value → Prop} (h : Sl w e m (some ⟨b, 0, none⟩) n c xs) (hc : xs[o]? = some v) (hK : K v) (ht : isScal P t = true := by kernel_rfl) : ld P t ⟨b, o, none⟩ w K := by
  obtain ⟨sp, h1, _⟩ := h.at_
  refine ld_i h1 ?_ hK ht
  rcases Nat.lt_or_ge o xs.length with h2 | h2
  · rw [List.getElem?_append_left h2]; exact hc
  · rw [List.getElem?_eq_none h2] at hc; cases hc
/-- One cell of a slice of the code's own is written. -/
theorem slS {b n c o : Nat} {xs : List Value} {e : TypeId} {m : Nat} {v : Value} {K : World → Prop} (h : Sl w e m (some ⟨b, 0, none⟩) n c xs) (ho : o < xs.length)
    (hK : ∀ w', Sl w' e m (some ⟨b, 0, none⟩) n c (xs.set o v) → Ext w w' (· = b) → w'.heap.size = w.heap.size → K w') (hv : one v = true := by rfl) (hs : sizeT P t = 1 := by kernel_rfl) (hh : hasT P t = true := by kernel_rfl) : st P t ⟨b, o, none⟩ v w K := by
  obtain ⟨sp, h1, h2, h3, h4⟩ := h.at_
  refine st_i h1 (by rw [List.length_append]; omega) (fun w' a e z => hK w' ?_ e z) hv hs hh
  rw [List.set_append_left _ _ ho] at a
  exact .inr ⟨b, sp, rfl, a, by rw [List.length_set]; exact h2, h3, h4⟩
theorem Reads.ext {w w' : World} {a : Option Addr} {vs : List Value} {X : Nat → Prop} (h : Reads w a vs) (he : Ext w w' X) (hx : ∀ p, a = some p → vs ≠ [] → ¬ X p.block) : Reads w' a vs := by
  by_cases h0 : vs = []
  · exact .inl h0
  rcases h with h | ⟨p, rfl, hc⟩
  · exact .inl h
  · refine .inr ⟨p, rfl, fun j hj => ?_⟩
    have hb : (p.add j).block = p.block := by unfold Addr.add; split <;> rfl
    have h1 := hc j hj
    rw [List.getElem?_eq_getElem hj] at h1
    have hlt := cell_lt h1
    rw [hb] at hlt
    rw [cell_ext he (by rw [hb]; exact hlt) (by rw [hb]; exact hx p rfl h0), h1, List.getElem?_eq_getElem hj]
/-- One cell of a slice that came in. -/
theorem rdL {p : Addr} {o : Nat} {vs : List Value} {v : Value} {K : Value → Prop} (h : Reads w (some p) vs) (hc : vs[o]? = some v) (hK : K v) (ht : isScal P t = true := by kernel_rfl) : ld P t (p.add o) w K := by
  rcases h with rfl | ⟨p', hp, h⟩
  · simp at hc
  · cases hp
    refine ld_c ?_ hK ht
    rcases Nat.lt_or_ge o vs.length with h2 | h2
    · rw [h o h2, hc]
    · rw [List.getElem?_eq_none h2] at hc; cases hc
theorem Reads.some_ {a : Option Addr} {vs : List Value} (h : Reads w a vs) (h0 : 0 < vs.length) : ∃ p, a = some p := by
  rcases h with rfl | ⟨p, rfl, _⟩
  · simp at h0
  · exact ⟨p, rfl⟩
/-- s[i:] -/
theorem sl_from {a : Addr} {n c i : Nat} {k : IntKind} (e : TypeId) (m : Nat) (hi : i ≤ n) (hic : i < c) (hu : P.underlying t = some (.slice e) := by kernel_rfl) (hm : sizeT P e = m := by kernel_rfl) (hh : hasT P e = true := by kernel_rfl) :
    ∀ w, (Instr.sliceAt t (.slice (some a) n c) (some (.int k (i : Int))) none none).run P w = .ok (.slice (some (a.add (i * m))) (n - i) (c - i)) w := by
  intro w
  unfold Instr.sliceAt Instr.slice
  simp only [Sem.run_bind, Result.andThen, run_underlying_ok hu, Instr.sliceBounds, Sem.run_pure, run_sliceBound (show (0 : Int) ≤ (i : Int) by omega) (show (i : Int) ≤ (n : Int) by omega), Int.toNat_natCast, run_sizeOf hm hh, Option.map_some]
  rw [if_neg (by omega)]
/-- s[:i] -/
theorem sl_to {a : Addr} {n c i : Nat} {k : IntKind} (e : TypeId) (hi : i ≤ c) (hu : P.underlying t = some (.slice e) := by kernel_rfl) (hh : hasT P e = true := by kernel_rfl) :
    ∀ w, (Instr.sliceAt t (.slice (some a) n c) none (some (.int k (i : Int))) none).run P w = .ok (.slice (some a) i c) w := by
  intro w
  unfold Instr.sliceAt Instr.slice
  simp only [Sem.run_bind, Result.andThen, run_underlying_ok hu, Instr.sliceBounds, Sem.run_pure, run_sliceBound (show (0 : Int) ≤ (i : Int) by omega) (show (i : Int) ≤ (c : Int) by omega), Int.toNat_natCast, run_sizeOf rfl hh, Option.map_some, Nat.zero_mul, Nat.sub_zero]
  have : a.add 0 = a := by unfold Addr.add; rw [if_pos rfl]
  rw [this, ite_self]
/-- copy(dst, src), into a part of a block. -/
theorem cp_at {b o dn dc xn xc : Nat} {xa : Option Addr} {cs vs : List Value} {T t2 t3 : TypeId} {K : Value → World → Prop} (e : TypeId) (m : Nat) (h : At w b cs T) (hx : Reads w xa vs) (hl : vs.length = min xn dn * m) (ho : o + vs.length ≤ cs.length) (hone : ∀ v ∈ vs, one v = true)
    (hK : ∀ w', At w' b (splice cs o vs) T → Ext w w' (· = b) → w'.heap.size = w.heap.size → K (.int .i64 ((min xn dn : Nat) : Int)) w')
    (hu : P.underlying t = some (.slice e) := by kernel_rfl) (hm : sizeT P e = m := by kernel_rfl) (hh : hasT P e = true := by kernel_rfl) :
    rv P (Builtin.copy_ #[t, t2] t3 #[.slice (some ⟨b, o, none⟩) dn dc, .slice xa xn xc]) w K := by
  obtain ⟨w', hr, ha, he, hz⟩ := run_storeCells (P := P) (b := b) (o := o) vs cs w 0 h hone (by omega)
  refine ⟨.int .i64 ((min xn dn : Nat) : Int), w', ?_, hK w' ha he hz⟩
  unfold Builtin.copy_
  simp only [List.getElem?_toArray, List.getElem?_cons_zero, List.getElem?_cons_succ, Sem.run_bind, run_underlying_ok hu, Result.andThen, Builtin.lenOf, Sem.run_pure, run_sizeOf hm hh]
  rw [show Nat.min xn dn = min xn dn from rfl, run_firstCells hx hl]
  simp only [Result.andThen, Sem.run_bind]
  rw [hr]
  rfl
end
end Go.Ev
