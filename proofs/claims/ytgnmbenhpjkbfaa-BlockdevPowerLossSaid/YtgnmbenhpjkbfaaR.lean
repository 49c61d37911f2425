/-
  More rules: slices held against nil, copy, clones, a slice of a slice. Of any program; no condition.
-/
import Derived.Test.YtgnmbenhpjkbfaaQ
namespace Go.Ev
open Go

section
variable {P : Program} {w : World} {t : TypeId}

theorem run_eqGuard_sl {op : BinOp} {x y : Operand} {a b : Option Addr} {n c n' c' : Nat} : (eqGuard op t x y (.slice a n c) (.slice b n' c')).run P w = .ok () w := by
  unfold eqGuard
  cases op <;> rfl
theorem run_equal_slnil {a : Option Addr} {n c : Nat} (ht : isSlT P t = true) : (Op.equal t (.slice a n c) (.slice none 0 0)).run P w = .ok a.isNone w := by
  unfold isSlT at ht
  cases hu : P.underlying t with
  | none => rw [hu] at ht; cases ht
  | some d =>
    rw [hu] at ht
    cases d <;> first | cases ht | skip
    unfold Op.equal Op.maxDepth Op.equalIn
    rw [Sem.run_bind, run_underlying_ok hu]
    cases a <;> rfl
/-- s == nil -/
theorem sl_nil {x y : Operand} {a : Option Addr} {n c : Nat} (ht : isSlT P t = true := by kernel_rfl) :
    ∀ w, (do eqGuard .eql t x y (.slice a n c) (.slice none 0 0); binOp .eql t (.slice a n c) (.slice none 0 0) : Sem Value).run P w = .ok (.bool a.isNone) w := by
  intro w
  rw [Sem.run_bind, run_eqGuard_sl]
  simp only [Result.andThen, binOp]
  rw [Sem.run_bind, run_equal_slnil ht]
  rfl

/-- copy(dst, src), the same number of elements. -/
theorem cp_sl {b n c xc : Nat} {xa : Option Addr} {xs vs : List Value} {t2 t3 : TypeId} {K : Value → World → Prop} (e : TypeId) (m : Nat) (hs : Sl w e m (some ⟨b, 0, none⟩) n c xs) (hx : Reads w xa vs) (hl : vs.length = n * m) (hone : ∀ v ∈ vs, one v = true)
    (hK : ∀ w', Sl w' e m (some ⟨b, 0, none⟩) n c vs → Ext w w' (· = b) → w'.heap.size = w.heap.size → K (.int .i64 (n : Int)) w')
    (hu : P.underlying t = some (.slice e) := by kernel_rfl) (hm : sizeT P e = m := by kernel_rfl) (hh : hasT P e = true := by kernel_rfl) :
    rv P (Builtin.copy_ #[t, t2] t3 #[.slice (some ⟨b, 0, none⟩) n c, .slice xa n xc]) w K := by
  rcases hs with ⟨h, _⟩ | ⟨b', sp, hb, h1, h2, h3, h4⟩
  · cases h
  simp only [Option.some.injEq, Addr.mk.injEq, and_true] at hb
  subst hb
  obtain ⟨w', hr, ha, he, hz⟩ := run_storeCells (P := P) (b := b) (o := 0) vs (xs ++ sp) w 0 h1 hone (by rw [List.length_append]; omega)
  have hsp : splice (xs ++ sp) 0 vs = vs ++ sp := by
    rw [splice_eq _ _ _ (by rw [List.length_append]; omega)]
    simp only [List.take_zero, List.nil_append, Nat.zero_add]
    rw [hl, ← h2, List.drop_left]
  refine ⟨.int .i64 (n : Int), w', ?_, hK w' (.inr ⟨b, sp, rfl, ?_, hl, h3, h4⟩) he hz⟩
  · unfold Builtin.copy_
    simp only [List.getElem?_toArray, List.getElem?_cons_zero, List.getElem?_cons_succ, Sem.run_bind, run_underlying_ok hu, Result.andThen, Builtin.lenOf, Sem.run_pure, run_sizeOf hm hh]
    rw [show Nat.min n n = n from Nat.min_self n, run_firstCells hx hl]
    simp only [Result.andThen, Sem.run_bind]
    rw [hr]
    rfl
  · rw [← hsp]; exact ha
theorem Sl.one_block {w : World} {e : TypeId} {m : Nat} {a : Option Addr} {n c : Nat} {xs : List Value} (h : Sl w e m a n c xs) (hn : 0 < n) : ∃ b, a = some ⟨b, 0, none⟩ := by
  rcases h with ⟨_, h0, _⟩ | ⟨b, sp, rfl, _⟩
  · omega
  · exact ⟨b, rfl⟩
theorem Sl.at_ {w : World} {e : TypeId} {m b n c : Nat} {xs : List Value} (h : Sl w e m (some ⟨b, 0, none⟩) n c xs) : ∃ sp, At w b (xs ++ sp) e ∧ xs.length = n * m ∧ sp.length = (c - n) * m ∧ n ≤ c := by
  rcases h with ⟨h, _⟩ | ⟨b', sp, hb, h1, h2, h3, h4⟩
  · cases h
  simp only [Option.some.injEq, Addr.mk.injEq, and_true] at hb
  subst hb
  exact ⟨sp, h1, h2, h3, h4⟩
theorem Sl.len_ {w : World} {e : TypeId} {m : Nat} {a : Option Addr} {n c : Nat} {xs : List Value} (h : Sl w e m a n c xs) : xs.length = n * m := by
  rcases h with ⟨_, rfl, _, rfl⟩ | ⟨b, sp, rfl, _, h, _⟩
  · simp
  · exact h
theorem Sl.lt {w : World} {e : TypeId} {m b n c : Nat} {xs : List Value} (h : Sl w e m (some ⟨b, 0, none⟩) n c xs) : b < w.heap.size := by
  obtain ⟨sp, h, _⟩ := h.at_
  exact h.lt
/-- One cell of a slice of the code's own is loaded. -/
theorem slL {b n c o : Nat} {xs : List Value} {e : TypeId} {m : Nat} {v : Value} {K : Value → Prop} (h : Sl w e m (some ⟨b, 0, none⟩) n c xs) (hc : xs[o]? = some v) (hK : K v) (ht : isScal P t = true := by kernel_rfl) : ld P t ⟨b, o, none⟩ w K := by
  obtain ⟨sp, h1, _⟩ := h.at_
  refine ld_i h1 ?_ hK ht
  rcases Nat.lt_or_ge o xs.length with h2 | h2
  · rw [List.getElem?_append_left h2]; exact hc
  · rw [List.getElem?_eq_none h2] at hc; cases hc
/-- One cell of a slice of the code's own is written. -/
theorem slS {b n c o : Nat} {xs : List Value} {e : TypeId} {m : Nat} {v : Value} {K : World → Prop} (h : Sl w e m (some ⟨b, 0, none⟩) n c xs) (ho : o < xs.length)
    (hK : ∀ w', Sl w' e m (some ⟨b, 0, none⟩) n c (xs.set o v) → Ext w w' (· = b) → w'.heap.size = w.heap.size → K w') (hv : one v = true := by rfl) (hs : sizeT P t = 1 := by kernel_rfl) (hh : hasT P t = true := by kernel_rfl) : st P t ⟨b, o, none⟩ v w K := by
  obtain ⟨sp, h1, h2, h3, h4⟩ := h.at_
  refine st_i h1 (by rw [List.length_append]; omega) (fun w' a e z => hK w' ?_ e z) hv hs hh
  rw [List.set_append_left _ _ ho] at a
  exact .inr ⟨b, sp, rfl, a, by rw [List.length_set]; exact h2, h3, h4⟩
theorem Reads.ext {w w' : World} {a : Option Addr} {vs : List Value} {X : Nat → Prop} (h : Reads w a vs) (he : Ext w w' X) (hx : ∀ p, a = some p → vs ≠ [] → ¬ X p.block) : Reads w' a vs := by
  by_cases h0 : vs = []
  · exact .inl h0
  rcases h with h | ⟨p, rfl, hc⟩
  · exact .inl h
  · refine .inr ⟨p, rfl, fun j hj => ?_⟩
    have hb : (p.add j).block = p.block := by unfold Addr.add; split <;> rfl
    have h1 := hc j hj
    rw [List.getElem?_eq_getElem hj] at h1
    have hlt := cell_lt h1
    rw [hb] at hlt
    rw [cell_ext he (by rw [hb]; exact hlt) (by rw [hb]; exact hx p rfl h0), h1, List.getElem?_eq_getElem hj]
/-- One cell of a slice that came in. -/
theorem rdL {p : Addr} {o : Nat} {vs : List Value} {v : Value} {K : Value → Prop} (h : Reads w (some p) vs) (hc : vs[o]? = some v) (hK : K v) (ht : isScal P t = true := by kernel_rfl) : ld P t (p.add o) w K := by
  rcases h with rfl | ⟨p', hp, h⟩
  · simp at hc
  · cases hp
    refine ld_c ?_ hK ht
    rcases Nat.lt_or_ge o vs.length with h2 | h2
    · rw [h o h2, hc]
    · rw [List.getElem?_eq_none h2] at hc; cases hc
theorem Reads.some_ {a : Option Addr} {vs : List Value} (h : Reads w a vs) (h0 : 0 < vs.length) : ∃ p, a = some p := by
  rcases h with rfl | ⟨p, rfl, _⟩
  · simp at h0
  · exact ⟨p, rfl⟩
end
end Go.Ev
