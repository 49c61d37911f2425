/-
  Laws on memory for the conditions that the evaluator computes: blocks of cells known whole, loads, stores, new blocks, slices. Of any program; no condition.
-/
import Derived.Test.YtpgekajgbkbpkaaEng
import Derived.Below
namespace Go.Ev
open Go

/-- Block b holds the cells cs, none of them frozen. -/
def At (w : World) (b : Nat) (cs : List Value) (T : TypeId) : Prop := ∃ fr : Nat × Nat, w.heap[b]? = some (.cells cs.toArray T fr) ∧ (fr.2 ≤ fr.1 ∨ cs.length ≤ fr.1)

/-- w' is w, but for new blocks and for the blocks in X. -/
structure Ext (w w' : World) (X : Nat → Prop) : Prop where
  os : w'.os = w.os
  tape : w'.tape = w.tape
  output : w'.output = w.output
  size : w.heap.size ≤ w'.heap.size
  same : ∀ b, b < w.heap.size → ¬ X b → w'.heap[b]? = w.heap[b]?

theorem Ext.refl (w : World) (X : Nat → Prop) : Ext w w X := ⟨rfl, rfl, rfl, Nat.le_refl _, fun _ _ _ => rfl⟩
theorem Ext.trans {w w1 w2 : World} {X Y Z : Nat → Prop} (h : Ext w w1 X) (h' : Ext w1 w2 Y) (hx : ∀ b, b < w.heap.size → X b → Z b) (hy : ∀ b, b < w.heap.size → Y b → Z b) : Ext w w2 Z :=
  ⟨h'.os.trans h.os, h'.tape.trans h.tape, h'.output.trans h.output, Nat.le_trans h.size h'.size, fun b hb hn => by
    rw [h'.same b (Nat.lt_of_lt_of_le hb h.size) (fun hc => hn (hy b hb hc)), h.same b hb (fun hc => hn (hx b hb hc))]⟩
theorem Ext.mono {w w1 : World} {X Z : Nat → Prop} (h : Ext w w1 X) (hx : ∀ b, b < w.heap.size → X b → Z b) : Ext w w1 Z :=
  h.trans (Ext.refl _ (fun _ => False)) hx (fun _ _ h => h.elim)
theorem Ext.tr {w w1 w2 : World} {X : Nat → Prop} (h : Ext w w1 X) (h' : Ext w1 w2 X) : Ext w w2 X := h.trans h' (fun _ _ h => h) (fun _ _ h => h)
theorem Ext.tr0 {w w1 w2 : World} {X : Nat → Prop} (h : Ext w w1 X) (h' : Ext w1 w2 (fun _ => False)) : Ext w w2 X := h.trans h' (fun _ _ h => h) (fun _ _ h => h.elim)
theorem Ext.of0 {w w1 : World} {X : Nat → Prop} (h : Ext w w1 (fun _ => False)) : Ext w w1 X := h.mono (fun _ _ h => h.elim)
theorem Ext.drew_ {w w1 : World} {X : Nat → Prop} (h : Ext w w1 X) : Ext w (drew w1) X := ⟨h.os, h.tape, h.output, h.size, h.same⟩
theorem Ext.of_drew {w w1 : World} {X : Nat → Prop} (h : Ext (drew w) w1 X) : Ext w w1 X := ⟨h.os, h.tape, h.output, h.size, h.same⟩
theorem Ext.below {w w1 : World} {X : Nat → Prop} {B : Nat} (h : Ext w w1 X) (hB : B ≤ w.heap.size) (hx : ∀ b, b < B → ¬ X b) : RowKit.Below B w w1 :=
  ⟨h.os, h.tape, h.output, h.size, fun b hb => h.same b (Nat.lt_of_lt_of_le hb hB) (hx b hb)⟩

theorem At.lt {w : World} {b : Nat} {cs : List Value} {T : TypeId} (h : At w b cs T) : b < w.heap.size := by
  obtain ⟨fr, h, _⟩ := h
  rcases Nat.lt_or_ge b w.heap.size with h' | h'
  · exact h'
  · rw [Array.getElem?_eq_none h'] at h; cases h
theorem At.ext {w w' : World} {b : Nat} {cs : List Value} {T : TypeId} {X : Nat → Prop} (h : At w b cs T) (he : Ext w w' X) (hx : ¬ X b) : At w' b cs T := by
  have hl := h.lt
  obtain ⟨fr, h, hf⟩ := h
  exact ⟨fr, by rw [he.same b hl hx]; exact h, hf⟩
theorem At.drew_ {w : World} {b : Nat} {cs : List Value} {T : TypeId} (h : At w b cs T) : At (drew w) b cs T := h
theorem At.cell {w : World} {b o : Nat} {cs : List Value} {T : TypeId} (h : At w b cs T) : w.cell? ⟨b, o, none⟩ = cs[o]? := by
  obtain ⟨fr, h, _⟩ := h
  simp [World.cell?, h]
theorem At.free {w : World} {b o : Nat} {cs : List Value} {T : TypeId} (h : At w b cs T) (ho : o < cs.length) : w.frozen? ⟨b, o, none⟩ = false := by
  obtain ⟨⟨lo, hi⟩, h, hf⟩ := h
  simp only [World.frozen?, h]
  dsimp only at hf
  rcases hf with hf | hf
  · simp only [Bool.and_eq_false_iff, decide_eq_false_iff_not]; omega
  · simp only [Bool.and_eq_false_iff, decide_eq_false_iff_not]; omega
theorem At.inj {w : World} {b : Nat} {cs cs' : List Value} {T T' : TypeId} (h : At w b cs T) (h' : At w b cs' T') : cs = cs' := by
  obtain ⟨fr, h, _⟩ := h
  obtain ⟨fr', h', _⟩ := h'
  rw [h] at h'
  simpa using (Obj.cells.inj (Option.some.inj h')).1
theorem cell_ext {w w' : World} {a : Addr} {X : Nat → Prop} (he : Ext w w' X) (hb : a.block < w.heap.size) (hx : ¬ X a.block) : w'.cell? a = w.cell? a := by
  unfold World.cell?; rw [he.same _ hb hx]
theorem cell_lt {w : World} {a : Addr} {v : Value} (h : w.cell? a = some v) : a.block < w.heap.size := by
  rcases Nat.lt_or_ge a.block w.heap.size with h' | h'
  · exact h'
  · simp [World.cell?, Array.getElem?_eq_none h'] at h

@[simp] theorem add_mk (b o n : Nat) : Addr.add ⟨b, o, none⟩ n = ⟨b, o + n, none⟩ := by
  unfold Addr.add; split <;> simp_all

/- Forms of values. -/
@[simp] theorem fI_int (k : IntKind) (x : Int) (K : Int → Prop) : fI k (.int k x) K = K x := by simp [fI]
@[simp] theorem fB_bool (x : Bool) (K : Bool → Prop) : fB (.bool x) K = K x := by simp [fB]
@[simp] theorem fP_ptr (x : Option Addr) (K : Option Addr → Prop) : fP (.pointer x) K = K x := by simp [fP]
@[simp] theorem fA_ptr (x : Addr) (K : Addr → Prop) : fA (.pointer (some x)) K = K x := by simp [fA]
@[simp] theorem fT_str (x : ByteArray) (K : ByteArray → Prop) : fT (.string x) K = K x := by simp [fT]
@[simp] theorem fG_agg (x : Array Value) (K : Array Value → Prop) : fG (.agg x) K = K x := by simp [fG]
@[simp] theorem fV_val (x : Value) (K : Value → Prop) : fV x K = K x := by simp [fV]
@[simp] theorem fS_slice (a : Option Addr) (n c : Nat) (K : Option Addr → Nat → Nat → Prop) : fS (.slice a n c) K = K a n c := by
  apply propext; constructor
  · rintro ⟨a', n', c', h, hK⟩; cases h; exact hK
  · intro h; exact ⟨_, _, _, rfl, h⟩
@[simp] theorem br_true (A B : Prop) : br true A B = A := rfl
@[simp] theorem br_false (A B : Prop) : br false A B = B := rfl
@[simp] theorem nn_mk (a : Addr) (K : Addr → Prop) : nn (some a) K = K a := rfl
theorem br_of {b : Bool} {A B : Prop} (h1 : b = true → A) (h2 : b = false → B) : br b A B := by
  cases b
  · exact h2 rfl
  · exact h1 rfl
theorem br_pos {b : Bool} {A B : Prop} (h : b = true) (hA : A) : br b A B := by subst h; exact hA
theorem br_neg {b : Bool} {A B : Prop} (h : b = false) (hB : B) : br b A B := by subst h; exact hB

theorem CallE.mono {P : Program} {f : FuncId} {args : Array Value} {w : World} {K K' : Value → World → Prop} (h : CallE P f args w K) (hk : ∀ v w', K v w' → K' v w') : CallE P f args w K' :=
  Calls.mono h fun _ _ ⟨v, he, hK⟩ => ⟨v, he, hk _ _ hK⟩

/- Types. -/
def isScal (P : Program) (t : TypeId) : Bool :=
  match P.underlying t with
  | some (.struct _) | some (.array ..) | none => false
  | _ => true
def isAggT (P : Program) (t : TypeId) : Bool :=
  match P.underlying t with
  | some (.struct _) | some (.array ..) => true
  | _ => false
def sizeT (P : Program) (t : TypeId) : Nat :=
  match P.info? t with
  | some i => i.size
  | none => 0
def hasT (P : Program) (t : TypeId) : Bool := (P.info? t).isSome

section
variable {P : Program} {w : World} {t : TypeId}

theorem run_isAgg_false (h : isScal P t = true) : (isAgg t).run P w = .ok false w := by
  unfold isScal at h
  unfold isAgg underlying
  simp only [Bind.bind, program, Sem.bind, Sem.run]
  cases hu : P.underlying t with
  | none => rw [hu] at h; cases h
  | some d => rw [hu] at h; cases d <;> first | rfl | cases h
theorem run_isAgg_true (h : isAggT P t = true) : (isAgg t).run P w = .ok true w := by
  unfold isAggT at h
  unfold isAgg underlying
  simp only [Bind.bind, program, Sem.bind, Sem.run]
  cases hu : P.underlying t with
  | none => rw [hu] at h; cases h
  | some d => rw [hu] at h; cases d <;> first | rfl | cases h
theorem run_sizeOf {n : Nat} (h : sizeT P t = n) (hh : hasT P t = true) : (sizeOf t).run P w = .ok n w := by
  unfold sizeT at h
  unfold hasT at hh
  unfold sizeOf typeInfo
  simp only [Bind.bind, program, Sem.bind, Sem.run]
  cases hu : P.info? t with
  | none => rw [hu] at hh; cases hh
  | some i => rw [hu] at h; subst h; rfl

theorem run_loadVar {a : Addr} {v : Value} (ht : isScal P t = true) (h : w.cell? a = some v) : (loadVar t a).run P w = .ok v w := by
  unfold loadVar
  rw [Sem.run_bind, run_isAgg_false ht]
  simp only [Result.andThen, Bool.false_eq_true, if_false, load, Sem.run, h]

theorem ld_cell {a : Addr} {v : Value} {K : Value → Prop} (ht : isScal P t = true) (h : w.cell? a = some v) : ld P t a w K = K v := by
  apply propext
  unfold ld
  rw [run_loadVar ht h]
  constructor
  · rintro ⟨v', he, hK⟩; cases he; exact hK
  · intro hK; exact ⟨v, rfl, hK⟩

theorem ld_at {b o : Nat} {cs : List Value} {T : TypeId} {v : Value} {K : Value → Prop} (h : At w b cs T) (hc : cs[o]? = some v) (ht : isScal P t = true) : ld P t ⟨b, o, none⟩ w K = K v :=
  ld_cell ht (h.cell.trans hc)

theorem run_loadCellsFrom {a : Addr} : ∀ (vs : List Value) (i : Nat) (acc : Array Value), (∀ j, j < vs.length → w.cell? (a.add (i + j)) = vs[j]?) →
    (loadCellsFrom a i vs.length acc).run P w = .ok (acc ++ vs.toArray) w
  | [], i, acc, _ => by simp [loadCellsFrom]
  | v :: vs, i, acc, h => by
    have h0 : w.cell? (a.add i) = some v := by simpa using h 0 (by simp)
    have ih := run_loadCellsFrom vs (i + 1) (acc.push v) (fun j hj => by
      have := h (j + 1) (by simp; omega)
      rw [show i + 1 + j = i + (j + 1) by omega, this]; simp)
    simp only [List.length_cons, loadCellsFrom, load, Bind.bind, Sem.bind, Sem.run, h0]
    rw [ih]
    simp

theorem run_loadVar_agg {a : Addr} {vs : List Value} (ht : isAggT P t = true) (hs : sizeT P t = vs.length) (hh : hasT P t = true) (h : ∀ j, j < vs.length → w.cell? (a.add j) = vs[j]?) :
    (loadVar t a).run P w = .ok (.agg vs.toArray) w := by
  unfold loadVar loadCells
  rw [Sem.run_bind, run_isAgg_true ht]
  simp only [Result.andThen, if_true]
  rw [Sem.run_bind, run_sizeOf hs hh]
  simp only [Result.andThen]
  rw [Sem.run_bind, run_loadCellsFrom (P := P) vs 0 #[] (by simpa using h)]
  simp [Result.andThen]

theorem ld_cells {a : Addr} {vs : List Value} {K : Value → Prop} (ht : isAggT P t = true) (hs : sizeT P t = vs.length) (hh : hasT P t = true) (h : ∀ j, j < vs.length → w.cell? (a.add j) = vs[j]?) :
    ld P t a w K = K (.agg vs.toArray) := by
  apply propext
  unfold ld
  rw [run_loadVar_agg ht hs hh h]
  constructor
  · rintro ⟨v', he, hK⟩; cases he; exact hK
  · intro hK; exact ⟨_, rfl, hK⟩

theorem ld_at_agg {b o n : Nat} {cs : List Value} {T : TypeId} {K : Value → Prop} (h : At w b cs T) (hn : o + n ≤ cs.length) (ht : isAggT P t = true) (hs : sizeT P t = n) (hh : hasT P t = true) :
    ld P t ⟨b, o, none⟩ w K = K (.agg ((cs.drop o).take n).toArray) := by
  have hl : ((cs.drop o).take n).length = n := by simp; omega
  refine ld_cells ht (by rw [hl]; exact hs) hh fun j hj => ?_
  rw [hl] at hj
  rw [add_mk, h.cell, List.getElem?_take_of_lt hj, List.getElem?_drop]

/-- A value of one cell. -/
def one : Value → Bool
  | .agg _ | .tuple _ => false
  | _ => true

theorem cells_one {v : Value} (h : one v = true) : v.cells = #[v] := by cases v <;> first | rfl | cases h

theorem setCell_at {b o : Nat} {cs : List Value} {T : TypeId} {v : Value} (h : At w b cs T) : At (w.setCell ⟨b, o, none⟩ v) b (cs.set o v) T := by
  obtain ⟨fr, h', hf⟩ := h
  refine ⟨fr, ?_, by simpa using hf⟩
  unfold World.setCell
  simp [Array.getElem?_modify, h']

theorem setCell_ext {a : Addr} {v : Value} : Ext w (w.setCell a v) (· = a.block) := by
  refine ⟨rfl, rfl, rfl, by simp [World.setCell], fun b hb hn => ?_⟩
  simp [World.setCell, Array.getElem?_modify, Ne.symm hn]

theorem setCell_size {a : Addr} {v : Value} : (w.setCell a v).heap.size = w.heap.size := by simp [World.setCell]

theorem run_store1 {α : Type} {b o : Nat} {cs : List Value} {T : TypeId} {v : Value} {k : Sem α} (h : At w b cs T) (ho : o < cs.length) (hv : one v = true) :
    (Sem.store .plain ⟨b, o, none⟩ v k).run P w = k.run P (w.setCell ⟨b, o, none⟩ v) := by
  have hc : w.cell? ⟨b, o, none⟩ = some cs[o] := by rw [h.cell]; simp [ho]
  cases v <;> first | (simp only [Sem.run, hc, h.free ho, Bool.false_eq_true, if_false]; done) | cases hv

/-- A list overwritten from a place on. -/
def splice : List Value → Nat → List Value → List Value
  | cs, _, [] => cs
  | cs, o, v :: vs => splice (cs.set o v) (o + 1) vs

theorem splice_length : ∀ (vs cs : List Value) (o : Nat), (splice cs o vs).length = cs.length
  | [], _, _ => rfl
  | v :: vs, cs, o => by simp only [splice]; rw [splice_length vs]; simp

theorem splice_get : ∀ (vs cs : List Value) (o i : Nat), o + vs.length ≤ cs.length → (splice cs o vs)[i]? = if o ≤ i ∧ i < o + vs.length then vs[i - o]? else cs[i]?
  | [], cs, o, i, _ => by simp only [splice]; rw [if_neg (by simp)]
  | v :: vs, cs, o, i, h => by
    simp only [List.length_cons] at h
    simp only [splice]
    rw [splice_get vs (cs.set o v) (o + 1) i (by simp; omega)]
    by_cases h1 : o + 1 ≤ i ∧ i < o + 1 + vs.length
    · rw [if_pos h1, if_pos (by simp; omega)]
      have : i - o = (i - (o + 1)) + 1 := by omega
      rw [this]; simp
    · rw [if_neg h1]
      by_cases h2 : i = o
      · subst h2
        rw [if_pos (by simp), List.getElem?_set_self (by omega)]; simp
      · rw [if_neg (by simp; omega), List.getElem?_set_ne (Ne.symm h2)]

theorem splice_all (cs vs : List Value) (h : vs.length = cs.length) : splice cs 0 vs = vs := by
  apply List.ext_getElem?
  intro i
  rw [splice_get vs cs 0 i (by omega)]
  by_cases hi : i < vs.length
  · rw [if_pos (by omega)]; simp
  · rw [if_neg (by omega), List.getElem?_eq_none (by omega), List.getElem?_eq_none (by omega)]

theorem splice_eq : ∀ (vs cs : List Value) (o : Nat), o + vs.length ≤ cs.length → splice cs o vs = cs.take o ++ vs ++ cs.drop (o + vs.length)
  | vs, cs, o, h => by
    apply List.ext_getElem?
    intro i
    rw [splice_get vs cs o i h]
    by_cases h1 : i < o
    · rw [if_neg (by omega), List.append_assoc, List.getElem?_append_left (by simp; omega), List.getElem?_take_of_lt h1]
    · by_cases h2 : i < o + vs.length
      · rw [if_pos (by omega), List.append_assoc, List.getElem?_append_right (by simp; omega), List.getElem?_append_left (by simp; omega)]
        congr 1; simp; omega
      · rw [if_neg (by omega), List.append_assoc, List.getElem?_append_right (by simp; omega), List.getElem?_append_right (by simp; omega), List.getElem?_drop]
        congr 1; simp; omega

theorem run_storeCells {b o : Nat} {T : TypeId} : ∀ (vs : List Value) (cs : List Value) (w : World) (i : Nat), At w b cs T → (∀ v ∈ vs, one v = true) → o + i + vs.length ≤ cs.length →
    ∃ w', (storeCells ⟨b, o, none⟩ vs i).run P w = .ok () w' ∧ At w' b (splice cs (o + i) vs) T ∧ Ext w w' (· = b) ∧ w'.heap.size = w.heap.size
  | [], cs, w, i, h, _, _ => ⟨w, rfl, h, Ext.refl _ _, rfl⟩
  | v :: vs, cs, w, i, h, hv, hl => by
    simp only [List.length_cons] at hl
    have h1 := setCell_at (o := o + i) (v := v) h
    obtain ⟨w', hr, ha, he, hs⟩ := run_storeCells (o := o) vs (cs.set (o + i) v) _ (i + 1) h1 (fun u hu => hv u (.tail _ hu)) (by simp; omega)
    refine ⟨w', ?_, ha, setCell_ext.trans he (fun _ _ h => h) (fun _ _ h => h), hs.trans setCell_size⟩
    simp only [storeCells, store, Bind.bind, Sem.bind, add_mk]
    rw [run_store1 h (by omega) (hv v (.head _))]
    exact hr

theorem st_at {b o : Nat} {cs : List Value} {T : TypeId} {v : Value} {K : World → Prop} (h : At w b cs T) (ho : o < cs.length) (hv : one v = true) (hs : sizeT P t = 1) (hh : hasT P t = true)
    (hK : ∀ w', At w' b (cs.set o v) T → Ext w w' (· = b) → w'.heap.size = w.heap.size → K w') : st P t ⟨b, o, none⟩ v w K := by
  obtain ⟨w', hr, ha, he, hz⟩ := run_storeCells (P := P) (b := b) (o := o) [v] cs w 0 h (by simpa using hv) (by simp; omega)
  refine ⟨w', ?_, hK w' ha he hz⟩
  unfold storeVar
  rw [Sem.run_bind, run_sizeOf hs hh]
  simp only [Result.andThen, cells_one hv, List.size_toArray, List.length_cons, List.length_nil, Nat.zero_add, ne_eq, not_true_eq_false, if_false]
  exact hr

theorem st_at_agg {b o n : Nat} {cs : List Value} {T : TypeId} {vs : List Value} {K : World → Prop} (h : At w b cs T) (ho : o + n ≤ cs.length) (hn : vs.length = n) (hv : ∀ v ∈ vs, one v = true) (hs : sizeT P t = n) (hh : hasT P t = true)
    (hK : ∀ w', At w' b (splice cs o vs) T → Ext w w' (· = b) → w'.heap.size = w.heap.size → K w') : st P t ⟨b, o, none⟩ (.agg vs.toArray) w K := by
  obtain ⟨w', hr, ha, he, hz⟩ := run_storeCells (P := P) (b := b) (o := o) vs cs w 0 h hv (by omega)
  refine ⟨w', ?_, hK w' ha he hz⟩
  unfold storeVar
  rw [Sem.run_bind, run_sizeOf hs hh]
  simp only [Result.andThen, Value.cells, List.size_toArray, hn, ne_eq, not_true_eq_false, if_false]
  exact hr

theorem al_at {cs : List Value} {K : Addr → World → Prop} (hK : ∀ b w', b = w.heap.size → At w' b cs t → Ext w w' (fun _ => False) → w'.heap.size = w.heap.size + 1 → K ⟨b, 0, none⟩ w') : al t cs.toArray w K := by
  refine hK _ _ rfl ?_ ⟨rfl, rfl, rfl, by simp, fun b hb _ => ?_⟩ (by simp)
  · exact ⟨(0, 0), by simp, .inl (Nat.le_refl _)⟩
  · simp [Array.getElem?_push, Nat.ne_of_lt hb]

/- Places in arrays and slices. -/
theorem run_underlying_ok {d : TypeDesc} (h : P.underlying t = some d) : (underlying t).run P w = .ok d w := by
  unfold underlying
  simp only [Bind.bind, program, Sem.bind, Sem.run, h]
  rfl

theorem run_indexArr {a : Addr} {k : IntKind} {i : Int} {n m : Nat} {e : TypeId} (hu : P.underlying t = some (.array n e)) (hm : sizeT P e = m) (hh : hasT P e = true) (h0 : 0 ≤ i) (h1 : i < n) :
    (Instr.indexAt t (.pointer (some a)) (.int k i)).run P w = .ok (.pointer (some (a.add (i.toNat * m)))) w := by
  unfold Instr.indexAt
  simp only [asIntOf, Instr.sureAddr, Sem.run_bind, Sem.run_pure, Result.andThen, run_underlying_ok hu]
  rw [if_pos ⟨h0, h1⟩]
  simp only [Sem.run_bind, run_sizeOf hm hh, Result.andThen, Sem.run_pure]

theorem run_indexSl {a : Addr} {k : IntKind} {i : Int} {n c m : Nat} {e : TypeId} (hu : P.underlying t = some (.slice e)) (hm : sizeT P e = m) (hh : hasT P e = true) (h0 : 0 ≤ i) (h1 : i < n) :
    (Instr.indexAt t (.slice (some a) n c) (.int k i)).run P w = .ok (.pointer (some (a.add (i.toNat * m)))) w := by
  unfold Instr.indexAt
  simp only [asIntOf, Sem.run_bind, Sem.run_pure, Result.andThen, run_underlying_ok hu]
  rw [if_pos ⟨h0, h1⟩]
  simp only [Sem.run_bind, run_sizeOf hm hh, Result.andThen, Sem.run_pure]

theorem rq_of {s : Sem Value} {v : Value} {K : Value → Prop} (h : s.run P w = .ok v w) : rq P s w K = K v := by
  apply propext
  unfold rq
  rw [h]
  constructor
  · rintro ⟨v', he, hK⟩; cases he; exact hK
  · intro hK; exact ⟨v, rfl, hK⟩

theorem ld_i {b o : Nat} {cs : List Value} {T : TypeId} {v : Value} {K : Value → Prop} (h : At w b cs T) (hc : cs[o]? = some v) (hK : K v) (ht : isScal P t = true := by kernel_rfl) : ld P t ⟨b, o, none⟩ w K :=
  (ld_at h hc ht).symm ▸ hK
theorem ld_c {a : Addr} {v : Value} {K : Value → Prop} (h : w.cell? a = some v) (hK : K v) (ht : isScal P t = true := by kernel_rfl) : ld P t a w K :=
  (ld_cell ht h).symm ▸ hK
theorem ld_g {b o : Nat} {cs : List Value} {T : TypeId} {K : Value → Prop} (n : Nat) (h : At w b cs T) (hn : o + n ≤ cs.length) (hK : K (.agg ((cs.drop o).take n).toArray))
    (ht : isAggT P t = true := by kernel_rfl) (hs : sizeT P t = n := by kernel_rfl) (hh : hasT P t = true := by kernel_rfl) : ld P t ⟨b, o, none⟩ w K :=
  (ld_at_agg h hn ht hs hh).symm ▸ hK
theorem st_i {b o : Nat} {cs : List Value} {T : TypeId} {v : Value} {K : World → Prop} (h : At w b cs T) (ho : o < cs.length)
    (hK : ∀ w', At w' b (cs.set o v) T → Ext w w' (· = b) → w'.heap.size = w.heap.size → K w') (hv : one v = true := by rfl) (hs : sizeT P t = 1 := by kernel_rfl) (hh : hasT P t = true := by kernel_rfl) : st P t ⟨b, o, none⟩ v w K :=
  st_at h ho hv hs hh hK
theorem st_g {b o : Nat} {cs : List Value} {T : TypeId} {vs : List Value} {K : World → Prop} (n : Nat) (h : At w b cs T) (ho : o + n ≤ cs.length) (hn : vs.length = n) (hv : ∀ v ∈ vs, one v = true)
    (hK : ∀ w', At w' b (splice cs o vs) T → Ext w w' (· = b) → w'.heap.size = w.heap.size → K w') (hs : sizeT P t = n := by kernel_rfl) (hh : hasT P t = true := by kernel_rfl) : st P t ⟨b, o, none⟩ (.agg vs.toArray) w K :=
  st_at_agg h ho hn hv hs hh hK
theorem ix_arr {a : Addr} {k : IntKind} {i : Int} {K : Value → Prop} (n m : Nat) (e : TypeId) (h0 : 0 ≤ i) (h1 : i < n) (hK : K (.pointer (some (a.add (i.toNat * m)))))
    (hu : P.underlying t = some (.array n e) := by kernel_rfl) (hm : sizeT P e = m := by kernel_rfl) (hh : hasT P e = true := by kernel_rfl) : rq P (Instr.indexAt t (.pointer (some a)) (.int k i)) w K :=
  (rq_of (run_indexArr hu hm hh h0 h1)).symm ▸ hK
theorem ix_sl {a : Addr} {k : IntKind} {i : Int} {n c : Nat} {K : Value → Prop} (m : Nat) (e : TypeId) (h0 : 0 ≤ i) (h1 : i < n) (hK : K (.pointer (some (a.add (i.toNat * m)))))
    (hu : P.underlying t = some (.slice e) := by kernel_rfl) (hm : sizeT P e = m := by kernel_rfl) (hh : hasT P e = true := by kernel_rfl) : rq P (Instr.indexAt t (.slice (some a) n c) (.int k i)) w K :=
  (rq_of (run_indexSl hu hm hh h0 h1)).symm ▸ hK
theorem al_i {cs : Array Value} {K : Addr → World → Prop} (hK : ∀ b w', b = w.heap.size → At w' b cs.toList t → Ext w w' (fun _ => False) → w'.heap.size = w.heap.size + 1 → K ⟨b, 0, none⟩ w') : al t cs w K :=
  al_at (cs := cs.toList) hK
theorem al_st {vs : List Value} {K : Addr → World → Prop} (n : Nat) (hn : vs.length = n) (hv : ∀ v ∈ vs, one v = true)
    (hK : ∀ b w', b = w.heap.size → At w' b vs t → Ext w w' (fun _ => False) → w'.heap.size = w.heap.size + 1 → K ⟨b, 0, none⟩ w')
    (hz : (zeroT P t).cells.size = n := by kernel_rfl) (hs : sizeT P t = n := by kernel_rfl) (hh : hasT P t = true := by kernel_rfl) :
    al t (zeroT P t).cells w fun a w1 => st P t a (.agg vs.toArray) w1 fun w2 => K a w2 := by
  refine al_i fun b w1 hb h1 e1 z1 => ?_
  refine st_g n h1 (by simp [hz]) hn hv (fun w2 h2 e2 z2 => ?_) hs hh
  rw [splice_all _ _ (by simp [hz, hn])] at h2
  exact hK b w2 hb h2 (e1.trans e2 (fun _ _ h => h) (fun b' hb' h => by omega)) (by omega)
theorem run_indexAgg {l : List Value} {k : IntKind} {i : Int} {n m : Nat} {e : TypeId} (hu : P.underlying t = some (.array n e)) (ha : isAggT P e = true) (hm : sizeT P e = m) (hh : hasT P e = true) (h0 : 0 ≤ i) (h1 : i < n) :
    (Instr.index t (.agg l.toArray) (.int k i)).run P w = .ok (.agg ((l.drop (i.toNat * m)).take m).toArray) w := by
  unfold Instr.index
  simp only [asIntOf, Sem.run_bind, Sem.run_pure, Result.andThen, run_underlying_ok hu]
  rw [if_pos ⟨h0, h1⟩]
  simp only [Sem.run_bind, run_sizeOf hm hh, Result.andThen, part, run_isAgg_true ha, if_true, Sem.run_pure]
  simp [List.extract_eq_take_drop]
theorem ix_agg {l : List Value} {k : IntKind} {i : Int} {K : Value → Prop} (n m : Nat) (e : TypeId) (h0 : 0 ≤ i) (h1 : i < n) (hK : K (.agg ((l.drop (i.toNat * m)).take m).toArray))
    (hu : P.underlying t = some (.array n e) := by kernel_rfl) (ha : isAggT P e = true := by kernel_rfl) (hm : sizeT P e = m := by kernel_rfl) (hh : hasT P e = true := by kernel_rfl) : rq P (Instr.index t (.agg l.toArray) (.int k i)) w K :=
  (rq_of (run_indexAgg hu ha hm hh h0 h1)).symm ▸ hK
/- In every world that meets S. -/
variable {S : World → Prop}
theorem ldS_i {b o : Nat} {cs : List Value} {T : TypeId} {v : Value} {K : Value → Prop} (h : ∀ w, S w → At w b cs T) (hc : cs[o]? = some v) (hK : K v) (ht : isScal P t = true := by kernel_rfl) : ldS P S t ⟨b, o, none⟩ K :=
  ⟨v, fun w hw => run_loadVar ht ((h w hw).cell.trans hc), hK⟩
theorem ldS_c {a : Addr} {v : Value} {K : Value → Prop} (h : ∀ w, S w → w.cell? a = some v) (hK : K v) (ht : isScal P t = true := by kernel_rfl) : ldS P S t a K :=
  ⟨v, fun w hw => run_loadVar ht (h w hw), hK⟩
theorem ldS_cs {a : Addr} {vs : List Value} {K : Value → Prop} (h : ∀ w, S w → ∀ j, j < vs.length → w.cell? (a.add j) = vs[j]?) (hK : K (.agg vs.toArray))
    (ht : isAggT P t = true := by kernel_rfl) (hs : sizeT P t = vs.length := by kernel_rfl) (hh : hasT P t = true := by kernel_rfl) : ldS P S t a K :=
  ⟨_, fun w hw => run_loadVar_agg ht hs hh (h w hw), hK⟩
theorem ld_cs {a : Addr} {vs : List Value} {K : Value → Prop} (h : ∀ j, j < vs.length → w.cell? (a.add j) = vs[j]?) (hK : K (.agg vs.toArray))
    (ht : isAggT P t = true := by kernel_rfl) (hs : sizeT P t = vs.length := by kernel_rfl) (hh : hasT P t = true := by kernel_rfl) : ld P t a w K :=
  (ld_cells ht hs hh h).symm ▸ hK
theorem ldS_g {b : Nat} {cs : List Value} {T : TypeId} {K : Value → Prop} (h : ∀ w, S w → At w b cs T) (hK : K (.agg cs.toArray))
    (ht : isAggT P t = true := by kernel_rfl) (hs : sizeT P t = cs.length := by kernel_rfl) (hh : hasT P t = true := by kernel_rfl) : ldS P S t ⟨b, 0, none⟩ K :=
  ldS_cs (fun w hw j _ => by rw [add_mk, (h w hw).cell, Nat.zero_add]) hK ht hs hh
/-- A whole block. -/
theorem ld_w {b : Nat} {cs : List Value} {T : TypeId} {K : Value → Prop} (h : At w b cs T) (hK : K (.agg cs.toArray))
    (ht : isAggT P t = true := by kernel_rfl) (hs : sizeT P t = cs.length := by kernel_rfl) (hh : hasT P t = true := by kernel_rfl) : ld P t ⟨b, 0, none⟩ w K :=
  ld_cs (fun j _ => by rw [add_mk, h.cell, Nat.zero_add]) hK ht hs hh
theorem ixS_sl {a : Addr} {k : IntKind} {i : Int} {n c : Nat} {K : Value → Prop} (m : Nat) (e : TypeId) (h0 : 0 ≤ i) (h1 : i < n) (hK : K (.pointer (some (a.add (i.toNat * m)))))
    (hu : P.underlying t = some (.slice e) := by kernel_rfl) (hm : sizeT P e = m := by kernel_rfl) (hh : hasT P e = true := by kernel_rfl) : rqS P S (Instr.indexAt t (.slice (some a) n c) (.int k i)) K :=
  ⟨_, fun _ _ => run_indexSl hu hm hh h0 h1, hK⟩
theorem ixS_arr {a : Addr} {k : IntKind} {i : Int} {K : Value → Prop} (n m : Nat) (e : TypeId) (h0 : 0 ≤ i) (h1 : i < n) (hK : K (.pointer (some (a.add (i.toNat * m)))))
    (hu : P.underlying t = some (.array n e) := by kernel_rfl) (hm : sizeT P e = m := by kernel_rfl) (hh : hasT P e = true := by kernel_rfl) : rqS P S (Instr.indexAt t (.pointer (some a)) (.int k i)) K :=
  ⟨_, fun _ _ => run_indexArr hu hm hh h0 h1, hK⟩

/- Comparisons with nil; remainders. -/
def isPtr (P : Program) (t : TypeId) : Bool :=
  match P.underlying t with
  | some (.pointer _) => true
  | _ => false

theorem run_eqGuard_other {op : BinOp} {x y : Operand} {a b : Value} (h : op ≠ .eql) (h' : op ≠ .neq) : (eqGuard op t x y a b).run P w = .ok () w := by
  unfold eqGuard
  cases op <;> first | rfl | (exact absurd rfl h) | (exact absurd rfl h')

theorem run_eqGuard_ptr {op : BinOp} {x y : Operand} {p q : Option Addr} : (eqGuard op t x y (.pointer p) (.pointer q)).run P w = .ok () w := by
  unfold eqGuard
  cases op <;> rfl

theorem run_equal_nil {p : Option Addr} (ht : isPtr P t = true) : (Op.equal t (.pointer p) (.pointer none)).run P w = .ok p.isNone w := by
  unfold isPtr at ht
  cases hu : P.underlying t with
  | none => rw [hu] at ht; cases ht
  | some d =>
    rw [hu] at ht
    cases d <;> first | cases ht | skip
    unfold Op.equal Op.maxDepth Op.equalIn
    rw [Sem.run_bind, run_underlying_ok hu]
    cases p <;> rfl

theorem eq_nil {x y : Operand} {p : Option Addr} {K : Value → Prop} (hK : K (.bool p.isNone)) (ht : isPtr P t = true := by kernel_rfl) :
    rq P (do eqGuard .eql t x y (.pointer p) (.pointer none); binOp .eql t (.pointer p) (.pointer none)) w K := by
  rw [rq_of (v := .bool p.isNone)]
  · exact hK
  · rw [Sem.run_bind, run_eqGuard_ptr]
    simp only [Result.andThen, binOp]
    rw [Sem.run_bind, run_equal_nil ht]
    rfl
theorem ne_nil {x y : Operand} {p : Option Addr} {K : Value → Prop} (hK : K (.bool (!p.isNone))) (ht : isPtr P t = true := by kernel_rfl) :
    rq P (do eqGuard .neq t x y (.pointer p) (.pointer none); binOp .neq t (.pointer p) (.pointer none)) w K := by
  rw [rq_of (v := .bool (!p.isNone))]
  · exact hK
  · rw [Sem.run_bind, run_eqGuard_ptr]
    simp only [Result.andThen, binOp]
    rw [Sem.run_bind, run_equal_nil ht]
    rfl

theorem rem_i {x y : Operand} {k : IntKind} {a b : Int} {K : Value → Prop} (hb : b ≠ 0) (hK : K (.int k (a.tmod b))) :
    rq P (do eqGuard .rem t x y (.int k a) (.int k b); binOp .rem t (.int k a) (.int k b)) w K := by
  rw [rq_of (v := .int k (a.tmod b))]
  · exact hK
  · rw [Sem.run_bind, run_eqGuard_other (by simp) (by simp)]
    simp [Result.andThen, binOp, Op.intDiv, hb]
theorem quo_i {x y : Operand} {k : IntKind} {a b : Int} {K : Value → Prop} (hb : b ≠ 0) (hK : K (.int k (k.wrap (a.tdiv b)))) :
    rq P (do eqGuard .quo t x y (.int k a) (.int k b); binOp .quo t (.int k a) (.int k b)) w K := by
  rw [rq_of (v := .int k (k.wrap (a.tdiv b)))]
  · exact hK
  · rw [Sem.run_bind, run_eqGuard_other (by simp) (by simp)]
    simp [Result.andThen, binOp, Op.intDiv, hb]
/-- A new variable, of which the number of cells alone is told. -/
theorem al_n {K : Addr → World → Prop} (n : Nat) (hK : ∀ b w' zs, b = w.heap.size → zs.length = n → At w' b zs t → Ext w w' (fun _ => False) → w'.heap.size = w.heap.size + 1 → K ⟨b, 0, none⟩ w')
    (hz : (zeroT P t).cells.size = n := by kernel_rfl) : al t (zeroT P t).cells w K :=
  al_i fun b w' hb a e z => hK b w' _ hb (by simpa using hz) a e z
/-- A whole variable is overwritten. -/
theorem st_w {b : Nat} {cs : List Value} {T : TypeId} {vs : List Value} {K : World → Prop} (n : Nat) (h : At w b cs T) (ho : cs.length = n) (hn : vs.length = n) (hv : ∀ v ∈ vs, one v = true)
    (hK : ∀ w', At w' b vs T → Ext w w' (· = b) → w'.heap.size = w.heap.size → K w') (hs : sizeT P t = n := by kernel_rfl) (hh : hasT P t = true := by kernel_rfl) : st P t ⟨b, 0, none⟩ (.agg vs.toArray) w K :=
  st_g n h (by omega) hn hv (fun w' a e z => hK w' (by rwa [splice_all _ _ (by omega)] at a) e z) hs hh
end
theorem add_add_ (a : Addr) (i j : Nat) : (a.add i).add j = a.add (i + j) := by
  unfold Addr.add
  by_cases hi : i = 0
  · subst hi; simp
  · by_cases hj : j = 0
    · subst hj; simp
    · simp [hi, hj, Nat.add_assoc]
end Go.Ev
