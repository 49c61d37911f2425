/-
  Laws on slices that a function makes itself: make and append. Of any program; no condition.
-/
import Derived.Test.YtpgekajgbkbpkaaLst
namespace Go.Ev
open Go

/-- What the table says of a type whose values have m cells and whose zero value is z. -/
def TI (P : Program) (e : TypeId) (m : Nat) (z : List Value) : Prop := ∃ i, P.info? e = some i ∧ i.size = m ∧ i.bytes ≤ 4096 ∧ (∃ v, i.zero = some v ∧ v.cells = z.toArray) ∧ z.length = m

def tiB (P : Program) (e : TypeId) (m : Nat) : Bool :=
  match P.info? e with
  | some i => Nat.beq i.size m && Nat.ble i.bytes 4096 && (match i.zero with | some v => Nat.beq v.cells.size m | none => false)
  | none => false
def zeroL (P : Program) (e : TypeId) : List Value := (zeroT P e).cells.toList

theorem TI.of {P : Program} {e : TypeId} {m : Nat} (h : tiB P e m = true) : TI P e m (zeroL P e) := by
  unfold tiB at h
  split at h
  · rename_i i hi
    simp only [Bool.and_eq_true] at h
    obtain ⟨⟨h1, h2⟩, h3⟩ := h
    split at h3
    · rename_i v hv
      have hz : zeroT P e = v := by simp [zeroT, hi, hv]
      refine ⟨i, hi, Nat.eq_of_beq_eq_true h1, Nat.le_of_ble_eq_true h2, ⟨v, hv, ?_⟩, ?_⟩
      · simp [zeroL, hz]
      · simp [zeroL, hz, Nat.eq_of_beq_eq_true h3]
    · cases h3
  · cases h

section
variable {P : Program} {w : World} {t e : TypeId} {m : Nat} {z : List Value}

theorem run_typeInfo_i {i : TypeInfo} (h : P.info? e = some i) : (typeInfo e).run P w = .ok i w := by
  unfold typeInfo
  simp [Sem.run_bind, program, Sem.run, h, Result.andThen]
theorem run_sizeOf_i {i : TypeInfo} (h : P.info? e = some i) : (sizeOf e).run P w = .ok i.size w := by
  unfold sizeOf
  simp [Sem.run_bind, run_typeInfo_i h, Result.andThen]
theorem run_zeroValue_i {i : TypeInfo} {v : Value} (h : P.info? e = some i) (hz : i.zero = some v) : (zeroValue e).run P w = .ok v w := by
  unfold zeroValue
  simp [Sem.run_bind, run_typeInfo_i h, Result.andThen, hz]
theorem run_askRoom (n : Nat) : (askRoom n).run P w = .ok () w := by
  unfold askRoom
  split <;> rfl
theorem run_newRow (cs : Array Value) : (newRow e cs).run P w = .ok ⟨w.heap.size, 0, none⟩ { w with heap := w.heap.push (.cells cs e) } := by
  unfold newRow
  simp [Sem.run_bind, newObj, Sem.run, Result.andThen]

/-- n zero values in a row. -/
def zeros (z : List Value) (n : Nat) : List Value := (List.replicate n z).flatten

theorem zeros_length (z : List Value) (n : Nat) : (zeros z n).length = n * z.length := by simp [zeros]
theorem zeros_get (z : List Value) (hz : 0 < z.length) : ∀ (n i : Nat), i < n * z.length → (zeros z n)[i]? = z[i % z.length]?
  | 0, i, h => by simp at h
  | n + 1, i, h => by
    unfold zeros
    rw [List.replicate_succ, List.flatten_cons]
    by_cases hi : i < z.length
    · rw [List.getElem?_append_left hi, Nat.mod_eq_of_lt hi]
    · rw [List.getElem?_append_right (by omega)]
      have h' : i - z.length < n * z.length := by rw [Nat.add_mul] at h; omega
      have := zeros_get z hz n (i - z.length) h'
      unfold zeros at this
      rw [this]
      congr 1
      exact (Nat.mod_eq_sub_mod (by omega)).symm
theorem zeros_one (v : Value) (n : Nat) : zeros [v] n = List.replicate n v := by
  induction n with
  | zero => rfl
  | succ n ih => simp [zeros, List.replicate_succ] at ih ⊢

theorem range_map (z : List Value) (n : Nat) : (Array.range (n * z.length)).map (fun i => z.toArray[i % z.toArray.size]!) = (zeros z n).toArray := by
  rcases Nat.eq_zero_or_pos z.length with h0 | h0
  · have : z = [] := List.eq_nil_of_length_eq_zero h0
    subst this
    simp [zeros]
  apply Array.ext
  · simp [zeros_length]
  · intro i h1 h2
    simp only [Array.size_map, Array.size_range] at h1
    have hg := zeros_get z h0 n i h1
    have hm : i % z.length < z.length := Nat.mod_lt _ h0
    rw [List.getElem?_eq_getElem (by rw [zeros_length]; exact h1), List.getElem?_eq_getElem hm] at hg
    simp only [Option.some.injEq] at hg
    simp only [Array.getElem_map, Array.getElem_range, List.size_toArray, List.getElem_toArray]
    rw [hg, getElem!_pos z.toArray (i % z.length) (by simpa using hm)]
    simp

theorem zeroCells_eq (z : List Value) (n : Nat) : Builtin.zeroCells z.toArray n = (zeros z n).toArray := by
  unfold Builtin.zeroCells
  exact range_map z n

/-- make([]T, n). -/
theorem mk_i {k k' : IntKind} {n : Int} {K : Value → World → Prop} (e : TypeId) (m : Nat) (h0 : 0 ≤ n) (h1 : n ≤ 1000000000)
    (hK : ∀ b w', b = w.heap.size → At w' b (zeros (zeroL P e) n.toNat) e → Ext w w' (fun _ => False) → w'.heap.size = w.heap.size + 1 → K (.slice (some ⟨b, 0, none⟩) n.toNat n.toNat) w')
    (hu : P.underlying t = some (.slice e) := by kernel_rfl) (hti : tiB P e m = true := by kernel_rfl) : rv P (Instr.makeSlice t (.int k n) (.int k' n)) w K := by
  obtain ⟨i, hi, hm, hb, ⟨v, hz, hv⟩, hzl⟩ := TI.of hti
  generalize zeroL P e = z at *
  have hw : IntKind.i64.wrap n = n := wrap_i64 (by omega) (by omega)
  have hlarge : ¬ ((i.bytes : Int) * n > 2 ^ 48) := by
    have : (i.bytes : Int) * n ≤ 4096 * 1000000000 := Int.mul_le_mul (by omega) h1 h0 (by omega)
    omega
  refine ⟨_, _, ?_, hK w.heap.size { w with heap := w.heap.push (.cells (zeros z n.toNat).toArray e) } rfl ?_ ⟨rfl, rfl, rfl, by simp, fun b hb _ => ?_⟩ (by simp)⟩
  · unfold Instr.makeSlice
    simp only [Sem.run_bind, run_underlying_ok hu, Result.andThen, asInt, asIntOf, Sem.run_pure, run_typeInfo_i hi, hw]
    rw [if_neg (by simp; omega)]
    simp only [Sem.run_bind, run_askRoom, Result.andThen, run_sizeOf_i hi, hm]
    by_cases hn0 : n.toNat * m = 0
    · rw [if_pos hn0]
      simp only [Sem.run_bind, Sem.run_pure, Result.andThen, run_newRow]
      have : zeros z n.toNat = [] := List.eq_nil_of_length_eq_zero (by rw [zeros_length, hzl]; exact hn0)
      rw [this, hn0, show Array.range 0 = #[] from rfl, Array.map_empty]
    · rw [if_neg hn0]
      simp only [Sem.run_bind, Sem.run_pure, Result.andThen, run_zeroValue_i hi hz, run_newRow, hv]
      rw [← hzl, range_map]
  · exact ⟨(0, 0), by simp, .inl (Nat.le_refl _)⟩
  · simp [Array.getElem?_push, Nat.ne_of_lt hb]

/-- A slice that the code made itself: nil, or from the head of a block. -/
def Sl (w : World) (e : TypeId) (m : Nat) (a : Option Addr) (n c : Nat) (xs : List Value) : Prop :=
  (a = none ∧ n = 0 ∧ c = 0 ∧ xs = []) ∨ ∃ (b : Nat) (sp : List Value), a = some ⟨b, 0, none⟩ ∧ At w b (xs ++ sp) e ∧ xs.length = n * m ∧ sp.length = (c - n) * m ∧ n ≤ c

theorem Sl.ext {w w' : World} {m : Nat} {a : Option Addr} {n c : Nat} {xs : List Value} {X : Nat → Prop} (h : Sl w e m a n c xs) (he : Ext w w' X) (hx : ∀ b, a = some ⟨b, 0, none⟩ → ¬ X b) : Sl w' e m a n c xs := by
  rcases h with h | ⟨b, sp, rfl, h1, h2⟩
  · exact .inl h
  · exact .inr ⟨b, sp, rfl, h1.ext he (hx b rfl), h2⟩

/-- The cells that a slice's first elements hold. -/
def Reads (w : World) (a : Option Addr) (vs : List Value) : Prop := vs = [] ∨ ∃ p, a = some p ∧ ∀ j, j < vs.length → w.cell? (p.add j) = vs[j]?

theorem Sl.reads {w : World} {m : Nat} {a : Option Addr} {n c : Nat} {xs : List Value} (h : Sl w e m a n c xs) : Reads w a xs := by
  rcases h with ⟨_, _, _, h⟩ | ⟨b, sp, rfl, h1, h2⟩
  · exact .inl h
  · refine .inr ⟨_, rfl, fun j hj => ?_⟩
    rw [add_mk, h1.cell, Nat.zero_add, List.getElem?_append_left hj]

theorem run_firstCells {a : Option Addr} {vs : List Value} {n c k : Nat} (h : Reads w a vs) (hl : vs.length = k * m) : (Builtin.firstCells m k (.slice a n c)).run P w = .ok vs.toArray w := by
  unfold Builtin.firstCells
  rcases h with rfl | ⟨p, rfl, h⟩
  · cases a with
    | none => rfl
    | some p =>
      simp only [loadCells]
      rw [← hl]
      exact run_loadCellsFrom (P := P) [] 0 #[] (by simp)
  · simp only [loadCells]
    rw [← hl, run_loadCellsFrom (P := P) vs 0 #[] (by simpa using h)]
    simp

theorem growBy_le (n : Nat) : ∀ (r c : Nat), c ≤ n + (n + 768) / 4 → Builtin.growBy n r c ≤ n + (n + 768) / 4
  | 0, c, h => h
  | r + 1, c, h => by
    unfold Builtin.growBy
    split
    · exact h
    · exact growBy_le n r _ (by omega)
theorem nextslicecap_le {n c : Nat} (h : c < n) : Builtin.nextslicecap n c ≤ 2 * n + 192 := by
  unfold Builtin.nextslicecap
  split
  · omega
  · split
    · omega
    · have := growBy_le n 4 c (by omega)
      omega

def isSlT (P : Program) (t : TypeId) : Bool :=
  match P.underlying t with
  | some (.slice _) => true
  | _ => false

/-- append(s, x...), onto a slice of the code's own. -/
theorem ap_g {a xa : Option Addr} {n c xn xc : Nat} {xs vs : List Value} {t2 t3 : TypeId} {K : Value → World → Prop} (e : TypeId) (m : Nat) (hs : Sl w e m a n c xs) (hx : Reads w xa vs) (hxl : vs.length = xn * m) (hone : ∀ v ∈ vs, one v = true)
    (hbd : n + xn ≤ 4611686018427387904) (hgr : ∀ i, P.info? e = some i → c < n + xn → ¬ (Builtin.nextslicecap (n + xn) c * i.bytes > 2 ^ 48))
    (hK : ∀ a' c' w', Sl w' e m a' (n + xn) c' (xs ++ vs) → (∀ b, a' = some ⟨b, 0, none⟩ → a = some ⟨b, 0, none⟩ ∨ w.heap.size ≤ b) → (a.isSome = true → a'.isSome = true) → Ext w w' (fun b => a = some ⟨b, 0, none⟩) → K (.slice a' (n + xn) c') w')
    (hu : P.underlying t = some (.slice e) := by kernel_rfl) (hu2 : isSlT P t2 = true := by kernel_rfl) (hti : tiB P e m = true := by kernel_rfl) :
    rv P (Builtin.append_ #[t, t2] t3 #[.slice a n c, .slice xa xn xc]) w K := by
  obtain ⟨i, hi, hm, hb, ⟨v, hz, hv⟩, hzl⟩ := TI.of hti
  generalize zeroL P e = z at *
  obtain ⟨e2, hd2⟩ : ∃ e2, P.underlying t2 = some (.slice e2) := by
    unfold isSlT at hu2
    split at hu2
    · rename_i e2 h; exact ⟨e2, h⟩
    · cases hu2
  have hsl : xs.length = n * m := by
    rcases hs with ⟨_, rfl, _, rfl⟩ | ⟨b, sp, rfl, h1, h2, _⟩
    · simp
    · exact h2
  by_cases hcap : n + xn ≤ c
  · rcases hs with ⟨rfl, rfl, rfl, rfl⟩ | ⟨b, sp, rfl, h1, h2, h3, h4⟩
    · have hxn : xn = 0 := by omega
      subst hxn
      have hvs : vs = [] := List.eq_nil_of_length_eq_zero (by simpa using hxl)
      subst hvs
      refine ⟨.slice none 0 0, w, ?_, hK none 0 w (.inl ⟨rfl, rfl, rfl, rfl⟩) (fun b h => by cases h) id (Ext.refl _ _)⟩
      unfold Builtin.append_
      simp only [List.getElem?_toArray, List.getElem?_cons_zero, List.getElem?_cons_succ, Sem.run_bind, run_underlying_ok hu, Result.andThen, run_sizeOf_i hi, hm, run_underlying_ok hd2, Sem.run_pure, Bool.false_eq_true, if_false, Builtin.lenOf, Bool.not_false, if_true]
      rw [if_pos (Nat.le_refl _)]
      simp only [Sem.run_bind, run_firstCells hx hxl, Result.andThen, Sem.run_pure]
    · have hroom : n * m + vs.length ≤ (xs ++ sp).length := by
        rw [List.length_append, h2, h3, hxl]
        have : xn * m ≤ (c - n) * m := Nat.mul_le_mul_right _ (by omega)
        omega
      obtain ⟨w', hr, ha, he, hz'⟩ := run_storeCells (P := P) (b := b) (o := n * m) vs (xs ++ sp) w 0 h1 hone (by omega)
      have hsp : splice (xs ++ sp) (n * m) vs = (xs ++ vs) ++ sp.drop vs.length := by
        rw [splice_eq _ _ _ hroom, ← hsl, List.take_left, List.drop_append]
        simp
      refine ⟨.slice (some ⟨b, 0, none⟩) (n + xn) c, w', ?_, hK _ c w' (.inr ⟨b, sp.drop vs.length, rfl, ?_, ?_, ?_, hcap⟩) (fun b' h => .inl h) id (he.mono fun b' _ h => by subst h; rfl)⟩
      · unfold Builtin.append_
        simp only [List.getElem?_toArray, List.getElem?_cons_zero, List.getElem?_cons_succ, Sem.run_bind, run_underlying_ok hu, Result.andThen, run_sizeOf_i hi, hm, run_underlying_ok hd2, Sem.run_pure, Bool.false_eq_true, if_false, Builtin.lenOf, Bool.not_false, if_true]
        rw [if_pos hcap]
        simp only [Sem.run_bind, run_firstCells hx hxl, Result.andThen, Sem.run_pure, add_mk, Nat.zero_add]
        rw [hr]
      · rw [← hsp]; simpa using ha
      · simp [hsl, hxl, Nat.add_mul]
      · simp only [List.length_drop, h3, hxl]
        rw [← Nat.sub_mul]; congr 1; omega
  · have hncap : c < n + xn := by omega
    have hnext : ¬ (Builtin.nextslicecap (n + xn) c * i.bytes > 2 ^ 48) := hgr i hi hncap
    have hreads : Reads w a xs := hs.reads
    have hreads' : Reads (drew w) a xs := hreads
    have hx' : Reads (drew w) xa vs := hx
    generalize hcp : (n + xn) + w.tape w.drawn (.appendCap (n + xn) c e) % (2 ^ 63 - (n + xn)) = cap
    have hcapge : n + xn ≤ cap := by omega
    refine ⟨.slice (some ⟨w.heap.size, 0, none⟩) (n + xn) cap, { drew w with heap := w.heap.push (.cells ((xs ++ vs) ++ zeros z (cap - (n + xn))).toArray e) }, ?_, hK _ cap _ (.inr ⟨w.heap.size, zeros z (cap - (n + xn)), rfl, ?_, ?_, ?_, hcapge⟩) (fun b' h => .inr ?_) (fun _ => rfl) ⟨rfl, rfl, rfl, by simp, fun b' hb' _ => ?_⟩⟩
    · unfold Builtin.append_
      simp only [List.getElem?_toArray, List.getElem?_cons_zero, List.getElem?_cons_succ, Sem.run_bind, run_underlying_ok hu, Result.andThen, run_sizeOf_i hi, hm, run_underlying_ok hd2, Sem.run_pure, Bool.false_eq_true, if_false, Builtin.lenOf, Bool.not_false, if_true]
      rw [if_neg hcap]
      simp only [Sem.run_bind, run_typeInfo_i hi, Result.andThen]
      rw [if_neg (by rintro ⟨h, _⟩; simp [IntKind.max, IntKind.signed, IntKind.bits] at h; omega)]
      simp only [Sem.run_bind, run_typeInfo_i hi, Result.andThen]
      rw [if_neg hnext]
      simp only [Sem.run_bind, choose, Sem.run, Question.forced, Bool.false_eq_true, if_false, Question.cut, hcp]
      have hd : ({ w with drawn := w.drawn + 1 } : World) = drew w := rfl
      rw [hd]
      simp only [Sem.run_bind, run_typeInfo_i hi, Result.andThen, run_askRoom, run_firstCells hreads' hsl, run_firstCells hx' hxl, run_zeroValue_i hi hz, hv, zeroCells_eq, run_newRow, Sem.run_pure]
      simp [drew]
      rfl
    · exact ⟨(0, 0), by simp, .inl (Nat.le_refl _)⟩
    · simp [hsl, hxl, Nat.add_mul]
    · rw [zeros_length, hzl]
    · simp only [Option.some.injEq, Addr.mk.injEq, and_true] at h
      omega
    · simp [Array.getElem?_push, Nat.ne_of_lt hb']
/-- append(s, x...), of few elements. -/
theorem ap_i {a xa : Option Addr} {n c xn xc : Nat} {xs vs : List Value} {t2 t3 : TypeId} {K : Value → World → Prop} (e : TypeId) (m : Nat) (hs : Sl w e m a n c xs) (hx : Reads w xa vs) (hxl : vs.length = xn * m) (hone : ∀ v ∈ vs, one v = true)
    (hbd : n + xn ≤ 1000000000)
    (hK : ∀ a' c' w', Sl w' e m a' (n + xn) c' (xs ++ vs) → (∀ b, a' = some ⟨b, 0, none⟩ → a = some ⟨b, 0, none⟩ ∨ w.heap.size ≤ b) → (a.isSome = true → a'.isSome = true) → Ext w w' (fun b => a = some ⟨b, 0, none⟩) → K (.slice a' (n + xn) c') w')
    (hu : P.underlying t = some (.slice e) := by kernel_rfl) (hu2 : isSlT P t2 = true := by kernel_rfl) (hti : tiB P e m = true := by kernel_rfl) :
    rv P (Builtin.append_ #[t, t2] t3 #[.slice a n c, .slice xa xn xc]) w K := by
  refine ap_g e m hs hx hxl hone (by omega) (fun i hi hncap => ?_) hK hu hu2 hti
  obtain ⟨i', hi', hm, hb, _⟩ := TI.of hti
  rw [hi] at hi'
  cases hi'
  have h1 := nextslicecap_le hncap
  have h2 : Builtin.nextslicecap (n + xn) c * i.bytes ≤ 2000000192 * 4096 := Nat.mul_le_mul (by omega) hb
  omega
def bytes1 (P : Program) (e : TypeId) : Bool :=
  match P.info? e with
  | some i => Nat.beq i.bytes 1
  | none => false
/-- append to nothing, of elements of one byte. -/
theorem ap_0 {a xa : Option Addr} {xn xc : Nat} {vs : List Value} {t2 t3 : TypeId} {K : Value → World → Prop} (e : TypeId) (hs : Sl w e 1 a 0 0 []) (hx : Reads w xa vs) (hxl : vs.length = xn) (hone : ∀ v ∈ vs, one v = true)
    (hbd : xn ≤ 140737488355328)
    (hK : ∀ a' c' w', Sl w' e 1 a' xn c' vs → (∀ b, a' = some ⟨b, 0, none⟩ → a = some ⟨b, 0, none⟩ ∨ w.heap.size ≤ b) → (a.isSome = true → a'.isSome = true) → Ext w w' (fun b => a = some ⟨b, 0, none⟩) → K (.slice a' xn c') w')
    (hu : P.underlying t = some (.slice e) := by kernel_rfl) (hu2 : isSlT P t2 = true := by kernel_rfl) (hti : tiB P e 1 = true := by kernel_rfl) (hb1 : bytes1 P e = true := by kernel_rfl) :
    rv P (Builtin.append_ #[t, t2] t3 #[.slice a 0 0, .slice xa xn xc]) w K := by
  refine ap_g e 1 hs hx (by rw [hxl, Nat.mul_one]) hone (by omega) (fun i hi hlt => ?_) (fun a' c' w' h1 h2 h3 h4 => ?_) hu hu2 hti
  · unfold bytes1 at hb1
    rw [hi] at hb1
    dsimp only at hb1
    rw [Nat.eq_of_beq_eq_true hb1, Nat.zero_add]
    unfold Builtin.nextslicecap
    rw [if_pos (by omega)]
    omega
  · rw [Nat.zero_add] at *
    rw [List.nil_append] at h1
    exact hK a' c' w' h1 h2 h3 h4
theorem Sl.isome {w : World} {a : Option Addr} {n c : Nat} {xs : List Value} (h : Sl w e m a n c xs) (ha : a.isSome = true) :
    ∃ (b : Nat) (sp : List Value), a = some ⟨b, 0, none⟩ ∧ At w b (xs ++ sp) e ∧ xs.length = n * m ∧ sp.length = (c - n) * m ∧ n ≤ c := by
  rcases h with ⟨rfl, _⟩ | h
  · cases ha
  · exact h
theorem Sl.new {w : World} {b n : Nat} {xs : List Value} (h : At w b xs e) (hl : xs.length = n * m) : Sl w e m (some ⟨b, 0, none⟩) n n xs :=
  .inr ⟨b, [], rfl, by simpa using h, hl, by simp, Nat.le_refl _⟩
end
end Go.Ev
