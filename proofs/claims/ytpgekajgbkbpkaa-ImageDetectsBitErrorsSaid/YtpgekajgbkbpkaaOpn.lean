/-
  Arguments that came in: slices read whole, with the bound that the law's form sets on their sizes. Of any program; no condition.
-/
import Derived.Test.YtpgekajgbkbpkaaR
import Derived.Test.YtpgekajgbkbpkaaLink
import Derived.SizedLaws
namespace Go.Ev
open Go Go.ChangeShapes Go.WideShapes Go.ChangeAt Go.RowKit

theorem choose_list {α : Type} [Inhabited α] {Q : Nat → α → Prop} : ∀ (n : Nat), (∀ i, i < n → ∃ x, Q i x) → ∃ l : List α, l.length = n ∧ ∀ i (h : i < l.length), Q i l[i]
  | 0, _ => ⟨[], rfl, fun i h => by simp at h⟩
  | n + 1, h => by
    obtain ⟨l, hl, hq⟩ := choose_list n (fun i hi => h i (by omega))
    obtain ⟨x, hx⟩ := h n (by omega)
    refine ⟨l ++ [x], by simp [hl], fun i hi => ?_⟩
    by_cases hi' : i < l.length
    · rw [List.getElem_append_left hi']; exact hq i hi'
    · have : i = n := by simp at hi; omega
      subst this
      rw [List.getElem_append_right (by omega)]
      simpa [hl] using hx

section
variable {H : Type} {enc : TypeId × Value → H} {P : Program}

/-- The datum keeps to the bound. -/
def Light (P : Program) (t : TypeId) (d : DataW H) : Prop := ∀ x ∈ d.weights P t, x ≤ reachBytes

theorem light_of {ts us : List TypeId} {ds gs : List (DataW H)} (h : (DataW.weightsEach P (ts ++ us) (ds ++ gs)).all (· ≤ reachBytes) = true) (j : Nat) {t : TypeId} {d : DataW H} (ht : ts[j]? = some t) (hd : ds[j]? = some d) : Light P t d := by
  intro x hx
  have h1 : (ts ++ us)[j]? = some t := by
    rw [List.getElem?_append_left]; exact ht
    rcases Nat.lt_or_ge j ts.length with h | h
    · exact h
    · rw [List.getElem?_eq_none h] at ht; cases ht
  have h2 : (ds ++ gs)[j]? = some d := by
    rw [List.getElem?_append_left]; exact hd
    rcases Nat.lt_or_ge j ds.length with h | h
    · exact h
    · rw [List.getElem?_eq_none h] at hd; cases hd
  have := List.all_eq_true.1 h x (DataW.weights_mem_each h1 h2 x hx)
  simpa using this

theorem weightsAll_mem {e : TypeId} : ∀ {l : List (DataW H)} {d : DataW H}, d ∈ l → ∀ x ∈ d.weights P e, x ∈ DataW.weightsAll P e l
  | d0 :: l, d, hd, x, hx => by
    unfold DataW.weightsAll
    rcases List.mem_cons.1 hd with rfl | hd
    · exact List.mem_append_left _ hx
    · exact List.mem_append_right _ (weightsAll_mem hd x hx)

/-- A slice that came in, by its cell. -/
theorem trod_slz {W : World} {t e : TypeId} {n : Nat} {cs : List Value} {x : DataW H × List MemPlace} (ht : P.underlying t = some (.slice e)) (h : DataW.trod enc P W 0 (fun _ => true) true n t cs = some x) (hw : Light P t x.1) :
    cs = [.slice none 0 0] ∨ ∃ (a : Addr) (len cap : Nat), cs = [.slice (some a) len cap] ∧ len ≤ cap ∧ cap ≤ maxLen ∧ len * P.bytesOf e ≤ reachBytes ∧
      ∀ i, i < len → ∃ (cs' : List Value) (n' : Nat) (y : DataW H × List MemPlace), cs'.length = P.cellsOf e ∧ (∀ j, j < P.cellsOf e → W.cell? (a.add (i * P.cellsOf e + j)) = cs'[j]?) ∧ DataW.trod enc P W 0 (fun _ => true) true n' e cs' = some y ∧ Light P e y.1 := by
  rcases DataW.trod_slice ht h with ⟨hc, _⟩ | ⟨a, len, cap, elems, rest, n, _, hc, hx, _, hl, hm, hlen, hel, _⟩
  · exact .inl hc
  · right
    have hw' : ∀ z ∈ DataW.weights P t x.1, z ≤ reachBytes := hw
    rw [hx] at hw'
    simp only [DataW.weights, ht] at hw'
    refine ⟨a, len, cap, hc, hl, hm, ?_, fun i hi => ?_⟩
    · have := hw' _ (List.mem_cons_self ..)
      simp only [List.length_map, hlen] at this
      exact Nat.le_trans (Nat.mul_le_mul_right _ (by omega)) this
    · have h1 := hel i hi
      rw [List.getElem?_eq_getElem (by omega)] at h1
      obtain ⟨cs', hcs, hy⟩ := Option.bind_eq_some_iff.1 h1
      obtain ⟨_, hcl, hat⟩ := World.cells?_some hcs
      refine ⟨cs', n, _, hcl, fun j hj => by rw [← add_add_, hat j hj], hy, fun z hz => ?_⟩
      refine hw' z (List.mem_cons_of_mem _ (List.mem_append_left _ (weightsAll_mem (d := elems[i].1) ?_ z hz)))
      exact List.mem_map_of_mem (List.getElem_mem (by omega))

def structFs (P : Program) (t : TypeId) : Array Field :=
  match P.underlying t with
  | some (.struct fs) => fs
  | _ => #[]
theorem light_part {t f : TypeId} {parts : List (DataW H)} {d : DataW H} (j : Nat) (h : Light P t (.agg parts)) (hd : parts[j]? = some d) (hu : P.underlying t = some (.struct (structFs P t)) := by kernel_rfl) (hj : ((structFs P t).toList.map (·.type))[j]? = some f := by kernel_rfl) : Light P f d := by
  intro z hz
  refine h z ?_
  simp only [DataW.weights, hu]
  exact DataW.weights_mem_each hj hd z hz

theorem trod_of {W : World} {t : TypeId} {v : Value} {d : DataW H} {p : List MemPlace} (h : DataW.Trod enc P W 0 (fun _ => true) true t v d p) : ∃ n, DataW.trod enc P W 0 (fun _ => true) true n t v.cells.toList = some (d, p) := h

theorem open_str {W : World} {t : TypeId} {v : Value} {r : Reach} {b0 : Nat} (ht : P.underlying t = some .string) (hv : Value.okWide P W r b0 t v) : ∃ l : List UInt8, v = .string (mkS l) := by
  obtain ⟨s, rfl⟩ := okWide_string ht hv
  exact ⟨s.data.toList, by rw [← mkS_of]⟩
theorem okWide_agg {W : World} {t : TypeId} {v : Value} {r : Reach} {b0 : Nat} (ht : isAggT P t = true) (hv : Value.okWide P W r b0 t v) : ∃ cs : Array Value, v = .agg cs := by
  unfold isAggT at ht
  unfold Value.okWide at hv
  cases hu : P.underlying t with
  | none => rw [hu] at ht; cases ht
  | some d =>
    rw [hu] at ht hv
    cases d <;> first | (obtain ⟨cs, h, _⟩ := hv; exact ⟨cs, h⟩) | cases ht
theorem open_boo {W : World} {t : TypeId} {v : Value} {r : Reach} {b0 : Nat} (ht : P.underlying t = some .bool) (hv : Value.okWide P W r b0 t v) : ∃ b : Bool, v = .bool b := okWide_bool ht hv

/-- A slice of cells that come in rows of m. -/
theorem reads_rows {W : World} {α : Type} [Inhabited α] {a : Addr} {len m : Nat} {f : α → List Value} {R : α → Prop} (hm : 0 < m) (hf : ∀ x, (f x).length = m) (h : ∀ i, i < len → ∃ x, R x ∧ ∀ j, j < m → W.cell? (a.add (i * m + j)) = (f x)[j]?) :
    ∃ l : List α, l.length = len ∧ Reads W (some a) (l.flatMap f) ∧ (∀ x ∈ l, R x) ∧ (l ≠ [] → a.block < W.heap.size) := by
  obtain ⟨l, hl, hq⟩ := choose_list len h
  have hfl : (l.flatMap f).length = l.length * m := flat_length hf l
  have hc : ∀ j, j < (l.flatMap f).length → W.cell? (a.add j) = (l.flatMap f)[j]? := by
    intro j hj
    rw [hfl] at hj
    have hdm : j / m < l.length := (Nat.div_lt_iff_lt_mul hm).2 hj
    have hmod : j % m < m := Nat.mod_lt _ hm
    have he : j / m * m + j % m = j := Nat.div_add_mod' j m
    have h1 := (hq (j / m) hdm).2 (j % m) hmod
    rw [he] at h1
    rw [h1, ← flat_get hf l (j / m) (j % m) hdm hmod, he]
  refine ⟨l, hl, .inr ⟨a, rfl, hc⟩, fun x hx => ?_, fun hne => ?_⟩
  · obtain ⟨i, hi, rfl⟩ := List.getElem_of_mem hx
    exact (hq i hi).1
  · have h0 : 0 < (l.flatMap f).length := by
      rw [hfl]
      have : 0 < l.length := List.length_pos_iff.2 hne
      exact Nat.mul_pos this hm
    have h1 := hc 0 h0
    rw [List.getElem?_eq_getElem h0] at h1
    have := cell_lt h1
    rwa [show (a.add 0).block = a.block by unfold Addr.add; split <;> rfl] at this
/-- A whole row of a slice that came in. -/
theorem rdG {W : World} {α : Type} {t : TypeId} {p : Addr} {m : Nat} {f : α → List Value} {l : List α} {K : Value → Prop} (i : Nat) (hi : i < l.length) (h : Reads W (some p) (l.flatMap f)) (hf : ∀ x, (f x).length = m) (hm : 0 < m) (hK : K (.agg (f l[i]).toArray))
    (ht : isAggT P t = true := by kernel_rfl) (hs : sizeT P t = m := by kernel_rfl) (hh : hasT P t = true := by kernel_rfl) : ld P t (p.add (i * m)) W K := by
  rcases h with h | ⟨p', hp, h⟩
  · exfalso
    have := congrArg List.length h
    rw [flat_length hf] at this
    simp only [List.length_nil] at this
    have : 0 < l.length * m := Nat.mul_pos (by omega) hm
    omega
  · cases hp
    refine ld_cs (vs := f l[i]) (fun j hj => ?_) hK ht (by rw [hs, hf]) hh
    rw [hf] at hj
    rw [add_add_, h _ (by rw [flat_length hf]; have := Nat.mul_le_mul_right m (show i + 1 ≤ l.length from hi); rw [Nat.add_mul] at this; omega), flat_get hf l i j hi hj]
/-- One cell of a row of a slice that came in. -/
theorem rdF {W : World} {α : Type} {t : TypeId} {p : Addr} {m o : Nat} {f : α → List Value} {l : List α} {v : Value} {K : Value → Prop} (i : Nat) (hi : i < l.length) (h : Reads W (some p) (l.flatMap f)) (hf : ∀ x, (f x).length = m) (ho : o < m) (hv : (f l[i])[o]? = some v) (hK : K v)
    (ht : isScal P t = true := by kernel_rfl) : ld P t ((p.add (i * m)).add o) W K := by
  rw [add_add_]
  exact rdL h (by rw [flat_get hf l i o hi ho]; exact hv) hK ht
end
end Go.Ev
