/-
  Several texts in one (Link, Z, Opn, Mod, Rep, Bld), each with its own word below. No condition beyond those stated.
-/
import Derived.Test.YtpinpccamfhofaaRows
import Derived.Test.YtpinpccamfhofaaGA
import Derived.Below
import Derived.ChangeSame
import Derived.OpenShut
import Derived.JoinedCond
import Derived.ProofKit
import Derived.Deep.Slices
import Derived.SizedLaws
import Derived.Test.YtpinpccamfhofaaW1
import Derived.Test.YtpinpccamfhofaaShf
import Derived.Lib.UnsafeStr
import Derived.Lib.Builder
set_option linter.unusedVariables false
set_option linter.unusedSimpArgs false
/-
  The last step of a law's proof, for any law: a call that returns true and leaves every old block as it was meets the law's row; and slices that came in, read cell by cell. No condition.
-/
namespace Go.Ev
open Go Go.ChangeShapes Go.WideShapes Go.ChangeAt Go.RowKit

section
variable {H : Type} {enc : TypeId × Value → H} {P : Program}

def allReadable (P : Program) (ts : List TypeId) : Bool := ts.all fun t => P.readableRec t && decide (t < P.types.size)

theorem trodAll_stays (hl : laidOutB P = true) {W W' : World} (hb : Below W.heap.size W W') {sp : Nat → Bool} : ∀ (ts : List TypeId) (vs : List Value) (ds : List (DataW H)) (ps : List MemPlace),
    allReadable P ts = true → DataW.TrodAll enc P W 0 (fun _ => true) true ts vs ds ps → (∀ x ∈ ps, x.block < W.heap.size) → (∀ x ∈ ps, sp x.block = true) → DataW.TrodAll enc P W' 0 sp true ts vs ds ps
  | [], vs, ds, ps, _, h, _, _ => by
    obtain ⟨rfl, rfl, rfl⟩ := trodAll_nil h
    exact rfl
  | t :: ts, vs, ds, ps, hr, h, hlt, hsp => by
    obtain ⟨v, vs', d, ds', p, q, rfl, rfl, rfl, h1, h2⟩ := trodAll_cons h
    simp only [allReadable, List.all_cons, Bool.and_eq_true, decide_eq_true_eq] at hr
    refine trodAll_cons_mk (WideElems.Trod_stays hl hr.1.1 hr.1.2 h1 (fun x hx => hb.same (hlt x (List.mem_append_left _ hx))) (fun x hx => hsp x (List.mem_append_left _ hx))) ?_
    exact trodAll_stays hl hb ts vs' ds' q hr.2 h2 (fun x hx => hlt x (List.mem_append_right _ hx)) (fun x hx => hsp x (List.mem_append_right _ hx))

/-- True, and every old block as it was: the law's row is met. -/
theorem law_post {f : Func} {s : ChangeSpec} {tb : TypeId} {W W' : World} {args : Array Value} {ds gs : List (DataW H)} {before : List MemPlace}
    (hl : laidOutB P = true) (hrd : allReadable P f.params.toList = true) (hrt : f.resultTypes = #[tb]) (htb : P.underlying tb = some .bool) (hvars : s.vars = [])
    (hW : DataW.Whole enc P f.params.toList s.vars false W args.toList ds gs before)
    (hs : (s.fn H ds).results = [.lit (.bool true)] ∧ (s.fn H ds).args = ds ∧ (s.fn H ds).vars = [])
    (hb : Below W.heap.size W W') : s.post enc P f false true false false W args (.bool true) W' := by
  have hlt : ∀ p ∈ before, p.block < W.heap.size := fun p hp => hW.lt p hp
  have hW2 := hW
  obtain ⟨pa, pv, hA, hV, rfl, hz, hn⟩ := hW
  rw [hvars] at hV
  obtain ⟨rfl, rfl⟩ := trodVars_none hV
  simp only [List.append_nil] at hlt hz
  have args_ : ∀ sp : Nat → Bool, (∀ p ∈ pa, sp p.block = true) → DataW.TrodAll enc P W' 0 sp true f.params.toList args.toList ds pa := fun sp hsp =>
    trodAll_stays hl hb _ _ _ _ hrd hA hlt hsp
  have res_ : ∀ (b : Nat) (sp : Nat → Bool) (hd : Bool), DataW.TrodAll enc P W' b sp hd f.resultTypes.toList ((Value.bool true).resultList f.resultTypes.size) [.lit (.bool true)] [] := fun b sp hd => by
    rw [hrt]
    exact trodAll_cons_mk (shut_bool htb _) trodAll_mk0
  have vars_ : ∀ sp : Nat → Bool, DataW.TrodVars enc P W' sp s.vars ([] : List (DataW H)) [] := fun sp => by rw [hvars]; rfl
  have hold : ∀ p ∈ pa, (fun b => decide (b < W.heap.size)) p.block = true := fun p hp => by simpa using hlt p hp
  refine ⟨ds, [], pa ++ [], [], pa, [], hW2, ?_, ?_, ?_, World.keptBut_mono (fun p hp => ⟨hp, Or.inr (by simpa using hp)⟩) (hb.frame (· ∈ pa ++ [])), fun h => by cases h⟩
  · rw [List.append_nil, hs.1]; exact res_ _ _ _
  · rw [List.append_nil, hs.2.1]; exact args_ _ hold
  · rw [List.append_nil, hs.2.2]; exact vars_ _

/-- A slice that came in: nil and empty, or a row of cells. -/
theorem open_sl {W : World} {t e : TypeId} {v : Value} {d : DataW H} {p : List MemPlace} {r : Reach} {b0 : Nat} (ht : P.underlying t = some (.slice e)) (hv : Value.okWide P W r b0 t v)
    (h : DataW.Trod enc P W 0 (fun _ => true) true t v d p) :
    v = .slice none 0 0 ∨ ∃ (a : Addr) (len cap : Nat), v = .slice (some a) len cap ∧ len ≤ cap ∧ cap ≤ maxLen ∧
      ∀ i, i < len → ∃ (cs : List Value) (n : Nat) (y : DataW H × List MemPlace), cs.length = P.cellsOf e ∧ (∀ j, j < P.cellsOf e → W.cell? (a.add (i * P.cellsOf e + j)) = cs[j]?) ∧ DataW.trod enc P W 0 (fun _ => true) true n e cs = some y := by
  obtain ⟨fuel, hf⟩ := h
  obtain ⟨a0, l0, c0, rfl⟩ := okWide_slice ht hv
  rcases DataW.trod_slice ht hf with ⟨hc, _⟩ | ⟨a, len, cap, elems, rest, n, _, hc, _, _, hl, hm, hlen, hel, _⟩
  · left
    simpa [Value.cells] using hc
  · right
    refine ⟨a, len, cap, by simpa [Value.cells] using hc, hl, hm, fun i hi => ?_⟩
    have h1 := hel i hi
    rw [List.getElem?_eq_getElem (by omega)] at h1
    obtain ⟨cs, hcs, hy⟩ := Option.bind_eq_some_iff.1 h1
    obtain ⟨_, hcl, hat⟩ := World.cells?_some hcs
    exact ⟨cs, n, _, hcl, fun j hj => by rw [← add_add_, hat j hj], hy⟩

theorem int_of_wf {k : IntKind} {n : Int} (h : (Lit.int k n).wf = true) : k.min ≤ n ∧ n ≤ k.max := by
  simpa [Lit.wf] using h
end
end Go.Ev

/-
  Two facts on the translation's tables. No condition.
-/
namespace Go.Proofs.Ytpinpccamfhofaa
open Go Go.Ev Go.Proofs Go.ChangeShapes Go.WideShapes Go.ChangeAt Go.RowKit
theorem own : ownKnob Try.prog.godebug = none := by kernel_rfl
theorem laidOut : laidOutB Try.prog = true := by kernel_rfl
end Go.Proofs.Ytpinpccamfhofaa

/-
  Arguments that came in: slices read whole, with the bound that the law's form sets on their sizes. Of any program; no condition.
-/
namespace Go.Ev
open Go Go.ChangeShapes Go.WideShapes Go.ChangeAt Go.RowKit

theorem choose_list {α : Type} [Inhabited α] {Q : Nat → α → Prop} : ∀ (n : Nat), (∀ i, i < n → ∃ x, Q i x) → ∃ l : List α, l.length = n ∧ ∀ i (h : i < l.length), Q i l[i]
  | 0, _ => ⟨[], rfl, fun i h => by simp at h⟩
  | n + 1, h => by
    obtain ⟨l, hl, hq⟩ := choose_list n (fun i hi => h i (by omega))
    obtain ⟨x, hx⟩ := h n (by omega)
    refine ⟨l ++ [x], by simp [hl], fun i hi => ?_⟩
    by_cases hi' : i < l.length
    · rw [List.getElem_append_left hi']; exact hq i hi'
    · have : i = n := by simp at hi; omega
      subst this
      rw [List.getElem_append_right (by omega)]
      simpa [hl] using hx

section
variable {H : Type} {enc : TypeId × Value → H} {P : Program}

/-- The datum keeps to the bound. -/
def Light (P : Program) (t : TypeId) (d : DataW H) : Prop := ∀ x ∈ d.weights P t, x ≤ reachBytes

theorem light_of {ts us : List TypeId} {ds gs : List (DataW H)} (h : (DataW.weightsEach P (ts ++ us) (ds ++ gs)).all (· ≤ reachBytes) = true) (j : Nat) {t : TypeId} {d : DataW H} (ht : ts[j]? = some t) (hd : ds[j]? = some d) : Light P t d := by
  intro x hx
  have h1 : (ts ++ us)[j]? = some t := by
    rw [List.getElem?_append_left]; exact ht
    rcases Nat.lt_or_ge j ts.length with h | h
    · exact h
    · rw [List.getElem?_eq_none h] at ht; cases ht
  have h2 : (ds ++ gs)[j]? = some d := by
    rw [List.getElem?_append_left]; exact hd
    rcases Nat.lt_or_ge j ds.length with h | h
    · exact h
    · rw [List.getElem?_eq_none h] at hd; cases hd
  have := List.all_eq_true.1 h x (DataW.weights_mem_each h1 h2 x hx)
  simpa using this

theorem weightsAll_mem {e : TypeId} : ∀ {l : List (DataW H)} {d : DataW H}, d ∈ l → ∀ x ∈ d.weights P e, x ∈ DataW.weightsAll P e l
  | d0 :: l, d, hd, x, hx => by
    unfold DataW.weightsAll
    rcases List.mem_cons.1 hd with rfl | hd
    · exact List.mem_append_left _ hx
    · exact List.mem_append_right _ (weightsAll_mem hd x hx)

/-- A slice that came in, by its cell. -/
theorem trod_slz {W : World} {t e : TypeId} {n : Nat} {cs : List Value} {x : DataW H × List MemPlace} (ht : P.underlying t = some (.slice e)) (h : DataW.trod enc P W 0 (fun _ => true) true n t cs = some x) (hw : Light P t x.1) :
    cs = [.slice none 0 0] ∨ ∃ (a : Addr) (len cap : Nat), cs = [.slice (some a) len cap] ∧ len ≤ cap ∧ cap ≤ maxLen ∧ len * P.bytesOf e ≤ reachBytes ∧
      ∀ i, i < len → ∃ (cs' : List Value) (n' : Nat) (y : DataW H × List MemPlace), cs'.length = P.cellsOf e ∧ (∀ j, j < P.cellsOf e → W.cell? (a.add (i * P.cellsOf e + j)) = cs'[j]?) ∧ DataW.trod enc P W 0 (fun _ => true) true n' e cs' = some y ∧ Light P e y.1 := by
  rcases DataW.trod_slice ht h with ⟨hc, _⟩ | ⟨a, len, cap, elems, rest, n, _, hc, hx, _, hl, hm, hlen, hel, _⟩
  · exact .inl hc
  · right
    have hw' : ∀ z ∈ DataW.weights P t x.1, z ≤ reachBytes := hw
    rw [hx] at hw'
    simp only [DataW.weights, ht] at hw'
    refine ⟨a, len, cap, hc, hl, hm, ?_, fun i hi => ?_⟩
    · have := hw' _ (List.mem_cons_self ..)
      simp only [List.length_map, hlen] at this
      exact Nat.le_trans (Nat.mul_le_mul_right _ (by omega)) this
    · have h1 := hel i hi
      rw [List.getElem?_eq_getElem (by omega)] at h1
      obtain ⟨cs', hcs, hy⟩ := Option.bind_eq_some_iff.1 h1
      obtain ⟨_, hcl, hat⟩ := World.cells?_some hcs
      refine ⟨cs', n, _, hcl, fun j hj => by rw [← add_add_, hat j hj], hy, fun z hz => ?_⟩
      refine hw' z (List.mem_cons_of_mem _ (List.mem_append_left _ (weightsAll_mem (d := elems[i].1) ?_ z hz)))
      exact List.mem_map_of_mem (List.getElem_mem (by omega))

def structFs (P : Program) (t : TypeId) : Array Field :=
  match P.underlying t with
  | some (.struct fs) => fs
  | _ => #[]
theorem light_part {t f : TypeId} {parts : List (DataW H)} {d : DataW H} (j : Nat) (h : Light P t (.agg parts)) (hd : parts[j]? = some d) (hu : P.underlying t = some (.struct (structFs P t)) := by kernel_rfl) (hj : ((structFs P t).toList.map (·.type))[j]? = some f := by kernel_rfl) : Light P f d := by
  intro z hz
  refine h z ?_
  simp only [DataW.weights, hu]
  exact DataW.weights_mem_each hj hd z hz

theorem trod_of {W : World} {t : TypeId} {v : Value} {d : DataW H} {p : List MemPlace} (h : DataW.Trod enc P W 0 (fun _ => true) true t v d p) : ∃ n, DataW.trod enc P W 0 (fun _ => true) true n t v.cells.toList = some (d, p) := h

theorem open_str {W : World} {t : TypeId} {v : Value} {r : Reach} {b0 : Nat} (ht : P.underlying t = some .string) (hv : Value.okWide P W r b0 t v) : ∃ l : List UInt8, v = .string (mkS l) := by
  obtain ⟨s, rfl⟩ := okWide_string ht hv
  exact ⟨s.data.toList, by rw [← mkS_of]⟩
theorem okWide_agg {W : World} {t : TypeId} {v : Value} {r : Reach} {b0 : Nat} (ht : isAggT P t = true) (hv : Value.okWide P W r b0 t v) : ∃ cs : Array Value, v = .agg cs := by
  unfold isAggT at ht
  unfold Value.okWide at hv
  cases hu : P.underlying t with
  | none => rw [hu] at ht; cases ht
  | some d =>
    rw [hu] at ht hv
    cases d <;> first | (obtain ⟨cs, h, _⟩ := hv; exact ⟨cs, h⟩) | cases ht
theorem open_boo {W : World} {t : TypeId} {v : Value} {r : Reach} {b0 : Nat} (ht : P.underlying t = some .bool) (hv : Value.okWide P W r b0 t v) : ∃ b : Bool, v = .bool b := okWide_bool ht hv

/-- A slice of cells that come in rows of m. -/
theorem reads_rows {W : World} {α : Type} [Inhabited α] {a : Addr} {len m : Nat} {f : α → List Value} {R : α → Prop} (hm : 0 < m) (hf : ∀ x, (f x).length = m) (h : ∀ i, i < len → ∃ x, R x ∧ ∀ j, j < m → W.cell? (a.add (i * m + j)) = (f x)[j]?) :
    ∃ l : List α, l.length = len ∧ Reads W (some a) (l.flatMap f) ∧ (∀ x ∈ l, R x) ∧ (l ≠ [] → a.block < W.heap.size) := by
  obtain ⟨l, hl, hq⟩ := choose_list len h
  have hfl : (l.flatMap f).length = l.length * m := flat_length hf l
  have hc : ∀ j, j < (l.flatMap f).length → W.cell? (a.add j) = (l.flatMap f)[j]? := by
    intro j hj
    rw [hfl] at hj
    have hdm : j / m < l.length := (Nat.div_lt_iff_lt_mul hm).2 hj
    have hmod : j % m < m := Nat.mod_lt _ hm
    have he : j / m * m + j % m = j := Nat.div_add_mod' j m
    have h1 := (hq (j / m) hdm).2 (j % m) hmod
    rw [he] at h1
    rw [h1, ← flat_get hf l (j / m) (j % m) hdm hmod, he]
  refine ⟨l, hl, .inr ⟨a, rfl, hc⟩, fun x hx => ?_, fun hne => ?_⟩
  · obtain ⟨i, hi, rfl⟩ := List.getElem_of_mem hx
    exact (hq i hi).1
  · have h0 : 0 < (l.flatMap f).length := by
      rw [hfl]
      have : 0 < l.length := List.length_pos_iff.2 hne
      exact Nat.mul_pos this hm
    have h1 := hc 0 h0
    rw [List.getElem?_eq_getElem h0] at h1
    have := cell_lt h1
    rwa [show (a.add 0).block = a.block by unfold Addr.add; split <;> rfl] at this
/-- A whole row of a slice that came in. -/
theorem rdG {W : World} {α : Type} {t : TypeId} {p : Addr} {m : Nat} {f : α → List Value} {l : List α} {K : Value → Prop} (i : Nat) (hi : i < l.length) (h : Reads W (some p) (l.flatMap f)) (hf : ∀ x, (f x).length = m) (hm : 0 < m) (hK : K (.agg (f l[i]).toArray))
    (ht : isAggT P t = true := by kernel_rfl) (hs : sizeT P t = m := by kernel_rfl) (hh : hasT P t = true := by kernel_rfl) : ld P t (p.add (i * m)) W K := by
  rcases h with h | ⟨p', hp, h⟩
  · exfalso
    have := congrArg List.length h
    rw [flat_length hf] at this
    simp only [List.length_nil] at this
    have : 0 < l.length * m := Nat.mul_pos (by omega) hm
    omega
  · cases hp
    refine ld_cs (vs := f l[i]) (fun j hj => ?_) hK ht (by rw [hs, hf]) hh
    rw [hf] at hj
    rw [add_add_, h _ (by rw [flat_length hf]; have := Nat.mul_le_mul_right m (show i + 1 ≤ l.length from hi); rw [Nat.add_mul] at this; omega), flat_get hf l i j hi hj]
/-- One cell of a row of a slice that came in. -/
theorem rdF {W : World} {α : Type} {t : TypeId} {p : Addr} {m o : Nat} {f : α → List Value} {l : List α} {v : Value} {K : Value → Prop} (i : Nat) (hi : i < l.length) (h : Reads W (some p) (l.flatMap f)) (hf : ∀ x, (f x).length = m) (ho : o < m) (hv : (f l[i])[o]? = some v) (hK : K v)
    (ht : isScal P t = true := by kernel_rfl) : ld P t ((p.add (i * m)).add o) W K := by
  rw [add_add_]
  exact rdL h (by rw [flat_get hf l i o hi ho]; exact hv) hK ht
end
end Go.Ev

/-
  The statements' remainder. No condition beyond those stated.
-/
namespace Go.Proofs.Ytpinpccamfhofaa
open Go Go.Ev Go.Proofs

def modv (v n : Int) : Int := (v % 18446744073709551616) % n
theorem modv_bd {v n : Int} (h : 0 < n) : 0 ≤ modv v n ∧ modv v n < n := ⟨Int.emod_nonneg _ (by omega), Int.emod_lt_of_pos _ h⟩

section
variable {w : World} {Q : Value → World → Prop}

theorem mod_c {v n : Int} (h0 : 0 < n) (h1 : n ≤ 9223372036854775807) (hQ : Q (.int .i64 (modv v n)) w) : CallE Try.prog 24 #[.int .i64 v, .int .i64 n] w Q := by
  apply C.help_Mod
  unfold W.help_Mod
  rw [wrap_u64 (x := n) (by omega) (by omega), wrap_u64']
  refine rem_i (by omega) ?_
  rw [fI_int]
  have hb := modv_bd (v := v) h0
  have : (v % 18446744073709551616).tmod n = modv v n := Int.tmod_eq_emod_of_nonneg (by omega)
  rw [this, wrap_i64 (by omega) (by omega)]
  exact hQ
end
end Go.Proofs.Ytpinpccamfhofaa

/-
  A byte repeated: the kit's contract of strings.Repeat in this engine's form; clones of slices. No condition beyond those stated.
-/
set_option maxRecDepth 100000
namespace Go.Proofs.Ytpinpccamfhofaa
open Go Go.Ev Go.Proofs

theorem Ext.of_below {w w' : World} (h : RowKit.Below w.heap.size w w') : Ext w w' (fun _ => False) := ⟨h.os, h.tape, h.output, h.size, fun b hb _ => h.block b hb⟩

section
variable {w : World} {Q : Value → World → Prop}
theorem repeatL_one_byte (x : UInt8) : ∀ n, Lib.repeatL [x] n = List.replicate n x
  | 0 => rfl
  | n + 1 => by rw [Lib.repeatL, repeatL_one_byte x n, List.replicate_succ]; rfl
theorem repeat_c {x : UInt8} {n : Nat} (hn : n ≤ 1000000) (hQ : ∀ w', Ext w w' (fun _ => False) → Q (.string (mkS (List.replicate n x))) w') : CallE Try.prog 61 #[.string (mkS [x]), .int .i64 (n : Int)] w Q := by
  refine Calls.mono (Try.strings_Repeat (mkS [x]) n w (by omega) (by rw [mkS_size]; show 1 * n ≤ _; omega)) ?_
  rintro e w' ⟨rfl, hb⟩
  refine ⟨_, rfl, ?_⟩
  have := hQ w' (Ext.of_below hb)
  rw [← repeatL_one_byte] at this
  exact this
end
end Go.Proofs.Ytpinpccamfhofaa

/-
  Contracts of a strings.Builder that the code owns: Write and String. No condition.
-/
set_option maxRecDepth 100000
namespace Go.Proofs.Ytpinpccamfhofaa
open Go Go.Ev Go.Proofs

/-- The builder at block b has taken the bytes l. -/
def Bld (w : World) (b : Nat) (l : List UInt8) : Prop :=
  ∃ (p a : Option Addr) (n c : Nat), At w b [.pointer p, .slice a n c] 157 ∧ (p = none ∨ p = some ⟨b, 0, none⟩) ∧ Sl w 5 1 a n c (by_ l) ∧ n = l.length ∧ ∀ g, a = some ⟨g, 0, none⟩ → g ≠ b

/-- A builder's blocks lie from B on. -/
def BldFrom (w : World) (B b : Nat) (l : List UInt8) : Prop :=
  ∃ (p a : Option Addr) (n c : Nat), At w b [.pointer p, .slice a n c] 157 ∧ (p = none ∨ p = some ⟨b, 0, none⟩) ∧ Sl w 5 1 a n c (by_ l) ∧ n = l.length ∧ B ≤ b ∧ ∀ g, a = some ⟨g, 0, none⟩ → g ≠ b ∧ B ≤ g

theorem bInfo : ∃ j, Try.prog.info? 157 = some j ∧ j.size ≠ 0 := by
  have h : (Try.prog.info? 157).map (·.size) = some 2 := by kernel_rfl
  cases hj : Try.prog.info? 157 with
  | none => rw [hj] at h; cases h
  | some j =>
    rw [hj] at h
    simp only [Option.map_some, Option.some.injEq] at h
    exact ⟨j, rfl, by omega⟩

theorem shape_at {w : World} {b : Nat} {cs : List Value} {T : TypeId} (h : At w b cs T) : w.shape? b = some (T, cs.length) := by
  obtain ⟨fr, h, _⟩ := h
  simp [World.shape?, h]

section
variable {w : World} {b : Nat} {Q : Value → World → Prop}

theorem copyCheck_c {p a : Option Addr} {n c : Nat} (h : At w b [.pointer p, .slice a n c] 157) (hp : p = none ∨ p = some ⟨b, 0, none⟩)
    (hQ : ∀ w', At w' b [.pointer (some ⟨b, 0, none⟩), .slice a n c] 157 → Ext w w' (· = b) → w'.heap.size = w.heap.size → Q (.tuple #[]) w') :
    CallE Try.prog 117 #[.pointer (some ⟨b, 0, none⟩)] w Q := by
  apply C.strings_Builder_copyCheck
  unfold W.strings_Builder_copyCheck
  obtain ⟨j, hj, hj0⟩ := bInfo
  simp only [add_mk, Nat.zero_add]
  refine ld_i h rfl ?_
  rw [fP_ptr]
  refine eq_nil ?_
  rw [fB_bool]
  rcases hp with rfl | rfl
  · simp only [Option.isNone_none, br_true]
    refine ⟨_, _, Lib.run_to_unsafe w ⟨b, 0, none⟩ (t := 157) (by kernel_rfl) (by kernel_rfl) hj hj0 (shape_at h) (by show 0 < 2; omega), ?_⟩
    dsimp only
    rw [fP_ptr]
    refine ⟨_, _, Lib.run_from_unsafe w ⟨b, 0, none⟩ (u := 157) (by kernel_rfl) (by kernel_rfl) hj (shape_at h) (by kernel_rfl), ?_⟩
    dsimp only
    rw [fP_ptr]
    refine st_i h (by simp) fun w1 a1 e1 z1 => ?_
    exact hQ w1 a1 e1 z1
  · simp only [Option.isNone_some, br_false]
    refine ld_i h rfl ?_
    rw [fP_ptr]
    refine ⟨.bool false, ?_, ?_⟩
    · rw [Sem.run_bind, run_eqGuard_ptr]
      exact Lib.run_neq_ptr_same w ⟨b, 0, none⟩ (te := 157) (by kernel_rfl) hj
    · dsimp only
      rw [fB_bool, br_false]
      exact hQ w h (Ext.refl _ _) rfl

theorem bwrite_c {B : Nat} {l l' : List UInt8} {xa : Option Addr} {xn xc : Nat} (h : BldFrom w B b l) (hx : Reads w xa (by_ l')) (hxb : ∀ g, xa = some g → g.block ≠ b) (hxn : l'.length = xn) (hlen : l.length + l'.length ≤ 1000000000) (hB : B ≤ w.heap.size)
    (hQ : ∀ w', BldFrom w' B b (l ++ l') → Ext w w' (fun g => B ≤ g) → Q (.tuple #[.int .i64 (xn : Int), .nilIface]) w') :
    CallE Try.prog 126 #[.pointer (some ⟨b, 0, none⟩), .slice xa xn xc] w Q := by
  obtain ⟨p, a, n, c, h1, h2, h3, rfl, hBb, h5⟩ := h
  apply C.strings_Builder_Write
  unfold W.strings_Builder_Write
  refine copyCheck_c h1 h2 fun w1 a1 e1 z1 => ⟨rfl, ?_⟩
  simp only [add_mk, Nat.zero_add]
  refine ld_i a1 rfl ?_
  rw [fS_slice]
  have s1 := h3.ext e1 (fun g hg hx => (h5 g hg).1 hx)
  have hx1 : Reads w1 xa (by_ l') := by
    rcases hx with hx | ⟨p, rfl, hx⟩
    · exact .inl hx
    · refine .inr ⟨p, rfl, fun j hj => ?_⟩
      have hcell := hx j hj
      rw [← hcell]
      have hlt : (p.add j).block < w.heap.size := by
        rw [List.getElem?_eq_getElem hj] at hcell
        exact cell_lt hcell
      have hblk : (p.add j).block = p.block := by unfold Addr.add; split <;> rfl
      exact cell_ext e1 hlt (by rw [hblk]; exact hxb p rfl)
  refine ap_i 5 1 s1 hx1 (by rw [by_length, hxn, Nat.mul_one]) (by_one l') (by omega) fun a' c' w2 s2 hor _ e2 => ?_
  rw [fS_slice]
  have a2 := a1.ext e2 (fun hx => (h5 b hx).1 rfl)
  refine st_i a2 (by simp) fun w3 a3 e3 z3 => ?_
  have hbl := h1.lt
  have hne : ∀ g, a' = some ⟨g, 0, none⟩ → g ≠ b ∧ B ≤ g := by
    intro g hg
    rcases hor g hg with hg' | hg'
    · exact h5 g hg'
    · exact ⟨by omega, by omega⟩
  refine hQ w3 ⟨_, a', _, c', a3, .inr rfl, ?_, by rw [List.length_append, hxn], hBb, hne⟩ ?_
  · rw [by_append]
    exact s2.ext e3 (fun g hg hx => (hne g hg).1 hx)
  · refine (e1.trans e2 (Z := fun g => B ≤ g) (fun b' _ h => by omega) (fun b' _ h => (h5 b' h).2)).trans e3 (fun _ _ h => h) (fun b' _ h => by omega)

theorem freeze_ext (w : World) (g n : Nat) : Ext w (w.freeze ⟨g, 0, none⟩ n) (· = g) := by
  unfold World.freeze
  split
  · exact Ext.refl _ _
  · refine ⟨rfl, rfl, rfl, by simp, fun b' hb' hx => ?_⟩
    simp [Array.getElem?_modify, Ne.symm hx]

theorem bstring_c {B : Nat} {l : List UInt8} (h : BldFrom w B b l) (hl0 : l ≠ []) (hlen : l.length ≤ 1000000000)
    (hQ : ∀ w', Ext w w' (fun g => B ≤ g) → Q (.string (mkS l)) w') :
    CallE Try.prog 99 #[.pointer (some ⟨b, 0, none⟩)] w Q := by
  obtain ⟨p, a, n, c, h1, h2, h3, rfl, hBb, h5⟩ := h
  apply C.strings_Builder_String
  unfold W.strings_Builder_String
  have hl1 : l.length ≠ 0 := by simpa using hl0
  rcases h3 with ⟨_, h, _⟩ | ⟨g, sp, rfl, ag, hgl, hsp, hnc⟩
  · exact absurd h hl1
  have hg := h5 g rfl
  refine ⟨fun w' => At w' b [.pointer p, .slice (some ⟨g, 0, none⟩) l.length c] 157, h1, ?_⟩
  simp only [add_mk, Nat.zero_add]
  refine ldS_i (fun w h => h) rfl ?_
  rw [fS_slice]
  refine ldS_i (fun w h => h) rfl ?_
  rw [fS_slice]
  refine ⟨_, _, Lib.run_unsafeSliceData_row (drew w) _ _ ⟨g, 0, none⟩ l.length c (by omega), ?_⟩
  dsimp only
  rw [fP_ptr]
  refine ⟨h1, ?_⟩
  have hcells := by_length l
  refine ⟨_, _, Lib.run_unsafeString_row (drew w) _ _ _ 5 (by kernel_rfl) (by kernel_rfl) g _ (shape_at (w := drew w) ag) l hl0 (by rw [List.length_append]; omega) (by omega) ?_, ?_⟩
  · intro j x hj
    rw [add_mk, Nat.zero_add]
    have := At.cell (w := drew w) (o := j) ag
    rw [this, List.getElem?_append_left (by rw [by_length]; exact (List.getElem?_eq_some_iff.mp hj).1), by_get, hj]
    rfl
  · dsimp only
    rw [fT_str]
    have e := freeze_ext (drew w) g l.length
    exact ⟨At.ext (w := drew w) h1 e (Ne.symm hg.1), hQ _ (e.of_drew.mono fun b' _ h => by omega)⟩

end
end Go.Proofs.Ytpinpccamfhofaa
