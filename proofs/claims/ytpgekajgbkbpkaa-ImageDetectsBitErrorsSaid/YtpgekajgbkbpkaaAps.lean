/-
  append(s, string...), and make with a capacity. No program; no condition beyond those stated.
-/
import Derived.Test.YtpgekajgbkbpkaaR
namespace Go.Ev
open Go
section
variable {P : Program} {w : World} {t e : TypeId}
theorem run_firstS {l : List UInt8} {vs : List Value} {m xn : Nat} {w : World} (hvs : vs = by_ l) (hxn : xn = l.length) : (Builtin.firstCells m xn (.string (mkS l))).run P w = .ok vs.toArray w := by
  subst hvs hxn
  unfold Builtin.firstCells
  dsimp only
  rw [mkS_extract, List.take_length, List.drop_zero]
  simp only [Sem.run_pure]
  congr 1
  simp [mkS, by_]
theorem ap_gs {a : Option Addr} {n c xn : Nat} {xs vs : List Value} {l : List UInt8} {t2 t3 : TypeId} {K : Value → World → Prop} (e : TypeId) (hs : Sl w e 1 a n c xs) (hvs : vs = by_ l) (hxn : xn = l.length)
    (hbd : n + xn ≤ 4611686018427387904) (hgr : ∀ i, P.info? e = some i → c < n + xn → ¬ (Builtin.nextslicecap (n + xn) c * i.bytes > 2 ^ 48))
    (hK : ∀ a' c' w', Sl w' e 1 a' (n + xn) c' (xs ++ vs) → (∀ b, a' = some ⟨b, 0, none⟩ → a = some ⟨b, 0, none⟩ ∨ w.heap.size ≤ b) → (a.isSome = true → a'.isSome = true) → Ext w w' (fun b => a = some ⟨b, 0, none⟩) → K (.slice a' (n + xn) c') w')
    (hu : P.underlying t = some (.slice e) := by kernel_rfl) (hu2 : isStr P t2 = true := by kernel_rfl) (hti : tiB P e 1 = true := by kernel_rfl) :
    rv P (Builtin.append_ #[t, t2] t3 #[.slice a n c, .string (mkS l)]) w K := by
  obtain ⟨i, hi, hm, hb, ⟨v, hz, hv⟩, hzl⟩ := TI.of hti
  generalize zeroL P e = z at *
  have hd2 : P.underlying t2 = some .string := by
    unfold isStr at hu2
    split at hu2
    · assumption
    · cases hu2
  have hxl : vs.length = xn * 1 := by rw [hvs, by_length, hxn, Nat.mul_one]
  have hone : ∀ v ∈ vs, one v = true := hvs ▸ by_one l
  have hsl : xs.length = n * 1 := by
    rcases hs with ⟨_, rfl, _, rfl⟩ | ⟨b, sp, rfl, h1, h2, _⟩
    · simp
    · exact h2
  by_cases hcap : n + xn ≤ c
  · rcases hs with ⟨rfl, rfl, rfl, rfl⟩ | ⟨b, sp, rfl, h1, h2, h3, h4⟩
    · have hxn : xn = 0 := by omega
      subst hxn
      have hvs : vs = [] := List.eq_nil_of_length_eq_zero (by simpa using hxl)
      subst hvs
      refine ⟨.slice none 0 0, w, ?_, hK none 0 w (.inl ⟨rfl, rfl, rfl, rfl⟩) (fun b h => by cases h) id (Ext.refl _ _)⟩
      unfold Builtin.append_
      simp only [List.getElem?_toArray, List.getElem?_cons_zero, List.getElem?_cons_succ, Sem.run_bind, run_underlying_ok hu, Result.andThen, run_sizeOf_i hi, hm, run_underlying_ok hd2, Sem.run_pure, Bool.false_eq_true, if_false, Builtin.lenOf, mkS_size, ← hxn, Bool.not_false, if_true]
      rw [if_pos (Nat.le_refl _)]
      simp only [Sem.run_bind, run_firstS hvs hxn, Result.andThen, Sem.run_pure]
    · have hroom : n * 1 + vs.length ≤ (xs ++ sp).length := by
        rw [List.length_append, h2, h3, hxl]
        have : xn * 1 ≤ (c - n) * 1 := Nat.mul_le_mul_right _ (by omega)
        omega
      obtain ⟨w', hr, ha, he, hz'⟩ := run_storeCells (P := P) (b := b) (o := n * 1) vs (xs ++ sp) w 0 h1 hone (by omega)
      have hsp : splice (xs ++ sp) (n * 1) vs = (xs ++ vs) ++ sp.drop vs.length := by
        rw [splice_eq _ _ _ hroom, ← hsl, List.take_left, List.drop_append]
        simp
      refine ⟨.slice (some ⟨b, 0, none⟩) (n + xn) c, w', ?_, hK _ c w' (.inr ⟨b, sp.drop vs.length, rfl, ?_, ?_, ?_, hcap⟩) (fun b' h => .inl h) id (he.mono fun b' _ h => by subst h; rfl)⟩
      · unfold Builtin.append_
        simp only [List.getElem?_toArray, List.getElem?_cons_zero, List.getElem?_cons_succ, Sem.run_bind, run_underlying_ok hu, Result.andThen, run_sizeOf_i hi, hm, run_underlying_ok hd2, Sem.run_pure, Bool.false_eq_true, if_false, Builtin.lenOf, mkS_size, ← hxn, Bool.not_false, if_true]
        rw [if_pos hcap]
        simp only [Sem.run_bind, run_firstS hvs hxn, Result.andThen, Sem.run_pure, add_mk, Nat.zero_add]
        rw [hr]
      · rw [← hsp]; simpa using ha
      · simp [hsl, hxl, Nat.add_mul]
      · simp only [List.length_drop, h3, hxl]
        rw [← Nat.sub_mul]; congr 1; omega
  · have hncap : c < n + xn := by omega
    have hnext : ¬ (Builtin.nextslicecap (n + xn) c * i.bytes > 2 ^ 48) := hgr i hi hncap
    have hreads : Reads w a xs := hs.reads
    have hreads' : Reads (drew w) a xs := hreads
    generalize hcp : (n + xn) + w.tape w.drawn (.appendCap (n + xn) c e) % (2 ^ 63 - (n + xn)) = cap
    have hcapge : n + xn ≤ cap := by omega
    refine ⟨.slice (some ⟨w.heap.size, 0, none⟩) (n + xn) cap, { drew w with heap := w.heap.push (.cells ((xs ++ vs) ++ zeros z (cap - (n + xn))).toArray e) }, ?_, hK _ cap _ (.inr ⟨w.heap.size, zeros z (cap - (n + xn)), rfl, ?_, ?_, ?_, hcapge⟩) (fun b' h => .inr ?_) (fun _ => rfl) ⟨rfl, rfl, rfl, by simp, fun b' hb' _ => ?_⟩⟩
    · unfold Builtin.append_
      simp only [List.getElem?_toArray, List.getElem?_cons_zero, List.getElem?_cons_succ, Sem.run_bind, run_underlying_ok hu, Result.andThen, run_sizeOf_i hi, hm, run_underlying_ok hd2, Sem.run_pure, Bool.false_eq_true, if_false, Builtin.lenOf, mkS_size, ← hxn, Bool.not_false, if_true]
      rw [if_neg hcap]
      simp only [Sem.run_bind, run_typeInfo_i hi, Result.andThen]
      rw [if_neg (by rintro ⟨h, _⟩; simp [IntKind.max, IntKind.signed, IntKind.bits] at h; omega)]
      simp only [Sem.run_bind, run_typeInfo_i hi, Result.andThen]
      rw [if_neg hnext]
      simp only [Sem.run_bind, choose, Sem.run, Question.forced, Bool.false_eq_true, if_false, Question.cut, hcp]
      have hd : ({ w with drawn := w.drawn + 1 } : World) = drew w := rfl
      rw [hd]
      simp only [Sem.run_bind, run_typeInfo_i hi, Result.andThen, run_askRoom, run_firstCells hreads' hsl, run_firstS hvs hxn, run_zeroValue_i hi hz, hv, zeroCells_eq, run_newRow, Sem.run_pure]
      simp [drew]
      rfl
    · exact ⟨(0, 0), by simp, .inl (Nat.le_refl _)⟩
    · simp [hsl, hxl, Nat.add_mul]
    · rw [zeros_length, hzl]
    · simp only [Option.some.injEq, Addr.mk.injEq, and_true] at h
      omega
    · simp [Array.getElem?_push, Nat.ne_of_lt hb']
/-- append(s, string...), of few bytes. -/
theorem ap_s {a : Option Addr} {n c : Nat} {xs : List Value} {l : List UInt8} {t2 t3 : TypeId} {K : Value → World → Prop} (e : TypeId) (hs : Sl w e 1 a n c xs) (hbd : n + l.length ≤ 1000000000)
    (hK : ∀ a' c' w', Sl w' e 1 a' (n + l.length) c' (xs ++ by_ l) → (∀ b, a' = some ⟨b, 0, none⟩ → a = some ⟨b, 0, none⟩ ∨ w.heap.size ≤ b) → (a.isSome = true → a'.isSome = true) → Ext w w' (fun b => a = some ⟨b, 0, none⟩) → K (.slice a' (n + l.length) c') w')
    (hu : P.underlying t = some (.slice e) := by kernel_rfl) (hu2 : isStr P t2 = true := by kernel_rfl) (hti : tiB P e 1 = true := by kernel_rfl) :
    rv P (Builtin.append_ #[t, t2] t3 #[.slice a n c, .string (mkS l)]) w K := by
  refine ap_gs e hs rfl rfl (by omega) (fun i hi hncap => ?_) hK hu hu2 hti
  obtain ⟨i', hi', hm, hb, _⟩ := TI.of hti
  rw [hi] at hi'
  cases hi'
  have h1 := nextslicecap_le hncap
  have h2 : Builtin.nextslicecap (n + l.length) c * i.bytes ≤ 2000000192 * 4096 := Nat.mul_le_mul (by omega) hb
  omega
/-- make([]T, 0, c) -/
theorem mk_0 {k k' : IntKind} {n : Int} {K : Value → World → Prop} (e : TypeId) (m : Nat) (h0 : 0 ≤ n) (h1 : n ≤ 1000000000)
    (hK : ∀ b w', b = w.heap.size → Sl w' e m (some ⟨b, 0, none⟩) 0 n.toNat [] → Ext w w' (fun _ => False) → w'.heap.size = w.heap.size + 1 → K (.slice (some ⟨b, 0, none⟩) 0 n.toNat) w')
    (hu : P.underlying t = some (.slice e) := by kernel_rfl) (hti : tiB P e m = true := by kernel_rfl) : rv P (Instr.makeSlice t (.int k 0) (.int k' n)) w K := by
  obtain ⟨i, hi, hm, hb, ⟨v, hz, hv⟩, hzl⟩ := TI.of hti
  generalize zeroL P e = z at *
  have hw : IntKind.i64.wrap n = n := wrap_i64 (by omega) (by omega)
  have hw0 : IntKind.i64.wrap 0 = 0 := wrap_i64 (by omega) (by omega)
  have hlarge : ¬ ((i.bytes : Int) * n > 2 ^ 48) := by
    have : (i.bytes : Int) * n ≤ 4096 * 1000000000 := Int.mul_le_mul (by omega) h1 h0 (by omega)
    omega
  have hat : At { w with heap := w.heap.push (.cells (zeros z n.toNat).toArray e) } w.heap.size (zeros z n.toNat) e := ⟨(0, 0), by simp, .inl (Nat.le_refl _)⟩
  refine ⟨_, _, ?_, hK w.heap.size { w with heap := w.heap.push (.cells (zeros z n.toNat).toArray e) } rfl (.inr ⟨w.heap.size, zeros z n.toNat, rfl, by simpa using hat, by simp, by rw [zeros_length, hzl, Nat.sub_zero], Nat.zero_le _⟩) ⟨rfl, rfl, rfl, by simp, fun b hb _ => ?_⟩ (by simp)⟩
  · unfold Instr.makeSlice
    simp only [Sem.run_bind, run_underlying_ok hu, Result.andThen, asInt, asIntOf, Sem.run_pure, run_typeInfo_i hi, hw, hw0]
    rw [if_neg (by simp; omega)]
    simp only [Sem.run_bind, run_askRoom, Result.andThen, run_sizeOf_i hi, hm]
    by_cases hn0 : n.toNat * m = 0
    · rw [if_pos hn0]
      simp only [Sem.run_bind, Sem.run_pure, Result.andThen, run_newRow]
      have : zeros z n.toNat = [] := List.eq_nil_of_length_eq_zero (by rw [zeros_length, hzl]; exact hn0)
      rw [this, hn0, show Array.range 0 = #[] from rfl, Array.map_empty]
      rfl
    · rw [if_neg hn0]
      simp only [Sem.run_bind, Sem.run_pure, Result.andThen, run_zeroValue_i hi hz, run_newRow, hv]
      rw [← hzl, range_map]
      rfl
  · simp [Array.getElem?_push, Nat.ne_of_lt hb]
/-- copy(dst, string), the string as long as dst. -/
theorem cp_s {b o dn dc : Nat} {cs : List Value} {l : List UInt8} {T t2 t3 : TypeId} {K : Value → World → Prop} (e : TypeId) (h : At w b cs T) (hl : l.length = dn) (ho : o + dn ≤ cs.length)
    (hK : ∀ w', At w' b (splice cs o (by_ l)) T → Ext w w' (· = b) → w'.heap.size = w.heap.size → K (.int .i64 (dn : Int)) w')
    (hu : P.underlying t = some (.slice e) := by kernel_rfl) (hm : sizeT P e = 1 := by kernel_rfl) (hh : hasT P e = true := by kernel_rfl) :
    rv P (Builtin.copy_ #[t, t2] t3 #[.slice (some ⟨b, o, none⟩) dn dc, .string (mkS l)]) w K := by
  obtain ⟨w', hr, ha, he, hz⟩ := run_storeCells (P := P) (b := b) (o := o) (by_ l) cs w 0 h (by_one l) (by rw [by_length]; omega)
  refine ⟨.int .i64 (dn : Int), w', ?_, hK w' ha he hz⟩
  unfold Builtin.copy_
  simp only [List.getElem?_toArray, List.getElem?_cons_zero, List.getElem?_cons_succ, Sem.run_bind, run_underlying_ok hu, Result.andThen, Builtin.lenOf, mkS_size, hl, Sem.run_pure, run_sizeOf hm hh]
  rw [show Nat.min dn dn = dn from Nat.min_self dn, run_firstS (vs := by_ l) rfl hl.symm]
  simp only [Result.andThen, Sem.run_bind]
  rw [hr]
  rfl
end
end Go.Ev
