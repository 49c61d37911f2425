/-
  Wake sources: each method of the reference does what the plain functions say. Conditions: as each theorem states them.
-/
import Derived.Test.YtdfjakdgclbleaaWkG
namespace Go.Proofs.Ytdfjakdgclbleaa.Wk
open Go Go.Ev Go.Proofs

/-- How the reference holds one source. -/
def Rel : Src → Bool → Int → Prop
  | none, o, _ => o = false
  | some none, o, h => o = true ∧ h = 0
  | some (some t), o, h => o = true ∧ h = t + 1 ∧ 0 ≤ t ∧ t ≤ 4611686018427387904

structure RD where
  oc : Nat
  hc : Nat
  on : List Bool
  hold : List Int
  ro : List Value
  rh : List Value
  alarm : Int
  at_ : Int

def hdr (ob hb : Nat) (s : St) (d : RD) : List Value :=
  [.slice (some ⟨ob, 0, none⟩) s.src.length d.oc, .slice (some ⟨hb, 0, none⟩) s.src.length d.hc, .int .u64 d.alarm, .bool s.alarm.isSome, .int .i64 s.events, .bool s.armed.isSome, .int .i64 d.at_, .int .u64 s.clock]

structure RefD (w : World) (b ob hb : Nat) (d : RD) (s : St) : Prop where
  h : At w b (hdr ob hb s d) 41
  o : At w ob (d.on.map .bool ++ d.ro) 4
  hh : At w hb (d.hold.map (.int .u64) ++ d.rh) 32
  lo : d.on.length = s.src.length
  lh : d.hold.length = s.src.length
  rel : ∀ i (hi : i < s.src.length), Rel s.src[i] (d.on[i]'(by omega)) (d.hold[i]'(by omega))
  al : ∀ a, s.alarm = some a → d.alarm = a
  ar : ∀ r, s.armed = some r → d.at_ = r
  ne1 : b ≠ ob
  ne2 : b ≠ hb
  ne3 : ob ≠ hb
  len : s.src.length ≤ 32

def Ref (w : World) (b ob hb : Nat) (s : St) : Prop := ∃ d, RefD w b ob hb d s
def Own (b ob hb : Nat) : Nat → Prop := fun x => x = b ∨ x = ob ∨ x = hb

theorem RefD.ext {w w' : World} {b ob hb : Nat} {d : RD} {s : St} {X : Nat → Prop} (h : RefD w b ob hb d s) (he : Ext w w' X) (h1 : ¬ X b) (h2 : ¬ X ob) (h3 : ¬ X hb) : RefD w' b ob hb d s :=
  ⟨h.h.ext he h1, h.o.ext he h2, h.hh.ext he h3, h.lo, h.lh, h.rel, h.al, h.ar, h.ne1, h.ne2, h.ne3, h.len⟩
theorem Ref.ext {w w' : World} {b ob hb : Nat} {s : St} {X : Nat → Prop} (h : Ref w b ob hb s) (he : Ext w w' X) (h1 : ∀ x, Own b ob hb x → ¬ X x) : Ref w' b ob hb s :=
  h.imp fun _ h => h.ext he (h1 _ (.inl rfl)) (h1 _ (.inr (.inl rfl))) (h1 _ (.inr (.inr rfl)))
theorem Ref.ext0 {w w' : World} {b ob hb : Nat} {s : St} (h : Ref w b ob hb s) (he : Ext w w' (fun _ => False)) : Ref w' b ob hb s := h.ext he (fun _ _ h => h)
theorem Ref.lt {w : World} {b ob hb : Nat} {s : St} (h : Ref w b ob hb s) : b < w.heap.size ∧ ob < w.heap.size ∧ hb < w.heap.size :=
  h.elim fun _ h => ⟨h.h.lt, h.o.lt, h.hh.lt⟩

/-- The head alone has changed. -/
theorem RefD.head {w w' : World} {b ob hb : Nat} {d d' : RD} {s s' : St} (h : RefD w b ob hb d s) (he : Ext w w' (· = b)) (hh : At w' b (hdr ob hb s' d') 41)
    (hs : s'.src = s.src) (ho : d'.on = d.on ∧ d'.ro = d.ro) (hl : d'.hold = d.hold ∧ d'.rh = d.rh) (al : ∀ a, s'.alarm = some a → d'.alarm = a) (ar : ∀ r, s'.armed = some r → d'.at_ = r) : RefD w' b ob hb d' s' := by
  obtain ⟨oc, hc, on, hold, ro, rh, alarm, at_⟩ := d
  obtain ⟨oc', hc', on', hold', ro', rh', alarm', at_'⟩ := d'
  obtain ⟨src, _, _, _, _⟩ := s
  obtain ⟨src', _, _, _, _⟩ := s'
  dsimp only at *
  subst hs
  obtain ⟨rfl, rfl⟩ := ho
  obtain ⟨rfl, rfl⟩ := hl
  exact ⟨hh, h.o.ext he h.ne1.symm, h.hh.ext he h.ne2.symm, h.lo, h.lh, h.rel, al, ar, h.ne1, h.ne2, h.ne3, h.len⟩

theorem RefD.setOn {w w' : World} {b ob hb : Nat} {d : RD} {s : St} {i : Nat} {v : Bool} {x : Src} (h : RefD w b ob hb d s) (he : Ext w w' (· = ob)) (hi : i < s.src.length)
    (ho : At w' ob ((d.on.map Value.bool ++ d.ro).set i (.bool v)) 4) (hx : Rel x v (d.hold[i]'(by have := h.lh; omega))) : RefD w' b ob hb { d with on := d.on.set i v } (put s i x) := by
  have lo := h.lo
  have lh := h.lh
  refine ⟨?_, ?_, h.hh.ext he h.ne3.symm, by simp [put, lo], by simp [put, lh], ?_, h.al, h.ar, h.ne1, h.ne2, h.ne3, by simpa [put] using h.len⟩
  · have := h.h.ext he h.ne1
    simpa [hdr, put] using this
  · rw [List.set_append_left _ _ (by simp; omega)] at ho
    simpa [List.map_set] using ho
  · intro j hj
    simp only [put, List.length_set] at hj
    by_cases hji : i = j
    · subst hji
      simpa [put] using hx
    · simp only [put, List.getElem_set_ne hji]
      exact h.rel j hj

theorem RefD.setHold {w w' : World} {b ob hb : Nat} {d : RD} {s : St} {i : Nat} {v : Int} {x : Src} (h : RefD w b ob hb d s) (he : Ext w w' (· = hb)) (hi : i < s.src.length)
    (ho : At w' hb ((d.hold.map (Value.int .u64) ++ d.rh).set i (.int .u64 v)) 32) (hx : Rel x (d.on[i]'(by have := h.lo; omega)) v) : RefD w' b ob hb { d with hold := d.hold.set i v } (put s i x) := by
  have lo := h.lo
  have lh := h.lh
  refine ⟨?_, h.o.ext he h.ne3, ?_, by simp [put, lo], by simp [put, lh], ?_, h.al, h.ar, h.ne1, h.ne2, h.ne3, by simpa [put] using h.len⟩
  · have := h.h.ext he h.ne2
    simpa [hdr, put] using this
  · rw [List.set_append_left _ _ (by simp; omega)] at ho
    simpa [List.map_set] using ho
  · intro j hj
    simp only [put, List.length_set] at hj
    by_cases hji : i = j
    · subst hji
      simpa [put] using hx
    · simp only [put, List.getElem_set_ne hji]
      exact h.rel j hj

theorem RefD.set2 {w w' : World} {b ob hb : Nat} {d : RD} {s : St} {i : Nat} {v : Bool} {y : Int} {x : Src} (h : RefD w b ob hb d s) (he : Ext w w' (fun z => z = ob ∨ z = hb)) (hi : i < s.src.length)
    (ho : At w' ob ((d.on.map Value.bool ++ d.ro).set i (.bool v)) 4) (hh : At w' hb ((d.hold.map (Value.int .u64) ++ d.rh).set i (.int .u64 y)) 32) (hx : Rel x v y) :
    RefD w' b ob hb { d with on := d.on.set i v, hold := d.hold.set i y } (put s i x) := by
  have lo := h.lo
  have lh := h.lh
  refine ⟨?_, ?_, ?_, by simp [put, lo], by simp [put, lh], ?_, h.al, h.ar, h.ne1, h.ne2, h.ne3, by simpa [put] using h.len⟩
  · have := h.h.ext he (by rintro (hh | hh); exact h.ne1 hh; exact h.ne2 hh)
    simpa [hdr, put] using this
  · rw [List.set_append_left _ _ (by simp; omega)] at ho
    simpa [List.map_set] using ho
  · rw [List.set_append_left _ _ (by simp; omega)] at hh
    simpa [List.map_set] using hh
  · intro j hj
    simp only [put, List.length_set] at hj
    by_cases hji : i = j
    · subst hji
      simpa [put] using hx
    · simp only [put, List.getElem_set_ne hji]
      exact h.rel j hj

theorem RefD.getOn {w : World} {b ob hb : Nat} {d : RD} {s : St} {i : Nat} (h : RefD w b ob hb d s) (hi : i < s.src.length) : (d.on.map Value.bool ++ d.ro)[i]? = some (.bool (s.src[i]).isSome) := by
  have lo := h.lo
  have := h.rel i hi
  rw [List.getElem?_append_left (by simp; omega), List.getElem?_map, List.getElem?_eq_getElem (by omega)]
  simp only [Option.map_some, Option.some.injEq, Value.bool.injEq]
  cases hx : s.src[i] with
  | none => rw [hx] at this; exact this
  | some y => rw [hx] at this; cases y <;> simpa using this.1

theorem RefD.getHold {w : World} {b ob hb : Nat} {d : RD} {s : St} {i : Nat} (h : RefD w b ob hb d s) (hi : i < s.src.length) : (d.hold.map (Value.int .u64) ++ d.rh)[i]? = some (.int .u64 (d.hold[i]'(by have := h.lh; omega))) := by
  have lh := h.lh
  rw [List.getElem?_append_left (by simp; omega), List.getElem?_map, List.getElem?_eq_getElem (by omega)]
  rfl

section
variable {w : World} {b ob hb : Nat} {Q : Value → World → Prop}

theorem late_c {s : St} {t : Int} (h : Ref w b ob hb s) (hQ : Q (.bool (!ok s t)) w) : CallE Try.prog 43 #[.pointer (some ⟨b, 0, none⟩), .int .u64 t] w Q := by
  obtain ⟨d, h⟩ := h
  apply C.ref29_Sources_late
  unfold W.ref29_Sources_late
  simp only [add_mk, Nat.zero_add]
  refine ld_i h.h rfl ?_
  rw [fI_int]
  unfold ok at hQ
  by_cases hc : s.clock ≤ t
  · rw [decide_eq_true hc] at hQ
    rw [decide_eq_false (by omega), br_false]
    rw [show decide (t > 1152921504606846976) = !(decide (t ≤ MAX)) by rw [MAX_eq, Bool.eq_iff_iff]; simp]
    simpa using hQ
  · rw [decide_eq_false hc] at hQ
    rw [decide_eq_true (by omega), br_true]
    exact hQ

theorem bad_c {s : St} {i t : Int} (h : Ref w b ob hb s) (hQ : Q (.bool (!(has s i && ok s t))) w) : CallE Try.prog 41 #[.pointer (some ⟨b, 0, none⟩), .int .i64 i, .int .u64 t] w Q := by
  have h' := h
  obtain ⟨d, h⟩ := h
  apply C.ref29_Sources_bad
  unfold W.ref29_Sources_bad
  unfold has at hQ
  by_cases h0 : 0 ≤ i
  case neg =>
    rw [decide_eq_false h0] at hQ
    rw [decide_eq_true (by omega), br_true]
    exact hQ
  rw [decide_eq_true h0] at hQ
  rw [decide_eq_false (by omega), br_false]
  simp only [add_mk, Nat.zero_add]
  refine ld_i h.h rfl ?_
  rw [fS_slice]
  by_cases h1 : i < s.src.length
  case neg =>
    rw [decide_eq_false h1] at hQ
    rw [decide_eq_true (by omega), br_true]
    exact hQ
  rw [decide_eq_true h1] at hQ
  rw [decide_eq_false (by omega), br_false]
  refine late_c h' ?_
  rw [fB_bool]
  simpa using hQ

theorem Ext.own1 {w w' : World} (he : Ext w w' (· = b)) : Ext w w' (Own b ob hb) := he.mono fun _ _ h => .inl h
theorem Ext.own2 {w w' : World} (he : Ext w w' (· = ob)) : Ext w w' (Own b ob hb) := he.mono fun _ _ h => .inr (.inl h)
theorem Ext.own3 {w w' : World} (he : Ext w w' (· = hb)) : Ext w w' (Own b ob hb) := he.mono fun _ _ h => .inr (.inr h)

theorem refAdvance_k7 {s : St} {t : Int} (h : Ref w b ob hb s) (hc : 0 ≤ s.events) (hm : s.events < 9223372036854775807)
    (hQ : ∀ w', Ref w' b ob hb { s with alarm := if fires t s.alarm then none else s.alarm, events := s.events + (if fires t s.alarm then 1 else 0) } → Ext w w' (Own b ob hb) → Q (.tuple #[]) w') :
    W.ref29_Sources_advance_k7 ⟨b, 0, none⟩ t w Q := by
  obtain ⟨d, h⟩ := h
  have key : ∀ f : Bool, f = fires t s.alarm → W.ref29_Sources_advance_k8 ⟨b, 0, none⟩ f w Q := by
    intro f hf
    unfold W.ref29_Sources_advance_k8
    simp only [add_mk, Nat.zero_add]
    rw [← hf] at hQ
    cases f with
    | false =>
      rw [br_false]
      refine hQ w ⟨d, ?_⟩ (Ext.refl _ _)
      simpa using h
    | true =>
      rw [br_true]
      refine st_i h.h (by simp [hdr]) fun w1 a1 e1 z1 => ?_
      refine ld_i a1 rfl ?_
      rw [fI_int]
      refine st_i a1 (by simp [hdr]) fun w2 a2 e2 z2 => ?_
      rw [wrap_i64 (by omega) (by omega)] at a2
      have e12 := e1.tr e2
      exact hQ w2 ⟨d, h.head e12 a2 rfl ⟨rfl, rfl⟩ ⟨rfl, rfl⟩ (fun a ha => by simp at ha) h.ar⟩ (Ext.own1 e12)
  unfold W.ref29_Sources_advance_k7
  simp only [add_mk, Nat.zero_add]
  refine ld_i h.h rfl ?_
  rw [fB_bool]
  cases ha : s.alarm with
  | none => exact key false (by rw [ha]; rfl)
  | some a =>
    simp only [Option.isSome_some, br_true]
    refine ld_i h.h rfl ?_
    rw [fI_int, h.al a ha]
    exact key _ (by rw [ha]; rfl)

theorem refAdvance_c {s : St} {t : Int} (h : Ref w b ob hb s) (hc : 0 ≤ s.events) (hm : s.events + s.src.length < 9223372036854775807)
    (hQ : ∀ w', Ref w' b ob hb (adv s t) → Ext w w' (Own b ob hb) → Q (.tuple #[]) w') :
    CallE Try.prog 42 #[.pointer (some ⟨b, 0, none⟩), .int .u64 t] w Q := by
  obtain ⟨d, h⟩ := h
  have hlen := h.len
  apply C.ref29_Sources_advance
  unfold W.ref29_Sources_advance
  simp only [add_mk, Nat.zero_add]
  refine st_i h.h (by simp [hdr]) fun w1 a1 e1 z1 => ?_
  have h1 : RefD w1 b ob hb d { s with clock := t } := h.head e1 a1 rfl ⟨rfl, rfl⟩ ⟨rfl, rfl⟩ h.al h.ar
  refine LoopW.nat s.src.length (fun k x w' => x = ((k : Int), ()) ∧ Ref w' b ob hb (advTo s t k) ∧ Ext w w' (Own b ob hb)) ⟨rfl, ?_, Ext.own1 e1⟩ ?_
  · have : advTo s t 0 = { s with clock := t } := by simp [advTo]
    rw [this]
    exact ⟨d, h1⟩
  rintro k x w2 next hk ⟨rfl, ⟨d2, h2⟩, e2⟩ hnext
  have hplen := advTo_length s t k
  dsimp only
  refine ld_i h2.h rfl ?_
  rw [fS_slice]
  by_cases hlt : k < s.src.length
  · rw [decide_eq_true (show (k : Int) < ((advTo s t k).src.length : Int) by omega), br_true]
    refine ld_i h2.h rfl ?_
    rw [fS_slice]
    refine ix_sl 1 4 (by omega) (by omega) ?_
    simp only [add_mk, Nat.zero_add, Nat.mul_one, fA_ptr, Int.toNat_natCast]
    have hsrc := advTo_get s t hlt (by omega)
    refine ld_i h2.o (h2.getOn (by omega)) ?_
    rw [fB_bool, hsrc]
    have hw : IntKind.wrap .i64 ((k : Int) + 1) = ((k + 1 : Nat) : Int) := by rw [wrap_i64 (by omega) (by omega)]; omega
    have hstep : ∀ f : Bool, f = ends t s.src[k] → W.ref29_Sources_advance_k5 ⟨b, 0, none⟩ t k f next w2 Q := by
      intro f hf
      unfold W.ref29_Sources_advance_k5
      simp only [add_mk, Nat.zero_add]
      cases f with
      | false =>
        rw [br_false, hw]
        exact hnext hlt _ _ ⟨rfl, by rw [advTo_keep s t hlt hf.symm]; exact ⟨d2, h2⟩, e2⟩
      | true =>
        rw [br_true]
        refine ld_i h2.h rfl ?_
        rw [fS_slice]
        refine ix_sl 1 4 (by omega) (by omega) ?_
        simp only [add_mk, Nat.zero_add, Nat.mul_one, fA_ptr, Int.toNat_natCast]
        have lo := h2.lo
        refine st_i h2.o (by simp; omega) fun w3 a3 e3 z3 => ?_
        have h3 := h2.setOn (x := none) e3 (by omega) a3 rfl
        refine ld_i h3.h rfl ?_
        rw [fI_int]
        refine st_i h3.h (by simp [hdr]) fun w4 a4 e4 z4 => ?_
        have hcp : (s.src.take k).countP (ends t) ≤ k := Nat.le_trans List.countP_le_length (by simp; omega)
        have hev : (put (advTo s t k) k none).events = s.events + ((s.src.take k).countP (ends t) : Nat) := rfl
        rw [wrap_i64 (by rw [hev]; omega) (by rw [hev]; omega)] at a4
        rw [hw]
        refine hnext hlt _ _ ⟨rfl, ?_, (e2.tr (Ext.own2 e3)).tr (Ext.own1 e4)⟩
        rw [advTo_stop s t hlt hf.symm]
        exact ⟨{ d2 with on := d2.on.set k false }, h3.head e4 a4 rfl ⟨rfl, rfl⟩ ⟨rfl, rfl⟩ h3.al h3.ar⟩
    have lh := h2.lh
    have hrel := h2.rel k (by omega)
    rw [hsrc] at hrel
    cases hs : s.src[k] with
    | none => exact hstep false (by rw [hs]; rfl)
    | some y =>
      rw [hs] at hrel
      simp only [Option.isSome_some, br_true]
      refine ld_i h2.h rfl ?_
      rw [fS_slice]
      refine ix_sl 1 32 (by omega) (by omega) ?_
      simp only [add_mk, Nat.zero_add, Nat.mul_one, fA_ptr, Int.toNat_natCast]
      refine ld_i h2.hh (h2.getHold (by omega)) ?_
      rw [fI_int]
      cases y with
      | none =>
        rw [hrel.2, decide_eq_false (by omega), br_false]
        exact hstep false (by rw [hs]; rfl)
      | some x =>
        obtain ⟨_, hr, hx0, hx1⟩ := hrel
        rw [hr, decide_eq_true (by omega), br_true]
        refine ld_i h2.h rfl ?_
        rw [fS_slice]
        refine ix_sl 1 32 (by omega) (by omega) ?_
        simp only [add_mk, Nat.zero_add, Nat.mul_one, fA_ptr, Int.toNat_natCast]
        refine ld_i h2.hh (h2.getHold (by omega)) ?_
        rw [fI_int, hr]
        rw [show IntKind.wrap .u64 (x + 1 - 1) = x by rw [wrap_u64 (by omega) (by omega)]; omega]
        exact hstep _ (by rw [hs]; rfl)
  · have hke : k = s.src.length := by omega
    subst hke
    rw [decide_eq_false (show ¬ ((s.src.length : Nat) : Int) < ((advTo s t s.src.length).src.length : Int) by omega), br_false]
    have hcp : s.src.countP (ends t) ≤ s.src.length := List.countP_le_length
    rw [advTo_all] at h2
    refine refAdvance_k7 ⟨d2, h2⟩ (by show 0 ≤ s.events + _; omega) (by show s.events + _ < _; omega) fun w3 p3 e3 => ?_
    exact hQ w3 p3 (e2.tr e3)
theorem Ref.length {w : World} {b ob hb : Nat} {s : St} (h : Ref w b ob hb s) : s.src.length ≤ 32 := h.elim fun _ h => h.len

theorem put_put (s : St) (i : Nat) (x y : Src) : put (put s i x) i y = put s i y := by simp [put]
theorem put_length (s : St) (i : Nat) (x : Src) : (put s i x).src.length = s.src.length := by simp [put]

theorem refActivate_c {s : St} {i t : Int} (h : Ref w b ob hb s) (hs : Small s) (hQ : ∀ w', Ref w' b ob hb (activate s i t).2 → Ext w w' (Own b ob hb) → Q (.int .i64 (activate s i t).1) w') :
    CallE Try.prog 31 #[.pointer (some ⟨b, 0, none⟩), .int .i64 i, .int .u64 t] w Q := by
  have hlen := h.length
  obtain ⟨hs0, hs1⟩ := hs
  apply C.ref29_Sources_Activate
  unfold W.ref29_Sources_Activate
  refine bad_c h ?_
  rw [fB_bool]
  unfold activate at hQ
  cases hg : has s i && ok s t with
  | false => rw [hg] at hQ; exact hQ w h (Ext.refl _ _)
  | true =>
    rw [hg] at hQ
    simp only [Bool.not_true, br_false, if_true] at hQ ⊢
    have hi : has s i = true := by simp at hg; exact hg.1
    obtain ⟨h0, h1⟩ := has_spec hi
    refine refAdvance_c h hs0 (by omega) fun w1 p1 e1 => ⟨rfl, ?_⟩
    obtain ⟨d, r⟩ := p1
    have hl := adv_length s t
    have lo := r.lo
    have lh := r.lh
    refine ⟨fun w' => At w' b (hdr ob hb (adv s t) d) 41, r.h, ?_⟩
    simp only [add_mk, Nat.zero_add]
    refine ldS_i (fun _ h => h) rfl ?_
    rw [fS_slice]
    refine ldS_i (fun _ h => h) rfl ?_
    rw [fS_slice]
    refine ixS_sl 1 4 h0 (by omega) ?_
    simp only [add_mk, Nat.zero_add, Nat.mul_one, fA_ptr]
    refine st_i (w := drew w1) r.o (by simp; omega) fun w2 a2 e2 z2 => ?_
    replace e2 : Ext w1 w2 (· = ob) := e2.of_drew
    refine ⟨r.h.ext e2 r.ne1, ?_⟩
    refine ixS_sl 1 32 h0 (by omega) ?_
    simp only [add_mk, Nat.zero_add, Nat.mul_one, fA_ptr]
    refine st_i (r.hh.ext e2 r.ne3.symm) (by simp; omega) fun w3 a3 e3 z3 => ?_
    have e13 : Ext w1 w3 (fun z => z = ob ∨ z = hb) := e2.trans e3 (fun _ _ h => .inl h) (fun _ _ h => .inr h)
    refine ⟨(r.h.ext e2 r.ne1).ext e3 r.ne2, ?_⟩
    refine hQ w3 ⟨_, r.set2 (x := some none) e13 (by omega) (a2.ext e3 r.ne3) a3 ⟨rfl, rfl⟩⟩ ?_
    exact e1.trans e13 (fun _ _ h => h) (fun _ _ h => .inr h)

theorem refDeactivate_c {s : St} {i t : Int} (h : Ref w b ob hb s) (hs : Small s) (hQ : ∀ w', Ref w' b ob hb (deactivate s i t).2 → Ext w w' (Own b ob hb) → Q (.int .i64 (deactivate s i t).1) w') :
    CallE Try.prog 27 #[.pointer (some ⟨b, 0, none⟩), .int .i64 i, .int .u64 t] w Q := by
  have hlen := h.length
  obtain ⟨hs0, hs1⟩ := hs
  apply C.ref29_Sources_Deactivate
  unfold W.ref29_Sources_Deactivate
  refine bad_c h ?_
  rw [fB_bool]
  unfold deactivate at hQ
  cases hg : has s i && ok s t with
  | false => rw [hg] at hQ; exact hQ w h (Ext.refl _ _)
  | true =>
    rw [hg] at hQ
    simp only [Bool.not_true, br_false, if_true] at hQ ⊢
    have hi : has s i = true := by simp at hg; exact hg.1
    obtain ⟨h0, h1⟩ := has_spec hi
    refine refAdvance_c h hs0 (by omega) fun w1 p1 e1 => ⟨rfl, ?_⟩
    obtain ⟨d, r⟩ := p1
    have hl := adv_length s t
    have hev := adv_events s t
    have lo := r.lo
    have lh := r.lh
    simp only [add_mk, Nat.zero_add]
    refine ld_i r.h rfl ?_
    rw [fS_slice]
    refine ix_sl 1 4 h0 (by omega) ?_
    simp only [add_mk, Nat.zero_add, Nat.mul_one, fA_ptr]
    refine ld_i r.o (r.getOn (by omega)) ?_
    rw [fB_bool, ← get_of (show i.toNat < (adv s t).src.length by omega)]
    unfold deact at hQ
    cases hgs : (get (adv s t) i.toNat).isSome with
    | false => rw [hgs] at hQ; exact hQ w1 ⟨d, r⟩ e1
    | true =>
      rw [hgs] at hQ
      rw [br_true]
      refine ld_i r.h rfl ?_
      rw [fS_slice]
      refine ix_sl 1 4 h0 (by omega) ?_
      simp only [add_mk, Nat.zero_add, Nat.mul_one, fA_ptr]
      refine st_i r.o (by simp; omega) fun w2 a2 e2 z2 => ?_
      have r2 := r.setOn (x := none) e2 (by omega) a2 rfl
      refine ld_i r2.h rfl ?_
      rw [fI_int]
      refine st_i r2.h (by simp [hdr]) fun w3 a3 e3 z3 => ?_
      rw [wrap_i64 (by simp only [put]; omega) (by simp only [put]; omega)] at a3
      refine hQ w3 ⟨{ d with on := d.on.set i.toNat false }, ?_⟩ ((e1.tr (Ext.own2 e2)).tr (Ext.own1 e3))
      exact r2.head e3 a3 rfl ⟨rfl, rfl⟩ ⟨rfl, rfl⟩ r2.al r2.ar

theorem refPulse_c {s : St} {i t c : Int} (h : Ref w b ob hb s) (hs : Small s) (ht0 : 0 ≤ t) (hd0 : 0 ≤ c) (hQ : ∀ w', Ref w' b ob hb (pulse s i t c).2 → Ext w w' (Own b ob hb) → Q (.int .i64 (pulse s i t c).1) w') :
    CallE Try.prog 32 #[.pointer (some ⟨b, 0, none⟩), .int .i64 i, .int .u64 t, .int .u64 c] w Q := by
  have hlen := h.length
  obtain ⟨hs0, hs1⟩ := hs
  apply C.ref29_Sources_Pulse
  unfold W.ref29_Sources_Pulse
  refine bad_c h ?_
  rw [fB_bool]
  unfold pulse at hQ
  cases hg : has s i && ok s t with
  | false => rw [hg] at hQ; exact hQ w h (Ext.refl _ _)
  | true =>
    rw [hg] at hQ
    simp only [Bool.not_true, br_false]
    by_cases hd : c ≤ MAX
    case neg =>
      rw [decide_eq_false hd] at hQ
      rw [MAX_eq] at hd
      rw [decide_eq_true (show c > 1152921504606846976 by omega), br_true]
      exact hQ w h (Ext.refl _ _)
    rw [decide_eq_true hd] at hQ
    simp only [Bool.and_self, if_true] at hQ
    rw [MAX_eq] at hd
    rw [decide_eq_false (show ¬ c > 1152921504606846976 by omega), br_false]
    have hi : has s i = true ∧ ok s t = true := by simpa using hg
    obtain ⟨h0, h1⟩ := has_spec hi.1
    obtain ⟨k0, k1⟩ := ok_spec hi.2
    refine refAdvance_c h hs0 (by omega) fun w1 p1 e1 => ⟨rfl, ?_⟩
    obtain ⟨d, r⟩ := p1
    have hl := adv_length s t
    have hev := adv_events s t
    have lo := r.lo
    have lh := r.lh
    have hw : IntKind.wrap .u64 (IntKind.wrap .u64 (t + c) + 1) = t + c + 1 := by rw [wrap_u64 (x := t + c) (by omega) (by omega), wrap_u64 (by omega) (by omega)]
    rw [hw]
    have fin : ∀ w2, Ref w2 b ob hb (pulse1 (adv s t) i.toNat (t + c)) → Ext w w2 (Own b ob hb) → W.ref29_Sources_Pulse_k8 ⟨b, 0, none⟩ t w2 Q := by
      intro w2 p2 e2
      unfold W.ref29_Sources_Pulse_k8
      refine refAdvance_c p2 (by rw [pulse1_events]; omega) (by rw [pulse1_events, pulse1_length]; omega) fun w3 p3 e3 => ⟨rfl, ?_⟩
      exact hQ w3 p3 (e2.tr e3)
    simp only [add_mk, Nat.zero_add]
    refine ld_i r.h rfl ?_
    rw [fS_slice]
    refine ix_sl 1 4 h0 (by omega) ?_
    simp only [add_mk, Nat.zero_add, Nat.mul_one, fA_ptr]
    refine ld_i r.o (r.getOn (by omega)) ?_
    rw [fB_bool, ← get_of (show i.toNat < (adv s t).src.length by omega)]
    have hrel := r.rel i.toNat (by omega)
    rw [← get_of (show i.toNat < (adv s t).src.length by omega)] at hrel
    unfold pulse1 at fin
    cases hgs : get (adv s t) i.toNat with
    | none =>
      rw [hgs] at fin
      simp only [Option.isSome_none, Bool.not_false, br_true]
      refine ⟨fun w' => At w' b (hdr ob hb (adv s t) d) 41, r.h, ?_⟩
      refine ldS_i (fun _ h => h) rfl ?_
      rw [fS_slice]
      refine ldS_i (fun _ h => h) rfl ?_
      rw [fS_slice]
      refine ixS_sl 1 4 h0 (by omega) ?_
      simp only [add_mk, Nat.zero_add, Nat.mul_one, fA_ptr]
      refine st_i (w := drew w1) r.o (by simp; omega) fun w2 a2 e2 z2 => ?_
      replace e2 : Ext w1 w2 (· = ob) := e2.of_drew
      refine ⟨r.h.ext e2 r.ne1, ?_⟩
      refine ixS_sl 1 32 h0 (by omega) ?_
      simp only [add_mk, Nat.zero_add, Nat.mul_one, fA_ptr]
      refine st_i (r.hh.ext e2 r.ne3.symm) (by simp; omega) fun w3 a3 e3 z3 => ?_
      have e13 : Ext w1 w3 (fun z => z = ob ∨ z = hb) := e2.trans e3 (fun _ _ h => .inl h) (fun _ _ h => .inr h)
      refine ⟨(r.h.ext e2 r.ne1).ext e3 r.ne2, ?_⟩
      exact fin w3 ⟨_, r.set2 e13 (by omega) (a2.ext e3 r.ne3) a3 ⟨rfl, rfl, by omega, by omega⟩⟩ (e1.trans e13 (fun _ _ h => h) (fun _ _ h => .inr h))
    | some y =>
      rw [hgs] at fin hrel
      simp only [Option.isSome_some, Bool.not_true, br_false]
      refine ld_i r.h rfl ?_
      rw [fS_slice]
      refine ix_sl 1 32 h0 (by omega) ?_
      simp only [add_mk, Nat.zero_add, Nat.mul_one, fA_ptr]
      refine ld_i r.hh (r.getHold (by omega)) ?_
      rw [fI_int]
      cases y with
      | none =>
        obtain ⟨ho, hh⟩ := hrel
        rw [hh, decide_eq_false (by omega), br_false]
        unfold W.ref29_Sources_Pulse_k7
        rw [br_false]
        exact fin w1 ⟨d, r⟩ e1
      | some x =>
        obtain ⟨ho, hh, hx0, hx1⟩ := hrel
        rw [hh, decide_eq_true (by omega), br_true]
        refine ld_i r.h rfl ?_
        rw [fS_slice]
        refine ix_sl 1 32 h0 (by omega) ?_
        simp only [add_mk, Nat.zero_add, Nat.mul_one, fA_ptr]
        refine ld_i r.hh (r.getHold (by omega)) ?_
        rw [fI_int, hh]
        unfold W.ref29_Sources_Pulse_k7
        dsimp only at fin
        by_cases hgt : t + c > x
        · rw [decide_eq_true (by omega), br_true, hw]
          rw [if_pos hgt] at fin
          simp only [add_mk, Nat.zero_add]
          refine ld_i r.h rfl ?_
          rw [fS_slice]
          refine ix_sl 1 32 h0 (by omega) ?_
          simp only [add_mk, Nat.zero_add, Nat.mul_one, fA_ptr]
          refine st_i r.hh (by simp; omega) fun w2 a2 e2 z2 => ?_
          exact fin w2 ⟨_, r.setHold e2 (by omega) a2 ⟨ho, rfl, by omega, by omega⟩⟩ (e1.tr (Ext.own3 e2))
        · rw [decide_eq_false (by omega), br_false]
          rw [if_neg hgt] at fin
          have : put (adv s t) i.toNat (some (some x)) = adv s t := by
            unfold put
            rw [← hgs, get_of (by omega), List.set_getElem_self]
          rw [this] at fin
          exact fin w1 ⟨d, r⟩ e1

theorem refSetAlarm_c {s : St} {t a : Int} (h : Ref w b ob hb s) (hs : Small s) (hQ : ∀ w', Ref w' b ob hb (setAlarm s t a).2 → Ext w w' (Own b ob hb) → Q (.int .i64 (setAlarm s t a).1) w') :
    CallE Try.prog 33 #[.pointer (some ⟨b, 0, none⟩), .int .u64 t, .int .u64 a] w Q := by
  have hlen := h.length
  obtain ⟨hs0, hs1⟩ := hs
  apply C.ref29_Sources_SetAlarm
  unfold W.ref29_Sources_SetAlarm
  refine late_c h ?_
  rw [fB_bool]
  unfold setAlarm at hQ
  cases ht : ok s t with
  | false => rw [ht] at hQ; exact hQ w h (Ext.refl _ _)
  | true =>
    rw [ht] at hQ
    simp only [Bool.not_true, br_false]
    by_cases hd : a ≤ MAX
    case neg =>
      rw [decide_eq_false hd] at hQ
      rw [MAX_eq] at hd
      rw [decide_eq_true (show a > 1152921504606846976 by omega), br_true]
      exact hQ w h (Ext.refl _ _)
    rw [decide_eq_true hd] at hQ
    simp only [Bool.and_self, if_true] at hQ
    rw [MAX_eq] at hd
    rw [decide_eq_false (show ¬ a > 1152921504606846976 by omega), br_false]
    refine refAdvance_c h hs0 (by omega) fun w1 p1 e1 => ⟨rfl, ?_⟩
    obtain ⟨d, r⟩ := p1
    have hl := adv_length s t
    have hev := adv_events s t
    simp only [add_mk, Nat.zero_add]
    refine st_i r.h (by simp [hdr]) fun w2 a2 e2 z2 => ?_
    refine st_i a2 (by simp [hdr]) fun w3 a3 e3 z3 => ?_
    have e13 := e2.tr e3
    have r3 : RefD w3 b ob hb { d with alarm := a } { adv s t with alarm := some a } := r.head e13 a3 rfl ⟨rfl, rfl⟩ ⟨rfl, rfl⟩ (fun x hx => by simpa using hx) r.ar
    refine refAdvance_c ⟨_, r3⟩ (by show 0 ≤ (adv s t).events; omega) (by show (adv s t).events + ((adv s t).src.length : Int) < _; omega) fun w4 p4 e4 => ⟨rfl, ?_⟩
    exact hQ w4 p4 ((e1.tr (Ext.own1 e13)).tr e4)

theorem refAdvance'_c {s : St} {t : Int} (h : Ref w b ob hb s) (hs : Small s) (hQ : ∀ w', Ref w' b ob hb (advance s t).2 → Ext w w' (Own b ob hb) → Q (.int .i64 (advance s t).1) w') :
    CallE Try.prog 34 #[.pointer (some ⟨b, 0, none⟩), .int .u64 t] w Q := by
  have hlen := h.length
  obtain ⟨hs0, hs1⟩ := hs
  apply C.ref29_Sources_Advance
  unfold W.ref29_Sources_Advance
  refine late_c h ?_
  rw [fB_bool]
  unfold advance at hQ
  cases ht : ok s t with
  | false => rw [ht] at hQ; exact hQ w h (Ext.refl _ _)
  | true =>
    rw [ht] at hQ
    simp only [Bool.not_true, br_false]
    refine refAdvance_c h hs0 (by omega) fun w1 p1 e1 => ⟨rfl, ?_⟩
    exact hQ w1 p1 e1

theorem refCounts_c {s : St} (h : Ref w b ob hb s) (hQ : Q (.tuple #[.int .i64 s.events, .int .i64 (active s)]) w) :
    CallE Try.prog 18 #[.pointer (some ⟨b, 0, none⟩)] w Q := by
  obtain ⟨d, r⟩ := h
  have hlen := r.len
  have lo := r.lo
  apply C.ref29_Sources_Counts
  unfold W.ref29_Sources_Counts
  refine LoopW.nat s.src.length (fun k x w' => x = ((((s.src.take k).countP Option.isSome : Nat) : Int), (k : Int), ()) ∧ w' = w) ⟨rfl, rfl⟩ ?_
  rintro k x w2 next hk ⟨rfl, rfl⟩ hnext
  dsimp only
  simp only [add_mk, Nat.zero_add]
  refine ld_i r.h rfl ?_
  rw [fS_slice]
  by_cases hlt : k < s.src.length
  · rw [decide_eq_true (show (k : Int) < (s.src.length : Int) by omega), br_true]
    refine ld_i r.h rfl ?_
    rw [fS_slice]
    refine ix_sl 1 4 (by omega) (by omega) ?_
    simp only [add_mk, Nat.zero_add, Nat.mul_one, fA_ptr, Int.toNat_natCast]
    refine ld_i r.o (r.getOn hlt) ?_
    rw [fB_bool]
    have hcp : (s.src.take k).countP Option.isSome ≤ k := Nat.le_trans List.countP_le_length (by simp; omega)
    have hw : IntKind.wrap .i64 ((k : Int) + 1) = ((k + 1 : Nat) : Int) := by rw [wrap_i64 (by omega) (by omega)]; omega
    have hsn : (s.src.take (k + 1)).countP Option.isSome = (s.src.take k).countP Option.isSome + (if (s.src[k]).isSome then 1 else 0) := by
      rw [take_snoc _ hlt, List.countP_append]; simp [List.countP_cons]
    rw [hw, wrap_i64 (by omega) (by omega)]
    refine br_of (fun hb => ?_) (fun hb => ?_)
    · rw [hb, if_pos rfl] at hsn
      exact hnext hlt _ _ ⟨by rw [hsn]; simp, rfl⟩
    · rw [hb, if_neg (by simp)] at hsn
      exact hnext hlt _ _ ⟨by rw [hsn]; simp, rfl⟩
  · have hke : k = s.src.length := by omega
    subst hke
    rw [decide_eq_false (show ¬ ((s.src.length : Nat) : Int) < (s.src.length : Int) by omega), br_false]
    refine ld_i r.h rfl ?_
    rw [fI_int, List.take_length]
    exact hQ

theorem refDisarm_c {s : St} (h : Ref w b ob hb s) (hQ : ∀ w', Ref w' b ob hb (disarm s) → Ext w w' (Own b ob hb) → Q (.tuple #[]) w') :
    CallE Try.prog 35 #[.pointer (some ⟨b, 0, none⟩)] w Q := by
  obtain ⟨d, r⟩ := h
  apply C.ref29_Sources_Disarm
  unfold W.ref29_Sources_Disarm
  simp only [add_mk, Nat.zero_add]
  refine st_i r.h (by simp [hdr]) fun w2 a2 e2 z2 => ?_
  exact hQ w2 ⟨d, r.head e2 a2 rfl ⟨rfl, rfl⟩ ⟨rfl, rfl⟩ r.al (fun x hx => by simp [disarm] at hx)⟩ (Ext.own1 e2)

theorem refMustAbort_c {s : St} (h : Ref w b ob hb s) (hQ : Q (.bool (mustAbort s)) w) :
    CallE Try.prog 20 #[.pointer (some ⟨b, 0, none⟩)] w Q := by
  have h' := h
  obtain ⟨d, r⟩ := h
  apply C.ref29_Sources_MustAbort
  unfold W.ref29_Sources_MustAbort
  refine refCounts_c h' ⟨_, _, rfl, ?_⟩
  simp only [add_mk, Nat.zero_add]
  refine ld_i r.h rfl ?_
  rw [fB_bool]
  cases ha : s.armed with
  | none =>
    rw [show mustAbort s = false by simp [mustAbort, ha]] at hQ
    exact hQ
  | some x =>
    simp only [Option.isSome_some, br_true]
    refine ld_i r.h rfl ?_
    rw [fI_int, r.ar x ha]
    by_cases he : s.events = x
    · rw [show (s.events != x) = false by simpa using he, br_false]
      rw [show mustAbort s = decide (0 < active s) by simp [mustAbort, ha, he]] at hQ
      rw [show decide (((active s : Nat) : Int) > 0) = decide (0 < active s) by simp]
      exact hQ
    · rw [show (s.events != x) = true by simpa using he, br_true]
      rw [show mustAbort s = true by simp [mustAbort, ha, he]] at hQ
      exact hQ
end
end Go.Proofs.Ytdfjakdgclbleaa.Wk
