/-
  Wake sources: the reference's New and Arm, and a call of the reference. Conditions: as each theorem states them.
-/
import Derived.Test.YtdfjakdgclbleaaWkR
import Derived.Test.YtdfjakdgclbleaaSli
namespace Go.Proofs.Ytdfjakdgclbleaa.Wk
open Go Go.Ev Go.Proofs

theorem zeroBool : zeroL Try.prog 4 = [.bool false] := by kernel_rfl
theorem zeroU64 : zeroL Try.prog 32 = [.int .u64 0] := by kernel_rfl

section
variable {w : World} {b ob hb : Nat} {Q : Value → World → Prop}

theorem refNew_mk {c o h : Nat} {n : Nat} (hn : n ≤ 32) (h1 : At w o (List.replicate n (.bool false)) 4) (h2 : At w h (List.replicate n (.int .u64 0)) 32)
    (h3 : At w c [.slice (some ⟨o, 0, none⟩) n n, .slice (some ⟨h, 0, none⟩) n n, .int .u64 0, .bool false, .int .i64 0, .bool false, .int .i64 0, .int .u64 0] 41)
    (n1 : c ≠ o) (n2 : c ≠ h) (n3 : o ≠ h) : Ref w c o h (new n) := by
  refine ⟨⟨n, n, List.replicate n false, List.replicate n 0, [], [], 0, 0⟩, ?_, ?_, ?_, by simp [new], by simp [new], ?_, by simp [new], by simp [new], n1, n2, n3, by simpa [new] using hn⟩
  · simpa [hdr, new] using h3
  · simpa using h1
  · simpa using h2
  · intro i hi
    simp [new, Rel]

theorem refNew_c {n : Int} (h0 : 0 ≤ n) (h1 : n ≤ 32) (hQ : ∀ c o h w', w.heap.size ≤ c → w.heap.size ≤ o → w.heap.size ≤ h → Ref w' c o h (new n.toNat) → Ext w w' (fun _ => False) → Q (.tuple #[.pointer (some ⟨c, 0, none⟩), .int .i64 0]) w') :
    CallE Try.prog 12 #[.int .i64 n] w Q := by
  apply C.ref29_New
  unfold W.ref29_New
  rw [decide_eq_false (by omega), br_false, decide_eq_false (by omega), br_false]
  refine ⟨fun _ => True, trivial, ?_, ?_⟩
  · refine mk_i 4 1 h0 (by omega) fun b1 w1 hb1 a1 e1 z1 => ?_
    rw [fS_slice]
    refine ⟨trivial, ?_⟩
    refine mk_i 32 1 h0 (by omega) fun b2 w2 hb2 a2 e2 z2 => ?_
    rw [fS_slice]
    refine ⟨trivial, ?_⟩
    refine al_i fun b3 w3 hb3 a3 e3 z3 => ⟨trivial, ?_⟩
    rw [zeroBool, zeros_one] at a1
    rw [zeroU64, zeros_one] at a2
    have hs : (drew w).heap.size = w.heap.size := rfl
    refine hQ b3 b1 b2 w3 (by omega) (by omega) (by omega) (refNew_mk (by omega) ((a1.ext e2 (fun h => h)).ext e3 (fun h => h)) (a2.ext e3 (fun h => h)) a3 (by omega) (by omega) (by omega)) ?_
    exact ((e1.tr e2).tr e3).of_drew
  · refine mk_i 32 1 h0 (by omega) fun b1 w1 hb1 a1 e1 z1 => ?_
    rw [fS_slice]
    refine ⟨trivial, ?_⟩
    refine mk_i 4 1 h0 (by omega) fun b2 w2 hb2 a2 e2 z2 => ?_
    rw [fS_slice]
    refine ⟨trivial, ?_⟩
    refine al_i fun b3 w3 hb3 a3 e3 z3 => ⟨trivial, ?_⟩
    rw [zeroU64, zeros_one] at a1
    rw [zeroBool, zeros_one] at a2
    have hs : (drew w).heap.size = w.heap.size := rfl
    refine hQ b3 b2 b1 w3 (by omega) (by omega) (by omega) (refNew_mk (by omega) (a2.ext e3 (fun h => h)) ((a1.ext e2 (fun h => h)).ext e3 (fun h => h)) a3 (by omega) (by omega) (by omega)) ?_
    exact ((e1.tr e2).tr e3).of_drew

theorem refNew_bad {n : Int} (h : n < 0 ∨ 32 < n) (hQ : Q (.tuple #[.pointer none, .int .i64 1]) w) : CallE Try.prog 12 #[.int .i64 n] w Q := by
  apply C.ref29_New
  unfold W.ref29_New
  refine br_of (fun _ => hQ) (fun h1 => ?_)
  simp only [decide_eq_false_iff_not] at h1
  rw [decide_eq_true (by omega), br_true]
  exact hQ

/-- The copy that Arm tries. -/
def bare (s : St) : St := { s with armed := none, clock := 0 }

theorem refArm_k4 {s : St} {e t : Int} {c oc hc : Nat} {w0 : World} (h : Ref w b ob hb s) (h2 : Ref w c oc hc (bare s)) (hs : Small s) (hlen : s.src.length ≤ 32) (hn : w0.heap.size ≤ c ∧ w0.heap.size ≤ oc ∧ w0.heap.size ≤ hc) (hbb : b < w0.heap.size ∧ ob < w0.heap.size ∧ hb < w0.heap.size) (e0 : Ext w0 w (fun _ => False))
    (ht : ok s t = true) (hQ : ∀ w', Ref w' b ob hb (arm s e t).2 → Ext w0 w' (Own b ob hb) → Q (.int .i64 (arm s e t).1) w') : W.ref29_Sources_Arm_k4 ⟨b, 0, none⟩ e t ⟨c, 0, none⟩ w Q := by
  obtain ⟨hs0, hs1⟩ := hs
  unfold W.ref29_Sources_Arm_k4
  unfold arm at hQ
  rw [ht] at hQ
  simp only [if_true] at hQ
  have hev := adv_events s t
  refine refAdvance_c h2 hs0 (by show s.events + (s.src.length : Int) < _; omega) fun w1 p1 e1 => ⟨rfl, ?_⟩
  have e01 : Ext w0 w1 (fun _ => False) := e0.trans e1 (fun _ _ h => h) (fun b' hb' h => by rcases h with h | h | h <;> omega)
  have q1 : Ref w1 b ob hb s := h.ext e1 (fun x hx hy => by rcases hx with hx | hx | hx <;> rcases hy with hy | hy | hy <;> omega)
  refine refCounts_c p1 ⟨_, _, rfl, ?_⟩
  have hevs : (adv (bare s) t).events = (adv s t).events := rfl
  have hact : active (adv (bare s) t) = active (adv s t) := rfl
  rw [hevs, hact]
  unfold armOk at hQ
  by_cases he : (adv s t).events = e
  case neg =>
    rw [decide_eq_false he] at hQ
    rw [show ((adv s t).events != e) = true by simpa using he, br_true]
    exact hQ w1 q1 e01.of0
  rw [decide_eq_true he] at hQ
  rw [show ((adv s t).events != e) = false by simpa using he, br_false]
  by_cases ha : active (adv s t) = 0
  case neg =>
    rw [decide_eq_false ha] at hQ
    rw [decide_eq_true (show ((active (adv s t) : Nat) : Int) > 0 by omega), br_true]
    exact hQ w1 q1 e01.of0
  rw [decide_eq_true ha] at hQ
  simp only [Bool.and_self, if_true] at hQ
  rw [decide_eq_false (show ¬ ((active (adv s t) : Nat) : Int) > 0 by omega), br_false]
  refine refAdvance_c q1 hs0 (by omega) fun w2 p2 e2 => ⟨rfl, ?_⟩
  obtain ⟨d, r⟩ := p2
  simp only [add_mk, Nat.zero_add]
  refine st_i r.h (by simp [hdr]) fun w3 a3 e3 z3 => ?_
  refine st_i a3 (by simp [hdr]) fun w4 a4 e4 z4 => ?_
  have e34 := e3.tr e4
  refine hQ w4 ⟨{ d with at_ := e }, r.head e34 a4 rfl ⟨rfl, rfl⟩ ⟨rfl, rfl⟩ r.al (fun x hx => by simpa using hx)⟩ ?_
  exact ((e01.of0.tr e2).tr (Ext.own1 e34))

theorem refCopy {d : RD} {s : St} {w0 : World} (r : RefD w0 b ob hb d s) {c : Nat} {l1 l2 : Option Addr} {c1 c2 : Nat} (s1 : Sl w 4 1 l1 s.src.length c1 (d.on.map Value.bool)) (s2 : Sl w 32 1 l2 s.src.length c2 (d.hold.map (Value.int .u64)))
    (i1 : l1.isSome = true) (i2 : l2.isSome = true)
    (h : At w c [.slice l1 s.src.length c1, .slice l2 s.src.length c2, .int .u64 d.alarm, .bool s.alarm.isSome, .int .i64 s.events, .bool false, .int .i64 0, .int .u64 0] 41)
    (hne : ∀ o h', l1 = some ⟨o, 0, none⟩ → l2 = some ⟨h', 0, none⟩ → c ≠ o ∧ c ≠ h' ∧ o ≠ h') :
    ∃ o h', l1 = some ⟨o, 0, none⟩ ∧ l2 = some ⟨h', 0, none⟩ ∧ Ref w c o h' (bare s) := by
  obtain ⟨o, sp1, rfl, t1, _⟩ := s1.isome i1
  obtain ⟨h', sp2, rfl, t2, _⟩ := s2.isome i2
  obtain ⟨n1, n2, n3⟩ := hne o h' rfl rfl
  refine ⟨o, h', rfl, rfl, ⟨c1, c2, d.on, d.hold, sp1, sp2, d.alarm, 0⟩, ?_, t1, t2, r.lo, r.lh, r.rel, r.al, fun x hx => by simp [bare] at hx, n1, n2, n3, r.len⟩
  simpa [hdr, bare] using h

theorem refArm_c {s : St} {e t : Int} (h : Ref w b ob hb s) (hs : Small s) (hQ : ∀ w', Ref w' b ob hb (arm s e t).2 → Ext w w' (Own b ob hb) → Q (.int .i64 (arm s e t).1) w') :
    CallE Try.prog 28 #[.pointer (some ⟨b, 0, none⟩), .int .i64 e, .int .u64 t] w Q := by
  have hlen := h.length
  have hlt := h.lt
  apply C.ref29_Sources_Arm
  unfold W.ref29_Sources_Arm
  refine late_c h ?_
  rw [fB_bool]
  cases ht : ok s t with
  | false =>
    unfold arm at hQ
    rw [ht] at hQ
    exact hQ w h (Ext.refl _ _)
  | true =>
    simp only [Bool.not_true, br_false]
    obtain ⟨d, r⟩ := h
    have lo := r.lo
    have lh := r.lh
    have hones : ∀ v ∈ d.on.map Value.bool, one v = true := by intro v hv; simp at hv; rcases hv with ⟨_, rfl⟩ | ⟨_, rfl⟩ <;> rfl
    have hones2 : ∀ v ∈ d.hold.map (Value.int .u64), one v = true := by intro v hv; simp at hv; obtain ⟨x, _, rfl⟩ := hv; rfl
    refine ⟨fun w' => RefD w' b ob hb d s ∧ Ext w w' (fun _ => False), ⟨r.ext ((Ext.refl w (fun _ => False)).drew_) id id id, (Ext.refl _ _).drew_⟩, ?_⟩
    simp only [add_mk, Nat.zero_add]
    refine ldS_i (fun _ h => h.1.h) rfl ?_
    rw [fS_slice]
    refine ldS_i (fun _ h => h.1.h) rfl ?_
    rw [fS_slice]
    refine ldS_i (fun _ h => h.1.h) rfl ?_
    rw [fI_int]
    refine ldS_i (fun _ h => h.1.h) rfl ?_
    rw [fB_bool]
    refine ldS_i (fun _ h => h.1.h) rfl ?_
    rw [fI_int]
    have rdOn : ∀ {w' : World}, RefD w' b ob hb d s → Reads w' (some ⟨ob, 0, none⟩) (d.on.map Value.bool) := fun r => .inr ⟨_, rfl, fun j hj => by rw [add_mk, Nat.zero_add, r.o.cell, List.getElem?_append_left hj]⟩
    have rdHold : ∀ {w' : World}, RefD w' b ob hb d s → Reads w' (some ⟨hb, 0, none⟩) (d.hold.map (Value.int .u64)) := fun r => .inr ⟨_, rfl, fun j hj => by rw [add_mk, Nat.zero_add, r.hh.cell, List.getElem?_append_left hj]⟩
    have hS : ∀ {w1 w2 : World} {X : Nat → Prop}, (RefD w1 b ob hb d s ∧ Ext w w1 (fun _ => False)) → Ext w1 w2 X → (∀ x, x < w.heap.size → ¬ X x) → (RefD w2 b ob hb d s ∧ Ext w w2 (fun _ => False)) := by
      intro w1 w2 X h1 e hX
      exact ⟨h1.1.ext e (hX _ hlt.1) (hX _ hlt.2.1) (hX _ hlt.2.2), h1.2.trans e (fun _ _ h => h) (fun b' hb' h => hX b' hb' h)⟩
    have fin : ∀ {w' : World} {c : Nat} {l1 l2 : Option Addr} {c1 c2 : Nat}, (RefD w' b ob hb d s ∧ Ext w w' (fun _ => False)) → Sl w' 4 1 l1 s.src.length c1 (d.on.map Value.bool) → Sl w' 32 1 l2 s.src.length c2 (d.hold.map (Value.int .u64)) → l1.isSome = true → l2.isSome = true →
        At w' c [.slice l1 s.src.length c1, .slice l2 s.src.length c2, .int .u64 d.alarm, .bool s.alarm.isSome, .int .i64 s.events, .bool false, .int .i64 0, .int .u64 0] 41 →
        (∀ o h', l1 = some ⟨o, 0, none⟩ → l2 = some ⟨h', 0, none⟩ → c ≠ o ∧ c ≠ h' ∧ o ≠ h' ∧ w.heap.size ≤ o ∧ w.heap.size ≤ h') → w.heap.size ≤ c → W.ref29_Sources_Arm_k4 ⟨b, 0, none⟩ e t ⟨c, 0, none⟩ w' Q := by
      intro w' c l1 l2 c1 c2 hR s1 s2 i1 i2 hA hne hc
      obtain ⟨o, h', rfl, rfl, hr⟩ := refCopy hR.1 s1 s2 i1 i2 hA (fun o h' x y => by have := hne o h' x y; exact ⟨this.1, this.2.1, this.2.2.1⟩)
      have := hne o h' rfl rfl
      exact refArm_k4 ⟨d, hR.1⟩ hr hs hlen ⟨hc, this.2.2.2.1, this.2.2.2.2⟩ hlt hR.2 ht hQ
    have hd0 : (drew w).heap.size = w.heap.size := rfl
    have R0 : RefD (drew w) b ob hb d s ∧ Ext w (drew w) (fun _ => False) := ⟨r.ext ((Ext.refl w (fun _ => False)).drew_) id id id, (Ext.refl _ _).drew_⟩
    have lon : (d.on.map Value.bool).length = s.src.length * 1 := by simp [lo]
    have lhn : (d.hold.map (Value.int .u64)).length = s.src.length * 1 := by simp [lh]
    refine ⟨?_, ?_⟩
    · refine al_i fun a1 w1 ha1 g1 e1 z1 => ?_
      have R1 := hS R0 e1 (fun _ _ h => h)
      refine ⟨R1, ?_, ?_⟩
      · refine ap_i 4 1 (Sl.new (n := 0) g1 rfl) (rdOn R1.1) lon hones (by omega) fun l1 c1 w2 s1 f1 i1 e2 => ?_
        rw [fS_slice]
        have R2 := hS R1 e2 (fun x hx h => by simp at h <;> omega)
        refine ⟨R2, ?_⟩
        refine al_i fun a3 w3 ha3 g3 e3 z3 => ?_
        have R3 := hS R2 e3 (fun _ _ h => h)
        refine ⟨R3, ?_⟩
        have s1' := s1.ext e3 (fun _ _ h => h)
        have hl1 : ∀ o, l1 = some ⟨o, 0, none⟩ → o < w2.heap.size := fun o ho => by
          obtain ⟨o', sp, hh, hA, _⟩ := s1.isome (by rw [ho]; rfl)
          rw [ho] at hh; cases hh; exact hA.lt
        refine ap_i 32 1 (Sl.new (n := 0) g3 rfl) (rdHold R3.1) lhn hones2 (by omega) fun l2 c2 w4 s2 f2 i2 e4 => ?_
        rw [fS_slice]
        have R4 := hS R3 e4 (fun x hx h => by have := R2.2.size; simp at h <;> omega)
        refine ⟨R4, ?_⟩
        have s1'' := s1'.ext e4 (fun o ho h => by have := hl1 o ho; simp at h <;> omega)
        have hl2 : ∀ o, l2 = some ⟨o, 0, none⟩ → o < w4.heap.size := fun o ho => by
          obtain ⟨o', sp, hh, hA, _⟩ := s2.isome (by rw [ho]; rfl)
          rw [ho] at hh; cases hh; exact hA.lt
        refine al_i fun a5 w5 ha5 g5 e5 z5 => ?_
        have R5 := hS R4 e5 (fun _ _ h => h)
        refine ⟨R5, ?_⟩
        simp only [Nat.zero_add, List.nil_append] at s1'' s2 g5
        refine fin R5 (s1''.ext e5 (fun _ _ h => h)) (s2.ext e5 (fun _ _ h => h)) (i1 rfl) (i2 rfl) g5 ?_ (by have := e1.size; have := e2.size; have := e3.size; have := e4.size; omega)
        intro o h' ho hh'
        have h1 := hl1 o ho
        have h2 := hl2 h' hh'
        have h3 := f1 o ho
        have h4 := f2 h' hh'
        have := e1.size; have := e2.size; have := e3.size; have := e4.size
        simp only [Option.some.injEq, Addr.mk.injEq, and_true] at h3 h4
        omega
      · refine al_i fun a3 w3 ha3 g3 e3 z3 => ?_
        have R3 := hS R1 e3 (fun _ _ h => h)
        refine ⟨R3, ?_⟩
        refine ap_i 4 1 (Sl.new (n := 0) (g1.ext e3 (fun h => h)) rfl) (rdOn R3.1) lon hones (by omega) fun l1 c1 w2 s1 f1 i1 e2 => ?_
        rw [fS_slice]
        have R2 := hS R3 e2 (fun x hx h => by simp at h <;> omega)
        refine ⟨R2, ?_⟩
        have hl1 : ∀ o, l1 = some ⟨o, 0, none⟩ → o < w2.heap.size := fun o ho => by
          obtain ⟨o', sp, hh, hA, _⟩ := s1.isome (by rw [ho]; rfl)
          rw [ho] at hh; cases hh; exact hA.lt
        have g3' := g3.ext e2 (fun h => by simp at h <;> omega)
        refine ap_i 32 1 (Sl.new (n := 0) g3' rfl) (rdHold R2.1) lhn hones2 (by omega) fun l2 c2 w4 s2 f2 i2 e4 => ?_
        rw [fS_slice]
        have R4 := hS R2 e4 (fun x hx h => by simp at h <;> omega)
        refine ⟨R4, ?_⟩
        have s1'' := s1.ext e4 (fun o ho h => by have := f1 o ho; simp only [Option.some.injEq, Addr.mk.injEq, and_true] at h this; omega)
        have hl2 : ∀ o, l2 = some ⟨o, 0, none⟩ → o < w4.heap.size := fun o ho => by
          obtain ⟨o', sp, hh, hA, _⟩ := s2.isome (by rw [ho]; rfl)
          rw [ho] at hh; cases hh; exact hA.lt
        refine al_i fun a5 w5 ha5 g5 e5 z5 => ?_
        have R5 := hS R4 e5 (fun _ _ h => h)
        refine ⟨R5, ?_⟩
        simp only [Nat.zero_add, List.nil_append] at s1'' s2 g5
        refine fin R5 (s1''.ext e5 (fun _ _ h => h)) (s2.ext e5 (fun _ _ h => h)) (i1 rfl) (i2 rfl) g5 ?_ (by have := e1.size; have := e2.size; have := e3.size; have := e4.size; omega)
        intro o h' ho hh'
        have h1 := hl1 o ho
        have h2 := hl2 h' hh'
        have h3 := f1 o ho
        have h4 := f2 h' hh'
        have := e1.size; have := e2.size; have := e3.size; have := e4.size
        simp only [Option.some.injEq, Addr.mk.injEq, and_true] at h3 h4
        omega
    · refine al_i fun a3 w3 ha3 g3 e3 z3 => ?_
      have R3 := hS R0 e3 (fun _ _ h => h)
      refine ⟨R3, ?_⟩
      refine al_i fun a1 w1 ha1 g1 e1 z1 => ?_
      have R1 := hS R3 e1 (fun _ _ h => h)
      refine ⟨R1, ?_⟩
      refine ap_i 4 1 (Sl.new (n := 0) g1 rfl) (rdOn R1.1) lon hones (by omega) fun l1 c1 w2 s1 f1 i1 e2 => ?_
      rw [fS_slice]
      have R2 := hS R1 e2 (fun x hx h => by simp at h <;> omega)
      refine ⟨R2, ?_⟩
      have hl1 : ∀ o, l1 = some ⟨o, 0, none⟩ → o < w2.heap.size := fun o ho => by
        obtain ⟨o', sp, hh, hA, _⟩ := s1.isome (by rw [ho]; rfl)
        rw [ho] at hh; cases hh; exact hA.lt
      have g3' := (g3.ext e1 (fun h => h)).ext e2 (fun h => by simp at h <;> omega)
      refine ap_i 32 1 (Sl.new (n := 0) g3' rfl) (rdHold R2.1) lhn hones2 (by omega) fun l2 c2 w4 s2 f2 i2 e4 => ?_
      rw [fS_slice]
      have R4 := hS R2 e4 (fun x hx h => by simp at h <;> omega)
      refine ⟨R4, ?_⟩
      have s1'' := s1.ext e4 (fun o ho h => by have := f1 o ho; simp only [Option.some.injEq, Addr.mk.injEq, and_true] at h this; omega)
      have hl2 : ∀ o, l2 = some ⟨o, 0, none⟩ → o < w4.heap.size := fun o ho => by
        obtain ⟨o', sp, hh, hA, _⟩ := s2.isome (by rw [ho]; rfl)
        rw [ho] at hh; cases hh; exact hA.lt
      refine al_i fun a5 w5 ha5 g5 e5 z5 => ?_
      have R5 := hS R4 e5 (fun _ _ h => h)
      refine ⟨R5, ?_⟩
      simp only [Nat.zero_add, List.nil_append] at s1'' s2 g5
      refine fin R5 (s1''.ext e5 (fun _ _ h => h)) (s2.ext e5 (fun _ _ h => h)) (i1 rfl) (i2 rfl) g5 ?_ (by have := e1.size; have := e2.size; have := e3.size; have := e4.size; omega)
      intro o h' ho hh'
      have h1 := hl1 o ho
      have h2 := hl2 h' hh'
      have h3 := f1 o ho
      have h4 := f2 h' hh'
      have := e1.size; have := e2.size; have := e3.size; have := e4.size
      simp only [Option.some.injEq, Addr.mk.injEq, and_true] at h3 h4
      omega

theorem want_k9_c {s : St} {a : Ar} {k : Int} {f : Bool} {c : Nat} {T : TypeId} (h : Ref w b ob hb s) (hc : At w c a.cells T) (hs : Small s) (h0 : 0 ≤ a.now) (h1 : 0 ≤ a.other)
    (hk : ¬ (k = 0 ∨ k = 1) ∧ k ≠ 2) (hf : f = decide (k = 3 ∨ k = 4)) (hQ : ∀ w', Ref w' b ob hb (doSt s k a).2 → Ext w w' (Own b ob hb) → Q (.int .i64 (doSt s k a).1) w') :
    W.law29_want_k9 ⟨b, 0, none⟩ ⟨c, 0, none⟩ k f w Q := by
  unfold W.law29_want_k9
  unfold doSt at hQ
  rw [if_neg hk.1, if_neg hk.2] at hQ
  simp only [add_mk, Nat.zero_add]
  by_cases h34 : k = 3 ∨ k = 4
  · rw [decide_eq_true h34] at hf
    subst hf
    rw [if_pos h34] at hQ
    rw [br_true]
    refine ld_i hc rfl ?_
    rw [fI_int]
    refine ld_i hc rfl ?_
    rw [fI_int]
    refine ld_i hc rfl ?_
    rw [fI_int]
    refine refPulse_c h hs h0 h1 fun w1 p1 e1 => ?_
    rw [fI_int]
    exact hQ w1 p1 e1
  · rw [decide_eq_false h34] at hf
    subst hf
    rw [if_neg h34] at hQ
    rw [br_false]
    by_cases h5 : k = 5
    · rw [show (k == 5) = true by simpa using h5, br_true]
      rw [if_pos h5] at hQ
      refine ld_i hc rfl ?_
      rw [fI_int]
      refine ld_i hc rfl ?_
      rw [fI_int]
      refine refSetAlarm_c h hs fun w1 p1 e1 => ?_
      rw [fI_int]
      exact hQ w1 p1 e1
    rw [show (k == 5) = false by simpa using h5, br_false]
    rw [if_neg h5] at hQ
    by_cases h6 : k = 6
    · rw [show (k == 6) = true by simpa using h6, br_true]
      rw [if_pos h6] at hQ
      refine ld_i hc rfl ?_
      rw [fI_int]
      refine refAdvance'_c h hs fun w1 p1 e1 => ?_
      rw [fI_int]
      exact hQ w1 p1 e1
    rw [show (k == 6) = false by simpa using h6, br_false]
    rw [if_neg h6] at hQ
    by_cases h7 : k = 7
    · rw [show (k == 7) = true by simpa using h7, br_true]
      rw [if_pos h7] at hQ
      refine ld_i hc rfl ?_
      rw [fI_int]
      refine ld_i hc rfl ?_
      rw [fI_int]
      refine refArm_c h hs fun w1 p1 e1 => ?_
      rw [fI_int]
      exact hQ w1 p1 e1
    rw [show (k == 7) = false by simpa using h7, br_false]
    rw [if_neg h7] at hQ
    refine refDisarm_c h fun w1 p1 e1 => ⟨rfl, ?_⟩
    exact hQ w1 p1 e1

theorem want_c {s : St} {a : Ar} {kind : Int} (h : Ref w b ob hb s) (hs : Small s) (h0 : 0 ≤ a.now) (h1 : 0 ≤ a.other)
    (hQ : ∀ w', Ref w' b ob hb (doSt s (modv kind 9) a).2 → Ext w w' (Own b ob hb) → Q (.int .i64 (doSt s (modv kind 9) a).1) w') :
    CallE Try.prog 16 #[.pointer (some ⟨b, 0, none⟩), .int .i64 kind, .agg a.cells.toArray] w Q := by
  apply C.law29_want
  unfold W.law29_want
  refine al_i fun c w1 hc a1 e1 z1 => ?_
  refine mod_c (by omega) (by omega) ?_
  rw [fI_int]
  have p1 : Ref w1 b ob hb s := h.ext0 e1
  have e1' : Ext w w1 (Own b ob hb) := e1.of0
  have hQ' : ∀ w', Ref w' b ob hb (doSt s (modv kind 9) a).2 → Ext w1 w' (Own b ob hb) → Q (.int .i64 (doSt s (modv kind 9) a).1) w' := fun w' p e => hQ w' p (e1'.tr e)
  clear hQ
  generalize modv kind 9 = k at *
  have key : ∀ f : Bool, f = decide (k = 0 ∨ k = 1) → W.law29_want_k4 ⟨b, 0, none⟩ ⟨c, 0, none⟩ k f w1 Q := by
    intro f hf
    unfold W.law29_want_k4
    simp only [add_mk, Nat.zero_add]
    by_cases h01 : k = 0 ∨ k = 1
    · rw [decide_eq_true h01] at hf
      subst hf
      unfold doSt at hQ'
      rw [if_pos h01] at hQ'
      rw [br_true]
      refine ld_i a1 rfl ?_
      rw [fI_int]
      refine ld_i a1 rfl ?_
      rw [fI_int]
      refine refActivate_c p1 hs fun w2 p2 e2 => ?_
      rw [fI_int]
      exact hQ' w2 p2 e2
    · rw [decide_eq_false h01] at hf
      subst hf
      rw [br_false]
      by_cases h2 : k = 2
      · unfold doSt at hQ'
        rw [if_neg h01, if_pos h2] at hQ'
        rw [show (k == 2) = true by simpa using h2, br_true]
        refine ld_i a1 rfl ?_
        rw [fI_int]
        refine ld_i a1 rfl ?_
        rw [fI_int]
        refine refDeactivate_c p1 hs fun w2 p2 e2 => ?_
        rw [fI_int]
        exact hQ' w2 p2 e2
      rw [show (k == 2) = false by simpa using h2, br_false]
      refine br_of (fun h3 => ?_) (fun h3 => ?_)
      · exact want_k9_c p1 a1 hs h0 h1 ⟨h01, h2⟩ (by simp at h3; simp [h3]) hQ'
      · exact want_k9_c p1 a1 hs h0 h1 ⟨h01, h2⟩ (by simp at h3; rw [Bool.eq_iff_iff]; simp; omega) hQ'
  refine br_of (fun h3 => ?_) (fun h3 => ?_)
  · exact key true (by simp at h3; simp [h3])
  · exact key _ (by simp at h3; rw [Bool.eq_iff_iff]; simp; omega)
end
end Go.Proofs.Ytdfjakdgclbleaa.Wk
