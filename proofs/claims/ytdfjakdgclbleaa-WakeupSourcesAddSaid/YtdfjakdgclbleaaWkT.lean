/-
  Wake sources: program and reference side by side; the statement WakeupCallsAgree over the code. No condition beyond those stated.
-/
import Derived.Test.YtdfjakdgclbleaaWkS
namespace Go.Proofs.Ytdfjakdgclbleaa.Wk
open Go Go.Ev Go.Proofs Go.ChangeShapes Go.WideShapes Go.ChangeAt Go.RowKit

/-- Program and reference in one state, in blocks of their own from B on. -/
structure Two (w : World) (B pb rb ob hb : Nat) (s : St) : Prop where
  p : Prog w pb s
  r : Ref w rb ob hb s
  hp : B ≤ pb
  hr : B ≤ rb ∧ B ≤ ob ∧ B ≤ hb
  ne : pb ≠ rb ∧ pb ≠ ob ∧ pb ≠ hb

def Bl (pb rb ob hb : Nat) : Nat → Prop := fun x => x = pb ∨ Own rb ob hb x

theorem Two.ext {w w' : World} {B pb rb ob hb : Nat} {s : St} {X : Nat → Prop} (h : Two w B pb rb ob hb s) (he : Ext w w' X) (hx : ∀ x, Bl pb rb ob hb x → ¬ X x) : Two w' B pb rb ob hb s :=
  ⟨h.p.ext he (hx _ (.inl rfl)), h.r.ext he (fun x hh => hx x (.inr hh)), h.hp, h.hr, h.ne⟩
theorem Two.ext0 {w w' : World} {B pb rb ob hb : Nat} {s : St} (h : Two w B pb rb ob hb s) (he : Ext w w' (fun _ => False)) : Two w' B pb rb ob hb s := h.ext he (fun _ _ h => h)
theorem Two.notBl {w : World} {B pb rb ob hb : Nat} {s : St} (h : Two w B pb rb ob hb s) {x : Nat} (hx : x < B) : ¬ Bl pb rb ob hb x := by
  have := h.hp; have := h.hr
  rintro (h | h | h | h) <;> omega
theorem Two.lt {w : World} {B pb rb ob hb : Nat} {s : St} (h : Two w B pb rb ob hb s) : ∀ x, Bl pb rb ob hb x → x < w.heap.size := by
  have := h.r.lt
  have := h.p.1.lt
  rintro x (h | h | h | h) <;> omega
theorem Ext.bl1 {w w' : World} {pb rb ob hb : Nat} (he : Ext w w' (· = pb)) : Ext w w' (Bl pb rb ob hb) := he.mono fun _ _ h => .inl h
theorem Ext.bl2 {w w' : World} {pb rb ob hb : Nat} (he : Ext w w' (Own rb ob hb)) : Ext w w' (Bl pb rb ob hb) := he.mono fun _ _ h => .inr h

section
variable {w : World} {B pb rb ob hb : Nat} {Q : Value → World → Prop}

/-- Both are called in one state, one after the other. -/
theorem Two.step1 {s s' : St} {w' : World} (h : Two w B pb rb ob hb s) (hp : Prog w' pb s') (he : Ext w w' (· = pb)) : Prog w' pb s' ∧ Ref w' rb ob hb s :=
  ⟨hp, h.r.ext he (fun x hx hy => by have := h.ne; rcases hx with hx | hx | hx <;> omega)⟩
theorem Two.step2 {s s' : St} {w' w'' : World} (h : Two w B pb rb ob hb s) (hp : Prog w' pb s') (hr : Ref w'' rb ob hb s') (he : Ext w' w'' (Own rb ob hb)) : Two w'' B pb rb ob hb s' :=
  ⟨hp.ext he (by rintro (hx | hx | hx) <;> (have := h.ne; omega)), hr, h.hp, h.hr, h.ne⟩

theorem refHead {s : St} (h : Ref w rb ob hb s) : w.cell? ⟨rb, 7, none⟩ = some (.int .u64 s.clock) ∧ w.cell? ⟨rb, 4, none⟩ = some (.int .i64 s.events) := by
  obtain ⟨d, r⟩ := h
  exact ⟨r.h.cell.trans rfl, r.h.cell.trans rfl⟩
end

section
variable {U : World} {Q : Value → World → Prop}

theorem agree_k14 {w : World} {pb rb ob hb ab : Nat} {s : St} {a : Addr} {ln lc : Nat} {cs : List Cl} {k : Int} {i : Nat} {ar : Ar} {T : TypeId} {next : (Int × Unit) → World → Prop}
    (hcs : cs.length = ln) (hC : Cls U (some a) cs) (hi : i < ln) (hln : ln ≤ 50) (h : Two w U.heap.size pb rb ob hb s) (hs : Small s) (hab : At w ab ar.cells T) (habB : U.heap.size ≤ ab) (hnb : ¬ Bl pb rb ob hb ab) (h0 : 0 ≤ ar.now) (h1 : 0 ≤ ar.other)
    (e0 : Ext U w (fun _ => False))
    (hn : ∀ w' kd, Two w' U.heap.size pb rb ob hb (doSt s kd ar).2 → Ext U w' (fun _ => False) → next (((i + 1 : Nat) : Int), ()) w') :
    W.law29_WakeupCallsAgree_k14 (some a) ln lc k (some ⟨pb, 0, none⟩) (some ⟨rb, 0, none⟩) i ⟨ab, 0, none⟩ next w Q := by
  unfold W.law29_WakeupCallsAgree_k14
  have hB : ∀ x, Bl pb rb ob hb x → U.heap.size ≤ x := by
    intro x hx
    rcases Nat.lt_or_ge x U.heap.size with h' | h'
    · exact absurd hx (h.notBl h')
    · exact h'
  have hU : ∀ {w' : World}, Ext w w' (Bl pb rb ob hb) → Ext U w' (fun _ => False) := fun e => e0.trans e (fun _ _ h => h) (fun b' hb' h' => by have := hB b' h'; omega)
  have hkind : ∀ {w' : World}, Ext U w' (fun _ => False) → w'.cell? ((a.add (i * 6)).add 0) = some (.int .i64 (cs[i]'(by omega)).kind) := fun e => by
    obtain ⟨a', ha', _, hk, _⟩ := (hC.ext e (fun _ _ h => h)).some (k := i) (by omega)
    cases ha'
    exact hk
  refine ⟨fun w' => Ext w w' (Bl pb rb ob hb), (Ext.refl _ _).drew_, ?_⟩
  refine ixS_sl 6 36 (by omega) (by omega) ?_
  rw [fA_ptr, Int.toNat_natCast]
  refine ldS_c (fun w' e => hkind (hU e)) ?_
  rw [fI_int]
  refine ldS_g (fun w' e => hab.ext e hnb) ?_
  rw [fG_agg]
  refine ixS_sl 6 36 (by omega) (by omega) ?_
  rw [fA_ptr, Int.toNat_natCast]
  refine ldS_c (fun w' e => hkind (hU e)) ?_
  rw [fI_int]
  refine ldS_g (fun w' e => hab.ext e hnb) ?_
  rw [fG_agg]
  refine do_c (w := drew w) h.p hs h0 h1 fun w1 p1 e1 => ?_
  rw [fI_int]
  replace e1 : Ext w w1 (· = pb) := e1.of_drew
  obtain ⟨p1, r1⟩ := h.step1 p1 e1
  refine ⟨Ext.bl1 e1, ?_⟩
  refine want_c r1 hs h0 h1 fun w2 r2 e2 => ?_
  rw [fI_int]
  have e02 : Ext w w2 (Bl pb rb ob hb) := (Ext.bl1 e1).tr (Ext.bl2 e2)
  have t2 := h.step2 p1 r2 e2
  refine ⟨e02, ?_⟩
  refine counts_c t2.p fun w3 e3 => ⟨_, _, rfl, ?_⟩
  have t3 := t2.ext0 e3
  refine refCounts_c t3.r ⟨_, _, rfl, ?_⟩
  simp only [bne_self_eq_false, br_false]
  refine mustAbort_c t3.p fun w4 e4 => ?_
  rw [fB_bool]
  have t4 := t3.ext0 e4
  refine refMustAbort_c t4.r ?_
  rw [fB_bool]
  simp only [beq_self_eq_true, Bool.not_true, br_false]
  rw [wrap_i64 (by omega) (by omega)]
  exact hn w4 _ t4 (((hU e02).tr e3).tr e4)

theorem callsAgree_c {n : Int} {l : Option Addr} {ln lc : Nat} {cs : List Cl} (hcs : cs.length = ln) (hC : Cls U l cs) (hQ : ∀ w', Ext U w' (fun _ => False) → Q (.bool true) w') :
    CallE Try.prog 3 #[.int .i64 n, .slice l ln lc] U Q := by
  apply C.law29_WakeupCallsAgree
  unfold W.law29_WakeupCallsAgree
  have fin : ∀ w, Ext U w (fun _ => False) → CallE Try.prog 10 #[] w fun v w' => fB v fun b => Q (.bool b) w' := by
    intro w e
    refine awake_c fun w' e' => ?_
    rw [fB_bool]
    exact hQ w' (e.tr e')
  refine br_of (fun _ => fin U (Ext.refl _ _)) (fun hlen => ?_)
  simp only [decide_eq_false_iff_not] at hlen
  -- New, of the number itself
  have hnew : ∀ K : Value → World → Prop, (∀ p w' r, Ext U w' (fun _ => False) → (r = if 0 ≤ n ∧ n ≤ 32 then 0 else 1) → K (.tuple #[.pointer p, .int .i64 r]) w') → CallE Try.prog 11 #[.int .i64 n] U K := by
    intro K hK
    by_cases hn : 0 ≤ n ∧ n ≤ 32
    · exact new_c hn.1 hn.2 fun b w1 hb p1 e1 => hK _ _ _ e1 (by rw [if_pos hn])
    · exact new_bad (by omega) (hK _ _ _ (Ext.refl _ _) (by rw [if_neg hn]))
  refine hnew _ fun p1 w1 r1 e1 hr1 => ⟨_, _, rfl, ?_⟩
  have hnew2 : ∀ K : Value → World → Prop, (∀ p w' r, Ext w1 w' (fun _ => False) → (r = if 0 ≤ n ∧ n ≤ 32 then 0 else 1) → K (.tuple #[.pointer p, .int .i64 r]) w') → CallE Try.prog 12 #[.int .i64 n] w1 K := by
    intro K hK
    by_cases hn : 0 ≤ n ∧ n ≤ 32
    · exact refNew_c hn.1 hn.2 fun c o h w' _ _ _ _ e => hK _ _ _ e (by rw [if_pos hn])
    · exact refNew_bad (by omega) (hK _ _ _ (Ext.refl _ _) (by rw [if_neg hn]))
  refine hnew2 _ fun p2 w2 r2 e2 hr2 => ⟨_, _, rfl, ?_⟩
  have hr : r1 = r2 := hr1.trans hr2.symm
  subst hr
  refine mod_c (by omega) (by omega) ?_
  rw [fI_int]
  have hk := modv_bd (v := n) (n := 5) (by omega)
  generalize modv n 5 = k at hk ⊢
  have e02 : Ext U w2 (fun _ => False) := e1.tr e2
  refine new_c hk.1 (by omega) fun pb w3 hb3 p3 e3 => ⟨_, _, rfl, ?_⟩
  refine refNew_c hk.1 (by omega) fun rb ob hb w4 hrb hob hhb r4 e4 => ⟨_, _, rfl, ?_⟩
  simp only [bne_self_eq_false, br_false]
  refine eq_nil ?_
  rw [fB_bool, Option.isNone_some, br_false]
  have h02 := e02.size
  have h3 := e3.size
  have hp3 := p3.1.lt
  have t4 : Two w4 U.heap.size pb rb ob hb (new k.toNat) := ⟨p3.ext e4 (fun h => h), r4, by omega, ⟨by omega, by omega, by omega⟩, ⟨by omega, by omega, by omega⟩⟩
  have e04 : Ext U w4 (fun _ => False) := (e02.tr e3).tr e4
  refine LoopW.nat ln (fun i x w => ∃ (s : St), x = ((i : Int), ()) ∧ Two w U.heap.size pb rb ob hb s ∧ 0 ≤ s.events ∧ s.events ≤ i * 40 ∧ Ext U w (fun _ => False))
    ⟨new k.toNat, rfl, t4, by simp [new], by simp [new], e04⟩ ?_
  rintro i x w next hi ⟨s, rfl, ht, hs0, hs1, he⟩ hnext
  dsimp only
  by_cases hlt : i < ln
  case neg =>
    rw [decide_eq_false (by omega), br_false]
    exact fin w he
  rw [decide_eq_true (by omega), br_true]
  have hsm : Small s := ⟨hs0, by omega⟩
  obtain ⟨a, rfl, hcells, _, hfine⟩ := (hC.ext he (fun _ _ h => h)).some (k := i) (by omega)
  have hcellsS : ∀ {w' : World}, Ext w w' (fun _ => False) → ∀ j, j < (cs[i]'(by omega)).cells.length → w'.cell? ((a.add (i * 6)).add j) = ((cs[i]'(by omega)).cells)[j]? := fun e => by
    obtain ⟨a', ha', hc', _⟩ := (hC.ext (he.tr e) (fun _ _ h => h)).some (k := i) (by omega)
    cases ha'
    exact hc'
  have h0 := atC_nonneg hfine k s.clock s.events
  have hsl := ht.p.2
  have fin2 : ∀ {w' : World} {ab : Nat} {T : TypeId}, Ext w w' (fun _ => False) → At w' ab (atC (cs[i]'(by omega)) k s.clock s.events).cells T → w.heap.size ≤ ab → W.law29_WakeupCallsAgree_k14 (some a) ln lc k (some ⟨pb, 0, none⟩) (some ⟨rb, 0, none⟩) i ⟨ab, 0, none⟩ next w' Q := by
    intro w' ab T e hA hab
    have htl := ht.lt
    refine agree_k14 hcs hC hlt (by omega) (ht.ext0 e) hsm hA (by have := he.size; omega) (fun hh => by have := htl _ hh; omega) h0.1 h0.2 (he.tr e) fun w'' kd t'' e'' => ?_
    have hg := doSt_grows s kd (atC (cs[i]'(by omega)) k s.clock s.events)
    exact hnext hlt _ _ ⟨_, rfl, t'', by have := hg.lo; omega, by have := hg.hi; push_cast; omega, e''⟩
  refine ⟨fun w' => Ext w w' (fun _ => False), (Ext.refl _ _).drew_, ?_⟩
  refine ixS_sl 6 36 (by omega) (by omega) ?_
  rw [fA_ptr, Int.toNat_natCast]
  refine ldS_cs (fun w' e => hcellsS e) ?_
  rw [fG_agg]
  simp only [nn_mk, add_mk, Nat.zero_add]
  refine ldS_c (fun w' e => (refHead (ht.ext0 e).r).1) ?_
  rw [fI_int]
  refine ldS_c (fun w' e => (refHead (ht.ext0 e).r).2) ?_
  rw [fI_int]
  have hd : (drew w).heap.size = w.heap.size := rfl
  refine ⟨?_, ?_⟩
  · refine at_c (by omega) fun w5 e5 => ?_
    rw [fG_agg]
    replace e5 : Ext w w5 (fun _ => False) := e5.of_drew
    refine ⟨e5, ?_⟩
    refine al_n 4 fun b6 w6 zs hb6 hzs a6 e6 z6 => ?_
    refine ⟨e5.tr e6, ?_⟩
    refine st_w 4 a6 hzs rfl (cells_one4 _) fun w7 a7 e7 z7 => ?_
    have h5 := e5.size
    have e07 : Ext w w7 (fun _ => False) := (e5.tr e6).trans e7 (fun _ _ h => h) (fun b' hb' h => by omega)
    exact ⟨e07, fin2 e07 a7 (by omega)⟩
  · refine al_n 4 fun b6 w6 zs hb6 hzs a6 e6 z6 => ?_
    replace e6 : Ext w w6 (fun _ => False) := e6.of_drew
    refine ⟨e6, ?_⟩
    refine at_c (by omega) fun w5 e5 => ?_
    rw [fG_agg]
    refine ⟨e6.tr e5, ?_⟩
    refine st_w 4 (a6.ext e5 (fun h => h)) hzs rfl (cells_one4 _) fun w7 a7 e7 z7 => ?_
    have e07 : Ext w w7 (fun _ => False) := (e6.tr e5).trans e7 (fun _ _ h => h) (fun b' hb' h => by omega)
    exact ⟨e07, fin2 e07 a7 (by omega)⟩
end
end Go.Proofs.Ytdfjakdgclbleaa.Wk
