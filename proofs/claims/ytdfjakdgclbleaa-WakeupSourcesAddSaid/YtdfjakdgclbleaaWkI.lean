/-
  Wake sources: what holds after calls whose arguments are drawn from the clock (plain), and the statements' common beginning over the code. No condition beyond those stated.
-/
import Derived.Test.YtdfjakdgclbleaaWkT
namespace Go.Proofs.Ytdfjakdgclbleaa.Wk
open Go Go.Ev Go.Proofs Go.ChangeShapes Go.WideShapes Go.ChangeAt Go.RowKit

def Cl.tame (c : Cl) : Cl := { c with raw := false }
theorem tame_fine {c : Cl} (h : c.fine) : c.tame.fine := h

theorem tmod_bd {x m : Int} (hx : 0 ≤ x) (hm : 0 < m) : 0 ≤ Int.tmod x m ∧ Int.tmod x m < m := ⟨Int.tmod_nonneg _ hx, Int.tmod_lt_of_pos _ hm⟩

theorem atC_tame {c : Cl} (h : c.fine) {n now ev : Int} (h0 : 0 ≤ now) (h1 : now ≤ 1000000) :
    now ≤ (atC c.tame n now ev).now ∧ (atC c.tame n now ev).now ≤ now + 9 ∧ 0 ≤ (atC c.tame n now ev).other ∧
    (modv c.kind 9 = 5 → (atC c.tame n now ev).now ≤ (atC c.tame n now ev).other ∧ (atC c.tame n now ev).other ≤ (atC c.tame n now ev).now + 11) ∧
    (modv c.kind 9 ≠ 5 → (atC c.tame n now ev).other ≤ 11) ∧ (0 < n → (atC c.tame n now ev).source = modv c.src n) := by
  obtain ⟨hw, hh⟩ := h
  have a := tmod_bd (m := 10) hw (by omega)
  have b := tmod_bd (m := 12) hh (by omega)
  have hwr : IntKind.wrap .u64 (now + Int.tmod c.wait 10) = now + Int.tmod c.wait 10 := wrap_u64 (by omega) (by omega)
  have hwr2 : IntKind.wrap .u64 (now + Int.tmod c.wait 10 + Int.tmod c.hold 12) = now + Int.tmod c.wait 10 + Int.tmod c.hold 12 := wrap_u64 (by omega) (by omega)
  unfold atC Cl.tame
  simp only [Bool.false_eq_true, if_false, hwr, hwr2]
  refine ⟨by omega, by omega, ?_, ?_, ?_, ?_⟩
  · split <;> omega
  · intro hk; rw [if_pos hk]; omega
  · intro hk; rw [if_neg hk]; omega
  · intro hn; rw [if_pos hn]

/- The clock and the alarm. -/
def AlOk (s : St) : Prop := ∀ a, s.alarm = some a → s.clock < a ∧ a ≤ s.clock + 11

theorem adv_alarm {s : St} {t a : Int} (h : (adv s t).alarm = some a) : s.alarm = some a ∧ t < a := by
  simp only [adv] at h
  split at h
  · cases h
  · rename_i hf
    refine ⟨h, ?_⟩
    rw [h] at hf
    simpa [fires] using hf
theorem adv_alOk {s : St} {t : Int} (h : ∀ a, s.alarm = some a → a ≤ t + 11) : AlOk (adv s t) := fun a ha => by
  obtain ⟨h1, h2⟩ := adv_alarm ha
  exact ⟨h2, h a h1⟩
theorem alOk_le {s : St} {t : Int} (h : AlOk s) (ht : s.clock ≤ t) : ∀ a, s.alarm = some a → a ≤ t + 11 := fun a ha => by have := (h a ha).2; omega

theorem pulse1_clock (s : St) (i : Nat) (h : Int) : (pulse1 s i h).clock = s.clock := by
  unfold pulse1; split <;> rfl
theorem deact_clock (s : St) (i : Nat) : (deact s i).clock = s.clock ∧ (deact s i).alarm = s.alarm := by
  unfold deact; split <;> exact ⟨rfl, rfl⟩

/-- What a call at time t does to the clock. -/
def Ticks (s s' : St) (r t : Int) : Prop := (s' = s ∧ r ≠ 0) ∨ (r = 0 ∧ s'.clock = t ∧ s.clock ≤ t ∧ AlOk s')

theorem ok_le {s : St} {t : Int} (h : ok s t = true) : s.clock ≤ t := (ok_spec h).1

theorem doSt_ticks {s : St} {k : Int} {a : Ar} (hk : 0 ≤ k) (hk8 : k < 8) (h : AlOk s) (h5 : k = 5 → a.now ≤ a.other ∧ a.other ≤ a.now + 11) : Ticks s (doSt s k a).2 (doSt s k a).1 a.now := by
  unfold doSt
  split
  · unfold activate
    split
    · rename_i hg
      have := ok_le (s := s) (t := a.now) (by simp at hg; exact hg.2)
      exact .inr ⟨rfl, rfl, this, adv_alOk (alOk_le h this)⟩
    · exact .inl ⟨rfl, by simp⟩
  split
  · unfold deactivate
    split
    · rename_i hg
      have := ok_le (s := s) (t := a.now) (by simp at hg; exact hg.2)
      have hd := deact_clock (adv s a.now) a.source.toNat
      refine .inr ⟨rfl, hd.1, this, fun x hx => ?_⟩
      rw [hd.1]
      exact adv_alOk (alOk_le h this) x (hd.2 ▸ hx)
    · exact .inl ⟨rfl, by simp⟩
  split
  · unfold pulse
    split
    · rename_i hg
      have := ok_le (s := s) (t := a.now) (by simp at hg; exact hg.1.2)
      refine .inr ⟨rfl, rfl, this, adv_alOk fun x hx => ?_⟩
      rw [pulse1_alarm] at hx
      exact (adv_alOk (alOk_le h this) x hx).2
    · exact .inl ⟨rfl, by simp⟩
  split
  · unfold setAlarm
    split
    · rename_i hk5 hg
      have := ok_le (s := s) (t := a.now) (by simp at hg; exact hg.1)
      refine .inr ⟨rfl, rfl, this, adv_alOk fun x hx => ?_⟩
      simp only [Option.some.injEq] at hx
      have := h5 hk5
      omega
    · exact .inl ⟨rfl, by simp⟩
  split
  · unfold advance
    split
    · rename_i hg
      have := ok_le hg
      exact .inr ⟨rfl, rfl, this, adv_alOk (alOk_le h this)⟩
    · exact .inl ⟨rfl, by simp⟩
  split
  · unfold arm
    split
    · rename_i hg
      have := ok_le hg
      split
      · exact .inr ⟨rfl, rfl, this, adv_alOk (alOk_le h this)⟩
      · exact .inl ⟨rfl, by simp⟩
    · exact .inl ⟨rfl, by simp⟩
  · omega

theorem doSt_8 {s : St} {k : Int} {a : Ar} (hk : 8 ≤ k) : doSt s k a = (0, disarm s) := by
  unfold doSt
  rw [if_neg (by omega), if_neg (by omega), if_neg (by omega), if_neg (by omega), if_neg (by omega), if_neg (by omega)]

/-- What holds after i calls. -/
structure Inv (s : St) (n : Int) (i : Nat) : Prop where
  len : (s.src.length : Int) = n
  e0 : 0 ≤ s.events
  e1 : s.events ≤ 40 * i
  c0 : 0 ≤ s.clock
  c1 : s.clock ≤ 9 * i
  al : AlOk s

theorem Inv.new {n : Int} (h : 0 ≤ n) : Inv (new n.toNat) n 0 := by
  refine ⟨by simp [Wk.new]; omega, by simp [Wk.new], by simp [Wk.new], by simp [Wk.new], by simp [Wk.new], fun a ha => by simp [Wk.new] at ha⟩

theorem Inv.step {s : St} {n : Int} {i : Nat} {c : Cl} {ev : Int} (h : Inv s n i) (hn : n ≤ 32) (hi : i ≤ 1000) (hc : c.fine) : Inv (doSt s (modv c.kind 9) (atC c.tame n s.clock ev)).2 n (i + 1) := by
  have hg := doSt_grows s (modv c.kind 9) (atC c.tame n s.clock ev)
  have ha := atC_tame hc (n := n) (ev := ev) h.c0 (by have := h.c1; omega)
  have hm := modv_bd (v := c.kind) (n := 9) (by omega)
  have hl := h.len; have he0 := h.e0; have he1 := h.e1; have hc0 := h.c0; have hc1 := h.c1
  have hcl : (doSt s (modv c.kind 9) (atC c.tame n s.clock ev)).2.clock ≤ 9 * ((i + 1 : Nat) : Int) ∧ 0 ≤ (doSt s (modv c.kind 9) (atC c.tame n s.clock ev)).2.clock ∧ AlOk (doSt s (modv c.kind 9) (atC c.tame n s.clock ev)).2 := by
    by_cases h8 : modv c.kind 9 < 8
    · rcases doSt_ticks (a := atC c.tame n s.clock ev) hm.1 h8 h.al (fun h5 => ha.2.2.2.1 h5) with ⟨hs, _⟩ | ⟨_, hcl, _, hal⟩
      · rw [hs]; exact ⟨by push_cast; omega, hc0, h.al⟩
      · rw [hcl]; exact ⟨by push_cast; omega, by omega, hal⟩
    · rw [doSt_8 (by omega)]
      exact ⟨by simp only [disarm]; push_cast; omega, hc0, h.al⟩
  refine ⟨by rw [hg.len]; exact hl, by have := hg.lo; omega, by have := hg.hi; push_cast; omega, hcl.2.1, hcl.1, hcl.2.2⟩

section
variable {U : World} {Q : Value → World → Prop}

theorem start_k11 {w : World} {B pb rb ob hb kb ab : Nat} {s : St} {c : Cl} {n : Int} {l : Option Addr} {ln lc i : Nat} {ar : Ar} {T1 T2 : TypeId} {next : (Int × Unit) → World → Prop}
    (h : Two w B pb rb ob hb s) (hs : Small s) (hkb : At w kb c.cells T1) (hab : At w ab ar.cells T2) (hk : ¬ Bl pb rb ob hb kb) (ha : ¬ Bl pb rb ob hb ab) (h0 : 0 ≤ ar.now) (h1 : 0 ≤ ar.other) (hi : i ≤ 1000)
    (hn : ∀ w', Two w' B pb rb ob hb (doSt s (modv c.kind 9) ar).2 → Ext w w' (Bl pb rb ob hb) → next (((i + 1 : Nat) : Int), ()) w') :
    W.law29_start_k11 n l ln lc (some ⟨pb, 0, none⟩) (some ⟨rb, 0, none⟩) i ⟨kb, 0, none⟩ ⟨ab, 0, none⟩ next w Q := by
  unfold W.law29_start_k11
  simp only [add_mk, Nat.zero_add]
  refine ld_i hkb rfl ?_
  rw [fI_int]
  refine ld_w hab ?_
  rw [fG_agg]
  refine do_c h.p hs h0 h1 fun w1 p1 e1 => ?_
  rw [fI_int]
  obtain ⟨p1, r1⟩ := h.step1 p1 e1
  refine ld_i (hkb.ext (Ext.bl1 e1) hk) rfl ?_
  rw [fI_int]
  refine ld_w (hab.ext (Ext.bl1 e1) ha) ?_
  rw [fG_agg]
  refine want_c r1 hs h0 h1 fun w2 r2 e2 => ?_
  rw [fI_int, wrap_i64 (by omega) (by omega)]
  exact hn w2 (h.step2 p1 r2 e2) ((Ext.bl1 e1).tr (Ext.bl2 e2))

theorem start_c {n : Int} {l : Option Addr} {ln lc : Nat} {cs : List Cl} (hcs : cs.length = ln) (hC : Cls U l cs) (hln : ln ≤ 100) (h0 : 0 ≤ n) (h32 : n ≤ 32)
    (hQ : ∀ w' pb rb ob hb s, Two w' U.heap.size pb rb ob hb s → Inv s n ln → Ext U w' (fun _ => False) → Q (.tuple #[.pointer (some ⟨pb, 0, none⟩), .pointer (some ⟨rb, 0, none⟩), .bool true]) w') :
    CallE Try.prog 21 #[.int .i64 n, .slice l ln lc] U Q := by
  apply C.law29_start
  unfold W.law29_start
  refine new_c h0 h32 fun pb w3 hb3 p3 e3 => ⟨_, _, rfl, ?_⟩
  refine refNew_c h0 h32 fun rb ob hb w4 hrb hob hhb r4 e4 => ⟨_, _, rfl, ?_⟩
  simp only [bne_self_eq_false, br_false]
  refine eq_nil ?_
  rw [fB_bool, Option.isNone_some, br_false]
  have h3 := e3.size
  have hp3 := p3.1.lt
  have t4 : Two w4 U.heap.size pb rb ob hb (new n.toNat) := ⟨p3.ext e4 (fun h => h), r4, by omega, ⟨by omega, by omega, by omega⟩, ⟨by omega, by omega, by omega⟩⟩
  refine LoopW.nat ln (fun i x w => ∃ (s : St), x = ((i : Int), ()) ∧ Two w U.heap.size pb rb ob hb s ∧ Inv s n i ∧ Ext U w (fun _ => False))
    ⟨new n.toNat, rfl, t4, Inv.new h0, e3.tr e4⟩ ?_
  rintro i x w next hi ⟨s, rfl, ht, hinv, he⟩ hnext
  dsimp only
  by_cases hlt : i < ln
  case neg =>
    have hie : i = ln := by omega
    subst hie
    rw [decide_eq_false (by omega), br_false]
    exact hQ w pb rb ob hb s ht hinv he
  rw [decide_eq_true (by omega), br_true]
  have hsm : Small s := ⟨hinv.e0, by have := hinv.e1; omega⟩
  obtain ⟨a, rfl, hcells, _, hfine⟩ := (hC.ext he (fun _ _ h => h)).some (k := i) (by omega)
  generalize hc : cs[i]'(by omega) = c at hcells hfine
  have hat := atC_tame hfine (n := n) (ev := s.events) hinv.c0 (by have := hinv.c1; omega)
  have hBU : ∀ x, Bl pb rb ob hb x → U.heap.size ≤ x := by
    intro x hx
    rcases Nat.lt_or_ge x U.heap.size with h' | h'
    · exact absurd hx (ht.notBl h')
    · exact h'
  have htl := ht.lt
  refine ix_sl 6 36 (by omega) (by omega) ?_
  rw [fA_ptr, Int.toNat_natCast]
  refine ld_cs hcells ?_
  rw [fG_agg]
  refine al_st 6 rfl (cells_one6 _) ?_
  intro kb w5 hkb a5 e5 z5
  simp only [add_mk, Nat.zero_add]
  refine st_i a5 (by simp [Cl.cells]) fun w6 a6 e6 z6 => ?_
  change At w6 kb c.tame.cells _ at a6
  have e06 : Ext w w6 (fun _ => False) := e5.trans e6 (fun _ _ h => h) (fun b' hb' h => by omega)
  have fin2 : ∀ {w' : World} {ab : Nat} {T : TypeId}, Ext w6 w' (fun _ => False) → At w' ab (atC c.tame n s.clock s.events).cells T → w6.heap.size ≤ ab → W.law29_start_k11 n (some a) ln lc (some ⟨pb, 0, none⟩) (some ⟨rb, 0, none⟩) i ⟨kb, 0, none⟩ ⟨ab, 0, none⟩ next w' Q := by
    intro w' ab T e hA hab
    have e0' := e06.tr e
    refine start_k11 (ht.ext0 e0') hsm (a6.ext e (fun h => h)) hA (fun hh => by have := htl _ hh; omega) (fun hh => by have := htl _ hh; omega) (by have := hinv.c0; omega) hat.2.2.1 (by omega) fun w'' t'' e'' => ?_
    refine hnext hlt _ _ ⟨_, rfl, t'', hinv.step h32 (by omega) hfine, ?_⟩
    exact (he.tr e0').trans e'' (fun _ _ h => h) (fun b' hb' h => by have := hBU b' h; omega)
  refine ⟨fun w' => Ext w6 w' (fun _ => False), (Ext.refl _ _).drew_, ?_⟩
  refine ldS_g (fun w' e => a6.ext e (fun h => h)) ?_
  rw [fG_agg]
  simp only [nn_mk, add_mk, Nat.zero_add]
  refine ldS_c (fun w' e => (refHead (ht.ext0 (e06.tr e)).r).1) ?_
  rw [fI_int]
  refine ldS_c (fun w' e => (refHead (ht.ext0 (e06.tr e)).r).2) ?_
  rw [fI_int]
  have hd : (drew w6).heap.size = w6.heap.size := rfl
  refine ⟨?_, ?_⟩
  · refine at_c (by omega) fun w7 e7 => ?_
    rw [fG_agg]
    replace e7 : Ext w6 w7 (fun _ => False) := e7.of_drew
    refine ⟨e7, ?_⟩
    refine al_n 4 fun b8 w8 zs hb8 hzs a8 e8 z8 => ?_
    refine ⟨e7.tr e8, ?_⟩
    refine st_w 4 a8 hzs rfl (cells_one4 _) fun w9 a9 e9 z9 => ?_
    have h7 := e7.size
    have e69 : Ext w6 w9 (fun _ => False) := (e7.tr e8).trans e9 (fun _ _ h => h) (fun b' hb' h => by omega)
    exact ⟨e69, fin2 e69 a9 (by omega)⟩
  · refine al_n 4 fun b8 w8 zs hb8 hzs a8 e8 z8 => ?_
    replace e8 : Ext w6 w8 (fun _ => False) := e8.of_drew
    refine ⟨e8, ?_⟩
    refine at_c (by omega) fun w7 e7 => ?_
    rw [fG_agg]
    refine ⟨e8.tr e7, ?_⟩
    refine st_w 4 (a8.ext e7 (fun h => h)) hzs rfl (cells_one4 _) fun w9 a9 e9 z9 => ?_
    have e69 : Ext w6 w9 (fun _ => False) := (e8.tr e7).trans e9 (fun _ _ h => h) (fun b' hb' h => by omega)
    exact ⟨e69, fin2 e69 a9 (by omega)⟩

theorem awake_fin {w : World} (hQ : ∀ w', Ext U w' (fun _ => False) → Q (.bool true) w') (e : Ext U w (fun _ => False)) : CallE Try.prog 10 #[] w fun v w' => fB v fun b => Q (.bool b) w' := by
  refine awake_c fun w' e' => ?_
  rw [fB_bool]
  exact hQ w' (e.tr e')
end
end Go.Proofs.Ytdfjakdgclbleaa.Wk
