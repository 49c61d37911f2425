/-
  Wake sources: the statement WakeupAbortsExactly over the code. No condition beyond those stated.
-/
import Derived.Test.YtdfjakdgclbleaaWkN
namespace Go.Proofs.Ytdfjakdgclbleaa.Wk
open Go Go.Ev Go.Proofs Go.ChangeShapes Go.WideShapes Go.ChangeAt Go.RowKit

theorem pulse1_armed (s : St) (i : Nat) (h : Int) : (pulse1 s i h).armed = s.armed := by
  unfold pulse1; split <;> rfl
theorem deact_armed (s : St) (i : Nat) : (deact s i).armed = s.armed := by
  unfold deact; split <;> rfl
theorem doSt_armed (s : St) (k : Int) (a : Ar) (h7 : k ≠ 7) (h8 : k < 8) (h0 : 0 ≤ k) : (doSt s k a).2.armed = s.armed := by
  unfold doSt
  split
  · unfold activate; split <;> rfl
  split
  · unfold deactivate; split
    · exact deact_armed _ _
    · rfl
  split
  · unfold pulse; split
    · exact pulse1_armed _ _ _
    · rfl
  split
  · unfold setAlarm; split <;> rfl
  split
  · unfold advance; split <;> rfl
  · omega

/-- The flag 'armed' and the state. -/
def ArmIs (q : St) (E : Int) (f : Bool) : Prop := q.armed = if f then some E else none

theorem mustAbort_is {q : St} {E : Int} {f : Bool} (h : ArmIs q E f) (hE : E ≤ q.events) : mustAbort q = (f && decide (E < phi q)) := by
  unfold mustAbort
  unfold ArmIs at h
  cases f with
  | false => rw [h]; rfl
  | true =>
    rw [h]
    simp only [if_true, Bool.true_and]
    rw [Bool.eq_iff_iff]
    simp only [Bool.or_eq_true, decide_eq_true_eq]
    unfold phi
    omega

section
variable {U : World} {Q : Value → World → Prop}

theorem aborts_k30 {w : World} {B pb rb ob hb : Nat} {q : St} {m : Option Addr} {mn mc i : Nat} {k E : Int} {g f : Bool} {next : (Bool × Bool × Int × Unit) → World → Prop}
    (ht : Two w B pb rb ob hb q) (hE : E ≤ q.events) (hg : g = decide (E < phi q)) (hf : ArmIs q E f) (hi : i ≤ 1000)
    (hn : ∀ w', Two w' B pb rb ob hb q → Ext w w' (fun _ => False) → next (g, f, ((i + 1 : Nat) : Int), ()) w') :
    W.law29_WakeupAbortsExactly_k30 m mn mc k (some ⟨pb, 0, none⟩) (some ⟨rb, 0, none⟩) E g f i next w Q := by
  unfold W.law29_WakeupAbortsExactly_k30
  refine mustAbort_c ht.p fun w1 e1 => ?_
  rw [fB_bool, mustAbort_is hf hE, ← hg, wrap_i64 (by omega) (by omega)]
  cases f with
  | true =>
    rw [br_true]
    simp only [Bool.true_and, beq_self_eq_true, Bool.not_true, br_false]
    exact hn w1 (ht.ext0 e1) e1
  | false =>
    rw [br_false]
    simp only [Bool.false_and, beq_self_eq_true, Bool.not_true, br_false]
    exact hn w1 (ht.ext0 e1) e1

theorem aborts_k25 {w : World} {B pb rb ob hb kb ab : Nat} {q : St} {c : Cl} {ar : Ar} {m : Option Addr} {mn mc i : Nat} {k E : Int} {g f : Bool} {T1 T2 : TypeId} {next : (Bool × Bool × Int × Unit) → World → Prop}
    (ht : Two w B pb rb ob hb q) (hs : Small q) (hkb : At w kb c.cells T1) (hab : At w ab ar.cells T2) (hk : ¬ Bl pb rb ob hb kb) (ha : ¬ Bl pb rb ob hb ab) (h0 : 0 ≤ ar.now) (h1 : 0 ≤ ar.other) (hi : i ≤ 1000) (hkbB : kb < w.heap.size)
    (hE : E ≤ q.events) (hg : g = decide (E < phi q)) (hf : ArmIs q E f) (h7 : modv c.kind 9 ≠ 7)
    (hn : ∀ w' g' f', Two w' B pb rb ob hb (doSt q (modv c.kind 9) ar).2 → Ext w w' (Bl pb rb ob hb) → g' = decide (E < phi (doSt q (modv c.kind 9) ar).2) → ArmIs (doSt q (modv c.kind 9) ar).2 E f' → next (g', f', ((i + 1 : Nat) : Int), ()) w') :
    W.law29_WakeupAbortsExactly_k25 m mn mc k (some ⟨pb, 0, none⟩) (some ⟨rb, 0, none⟩) E g f i ⟨kb, 0, none⟩ ⟨ab, 0, none⟩ next w Q := by
  unfold W.law29_WakeupAbortsExactly_k25
  simp only [add_mk, Nat.zero_add]
  have hm := modv_bd (v := c.kind) (n := 9) (by omega)
  refine ld_i hkb rfl ?_
  rw [fI_int]
  refine ld_w hab ?_
  rw [fG_agg]
  refine do_c ht.p hs h0 h1 fun w1 p1 e1 => ?_
  rw [fI_int]
  obtain ⟨p1, r1⟩ := ht.step1 p1 e1
  refine ld_i (hkb.ext (Ext.bl1 e1) hk) rfl ?_
  rw [fI_int]
  refine ld_w (hab.ext (Ext.bl1 e1) ha) ?_
  rw [fG_agg]
  refine want_c r1 hs h0 h1 fun w2 r2 e2 => ?_
  rw [fI_int]
  have t2 := ht.step2 p1 r2 e2
  have e02 : Ext w w2 (Bl pb rb ob hb) := (Ext.bl1 e1).tr (Ext.bl2 e2)
  have hgr := doSt_grows q (modv c.kind 9) ar
  have hph := phi_doSt q (modv c.kind 9) ar
  have harm : ∀ f', f' = (f && (modv c.kind 9 != 8)) → ArmIs (doSt q (modv c.kind 9) ar).2 E f' := by
    intro f' hf'
    unfold ArmIs at hf ⊢
    by_cases h8 : modv c.kind 9 < 8
    · rw [doSt_armed q _ ar h7 h8 hm.1, hf, hf', show (modv c.kind 9 != 8) = true by simp; omega, Bool.and_true]
    · rw [doSt_8 (by omega), hf', show (modv c.kind 9 != 8) = false by simp; omega, Bool.and_false]
      rfl
  generalize hd : doSt q (modv c.kind 9) ar = d at *
  refine refCounts_c t2.r ⟨_, _, rfl, ?_⟩
  have hlo := hgr.lo
  have key : ∀ g', g' = decide (E < phi d.2) → W.law29_WakeupAbortsExactly_k29 m mn mc k (some ⟨pb, 0, none⟩) (some ⟨rb, 0, none⟩) E g' f i ⟨kb, 0, none⟩ next w2 Q := by
    intro g' hg'
    unfold W.law29_WakeupAbortsExactly_k29
    simp only [add_mk, Nat.zero_add]
    have fin : ∀ f', f' = (f && (modv c.kind 9 != 8)) → W.law29_WakeupAbortsExactly_k30 m mn mc k (some ⟨pb, 0, none⟩) (some ⟨rb, 0, none⟩) E g' f' i next w2 Q := by
      intro f' hf'
      exact aborts_k30 t2 (by omega) hg' (harm f' hf') hi fun w3 t3 e3 => hn w3 g' f' t3 (e02.tr0 e3) hg' (harm f' hf')
    cases f with
    | true =>
      rw [br_true]
      refine ld_i (hkb.ext e02 hk) rfl ?_
      rw [fI_int]
      refine mod_c (by omega) (by omega) ?_
      rw [fI_int]
      exact fin _ (by simp)
    | false => exact fin false (by simp)
  cases g with
  | true =>
    rw [br_true]
    exact key true (by rw [eq_comm, decide_eq_true_eq]; have := of_decide_eq_true hg.symm; omega)
  | false =>
    rw [br_false]
    refine br_of (fun he => key true ?_) (fun he => key _ ?_)
    · simp only [bne_iff_ne, ne_eq] at he
      rw [eq_comm, decide_eq_true_eq]
      unfold phi; omega
    · simp only [bne_eq_false_iff_eq] at he
      rw [Bool.eq_iff_iff]
      simp only [decide_eq_true_eq]
      unfold phi
      omega

theorem aborts_k12 {w : World} {pb rb ob hb : Nat} {p s : St} {m : Option Addr} {mn mc ln : Nat} {cs : List Cl} {k : Nat} (hcs : cs.length = mn) (hC : Cls U m cs) (hmn : mn ≤ 20) (hln : ln ≤ 20)
    (ht : Two w U.heap.size pb rb ob hb p) (hd : Down p s k k) (hal : AlOk p) (hk : 0 < k) (hk2 : k ≤ 32) (hc0 : 0 ≤ s.clock) (hc : s.clock ≤ 9 * ln) (he : s.events ≤ 40 * ln) (e0 : Ext U w (fun _ => False)) (hQ : ∀ w', Ext U w' (fun _ => False) → Q (.bool true) w') :
    W.law29_WakeupAbortsExactly_k12 m mn mc k (some ⟨pb, 0, none⟩) (some ⟨rb, 0, none⟩) w Q := by
  unfold W.law29_WakeupAbortsExactly_k12
  have hlen : p.src.length = k := by have := hd.len; omega
  have hpe : p = quietSt k p.alarm p.events p.armed p.clock := by
    have h1 := rep_of_none (s := p) (fun i hi => hd.none_ i (by omega))
    obtain ⟨src, al, e, ar, c⟩ := p
    simp only [quietSt] at *
    rw [h1, hlen]
  have hE0 := hd.e0
  have hE1 := hd.e1
  have hclk := hd.clock
  have hact : active p = 0 := by rw [hpe]; exact active_quiet
  have hfire : fires p.clock p.alarm = false := by
    cases ha : p.alarm with
    | none => rfl
    | some a => have := (hal a ha).1; simp [fires]; omega
  have hadv : adv p p.clock = p := by
    conv => lhs; rw [hpe]
    rw [adv_quiet]
    have h1 : (quietSt k p.alarm p.events p.armed p.clock).clock = p.clock := rfl
    rw [h1, hfire]
    simp only [Bool.false_eq_true, if_false, Int.add_zero]
    exact hpe.symm
  have harm : arm p p.events p.clock = (0, { p with armed := some p.events }) := by
    unfold arm
    rw [if_pos (ok_mk (Int.le_refl _) (by omega)), hadv, if_pos]
    simp [armOk, hact]
  have hsm : Small p := ⟨hE0, by omega⟩
  refine counts_c ht.p fun w1 e1 => ⟨_, _, rfl, ?_⟩
  have t1 := ht.ext0 e1
  rw [hact, show (((0 : Nat) : Int) != 0) = false from rfl, br_false, nn_mk, add_mk, Nat.zero_add]
  refine ld_c (refHead t1.r).1 ?_
  rw [fI_int]
  refine arm_c t1.p hsm fun w2 p2 e2 => ?_
  rw [fI_int]
  rw [harm] at p2 ⊢
  dsimp only at p2 ⊢
  rw [show ((0 : Int) != 0) = false from rfl, br_false]
  obtain ⟨p2, r2⟩ := t1.step1 p2 e2
  generalize hp' : ({ p with armed := some p.events } : St) = p' at p2
  have hmust : mustAbort p' = false := by
    rw [← hp']
    have : active { p with armed := some p.events } = 0 := hact
    simp [mustAbort, this]
  refine mustAbort_c p2 fun w3 e3 => ?_
  rw [fB_bool, hmust, br_false, nn_mk]
  have r3 := r2.ext0 e3
  refine ld_c (refHead r3).1 ?_
  rw [fI_int]
  refine refArm_c r3 hsm fun w4 r4 e4 => ?_
  rw [fI_int]
  rw [harm] at r4
  dsimp only at r4
  rw [hp'] at r4
  have t4 : Two w4 U.heap.size pb rb ob hb p' := t1.step2 (p2.ext e3 (fun h => h)) r4 e4
  have hBU : ∀ x, Bl pb rb ob hb x → U.heap.size ≤ x := by
    intro x hx
    rcases Nat.lt_or_ge x U.heap.size with h' | h'
    · exact absurd hx (ht.notBl h')
    · exact h'
  have e04 : Ext U w4 (fun _ => False) := (((e0.tr e1).trans e2 (fun _ _ h => h) (fun b' hb' h => by have := hBU b' (.inl h); omega)).tr e3).trans e4 (fun _ _ h => h) (fun b' hb' h => by have := hBU b' (.inr h); omega)
  have hinv4 : Inv p' k (ln + k) := by
    rw [← hp']
    refine ⟨hd.len, hE0, ?_, by show 0 ≤ p.clock; omega, ?_, hal⟩
    · show p.events ≤ _; push_cast; omega
    · show p.clock ≤ _; push_cast; omega
  have hphi4 : phi p' = p.events := by rw [← hp']; show p.events + ((active p : Nat) : Int) = _; rw [hact]; simp
  have hev4 : p'.events = p.events := by rw [← hp']
  have harm4 : ArmIs p' p.events true := by rw [← hp']; rfl
  generalize hE : p.events = E at *
  refine LoopW.nat mn (fun i x w => ∃ (q : St) (g f : Bool), x = (g, f, (i : Int), ()) ∧ Two w U.heap.size pb rb ob hb q ∧ Inv q k (ln + k + i) ∧ E ≤ q.events ∧ g = decide (E < phi q) ∧ ArmIs q E f ∧ Ext U w (fun _ => False))
    ⟨p', false, true, rfl, t4, hinv4, by omega, by rw [eq_comm, decide_eq_false_iff_not]; omega, harm4, e04⟩ ?_
  rintro i x w5 next hi ⟨q, g, f, rfl, tq, hiq, hEq, hg, hf, he5⟩ hnext
  dsimp only
  have hq0 := hiq.c0; have hq1 := hiq.c1; have hq2 := hiq.e0; have hq3 := hiq.e1
  have hsq : Small q := ⟨hq2, by push_cast at hq3; omega⟩
  by_cases hlt : i < mn
  case neg =>
    rw [decide_eq_false (by omega), br_false]
    unfold W.law29_WakeupAbortsExactly_k32
    refine disarm_c tq.p fun w6 p6 e6 => ⟨rfl, ?_⟩
    refine mustAbort_c p6 fun w7 e7 => ?_
    rw [fB_bool, show mustAbort (disarm q) = false from rfl, Bool.not_false, br_true]
    exact awake_fin hQ ((he5.trans e6 (fun _ _ h => h) (fun b' hb' h => by have := hBU b' (.inl h); omega)).tr e7)
  rw [decide_eq_true (by omega), br_true]
  obtain ⟨a, rfl, hcells, _, hfine⟩ := (hC.ext he5 (fun _ _ h => h)).some (k := i) (by omega)
  generalize hcc : cs[i]'(by omega) = c at hcells hfine
  have hat := atC_tame hfine (n := (k : Int)) (ev := E) hq0 (by push_cast at hq1; omega)
  have hm := modv_bd (v := c.kind) (n := 9) (by omega)
  refine ix_sl 6 36 (by omega) (by omega) ?_
  rw [fA_ptr, Int.toNat_natCast]
  refine ld_cs hcells ?_
  rw [fG_agg]
  refine al_st 6 rfl (cells_one6 _) ?_
  intro kb w6 hkb a6 e6 z6
  simp only [add_mk, Nat.zero_add]
  refine st_i a6 (by simp [Cl.cells]) fun w7 a7 e7 z7 => ?_
  change At w7 kb c.tame.cells _ at a7
  have e57 : Ext w5 w7 (fun _ => False) := e6.trans e7 (fun _ _ h => h) (fun b' hb' h => by omega)
  refine ld_i a7 rfl ?_
  rw [fI_int]
  refine mod_c (by omega) (by omega) ?_
  rw [fI_int, show c.tame.kind = c.kind from rfl]
  by_cases h7 : modv c.kind 9 = 7
  · rw [show (modv c.kind 9 == 7) = true by simpa using h7, br_true, wrap_i64 (by omega) (by omega)]
    refine hnext hlt _ _ ⟨q, g, f, rfl, tq.ext0 e57, ⟨hiq.len, hiq.e0, ?_, hiq.c0, ?_, hiq.al⟩, hEq, hg, hf, he5.tr e57⟩
    · have := hiq.e1; push_cast at this ⊢; omega
    · have := hiq.c1; push_cast at this ⊢; omega
  rw [show (modv c.kind 9 == 7) = false by simpa using h7, br_false]
  have htl := tq.lt
  have hstep := hiq.gen (k := modv c.kind 9) (a := atC c.tame k q.clock E) hm.1 (by omega) hat.1 hat.2.1 hat.2.2.2.1
  have fin2 : ∀ {w' : World} {ab : Nat} {T : TypeId}, Ext w7 w' (fun _ => False) → At w' ab (atC c.tame k q.clock E).cells T → w7.heap.size ≤ ab → W.law29_WakeupAbortsExactly_k25 (some a) mn mc k (some ⟨pb, 0, none⟩) (some ⟨rb, 0, none⟩) E g f i ⟨kb, 0, none⟩ ⟨ab, 0, none⟩ next w' Q := by
    intro w' ab T e hA hab
    have e5' := e57.tr e
    have hck := a7.ext e (fun h => h)
    refine aborts_k25 (c := c.tame) (tq.ext0 e5') hsq hck hA (fun hh => by have := htl _ hh; omega) (fun hh => by have := htl _ hh; omega) (by omega) hat.2.2.1 (by omega) hck.lt hEq hg hf h7 fun w'' g' f' t'' e'' hg' hf' => ?_
    have hgr := doSt_grows q (modv c.kind 9) (atC c.tame k q.clock E)
    exact hnext hlt _ _ ⟨_, g', f', rfl, t'', hstep, by have := hgr.lo; show E ≤ (doSt q (modv c.kind 9) (atC c.tame k q.clock E)).2.events; omega, hg', hf', (he5.tr e5').trans e'' (fun _ _ h => h) (fun b' hb' h => by have := hBU b' h; omega)⟩
  refine ⟨fun w' => Ext w7 w' (fun _ => False), (Ext.refl _ _).drew_, ?_⟩
  refine ldS_g (fun w' e => a7.ext e (fun h => h)) ?_
  rw [fG_agg]
  simp only [nn_mk, add_mk, Nat.zero_add]
  refine ldS_c (fun w' e => (refHead (tq.ext0 (e57.tr e)).r).1) ?_
  rw [fI_int]
  have hdr : (drew w7).heap.size = w7.heap.size := rfl
  refine ⟨?_, ?_⟩
  · refine at_c (by omega) fun w8 e8 => ?_
    rw [fG_agg]
    replace e8 : Ext w7 w8 (fun _ => False) := e8.of_drew
    refine ⟨e8, ?_⟩
    refine al_n 4 fun b9 w9 zs hb9 hzs a9 e9 z9 => ?_
    refine ⟨e8.tr e9, ?_⟩
    refine st_w 4 a9 hzs rfl (cells_one4 _) fun wa aa ea za => ?_
    have h8 := e8.size
    have e7a : Ext w7 wa (fun _ => False) := (e8.tr e9).trans ea (fun _ _ h => h) (fun b' hb' h => by omega)
    exact ⟨e7a, fin2 e7a aa (by omega)⟩
  · refine al_n 4 fun b9 w9 zs hb9 hzs a9 e9 z9 => ?_
    replace e9 : Ext w7 w9 (fun _ => False) := e9.of_drew
    refine ⟨e9, ?_⟩
    refine at_c (by omega) fun w8 e8 => ?_
    rw [fG_agg]
    refine ⟨e9.tr e8, ?_⟩
    refine st_w 4 (a9.ext e8 (fun h => h)) hzs rfl (cells_one4 _) fun wa aa ea za => ?_
    have e7a : Ext w7 wa (fun _ => False) := (e9.tr e8).trans ea (fun _ _ h => h) (fun b' hb' h => by omega)
    exact ⟨e7a, fin2 e7a aa (by omega)⟩

theorem aborts_c {n : Int} {l m : Option Addr} {ln lc mn mc : Nat} {cs ms : List Cl} (hcs : cs.length = ln) (hC : Cls U l cs) (hms : ms.length = mn) (hM : Cls U m ms) (hQ : ∀ w', Ext U w' (fun _ => False) → Q (.bool true) w') :
    CallE Try.prog 5 #[.int .i64 n, .slice l ln lc, .slice m mn mc] U Q := by
  apply C.law29_WakeupAbortsExactly
  unfold W.law29_WakeupAbortsExactly
  have key : ∀ f : Bool, (f = false → ln ≤ 20 ∧ mn ≤ 20) → W.law29_WakeupAbortsExactly_k2 n l ln lc m mn mc f U Q := by
    intro f hf
    unfold W.law29_WakeupAbortsExactly_k2
    refine br_of (fun _ => awake_fin hQ (Ext.refl _ _)) (fun hlen => ?_)
    obtain ⟨hln, hmn⟩ := hf hlen
    refine mod_c (by omega) (by omega) ?_
    rw [fI_int]
    have hk := modv_bd (v := n) (n := 4) (by omega)
    generalize modv n 4 = x at hk ⊢
    rw [wrap_i64 (by omega) (by omega)]
    obtain ⟨k, hkk⟩ : ∃ k : Nat, 1 + x = (k : Int) := ⟨(1 + x).toNat, by omega⟩
    rw [hkk]
    refine start_c hcs hC (by omega) (by omega) (by omega) fun w1 pb rb ob hb s t1 hinv e1 => ⟨_, _, _, rfl, ?_⟩
    simp only [Bool.not_true, br_false]
    have hi0 := hinv.c0; have hi1 := hinv.c1; have hi2 := hinv.e0; have hi3 := hinv.e1
    have hBU : ∀ x, Bl pb rb ob hb x → U.heap.size ≤ x := by
      intro x hx
      rcases Nat.lt_or_ge x U.heap.size with h' | h'
      · exact absurd hx (t1.notBl h')
      · exact h'
    refine LoopW.nat k (fun j x w => ∃ p, x = ((j : Int), ()) ∧ Two w U.heap.size pb rb ob hb p ∧ Down p s k j ∧ AlOk p ∧ Ext U w (fun _ => False))
      ⟨s, rfl, t1, ⟨hinv.len, fun i hi => by omega, rfl, fun a ha => (hinv.al a ha).2, hinv.e0, by omega⟩, hinv.al, e1⟩ ?_
    rintro j y w next hj ⟨p, rfl, hp, hd, hal, he⟩ hnext
    dsimp only
    by_cases hlt : j < k
    case neg =>
      have hje : j = k := by omega
      subst hje
      rw [decide_eq_false (by omega), br_false]
      exact aborts_k12 hms hM hmn hln hp hd hal (by omega) (by omega) hi0 hi1 hi3 he hQ
    rw [decide_eq_true (by omega), br_true, nn_mk, add_mk, Nat.zero_add]
    have hclk := hd.clock
    refine ld_c (refHead hp.r).1 ?_
    rw [fI_int, hclk]
    obtain ⟨hres, hdn⟩ := hd.step (by omega) (by omega) (by omega)
    have hsm : Small p := ⟨hd.e0, by have := hd.e1; omega⟩
    have hal' : AlOk (deactivate p j s.clock).2 := by
      have := doSt_ticks (s := p) (k := 2) (a := ⟨j, s.clock, 0, 0⟩) (by omega) (by omega) hal (by omega)
      have h2 : doSt p 2 ⟨j, s.clock, 0, 0⟩ = deactivate p j s.clock := by unfold doSt; rw [if_neg (by omega), if_pos rfl]
      rw [h2] at this
      rcases this with ⟨_, hne⟩ | ⟨_, _, _, h⟩
      · exact absurd hres hne
      · exact h
    refine deactivate_c hp.p hsm fun w2 p2 e2 => ?_
    rw [fI_int, hres, show ((0 : Int) != 0) = false from rfl, br_false, nn_mk]
    obtain ⟨p2, r2⟩ := hp.step1 p2 e2
    refine ld_c (refHead r2).1 ?_
    rw [fI_int, hclk]
    refine refDeactivate_c r2 hsm fun w3 r3 e3 => ?_
    rw [fI_int, hres, show ((0 : Int) != 0) = false from rfl, br_false, wrap_i64 (by omega) (by omega)]
    exact hnext hlt _ _ ⟨_, rfl, hp.step2 p2 r3 e3, hdn, hal', (he.trans e2 (fun _ _ h => h) (fun b' hb' h => by have := hBU b' (.inl h); omega)).trans e3 (fun _ _ h => h) (fun b' hb' h => by have := hBU b' (.inr h); omega)⟩
  refine br_of (fun h1 => key true (by simp)) (fun h1 => key _ (fun h2 => ?_))
  simp only [decide_eq_false_iff_not] at h1 h2
  omega
end
end Go.Proofs.Ytdfjakdgclbleaa.Wk
