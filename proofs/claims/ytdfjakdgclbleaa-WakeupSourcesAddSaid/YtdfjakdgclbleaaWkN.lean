/-
  Wake sources: what has begun is never forgotten (plain); the statements WakeupNoEventIsLost and WakeupAbortsExactly over the code. No condition beyond those stated.
-/
import Derived.Test.YtdfjakdgclbleaaWkE
namespace Go.Proofs.Ytdfjakdgclbleaa.Wk
open Go Go.Ev Go.Proofs Go.ChangeShapes Go.WideShapes Go.ChangeAt Go.RowKit

/-- Events that have begun. -/
def phi (s : St) : Int := s.events + active s

theorem stop_count (t : Int) : ∀ l : List Src, (l.map (stop t)).countP Option.isSome + l.countP (ends t) = l.countP Option.isSome
  | [] => rfl
  | x :: l => by
    have ih := stop_count t l
    simp only [List.map_cons, List.countP_cons]
    have : (if (stop t x).isSome = true then 1 else 0) + (if ends t x = true then 1 else 0) = (if x.isSome = true then 1 else 0) := by
      unfold stop
      cases x with
      | none => rfl
      | some y =>
        cases y with
        | none => rfl
        | some v => cases h : ends t (some (some v)) <;> simp
    omega
theorem phi_adv (s : St) (t : Int) : phi (adv s t) = phi s + (if fires t s.alarm then 1 else 0) := by
  have := stop_count t s.src
  simp only [phi, adv, active]
  omega
theorem phi_adv_le (s : St) (t : Int) : phi s ≤ phi (adv s t) := by
  rw [phi_adv]; split <;> omega

theorem phi_alarm (r : St) (t : Int) : phi (adv { r with alarm := some t } t) = phi r + 1 := by
  rw [phi_adv, show fires t (some t) = true by simp [fires]]
  rfl

theorem countP_set_some (x : Option Int) : ∀ (l : List Src) (i : Nat), l.countP Option.isSome ≤ (l.set i (some x)).countP Option.isSome
  | [], i => by simp
  | y :: l, 0 => by
    simp only [List.set_cons_zero, List.countP_cons]
    split <;> simp
  | y :: l, i + 1 => by
    simp only [List.set_cons_succ, List.countP_cons]
    have := countP_set_some x l i
    omega
theorem countP_set_pos (x : Option Int) : ∀ (l : List Src) (i : Nat), i < l.length → 0 < (l.set i (some x)).countP Option.isSome
  | y :: l, 0, _ => by simp [List.countP_cons]
  | y :: l, i + 1, h => by
    simp only [List.set_cons_succ, List.countP_cons]
    have := countP_set_pos x l i (by simpa using h)
    omega
theorem countP_set_none : ∀ (l : List Src) (i : Nat) (h : i < l.length), (l[i]).isSome = true → (l.set i none).countP Option.isSome + 1 = l.countP Option.isSome
  | y :: l, 0, _, hs => by
    simp only [List.getElem_cons_zero] at hs
    simp [List.countP_cons, hs]
  | y :: l, i + 1, h, hs => by
    simp only [List.set_cons_succ, List.countP_cons]
    have := countP_set_none l i (by simpa using h) (by simpa using hs)
    omega

theorem phi_put_some (s : St) (i : Nat) (x : Option Int) : phi s ≤ phi (put s i (some x)) := by
  have := countP_set_some x s.src i
  simp only [phi, put, active]
  omega
theorem phi_deact (s : St) (i : Nat) : phi s ≤ phi (deact s i) := by
  unfold deact
  split
  · rename_i h
    have hi : i < s.src.length := by
      rcases Nat.lt_or_ge i s.src.length with h' | h'
      · exact h'
      · rw [get, List.getD_eq_getElem?_getD, List.getElem?_eq_none h'] at h; cases h
    rw [get_of hi] at h
    have := countP_set_none s.src i hi h
    simp only [phi, put, active]
    omega
  · exact Int.le_refl _
theorem phi_pulse1 (s : St) (i : Nat) (h : Int) : phi s ≤ phi (pulse1 s i h) := by
  unfold pulse1
  split
  · exact phi_put_some _ _ _
  · exact Int.le_refl _
  · exact phi_put_some _ _ _

theorem phi_doSt (s : St) (k : Int) (a : Ar) : phi s ≤ phi (doSt s k a).2 := by
  have ha := phi_adv_le s a.now
  unfold doSt
  split
  · unfold activate; split
    · exact Int.le_trans ha (phi_put_some _ _ _)
    · exact Int.le_refl _
  split
  · unfold deactivate; split
    · exact Int.le_trans ha (phi_deact _ _)
    · exact Int.le_refl _
  split
  · unfold pulse; split
    · exact Int.le_trans ha (Int.le_trans (phi_pulse1 _ _ _) (phi_adv_le _ _))
    · exact Int.le_refl _
  split
  · unfold setAlarm; split
    · exact Int.le_trans ha (phi_adv_le { adv s a.now with alarm := some a.other } a.now)
    · exact Int.le_refl _
  split
  · unfold advance; split
    · exact ha
    · exact Int.le_refl _
  split
  · unfold arm; split
    · split
      · exact ha
      · exact Int.le_refl _
    · exact Int.le_refl _
  · exact Int.le_refl _

/-- What has begun keeps Arm from succeeding. -/
theorem arm_busy {s : St} {e t : Int} (h : e < phi s) (hok : ok s t = true) : arm s e t = (17, s) := by
  unfold arm
  rw [if_pos hok]
  have h1 := phi_adv_le s t
  rw [if_neg]
  simp only [armOk, Bool.and_eq_true, decide_eq_true_eq]
  rintro ⟨h2, h3⟩
  simp only [phi, h2, h3] at h1
  unfold phi at h
  omega
theorem arm_not {s : St} {e t : Int} (h : e < phi s) : (arm s e t).1 ≠ 0 ∧ (arm s e t).2 = s := by
  cases hok : ok s t with
  | true => rw [arm_busy h hok]; exact ⟨by simp, rfl⟩
  | false => unfold arm; rw [hok]; exact ⟨by simp, rfl⟩

theorem Inv.gen {s : St} {n : Int} {i : Nat} {k : Int} {a : Ar} (h : Inv s n i) (hk0 : 0 ≤ k) (hn : n ≤ 32) (h1 : s.clock ≤ a.now) (h2 : a.now ≤ s.clock + 9) (h5 : k = 5 → a.now ≤ a.other ∧ a.other ≤ a.now + 11) : Inv (doSt s k a).2 n (i + 1) := by
  have hg := doSt_grows s k a
  have hl := h.len; have he0 := h.e0; have he1 := h.e1; have hc0 := h.c0; have hc1 := h.c1
  have hcl : (doSt s k a).2.clock ≤ 9 * ((i + 1 : Nat) : Int) ∧ 0 ≤ (doSt s k a).2.clock ∧ AlOk (doSt s k a).2 := by
    by_cases h8 : k < 8
    · rcases doSt_ticks (a := a) hk0 h8 h.al h5 with ⟨hs, _⟩ | ⟨_, hcl, _, hal⟩
      · rw [hs]; exact ⟨by push_cast; omega, hc0, h.al⟩
      · rw [hcl]; exact ⟨by push_cast; omega, by omega, hal⟩
    · rw [doSt_8 (by omega)]
      exact ⟨by simp only [disarm]; push_cast; omega, hc0, h.al⟩
  exact ⟨by rw [hg.len]; exact hl, by have := hg.lo; omega, by have := hg.hi; push_cast; omega, hcl.2.1, hcl.1, hcl.2.2⟩

theorem doSt_act (s : St) (i t o e : Int) : doSt s 0 ⟨i, t, o, e⟩ = activate s i t := by unfold doSt; rw [if_pos (.inl rfl)]
theorem doSt_pulse (s : St) (i t o e : Int) : doSt s 3 ⟨i, t, o, e⟩ = pulse s i t o := by unfold doSt; rw [if_neg (by omega), if_neg (by omega), if_pos (.inl rfl)]
theorem doSt_alarm (s : St) (i t o e : Int) : doSt s 5 ⟨i, t, o, e⟩ = setAlarm s t o := by unfold doSt; rw [if_neg (by omega), if_neg (by omega), if_neg (by omega), if_pos rfl]

theorem active_put (s : St) (i : Nat) (x : Option Int) (h : i < s.src.length) : 0 < active (put s i (some x)) := countP_set_pos x s.src i h
theorem active_pulse1 (s : St) (i : Nat) (v : Int) (h : i < s.src.length) : 0 < active (pulse1 s i v) := by
  unfold pulse1
  split
  · exact active_put _ _ _ h
  · rename_i hg
    have : s = put s i (some none) := by
      unfold put
      rw [← hg, get_of h, List.set_getElem_self]
    rw [this]
    exact active_put _ _ _ h
  · exact active_put _ _ _ h

section
variable {U : World} {Q : Value → World → Prop}

theorem noLost_k29 {w : World} {pb kb ab : Nat} {p : St} {c : Cl} {ar : Ar} {l : Option Addr} {ln lc i : Nat} {k E now : Int} {T1 T2 : TypeId} {next : (Int × Int × Unit) → World → Prop}
    (hp : Prog w pb p) (hs : Small p) (hphi : E < phi p) (hkb : At w kb c.cells T1) (hab : At w ab ar.cells T2) (hi : i ≤ 1000)
    (hn : ∀ w', Prog w' pb p → Ext w w' (· = pb) → next (now, ((i + 1 : Nat) : Int), ()) w') :
    W.law29_WakeupNoEventIsLost_k29 l ln lc k (some ⟨pb, 0, none⟩) E now i ⟨kb, 0, none⟩ ⟨ab, 0, none⟩ next w Q := by
  unfold W.law29_WakeupNoEventIsLost_k29
  simp only [add_mk, Nat.zero_add]
  rw [wrap_i64 (by omega) (by omega)]
  refine ld_i hkb rfl ?_
  rw [fI_int]
  refine mod_c (by omega) (by omega) ?_
  rw [fI_int]
  refine br_of (fun _ => ?_) (fun _ => hn w hp (Ext.refl _ _))
  refine ld_i hab rfl ?_
  rw [fI_int]
  refine br_of (fun _ => ?_) (fun _ => hn w hp (Ext.refl _ _))
  refine arm_c hp hs fun w1 p1 e1 => ?_
  rw [fI_int]
  obtain ⟨h1, h2⟩ := arm_not (t := now) hphi
  rw [show ((arm p E now).1 == 0) = false by simpa using h1, br_false]
  rw [h2] at p1
  exact hn w1 p1 e1

theorem noLost_k18 {w : World} {pb rb ob hb : Nat} {p s : St} {m : Option Addr} {mn mc j : Nat} {cs : List Cl} {k E : Int} (hcs : cs.length = mn) (hC : Cls U m cs) (hmn : mn ≤ 20) (hj : j ≤ 100)
    (hp : Prog w pb p) (hr : Ref w rb ob hb s) (hinv : Inv p k j) (hk : k ≤ 32) (hk0 : 0 < k) (hclk : p.clock = s.clock) (hphi : E < phi p) (hB : U.heap.size ≤ pb) (e0 : Ext U w (fun _ => False)) (hQ : ∀ w', Ext U w' (fun _ => False) → Q (.bool true) w') :
    W.law29_WakeupNoEventIsLost_k18 m mn mc k (some ⟨pb, 0, none⟩) (some ⟨rb, 0, none⟩) E 0 w Q := by
  unfold W.law29_WakeupNoEventIsLost_k18
  rw [show ((0 : Int) != 0) = false from rfl, br_false, nn_mk, add_mk, Nat.zero_add]
  refine ld_c (refHead hr).1 ?_
  rw [fI_int]
  refine LoopW.nat mn (fun i x w => ∃ p, x = (p.clock, (i : Int), ()) ∧ Prog w pb p ∧ Inv p k (j + i) ∧ E < phi p ∧ Ext U w (fun _ => False)) ⟨p, by rw [hclk]; rfl, hp, hinv, hphi, e0⟩ ?_
  rintro i x w1 next hi ⟨q, rfl, hq, hiq, hphq, he⟩ hnext
  dsimp only
  have hq0 := hiq.c0; have hq1 := hiq.c1; have hq2 := hiq.e0; have hq3 := hiq.e1
  have hsm : Small q := ⟨hq2, by push_cast at hq3; omega⟩
  by_cases hlt : i < mn
  case neg =>
    rw [decide_eq_false (by omega), br_false]
    unfold W.law29_WakeupNoEventIsLost_k31
    refine arm_c hq hsm fun w2 p2 e2 => ?_
    rw [fI_int, arm_busy hphq (ok_mk (Int.le_refl _) (by push_cast at hq1; omega))]
    rw [show ((17 : Int) == 17) = true from rfl, br_true]
    exact awake_fin hQ (he.trans e2 (fun _ _ h => h) (fun b' hb' h => by omega))
  rw [decide_eq_true (by omega), br_true]
  obtain ⟨a, rfl, hcells, _, hfine⟩ := (hC.ext he (fun _ _ h => h)).some (k := i) (by omega)
  generalize hc : cs[i]'(by omega) = c at hcells hfine
  have hat := atC_tame hfine (n := k) (ev := E) hq0 (by push_cast at hq1; omega)
  have hm := modv_bd (v := c.kind) (n := 9) (by omega)
  refine ix_sl 6 36 (by omega) (by omega) ?_
  rw [fA_ptr, Int.toNat_natCast]
  refine ld_cs hcells ?_
  rw [fG_agg]
  refine al_st 6 rfl (cells_one6 _) ?_
  intro kb w5 hkb a5 e5 z5
  simp only [add_mk, Nat.zero_add]
  refine st_i a5 (by simp [Cl.cells]) fun w6 a6 e6 z6 => ?_
  change At w6 kb c.tame.cells _ at a6
  refine ld_w a6 ?_
  rw [fG_agg]
  refine at_c (by omega) fun w7 e7 => ?_
  rw [fG_agg]
  have a7 := a6.ext e7 (fun h => h)
  refine al_st 4 rfl (cells_one4 _) ?_
  intro ab w8 hab a8 e8 z8
  have c8 := a7.ext e8 (fun h => h)
  have hqb := hq.1.lt
  have e18 : Ext w1 w8 (fun _ => False) := ((e5.trans e6 (fun _ _ h => h) (fun b' hb' h => by omega)).tr e7).tr e8
  have q8 := hq.ext e18 (fun h => h)
  refine ld_i c8 rfl ?_
  rw [fI_int]
  refine ld_w a8 ?_
  rw [fG_agg]
  have h5 := e5.size; have h7 := e7.size
  have hstep := hiq.gen (k := modv c.kind 9) (a := atC c.tame k q.clock E) hm.1 hk hat.1 hat.2.1 hat.2.2.2.1
  have hph' := phi_doSt q (modv c.kind 9) (atC c.tame k q.clock E)
  refine do_c q8 hsm (by omega) hat.2.2.1 fun w9 p9 e9 => ?_
  rw [fI_int]
  have c9 := c8.ext e9 (by omega)
  have a9 := a8.ext e9 (by omega)
  have e19 : Ext U w9 (fun _ => False) := (he.tr e18).trans e9 (fun _ _ h => h) (fun b' hb' h => by omega)
  have hti : modv c.kind 9 < 8 → Ticks q (doSt q (modv c.kind 9) (atC c.tame k q.clock E)).2 (doSt q (modv c.kind 9) (atC c.tame k q.clock E)).1 (atC c.tame k q.clock E).now := fun h8 => doSt_ticks hm.1 h8 hiq.al hat.2.2.2.1
  have h88 : ¬ modv c.kind 9 < 8 → (doSt q (modv c.kind 9) (atC c.tame k q.clock E)).2.clock = q.clock := fun h8 => by rw [doSt_8 (by omega)]; rfl
  have hck : c.tame.kind = c.kind := rfl
  replace p9 : Prog w9 pb (doSt q (modv c.kind 9) (atC c.tame k q.clock E)).2 := p9
  change br ((doSt q (modv c.kind 9) (atC c.tame k q.clock E)).1 == 0) _ _
  generalize hd : doSt q (modv c.kind 9) (atC c.tame k q.clock E) = d at *
  have hd2 := hstep
  have hsm2 : Small d.2 := ⟨hstep.e0, by have := hstep.e1; push_cast at this; omega⟩
  have fin : ∀ w' now {T1 T2 : TypeId}, now = d.2.clock → Prog w' pb d.2 → At w' kb c.tame.cells T1 → At w' ab (atC c.tame k q.clock E).cells T2 → Ext U w' (fun _ => False) → W.law29_WakeupNoEventIsLost_k29 (some a) mn mc k (some ⟨pb, 0, none⟩) E now i ⟨kb, 0, none⟩ ⟨ab, 0, none⟩ next w' Q := by
    intro w' now _ _ hnow hp' hkb' hab' he'
    refine noLost_k29 hp' hsm2 (by omega) hkb' hab' (by omega) fun w'' p'' e'' => ?_
    exact hnext hlt _ _ ⟨d.2, by rw [hnow], p'', hd2, by omega, he'.trans e'' (fun _ _ h => h) (fun b' hb' h => by omega)⟩
  refine br_of (fun h0 => ?_) (fun h0 => ?_)
  · refine ld_i c9 rfl ?_
    rw [fI_int]
    refine mod_c (by omega) (by omega) ?_
    rw [fI_int, hck]
    refine br_of (fun h8 => ?_) (fun h8 => ?_)
    · simp only [decide_eq_true_eq] at h8
      refine ld_i a9 rfl ?_
      rw [fI_int]
      refine fin w9 _ ?_ p9 c9 a9 e19
      rcases hti h8 with ⟨_, hne⟩ | ⟨_, hcl, _⟩
      · exact absurd (by simpa using h0) hne
      · exact hcl.symm
    · simp only [decide_eq_false_iff_not] at h8
      exact fin w9 _ (h88 h8).symm p9 c9 a9 e19
  · refine fin w9 _ ?_ p9 c9 a9 e19
    by_cases h8 : modv c.kind 9 < 8
    · rcases hti h8 with ⟨hs, _⟩ | ⟨hz, _⟩
      · rw [hs]
      · rw [hz] at h0; simp at h0
    · exact (h88 h8).symm

theorem noLost_c {n src hold kind : Int} {l m : Option Addr} {ln lc mn mc : Nat} {cs ms : List Cl} (hcs : cs.length = ln) (hC : Cls U l cs) (hms : ms.length = mn) (hM : Cls U m ms) (hh : 0 ≤ hold) (hQ : ∀ w', Ext U w' (fun _ => False) → Q (.bool true) w') :
    CallE Try.prog 4 #[.int .i64 n, .slice l ln lc, .slice m mn mc, .int .i64 src, .int .u64 hold, .int .u8 kind] U Q := by
  apply C.law29_WakeupNoEventIsLost
  unfold W.law29_WakeupNoEventIsLost
  have key : ∀ f : Bool, (f = false → ln ≤ 20 ∧ mn ≤ 20) → W.law29_WakeupNoEventIsLost_k2 n l ln lc m mn mc src hold kind f U Q := by
    intro f hf
    unfold W.law29_WakeupNoEventIsLost_k2
    refine br_of (fun _ => awake_fin hQ (Ext.refl _ _)) (fun hlen => ?_)
    obtain ⟨hln, hmn⟩ := hf hlen
    refine mod_c (by omega) (by omega) ?_
    rw [fI_int]
    have hk := modv_bd (v := n) (n := 4) (by omega)
    generalize modv n 4 = x at hk ⊢
    rw [wrap_i64 (by omega) (by omega)]
    generalize hkk : 1 + x = k
    refine start_c hcs hC (by omega) (by omega) (by omega) fun w1 pb rb ob hb s t1 hinv e1 => ⟨_, _, _, rfl, ?_⟩
    simp only [Bool.not_true, br_false]
    have hi0 := hinv.c0; have hi1 := hinv.c1; have hi2 := hinv.e0; have hi3 := hinv.e1; have hil := hinv.len
    refine counts_c t1.p fun w2 e2 => ⟨_, _, rfl, ?_⟩
    have t2 := t1.ext0 e2
    have e02 := e1.tr e2
    refine br_of (fun _ => awake_fin hQ e02) (fun hact => ?_)
    simp only [decide_eq_false_iff_not] at hact
    have ha0 : active s = 0 := by omega
    refine mod_c (by omega) (by omega) ?_
    rw [fI_int]
    have hsr := modv_bd (v := src) (n := k) (by omega)
    generalize modv src k = i at hsr ⊢
    have hsm : Small s := ⟨hi2, by omega⟩
    have hok : ok s s.clock = true := ok_mk (Int.le_refl _) (by omega)
    have hhas : has s i = true := has_mk hsr.1 (by omega)
    have hphi0 : phi s = s.events := by unfold phi; rw [ha0]; simp
    have hne := t2.ne
    have hpb := t2.hp
    have fin : ∀ {w0 w' : World} {p : St}, Ext U w0 (fun _ => False) → Ref w0 rb ob hb s → Prog w' pb p → Ext w0 w' (· = pb) → Inv p k (ln + 1) → p.clock = s.clock → s.events < phi p → W.law29_WakeupNoEventIsLost_k18 m mn mc k (some ⟨pb, 0, none⟩) (some ⟨rb, 0, none⟩) s.events 0 w' Q := by
      intro w0 w' p e0' r0 hp' e' hinv' hcl hph
      exact noLost_k18 hms hM hmn (by omega) hp' (r0.ext e' (fun x hx hy => by rcases hx with hx | hx | hx <;> omega)) hinv' (by omega) (by omega) hcl hph hpb (e0'.trans e' (fun _ _ h => h) (fun b' hb' h => by omega)) hQ
    have hgenA := hinv.gen (k := 0) (a := ⟨i, s.clock, 0, 0⟩) (by omega) (by omega) (Int.le_refl _) (by show s.clock ≤ s.clock + 9; omega) (by omega)
    have h10 := tmod_bd (m := 10) hh (by omega)
    have hgenP := hinv.gen (k := 3) (a := ⟨i, s.clock, Int.tmod hold 10, 0⟩) (by omega) (by omega) (Int.le_refl _) (by show s.clock ≤ s.clock + 9; omega) (by omega)
    have hgenS := hinv.gen (k := 5) (a := ⟨i, s.clock, s.clock, 0⟩) (by omega) (by omega) (Int.le_refl _) (by show s.clock ≤ s.clock + 9; omega) (fun _ => ⟨Int.le_refl _, by show s.clock ≤ s.clock + 11; omega⟩)
    rw [doSt_act] at hgenA
    rw [doSt_pulse] at hgenP
    rw [doSt_alarm] at hgenS
    have hadvl := adv_length s s.clock
    have hade := adv_events s s.clock
    refine br_of (fun _ => ?_) (fun _ => br_of (fun _ => ?_) (fun _ => ?_))
    · rw [nn_mk, add_mk, Nat.zero_add]
      refine ld_c (refHead t2.r).1 ?_
      rw [fI_int]
      refine activate_c t2.p hsm fun w3 p3 e3 => ?_
      rw [fI_int]
      have hres : activate s i s.clock = (0, put (adv s s.clock) i.toNat (some none)) := by unfold activate; rw [hhas, hok]; rfl
      rw [hres] at p3 hgenA ⊢
      refine fin e02 t2.r p3 e3 hgenA rfl ?_
      have := active_put (adv s s.clock) i.toNat none (by omega)
      unfold phi
      simp only [put] at this ⊢
      omega
    · rw [nn_mk, add_mk, Nat.zero_add]
      refine ld_c (refHead t2.r).1 ?_
      rw [fI_int]
      refine pulse_c t2.p hsm hi0 h10.1 fun w3 p3 e3 => ?_
      rw [fI_int]
      have hres : pulse s i s.clock (Int.tmod hold 10) = (0, adv (pulse1 (adv s s.clock) i.toNat (s.clock + Int.tmod hold 10)) s.clock) := by
        unfold pulse; rw [hhas, hok, decide_eq_true (by rw [MAX_eq]; omega)]; rfl
      rw [hres] at p3 hgenP ⊢
      refine fin e02 t2.r p3 e3 hgenP rfl ?_
      have h1 := active_pulse1 (adv s s.clock) i.toNat (s.clock + Int.tmod hold 10) (by omega)
      have h2 := phi_adv_le (pulse1 (adv s s.clock) i.toNat (s.clock + Int.tmod hold 10)) s.clock
      have h3 := pulse1_events (adv s s.clock) i.toNat (s.clock + Int.tmod hold 10)
      dsimp only
      have h4 : phi (pulse1 (adv s s.clock) i.toNat (s.clock + Int.tmod hold 10)) = (adv s s.clock).events + active (pulse1 (adv s s.clock) i.toNat (s.clock + Int.tmod hold 10)) := by unfold phi; rw [h3]
      omega
    · show dr w2 _
      unfold dr
      simp only [nn_mk, add_mk, Nat.zero_add]
      refine ld_c (w := drew w2) (refHead t2.r).1 ?_
      rw [fI_int]
      refine ld_c (w := drew w2) (refHead t2.r).1 ?_
      rw [fI_int]
      refine setAlarm_c (w := drew w2) t2.p hsm fun w3 p3 e3 => ?_
      rw [fI_int]
      have hres : setAlarm s s.clock s.clock = (0, adv { adv s s.clock with alarm := some s.clock } s.clock) := by
        unfold setAlarm; rw [hok, decide_eq_true (by rw [MAX_eq]; omega)]; rfl
      rw [hres] at p3 hgenS ⊢
      refine fin e02 t2.r p3 e3.of_drew hgenS rfl ?_
      have h3 := phi_adv_le s s.clock
      have h4 : s.events < phi (adv s s.clock) + 1 := by omega
      exact (phi_alarm (adv s s.clock) s.clock).symm ▸ h4
  refine br_of (fun h1 => key true (by simp)) (fun h1 => key _ (fun h2 => ?_))
  simp only [decide_eq_false_iff_not] at h1 h2
  omega
end
end Go.Proofs.Ytdfjakdgclbleaa.Wk
