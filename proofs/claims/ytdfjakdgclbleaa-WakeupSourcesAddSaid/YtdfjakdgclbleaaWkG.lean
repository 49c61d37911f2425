/-
  Wake sources: how much a call may change (plain), and the statement WakeupCountsGrow over the code. No condition beyond those stated.
-/
import Derived.Test.YtdfjakdgclbleaaWkC
namespace Go.Proofs.Ytdfjakdgclbleaa.Wk
open Go Go.Ev Go.Proofs Go.ChangeShapes Go.WideShapes Go.ChangeAt Go.RowKit

theorem stop_ends (t : Int) (x : Src) : ends t (stop t x) = false := by
  unfold stop
  cases h : ends t x with
  | true => rfl
  | false => simpa using h
theorem countP_stop (t : Int) (l : List Src) : (l.map (stop t)).countP (ends t) = 0 := by
  rw [List.countP_map, List.countP_eq_zero]
  intro x _
  simp [stop_ends]
theorem fires_not (t : Int) (a : Option Int) : fires t (if fires t a then none else a) = false := by
  cases h : fires t a with
  | true => rfl
  | false => simpa using h
theorem countP_set_le {α : Type} (p : α → Bool) (y : α) : ∀ (l : List α) (i : Nat), (l.set i y).countP p ≤ l.countP p + 1
  | [], i => by simp
  | x :: l, 0 => by
    simp only [List.set_cons_zero, List.countP_cons]
    split <;> split <;> omega
  | x :: l, i + 1 => by
    simp only [List.set_cons_succ, List.countP_cons]
    have := countP_set_le p y l i
    omega
theorem countP_pulse1 (s : St) (t : Int) (i : Nat) (h : Int) : ((pulse1 (adv s t) i h).src).countP (ends t) ≤ 1 := by
  have h0 : (adv s t).src.countP (ends t) = 0 := countP_stop t s.src
  unfold pulse1
  split
  · have := countP_set_le (ends t) (some (some h)) (adv s t).src i
    simp only [put]; omega
  · omega
  · rename_i x _
    have := countP_set_le (ends t) (some (some (if h > x then h else x))) (adv s t).src i
    simp only [put]; omega
theorem pulse1_alarm (s : St) (i : Nat) (h : Int) : (pulse1 s i h).alarm = s.alarm := by
  unfold pulse1; split <;> rfl

/-- What a call may change. -/
structure Grows (s s' : St) (r : Int) : Prop where
  len : s'.src.length = s.src.length
  lo : s.events ≤ s'.events
  hi : s'.events ≤ s.events + s.src.length + 2
  same : r ≠ 0 → s' = s

theorem Grows.refl (s : St) (r : Int) : Grows s s r := ⟨rfl, by omega, by omega, fun _ => rfl⟩

theorem activate_grows (s : St) (i t : Int) : Grows s (activate s i t).2 (activate s i t).1 := by
  unfold activate
  split
  · have := adv_events s t
    exact ⟨by simp [put, adv], by simpa [put] using this.1, by simp only [put]; omega, fun h => (h rfl).elim⟩
  · exact Grows.refl _ _
theorem deactivate_grows (s : St) (i t : Int) : Grows s (deactivate s i t).2 (deactivate s i t).1 := by
  unfold deactivate
  split
  · have := adv_events s t
    unfold deact
    split
    · exact ⟨by simp [put, adv], by simp only; omega, by simp only; omega, fun h => (h rfl).elim⟩
    · exact ⟨by simp [adv], by simp only; omega, by simp only; omega, fun h => (h rfl).elim⟩
  · exact Grows.refl _ _
theorem pulse_grows (s : St) (i t h : Int) : Grows s (pulse s i t h).2 (pulse s i t h).1 := by
  unfold pulse
  split
  · have h1 := adv_events s t
    have h2 := countP_pulse1 s t i.toNat (t + h)
    have h3 := pulse1_events (adv s t) i.toNat (t + h)
    have h4 := pulse1_alarm (adv s t) i.toNat (t + h)
    have h5 : fires t (adv s t).alarm = false := fires_not t s.alarm
    have h6 : (adv (pulse1 (adv s t) i.toNat (t + h)) t).events = (adv s t).events + ((pulse1 (adv s t) i.toNat (t + h)).src.countP (ends t) : Nat) := by
      show (pulse1 (adv s t) i.toNat (t + h)).events + _ + _ = _
      rw [h3, h4, h5]; simp
    exact ⟨by rw [adv_length, pulse1_length, adv_length], by simp only; omega, by simp only; omega, fun h => (h rfl).elim⟩
  · exact Grows.refl _ _
theorem setAlarm_grows (s : St) (t a : Int) : Grows s (setAlarm s t a).2 (setAlarm s t a).1 := by
  unfold setAlarm
  split
  · have h1 := adv_events s t
    generalize hr : adv s t = r at h1 ⊢
    have h3 : r.src.countP (ends t) = 0 := by rw [← hr]; exact countP_stop t s.src
    have h4 : r.src.length = s.src.length := by rw [← hr]; exact adv_length s t
    have h2 : (adv { r with alarm := some a } t).events ≤ r.events + 1 ∧ r.events ≤ (adv { r with alarm := some a } t).events := by
      simp only [adv, h3]
      split <;> omega
    exact ⟨by rw [adv_length]; exact h4, by dsimp only; omega, by dsimp only; omega, fun h => (h rfl).elim⟩
  · exact Grows.refl _ _
theorem advance_grows (s : St) (t : Int) : Grows s (advance s t).2 (advance s t).1 := by
  unfold advance
  split
  · have h1 := adv_events s t
    exact ⟨adv_length s t, by simp only; omega, by simp only; omega, fun h => (h rfl).elim⟩
  · exact Grows.refl _ _
theorem arm_grows (s : St) (e t : Int) : Grows s (arm s e t).2 (arm s e t).1 := by
  unfold arm
  split
  · split
    · have h1 := adv_events s t
      exact ⟨adv_length s t, by simp only; omega, by simp only; omega, fun h => (h rfl).elim⟩
    · exact Grows.refl _ _
  · exact Grows.refl _ _
theorem doSt_grows (s : St) (k : Int) (a : Ar) : Grows s (doSt s k a).2 (doSt s k a).1 := by
  unfold doSt
  split
  · exact activate_grows _ _ _
  split
  · exact deactivate_grows _ _ _
  split
  · exact pulse_grows _ _ _ _
  split
  · exact setAlarm_grows _ _ _
  split
  · exact advance_grows _ _
  split
  · exact arm_grows _ _ _
  · exact ⟨rfl, by simp [disarm], by simp [disarm]; omega, fun h => (h rfl).elim⟩

theorem wrap_u64_nonneg (x : Int) : 0 ≤ IntKind.wrap .u64 x := by rw [wrap_u64']; omega
theorem atC_nonneg {c : Cl} (h : c.fine) (n now ev : Int) : 0 ≤ (atC c n now ev).now ∧ 0 ≤ (atC c n now ev).other := by
  unfold atC
  obtain ⟨h1, h2⟩ := h
  split
  · exact ⟨h1, h2⟩
  · refine ⟨wrap_u64_nonneg _, ?_⟩
    dsimp only
    split
    · exact wrap_u64_nonneg _
    · exact Int.tmod_nonneg _ h2

theorem active_le (s : St) : active s ≤ s.src.length := List.countP_le_length

section
variable {U : World} {Q : Value → World → Prop}

theorem countsGrow_k15 {w : World} {b : Nat} {s s' : St} {k i r now : Int} {l : Option Addr} {ln lc : Nat} {next : (Int × Int × Int × Unit) → World → Prop} (h : Prog w b s') (hg : Grows s s' r) (hk : k = s.src.length) (hs : Small s) (hl : s.src.length ≤ 32)
    (hn : ∀ w', Ext w w' (fun _ => False) → next (now, s'.events, IntKind.wrap .i64 (i + 1), ()) w') :
    W.law29_WakeupCountsGrow_k15 l ln lc k (some ⟨b, 0, none⟩) now s.events i r next w Q := by
  subst hk
  unfold W.law29_WakeupCountsGrow_k15
  obtain ⟨hs0, hs1⟩ := hs
  have hlo := hg.lo
  have hhi := hg.hi
  have hlen := hg.len
  have ha := active_le s'
  refine counts_c h fun w1 e1 => ⟨_, _, rfl, ?_⟩
  rw [decide_eq_false (by omega), br_false, wrap_i64 (x := s.events + (s.src.length : Int)) (by omega) (by omega), wrap_i64 (by omega) (by omega), decide_eq_false (by omega), br_false,
    decide_eq_false (by omega), br_false, decide_eq_false (by omega), br_false]
  refine br_of (fun hr => ?_) (fun hr => hn w1 e1)
  have he := hg.same (by simpa using hr)
  rw [he, show (s.events != s.events) = false by simp, br_false]
  rw [he] at hn
  exact hn w1 e1

theorem countsGrow_c {n : Int} {l : Option Addr} {ln lc : Nat} {cs : List Cl} (hcs : cs.length = ln) (hC : Cls U l cs) (hQ : ∀ w', Ext U w' (fun _ => False) → Q (.bool true) w') :
    CallE Try.prog 8 #[.int .i64 n, .slice l ln lc] U Q := by
  apply C.law29_WakeupCountsGrow
  unfold W.law29_WakeupCountsGrow
  have fin : ∀ w, Ext U w (fun _ => False) → CallE Try.prog 10 #[] w fun v w' => fB v fun b => Q (.bool b) w' := by
    intro w e
    refine awake_c fun w' e' => ?_
    rw [fB_bool]
    exact hQ w' (e.tr e')
  refine br_of (fun _ => fin U (Ext.refl _ _)) (fun hlen => ?_)
  simp only [decide_eq_false_iff_not] at hlen
  refine mod_c (by omega) (by omega) ?_
  rw [fI_int]
  have hk := modv_bd (v := n) (n := 5) (by omega)
  generalize modv n 5 = k at hk ⊢
  refine new_c hk.1 (by omega) fun b w1 hb p1 e1 => ⟨_, _, rfl, ?_⟩
  rw [show ((0 : Int) != 0) = false from rfl, br_false]
  refine eq_nil ?_
  rw [fB_bool, Option.isNone_some, br_false]
  refine LoopW.nat ln (fun i x w => ∃ (s : St) (now : Int), x = (now, s.events, (i : Int), ()) ∧ Prog w b s ∧ (s.src.length : Int) = k ∧ 0 ≤ s.events ∧ s.events ≤ i * 40 ∧ Ext U w (fun _ => False))
    ⟨new k.toNat, 0, rfl, p1, by simp [new]; omega, by simp [new], by simp [new], e1⟩ ?_
  rintro i x w next hi ⟨s, now, rfl, hp, hsl, hs0, hs1, he⟩ hnext
  dsimp only
  by_cases hlt : i < ln
  · rw [decide_eq_true (by omega), br_true]
    have hsm : Small s := ⟨hs0, by omega⟩
    obtain ⟨a, rfl, hcells, hkind, hfine⟩ := (hC.ext he (fun _ _ h => h)).some (k := i) (by omega)
    refine ix_sl 6 36 (by omega) (by omega) ?_
    rw [fA_ptr, Int.toNat_natCast]
    refine ld_cs hcells ?_
    rw [fG_agg]
    refine at_c (by omega) fun w2 e2 => ?_
    rw [fG_agg]
    have h0 := atC_nonneg hfine k now s.events
    generalize atC cs[i] k now s.events = ar at h0 ⊢
    refine al_st 4 rfl (cells_one4 _) ?_
    intro c w3 hc a3 e3 z3
    have e03 : Ext U w3 (fun _ => False) := (he.tr e2).tr e3
    have p3 : Prog w3 b s := (hp.ext e2 (fun h => h)).ext e3 (fun h => h)
    show _
    unfold dr
    refine ix_sl 6 36 (by omega) (by omega) ?_
    rw [fA_ptr, Int.toNat_natCast]
    obtain ⟨a', ha', hcells3, hkind3, _⟩ := (hC.ext e03 (fun _ _ h => h)).some (k := i) (by omega)
    cases ha'
    refine ld_c (w := drew w3) hkind3 ?_
    rw [fI_int]
    refine ld_w (w := drew w3) a3 ?_
    rw [fG_agg]
    refine do_c (w := drew w3) p3 hsm h0.1 h0.2 fun w4 p4 e4 => ?_
    rw [fI_int]
    replace e4 : Ext w3 w4 (· = b) := e4.of_drew
    have hbW : U.heap.size ≤ b := by omega
    have e04 : Ext U w4 (fun _ => False) := e03.trans e4 (fun _ _ h => h) (fun b' hb' h => by omega)
    have hg := doSt_grows s (modv cs[i].kind 9) ar
    generalize hd : doSt s (modv cs[i].kind 9) ar = d at hg p4 ⊢
    have hp4b := p4.1.lt
    have hcb : c ≠ b := by have := hp.1.lt; have := e2.size; omega
    have fin2 : ∀ now', W.law29_WakeupCountsGrow_k15 (some a) ln lc k (some ⟨b, 0, none⟩) now' s.events i d.1 next w4 Q := by
      intro now'
      refine countsGrow_k15 p4 hg (by omega) hsm hp.2 fun w5 e5 => ?_
      rw [wrap_i64 (by omega) (by omega)]
      refine hnext hlt _ _ ⟨d.2, now', ?_, p4.ext e5 (fun h => h), by rw [hg.len]; exact hsl, by have := hg.lo; omega, by have := hg.hi; push_cast; omega, e04.tr e5⟩
      simp
    refine br_of (fun _ => ?_) (fun _ => fin2 _)
    refine ix_sl 6 36 (by omega) (by omega) ?_
    rw [fA_ptr, Int.toNat_natCast]
    obtain ⟨a', ha', hcells4, hkind4, _⟩ := (hC.ext e04 (fun _ _ h => h)).some (k := i) (by omega)
    cases ha'
    refine ld_c hkind4 ?_
    rw [fI_int]
    refine mod_c (by omega) (by omega) ?_
    rw [fI_int]
    refine br_of (fun _ => ?_) (fun _ => fin2 _)
    simp only [add_mk, Nat.zero_add]
    refine ld_i (a3.ext e4 hcb) rfl ?_
    rw [fI_int]
    exact fin2 _
  · rw [decide_eq_false (by omega), br_false]
    exact fin w he
end

end Go.Proofs.Ytdfjakdgclbleaa.Wk
