/-
  Wake sources: the statements WakeupPulseEnds and WakeupAlarm over the code. No condition beyond those stated.
-/
import Derived.Test.YtdfjakdgclbleaaWkI
namespace Go.Proofs.Ytdfjakdgclbleaa.Wk
open Go Go.Ev Go.Proofs Go.ChangeShapes Go.WideShapes Go.ChangeAt Go.RowKit

/- All sources inactive, or all but one. -/
def quietSt (k : Nat) (al : Option Int) (e : Int) (ar : Option Int) (c : Int) : St := ⟨List.replicate k none, al, e, ar, c⟩

theorem countP_rep_set {p : Src → Bool} (hp : p none = false) : ∀ (k i : Nat) (y : Src), i < k → ((List.replicate k none).set i y).countP p = if p y then 1 else 0
  | k + 1, 0, y, _ => by
    rw [List.replicate_succ, List.set_cons_zero, List.countP_cons, List.countP_replicate]
    simp [hp]
  | k + 1, i + 1, y, h => by
    rw [List.replicate_succ, List.set_cons_succ, List.countP_cons, countP_rep_set hp k i y (by omega)]
    simp [hp]
theorem countP_rep {p : Src → Bool} (hp : p none = false) (k : Nat) : (List.replicate k none).countP p = 0 := by
  rw [List.countP_replicate]; simp [hp]
theorem map_rep (t : Int) (k : Nat) : (List.replicate k none).map (stop t) = List.replicate k none := by
  rw [List.map_replicate]; rfl
theorem rep_set (k i : Nat) : (List.replicate k (none : Src)).set i none = List.replicate k none := by
  apply List.ext_getElem?
  intro j
  rw [List.getElem?_set]
  split
  · rename_i h; subst h
    split <;> simp_all
  · rfl

theorem adv_quiet {k : Nat} {al ar : Option Int} {e c t : Int} : adv (quietSt k al e ar c) t = quietSt k (if fires t al then none else al) (e + if fires t al then 1 else 0) ar t := by
  simp only [adv, quietSt, map_rep, countP_rep (p := ends t) rfl]
  simp
  exact ⟨rfl, rfl⟩
theorem ok_mk {s : St} {t : Int} (h1 : s.clock ≤ t) (h2 : t ≤ 1152921504606846976) : ok s t = true := by
  simp only [ok, Bool.and_eq_true, decide_eq_true_eq]
  exact ⟨h1, h2⟩
theorem has_mk {s : St} {i : Int} (h0 : 0 ≤ i) (h1 : i < s.src.length) : has s i = true := by
  simp only [has, Bool.and_eq_true, decide_eq_true_eq]
  exact ⟨h0, h1⟩
theorem adv_one {k i : Nat} {ar : Option Int} {e c t v : Int} (hi : i < k) :
    adv ⟨(List.replicate k none).set i (some (some v)), none, e, ar, c⟩ t = if v ≤ t then quietSt k none (e + 1) ar t else ⟨(List.replicate k none).set i (some (some v)), none, e, ar, t⟩ := by
  simp only [adv, countP_rep_set (p := ends t) rfl k i _ hi, List.map_set, map_rep, fires]
  by_cases h : v ≤ t
  · simp [ends, stop, h, rep_set, quietSt]
  · simp [ends, stop, h]
theorem active_quiet {k : Nat} {al ar : Option Int} {e c : Int} : active (quietSt k al e ar c) = 0 := countP_rep (p := Option.isSome) rfl k
theorem active_one {k i : Nat} {al ar : Option Int} {e c v : Int} (hi : i < k) : active ⟨(List.replicate k none).set i (some (some v)), al, e, ar, c⟩ = 1 := by
  simp [active, countP_rep_set (p := Option.isSome) rfl k i _ hi]

theorem rep_of_none {s : St} (h : ∀ i, i < s.src.length → get s i = none) : s.src = List.replicate s.src.length none := by
  apply List.ext_getElem (by simp)
  intro i h1 h2
  have := h i h1
  rw [get_of h1] at this
  rw [this]; simp

theorem deact_get {s : St} {j : Nat} (hj : j < s.src.length) {i : Nat} (hi : i ≤ j) (h : ∀ i, i < j → get s i = none) : get (deact s j) i = none := by
  unfold deact
  split
  · by_cases hij : i = j
    · subst hij; simp [get, put, hj]
    · have := h i (by omega)
      simp only [get, put] at this ⊢
      rw [List.getD_eq_getElem?_getD, List.getElem?_set_ne (by omega), ← List.getD_eq_getElem?_getD]
      exact this
  · rename_i hg
    by_cases hij : i = j
    · subst hij; simpa using hg
    · exact h i (by omega)
theorem adv_get {s : St} {t : Int} {i : Nat} (h : get s i = none) : get (adv s t) i = none := by
  simp only [get, adv, List.getD_eq_getElem?_getD, List.getElem?_map] at h ⊢
  cases hs : s.src[i]? with
  | none => rfl
  | some x => rw [hs] at h; simp at h; subst h; rfl

/-- After the first j sources have been deactivated. -/
structure Down (p s : St) (k : Int) (j : Nat) : Prop where
  len : (p.src.length : Int) = k
  none_ : ∀ i, i < j → get p i = none
  clock : p.clock = s.clock
  al : ∀ a, p.alarm = some a → a ≤ s.clock + 11
  e0 : 0 ≤ p.events
  e1 : p.events ≤ s.events + 40 * j

theorem Down.step {p s : St} {k : Int} {j : Nat} (h : Down p s k j) (hj : (j : Int) < k) (hk : k ≤ 32) (hc : s.clock ≤ 1000000) : (deactivate p j s.clock).1 = 0 ∧ Down (deactivate p j s.clock).2 s k (j + 1) := by
  have hl := h.len
  have hg : (has p j && ok p s.clock) = true := by
    have h1 := h.clock
    rw [has_mk (by omega) (by omega), ok_mk (by omega) (by omega)]
    rfl
  have hgr := deactivate_grows p j s.clock
  unfold deactivate at hgr ⊢
  rw [if_pos hg] at hgr ⊢
  dsimp only at hgr ⊢
  have hd := deact_clock (adv p s.clock) j
  have hla := adv_length p s.clock
  have h1 := hgr.lo
  have h2 := hgr.hi
  have h3 := hgr.len
  have he0 := h.e0
  have he1 := h.e1
  refine ⟨rfl, ⟨by rw [h3]; exact hl, ?_, hd.1, ?_, by omega, by push_cast; omega⟩⟩
  · intro i hi
    exact deact_get (by omega) (by simp; omega) (fun i' hi' => adv_get (h.none_ i' (by simpa using hi')))
  · intro a ha
    simp only [Int.toNat_natCast] at ha
    rw [hd.2] at ha
    exact h.al a (adv_alarm ha).1

section
variable {U : World} {Q : Value → World → Prop}

theorem pulseEnds_k12 {w : World} {B pb rb ob hb : Nat} {p s : St} {src hold : Int} {k : Nat} (hp : Prog w pb p) (hr : Ref w rb ob hb s) (hd : Down p s k k) (hk : 0 < k) (hk2 : k ≤ 32) (hc0 : 0 ≤ s.clock) (hc : s.clock ≤ 1000) (he : s.events ≤ 10000) (hh : 0 ≤ hold)
    (hB : U.heap.size ≤ pb) (e0 : Ext U w (fun _ => False)) (hQ : ∀ w', Ext U w' (fun _ => False) → Q (.bool true) w') :
    W.law29_WakeupPulseEnds_k12 src hold k (some ⟨pb, 0, none⟩) (some ⟨rb, 0, none⟩) w Q := by
  unfold W.law29_WakeupPulseEnds_k12
  have hlen : p.src.length = k := by have := hd.len; omega
  have hpe : p = quietSt k p.alarm p.events p.armed p.clock := by
    have h1 := rep_of_none (s := p) (fun i hi => hd.none_ i (by omega))
    obtain ⟨src, al, e, ar, c⟩ := p
    simp only [quietSt] at *
    rw [h1, hlen]
  have hE0 := hd.e0
  have hE1 := hd.e1
  have hh50 := tmod_bd (m := 50) hh (by omega)
  rw [nn_mk, add_mk, Nat.zero_add]
  refine ld_c (refHead hr).1 ?_
  rw [fI_int, wrap_u64 (x := s.clock + 30) (by omega) (by omega), wrap_u64 (x := 1 + Int.tmod hold 50) (by omega) (by omega), wrap_u64 (x := s.clock + 30 + (1 + Int.tmod hold 50)) (by omega) (by omega),
    wrap_u64 (x := s.clock + 30 + (1 + Int.tmod hold 50) - 1) (by omega) (by omega)]
  generalize ht : s.clock + 30 = t
  generalize hhh : 1 + Int.tmod hold 50 = h
  have hfire : ∃ E, adv p t = quietSt k none E p.armed t ∧ 0 ≤ E ∧ E ≤ 20000 := by
    rw [hpe, adv_quiet]
    cases hal : p.alarm with
    | none => exact ⟨p.events, by simp [fires, quietSt], by omega, by omega⟩
    | some a =>
      have := hd.al a hal
      refine ⟨p.events + 1, ?_, by omega, by omega⟩
      have hf : fires t (some a) = true := by simp [fires]; omega
      simp [hf, quietSt]
  obtain ⟨E, hadv, hE2, hE3⟩ := hfire
  have hok : ok p t = true := ok_mk (by have := hd.clock; omega) (by omega)
  have hU : ∀ {w1 w2 : World}, Ext U w1 (fun _ => False) → Ext w1 w2 (· = pb) → Ext U w2 (fun _ => False) := fun e e' => e.trans e' (fun _ _ h => h) (fun b' hb' h => by omega)
  refine advance'_c hp ⟨by omega, by omega⟩ fun w1 p1 e1 => ?_
  rw [fI_int]
  rw [show advance p t = (0, quietSt k none E p.armed t) by unfold advance; rw [if_pos hok, hadv]] at p1 ⊢
  dsimp only at p1 ⊢
  rw [show ((0 : Int) != 0) = false from rfl, br_false]
  refine counts_c p1 fun w2 e2 => ⟨_, _, rfl, ?_⟩
  have p2 := p1.ext e2 (fun h => h)
  refine mod_c (by omega) (by omega) ?_
  rw [fI_int]
  have hi := modv_bd (v := src) (n := (k : Int)) (by omega)
  generalize modv src k = i at hi ⊢
  have hpulse : pulse (quietSt k none E p.armed t) i t h = (0, ⟨(List.replicate k none).set i.toNat (some (some (t + h))), none, E, p.armed, t⟩) := by
    have hg : (has (quietSt k none E p.armed t) i && ok (quietSt k none E p.armed t) t && decide (h ≤ MAX)) = true := by
      rw [has_mk (by omega) (by simp [quietSt]; omega), ok_mk (by simp [quietSt]) (by omega), decide_eq_true (by rw [MAX_eq]; omega)]
      rfl
    unfold pulse
    rw [if_pos hg, adv_quiet]
    simp only [fires, Bool.false_eq_true, if_false, Int.add_zero]
    have hgn : get (quietSt k none E p.armed t) i.toNat = none := by
      simp only [get, quietSt, List.getD_eq_getElem?_getD, List.getElem?_replicate]
      split <;> rfl
    simp only [pulse1, hgn]
    simp only [put, quietSt]
    rw [adv_one (by omega), if_neg (by omega)]
  refine pulse_c p2 ⟨hE2, by simp only [quietSt]; omega⟩ (by omega) (by omega) fun w3 p3 e3 => ?_
  rw [fI_int]
  rw [hpulse] at p3 ⊢
  dsimp only at p3 ⊢
  refine counts_c p3 fun w4 e4 => ⟨_, _, rfl, ?_⟩
  have p4 := p3.ext e4 (fun h => h)
  have hadv1 : advance ⟨(List.replicate k none).set i.toNat (some (some (t + h))), none, E, p.armed, t⟩ (t + h - 1) = (0, ⟨(List.replicate k none).set i.toNat (some (some (t + h))), none, E, p.armed, t + h - 1⟩) := by
    unfold advance
    rw [if_pos (ok_mk (by dsimp only; omega) (by omega)), adv_one (by omega), if_neg (by omega)]
  refine advance'_c p4 ⟨hE2, by dsimp only; omega⟩ fun w5 p5 e5 => ?_
  rw [fI_int]
  rw [hadv1] at p5 ⊢
  dsimp only at p5 ⊢
  refine counts_c p5 fun w6 e6 => ⟨_, _, rfl, ?_⟩
  have p6 := p5.ext e6 (fun h => h)
  have hadv2 : advance ⟨(List.replicate k none).set i.toNat (some (some (t + h))), none, E, p.armed, t + h - 1⟩ (t + h) = (0, quietSt k none (E + 1) p.armed (t + h)) := by
    unfold advance
    rw [if_pos (ok_mk (by dsimp only; omega) (by omega)), adv_one (by omega), if_pos (by omega)]
  refine advance'_c p6 ⟨hE2, by dsimp only; omega⟩ fun w7 p7 e7 => ?_
  rw [fI_int]
  rw [hadv2] at p7 ⊢
  dsimp only at p7 ⊢
  refine counts_c p7 fun w8 e8 => ⟨_, _, rfl, ?_⟩
  have e08 : Ext U w8 (fun _ => False) := (hU ((hU ((hU ((hU e0 e1).tr e2) e3).tr e4) e5).tr e6) e7).tr e8
  rw [active_one (by omega), active_one (by omega), active_quiet, wrap_i64 (by simp only [quietSt]; omega) (by simp only [quietSt]; omega)]
  simp only [quietSt, beq_self_eq_true, br_true]
  exact awake_fin hQ e08

theorem pulseEnds_c {n src hold : Int} {l : Option Addr} {ln lc : Nat} {cs : List Cl} (hcs : cs.length = ln) (hC : Cls U l cs) (hh : 0 ≤ hold) (hQ : ∀ w', Ext U w' (fun _ => False) → Q (.bool true) w') :
    CallE Try.prog 6 #[.int .i64 n, .slice l ln lc, .int .i64 src, .int .u64 hold] U Q := by
  apply C.law29_WakeupPulseEnds
  unfold W.law29_WakeupPulseEnds
  refine br_of (fun _ => awake_fin hQ (Ext.refl _ _)) (fun hlen => ?_)
  simp only [decide_eq_false_iff_not] at hlen
  refine mod_c (by omega) (by omega) ?_
  rw [fI_int]
  have hk := modv_bd (v := n) (n := 4) (by omega)
  generalize modv n 4 = x at hk ⊢
  rw [wrap_i64 (by omega) (by omega)]
  obtain ⟨k, hkk⟩ : ∃ k : Nat, 1 + x = (k : Int) := ⟨(1 + x).toNat, by omega⟩
  rw [hkk]
  refine start_c hcs hC (by omega) (by omega) (by omega) fun w1 pb rb ob hb s t1 hinv e1 => ⟨_, _, _, rfl, ?_⟩
  simp only [Bool.not_true, br_false]
  have hi0 := hinv.c0; have hi1 := hinv.c1; have hi2 := hinv.e0; have hi3 := hinv.e1
  refine LoopW.nat k (fun j x w => ∃ p, x = ((j : Int), ()) ∧ Prog w pb p ∧ Ref w rb ob hb s ∧ Down p s k j ∧ Ext U w (fun _ => False))
    ⟨s, rfl, t1.p, t1.r, ⟨hinv.len, fun i hi => by omega, rfl, fun a ha => (hinv.al a ha).2, hinv.e0, by omega⟩, e1⟩ ?_
  rintro j y w next hj ⟨p, rfl, hp, hr, hd, he⟩ hnext
  dsimp only
  by_cases hlt : j < k
  case neg =>
    have hje : j = k := by omega
    subst hje
    rw [decide_eq_false (by omega), br_false]
    exact pulseEnds_k12 (B := U.heap.size) hp hr hd (by omega) (by omega) hi0 (by omega) (by omega) hh t1.hp he hQ
  rw [decide_eq_true (by omega), br_true, nn_mk, add_mk, Nat.zero_add]
  refine ld_c (refHead hr).1 ?_
  rw [fI_int]
  obtain ⟨hres, hdn⟩ := hd.step (by omega) (by omega) (by omega)
  refine deactivate_c hp ⟨hd.e0, by have := hd.e1; omega⟩ fun w2 p2 e2 => ?_
  rw [fI_int, hres, show ((0 : Int) != 0) = false from rfl, br_false, wrap_i64 (by omega) (by omega)]
  have hne := t1.ne
  have hpb := t1.hp
  exact hnext hlt _ _ ⟨_, rfl, p2, hr.ext e2 (fun x hx hy => by rcases hx with hx | hx | hx <;> omega), hdn, he.trans e2 (fun _ _ h => h) (fun b' hb' h => by omega)⟩

theorem alarm_k12 {w : World} {pb rb ob hb : Nat} {p s : St} {at_ other : Int} {k : Nat} (hp : Prog w pb p) (hr : Ref w rb ob hb s) (hd : Down p s k k) (hk2 : k ≤ 32) (hc0 : 0 ≤ s.clock) (hc : s.clock ≤ 1000) (he : s.events ≤ 10000) (h1 : 0 ≤ at_) (h2 : 0 ≤ other)
    (hB : U.heap.size ≤ pb) (e0 : Ext U w (fun _ => False)) (hQ : ∀ w', Ext U w' (fun _ => False) → Q (.bool true) w') :
    W.law29_WakeupAlarm_k12 at_ other (some ⟨pb, 0, none⟩) (some ⟨rb, 0, none⟩) w Q := by
  unfold W.law29_WakeupAlarm_k12
  have hlen : p.src.length = k := by have := hd.len; omega
  have hpe : p = quietSt k p.alarm p.events p.armed p.clock := by
    have h1 := rep_of_none (s := p) (fun i hi => hd.none_ i (by omega))
    obtain ⟨src, al, e, ar, c⟩ := p
    simp only [quietSt] at *
    rw [h1, hlen]
  have hE0 := hd.e0
  have hE1 := hd.e1
  have hh40 := tmod_bd (m := 40) h1 (by omega)
  have hh80 := tmod_bd (m := 80) h2 (by omega)
  rw [nn_mk, add_mk, Nat.zero_add]
  refine ld_c (refHead hr).1 ?_
  rw [fI_int, wrap_u64 (x := s.clock + 30) (by omega) (by omega), wrap_u64 (x := s.clock + 30 + 1) (by omega) (by omega), wrap_u64 (x := s.clock + 30 + 1 + Int.tmod other 80) (by omega) (by omega), wrap_u64 (x := 1 + Int.tmod at_ 40) (by omega) (by omega), wrap_u64 (x := s.clock + 30 + (1 + Int.tmod at_ 40)) (by omega) (by omega),
    wrap_u64 (x := s.clock + 30 + (1 + Int.tmod at_ 40) - 1) (by omega) (by omega), wrap_u64 (x := s.clock + 30 + 200) (by omega) (by omega)]
  generalize ht : s.clock + 30 = t
  generalize hdd : 1 + Int.tmod at_ 40 = d
  generalize hoo : Int.tmod other 80 = o at hh80
  have hfire : ∃ E, adv p t = quietSt k none E p.armed t ∧ 0 ≤ E ∧ E ≤ 20000 := by
    rw [hpe, adv_quiet]
    cases hal : p.alarm with
    | none => exact ⟨p.events, by simp [fires, quietSt], by omega, by omega⟩
    | some a =>
      have := hd.al a hal
      refine ⟨p.events + 1, ?_, by omega, by omega⟩
      have hf : fires t (some a) = true := by simp [fires]; omega
      simp [hf, quietSt]
  obtain ⟨E, hadv, hE2, hE3⟩ := hfire
  have hokp : ok p t = true := ok_mk (by have := hd.clock; omega) (by omega)
  have hU : ∀ {w1 w2 : World}, Ext U w1 (fun _ => False) → Ext w1 w2 (· = pb) → Ext U w2 (fun _ => False) := fun e e' => e.trans e' (fun _ _ h => h) (fun b' hb' h => by omega)
  have hadvance : ∀ (al : Option Int) (e c t' : Int), c ≤ t' → t' ≤ 100000 → advance (quietSt k al e p.armed c) t' = (0, quietSt k (if fires t' al then none else al) (e + if fires t' al then 1 else 0) p.armed t') := by
    intro al e c t' hc ht'
    unfold advance
    rw [if_pos (ok_mk (by simp only [quietSt]; omega) (by omega)), adv_quiet]
  have hset : ∀ (al : Option Int) (e c t' a : Int), c ≤ t' → t' ≤ 100000 → fires t' al = false → t' < a → a ≤ 100000 → setAlarm (quietSt k al e p.armed c) t' a = (0, quietSt k (some a) e p.armed t') := by
    intro al e c t' a hc ht' hf ha ha'
    have hf2 : fires t' (some a) = false := by simp [fires]; omega
    unfold setAlarm
    rw [if_pos (by rw [ok_mk (by simp only [quietSt]; omega) (by omega), decide_eq_true (by rw [MAX_eq]; omega)]; rfl), adv_quiet, hf]
    have : ({ quietSt k (if false then none else al) (e + if false then 1 else 0) p.armed t' with alarm := some a } : St) = quietSt k (some a) e p.armed t' := by simp [quietSt]
    rw [this, adv_quiet, hf2]
    simp
  refine advance'_c hp ⟨by omega, by omega⟩ fun w1 p1 e1 => ?_
  rw [fI_int]
  rw [show advance p t = (0, quietSt k none E p.armed t) by unfold advance; rw [if_pos hokp, hadv]] at p1 ⊢
  dsimp only at p1 ⊢
  refine setAlarm_c p1 ⟨hE2, by simp only [quietSt]; omega⟩ fun w2 p2 e2 => ?_
  rw [fI_int]
  rw [hset none E t t (t + 1 + o) (by omega) (by omega) rfl (by omega) (by omega)] at p2 ⊢
  dsimp only at p2 ⊢
  refine setAlarm_c p2 ⟨hE2, by simp only [quietSt]; omega⟩ fun w3 p3 e3 => ?_
  rw [fI_int]
  rw [hset (some (t + 1 + o)) E t t (t + d) (by omega) (by omega) (by simp [fires]; omega) (by omega) (by omega)] at p3 ⊢
  dsimp only at p3 ⊢
  refine counts_c p3 fun w4 e4 => ⟨_, _, rfl, ?_⟩
  have p4 := p3.ext e4 (fun h => h)
  refine advance'_c p4 ⟨hE2, by simp only [quietSt]; omega⟩ fun w5 p5 e5 => ?_
  rw [fI_int]
  rw [hadvance (some (t + d)) E t (t + d - 1) (by omega) (by omega), show fires (t + d - 1) (some (t + d)) = false by simp [fires]; omega] at p5 ⊢
  dsimp only at p5 ⊢
  simp only [Bool.false_eq_true, if_false, Int.add_zero] at p5 ⊢
  refine counts_c p5 fun w6 e6 => ⟨_, _, rfl, ?_⟩
  have p6 := p5.ext e6 (fun h => h)
  refine advance'_c p6 ⟨hE2, by simp only [quietSt]; omega⟩ fun w7 p7 e7 => ?_
  rw [fI_int]
  rw [hadvance (some (t + d)) E (t + d - 1) (t + d) (by omega) (by omega), show fires (t + d) (some (t + d)) = true by simp [fires]] at p7 ⊢
  dsimp only at p7 ⊢
  simp only [if_true] at p7 ⊢
  refine counts_c p7 fun w8 e8 => ⟨_, _, rfl, ?_⟩
  have p8 := p7.ext e8 (fun h => h)
  refine advance'_c p8 ⟨by simp only [quietSt]; omega, by simp only [quietSt]; omega⟩ fun w9 p9 e9 => ?_
  rw [fI_int]
  rw [hadvance none (E + 1) (t + d) (t + 200) (by omega) (by omega)] at p9 ⊢
  dsimp only at p9 ⊢
  simp only [fires, Bool.false_eq_true, if_false, Int.add_zero] at p9 ⊢
  refine counts_c p9 fun w10 e10 => ⟨_, _, rfl, ?_⟩
  have e0a : Ext U w10 (fun _ => False) := (hU ((hU ((hU ((hU (hU (hU e0 e1) e2) e3).tr e4) e5).tr e6) e7).tr e8) e9).tr e10
  rw [wrap_i64 (by simp only [quietSt]; omega) (by simp only [quietSt]; omega)]
  simp only [quietSt, beq_self_eq_true, br_true]
  exact awake_fin hQ e0a

theorem alarm_c {n at_ other : Int} {l : Option Addr} {ln lc : Nat} {cs : List Cl} (hcs : cs.length = ln) (hC : Cls U l cs) (h1 : 0 ≤ at_) (h2 : 0 ≤ other) (hQ : ∀ w', Ext U w' (fun _ => False) → Q (.bool true) w') :
    CallE Try.prog 7 #[.int .i64 n, .slice l ln lc, .int .u64 at_, .int .u64 other] U Q := by
  apply C.law29_WakeupAlarm
  unfold W.law29_WakeupAlarm
  refine br_of (fun _ => awake_fin hQ (Ext.refl _ _)) (fun hlen => ?_)
  simp only [decide_eq_false_iff_not] at hlen
  refine mod_c (by omega) (by omega) ?_
  rw [fI_int]
  have hk := modv_bd (v := n) (n := 4) (by omega)
  generalize modv n 4 = x at hk ⊢
  rw [wrap_i64 (by omega) (by omega)]
  obtain ⟨k, hkk⟩ : ∃ k : Nat, 1 + x = (k : Int) := ⟨(1 + x).toNat, by omega⟩
  rw [hkk]
  refine start_c hcs hC (by omega) (by omega) (by omega) fun w1 pb rb ob hb s t1 hinv e1 => ⟨_, _, _, rfl, ?_⟩
  simp only [Bool.not_true, br_false]
  have hi0 := hinv.c0; have hi1 := hinv.c1; have hi2 := hinv.e0; have hi3 := hinv.e1
  refine LoopW.nat k (fun j x w => ∃ p, x = ((j : Int), ()) ∧ Prog w pb p ∧ Ref w rb ob hb s ∧ Down p s k j ∧ Ext U w (fun _ => False))
    ⟨s, rfl, t1.p, t1.r, ⟨hinv.len, fun i hi => by omega, rfl, fun a ha => (hinv.al a ha).2, hinv.e0, by omega⟩, e1⟩ ?_
  rintro j y w next hj ⟨p, rfl, hp, hr, hd, he⟩ hnext
  dsimp only
  by_cases hlt : j < k
  case neg =>
    have hje : j = k := by omega
    subst hje
    rw [decide_eq_false (by omega), br_false]
    exact alarm_k12 hp hr hd (by omega) hi0 (by omega) (by omega) h1 h2 t1.hp he hQ
  rw [decide_eq_true (by omega), br_true, nn_mk, add_mk, Nat.zero_add]
  refine ld_c (refHead hr).1 ?_
  rw [fI_int]
  obtain ⟨hres, hdn⟩ := hd.step (by omega) (by omega) (by omega)
  refine deactivate_c hp ⟨hd.e0, by have := hd.e1; omega⟩ fun w2 p2 e2 => ?_
  rw [fI_int, hres, show ((0 : Int) != 0) = false from rfl, br_false, wrap_i64 (by omega) (by omega)]
  have hne := t1.ne
  have hpb := t1.hp
  exact hnext hlt _ _ ⟨_, rfl, p2, hr.ext e2 (fun x hx hy => by rcases hx with hx | hx | hx <;> omega), hdn, he.trans e2 (fun _ _ h => h) (fun b' hb' h => by omega)⟩
end
end Go.Proofs.Ytdfjakdgclbleaa.Wk
