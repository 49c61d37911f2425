/-
  The statement HibernateEventAbortsFreezing over the code. No condition beyond those stated.
-/
import Derived.Test.YtpinpccamfhofaaHiP
import Derived.Test.YtpinpccamfhofaaWkX
set_option linter.unusedVariables false
set_option linter.unusedSimpArgs false
set_option maxRecDepth 100000
namespace Go.Proofs.Ytpinpccamfhofaa.Hi
open Go Go.Ev Go.Proofs Go.Proofs.Ytpinpccamfhofaa.Im

def mx (a x : Nat) : Nat := if a < x then x else a
/-- The time at which the last section ends. -/
def lastOf (es : List Nat) : Nat := es.foldl mx 0
theorem lastOf_snoc (es : List Nat) (x : Nat) : lastOf (es ++ [x]) = mx (lastOf es) x := by simp [lastOf]
theorem fold_le : ∀ (es : List Nat) (a t : Nat), es.foldl mx a ≤ t ↔ a ≤ t ∧ ∀ x ∈ es, x ≤ t
  | [], a, t => by simp
  | x :: es, a, t => by
    rw [List.foldl_cons, fold_le es (mx a x) t]
    simp only [List.mem_cons, forall_eq_or_imp]
    unfold mx
    constructor
    · rintro ⟨h1, h2⟩; split at h1 <;> exact ⟨by omega, by omega, h2⟩
    · rintro ⟨h1, h2, h3⟩; exact ⟨by split <;> omega, h3⟩
theorem allE_last {es : List Nat} {t : Nat} : allE es t = true ↔ lastOf es ≤ t := by
  unfold lastOf allE
  rw [fold_le, List.all_eq_true]
  simp only [decide_eq_true_eq, Nat.zero_le, true_and]

/-- The wake sources, armed, and then active. -/
def wk0 : Wk.St := ⟨[none], none, 0, some 0, 0⟩
theorem arm_new : Wk.arm (Wk.new 1) 0 0 = (0, wk0) := rfl
def wk1 (t : Nat) : Wk.St := ⟨[some none], none, 0, some 0, (t : Int)⟩
theorem act_wk0 {t : Nat} (h : t ≤ 1000) : Wk.activate wk0 0 (t : Int) = (0, wk1 t) := by
  unfold Wk.activate
  have hok : Wk.ok wk0 (t : Int) = true := by
    unfold Wk.ok
    rw [decide_eq_true (show wk0.clock ≤ (t : Int) by show (0 : Int) ≤ (t : Int); omega), decide_eq_true (by unfold Wk.MAX; omega)]
    rfl
  rw [hok, if_pos (by rfl)]
  rfl
theorem ma0 : Wk.mustAbort wk0 = false := rfl
theorem ma1 (t : Nat) : Wk.mustAbort (wk1 t) = true := rfl

section
variable {U w w' : World} {Q : Value → World → Prop} {p eb b : Nat} {s : Fz}

theorem none_c {n : Nat} (h : FzAt w p eb s) (hs : s.st = 0) (hn : n ≤ 1000) (hQ : ∀ w', FzAt w' p eb s → Ext w w' (fun _ => False) → Q (.bool true) w') : CallE Try.prog 59 #[.pointer (some ⟨p, 0, none⟩), .int .i64 (n : Int)] w Q := by
  apply C.law35_none
  unfold W.law35_none
  refine LoopW.nat n (fun i x w' => x = ((i : Int), ()) ∧ FzAt w' p eb s ∧ Ext w w' (fun _ => False)) ⟨rfl, h, Ext.refl _ _⟩ ?_
  rintro i x w1 next hi ⟨rfl, h1, e1⟩ hnext
  dsimp only
  by_cases hlt : i < n
  · rw [decide_eq_true (by omega), br_true]
    refine frozen_c (pr := (i : Int)) h1 fun w2 h2 e2 => fb ?_
    have hfr : fro s (i : Int) = false := by
      unfold fro
      rw [hs, decide_eq_false (by omega), decide_eq_false (by omega), Bool.false_and, Bool.or_false, Bool.and_false]
    rw [hfr, br_false, inc_nat (by omega)]
    exact hnext hlt _ _ ⟨rfl, h2, e1.tr e2⟩
  rw [decide_eq_false (by omega), br_false]
  exact hQ w1 h1 e1

theorem abort_k23 {a : Option Addr} {n c t last dl ev : Nat} {e8 h : Int} {bo : Bool} {v : Wk.St} {next : (Int × Unit) → World → Prop} (hf : FzAt w p eb s) (hv : Wk.Prog w b v) (hp : U.heap.size ≤ p ∧ U.heap.size ≤ eb) (h20 : n ≤ 20) (ht : t ≤ 100)
    (hcase : (h = 14 ∧ t = dl ∧ dl < last ∧ t ≤ ev ∧ s.st = 0) ∨ (h = 0 ∧ bo = true ∧ t = last ∧ t ≤ ev) ∨ (h = 0 ∧ bo = false ∧ s.st = 1 ∧ s.clk = t ∧ t < last ∧ t ≤ ev ∧ t < dl ∧ Wk.mustAbort v = decide (t = ev)))
    (e0 : Ext U w (fun _ => False)) (hnext : t < ev → t < last → t < dl → s.st = 1 → s.clk = t → ∀ w', FzAt w' p eb s → Wk.Prog w' b v → Ext U w' (fun _ => False) → next (((t + 1 : Nat) : Int), ()) w')
    (hQ : ∀ w', Ext U w' (fun _ => False) → Q (.bool true) w') : W.law35_HibernateEventAbortsFreezing_k23 a n c (some ⟨p, 0, none⟩) e8 (some ⟨b, 0, none⟩) (last : Int) (dl : Int) (ev : Int) (t : Int) bo h next w Q := by
  unfold W.law35_HibernateEventAbortsFreezing_k23
  rcases hcase with ⟨rfl, h1, h2, h3, h4⟩ | ⟨rfl, rfl, h1, h2⟩ | ⟨rfl, rfl, h1, h2, h3, h4, h5, h6⟩
  · refine br_pos rfl (br_pos (by rw [h1]; simp) (br_pos (decide_eq_true (by omega)) (br_pos (decide_eq_true (by omega)) ?_)))
    refine none_c hf h4 (by omega) fun w1 f1 e1 => fb (br_pos rfl ?_)
    exact awake_fin (e0.tr e1) hQ
  · refine br_neg rfl (br_neg rfl (br_pos rfl (br_pos (by rw [h1]; simp) (br_pos (decide_eq_true (by omega)) ?_))))
    exact awake_fin e0 hQ
  · refine br_neg rfl (br_neg rfl (br_neg rfl ?_))
    refine Wk.mustAbort_c hv fun w1 e1 => fb ?_
    rw [h6]
    have f1 := hf.ext0 e1
    have e01 := e0.tr e1
    by_cases hev : t = ev
    · refine br_pos (decide_eq_true hev) (br_pos (by rw [hev]; simp) (br_pos (decide_eq_true (by omega)) ?_))
      refine thaw_c (now := t) f1 fun w2 f2 e2 => fi ?_
      have hth : thw s t = (⟨0, t, s.dl, s.ends⟩, 0) := by
        unfold thw timely
        rw [decide_eq_true (by omega), decide_eq_true (by omega), if_neg (by simp), if_neg (by omega)]
      rw [hth] at f2 ⊢
      refine br_pos rfl ?_
      have e02 : Ext U w2 (fun _ => False) := e01.trans e2 (fun _ _ h => h) (fun x hx hh => by rcases hh with hh | hh <;> omega)
      refine none_c f2 rfl (by omega) fun w3 f3 e3 => fb (br_pos rfl ?_)
      exact awake_fin (e02.tr e3) hQ
    · refine br_neg (decide_eq_false hev) ?_
      rw [show IntKind.wrap .u64 ((t : Int) + 1) = ((t + 1 : Nat) : Int) by rw [wrap_u64 (by omega) (by omega)]; rfl]
      exact hnext (by omega) h3 h5 h1 h2 w1 f1 (hv.ext e1 (fun h => h)) e01

theorem abort_k20 {a : Option Addr} {n c t dl ev : Nat} {es : List Nat} {v : Wk.St} {next : (Int × Unit) → World → Prop} (hf : FzAt w p eb s) (hv : Wk.Prog w b v) (hp : U.heap.size ≤ p ∧ U.heap.size ≤ eb) (hne : p ≠ b ∧ eb ≠ b) (h20 : n ≤ 20) (hes : es.length = n) (hdl : dl ≤ 40) (htd : t ≤ dl) (hte : t ≤ ev)
    (hI : (t = 0 ∧ s = (frz ⟨0, 0, 0, es⟩ 0 dl).1) ∨ (1 ≤ t ∧ t ≤ lastOf es ∧ s = ⟨1, t - 1, dl, es⟩)) (hma : Wk.mustAbort v = decide (t = ev))
    (e0 : Ext U w (fun _ => False)) (hnext : t < ev → t < lastOf es → t < dl → ∀ w', FzAt w' p eb ⟨1, t, dl, es⟩ → Wk.Prog w' b v → Ext U w' (fun _ => False) → next (((t + 1 : Nat) : Int), ()) w')
    (hQ : ∀ w', Ext U w' (fun _ => False) → Q (.bool true) w') : W.law35_HibernateEventAbortsFreezing_k20 a n c (some ⟨p, 0, none⟩) (frz ⟨0, 0, 0, es⟩ 0 dl).2 (some ⟨b, 0, none⟩) ((lastOf es : Nat) : Int) (dl : Int) (ev : Int) (t : Int) next w Q := by
  unfold W.law35_HibernateEventAbortsFreezing_k20
  have hlen : s.ends.length = n := by
    rcases hI with ⟨_, rfl⟩ | ⟨_, _, rfl⟩
    · rw [frz_ok (by omega) (by omega)]
      split
      · exact hes
      · split <;> exact hes
    · exact hes
  refine advance_c (now := t) hf (by omega) fun w1 f1 e1 => ⟨_, _, rfl, ?_⟩
  have e01 : Ext U w1 (fun _ => False) := e0.trans e1 (fun _ _ h => h) (fun x hx hh => by rcases hh with hh | hh <;> omega)
  have v1 : Wk.Prog w1 b v := hv.ext e1 (by omega)
  have hw := @allE_last es
  -- the new state when freezing goes on
  have go : adv s t = (⟨1, t, dl, es⟩, false, 0) → t < lastOf es → t < dl → ∀ h, h = 0 → W.law35_HibernateEventAbortsFreezing_k23 a n c (some ⟨p, 0, none⟩) (frz ⟨0, 0, 0, es⟩ 0 dl).2 (some ⟨b, 0, none⟩) ((lastOf es : Nat) : Int) (dl : Int) (ev : Int) (t : Int) (adv s t).2.1 h next w1 Q := by
    intro hadv h1 h2 h hh
    rw [hadv] at f1 ⊢
    refine abort_k23 f1 v1 hp h20 (by omega) (.inr (.inr ⟨hh, rfl, rfl, rfl, h1, hte, h2, hma⟩)) e01 (fun g1 g2 g3 _ _ w2 f2 v2 e2 => hnext g1 g2 g3 w2 f2 v2 e2) hQ
  rcases hI with ⟨rfl, hs⟩ | ⟨h1t, hlt, hs⟩
  · rw [frz_ok (by omega) (by omega)] at hs
    refine br_pos rfl ?_
    by_cases ha : allE es 0 = true
    · rw [if_pos ha] at hs
      have hc : (frz ⟨0, 0, 0, es⟩ 0 dl).2 = 0 := by rw [frz_ok (by omega) (by omega), if_pos ha]
      refine br_neg (by rw [hc]; rfl) ?_
      rw [hs, adv_two (by omega) (by omega)] at f1 ⊢
      have := hw.1 ha
      exact abort_k23 f1 v1 hp h20 (by omega) (.inr (.inl ⟨rfl, rfl, by omega, hte⟩)) e01 (fun _ h => by omega) hQ
    rw [if_neg ha] at hs
    have hla : 0 < lastOf es := Nat.lt_of_not_le fun hc => ha (hw.2 hc)
    by_cases hd : dl ≤ 0
    · rw [if_pos hd] at hs
      have hc : (frz ⟨0, 0, 0, es⟩ 0 dl).2 = 14 := by rw [frz_ok (by omega) (by omega), if_neg ha, if_pos hd]
      refine br_pos (by rw [hc]; rfl) ?_
      have hadv : adv s 0 = (⟨0, 0, dl, es⟩, false, 0) := by rw [hs]; rfl
      rw [hadv] at f1 ⊢
      exact abort_k23 f1 v1 hp h20 (by omega) (.inl ⟨hc, by omega, by omega, hte, rfl⟩) e01 (fun _ _ h => by omega) hQ
    · rw [if_neg hd] at hs
      have hc : (frz ⟨0, 0, 0, es⟩ 0 dl).2 = 0 := by rw [frz_ok (by omega) (by omega), if_neg ha, if_neg hd]
      refine br_neg (by rw [hc]; rfl) ?_
      have hadv : adv s 0 = (⟨1, 0, dl, es⟩, false, 0) := by
        rw [hs]
        unfold adv
        have hlim : lim ⟨1, 0, dl, es⟩ 0 = 0 := by unfold lim; rw [if_neg (by show ¬ dl < 0; omega)]
        have hti : timely ⟨1, 0, dl, es⟩ 0 = true := by unfold timely; rfl
        dsimp only
        rw [if_neg (by rw [hti]; simp), if_neg (by simp), hlim]
        unfold allE at ha
        rw [if_neg ha, if_neg hd]
      exact go hadv hla (by omega) _ (by rw [hadv])
  · refine br_neg (by rw [beq_eq_false_iff_ne]; omega) ?_
    have hlim : lim ⟨1, t - 1, dl, es⟩ t = t := by unfold lim; rw [if_neg (by show ¬ dl < t; omega)]
    have hti : timely ⟨1, t - 1, dl, es⟩ t = true := by unfold timely; rw [decide_eq_true (by show t - 1 ≤ t; omega), decide_eq_true (by omega)]; rfl
    have hadv : adv s t = if allE es t then (⟨2, t, dl, es⟩, true, 0) else if dl ≤ t then (⟨0, t, dl, es⟩, false, 14) else (⟨1, t, dl, es⟩, false, 0) := by
      rw [hs]
      unfold adv
      rw [if_neg (by rw [hti]; simp), if_neg (by simp), hlim]
      rfl
    by_cases ha : allE es t = true
    · rw [if_pos ha] at hadv
      rw [hadv] at f1 ⊢
      have := hw.1 ha
      exact abort_k23 f1 v1 hp h20 (by omega) (.inr (.inl ⟨rfl, rfl, by omega, hte⟩)) e01 (fun _ h => by omega) hQ
    rw [if_neg ha] at hadv
    have hla : t < lastOf es := Nat.lt_of_not_le fun hc => ha (hw.2 hc)
    by_cases hd : dl ≤ t
    · rw [if_pos hd] at hadv
      rw [hadv] at f1 ⊢
      exact abort_k23 f1 v1 hp h20 (by omega) (.inl ⟨rfl, by omega, by omega, hte, rfl⟩) e01 (fun _ _ h => by omega) hQ
    · rw [if_neg hd] at hadv
      exact go hadv hla (by omega) _ (by rw [hadv])

theorem abort_k14 {a : Option Addr} {n c dl ev : Nat} {es : List Nat} (hf : FzAt w p eb ⟨0, 0, 0, es⟩) (hv : Wk.Prog w b wk0) (hp : U.heap.size ≤ p ∧ U.heap.size ≤ eb ∧ U.heap.size ≤ b) (hne : p ≠ b ∧ eb ≠ b) (h20 : n ≤ 20) (hes : es.length = n) (hdl : dl ≤ 40)
    (e0 : Ext U w (fun _ => False)) (hQ : ∀ w', Ext U w' (fun _ => False) → Q (.bool true) w') : W.law35_HibernateEventAbortsFreezing_k14 a n c (some ⟨p, 0, none⟩) (some ⟨b, 0, none⟩) ((lastOf es : Nat) : Int) (dl : Int) (ev : Int) w Q := by
  unfold W.law35_HibernateEventAbortsFreezing_k14
  refine freeze_c (now := 0) (dl := dl) hf (by show es.length ≤ _; omega) fun w1 f1 e1 => fi ?_
  have e01 : Ext U w1 (fun _ => False) := e0.trans e1 (fun _ _ h => h) (fun x hx hh => by rcases hh with hh | hh <;> omega)
  have v1 : Wk.Prog w1 b wk0 := hv.ext e1 (by omega)
  refine LoopW.nat (dl + 1) (fun i x w' => x = ((i : Int), ()) ∧ i ≤ ev ∧ i ≤ dl ∧ Wk.Prog w' b wk0 ∧ Ext U w' (fun _ => False) ∧ ∃ s, FzAt w' p eb s ∧ ((i = 0 ∧ s = (frz ⟨0, 0, 0, es⟩ 0 dl).1) ∨ (1 ≤ i ∧ i ≤ lastOf es ∧ s = ⟨1, i - 1, dl, es⟩))) ⟨rfl, by omega, by omega, v1, e01, _, f1, .inl ⟨rfl, rfl⟩⟩ ?_
  rintro i x w2 next hi ⟨rfl, hie, hid, v2, e2, s2, f2, hI⟩ hnext
  dsimp only
  rw [decide_eq_true (by omega), br_true]
  by_cases hev : i = ev
  · refine br_pos (by rw [hev]; simp) ?_
    refine Wk.activate_c (i := 0) (t := (i : Int)) v2 ⟨by show (0 : Int) ≤ 0; omega, by show (0 : Int) ≤ _; omega⟩ fun w3 v3 e3 => fi ?_
    rw [act_wk0 (by omega)] at v3 ⊢
    refine br_neg rfl ?_
    have e03 : Ext U w3 (fun _ => False) := e2.trans e3 (fun _ _ h => h) (fun x hx hh => by omega)
    exact abort_k20 (f2.ext e3 (by omega) (by omega)) v3 ⟨hp.1, hp.2.1⟩ hne h20 hes hdl hid hie hI (by rw [ma1, decide_eq_true hev]) e03 (fun h => by omega) hQ
  · refine br_neg (by rw [beq_eq_false_iff_ne]; omega) ?_
    exact abort_k20 f2 v2 ⟨hp.1, hp.2.1⟩ hne h20 hes hdl hid hie hI (by rw [ma0, decide_eq_false hev]) e2 (fun g1 g2 g3 w3 f3 v3 e3 => hnext (by omega) _ _ ⟨rfl, by omega, by omega, v3, e3, _, f3, .inr ⟨by omega, by omega, rfl⟩⟩) hQ

theorem abortsFreezing_c {a : Option Addr} {n c : Nat} {xs : List Nat} {wait at_ : Nat} (hr : Reads w a (us xs)) (hn : xs.length = n) (hQ : ∀ w', Ext w w' (fun _ => False) → Q (.bool true) w') :
    CallE Try.prog 13 #[.slice a n c, .int .u64 (wait : Int), .int .u64 (at_ : Int)] w Q := by
  apply C.law35_HibernateEventAbortsFreezing
  unfold W.law35_HibernateEventAbortsFreezing
  refine br_of (fun _ => awake_fin (Ext.refl _ _) hQ) fun hle => ?_
  have h20 : n ≤ 20 := by have := of_decide_eq_false hle; omega
  subst hn
  refine newFreezer_c (n := xs.length) (by omega) fun p eb w1 f1 hp heb e1 => ⟨_, _, rfl, ?_⟩
  refine Wk.new_c (n := 1) (by omega) (by omega) fun b w2 hb v2 e2 => ⟨_, _, rfl, ?_⟩
  refine br_neg rfl (br_neg rfl ?_)
  refine eq_nil (fb (br_neg rfl ?_))
  refine eq_nil (fb (br_neg rfl ?_))
  have lp := f1.d.lt
  have le := f1.e.lt
  have hz1 := e1.size
  have hne : p ≠ b ∧ eb ≠ b := ⟨by omega, by omega⟩
  have f2 := f1.ext0 e2
  refine Wk.arm_c (e := 0) (t := 0) v2 ⟨by show (0 : Int) ≤ 0; omega, by show (0 : Int) ≤ _; omega⟩ fun w3 v3 e3 => fi ?_
  rw [show Wk.arm (Wk.new (1 : Int).toNat) 0 0 = (0, wk0) from rfl] at v3 ⊢
  refine br_neg rfl ?_
  have f3 := f2.ext e3 (by omega) (by omega)
  have e03 : Ext w w3 (fun _ => False) := (e1.tr e2).trans e3 (fun _ _ h => h) (fun x hx hh => by omega)
  rw [show Int.tmod (wait : Int) 40 = ((wait % 40 : Nat) : Int) from rfl, show Int.tmod (at_ : Int) 60 = ((at_ % 60 : Nat) : Int) from rfl]
  have hdl : wait % 40 ≤ 40 := by have := Nat.mod_lt wait (show 0 < 40 by omega); omega
  generalize wait % 40 = dl at *
  generalize at_ % 60 = ev at *
  have fz : ∀ i, i ≤ xs.length → ((xs.take i).map (· % 50) ++ List.replicate (xs.length - i) 0).length = xs.length := fun i hi => by rw [List.length_append, List.length_map, List.length_take, List.length_replicate]; omega
  refine LoopW.nat xs.length (fun i x w' => x = (((lastOf ((xs.take i).map (· % 50)) : Nat) : Int), (i : Int), ()) ∧ FzAt w' p eb ⟨0, 0, 0, (xs.take i).map (· % 50) ++ List.replicate (xs.length - i) 0⟩ ∧ Wk.Prog w' b wk0 ∧ Ext w w' (fun _ => False)) ⟨rfl, by simpa [fz0] using f3, v3, e03⟩ ?_
  rintro i x w4 next hi ⟨rfl, f4, v4, e4⟩ hnext
  dsimp only
  by_cases hlt : i < xs.length
  · rw [decide_eq_true (by omega), br_true]
    have hr4 := hr.ext e4 (fun _ _ _ h => h)
    obtain ⟨q, rfl⟩ := hr4.some_ (by rw [us_length]; omega)
    refine ixs i 1 32 hlt ?_
    rw [Nat.mul_one]
    refine rdL hr4 (us_get hlt) (fi ?_)
    rw [show Int.tmod ((xs[i] : Nat) : Int) 50 = ((xs[i] % 50 : Nat) : Int) from rfl]
    have h50 : xs[i] % 50 < 50 := Nat.mod_lt _ (by omega)
    have hent : ent ⟨0, 0, 0, (xs.take i).map (· % 50) ++ List.replicate (xs.length - i) 0⟩ (i : Int) (xs[i] % 50) 0 = (⟨0, 0, 0, (xs.take (i + 1)).map (· % 50) ++ List.replicate (xs.length - (i + 1)) 0⟩, 0) := by
      unfold ent
      have hk : known ⟨0, 0, 0, (xs.take i).map (· % 50) ++ List.replicate (xs.length - i) 0⟩ (i : Int) = true := known_iff.2 ⟨by omega, by show (i : Int) < (((xs.take i).map (· % 50) ++ List.replicate (xs.length - i) 0).length : Int); rw [fz i (by omega)]; omega⟩
      rw [if_neg (by rw [hk]; simp [timely]; omega), if_neg (by simp)]
      obtain ⟨k, hk2⟩ : ∃ k, xs.length - i = k + 1 := ⟨xs.length - i - 1, by omega⟩
      have hml : ((xs.take i).map (· % 50)).length = i := by rw [List.length_map, List.length_take]; omega
      have hgd : ((xs.take i).map (· % 50) ++ List.replicate (xs.length - i) 0).getD i 0 = 0 := by
        rw [List.getD_eq_getElem?_getD, List.getElem?_append_right (by omega), hml, Nat.sub_self, hk2, List.replicate_succ]; rfl
      rw [Int.toNat_natCast]
      dsimp only
      rw [hgd]
      have hif : (if 0 < xs[i] % 50 then xs[i] % 50 else 0) = xs[i] % 50 := by split <;> omega
      rw [hif]
      congr 2
      rw [List.set_append_right _ _ (by omega), hml, Nat.sub_self, hk2, List.replicate_succ, List.set_cons_zero, show xs.length - (i + 1) = k by omega, show xs.take (i + 1) = xs.take i ++ [xs[i]] from (List.take_append_getElem hlt).symm, List.map_append, List.append_assoc]
      rfl
    refine enter_c (pr := (i : Int)) (un := xs[i] % 50) (now := 0) f4 fun w5 f5 e5 => fi ?_
    rw [hent] at f5 ⊢
    dsimp only at f5 ⊢
    refine br_neg rfl ?_
    have e05 : Ext w w5 (fun _ => False) := e4.trans e5 (fun _ _ h => h) (fun x hx hh => by rcases hh with hh | hh <;> omega)
    refine ixs i 1 32 hlt ?_
    rw [Nat.mul_one]
    refine rdL (hr.ext e05 (fun _ _ _ h => h)) (us_get hlt) (fi ?_)
    rw [show Int.tmod ((xs[i] : Nat) : Int) 50 = ((xs[i] % 50 : Nat) : Int) from rfl, inc_nat (by omega)]
    refine hnext hlt _ _ ⟨?_, f5, v4.ext e5 (by omega), e05⟩
    rw [show xs.take (i + 1) = xs.take i ++ [xs[i]] from (List.take_append_getElem hlt).symm, List.map_append]
    simp only [List.map_cons, List.map_nil]
    rw [lastOf_snoc]
    unfold mx
    congr 1
    split <;> split <;> omega
  rw [decide_eq_false (by omega), br_false]
  rw [List.take_of_length_le (by omega)] at f4 ⊢
  rw [show xs.length - i = 0 by omega, List.replicate_zero, List.append_nil] at f4
  exact abort_k14 f4 v4 ⟨hp, heb, by omega⟩ hne h20 (by rw [List.length_map]) hdl e4 hQ
end
end Go.Proofs.Ytpinpccamfhofaa.Hi
