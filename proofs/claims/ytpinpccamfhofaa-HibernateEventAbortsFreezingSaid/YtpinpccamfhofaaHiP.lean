/-
  The statement HibernateFreezesAllOrNone over the code. No condition beyond those stated.
-/
import Derived.Test.YtpinpccamfhofaaHiO
set_option linter.unusedVariables false
set_option linter.unusedSimpArgs false
set_option maxRecDepth 100000
namespace Go.Proofs.Ytpinpccamfhofaa.Hi
open Go Go.Ev Go.Proofs Go.Proofs.Ytpinpccamfhofaa.Im

def allE (es : List Nat) (t : Nat) : Bool := es.all fun e => decide (e ≤ t)
/-- What the end of a freezing is: all or none. -/
structure Fin (s : Fz) (al : Bool) (n : Nat) : Prop where
  n : s.ends.length = n
  c : s.clk ≤ 100
  a : al = true → s.st = 2
  b : al = false → s.st = 0
theorem frz_ok {es : List Nat} {now dl : Nat} (h1 : now ≤ dl) (h2 : dl ≤ 1000) : frz ⟨0, 0, 0, es⟩ now dl =
    if allE es now then (⟨2, now, dl, es⟩, 0) else if dl ≤ now then (⟨0, now, dl, es⟩, 14) else (⟨1, now, dl, es⟩, 0) := by
  unfold frz
  have ht : timely ⟨0, 0, 0, es⟩ now = true := by unfold timely; rw [decide_eq_true (by show 0 ≤ now; omega), decide_eq_true (by omega)]; rfl
  have ht2 : timely ⟨1, 0, dl, es⟩ now = true := by unfold timely; rw [decide_eq_true (by show 0 ≤ now; omega), decide_eq_true (by omega)]; rfl
  rw [if_neg (by rw [ht]; simp; omega), if_neg (by simp)]
  have hlim : lim ⟨1, 0, dl, es⟩ now = now := by unfold lim; rw [if_neg (by show ¬ dl < now; omega)]
  unfold adv
  rw [if_neg (by rw [ht2]; simp), if_neg (by simp), hlim]
  unfold allE
  split
  · rfl
  · split <;> rfl
theorem adv_two {now dl t : Nat} {es : List Nat} (h : now ≤ t) (h2 : t ≤ 1000) : adv ⟨2, now, dl, es⟩ t = (⟨2, t, dl, es⟩, true, 0) := by
  unfold adv
  have ht : timely ⟨2, now, dl, es⟩ t = true := by unfold timely; rw [decide_eq_true h, decide_eq_true (by omega)]; rfl
  rw [if_neg (by rw [ht]; simp), if_pos (by simp)]
  rfl
theorem adv_one {now dl t : Nat} {es : List Nat} (h : now ≤ t) (h2 : t ≤ 1000) (h3 : dl ≤ t) : adv ⟨1, now, dl, es⟩ t = if allE es dl then (⟨2, t, dl, es⟩, true, 0) else (⟨0, t, dl, es⟩, false, 14) := by
  unfold adv
  have ht : timely ⟨1, now, dl, es⟩ t = true := by unfold timely; rw [decide_eq_true h, decide_eq_true (by omega)]; rfl
  have hlim : lim ⟨1, now, dl, es⟩ t = dl := by
    unfold lim
    by_cases hh : dl < t
    · rw [if_pos hh]
    · rw [if_neg hh]; show t = dl; omega
  rw [if_neg (by rw [ht]; simp), if_neg (by simp), hlim]
  unfold allE
  split
  · rfl
  · first | rfl | (rw [if_pos (by show dl ≤ t; omega)])
theorem allE_mono {es : List Nat} {a b : Nat} (h : a ≤ b) (hh : allE es a = true) : allE es b = true := by
  unfold allE at *
  rw [List.all_eq_true] at *
  intro x hx
  have := of_decide_eq_true (hh x hx)
  exact decide_eq_true (by omega)

section
variable {U w w' : World} {Q : Value → World → Prop} {p eb : Nat} {s : Fz}

theorem allOrNone_k21 {a : Option Addr} {n c : Nat} {al : Bool} (h : FzAt w p eb s) (hf : Fin s al n) (hn : n ≤ 20) (hp : U.heap.size ≤ p) (heb : U.heap.size ≤ eb) (e0 : Ext U w (fun _ => False)) (hQ : ∀ w', Ext U w' (fun _ => False) → Q (.bool true) w') :
    W.law35_HibernateFreezesAllOrNone_k21 a n c (some ⟨p, 0, none⟩) al w Q := by
  unfold W.law35_HibernateFreezesAllOrNone_k21
  refine LoopW.nat n (fun i x w' => x = ((i : Int), ()) ∧ FzAt w' p eb s ∧ Ext U w' (fun _ => False)) ⟨rfl, h, e0⟩ ?_
  rintro i x w1 next hi ⟨rfl, h1, e1⟩ hnext
  dsimp only
  have hstate : (al = true ∧ s.st = 2) ∨ (al = false ∧ s.st = 0) := by
    cases hal : al with
    | true => exact .inl ⟨rfl, hf.a hal⟩
    | false => exact .inr ⟨rfl, hf.b hal⟩
  by_cases hlt : i < n
  · rw [decide_eq_true (by omega), br_true]
    have hlen := hf.n
    refine frozen_c (pr := (i : Int)) h1 fun w2 h2 e2 => fb ?_
    have hk : known s (i : Int) = true := known_iff.2 ⟨by omega, by omega⟩
    have hfr : fro s (i : Int) = al := by
      unfold fro
      rw [hk, Bool.true_and]
      rcases hstate with ⟨h1, h2⟩ | ⟨h1, h2⟩
      · rw [h1, h2]; rfl
      · rw [h1, h2]; rfl
    rw [hfr]
    refine br_neg (by cases al <;> rfl) ?_
    rw [inc_nat (by omega)]
    exact hnext hlt _ _ ⟨rfl, h2, e1.tr e2⟩
  rw [decide_eq_false (by omega), br_false]
  unfold W.law35_HibernateFreezesAllOrNone_k26
  refine thaw_c (now := 100) h1 fun w2 h2 e2 => fi ?_
  have hc := hf.c
  have ht : timely s 100 = true := by unfold timely; rw [decide_eq_true hc]; rfl
  have hcode : ((thw s 100).2 == 0) = al := by
    unfold thw
    rw [if_neg (by rw [ht]; simp)]
    rcases hstate with ⟨h1, h2⟩ | ⟨h1, h2⟩
    · rw [h1, h2, if_neg (by omega)]; rfl
    · rw [h1, h2, if_pos rfl]; rfl
  rw [hcode]
  refine br_pos (by simp) ?_
  exact awake_fin (e1.trans e2 (fun _ _ h => h) (fun b hb h => by rcases h with h | h <;> omega)) hQ

theorem allOrNone_k19 {a : Option Addr} {n c : Nat} {al ok : Bool} {g : Int} (h : FzAt w p eb s) (hf : Fin s al n) (hn : n ≤ 20) (hok : ok = al) (hg1 : al = true → g = 0) (hg2 : al = false → g = 14) (hp : U.heap.size ≤ p) (heb : U.heap.size ≤ eb) (e0 : Ext U w (fun _ => False)) (hQ : ∀ w', Ext U w' (fun _ => False) → Q (.bool true) w') :
    W.law35_HibernateFreezesAllOrNone_k19 a n c (some ⟨p, 0, none⟩) al g ok w Q := by
  unfold W.law35_HibernateFreezesAllOrNone_k19
  subst hok
  have hk := allOrNone_k21 (a := a) (c := c) h hf hn hp heb e0 hQ
  cases ok with
  | true =>
    rw [hg1 rfl]
    exact br_neg rfl (br_neg rfl (br_neg rfl hk))
  | false =>
    rw [hg2 rfl]
    exact br_neg rfl (br_neg rfl (br_pos rfl (br_neg rfl hk)))

theorem allOrNone_c {a : Option Addr} {n c : Nat} {xs : List Nat} {start wait : Nat} (hr : Reads w a (us xs)) (hn : xs.length = n) (hQ : ∀ w', Ext w w' (fun _ => False) → Q (.bool true) w') :
    CallE Try.prog 7 #[.slice a n c, .int .u64 (start : Int), .int .u64 (wait : Int)] w Q := by
  apply C.law35_HibernateFreezesAllOrNone
  unfold W.law35_HibernateFreezesAllOrNone
  refine br_of (fun _ => awake_fin (Ext.refl _ _) hQ) fun hle => ?_
  have h20 : n ≤ 20 := by have := of_decide_eq_false hle; omega
  subst hn
  refine newFreezer_c (n := xs.length) (by omega) fun p eb w1 f1 hp heb e1 => ⟨_, _, rfl, ?_⟩
  refine br_neg rfl ?_
  refine eq_nil (fb ?_)
  refine br_neg rfl ?_
  have t1 : Int.tmod (start : Int) 30 = ((start % 30 : Nat) : Int) := rfl
  have t2 : Int.tmod (wait : Int) 30 = ((wait % 30 : Nat) : Int) := rfl
  rw [t1, t2, show IntKind.wrap .u64 (((start % 30 : Nat) : Int) + ((wait % 30 : Nat) : Int)) = ((start % 30 + wait % 30 : Nat) : Int) by rw [wrap_u64 (by omega) (by omega)]; rfl]
  have hnow : start % 30 < 30 := Nat.mod_lt _ (by omega)
  have hdl : start % 30 + wait % 30 < 60 := by have : wait % 30 < 30 := Nat.mod_lt _ (by omega); omega
  have hle1 : start % 30 ≤ start % 30 + wait % 30 := by omega
  generalize start % 30 = now at *
  generalize now + wait % 30 = dl at *
  have fz : ∀ i, i ≤ xs.length → ((xs.take i).map (· % 60) ++ List.replicate (xs.length - i) 0).length = xs.length := fun i hi => by rw [List.length_append, List.length_map, List.length_take, List.length_replicate]; omega
  have hU : ∀ {wa wb : World}, Ext w wa (fun _ => False) → Ext wa wb (fun b => b = p ∨ b = eb) → Ext w wb (fun _ => False) := fun e0 e => e0.trans e (fun _ _ h => h) (fun b hb h => by rcases h with h | h <;> omega)
  refine LoopW.nat xs.length (fun i x w' => x = (allE ((xs.take i).map (· % 60)) dl, (i : Int), ()) ∧ FzAt w' p eb ⟨0, 0, 0, (xs.take i).map (· % 60) ++ List.replicate (xs.length - i) 0⟩ ∧ Ext w w' (fun _ => False)) ⟨rfl, by simpa [fz0] using f1, e1⟩ ?_
  rintro i x w2 next hi ⟨rfl, f2, e2⟩ hnext
  dsimp only
  by_cases hlt : i < xs.length
  · rw [decide_eq_true (by omega), br_true]
    have hr2 := hr.ext e2 (fun _ _ _ h => h)
    obtain ⟨q, rfl⟩ := hr2.some_ (by rw [us_length]; omega)
    refine ixs i 1 32 hlt ?_
    rw [Nat.mul_one]
    refine rdL hr2 (us_get hlt) (fi ?_)
    rw [show Int.tmod ((xs[i] : Nat) : Int) 60 = ((xs[i] % 60 : Nat) : Int) from rfl]
    have h60 : xs[i] % 60 < 60 := Nat.mod_lt _ (by omega)
    have hent : ent ⟨0, 0, 0, (xs.take i).map (· % 60) ++ List.replicate (xs.length - i) 0⟩ (i : Int) (xs[i] % 60) 0 = (⟨0, 0, 0, (xs.take (i + 1)).map (· % 60) ++ List.replicate (xs.length - (i + 1)) 0⟩, 0) := by
      unfold ent
      have hk : known ⟨0, 0, 0, (xs.take i).map (· % 60) ++ List.replicate (xs.length - i) 0⟩ (i : Int) = true := known_iff.2 ⟨by omega, by show (i : Int) < (((xs.take i).map (· % 60) ++ List.replicate (xs.length - i) 0).length : Int); rw [fz i (by omega)]; omega⟩
      rw [if_neg (by rw [hk]; simp [timely]; omega), if_neg (by simp)]
      obtain ⟨k, hk2⟩ : ∃ k, xs.length - i = k + 1 := ⟨xs.length - i - 1, by omega⟩
      have hml : ((xs.take i).map (· % 60)).length = i := by rw [List.length_map, List.length_take]; omega
      have hgd : ((xs.take i).map (· % 60) ++ List.replicate (xs.length - i) 0).getD i 0 = 0 := by
        rw [List.getD_eq_getElem?_getD, List.getElem?_append_right (by omega), hml, Nat.sub_self, hk2, List.replicate_succ]; rfl
      rw [Int.toNat_natCast]
      dsimp only
      rw [hgd]
      have hif : (if 0 < xs[i] % 60 then xs[i] % 60 else 0) = xs[i] % 60 := by split <;> omega
      rw [hif]
      congr 2
      rw [List.set_append_right _ _ (by omega), hml, Nat.sub_self, hk2, List.replicate_succ, List.set_cons_zero, show xs.length - (i + 1) = k by omega, show xs.take (i + 1) = xs.take i ++ [xs[i]] from (List.take_append_getElem hlt).symm, List.map_append, List.append_assoc]
      rfl
    refine enter_c (pr := (i : Int)) (un := xs[i] % 60) (now := 0) f2 fun w3 f3 e3 => fi ?_
    rw [hent] at f3 ⊢
    dsimp only at f3 ⊢
    refine br_neg rfl ?_
    have e03 := hU e2 e3
    have htk : allE ((xs.take (i + 1)).map (· % 60)) dl = (allE ((xs.take i).map (· % 60)) dl && decide (xs[i] % 60 ≤ dl)) := by
      rw [show xs.take (i + 1) = xs.take i ++ [xs[i]] from (List.take_append_getElem hlt).symm, List.map_append]
      unfold allE
      rw [List.all_append]
      simp only [List.map_cons, List.map_nil, List.all_cons, List.all_nil, Bool.and_true]
    refine br_of (fun hb => ?_) fun hb => ?_
    · refine ixs i 1 32 hlt ?_
      rw [Nat.mul_one]
      refine rdL (hr.ext e03 (fun _ _ _ h => h)) (us_get hlt) (fi ?_)
      rw [show Int.tmod ((xs[i] : Nat) : Int) 60 = ((xs[i] % 60 : Nat) : Int) from rfl, inc_nat (by omega)]
      have hdc : decide (((xs[i] % 60 : Nat) : Int) ≤ ((dl : Nat) : Int)) = decide (xs[i] % 60 ≤ dl) := by
        by_cases hh : xs[i] % 60 ≤ dl
        · rw [decide_eq_true hh, decide_eq_true (by omega)]
        · rw [decide_eq_false hh, decide_eq_false (by omega)]
      refine hnext hlt _ _ ⟨?_, f3, e03⟩
      rw [htk, hb, Bool.true_and, hdc]
    · rw [inc_nat (by omega)]
      refine hnext hlt _ _ ⟨?_, f3, e03⟩
      rw [htk, hb, Bool.false_and]
  rw [decide_eq_false (by omega), br_false]
  rw [List.take_of_length_le (by omega)] at f2 ⊢
  rw [show xs.length - i = 0 by omega, List.replicate_zero, List.append_nil] at f2
  have hel : (xs.map (· % 60)).length = xs.length := List.length_map ..
  generalize xs.map (· % 60) = es at *
  unfold W.law35_HibernateFreezesAllOrNone_k15
  refine freeze_c (now := now) (dl := dl) f2 (by show es.length ≤ _; omega) fun w3 f3 e3 => fi ?_
  rw [frz_ok hle1 (by omega)] at f3 ⊢
  have e03 := hU e2 e3
  by_cases h1 : allE es now = true
  · rw [if_pos h1] at f3 ⊢
    dsimp only at f3 ⊢
    refine br_pos rfl ?_
    refine advance_c (now := 100) f3 (by show es.length ≤ _; omega) fun w4 f4 e4 => ⟨_, _, rfl, ?_⟩
    rw [adv_two (by omega) (by omega)] at f4 ⊢
    have hal := allE_mono hle1 h1
    rw [hal]
    exact allOrNone_k19 f4 ⟨hel, by show 100 ≤ 100; omega, fun _ => rfl, fun h => by cases h⟩ h20 rfl (fun _ => rfl) (fun h => by cases h) hp heb (hU e03 e4) hQ
  rw [if_neg h1] at f3 ⊢
  by_cases h2 : dl ≤ now
  · rw [if_pos h2] at f3 ⊢
    dsimp only at f3 ⊢
    refine br_neg rfl ?_
    have hal : allE es dl = false := by rw [show dl = now by omega]; exact Bool.eq_false_iff.2 h1
    rw [hal]
    exact allOrNone_k19 f3 ⟨hel, by show now ≤ 100; omega, (fun h => by cases h), fun _ => rfl⟩ h20 rfl (fun h => by cases h) (fun _ => rfl) hp heb e03 hQ
  rw [if_neg h2] at f3 ⊢
  dsimp only at f3 ⊢
  refine br_pos rfl ?_
  refine advance_c (now := 100) f3 (by show es.length ≤ _; omega) fun w4 f4 e4 => ⟨_, _, rfl, ?_⟩
  rw [adv_one (by omega) (by omega) (by omega)] at f4 ⊢
  have e04 := hU e03 e4
  by_cases h3 : allE es dl = true
  · rw [if_pos h3] at f4 ⊢
    rw [h3]
    exact allOrNone_k19 f4 ⟨hel, by show 100 ≤ 100; omega, fun _ => rfl, fun h => by cases h⟩ h20 rfl (fun _ => rfl) (fun h => by cases h) hp heb e04 hQ
  · rw [if_neg h3] at f4 ⊢
    rw [Bool.eq_false_iff.2 h3]
    exact allOrNone_k19 f4 ⟨hel, by show 100 ≤ 100; omega, (fun h => by cases h), fun _ => rfl⟩ h20 rfl (fun h => by cases h) (fun _ => rfl) hp heb e04 hQ
end
end Go.Proofs.Ytpinpccamfhofaa.Hi
