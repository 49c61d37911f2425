/-
  Wake sources: sources do not influence each other (plain); the statement WakeupSourcesAdd over the code. No condition beyond those stated.
-/
import Derived.Test.YtdfjakdgclbleaaWkB
namespace Go.Proofs.Ytdfjakdgclbleaa.Wk
open Go Go.Ev Go.Proofs Go.ChangeShapes Go.WideShapes Go.ChangeAt Go.RowKit

/- One source by itself. -/
def srcAfter (k t h : Int) (x : Src) : Src :=
  if k = 0 ∨ k = 1 then some none
  else if k = 2 then none
  else if k = 3 ∨ k = 4 then stop t (match x with | none => some (some (t + h)) | some none => some none | some (some v) => some (some (if t + h > v then t + h else v)))
  else x
def incAfter (k t h : Int) (x : Src) : Int :=
  if k = 0 ∨ k = 1 then 0
  else if k = 2 then (if x.isSome then 1 else 0)
  else if k = 3 ∨ k = 4 then (if ends t (match x with | none => some (some (t + h)) | some none => some none | some (some v) => some (some (if t + h > v then t + h else v))) then 1 else 0)
  else 0

theorem stop_stop (t : Int) (x : Src) : stop t (stop t x) = stop t x := by
  have h := stop_ends t x
  generalize stop t x = y at h
  unfold stop
  rw [h]; rfl
theorem map_stop_stop (t : Int) (l : List Src) : (l.map (stop t)).map (stop t) = l.map (stop t) := by
  rw [List.map_map]
  congr 1
  funext x
  exact stop_stop t x

theorem adv_idem {s : St} {t : Int} (h : s.alarm = none) : adv (adv s t) t = adv s t := by
  have h1 : (adv s t).alarm = none := by simp [adv, h, fires]
  have h2 : (adv s t).src.map (stop t) = (adv s t).src := map_stop_stop t s.src
  have h3 : (adv s t).src.countP (ends t) = 0 := countP_stop t s.src
  have hc : (adv s t).clock = t := rfl
  generalize adv s t = r at *
  obtain ⟨a, b, c, d, e⟩ := r
  simp only at h1 h2 h3 hc
  subst h1 hc
  simp only [adv, fires, h2, h3]
  simp

/-- After its first step a call touches its own source alone. -/
def upd (s : St) (i : Nat) (k t h : Int) : St := { s with src := s.src.set i (srcAfter k t h (get s i)), events := s.events + incAfter k t h (get s i) }

theorem countP_put {p : Src → Bool} (l : List Src) (h0 : l.countP p = 0) (i : Nat) (hi : i < l.length) (y : Src) : (l.set i y).countP p = if p y then 1 else 0 := by
  induction l generalizing i with
  | nil => simp at hi
  | cons x l ih =>
    rw [List.countP_cons] at h0
    cases i with
    | zero => rw [List.set_cons_zero, List.countP_cons]; omega
    | succ i =>
      rw [List.set_cons_succ, List.countP_cons, ih (by omega) i (by simpa using hi)]
      omega

theorem adv_put {s : St} {t : Int} {i : Nat} {y : Src} (hi : i < s.src.length) (h : s.alarm = none) :
    adv (put (adv s t) i y) t = { adv s t with src := (adv s t).src.set i (stop t y), events := (adv s t).events + if ends t y then 1 else 0 } := by
  have h1 : (adv s t).alarm = none := by simp [adv, h, fires]
  have h2 : (adv s t).src.map (stop t) = (adv s t).src := map_stop_stop t s.src
  have h3 : (adv s t).src.countP (ends t) = 0 := countP_stop t s.src
  have hl := adv_length s t
  have hc : (adv s t).clock = t := rfl
  generalize adv s t = r at *
  obtain ⟨a, b, c, d, e⟩ := r
  simp only at h1 h2 h3 hl hc
  subst h1 hc
  simp only [adv, put, fires, List.map_set, h2, countP_put a h3 i (by omega)]
  simp only [Bool.false_eq_true, if_false, Int.add_zero, St.mk.injEq, true_and, and_true]
  split <;> rfl

theorem pulse1_put {s : St} {i : Nat} {v : Int} (hi : i < s.src.length) : pulse1 s i v = put s i (match get s i with | none => some (some v) | some none => some none | some (some x) => some (some (if v > x then v else x))) := by
  unfold pulse1
  cases hg : get s i with
  | none => rfl
  | some y =>
    cases y with
    | none =>
      show s = put s i (some none)
      unfold put
      rw [← hg, get_of hi, List.set_getElem_self]
    | some x => rfl

theorem upd_adv {s : St} {i t h k : Int} (ha : s.alarm = none) (hi0 : 0 ≤ i) (hi : i < s.src.length) (ht : s.clock ≤ t) (ht2 : t ≤ 1000000) (hh : h ≤ 1000000) (hk0 : 0 ≤ k) (hk : k < 5) {e : Int} :
    doSt s k ⟨i, t, h, e⟩ = (0, upd (adv s t) i.toNat k t h) := by
  have hg : (has s i && ok s t) = true := by rw [has_mk hi0 hi, ok_mk ht (by omega)]; rfl
  have hl := adv_length s t
  have hgi : ∀ x, put (adv s t) i.toNat x = { adv s t with src := (adv s t).src.set i.toNat x } := fun _ => rfl
  unfold doSt upd srcAfter incAfter
  dsimp only
  by_cases h01 : k = 0 ∨ k = 1
  · rw [if_pos h01, if_pos h01, if_pos h01]
    unfold activate
    rw [if_pos hg, hgi]
    simp
  rw [if_neg h01, if_neg h01, if_neg h01]
  by_cases h2 : k = 2
  · rw [if_pos h2, if_pos h2, if_pos h2]
    unfold deactivate
    rw [if_pos hg]
    unfold deact
    cases hs : (get (adv s t) i.toNat).isSome with
    | true => rfl
    | false =>
      have hn : get (adv s t) i.toNat = none := by simpa using hs
      have h4 : (adv s t).src.set i.toNat none = (adv s t).src := by rw [← hn, get_of (by omega), List.set_getElem_self]
      simp only [Bool.false_eq_true, if_false, Int.add_zero]
      rw [h4]
  rw [if_neg h2, if_neg h2, if_neg h2]
  have h34 : k = 3 ∨ k = 4 := by omega
  rw [if_pos h34, if_pos h34, if_pos h34]
  unfold pulse
  rw [if_pos (by rw [hg, decide_eq_true (by rw [MAX_eq]; omega)]; rfl), pulse1_put (by omega), adv_put (by omega) ha]

/-- The sum of a list of states' events, and of their active sources. -/
def sumE (l : List St) : Int := (l.map (·.events)).sum
def sumA (l : List St) : Int := (l.map fun s => ((active s : Nat) : Int)).sum

/-- One object of k sources, and k objects of one. -/
structure Parts (a : St) (bs : List St) : Prop where
  len : bs.length = a.src.length
  al : a.alarm = none
  one : ∀ j (h : j < bs.length), bs[j].src = [a.src[j]'(by omega)] ∧ bs[j].alarm = none ∧ bs[j].clock = a.clock
  ev : a.events = sumE bs

theorem sum_append_one (f : St → Int) (l : List St) (x : St) : ((l ++ [x]).map f).sum = (l.map f).sum + f x := by simp

theorem parts_active {a : St} {bs : List St} (h : Parts a bs) : ((active a : Nat) : Int) = sumA bs := by
  have key : ∀ (l : List Src) (bs : List St), bs.length = l.length → (∀ j (h : j < bs.length) (h' : j < l.length), bs[j].src = [l[j]]) → ((l.countP Option.isSome : Nat) : Int) = sumA bs := by
    intro l
    induction l with
    | nil => intro bs hl _; cases bs <;> simp_all [sumA]
    | cons x l ih =>
      intro bs hl hj
      cases bs with
      | nil => simp at hl
      | cons b bs =>
        have h0 := hj 0 (by simp) (by simp)
        have := ih bs (by simpa using hl) (fun j h h' => by have := hj (j + 1) (by simp; omega) (by simp; omega); simpa using this)
        simp only [List.getElem_cons_zero] at h0
        simp only [sumA, List.map_cons, List.sum_cons] at this ⊢
        rw [← this, List.countP_cons]
        simp only [active, h0, List.countP_cons, List.countP_nil]
        push_cast
        omega
  exact key a.src bs h.len (fun j h1 h2 => (h.one j h1).1)

/-- One step: all of one, then the i-th again. -/
def stepOne (k t h : Int) (i j : Nat) (b : St) : St := if k < 5 ∧ j = i then upd (adv b t) 0 k t h else adv b t
def stepAll (a : St) (k t h : Int) (i : Nat) : St := if k < 5 then upd (adv a t) i k t h else adv a t

theorem sum_step (t : Int) (i : Nat) (c : Int) : ∀ (l : List Src) (bs bs' : List St) (off : Nat), bs.length = l.length → bs'.length = l.length →
    (∀ j (h : j < l.length) (h1 : j < bs.length) (h2 : j < bs'.length), bs'[j].events = bs[j].events + (if ends t l[j] then 1 else 0) + (if off + j = i then c else 0)) →
    sumE bs' = sumE bs + (l.countP (ends t) : Nat) + (if off ≤ i ∧ i < off + l.length then c else 0)
  | [], bs, bs', off, h1, h2, _ => by
    cases bs <;> cases bs' <;> simp_all [sumE]
    omega
  | x :: l, [], _, _, h1, _, _ => by simp at h1
  | x :: l, _ :: _, [], _, _, h2, _ => by simp at h2
  | x :: l, b :: bs, b' :: bs', off, h1, h2, h => by
    have h0 := h 0 (by simp) (by simp) (by simp)
    have ih := sum_step t i c l bs bs' (off + 1) (by simpa using h1) (by simpa using h2) (fun j a1 a2 a3 => by
      have := h (j + 1) (by simp; omega) (by simp; omega) (by simp; omega)
      simp only [List.getElem_cons_succ] at this
      rw [this]
      have : (off + (j + 1) = i) = (off + 1 + j = i) := by congr 1; omega
      simp only [this])
    simp only [List.getElem_cons_zero, Nat.add_zero] at h0
    simp only [sumE, List.map_cons, List.sum_cons] at ih ⊢
    rw [ih, h0, List.countP_cons, List.length_cons]
    by_cases hx : ends t x = true
    · simp only [hx, if_true]
      by_cases ho : off = i
      · rw [if_pos ho, if_neg (by omega), if_pos (by omega)]; push_cast; omega
      · rw [if_neg ho]
        by_cases hb : off + 1 ≤ i ∧ i < off + 1 + l.length
        · rw [if_pos hb, if_pos (by omega)]; push_cast; omega
        · rw [if_neg hb, if_neg (by omega)]; push_cast; omega
    · simp only [hx, Bool.false_eq_true, if_false]
      by_cases ho : off = i
      · rw [if_pos ho, if_neg (by omega), if_pos (by omega)]; push_cast; omega
      · rw [if_neg ho]
        by_cases hb : off + 1 ≤ i ∧ i < off + 1 + l.length
        · rw [if_pos hb, if_pos (by omega)]; push_cast; omega
        · rw [if_neg hb, if_neg (by omega)]; push_cast; omega

theorem adv_noAlarm {s : St} {t : Int} (h : s.alarm = none) : (adv s t).alarm = none ∧ (adv s t).events = s.events + (s.src.countP (ends t) : Nat) := by
  simp [adv, h, fires]

theorem parts_step {a : St} {bs bs' : List St} {k t h : Int} {i : Nat} (hp : Parts a bs) (hi : i < a.src.length) (hl : bs'.length = bs.length)
    (hs : ∀ j (h1 : j < bs.length) (h2 : j < bs'.length), bs'[j] = stepOne k t h i j bs[j]) : Parts (stepAll a k t h i) bs' := by
  have ha := adv_noAlarm (t := t) hp.al
  have hal := adv_length a t
  have hgi : get (adv a t) i = stop t a.src[i] := by rw [get_of (by omega)]; simp [adv]
  have hg1 : ∀ j (h1 : j < bs.length), (adv bs[j] t).src = [stop t (a.src[j]'(by have := hp.len; omega))] ∧ (adv bs[j] t).alarm = none ∧ (adv bs[j] t).events = bs[j].events + (if ends t (a.src[j]'(by have := hp.len; omega)) then 1 else 0) := by
    intro j h1
    obtain ⟨o1, o2, o3⟩ := hp.one j h1
    refine ⟨by simp [adv, o1], (adv_noAlarm o2).1, ?_⟩
    rw [(adv_noAlarm o2).2, o1]
    simp only [List.countP_cons, List.countP_nil]
    split <;> simp
  have hlen := hp.len
  refine ⟨?_, ?_, ?_, ?_⟩
  · unfold stepAll upd
    split
    · simp [hl, hlen, hal]
    · rw [hl, hlen, hal]
  · unfold stepAll upd
    split
    · exact ha.1
    · exact ha.1
  · intro j hj
    have hj' : j < bs.length := by omega
    obtain ⟨g1, g2, g3⟩ := hg1 j hj'
    rw [hs j hj' hj]
    unfold stepOne stepAll
    by_cases hk : k < 5
    · by_cases hji : j = i
      · subst hji
        rw [if_pos ⟨hk, rfl⟩]
        simp only [hk, if_true]
        refine ⟨?_, g2, rfl⟩
        have : get (adv bs[j] t) 0 = stop t a.src[j] := by simp [get, g1]
        simp only [upd, this, g1, List.getElem_set_self, List.set_cons_zero, hgi]
      · rw [if_neg (by omega)]
        simp only [hk, if_true]
        refine ⟨?_, g2, rfl⟩
        rw [g1]
        simp only [upd, List.getElem_set_ne (Ne.symm hji)]
        simp [adv]
    · rw [if_neg (by omega)]
      simp only [hk, if_false]
      refine ⟨?_, g2, rfl⟩
      rw [g1]
      simp [adv]
  · have hsum := sum_step t i (if k < 5 then incAfter k t h (stop t a.src[i]) else 0) a.src bs bs' 0 hlen (by omega) (fun j a1 a2 a3 => by
      rw [hs j a2 a3]
      obtain ⟨g1, g2, g3⟩ := hg1 j a2
      unfold stepOne
      by_cases hk : k < 5
      · by_cases hji : j = i
        · subst hji
          rw [if_pos ⟨hk, rfl⟩, if_pos (Nat.zero_add j), if_pos hk]
          have : get (adv bs[j] t) 0 = stop t a.src[j] := by simp [get, g1]
          simp only [upd, this, g3]
        · rw [if_neg (show ¬ (k < 5 ∧ j = i) by omega), if_neg (show ¬ 0 + j = i by omega), g3]; omega
      · rw [if_neg (by omega), g3, if_neg hk]; split <;> omega)
    rw [hsum, if_pos (by omega), ← hp.ev]
    unfold stepAll
    by_cases hk : k < 5
    · rw [if_pos hk, if_pos hk]
      simp only [upd, hgi, ha.2]
    · rw [if_neg hk, if_neg hk, ha.2]; omega

/- In memory. -/
structure Ones (w : World) (B pb : Nat) (a : St) (la : Option Addr) (n c : Nat) (pbs : List Nat) (bs : List St) : Prop where
  sl : Sl w 24 1 la n c (pbs.map fun b => Value.pointer (some ⟨b, 0, none⟩))
  l1 : pbs.length = n
  l2 : bs.length = n
  pr : ∀ j (h : j < n), Prog w (pbs[j]'(by omega)) (bs[j]'(by omega))
  p : Prog w pb a
  nd : ∀ i j (hi : i < n) (hj : j < n), i ≠ j → pbs[i]'(by omega) ≠ pbs[j]'(by omega)
  np : ∀ x ∈ pbs, x ≠ pb ∧ B ≤ x
  bp : B ≤ pb
  sb : ∀ b, la = some ⟨b, 0, none⟩ → B ≤ b ∧ b ≠ pb ∧ b ∉ pbs

theorem Ones.ext0 {w w' : World} {B pb : Nat} {a : St} {la : Option Addr} {n c : Nat} {pbs : List Nat} {bs : List St} (h : Ones w B pb a la n c pbs bs) (he : Ext w w' (fun _ => False)) : Ones w' B pb a la n c pbs bs :=
  ⟨h.sl.ext he (fun _ _ h => h), h.l1, h.l2, fun j hj => (h.pr j hj).ext he (fun h => h), h.p.ext he (fun h => h), h.nd, h.np, h.bp, h.sb⟩
theorem Ones.setA {w w' : World} {B pb : Nat} {a a' : St} {la : Option Addr} {n c : Nat} {pbs : List Nat} {bs : List St} (h : Ones w B pb a la n c pbs bs) (hp : Prog w' pb a') (he : Ext w w' (· = pb)) : Ones w' B pb a' la n c pbs bs := by
  have l1 := h.l1
  exact ⟨h.sl.ext he (fun b hb hx => (h.sb b hb).2.1 hx), h.l1, h.l2, fun j hj => (h.pr j hj).ext he (fun hx => (h.np _ (List.getElem_mem (by omega))).1 hx), hp, h.nd, h.np, h.bp, h.sb⟩
theorem Ones.setB {w w' : World} {B pb : Nat} {a b' : St} {la : Option Addr} {n c j : Nat} {pbs : List Nat} {bs : List St} (h : Ones w B pb a la n c pbs bs) (hj : j < n) (hp : Prog w' (pbs[j]'(by have := h.l1; omega)) b') (he : Ext w w' (· = pbs[j]'(by have := h.l1; omega))) :
    Ones w' B pb a la n c pbs (bs.set j b') := by
  have l1 := h.l1
  have l2 := h.l2
  refine ⟨h.sl.ext he (fun b hb hx => (h.sb b hb).2.2 (by rw [hx]; exact List.getElem_mem _)), h.l1, by simpa using h.l2, fun i hi => ?_, h.p.ext he (fun hx => (h.np _ (List.getElem_mem (by omega))).1 hx.symm), h.nd, h.np, h.bp, h.sb⟩
  by_cases hij : j = i
  · subst hij
    simpa using hp
  · rw [List.getElem_set_ne hij]
    exact (h.pr i hi).ext he (h.nd i j hi hj (Ne.symm hij))

theorem Ones.cell {w : World} {B pb : Nat} {a : St} {la : Option Addr} {n c j : Nat} {pbs : List Nat} {bs : List St} (h : Ones w B pb a la n c pbs bs) (hj : j < n) :
    ∃ b, la = some ⟨b, 0, none⟩ ∧ w.cell? ⟨b, j, none⟩ = some (.pointer (some ⟨pbs[j]'(by have := h.l1; omega), 0, none⟩)) := by
  have l1 := h.l1
  rcases h.sl with ⟨_, rfl, _⟩ | ⟨b, sp, rfl, h1, _⟩
  · omega
  · refine ⟨b, rfl, ?_⟩
    rw [h1.cell, List.getElem?_append_left (by simp; omega), List.getElem?_map, List.getElem?_eq_getElem (by omega)]
    rfl

theorem modv_small {v n : Int} (h0 : 0 ≤ v) (h1 : v < n) (hn : n ≤ 1000000) : modv v n = v := by
  unfold modv
  rw [Int.emod_eq_of_lt h0 (by omega), Int.emod_eq_of_lt h0 h1]

theorem small_sum {bs : List St} {f : St → Int} (h0 : ∀ b ∈ bs, 0 ≤ f b) : ∀ j, 0 ≤ ((bs.take j).map f).sum ∧ ((bs.take j).map f).sum ≤ (bs.map f).sum := by
  intro j
  induction bs generalizing j with
  | nil => simp
  | cons b bs ih =>
    have hb := h0 b (by simp)
    have ih' := ih (fun x hx => h0 x (by simp [hx]))
    cases j with
    | zero =>
      have := ih' bs.length
      simp only [List.take_length] at this
      simp only [List.take_zero, List.map_nil, List.sum_nil, List.map_cons, List.sum_cons] at this ⊢
      omega
    | succ j =>
      have := ih' j
      simp only [List.take_succ_cons, List.map_cons, List.sum_cons] at this ⊢
      omega

/-- The list after j objects of the inner loop. -/
def cur (bs full : List St) (j : Nat) : List St := full.take j ++ bs.drop j
theorem cur_length {bs full : List St} {j : Nat} (h : full.length = bs.length) (hj : j ≤ bs.length) : (cur bs full j).length = bs.length := by simp [cur]; omega
theorem cur_get {bs full : List St} {j : Nat} (h : full.length = bs.length) (hj : j < bs.length) : (cur bs full j)[j]? = some bs[j] := by
  unfold cur
  rw [List.getElem?_append_right (by rw [List.length_take]; omega), List.getElem?_drop, List.length_take, Nat.min_eq_left (by omega), Nat.sub_self, Nat.add_zero, List.getElem?_eq_getElem hj]
theorem cur_set {bs full : List St} {j : Nat} (h : full.length = bs.length) (hj : j < bs.length) : (cur bs full j).set j (full[j]'(by omega)) = cur bs full (j + 1) := by
  unfold cur
  rw [List.drop_eq_getElem_cons hj, set_mid _ _ _ _ _ (by simp; omega), take_snoc (k := j) full (by omega), List.append_assoc]
  rfl

theorem incAfter_bd (k t h : Int) (x : Src) : 0 ≤ incAfter k t h x ∧ incAfter k t h x ≤ 1 := by
  unfold incAfter
  split
  · omega
  split
  · split <;> omega
  split
  · split <;> omega
  · omega
theorem stepOne_events (k t h : Int) (i j : Nat) (b : St) : b.events ≤ (stepOne k t h i j b).events := by
  have h1 := (adv_events b t).1
  unfold stepOne
  split
  · have := incAfter_bd k t h (get (adv b t) 0)
    simp only [upd]
    omega
  · exact h1

/-- What the great object does. -/
theorem do_all {a : St} {k : Int} {ar : Ar} (ha : a.alarm = none) (hi0 : 0 ≤ ar.source) (hi : ar.source < a.src.length) (ht : a.clock ≤ ar.now) (ht2 : ar.now ≤ 1000000) (hh : ar.other ≤ 1000000) (hk : (0 ≤ k ∧ k < 5) ∨ k = 6) :
    doSt a k ar = (0, stepAll a k ar.now ar.other ar.source.toNat) := by
  obtain ⟨i, t, h, e⟩ := ar
  dsimp only at *
  unfold stepAll
  rcases hk with ⟨h0, h5⟩ | rfl
  · rw [upd_adv ha hi0 hi ht ht2 hh h0 h5, if_pos h5]
  · unfold doSt advance
    rw [if_neg (by omega), if_neg (by omega), if_neg (by omega), if_neg (by omega), if_pos rfl, ok_mk ht (by omega), if_pos rfl, if_neg (by omega)]

section
variable {U : World} {Q : Value → World → Prop}

theorem add_k36 {w : World} {B pb kb ab : Nat} {a b : St} {la : Option Addr} {n c j : Nat} {pbs : List Nat} {L : List St} {l : Option Addr} {ln lc : Nat} {k now ii s1 s2 : Int} {pp : Option Addr} {next18 : (Int × Int × Unit) → World → Prop} {next : (Int × Int × Int × Unit) → World → Prop}
    (ho : Ones w B pb a la n c pbs L) (hj : j < n) (hb : L[j]? = some b)
    (hn : ∀ w', Ext w w' (fun _ => False) → next (IntKind.wrap .i64 (s1 + b.events), IntKind.wrap .i64 (s2 + ((active b : Nat) : Int)), IntKind.wrap .i64 ((j : Int) + 1), ()) w') :
    W.law29_WakeupSourcesAdd_k36 l ln lc k pp la n c now ii ⟨kb, 0, none⟩ ⟨ab, 0, none⟩ s1 s2 j 0 next18 next w Q := by
  unfold W.law29_WakeupSourcesAdd_k36
  obtain ⟨sb, rfl, hcell⟩ := ho.cell hj
  refine ix_sl 1 24 (by omega) (by omega) ?_
  rw [fA_ptr, Int.toNat_natCast, add_mk, Nat.zero_add, Nat.mul_one]
  refine ld_c hcell ?_
  rw [fP_ptr]
  have hpr := ho.pr j hj
  rw [List.getElem?_eq_getElem (by have := ho.l2; omega)] at hb
  simp only [Option.some.injEq] at hb
  rw [hb] at hpr
  refine counts_c hpr fun w' e' => ⟨_, _, rfl, ?_⟩
  rw [show ((0 : Int) != 0) = false from rfl, br_false]
  exact hn w' e'

theorem add_k23 {w : World} {B pb kb : Nat} {a : St} {la : Option Addr} {n c i : Nat} {pbs : List Nat} {bs : List St} {l : Option Addr} {ln lc : Nat} {cl : Cl} {T1 : TypeId} {next : (Int × Int × Unit) → World → Prop}
    (ho : Ones w B pb a la n c pbs bs) (hp : Parts a bs) (hinv : Inv a n i) (hi : i ≤ 1000) (hn0 : 0 < n) (hn : n ≤ 32) (hev : ∀ b ∈ bs, 0 ≤ b.events) (hkb : At w kb cl.tame.cells T1) (hkne : kb ≠ pb ∧ kb ∉ pbs) (hfine : cl.fine) (hk : (0 ≤ cl.kind ∧ cl.kind < 5) ∨ cl.kind = 6)
    (hnext : ∀ w' a' bs', Ones w' B pb a' la n c pbs bs' → Parts a' bs' → Inv a' n (i + 1) → (∀ b ∈ bs', 0 ≤ b.events) → Ext w w' (fun x => B ≤ x) → next (a'.clock, ((i + 1 : Nat) : Int), ()) w') :
    W.law29_WakeupSourcesAdd_k23 l ln lc n (some ⟨pb, 0, none⟩) la n c a.clock i ⟨kb, 0, none⟩ next w Q := by
  unfold W.law29_WakeupSourcesAdd_k23
  simp only [add_mk, Nat.zero_add]
  have hc0 := hinv.c0; have hc1 := hinv.c1; have he0 := hinv.e0; have he1 := hinv.e1; have hlen := hinv.len
  have l1 := ho.l1; have l2 := ho.l2
  refine ld_w hkb ?_
  rw [fG_agg]
  have hat := atC_tame hfine (n := (n : Int)) (ev := 0) hc0 (by omega)
  refine at_c (by omega) fun w1 e1 => ?_
  rw [fG_agg]
  have hmk : modv cl.kind 9 = cl.kind := modv_small (by omega) (by omega) (by omega)
  have hinv' := hinv.gen (k := cl.kind) (a := atC cl.tame n a.clock 0) (by omega) (by omega) hat.1 hat.2.1 (by omega)
  have hsrc := hat.2.2.2.2.2 (by omega)
  have hsb := modv_bd (v := cl.src) (n := (n : Int)) (by omega)
  have hoth := hat.2.2.2.2.1 (by omega)
  have hda := do_all (k := cl.kind) (ar := atC cl.tame n a.clock 0) hp.al (by omega) (by omega) hat.1 (by omega) (by omega) hk
  obtain ⟨hnow1, hnow2, hoth0, _⟩ := hat
  generalize atC cl.tame n a.clock 0 = ar at *
  rw [hsrc] at hda
  rw [hda] at hinv'
  obtain ⟨m, hm⟩ : ∃ m : Nat, modv cl.src n = (m : Int) := ⟨(modv cl.src n).toNat, by omega⟩
  rw [hm] at hsrc hda hinv' hsb
  rw [Int.toNat_natCast] at hda hinv'
  dsimp only at hinv'
  refine al_st 4 rfl (cells_one4 _) ?_
  intro ab w2 hab a2 e2 z2
  have e02 := e1.tr e2
  have k2 := hkb.ext e02 (fun h => h)
  have o2 := ho.ext0 e02
  refine ld_i k2 rfl ?_
  rw [fI_int]
  refine ld_w a2 ?_
  rw [fG_agg]
  have hsz := e1.size
  have hklt := hkb.lt
  have hplt : ∀ x ∈ pbs, x < w.heap.size := by
    intro x hx
    obtain ⟨y, hy, rfl⟩ := List.getElem_of_mem hx
    exact (ho.pr y (by omega)).1.lt
  have hpb := ho.p.1.lt
  refine do_c o2.p ⟨he0, by omega⟩ (by omega) hoth0 fun w3 p3 e3 => ?_
  have htk : cl.tame.kind = cl.kind := rfl
  rw [htk, hmk, hda] at p3 ⊢
  rw [fI_int, show ((0 : Int) != 0) = false from rfl, br_false]
  have k3 := k2.ext e3 hkne.1
  have a3 := a2.ext e3 (show ¬ ab = pb by omega)
  refine ld_i a3 rfl ?_
  rw [fI_int]
  have o3 := o2.setA p3 e3
  have hB := ho.bp
  have e03 : Ext w w3 (fun x => B ≤ x) := e02.trans e3 (fun _ _ h => h.elim) (fun b' _ h => by omega)
  generalize hfull : (bs.mapIdx fun j b => stepOne cl.kind ar.now ar.other m j b) = full
  have hfl : full.length = bs.length := by rw [← hfull]; simp
  have hfg : ∀ j (h1 : j < bs.length) (h2 : j < full.length), full[j] = stepOne cl.kind ar.now ar.other m j bs[j] := by
    intro j h1 h2
    subst hfull
    simp
  have hparts := parts_step hp (show m < a.src.length by omega) hfl hfg
  generalize ha' : stepAll a cl.kind ar.now ar.other m = a' at *
  have hcl' : a'.clock = ar.now := by rw [← ha']; unfold stepAll upd; split <;> rfl
  have hev' : ∀ b ∈ full, 0 ≤ b.events := by
    intro b hb
    obtain ⟨y, hy, rfl⟩ := List.getElem_of_mem hb
    rw [hfg y (by omega) hy]
    have := hev _ (List.getElem_mem (show y < bs.length by omega))
    have := stepOne_events cl.kind ar.now ar.other m y (bs[y]'(by omega))
    omega
  have hsumE := small_sum (f := (·.events)) hev'
  have hsumA := small_sum (bs := full) (f := fun s => ((active s : Nat) : Int)) (fun b _ => by omega)
  have hEa : (full.map (·.events)).sum = a'.events := hparts.ev.symm
  have hAa : (full.map fun s => ((active s : Nat) : Int)).sum = ((active a' : Nat) : Int) := (parts_active hparts).symm
  have hact : active a' ≤ a'.src.length := List.countP_le_length
  have hle' := hinv'.len
  have hi0' := hinv'.e0; have hi1' := hinv'.e1
  rw [hEa] at hsumE
  rw [hAa] at hsumA
  refine LoopW.nat n (fun j x w' => x = (((full.take j).map (·.events)).sum, ((full.take j).map fun s => ((active s : Nat) : Int)).sum, (j : Int), ()) ∧ Ones w' B pb a' la n c pbs (cur bs full j) ∧ At w' kb cl.tame.cells T1 ∧ At w' ab ar.cells _ ∧ Ext w w' (fun x => B ≤ x))
    ⟨rfl, by simpa [cur] using o3, k3, a3, e03⟩ ?_
  rintro j x w4 nxt hj ⟨rfl, o4, k4, a4, e4⟩ hnxt
  dsimp only
  by_cases hlt : j < n
  case neg =>
    have hje : j = n := by omega
    rw [decide_eq_false (by omega), br_false]
    unfold W.law29_WakeupSourcesAdd_k40
    refine counts_c o4.p fun w5 e5 => ⟨_, _, rfl, ?_⟩
    have ht : full.take j = full := List.take_of_length_le (by omega)
    rw [ht, hEa, hAa, show (a'.events != a'.events) = false by simp, br_false, show (((active a' : Nat) : Int) != ((active a' : Nat) : Int)) = false by simp, br_false, wrap_i64 (by omega) (by omega), ← hcl']
    refine hnext w5 a' full ?_ hparts hinv' hev' (e4.tr0 e5)
    have hcu : cur bs full j = full := by unfold cur; rw [ht, List.drop_eq_nil_of_le (by omega), List.append_nil]
    rw [hcu] at o4
    exact o4.ext0 e5
  rw [decide_eq_true (by omega), br_true]
  have hjb : j < bs.length := by omega
  have hjp : j < pbs.length := by omega
  obtain ⟨sb, hla, hcell⟩ := o4.cell hlt
  have hsbn := o4.sb sb hla
  subst hla
  refine ix_sl 1 24 (by omega) (by omega) ?_
  rw [fA_ptr, Int.toNat_natCast, add_mk, Nat.zero_add, Nat.mul_one]
  refine ld_c hcell ?_
  rw [fP_ptr]
  have hpr := o4.pr j hlt
  have hcg := cur_get hfl hjb
  rw [List.getElem?_eq_getElem (by rw [cur_length hfl (by omega)]; exact hjb)] at hcg
  simp only [Option.some.injEq] at hcg
  rw [hcg] at hpr
  obtain ⟨hone1, hone2, hone3⟩ := hp.one j hjb
  have hbe0 := hev _ (List.getElem_mem hjb)
  have hbe1 : bs[j].events ≤ a.events := by
    rw [hp.ev]
    have h1 := (small_sum (f := (·.events)) hev (j + 1)).2
    have h2 := (small_sum (f := (·.events)) hev j).1
    rw [take_snoc bs hjb, List.map_append, List.sum_append] at h1
    simp only [List.map_cons, List.map_nil, List.sum_cons, List.sum_nil] at h1
    unfold sumE
    omega
  have hmem : pbs[j] ∈ pbs := List.getElem_mem hjp
  have hpk : pbs[j] ≠ kb := fun h => hkne.2 (h ▸ hmem)
  have hpa : pbs[j] ≠ ab := by have := hplt _ hmem; omega
  have hpB := (o4.np _ hmem).2
  have hfj := hfg j hjb (by omega)
  have hdone : ∀ {w5 : World} (b : St), b = full[j]'(by omega) → Ones w5 B pb a' (some ⟨sb, 0, none⟩) n c pbs ((cur bs full j).set j b) → At w5 kb cl.tame.cells T1 → At w5 ab ar.cells 34 → Ext w w5 (fun x => B ≤ x) →
      W.law29_WakeupSourcesAdd_k36 l ln lc n (some ⟨pb, 0, none⟩) (some ⟨sb, 0, none⟩) n c ar.now i ⟨kb, 0, none⟩ ⟨ab, 0, none⟩ ((full.take j).map (·.events)).sum ((full.take j).map fun s => ((active s : Nat) : Int)).sum j 0 next nxt w5 Q := by
    intro w5 b hb o5 k5 a5 e5
    subst hb
    refine add_k36 (b := full[j]'(by omega)) o5 hlt (by rw [List.getElem?_set_self (by rw [cur_length hfl (by omega)]; exact hjb)]) fun w6 e6 => ?_
    have hs1 : ((full.take (j + 1)).map (·.events)).sum = ((full.take j).map (·.events)).sum + (full[j]'(by omega)).events := by
      rw [take_snoc full (by omega), List.map_append, List.sum_append]; simp
    have hs2 : ((full.take (j + 1)).map fun s => ((active s : Nat) : Int)).sum = ((full.take j).map fun s => ((active s : Nat) : Int)).sum + ((active (full[j]'(by omega)) : Nat) : Int) := by
      rw [take_snoc full (by omega), List.map_append, List.sum_append]; simp
    have b1 := hsumE (j + 1); have b2 := hsumA (j + 1)
    rw [← hs1, ← hs2, wrap_i64 (by omega) (by omega), wrap_i64 (by omega) (by omega), wrap_i64 (by omega) (by omega)]
    rw [cur_set hfl hjb] at o5
    exact hnxt hlt _ _ ⟨by simp, o5.ext0 e6, k5.ext e6 (fun h => h), a5.ext e6 (fun h => h), e5.tr0 e6⟩
  have hadv : advance bs[j] ar.now = (0, adv bs[j] ar.now) := by
    unfold advance
    rw [ok_mk (by omega) (by omega)]; rfl
  refine advance'_c hpr ⟨hbe0, by omega⟩ fun w5 p5 e5 => ?_
  rw [hadv] at p5 ⊢
  dsimp only at p5
  rw [fI_int]
  have o5 := o4.setB hlt p5 e5
  have k5 := k4.ext e5 hpk.symm
  have a5 := a4.ext e5 hpa.symm
  have e05 : Ext w w5 (fun x => B ≤ x) := e4.trans e5 (fun _ _ h => h) (fun b' _ h => by omega)
  refine ld_i k5 rfl ?_
  rw [fI_int, htk]
  have hplain : ¬ (cl.kind < 5 ∧ j = m) → W.law29_WakeupSourcesAdd_k33 l ln lc n (some ⟨pb, 0, none⟩) (some ⟨sb, 0, none⟩) n c ar.now i ⟨kb, 0, none⟩ ⟨ab, 0, none⟩ ((full.take j).map (·.events)).sum ((full.take j).map fun s => ((active s : Nat) : Int)).sum j 0 false next nxt w5 Q := by
    intro hne
    unfold W.law29_WakeupSourcesAdd_k33
    rw [br_false]
    refine hdone _ ?_ o5 k5 a5 e05
    rw [hfj]
    unfold stepOne
    rw [if_neg hne]
  by_cases h5 : cl.kind < 5
  case neg =>
    rw [decide_eq_false h5, br_false]
    exact hplain (fun h => h5 h.1)
  rw [decide_eq_true h5, br_true]
  refine ld_i a5 rfl ?_
  rw [fI_int, hsrc]
  by_cases hjm : j = m
  case neg =>
    rw [show (((j : Int)) == (m : Int)) = false by simp; omega]
    exact hplain (fun h => hjm h.2)
  rw [show (((j : Int)) == (m : Int)) = true by simp; omega]
  unfold W.law29_WakeupSourcesAdd_k33
  rw [br_true]
  refine ld_w a5 ?_
  rw [fG_agg]
  refine al_st 4 rfl (cells_one4 _) ?_
  intro zb w6 hzb a6 e6 z6
  simp only [add_mk, Nat.zero_add]
  refine st_i a6 (by simp [Ar.cells]) fun w7 a7 e7 z7 => ?_
  change At w7 zb ({ ar with source := 0 } : Ar).cells _ at a7
  have e57 : Ext w5 w7 (fun _ => False) := e6.trans e7 (fun _ _ h => h) (fun b' hb' h => by omega)
  have o7 := o5.ext0 e57
  have k7 := k5.ext e57 (fun h => h)
  have aa7 := a5.ext e57 (fun h => h)
  show dr w7 _
  unfold dr
  obtain ⟨sb', hla', hcell'⟩ := o7.cell hlt
  simp only [Option.some.injEq, Addr.mk.injEq, and_true] at hla'
  subst hla'
  refine ix_sl (w := drew w7) 1 24 (by omega) (by omega) ?_
  rw [fA_ptr, Int.toNat_natCast, add_mk, Nat.zero_add, Nat.mul_one]
  refine ld_c (w := drew w7) hcell' ?_
  rw [fP_ptr]
  refine ld_i (w := drew w7) k7 rfl ?_
  rw [fI_int]
  refine ld_w (w := drew w7) a7 ?_
  rw [fG_agg]
  have hpr7 := o7.pr j hlt
  rw [List.getElem_set_self] at hpr7
  have hae := adv_events bs[j] ar.now
  have hal := adv_length bs[j] ar.now
  rw [hone1] at hae hal
  simp only [List.length_cons, List.length_nil] at hae hal
  have han := (adv_noAlarm (t := ar.now) hone2).1
  have hd2 : doSt (adv bs[j] ar.now) cl.kind { ar with source := 0 } = (0, full[j]'(by omega)) := by
    have := upd_adv (s := adv bs[j] ar.now) (i := 0) (t := ar.now) (h := ar.other) (k := cl.kind) (e := ar.events) han (by omega) (by omega) (Int.le_refl _) (by omega) (by omega) (by omega) h5
    rw [adv_idem hone2] at this
    rw [hfj]
    unfold stepOne
    rw [if_pos ⟨h5, hjm⟩]
    exact this
  refine do_c (w := drew w7) (a := { ar with source := 0 }) hpr7 ⟨by omega, by omega⟩ (by show 0 ≤ ar.now; omega) hoth0 fun w8 p8 e8 => ?_
  rw [htk, hmk, hd2] at p8 ⊢
  dsimp only at p8
  rw [fI_int]
  have e8' := e8.of_drew
  have o8 := o7.setB hlt p8 e8'
  rw [List.set_set] at o8
  exact hdone _ rfl o8 (k7.ext e8' hpk.symm) (aa7.ext e8' hpa.symm) ((e05.tr0 e57).trans e8' (fun _ _ h => h) (fun b' _ h => by omega))

theorem Ones.add {w w1 w2 w3 : World} {B pb : Nat} {a b : St} {la la' : Option Addr} {n c c' q : Nat} {pbs : List Nat} {bs : List St} (h : Ones w B pb a la n c pbs bs) (hq : q = w.heap.size) (hB : B ≤ w.heap.size) (hp : Prog w1 q b) (e1 : Ext w w1 (fun _ => False)) (e2 : Ext w1 w2 (fun _ => False))
    (hs : Sl w3 24 1 la' (n + 1) c' ((pbs.map fun b => Value.pointer (some ⟨b, 0, none⟩)) ++ [Value.pointer (some ⟨q, 0, none⟩)]))
    (hla : ∀ b, la' = some ⟨b, 0, none⟩ → la = some ⟨b, 0, none⟩ ∨ w2.heap.size ≤ b) (e3 : Ext w2 w3 (fun b => la = some ⟨b, 0, none⟩)) : Ones w3 B pb a la' (n + 1) c' (pbs ++ [q]) (bs ++ [b]) := by
  have l1 := h.l1; have l2 := h.l2
  have hlt : ∀ x ∈ pbs, x < w.heap.size := by
    intro x hx
    obtain ⟨y, hy, rfl⟩ := List.getElem_of_mem hx
    exact (h.pr y (by omega)).1.lt
  have hpl := h.p.1.lt
  have hql := hp.1.lt
  have hs1 := e1.size; have hs2 := e2.size
  have hsb : ∀ b, la = some ⟨b, 0, none⟩ → b < w.heap.size := by
    intro b hb
    rcases h.sl with ⟨hn, _⟩ | ⟨b', sp, hb', ha, _⟩
    · rw [hn] at hb; cases hb
    · rw [hb'] at hb; simp only [Option.some.injEq, Addr.mk.injEq, and_true] at hb; subst hb; exact ha.lt
  have e02 := e1.tr e2
  refine ⟨?_, by simp [l1], by simp [l2], ?_, ?_, ?_, ?_, h.bp, ?_⟩
  · rw [List.map_append]; exact hs
  · intro j hj
    by_cases hjn : j < n
    · rw [List.getElem_append_left (by omega), List.getElem_append_left (by omega)]
      exact ((h.pr j hjn).ext e02 (fun h => h)).ext e3 (fun hx => (h.sb _ hx).2.2 (List.getElem_mem _))
    · obtain rfl : j = n := by omega
      rw [List.getElem_append_right (by omega), List.getElem_append_right (by omega)]
      simp only [List.getElem_singleton]
      exact (hp.ext e2 (fun h => h)).ext e3 (fun hx => by have := hsb _ hx; omega)
  · exact (h.p.ext e02 (fun h => h)).ext e3 (fun hx => (h.sb _ hx).2.1 rfl)
  · intro i j hi hj hij
    by_cases hin : i < n
    · rw [List.getElem_append_left (by omega)]
      by_cases hjn : j < n
      · rw [List.getElem_append_left (by omega)]
        exact h.nd i j hin hjn hij
      · rw [List.getElem_append_right (by omega)]
        simp only [List.getElem_singleton]
        have := hlt _ (List.getElem_mem (show i < pbs.length by omega))
        omega
    · rw [List.getElem_append_right (by omega), List.getElem_append_left (by omega)]
      simp only [List.getElem_singleton]
      have := hlt _ (List.getElem_mem (show j < pbs.length by omega))
      omega
  · intro x hx
    rw [List.mem_append] at hx
    rcases hx with hx | hx
    · exact h.np x hx
    · simp only [List.mem_singleton] at hx
      omega
  · intro b' hb'
    rcases hla b' hb' with hx | hx
    · obtain ⟨u1, u2, u3⟩ := h.sb b' hx
      have := hsb _ hx
      refine ⟨u1, u2, ?_⟩
      rw [List.mem_append, List.mem_singleton]
      rintro (h4 | h4)
      · exact u3 h4
      · omega
    · refine ⟨by omega, by omega, ?_⟩
      rw [List.mem_append, List.mem_singleton]
      rintro (h4 | h4)
      · have := hlt _ h4; omega
      · omega

theorem add_k15 {w : World} {pb : Nat} {a : St} {la : Option Addr} {n c : Nat} {pbs : List Nat} {bs : List St} {l : Option Addr} {ln lc : Nat} {cs : List Cl} (hcs : cs.length = ln) (hC : Cls U l cs) (hln : ln ≤ 40)
    (ho : Ones w U.heap.size pb a la n c pbs bs) (hp : Parts a bs) (hinv : Inv a n 0) (hcl : a.clock = 0) (hn0 : 0 < n) (hn : n ≤ 32) (hev : ∀ b ∈ bs, 0 ≤ b.events) (e0 : Ext U w (fun _ => False))
    (hQ : ∀ w', Ext U w' (fun _ => False) → Q (.bool true) w') :
    W.law29_WakeupSourcesAdd_k15 l ln lc n (some ⟨pb, 0, none⟩) la n c w Q := by
  unfold W.law29_WakeupSourcesAdd_k15
  refine LoopW.nat ln (fun i x w => ∃ a bs, x = (a.clock, (i : Int), ()) ∧ Ones w U.heap.size pb a la n c pbs bs ∧ Parts a bs ∧ Inv a n i ∧ (∀ b ∈ bs, 0 ≤ b.events) ∧ Ext U w (fun _ => False)) ⟨a, bs, by rw [hcl]; rfl, ho, hp, hinv, hev, e0⟩ ?_
  rintro i x w1 next hi ⟨a, bs, rfl, o1, p1, i1, hev1, e1⟩ hnext
  dsimp only
  by_cases hlt : i < ln
  case neg =>
    rw [decide_eq_false (by omega), br_false]
    unfold W.law29_WakeupSourcesAdd_k43
    exact awake_fin hQ e1
  rw [decide_eq_true (by omega), br_true]
  obtain ⟨ad, rfl, hcells, _, hfine⟩ := (hC.ext e1 (fun _ _ h => h)).some (k := i) (by omega)
  generalize hc : cs[i]'(by omega) = cl at hcells hfine
  refine ix_sl 6 36 (by omega) (by omega) ?_
  rw [fA_ptr, Int.toNat_natCast]
  refine ld_cs hcells ?_
  rw [fG_agg]
  refine al_st 6 rfl (cells_one6 _) ?_
  intro kb w2 hkb a2 e2 z2
  simp only [add_mk, Nat.zero_add]
  refine ld_i a2 rfl ?_
  rw [fI_int]
  refine mod_c (by omega) (by omega) ?_
  rw [fI_int]
  have hm := modv_bd (v := cl.kind) (n := 9) (by omega)
  generalize modv cl.kind 9 = x at hm ⊢
  refine st_i a2 (by simp [Cl.cells]) fun w3 a3 e3 z3 => ?_
  refine st_i a3 (by simp [Cl.cells]) fun w4 a4 e4 z4 => ?_
  change At w4 kb ({ cl with kind := x } : Cl).tame.cells _ at a4
  refine ld_i a4 rfl ?_
  rw [fI_int]
  have l1 := o1.l1
  have hplt : ∀ x ∈ pbs, x < w1.heap.size := by
    intro x hx
    obtain ⟨y, hy, rfl⟩ := List.getElem_of_mem hx
    exact (o1.pr y (by omega)).1.lt
  have hpb := o1.p.1.lt
  have hkne : kb ≠ pb ∧ kb ∉ pbs := ⟨by omega, fun h => by have := hplt _ h; omega⟩
  have e14 : Ext w1 w4 (fun _ => False) := (e2.trans e3 (fun _ _ h => h) (fun b' hb' h => by omega)).trans e4 (fun _ _ h => h) (fun b' hb' h => by omega)
  have hsz := e1.size
  have fin : ∀ {w5 : World} {k : Int} {T : TypeId}, Ext w1 w5 (fun _ => False) → At w5 kb ({ cl with kind := k } : Cl).tame.cells T → ((0 ≤ k ∧ k < 5) ∨ k = 6) →
      W.law29_WakeupSourcesAdd_k23 (some ad) ln lc n (some ⟨pb, 0, none⟩) la n c a.clock i ⟨kb, 0, none⟩ next w5 Q := by
    intro w5 k T e5 a5 hk
    refine add_k23 (cl := { cl with kind := k }) (o1.ext0 e5) p1 i1 (by omega) hn0 hn hev1 a5 hkne hfine hk fun w6 a' bs' o6 p6 i6 hev6 e6 => ?_
    exact hnext hlt _ _ ⟨a', bs', rfl, o6, p6, i6, hev6, (e1.tr e5).trans e6 (fun _ _ h => h) (fun b' hb' h => by omega)⟩
  by_cases h5 : x ≥ 5
  · have hck : ({ cl with kind := x } : Cl).tame.kind = x := rfl
    rw [hck, decide_eq_true h5, br_true]
    refine st_i a4 (by simp [Cl.cells]) fun w5 a5 e5 z5 => ?_
    exact fin (k := 6) (e14.trans e5 (fun _ _ h => h) (fun b' hb' h => by omega)) a5 (.inr rfl)
  · have hck : ({ cl with kind := x } : Cl).tame.kind = x := rfl
    rw [hck, decide_eq_false h5, br_false]
    exact fin e14 a4 (.inl ⟨hm.1, by omega⟩)

theorem sumE_replicate (n : Nat) : sumE (List.replicate n (new 1)) = 0 := by
  induction n with
  | zero => rfl
  | succ n ih =>
    unfold sumE at ih ⊢
    rw [List.replicate_succ, List.map_cons, List.sum_cons, ih]
    rfl

theorem parts_new (n : Nat) : Parts (new n) (List.replicate n (new 1)) := by
  refine ⟨by simp [new], rfl, ?_, (sumE_replicate n).symm⟩
  intro j hj
  simp [new]

theorem sourcesAdd_c {n : Int} {l : Option Addr} {ln lc : Nat} {cs : List Cl} (hcs : cs.length = ln) (hC : Cls U l cs) (hQ : ∀ w', Ext U w' (fun _ => False) → Q (.bool true) w') :
    CallE Try.prog 9 #[.int .i64 n, .slice l ln lc] U Q := by
  apply C.law29_WakeupSourcesAdd
  unfold W.law29_WakeupSourcesAdd
  refine br_of (fun _ => awake_fin hQ (Ext.refl _ _)) (fun hlen => ?_)
  simp only [decide_eq_false_iff_not] at hlen
  refine mod_c (by omega) (by omega) ?_
  rw [fI_int]
  have hk := modv_bd (v := n) (n := 4) (by omega)
  generalize modv n 4 = x at hk ⊢
  rw [wrap_i64 (by omega) (by omega)]
  obtain ⟨k, hkk⟩ : ∃ k : Nat, 1 + x = (k : Int) := ⟨(1 + x).toNat, by omega⟩
  rw [hkk]
  refine new_c (by omega) (by omega) fun pb w1 hb1 p1 e1 => ⟨_, _, rfl, ?_⟩
  rw [show ((0 : Int) != 0) = false from rfl, br_false]
  refine eq_nil ?_
  rw [fB_bool]
  simp only [Option.isNone_some, br_false]
  rw [Int.toNat_natCast] at p1
  have hs1 := e1.size
  refine LoopW.nat k (fun i x w => ∃ la c pbs, x = ((la, i, c), (i : Int), ()) ∧ Ones w U.heap.size pb (new k) la i c pbs (List.replicate i (new 1)) ∧ Ext U w (fun _ => False)) ⟨none, 0, [], rfl, ⟨.inl ⟨rfl, rfl, rfl, rfl⟩, rfl, rfl, fun j hj => by omega, p1, fun i j hi => by omega, by simp, by omega, fun b hb => by cases hb⟩, e1⟩ ?_
  rintro i x w next hi ⟨la, c, pbs, rfl, o1, e1⟩ hnext
  dsimp only
  by_cases hlt : i < k
  case neg =>
    obtain rfl : i = k := by omega
    rw [decide_eq_false (by omega), br_false]
    refine add_k15 hcs hC (by omega) o1 (parts_new i) ?_ rfl (by omega) (by omega) (by simp [new]) e1 hQ
    have := Inv.new (n := (i : Int)) (by omega)
    rwa [Int.toNat_natCast] at this
  rw [decide_eq_true (by omega), br_true]
  refine new_c (by omega) (by omega) fun qb w2 hb2 p2 e2 => ⟨_, _, rfl, ?_⟩
  rw [show ((0 : Int) != 0) = false from rfl, br_false]
  refine eq_nil ?_
  rw [fB_bool]
  simp only [Option.isNone_some, br_false]
  refine al_i fun tb w3 hb3 a3 e3 z3 => ?_
  have hsz := e1.size
  refine ap_i 24 1 ((o1.ext0 (e2.tr e3)).sl) (vs := [Value.pointer (some ⟨qb, 0, none⟩)]) (.inr ⟨_, rfl, fun j hj => by rw [add_mk, a3.cell, Nat.zero_add]⟩) rfl (by simp [one]) (by omega) fun la' c' w4 s4 hla _ e4 => ?_
  rw [fS_slice, wrap_i64 (by omega) (by omega)]
  have hBw := o1.bp
  have o4 := o1.add hb2 (by omega) p2 e2 e3 s4 hla e4
  rw [show List.replicate i (new 1) ++ [new (1 : Int).toNat] = List.replicate (i + 1) (new 1) from (List.replicate_succ' ..).symm] at o4
  refine hnext hlt _ _ ⟨la', c', _, by push_cast; rfl, o4, ((e1.tr e2).tr e3).trans e4 (fun _ _ h => h) (fun b' hb' h => ?_)⟩
  have := (o1.sb _ h).1
  omega
end
end Go.Proofs.Ytdfjakdgclbleaa.Wk
