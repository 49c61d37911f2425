/-
  Several texts in one (BdA, BdP, BdR, BdK), each with its own word below. No condition beyond those stated.
-/
import Derived.Test.YtpinpccamfhofaaGA
import Derived.Test.YtpinpccamfhofaaGB
set_option linter.unusedVariables false
set_option linter.unusedSimpArgs false
/-
  A block device: the plain form. No program in sight.
-/
set_option maxRecDepth 100000
namespace Go.Proofs.Ytpinpccamfhofaa.Bd
open Go Go.Ev

abbrev Sec := List UInt8
/-- The writes, one after the other. -/
def all (C : List (Nat × Sec)) (S : List Sec) : List Sec := C.foldl (fun l c => l.set c.1 c.2) S
/-- Those writes that ks selects. -/
def sel : List (Nat × Sec) → List Bool → List Sec → List Sec
  | [], _, S => S
  | _ :: _, [], S => S
  | c :: cs, k :: ks, S => sel cs ks (if k then S.set c.1 c.2 else S)

/-- What a disk holds: the sectors, the cached writes, whether the power is off, the plan. -/
structure St where
  S : List Sec
  C : List (Nat × Sec)
  off : Bool
  plan : Option (Nat × List Bool)

def zs : Sec := List.replicate 64 0
def new (n : Nat) : St := ⟨List.replicate n zs, [], false, none⟩
def lose (s : St) (k : List Bool) : St := ⟨sel s.C k s.S, [], true, none⟩
def rd (s : St) (i : Int) : Sec × Int :=
  if i < 0 ∨ (s.S.length : Int) ≤ i then ([], 1) else if s.off then ([], 16) else ((all s.C s.S).getD i.toNat [], 0)
def wr (s : St) (i : Int) (d : Sec) : St × Int :=
  if i < 0 ∨ (s.S.length : Int) ≤ i ∨ d.length ≠ 64 then (s, 1) else if s.off then (s, 16) else
  match s.plan with
  | some (0, k) => (lose s k, 16)
  | some (n + 1, k) => (⟨s.S, s.C ++ [(i.toNat, d)], s.off, some (n, k)⟩, 0)
  | none => (⟨s.S, s.C ++ [(i.toNat, d)], s.off, none⟩, 0)
def fl (s : St) : St × Int := if s.off then (s, 16) else (⟨all s.C s.S, [], s.off, s.plan⟩, 0)
def cut (s : St) (n : Int) (k : List Bool) : St := ⟨s.S, s.C, s.off, if n < 0 then none else some (n.toNat, k)⟩
def pOff (s : St) (k : List Bool) : St × Int := if s.off then (s, 9) else (lose s k, 0)
def pOn (s : St) : St × Int := if s.off then (⟨s.S, s.C, false, s.plan⟩, 0) else (s, 9)

/-- A disk of n sectors, with at most m cached writes. -/
structure Ok (n m : Nat) (s : St) : Prop where
  len : s.S.length = n
  idx : ∀ c ∈ s.C, c.1 < n
  cl : s.C.length ≤ m
  pl : ∀ p ∈ s.plan, p.1 ≤ 1000000

theorem all_length : ∀ (C : List (Nat × Sec)) (S : List Sec), (all C S).length = S.length
  | [], S => rfl
  | c :: C, S => by show (all C (S.set c.1 c.2)).length = _; rw [all_length C]; simp
theorem sel_length : ∀ (C : List (Nat × Sec)) (ks : List Bool) (S : List Sec), (sel C ks S).length = S.length
  | [], _, S => rfl
  | _ :: _, [], S => rfl
  | c :: C, k :: ks, S => by simp only [sel]; rw [sel_length C]; split <;> simp
theorem all_snoc (C : List (Nat × Sec)) (c : Nat × Sec) (S : List Sec) : all (C ++ [c]) S = (all C S).set c.1 c.2 := by simp [all]
theorem all_take_succ {C : List (Nat × Sec)} {i : Nat} (h : i < C.length) (S : List Sec) : all (C.take (i + 1)) S = (all (C.take i) S).set C[i].1 C[i].2 := by
  rw [List.take_succ_eq_append_getElem h, all_snoc]
theorem sel_nil (C : List (Nat × Sec)) (S : List Sec) : sel C [] S = S := by cases C <;> rfl
/-- One write more. -/
theorem sel_snoc : ∀ (C : List (Nat × Sec)) (ks : List Bool) (S : List Sec) (c : Nat × Sec), sel (C ++ [c]) ks S = if ks.getD C.length false then (sel C ks S).set c.1 c.2 else sel C ks S
  | [], [], S, c => rfl
  | [], k :: ks, S, c => by cases k <;> simp [sel]
  | x :: C, [], S, c => by simp [sel]
  | x :: C, k :: ks, S, c => by
    simp only [List.cons_append, sel, sel_snoc C ks, List.length_cons, List.getD_cons_succ]
theorem sel_take_succ {C : List (Nat × Sec)} {i : Nat} (h : i < C.length) (ks : List Bool) (S : List Sec) :
    sel (C.take (i + 1)) ks S = if ks.getD i false then (sel (C.take i) ks S).set C[i].1 C[i].2 else sel (C.take i) ks S := by
  rw [List.take_succ_eq_append_getElem h, sel_snoc, List.length_take, Nat.min_eq_left (by omega)]
theorem sel_all : ∀ (C : List (Nat × Sec)) (ks : List Bool) (S : List Sec), (∀ i, i < C.length → ks.getD i false = true) → sel C ks S = all C S
  | [], _, S, _ => rfl
  | c :: C, [], S, h => by have := h 0 (by simp); simp at this
  | c :: C, k :: ks, S, h => by
    have h0 : k = true := by simpa using h 0 (by simp)
    subst h0
    simp only [sel, if_true]
    rw [sel_all C ks _ (fun i hi => by simpa using h (i + 1) (by simpa using hi))]
    rfl
theorem sel_none : ∀ (C : List (Nat × Sec)) (ks : List Bool) (S : List Sec), (∀ i, i < C.length → ks.getD i false = false) → sel C ks S = S
  | [], _, S, _ => rfl
  | c :: C, [], S, _ => rfl
  | c :: C, k :: ks, S, h => by
    have h0 : k = false := by simpa using h 0 (by simp)
    subst h0
    simp only [sel, Bool.false_eq_true, if_false]
    exact sel_none C ks _ (fun i hi => by simpa using h (i + 1) (by simpa using hi))
theorem sel_head : ∀ (C : List (Nat × Sec)) (k : Nat) (S : List Sec), sel C (List.replicate k true) S = all (C.take k) S
  | [], k, S => by simp [sel, all]
  | c :: C, 0, S => by simp [sel, all]
  | c :: C, k + 1, S => by
    simp only [List.replicate_succ, sel, if_true, List.take_succ_cons]
    rw [sel_head C k]
    rfl
/-- A sector is as it was, or it holds the data of a write. -/
theorem sel_from : ∀ (C : List (Nat × Sec)) (ks : List Bool) (S : List Sec) (j : Nat), (sel C ks S)[j]? = S[j]? ∨ ∃ i, ∃ h : i < C.length, C[i].1 = j ∧ (sel C ks S)[j]? = some C[i].2
  | [], _, S, j => .inl rfl
  | _ :: _, [], S, j => .inl rfl
  | c :: C, k :: ks, S, j => by
    simp only [sel]
    rcases sel_from C ks (if k then S.set c.1 c.2 else S) j with h | ⟨i, hi, h1, h2⟩
    · rw [h]
      cases k with
      | false => exact .inl rfl
      | true =>
        simp only [if_true]
        by_cases hj : c.1 = j
        · subst hj
          by_cases hl : c.1 < S.length
          · right
            refine ⟨0, by simp, rfl, ?_⟩
            rw [List.getElem?_set_self hl]; rfl
          · left
            rw [List.getElem?_eq_none (by simp; omega), List.getElem?_eq_none (by omega)]
        · left
          rw [List.getElem?_set_ne hj]
    · exact .inr ⟨i + 1, by simpa using hi, by simpa using h1, by simpa using h2⟩

theorem ok_new (n : Nat) : Ok n 0 (new n) := ⟨by simp [new], by simp [new], by simp [new], by simp [new]⟩
theorem Ok.le {n m m' : Nat} {s : St} (h : Ok n m s) (hm : m ≤ m') : Ok n m' s := ⟨h.len, h.idx, Nat.le_trans h.cl hm, h.pl⟩
theorem Ok.lose {n m : Nat} {s : St} (h : Ok n m s) (k : List Bool) : Ok n 0 (lose s k) := ⟨by rw [Bd.lose, sel_length, h.len], by simp [Bd.lose], by simp [Bd.lose], by simp [Bd.lose]⟩
theorem Ok.wr {n m : Nat} {s : St} (h : Ok n m s) (i : Int) (d : Sec) : Ok n (m + 1) (wr s i d).1 := by
  unfold Bd.wr
  split
  · exact h.le (by omega)
  rename_i hi
  split
  · exact h.le (by omega)
  have hl := h.len
  split
  · exact (h.lose _).le (by omega)
  · rename_i p k hp
    refine ⟨h.len, fun c hc => ?_, by simp; have := h.cl; omega, fun p' hp' => ?_⟩
    · simp only [List.mem_append, List.mem_singleton] at hc
      rcases hc with hc | rfl
      · exact h.idx c hc
      · show i.toNat < n; omega
    · simp only [Option.mem_def, Option.some.injEq] at hp'
      subst hp'
      have := h.pl _ hp
      show p ≤ _
      have h2 : p + 1 ≤ 1000000 := this
      omega
  · refine ⟨h.len, fun c hc => ?_, by simp; have := h.cl; omega, by simp⟩
    simp only [List.mem_append, List.mem_singleton] at hc
    rcases hc with hc | rfl
    · exact h.idx c hc
    · show i.toNat < n; omega
theorem Ok.fl {n m : Nat} {s : St} (h : Ok n m s) : Ok n m (fl s).1 := by
  unfold Bd.fl
  split
  · exact h
  · exact ⟨by rw [all_length, h.len], by simp, by simp, h.pl⟩
theorem Ok.cut {n m : Nat} {s : St} (h : Ok n m s) {p : Int} (hp : p ≤ 1000000) (k : List Bool) : Ok n m (cut s p k) := by
  refine ⟨h.len, h.idx, h.cl, fun q hq => ?_⟩
  unfold Bd.cut at hq
  dsimp only at hq
  split at hq
  · simp at hq
  · simp only [Option.mem_def, Option.some.injEq] at hq
    subst hq
    show p.toNat ≤ _
    omega
theorem Ok.pOff {n m : Nat} {s : St} (h : Ok n m s) (k : List Bool) : Ok n m (pOff s k).1 := by
  unfold Bd.pOff
  split
  · exact h
  · exact (h.lose k).le (by omega)
theorem Ok.pOn {n m : Nat} {s : St} (h : Ok n m s) : Ok n m (pOn s).1 := by
  unfold Bd.pOn
  split
  · exact ⟨h.len, h.idx, h.cl, h.pl⟩
  · exact h

/- The cells. -/
def strs (l : List Sec) : List Value := l.map fun d => .string (mkS d)
theorem strs_length (l : List Sec) : (strs l).length = l.length := by simp [strs]
theorem strs_get (l : List Sec) (i : Nat) : (strs l)[i]? = (l[i]?).map fun d => Value.string (mkS d) := by simp [strs]
theorem strs_getD {l : List Sec} {i : Nat} (h : i < l.length) : (strs l)[i]? = some (.string (mkS (l.getD i []))) := by
  rw [strs_get, List.getD_eq_getElem?_getD, List.getElem?_eq_getElem h]; rfl
theorem strs_set (l : List Sec) (i : Nat) (d : Sec) : (strs l).set i (.string (mkS d)) = strs (l.set i d) := by simp [strs, List.map_set]
theorem strs_one (l : List Sec) : ∀ v ∈ strs l, one v = true := by
  intro v hv
  simp only [strs, List.mem_map] at hv
  obtain ⟨b, _, rfl⟩ := hv
  rfl
theorem strs_append (a b : List Sec) : strs (a ++ b) = strs a ++ strs b := by simp [strs]
def wrow (c : Nat × Sec) : List Value := [.int .i64 (c.1 : Int), .string (mkS c.2)]
def wcells (C : List (Nat × Sec)) : List Value := C.flatMap wrow
theorem wcells_length (C : List (Nat × Sec)) : (wcells C).length = C.length * 2 := flat_length (f := wrow) (m := 2) (fun _ => rfl) C
theorem wcells_snoc (C : List (Nat × Sec)) (c : Nat × Sec) : wcells (C ++ [c]) = wcells C ++ wrow c := by simp [wcells]
theorem wcells_idx {C : List (Nat × Sec)} {i : Nat} (h : i < C.length) : (wcells C)[i * 2]? = some (.int .i64 (C[i].1 : Int)) := by
  have := flat_get (f := wrow) (m := 2) (fun _ => rfl) C i 0 h (by omega)
  simpa [wcells, wrow] using this
theorem wcells_data {C : List (Nat × Sec)} {i : Nat} (h : i < C.length) : (wcells C)[i * 2 + 1]? = some (.string (mkS C[i].2)) := by
  have := flat_get (f := wrow) (m := 2) (fun _ => rfl) C i 1 h (by omega)
  simpa [wcells, wrow] using this
theorem wrow_one (c : Nat × Sec) : ∀ v ∈ wrow c, one v = true := by
  intro v hv
  simp only [wrow, List.mem_cons, List.not_mem_nil, or_false] at hv
  rcases hv with rfl | rfl <;> rfl
def bls (l : List Bool) : List Value := l.map fun b => .bool b
theorem bls_length (l : List Bool) : (bls l).length = l.length := by simp [bls]
theorem bls_getD {l : List Bool} {i : Nat} (h : i < l.length) : (bls l)[i]? = some (.bool (l.getD i false)) := by
  rw [List.getD_eq_getElem?_getD, List.getElem?_eq_getElem h]; simp [bls, h]
theorem bls_one (l : List Bool) : ∀ v ∈ bls l, one v = true := by
  intro v hv
  simp only [bls, List.mem_map] at hv
  obtain ⟨b, _, rfl⟩ := hv
  rfl
theorem bls_set (l : List Bool) (i : Nat) (b : Bool) : (bls l).set i (.bool b) = bls (l.set i b) := by simp [bls, List.map_set]
end Go.Proofs.Ytpinpccamfhofaa.Bd

/-
  A block device: contracts of the program's methods. No condition beyond those stated.
-/
set_option maxRecDepth 100000
namespace Go.Proofs.Ytpinpccamfhofaa.Bd
open Go Go.Ev Go.Proofs

section
variable {w : World} {Q : Value → World → Prop}

/-- slices.Clone at strings -/
theorem cloneS_c {a : Option Addr} {n c : Nat} {l : List Sec} (h : Reads w a (strs l)) (hl : l.length = n) (hn : n ≤ 1000000)
    (hQ : ∀ a' c' w', Sl w' 9 1 a' n c' (strs l) → (∀ b, a' = some ⟨b, 0, none⟩ → w.heap.size ≤ b) → Ext w w' (fun _ => False) → Q (.slice a' n c') w') :
    CallE Try.prog 62 #[.slice a n c] w Q := by
  apply C.slices_Clone___string_string_
  unfold W.slices_Clone___string_string_
  refine qB sl_nil ?_
  refine br_of (fun h0 => ?_) (fun _ => ?_)
  · have : a = none := by cases a; rfl; cases h0
    subst this
    rcases h with h | ⟨p, hp, _⟩
    · have : l = [] := by cases l with | nil => rfl | cons _ _ => simp [strs] at h
      subst this
      simp only [List.length_nil] at hl
      subst hl
      exact hQ none 0 w (.inl ⟨rfl, rfl, rfl, rfl⟩) (fun b hb => by cases hb) (Ext.refl _ _)
    · cases hp
  · refine al_i fun b w1 hb a1 e1 z1 => ?_
    refine ap_i 9 1 (n := 0) (c := 0) (xs := []) (vs := strs l) (.inr ⟨b, [], rfl, a1, rfl, rfl, Nat.le_refl _⟩) (h.ext e1 (fun _ _ _ h => h)) (by rw [strs_length, hl, Nat.mul_one]) (strs_one l) (by omega) fun a' c' w2 s2 hor _ e2 => fs ?_
    rw [Nat.zero_add, List.nil_append] at *
    refine hQ a' c' w2 s2 (fun b' hb' => ?_) (e1.trans e2 (fun _ _ h => h) (fun b' hb' h => by simp only [Option.some.injEq, Addr.mk.injEq, and_true] at h; omega))
    rcases hor b' hb' with h | h
    · simp only [Option.some.injEq, Addr.mk.injEq, and_true] at h; omega
    · omega
/-- slices.Clone at bools -/
theorem cloneB_c {a : Option Addr} {n c : Nat} {l : List Bool} (h : Reads w a (bls l)) (hl : l.length = n) (hn : n ≤ 140737488355328)
    (hQ : ∀ a' c' w', Sl w' 4 1 a' n c' (bls l) → (∀ b, a' = some ⟨b, 0, none⟩ → w.heap.size ≤ b) → Ext w w' (fun _ => False) → Q (.slice a' n c') w') :
    CallE Try.prog 80 #[.slice a n c] w Q := by
  apply C.slices_Clone___bool_bool_
  unfold W.slices_Clone___bool_bool_
  refine qB sl_nil ?_
  refine br_of (fun h0 => ?_) (fun _ => ?_)
  · have : a = none := by cases a; rfl; cases h0
    subst this
    rcases h with h | ⟨p, hp, _⟩
    · have : l = [] := by cases l with | nil => rfl | cons _ _ => simp [bls] at h
      subst this
      simp only [List.length_nil] at hl
      subst hl
      exact hQ none 0 w (.inl ⟨rfl, rfl, rfl, rfl⟩) (fun b hb => by cases hb) (Ext.refl _ _)
    · cases hp
  · refine al_i fun b w1 hb a1 e1 z1 => ?_
    refine ap_0 4 (vs := bls l) (.inr ⟨b, [], rfl, a1, rfl, rfl, Nat.le_refl _⟩) (h.ext e1 (fun _ _ _ h => h)) (by rw [bls_length, hl]) (bls_one l) hn fun a' c' w2 s2 hor _ e2 => fs ?_
    refine hQ a' c' w2 s2 (fun b' hb' => ?_) (e1.trans e2 (fun _ _ h => h) (fun b' hb' h => by simp only [Option.some.injEq, Addr.mk.injEq, and_true] at h; omega))
    rcases hor b' hb' with h | h
    · simp only [Option.some.injEq, Addr.mk.injEq, and_true] at h; omega
    · omega
end

/-- What a disk's block holds. -/
def dkc (db vb vc : Nat) (ca : Option Addr) (cc : Nat) (ka : Option Addr) (kn kc : Nat) (lf : Int) (n cn : Nat) (off pl : Bool) : List Value :=
  [.slice (some ⟨db, 0, none⟩) n n, .slice (some ⟨vb, 0, none⟩) n vc, .slice ca cn cc, .bool off, .bool pl, .int .i64 lf, .slice ka kn kc]

/-- Block p holds the program's disk in state s. -/
structure DkAt (w : World) (p db vb vc : Nat) (ca : Option Addr) (cc : Nat) (ka : Option Addr) (kn kc : Nat) (lf : Int) (s : St) : Prop where
  d : At w p (dkc db vb vc ca cc ka kn kc lf s.S.length s.C.length s.off s.plan.isSome) 114
  dur : At w db (strs s.S) 9
  vis : Sl w 9 1 (some ⟨vb, 0, none⟩) s.S.length vc (strs (all s.C s.S))
  cac : Sl w 164 2 ca s.C.length cc (wcells s.C)
  kp : ∀ q, s.plan = some q → lf = (q.1 : Int) ∧ kn = q.2.length ∧ Reads w ka (bls q.2)
  n1 : p ≠ db
  n2 : p ≠ vb
  n3 : db ≠ vb
  nc : ∀ b, ca = some ⟨b, 0, none⟩ → b ≠ p ∧ b ≠ db ∧ b ≠ vb
  nk : ∀ q : Addr, ka = some q → q.block ≠ p ∧ q.block ≠ db ∧ q.block ≠ vb ∧ ca ≠ some ⟨q.block, 0, none⟩
  lk : ∀ q : Addr, ka = some q → q.block < w.heap.size

/-- Block p holds the program's disk in state s; what it has lies in the blocks F. -/
def Dk (w : World) (p : Nat) (s : St) (F : Nat → Prop) : Prop :=
  ∃ db vb vc ca cc ka kn kc lf, DkAt w p db vb vc ca cc ka kn kc lf s ∧ F p ∧ F db ∧ F vb ∧ (∀ b, ca = some ⟨b, 0, none⟩ → F b) ∧ (∀ q : Addr, ka = some q → F q.block)

theorem DkAt.ext {w w' : World} {p db vb vc : Nat} {ca : Option Addr} {cc : Nat} {ka : Option Addr} {kn kc : Nat} {lf : Int} {s : St} {X : Nat → Prop} (h : DkAt w p db vb vc ca cc ka kn kc lf s) (he : Ext w w' X)
    (h1 : ¬ X p) (h2 : ¬ X db) (h3 : ¬ X vb) (h4 : ∀ b, ca = some ⟨b, 0, none⟩ → ¬ X b) (h5 : ∀ q : Addr, ka = some q → ¬ X q.block) : DkAt w' p db vb vc ca cc ka kn kc lf s :=
  ⟨h.d.ext he h1, h.dur.ext he h2, h.vis.ext he (fun b hb => by simp only [Option.some.injEq, Addr.mk.injEq, and_true] at hb; subst hb; exact h3), h.cac.ext he h4, fun q hq => ⟨(h.kp q hq).1, (h.kp q hq).2.1, (h.kp q hq).2.2.ext he (fun r hr _ => h5 r hr)⟩, h.n1, h.n2, h.n3, h.nc, h.nk, fun q hq => Nat.lt_of_lt_of_le (h.lk q hq) he.size⟩
theorem Dk.ext {w w' : World} {p : Nat} {s : St} {F X : Nat → Prop} (h : Dk w p s F) (he : Ext w w' X) (hx : ∀ b, F b → ¬ X b) : Dk w' p s F := by
  obtain ⟨db, vb, vc, ca, cc, ka, kn, kc, lf, h, f1, f2, f3, f4, f5⟩ := h
  exact ⟨db, vb, vc, ca, cc, ka, kn, kc, lf, h.ext he (hx _ f1) (hx _ f2) (hx _ f3) (fun b hb => hx _ (f4 b hb)) (fun q hq => hx _ (f5 q hq)), f1, f2, f3, f4, f5⟩
theorem Dk.mono {w : World} {p : Nat} {s : St} {F G : Nat → Prop} (h : Dk w p s F) (hx : ∀ b, F b → G b) : Dk w p s G := by
  obtain ⟨db, vb, vc, ca, cc, ka, kn, kc, lf, h, f1, f2, f3, f4, f5⟩ := h
  exact ⟨db, vb, vc, ca, cc, ka, kn, kc, lf, h, hx _ f1, hx _ f2, hx _ f3, fun b hb => hx _ (f4 b hb), fun q hq => hx _ (f5 q hq)⟩
theorem Dk.lt {w : World} {p : Nat} {s : St} {F : Nat → Prop} (h : Dk w p s F) : p < w.heap.size := by
  obtain ⟨db, vb, vc, ca, cc, ka, kn, kc, lf, h, _⟩ := h
  exact h.d.lt

section
variable {w : World} {Q : Value → World → Prop} {p : Nat} {s : St} {F : Nat → Prop}

theorem size_c (h : Dk w p s F) (hQ : Q (.int .i64 (s.S.length : Int)) w) : CallE Try.prog 63 #[.pointer (some ⟨p, 0, none⟩)] w Q := by
  obtain ⟨db, vb, vc, ca, cc, ka, kn, kc, lf, h, _⟩ := h
  apply C.blockdev_Disk_Size
  unfold W.blockdev_Disk_Size
  simp only [add_mk, Nat.zero_add]
  refine ldL h.d rfl ?_
  exact hQ
theorem pending_c (h : Dk w p s F) (hQ : Q (.int .i64 (s.C.length : Int)) w) : CallE Try.prog 28 #[.pointer (some ⟨p, 0, none⟩)] w Q := by
  obtain ⟨db, vb, vc, ca, cc, ka, kn, kc, lf, h, _⟩ := h
  apply C.blockdev_Disk_Pending
  unfold W.blockdev_Disk_Pending
  simp only [add_mk, Nat.zero_add]
  refine ldL h.d rfl ?_
  exact hQ

theorem read_c {i : Int} (h : Dk w p s F) (hQ : Q (.tuple #[.string (mkS (rd s i).1), .int .i64 (rd s i).2]) w) : CallE Try.prog 66 #[.pointer (some ⟨p, 0, none⟩), .int .i64 i] w Q := by
  apply C.blockdev_Disk_Read
  unfold W.blockdev_Disk_Read
  simp only [add_mk, Nat.zero_add]
  unfold rd at hQ
  refine br_of (fun h0 => ?_) (fun h0 => ?_)
  · simp only [decide_eq_true_eq] at h0
    rw [if_pos (.inl h0)] at hQ
    exact hQ
  simp only [decide_eq_false_iff_not] at h0
  refine size_c h (fi ?_)
  refine br_of (fun h1 => ?_) (fun h1 => ?_)
  · simp only [decide_eq_true_eq] at h1
    rw [if_pos (.inr h1)] at hQ
    exact hQ
  simp only [decide_eq_false_iff_not] at h1
  rw [if_neg (by omega)] at hQ
  obtain ⟨db, vb, vc, ca, cc, ka, kn, kc, lf, h, _⟩ := h
  refine ldB h.d rfl ?_
  refine br_of (fun h2 => ?_) (fun h2 => ?_)
  · rw [if_pos h2] at hQ
    exact hQ
  rw [if_neg (by simp [h2])] at hQ
  refine ldL h.d rfl ?_
  obtain ⟨n, rfl⟩ := nat_of (show 0 ≤ i by omega)
  refine ixb n 1 9 (by omega) ?_
  refine slL h.vis (by rw [Nat.mul_one]; exact strs_getD (by rw [all_length]; omega)) (ft ?_)
  exact hQ

theorem removePlan_c {db vb vc : Nat} {ca : Option Addr} {cc : Nat} {ka : Option Addr} {kn kc : Nat} {lf : Int} {n cn : Nat} {off pl : Bool} (h : At w p (dkc db vb vc ca cc ka kn kc lf n cn off pl) 114)
    (hQ : ∀ w', At w' p (dkc db vb vc ca cc none 0 0 0 n cn off false) 114 → Ext w w' (· = p) → w'.heap.size = w.heap.size → Q (.tuple #[]) w') : CallE Try.prog 79 #[.pointer (some ⟨p, 0, none⟩)] w Q := by
  apply C.blockdev_Disk_removePlan
  unfold W.blockdev_Disk_removePlan
  simp only [add_mk, Nat.zero_add]
  refine st_i h (by show 4 < 7; omega) fun w1 a1 e1 z1 => ?_
  refine st_i a1 (by show 5 < 7; omega) fun w2 a2 e2 z2 => ?_
  refine st_i a2 (by show 6 < 7; omega) fun w3 a3 e3 z3 => ?_
  exact hQ w3 a3 ((e1.tr e2).tr e3) (by omega)

/-- A power loss. -/
theorem lose_c {ka' : Option Addr} {kn' kc' : Nat} {kl : List Bool} {m db vb vc : Nat} {ca : Option Addr} {cc : Nat} {ka : Option Addr} {kn kc : Nat} {lf : Int} (h : DkAt w p db vb vc ca cc ka kn kc lf s) (f1 : F p) (f2 : F db) (f3 : F vb) (hok : Ok m 1000000 s) (hk : Reads w ka' (bls kl)) (hkn : kl.length = kn')
    (hne : ∀ q : Addr, ka' = some q → kl ≠ [] → q.block ≠ db)
    (hQ : ∀ w', Dk w' p (lose s kl) F → Ext w w' F → Q (.tuple #[]) w') :
    CallE Try.prog 78 #[.pointer (some ⟨p, 0, none⟩), .slice ka' kn' kc'] w Q := by
  have hcl := hok.cl
  have hlen := hok.len
  apply C.blockdev_Disk_lose
  unfold W.blockdev_Disk_lose
  simp only [add_mk, Nat.zero_add]
  refine ldL h.d rfl ?_
  have hdlt := h.dur.lt
  refine LoopW.nat s.C.length (fun i x w' => x = ((i : Int), ()) ∧ At w' db (strs (sel (s.C.take i) kl s.S)) 9 ∧ Ext w w' (· = db)) ⟨rfl, by rw [List.take_zero]; exact h.dur, Ext.refl _ _⟩ ?_
  rintro i x w1 next hi ⟨rfl, a1, e1⟩ hnext
  dsimp only
  by_cases hlt : i < s.C.length
  case neg =>
    rw [decide_eq_false (by omega), br_false]
    obtain rfl : i = s.C.length := by omega
    rw [List.take_length] at a1
    unfold W.blockdev_Disk_lose_k6
    simp only [add_mk, Nat.zero_add]
    have d1 := h.d.ext e1 h.n1
    refine st_i d1 (by show 2 < 7; omega) fun w2 a2 e2 z2 => ?_
    show dr w2 _
    unfold dr
    refine ldL (w := drew w2) a2 rfl ?_
    refine ldL (w := drew w2) a2 rfl ?_
    have e12 : Ext w w2 (fun b => b = db ∨ b = p) := e1.trans e2 (fun _ _ h => .inl h) (fun _ _ h => .inr h)
    have vis2 : Sl (drew w2) 9 1 (some ⟨vb, 0, none⟩) s.S.length vc (strs (all s.C s.S)) := h.vis.ext e12.drew_ (fun b hb hx => by simp only [Option.some.injEq, Addr.mk.injEq, and_true] at hb; subst hb; rcases hx with hx | hx; exact h.n3 hx.symm; exact h.n2 hx.symm)
    have dur2 : At (drew w2) db (strs (sel s.C kl s.S)) 9 := a1.ext e2.drew_ (Ne.symm h.n1)
    refine cp_sl 9 1 (vs := strs (sel s.C kl s.S)) vis2 (.inr ⟨_, rfl, fun j hj => by rw [add_mk, dur2.cell, Nat.zero_add]⟩) (by rw [strs_length, sel_length, Nat.mul_one]) (strs_one _) fun w3 s3 e3 z3 => fi ?_
    have d3 := At.ext (w := drew w2) a2 e3 h.n2
    refine st_i d3 (by show 3 < 7; omega) fun w4 a4 e4 z4 => ?_
    refine removePlan_c a4 fun w5 a5 e5 z5 => ⟨rfl, ?_⟩
    have e25 : Ext (drew w2) w5 (fun b => b = vb ∨ b = p) := e3.trans (e4.tr e5) (fun _ _ h => .inl h) (fun _ _ h => .inr h)
    have hdlose : (lose s kl).S.length = s.S.length := sel_length _ _ _
    have e05 : Ext w w5 F := e12.trans e25.of_drew (fun b _ hx => by rcases hx with rfl | rfl; exact f2; exact f1) (fun b _ hx => by rcases hx with rfl | rfl; exact f3; exact f1)
    refine hQ w5 ⟨db, vb, vc, none, 0, none, 0, 0, 0, ⟨?_, ?_, ?_, .inl ⟨rfl, rfl, rfl, rfl⟩, fun q hq => (by cases hq), h.n1, h.n2, h.n3, fun b hb => (by cases hb), fun b hb => (by cases hb), fun b hb => (by cases hb)⟩, f1, f2, f3, fun b hb => (by cases hb), fun b hb => (by cases hb)⟩ e05
    · rw [hdlose]
      exact a5
    · exact dur2.ext e25 (fun hx => by rcases hx with hx | hx; exact h.n3 hx; exact h.n1 hx.symm)
    · rw [hdlose]
      exact s3.ext (e4.tr e5) (fun b hb hx => by simp only [Option.some.injEq, Addr.mk.injEq, and_true] at hb; subst hb; exact h.n2 hx.symm)
  rw [decide_eq_true (by omega), br_true]
  obtain ⟨cb, rfl⟩ := h.cac.one_block (by omega)
  have cac1 : Sl w1 164 2 (some ⟨cb, 0, none⟩) s.C.length cc (wcells s.C) := h.cac.ext e1 (fun b hb hx => (h.nc b hb).2.1 hx)
  obtain ⟨sp, ac, hc1, hc2, hc3⟩ := cac1.at_
  refine ixb i 2 164 hlt ?_
  refine ld_g 2 ac (by rw [List.length_append, hc1]; omega) ?_
  have hrow : ((wcells s.C ++ sp).drop (i * 2)).take 2 = wrow s.C[i] := by
    rw [List.drop_append_of_le_length (by omega), List.take_append_of_le_length (by rw [List.length_drop]; omega)]
    exact flat_row (f := wrow) (m := 2) (fun _ => rfl) s.C i hlt
  rw [hrow]
  refine fg ?_
  refine al_st 2 rfl (wrow_one _) fun xb w2 hxb a2 e2 z2 => ?_
  have hsz := e1.size
  have dur2 := a1.ext e2 (fun h => h)
  have e02 : Ext w w2 (· = db) := e1.tr0 e2
  have hidx := hok.idx s.C[i] (List.getElem_mem hlt)
  have fin : ∀ b : Bool, b = kl.getD i false → W.blockdev_Disk_lose_k4 ⟨p, 0, none⟩ ka' kn' kc' ⟨xb, 0, none⟩ (some ⟨cb, 0, none⟩) s.C.length cc (s.C.length : Int) (i : Int) b next w2 Q := by
    intro b hb
    unfold W.blockdev_Disk_lose_k4
    simp only [add_mk, Nat.zero_add]
    rw [inc_nat (by omega)]
    have hsucc := sel_take_succ hlt kl s.S
    rw [← hb] at hsucc
    cases b with
    | false =>
      rw [br_false]
      refine hnext hlt _ _ ⟨rfl, ?_, e02⟩
      rw [hsucc]
      exact dur2
    | true =>
      rw [br_true]
      show dr w2 _
      unfold dr
      have d2 := h.d.ext e02 h.n1
      refine ldL (w := drew w2) d2 rfl ?_
      refine ldI (w := drew w2) a2 rfl ?_
      refine ldT (w := drew w2) a2 rfl ?_
      refine ixb s.C[i].1 1 9 (by rw [hlen]; exact hidx) ?_
      refine st_i (w := drew w2) dur2 (by rw [strs_length, sel_length, hlen]; omega) fun w3 a3 e3 z3 => ?_
      rw [strs_set, Nat.mul_one] at a3
      refine hnext hlt _ _ ⟨rfl, ?_, e02.drew_.tr e3⟩
      rw [hsucc]
      exact a3
  by_cases hik : i < kl.length
  · rw [decide_eq_true (by omega), br_true]
    obtain ⟨q, rfl⟩ := hk.some_ (by rw [bls_length]; omega)
    have hk2 : Reads w2 (some q) (bls kl) := hk.ext e02 (fun q' hq' _ hx => hne q' hq' (fun h => by subst h; simp at hik) hx)
    refine ixs i 1 4 (by omega) ?_
    refine rdL hk2 (by rw [Nat.mul_one]; exact bls_getD hik) (fb ?_)
    exact fin _ rfl
  · rw [decide_eq_false (by omega), br_false]
    refine fin _ ?_
    rw [List.getD_eq_getElem?_getD, List.getElem?_eq_none (by omega)]; rfl

theorem write_k10 {i : Nat} {d : Sec} {m db vb vc : Nat} {ca : Option Addr} {cc : Nat} {ka : Option Addr} {kn kc : Nat} {lf : Int} {pl : Option (Nat × List Bool)} (h : DkAt w p db vb vc ca cc ka kn kc lf ⟨s.S, s.C, s.off, pl⟩) (f1 : F p) (f2 : F db) (f3 : F vb) (f4 : ∀ b, ca = some ⟨b, 0, none⟩ → F b) (f5 : ∀ q : Addr, ka = some q → F q.block)
    (hok : Ok m 1000000 s) (hi : i < s.S.length)
    (hQ : ∀ w' F', Dk w' p ⟨s.S, s.C ++ [(i, d)], s.off, pl⟩ F' → Ext w w' F → (∀ b, F' b → F b ∨ w.heap.size ≤ b) → Q (.int .i64 0) w') :
    W.blockdev_Disk_Write_k10 ⟨p, 0, none⟩ (i : Int) (mkS d) w Q := by
  unfold W.blockdev_Disk_Write_k10
  simp only [add_mk, Nat.zero_add]
  have hcl := hok.cl
  refine ldL h.d rfl ?_
  refine al_i fun xb w1 hxb a1 e1 z1 => ?_
  have hcac : Sl w1 164 2 ca s.C.length cc (wcells s.C) := h.cac.ext e1 (fun _ _ h => h)
  refine ap_i 164 2 (vs := wrow (i, d)) hcac (.inr ⟨_, rfl, fun j hj => by rw [add_mk, a1.cell, Nat.zero_add]; rfl⟩) rfl (wrow_one _) (by show s.C.length + 1 ≤ _; omega) fun ca' cc' w2 s2 hor hsome e2 => fs ?_
  have hp1 := h.d.lt
  have d2 : At w2 p _ _ := (h.d.ext e1 (fun h => h)).ext e2 (fun hx => (h.nc _ hx).1 rfl)
  refine st_i d2 (by show 2 < 7; omega) fun w3 a3 e3 z3 => ?_
  refine ldL a3 rfl ?_
  have e02 : Ext w w2 (fun b => ca = some ⟨b, 0, none⟩) := e1.trans e2 (fun _ _ h => h.elim) (fun _ _ h => h)
  have e03 : Ext w w3 (fun b => ca = some ⟨b, 0, none⟩ ∨ b = p) := e02.trans e3 (fun _ _ h => .inl h) (fun _ _ h => .inr h)
  have vis3 : Sl w3 9 1 (some ⟨vb, 0, none⟩) s.S.length vc (strs (all s.C s.S)) := h.vis.ext e03 (fun b hb hx => by
    simp only [Option.some.injEq, Addr.mk.injEq, and_true] at hb
    subst hb
    rcases hx with hx | hx
    · exact (h.nc _ hx).2.2 rfl
    · exact h.n2 hx.symm)
  refine ixb i 1 9 hi ?_
  refine slS vis3 (by rw [strs_length, all_length]; omega) fun w4 s4 e4 z4 => ?_
  rw [strs_set, Nat.mul_one, ← all_snoc s.C (i, d)] at s4
  have e04 : Ext w w4 (fun b => ca = some ⟨b, 0, none⟩ ∨ b = p ∨ b = vb) := e03.trans e4 (fun _ _ h => by rcases h with h | h; exact .inl h; exact .inr (.inl h)) (fun _ _ h => .inr (.inr h))
  have e24 : Ext w2 w4 (fun b => b = p ∨ b = vb) := e3.trans e4 (fun _ _ h => .inl h) (fun _ _ h => .inr h)
  have hz2 := e02.size
  have hdb := h.dur.lt
  have hvb := h.vis.lt
  have nca : ∀ b, ca' = some ⟨b, 0, none⟩ → b ≠ p ∧ b ≠ db ∧ b ≠ vb := by
    intro b hb
    rcases hor b hb with hx | hx
    · exact h.nc b hx
    · exact ⟨by omega, by omega, by omega⟩
  have hkx : ∀ q : Addr, ka = some q → ¬ (ca = some ⟨q.block, 0, none⟩ ∨ q.block = p ∨ q.block = vb) := by
    intro q hq hx
    obtain ⟨h1, h2, h3, h4⟩ := h.nk q hq
    rcases hx with hx | hx | hx
    · exact h4 hx
    · exact h1 hx
    · exact h3 hx
  have hnew : At w4 p (dkc db vb vc ca' cc' ka kn kc lf s.S.length (s.C.length + 1) s.off pl.isSome) 114 := At.ext a3 e4 h.n2
  refine hQ w4 (fun b => F b ∨ w.heap.size ≤ b) ⟨db, vb, vc, ca', cc', ka, kn, kc, lf, ⟨?_, ?_, s4, ?_, fun q hq => ?_, h.n1, h.n2, h.n3, nca, fun q hq => ?_, fun q hq => ?_⟩, .inl f1, .inl f2, .inl f3, fun b hb => ?_, fun q hq => .inl (f5 q hq)⟩ ?_ (fun b hb => hb)
  · rw [show (s.C ++ [(i, d)]).length = s.C.length + 1 by simp]
    exact hnew
  · exact h.dur.ext e04 (fun hx => by
      rcases hx with hx | hx | hx
      · exact (h.nc _ hx).2.1 rfl
      · exact h.n1 hx.symm
      · exact h.n3 hx)
  · rw [show (s.C ++ [(i, d)]).length = s.C.length + 1 by simp]
    have := s2.ext e24 (fun b hb hx => by
      obtain ⟨h1, h2, h3⟩ := nca b hb
      rcases hx with hx | hx
      · exact h1 hx
      · exact h3 hx)
    rw [← wcells_snoc] at this
    exact this
  · obtain ⟨h1, h2, h3⟩ := h.kp q hq
    exact ⟨h1, h2, h3.ext e04 (fun r hr _ => hkx r hr)⟩
  · obtain ⟨h1, h2, h3, h4⟩ := h.nk q hq
    refine ⟨h1, h2, h3, fun hx => ?_⟩
    rcases hor _ hx with hy | hy
    · exact h4 hy
    · have := h.lk q hq
      omega
  · exact Nat.lt_of_lt_of_le (h.lk q hq) e04.size
  · rcases hor b hb with hx | hx
    · exact .inl (f4 b hx)
    · right; omega
  · refine e04.mono fun b _ hx => ?_
    rcases hx with hx | rfl | rfl
    · exact f4 b hx
    · exact f1
    · exact f3

theorem write_c {i : Int} {d : Sec} {m : Nat} (h : Dk w p s F) (hok : Ok m 1000000 s)
    (hQ : ∀ w' F', Dk w' p (wr s i d).1 F' → Ext w w' F → (∀ b, F' b → F b ∨ w.heap.size ≤ b) → Q (.int .i64 (wr s i d).2) w') :
    CallE Try.prog 64 #[.pointer (some ⟨p, 0, none⟩), .int .i64 i, .string (mkS d)] w Q := by
  apply C.blockdev_Disk_Write
  unfold W.blockdev_Disk_Write
  simp only [add_mk, Nat.zero_add]
  unfold wr at hQ
  have same : (wr s i d) = (s, 1) → Q (.int .i64 1) w := fun he => by unfold wr at he; rw [he] at hQ; exact hQ w F h (Ext.refl _ _) (fun _ hb => .inl hb)
  refine br_of (fun h0 => ?_) (fun h0 => ?_)
  · simp only [decide_eq_true_eq] at h0
    exact same (by unfold wr; rw [if_pos (.inl h0)])
  simp only [decide_eq_false_iff_not] at h0
  refine size_c h (fi ?_)
  refine br_of (fun h1 => ?_) (fun h1 => ?_)
  · simp only [decide_eq_true_eq] at h1
    exact same (by unfold wr; rw [if_pos (.inr (.inl h1))])
  simp only [decide_eq_false_iff_not] at h1
  rw [mkS_size]
  refine br_of (fun h2 => ?_) (fun h2 => ?_)
  · rw [bne_iff_ne] at h2
    exact same (by unfold wr; rw [if_pos (.inr (.inr (by omega)))])
  have h2' : d.length = 64 := by
    rw [bne_eq_false_iff_eq] at h2
    omega
  rw [if_neg (by rintro (h | h | h) <;> omega)] at hQ
  have h' := h
  obtain ⟨db, vb, vc, ca, cc, ka, kn, kc, lf, h, f1, f2, f3, f4, f5⟩ := h
  refine ldB h.d rfl ?_
  refine br_of (fun h3 => ?_) (fun h3 => ?_)
  · rw [if_pos h3] at hQ
    exact hQ w F h' (Ext.refl _ _) (fun _ hb => .inl hb)
  rw [if_neg (by simp [h3])] at hQ
  obtain ⟨n, rfl⟩ := nat_of (show 0 ≤ i by omega)
  rw [Int.toNat_natCast] at hQ
  refine ldB h.d rfl ?_
  cases hp : s.plan with
  | none =>
    rw [hp] at hQ
    rw [Option.isSome_none, br_false]
    have hs : (⟨s.S, s.C, s.off, none⟩ : St) = s := by rw [← hp]
    exact write_k10 (s := s) (pl := none) (by rw [hs]; exact h) f1 f2 f3 f4 f5 hok (by omega) hQ
  | some q =>
    obtain ⟨k, kl⟩ := q
    rw [hp] at hQ
    rw [Option.isSome_some, br_true]
    obtain ⟨hl1, hl2, hl3⟩ := h.kp _ hp
    dsimp only at hl1 hl2 hl3
    subst hl1
    refine ldI h.d rfl ?_
    cases k with
    | zero =>
      rw [show (((0 : Nat) : Int) == 0) = true from rfl, br_true]
      refine ldL h.d rfl ?_
      refine lose_c h f1 f2 f3 hok hl3 hl2.symm (fun q hq _ => (h.nk q hq).2.1) fun w' hd he => ⟨rfl, ?_⟩
      exact hQ w' F hd he (fun _ hb => .inl hb)
    | succ k =>
      rw [show (((k + 1 : Nat) : Int) == 0) = false by rw [beq_eq_false_iff_ne]; omega, br_false]
      refine ldI h.d rfl ?_
      have hpl := hok.pl _ hp
      have hpl' : k + 1 ≤ 1000000 := hpl
      rw [wrap_i64 (by omega) (by omega)]
      refine st_i h.d (by show 5 < 7; omega) fun w1 a1 e1 z1 => ?_
      have h1 : DkAt w1 p db vb vc ca cc ka kn kc ((k : Nat) : Int) ⟨s.S, s.C, s.off, some (k, kl)⟩ := by
        refine ⟨?_, h.dur.ext e1 (Ne.symm h.n1), h.vis.ext e1 (fun b hb hx => ?_), h.cac.ext e1 (fun b hb hx => (h.nc b hb).1 hx), fun q hq => ?_, h.n1, h.n2, h.n3, h.nc, h.nk, fun q hq => Nat.lt_of_lt_of_le (h.lk q hq) e1.size⟩
        · rw [show (((k + 1 : Nat) : Int) - 1) = (k : Int) by omega, hp] at a1
          exact a1
        · simp only [Option.some.injEq, Addr.mk.injEq, and_true] at hb
          subst hb
          exact h.n2 hx.symm
        · simp only [Option.some.injEq] at hq
          subst hq
          exact ⟨rfl, hl2, hl3.ext e1 (fun r hr _ hx => (h.nk r hr).1 hx)⟩
      refine write_k10 (s := s) (pl := some (k, kl)) h1 f1 f2 f3 f4 f5 hok (by omega) fun w' F' hd he hF => ?_
      refine hQ w' F' hd ((e1.mono fun b _ hb => by subst hb; exact f1).tr he) (fun b hb => ?_)
      rw [z1] at hF
      exact hF b hb

theorem flush_c {m : Nat} (h : Dk w p s F) (hok : Ok m 1000000 s) (hQ : ∀ w', Dk w' p (fl s).1 F → Ext w w' F → Q (.int .i64 (fl s).2) w') :
    CallE Try.prog 65 #[.pointer (some ⟨p, 0, none⟩)] w Q := by
  apply C.blockdev_Disk_Flush
  unfold W.blockdev_Disk_Flush
  simp only [add_mk, Nat.zero_add]
  unfold fl at hQ
  have h' := h
  obtain ⟨db, vb, vc, ca, cc, ka, kn, kc, lf, h, f1, f2, f3, f4, f5⟩ := h
  refine ldB h.d rfl ?_
  refine br_of (fun h3 => ?_) (fun h3 => ?_)
  · rw [if_pos h3] at hQ
    exact hQ w h' (Ext.refl _ _)
  rw [if_neg (by simp [h3])] at hQ
  have hcl := hok.cl
  have hlen := hok.len
  refine ldL h.d rfl ?_
  refine LoopW.nat s.C.length (fun i x w' => x = ((i : Int), ()) ∧ At w' db (strs (all (s.C.take i) s.S)) 9 ∧ Ext w w' (· = db)) ⟨rfl, by rw [List.take_zero]; exact h.dur, Ext.refl _ _⟩ ?_
  rintro i x w1 next hi ⟨rfl, a1, e1⟩ hnext
  dsimp only
  have d1 := h.d.ext e1 h.n1
  by_cases hlt : i < s.C.length
  case neg =>
    rw [decide_eq_false (by omega), br_false]
    obtain rfl : i = s.C.length := by omega
    rw [List.take_length] at a1
    refine st_i d1 (by show 2 < 7; omega) fun w2 a2 e2 z2 => ?_
    have e02 : Ext w w2 (fun b => b = db ∨ b = p) := e1.trans e2 (fun _ _ h => .inl h) (fun _ _ h => .inr h)
    refine hQ w2 ⟨db, vb, vc, none, 0, ka, kn, kc, lf, ⟨?_, a1.ext e2 (Ne.symm h.n1), ?_, .inl ⟨rfl, rfl, rfl, rfl⟩, fun q hq => ?_, h.n1, h.n2, h.n3, fun b hb => (by cases hb), fun q hq => ⟨(h.nk q hq).1, (h.nk q hq).2.1, (h.nk q hq).2.2.1, by simp⟩, fun q hq => Nat.lt_of_lt_of_le (h.lk q hq) e02.size⟩, f1, f2, f3, fun b hb => (by cases hb), f5⟩ (e02.mono fun b _ hx => by rcases hx with rfl | rfl; exact f2; exact f1)
    · rw [show (all s.C s.S).length = s.S.length from all_length _ _]
      exact a2
    · rw [show (all s.C s.S).length = s.S.length from all_length _ _]
      refine Sl.ext (w := w) h.vis e02 (fun b hb hx => ?_)
      simp only [Option.some.injEq, Addr.mk.injEq, and_true] at hb
      subst hb
      rcases hx with hx | hx
      · exact h.n3 hx.symm
      · exact h.n2 hx.symm
    · obtain ⟨h1, h2, h3⟩ := h.kp q hq
      refine ⟨h1, h2, h3.ext e02 (fun r hr _ hx => ?_)⟩
      rcases hx with hx | hx
      · exact (h.nk r hr).2.1 hx
      · exact (h.nk r hr).1 hx
  rw [decide_eq_true (by omega), br_true]
  obtain ⟨cb, rfl⟩ := h.cac.one_block (by omega)
  have cac1 : Sl w1 164 2 (some ⟨cb, 0, none⟩) s.C.length cc (wcells s.C) := h.cac.ext e1 (fun b hb hx => (h.nc b hb).2.1 hx)
  obtain ⟨sp, ac, hc1, hc2, hc3⟩ := cac1.at_
  refine ixb i 2 164 hlt ?_
  refine ld_g 2 ac (by rw [List.length_append, hc1]; omega) ?_
  have hrow : ((wcells s.C ++ sp).drop (i * 2)).take 2 = wrow s.C[i] := by
    rw [List.drop_append_of_le_length (by omega), List.take_append_of_le_length (by rw [List.length_drop]; omega)]
    exact flat_row (f := wrow) (m := 2) (fun _ => rfl) s.C i hlt
  rw [hrow]
  refine fg ?_
  refine al_st 2 rfl (wrow_one _) fun xb w2 hxb a2 e2 z2 => ?_
  have dur2 := a1.ext e2 (fun h => h)
  have e02 : Ext w w2 (· = db) := e1.tr0 e2
  have hidx := hok.idx s.C[i] (List.getElem_mem hlt)
  simp only [add_mk, Nat.zero_add]
  show dr w2 _
  unfold dr
  have d2 := h.d.ext e02 h.n1
  refine ldL (w := drew w2) d2 rfl ?_
  refine ldI (w := drew w2) a2 rfl ?_
  refine ldT (w := drew w2) a2 rfl ?_
  refine ixb s.C[i].1 1 9 (by rw [hlen]; exact hidx) ?_
  refine st_i (w := drew w2) dur2 (by rw [strs_length, all_length, hlen]; omega) fun w3 a3 e3 z3 => ?_
  rw [strs_set, Nat.mul_one, ← all_take_succ hlt] at a3
  rw [inc_nat (by omega)]
  exact hnext hlt _ _ ⟨rfl, a3, e02.drew_.tr e3⟩

theorem cutAfter_c {n : Int} {ka' : Option Addr} {kn' kc' : Nat} {kl : List Bool} (h : Dk w p s F) (hk : Reads w ka' (bls kl)) (hkn : kl.length = kn') (hkl : kn' ≤ 140737488355328) (hkF : ∀ q : Addr, ka' = some q → kl ≠ [] → ¬ F q.block)
    (hQ : ∀ w' F', Dk w' p (cut s n kl) F' → Ext w w' F → (∀ b, F' b → F b ∨ w.heap.size ≤ b) → Q (.tuple #[]) w') :
    CallE Try.prog 46 #[.pointer (some ⟨p, 0, none⟩), .int .i64 n, .slice ka' kn' kc'] w Q := by
  apply C.blockdev_Disk_CutAfter
  unfold W.blockdev_Disk_CutAfter
  simp only [add_mk, Nat.zero_add]
  unfold cut at hQ
  obtain ⟨db, vb, vc, ca, cc, ka, kn, kc, lf, h, f1, f2, f3, f4, f5⟩ := h
  have hvx : ∀ b, (some ⟨vb, 0, none⟩ : Option Addr) = some ⟨b, 0, none⟩ → ¬ b = p := by
    intro b hb hx
    simp only [Option.some.injEq, Addr.mk.injEq, and_true] at hb
    subst hb
    exact h.n2 hx.symm
  refine br_of (fun h0 => ?_) (fun h0 => ?_)
  · simp only [decide_eq_true_eq] at h0
    rw [if_pos h0] at hQ
    refine removePlan_c h.d fun w1 a1 e1 z1 => ⟨rfl, ?_⟩
    exact hQ w1 F ⟨db, vb, vc, ca, cc, none, 0, 0, 0, ⟨a1, h.dur.ext e1 (Ne.symm h.n1), h.vis.ext e1 hvx, h.cac.ext e1 (fun b hb hx => (h.nc b hb).1 hx), fun q hq => (by cases hq), h.n1, h.n2, h.n3, h.nc, fun q hq => (by cases hq), fun q hq => (by cases hq)⟩, f1, f2, f3, f4, fun q hq => (by cases hq)⟩ (e1.mono fun b _ hb => by subst hb; exact f1) (fun b hb => .inl hb)
  · simp only [decide_eq_false_iff_not] at h0
    rw [if_neg h0] at hQ
    refine st_i h.d (by show 4 < 7; omega) fun w1 a1 e1 z1 => ?_
    refine st_i a1 (by show 5 < 7; omega) fun w2 a2 e2 z2 => ?_
    have e02 := e1.tr e2
    have hk2 := hk.ext e02 (fun q hq hne hx => hkF q hq (fun h => hne (by rw [h]; rfl)) (hx ▸ f1))
    refine cloneB_c hk2 hkn hkl fun a' c' w3 s3 hnew e3 => fs ?_
    have a3 := a2.ext e3 (fun h => h)
    refine st_i a3 (by show 6 < 7; omega) fun w4 a4 e4 z4 => ?_
    have e04 : Ext w w4 (· = p) := (e02.tr0 e3).tr e4
    have hp1 := h.d.lt; have hp2 := h.dur.lt; have hp3 := h.vis.lt
    have hca : ∀ b, ca = some ⟨b, 0, none⟩ → b < w.heap.size := by
      intro b hb
      subst hb
      exact h.cac.lt
    have hnew' : ∀ q : Addr, a' = some q → w.heap.size ≤ q.block ∧ q.block < w3.heap.size := by
      intro q hq
      subst hq
      rcases s3 with ⟨hh, _⟩ | ⟨b, sp, hb, hat, _⟩
      · cases hh
      · cases hb
        have := hnew b rfl
        exact ⟨by show w.heap.size ≤ b; omega, hat.lt⟩
    refine hQ w4 (fun b => F b ∨ w.heap.size ≤ b) ⟨db, vb, vc, ca, cc, a', kn', c', n, ⟨a4, h.dur.ext e04 (Ne.symm h.n1), h.vis.ext e04 hvx, h.cac.ext e04 (fun b hb hx => (h.nc b hb).1 hx), fun q hq => ?_, h.n1, h.n2, h.n3, h.nc, fun q hq => ?_, fun q hq => ?_⟩, .inl f1, .inl f2, .inl f3, fun b hb => .inl (f4 b hb), fun q hq => .inr (hnew' q hq).1⟩ (e04.mono fun b _ hb => by subst hb; exact f1) (fun b hb => hb)
    · simp only [Option.some.injEq] at hq
      subst hq
      refine ⟨by show n = ((n.toNat : Nat) : Int); omega, hkn.symm, ?_⟩
      exact s3.reads.ext e4 (fun r hr _ hx => by have := (hnew' r hr).1; omega)
    · have := hnew' q hq
      exact ⟨by omega, by omega, by omega, fun hx => by have := hca _ hx; omega⟩
    · have := (hnew' q hq).2
      omega

theorem powerOff_c {ka' : Option Addr} {kn' kc' : Nat} {kl : List Bool} {m : Nat} (h : Dk w p s F) (hok : Ok m 1000000 s) (hk : Reads w ka' (bls kl)) (hkn : kl.length = kn') (hkF : ∀ q : Addr, ka' = some q → kl ≠ [] → ¬ F q.block)
    (hQ : ∀ w', Dk w' p (pOff s kl).1 F → Ext w w' F → Q (.int .i64 (pOff s kl).2) w') :
    CallE Try.prog 43 #[.pointer (some ⟨p, 0, none⟩), .slice ka' kn' kc'] w Q := by
  apply C.blockdev_Disk_PowerOff
  unfold W.blockdev_Disk_PowerOff
  simp only [add_mk, Nat.zero_add]
  unfold pOff at hQ
  have h' := h
  obtain ⟨db, vb, vc, ca, cc, ka, kn, kc, lf, h, f1, f2, f3, f4, f5⟩ := h
  refine ldB h.d rfl ?_
  refine br_of (fun h3 => ?_) (fun h3 => ?_)
  · rw [if_pos h3] at hQ
    exact hQ w h' (Ext.refl _ _)
  rw [if_neg (by simp [h3])] at hQ
  refine lose_c h f1 f2 f3 hok hk hkn (fun q hq hne hx => hkF q hq hne (hx ▸ f2)) fun w' hd he => ⟨rfl, ?_⟩
  exact hQ w' hd he

theorem powerOn_c (h : Dk w p s F) (hQ : ∀ w', Dk w' p (pOn s).1 F → Ext w w' F → Q (.int .i64 (pOn s).2) w') :
    CallE Try.prog 44 #[.pointer (some ⟨p, 0, none⟩)] w Q := by
  apply C.blockdev_Disk_PowerOn
  unfold W.blockdev_Disk_PowerOn
  simp only [add_mk, Nat.zero_add]
  unfold pOn at hQ
  have h' := h
  obtain ⟨db, vb, vc, ca, cc, ka, kn, kc, lf, h, f1, f2, f3, f4, f5⟩ := h
  refine ldB h.d rfl ?_
  cases hoff : s.off with
  | false =>
    rw [if_neg (by simp [hoff])] at hQ
    rw [Bool.not_false, br_true]
    exact hQ w h' (Ext.refl _ _)
  | true =>
    rw [if_pos hoff] at hQ
    rw [Bool.not_true, br_false]
    refine st_i h.d (by show 3 < 7; omega) fun w1 a1 e1 z1 => ?_
    refine hQ w1 ⟨db, vb, vc, ca, cc, ka, kn, kc, lf, ⟨a1, h.dur.ext e1 (Ne.symm h.n1), h.vis.ext e1 (fun b hb hx => ?_), h.cac.ext e1 (fun b hb hx => (h.nc b hb).1 hx), fun q hq => ?_, h.n1, h.n2, h.n3, h.nc, h.nk, fun q hq => Nat.lt_of_lt_of_le (h.lk q hq) e1.size⟩, f1, f2, f3, f4, f5⟩ (e1.mono fun b _ hb => by subst hb; exact f1)
    · simp only [Option.some.injEq, Addr.mk.injEq, and_true] at hb
      subst hb
      exact h.n2 hx.symm
    · obtain ⟨h1, h2, h3⟩ := h.kp q hq
      exact ⟨h1, h2, h3.ext e1 (fun r hr _ hx => (h.nk r hr).1 hx)⟩

theorem contents_c {m : Nat} (h : Dk w p s F) (hok : Ok m 1000000 s) (hm : m ≤ 1000000)
    (hQ : ∀ a' c' w', Sl w' 9 1 a' m c' (strs s.S) → (∀ b, a' = some ⟨b, 0, none⟩ → w.heap.size ≤ b) → Ext w w' (fun _ => False) → Q (.slice a' m c') w') :
    CallE Try.prog 26 #[.pointer (some ⟨p, 0, none⟩)] w Q := by
  apply C.blockdev_Disk_Contents
  unfold W.blockdev_Disk_Contents
  simp only [add_mk, Nat.zero_add]
  obtain ⟨db, vb, vc, ca, cc, ka, kn, kc, lf, h, f1, f2, f3, f4, f5⟩ := h
  refine ldL h.d rfl ?_
  have hlen := hok.len
  rw [hlen]
  refine cloneS_c (.inr ⟨_, rfl, fun j hj => by rw [add_mk, h.dur.cell, Nat.zero_add]⟩) hlen (by omega) fun a' c' w' s' hn e => fs ?_
  exact hQ a' c' w' s' hn e

theorem new_bad {n : Int} (hn : n < 1 ∨ n > 4096) (hQ : Q (.tuple #[.pointer none, .int .i64 1]) w) : CallE Try.prog 19 #[.int .i64 n] w Q := by
  apply C.blockdev_New
  unfold W.blockdev_New
  refine br_of (fun _ => hQ) (fun h1 => br_of (fun _ => hQ) (fun h2 => ?_))
  simp only [decide_eq_false_iff_not] at h1 h2
  omega

theorem new_c {n : Nat} (h1 : 1 ≤ n) (h2 : n ≤ 4096) (hQ : ∀ p w', Dk w' p (new n) (fun b => w.heap.size ≤ b) → Ext w w' (fun _ => False) → Q (.tuple #[.pointer (some ⟨p, 0, none⟩), .int .i64 0]) w') :
    CallE Try.prog 19 #[.int .i64 (n : Int)] w Q := by
  apply C.blockdev_New
  unfold W.blockdev_New
  rw [decide_eq_false (by omega), br_false, decide_eq_false (by omega), br_false]
  refine repeat_c (x := 0) (n := 64) (by omega) fun w1 e1 => ft ?_
  refine mk_i 9 1 (by omega) (by omega) fun db w2 hdb a2 e2 z2 => fs ?_
  rw [Int.toNat_natCast] at *
  have hz : zeroL Try.prog 9 = [.string (mkS [])] := by kernel_rfl
  rw [hz, zeros_one] at a2
  refine al_i fun p w3 hp a3 e3 z3 => ?_
  simp only [add_mk, Nat.zero_add]
  refine ldL a3 rfl ?_
  have hs1 := e1.size
  have hnep : p ≠ db := by have := a2.lt; omega
  refine LoopW.nat n (fun i x w' => x = ((i : Int), ()) ∧ At w' db (strs (List.replicate i zs ++ List.replicate (n - i) [])) 9 ∧ Ext w3 w' (· = db)) ⟨rfl, ?_, Ext.refl _ _⟩ ?_
  · have : strs (List.replicate 0 zs ++ List.replicate (n - 0) []) = List.replicate n (.string (mkS [])) := by simp [strs]
    rw [this]
    exact a2.ext e3 (fun h => h)
  rintro i x w4 next hi ⟨rfl, a4, e4⟩ hnext
  dsimp only
  have d4 := a3.ext e4 hnep
  by_cases hlt : i < n
  · rw [decide_eq_true (by omega), br_true]
    refine ldL d4 rfl ?_
    refine ixb i 1 9 (by omega) ?_
    refine st_i a4 (by rw [strs_length]; simp only [List.length_append, List.length_replicate]; omega) fun w5 a5 e5 z5 => ?_
    rw [show (List.replicate 64 (0 : UInt8)) = zs from rfl, strs_set, Nat.mul_one] at a5
    rw [inc_nat (by omega)]
    refine hnext hlt _ _ ⟨rfl, ?_, e4.tr e5⟩
    have : (List.replicate i zs ++ List.replicate (n - i) ([] : Sec)).set i zs = List.replicate (i + 1) zs ++ List.replicate (n - (i + 1)) [] := by
      rw [List.set_append_right _ _ (by simp), List.length_replicate, Nat.sub_self, show n - i = (n - (i + 1)) + 1 by omega, List.replicate_succ, List.set_cons_zero, List.replicate_succ', List.append_assoc]
      rfl
    rw [this] at a5
    exact a5
  rw [decide_eq_false (by omega), br_false]
  obtain rfl : i = n := by omega
  rw [Nat.sub_self, List.replicate_zero, List.append_nil] at a4
  unfold W.blockdev_New_k10
  simp only [add_mk, Nat.zero_add]
  refine ldL d4 rfl ?_
  refine cloneS_c (l := List.replicate i zs) (.inr ⟨_, rfl, fun j hj => by rw [add_mk, a4.cell, Nat.zero_add]⟩) List.length_replicate (by omega) fun va vc w5 s5 hnew e5 => fs ?_
  obtain ⟨vb, rfl⟩ := s5.one_block (by omega)
  have d5 := d4.ext e5 (fun h => h)
  refine st_i d5 (by show 1 < 7; omega) fun w6 a6 e6 z6 => ?_
  have hs4 := e4.size
  have hvb := hnew vb rfl
  have hdlt := a4.lt; have hplt := d4.lt
  have e36 : Ext w w6 (fun _ => False) := ((((e1.tr e2).tr e3).trans e4 (fun _ _ h => h) (fun b hb hx => by have := (e1.tr e2).size; omega)).tr e5).trans e6 (fun _ _ h => h) (fun b hb hx => by have := (e1.tr e2).size; omega)
  refine hQ p w6 ⟨db, vb, vc, none, 0, none, 0, 0, 0, ⟨?_, ?_, ?_, .inl ⟨rfl, rfl, rfl, rfl⟩, fun q hq => (by cases hq), hnep, by omega, by omega, fun b hb => (by cases hb), fun b hb => (by cases hb), fun b hb => (by cases hb)⟩, ?_, ?_, ?_, fun b hb => (by cases hb), fun b hb => (by cases hb)⟩ e36
  · rw [show (new i).S.length = i by simp [new]]
    exact a6
  · exact (a4.ext e5 (fun h => h)).ext e6 (Ne.symm hnep)
  · rw [show (new i).S.length = i by simp [new]]
    exact s5.ext e6 (fun b hb hx => by simp only [Option.some.injEq, Addr.mk.injEq, and_true] at hb; omega)
  · show w.heap.size ≤ p; have := (e1.tr e2).size; omega
  · show w.heap.size ≤ db; omega
  · show w.heap.size ≤ vb; have := (e1.tr e2).size; omega
end
end Go.Proofs.Ytpinpccamfhofaa.Bd

/-
  A block device: contracts of the reference's methods. No condition beyond those stated.
-/
set_option maxRecDepth 100000
namespace Go.Proofs.Ytpinpccamfhofaa.Bd
open Go Go.Ev Go.Proofs

def plv : Option (Nat × List Bool) → Int
  | none => -1
  | some q => (q.1 : Int)
/-- What a disk's block holds. -/
def rkc (sb sc : Nat) (ca : Option Addr) (cc : Nat) (ka : Option Addr) (kn kc : Nat) (n cn : Nat) (off : Bool) (pl : Int) : List Value :=
  [.slice (some ⟨sb, 0, none⟩) n sc, .slice ca cn cc, .bool off, .int .i64 pl, .slice ka kn kc]

/-- Block p holds the reference's disk in state s. -/
structure RkAt (w : World) (p sb sc : Nat) (ca : Option Addr) (cc : Nat) (ka : Option Addr) (kn kc : Nat) (s : St) : Prop where
  d : At w p (rkc sb sc ca cc ka kn kc s.S.length s.C.length s.off (plv s.plan)) 142
  dur : Sl w 9 1 (some ⟨sb, 0, none⟩) s.S.length sc (strs s.S)
  cac : Sl w 176 2 ca s.C.length cc (wcells s.C)
  kp : ∀ q, s.plan = some q → kn = q.2.length ∧ Reads w ka (bls q.2)
  n1 : p ≠ sb
  nc : ∀ b, ca = some ⟨b, 0, none⟩ → b ≠ p ∧ b ≠ sb
  nk : ∀ q : Addr, ka = some q → q.block ≠ p ∧ q.block ≠ sb ∧ ca ≠ some ⟨q.block, 0, none⟩
  lk : ∀ q : Addr, ka = some q → q.block < w.heap.size

/-- Block p holds the reference's disk in state s; what it has lies in the blocks F. -/
def Rk (w : World) (p : Nat) (s : St) (F : Nat → Prop) : Prop :=
  ∃ sb sc ca cc ka kn kc, RkAt w p sb sc ca cc ka kn kc s ∧ F p ∧ F sb ∧ (∀ b, ca = some ⟨b, 0, none⟩ → F b) ∧ (∀ q : Addr, ka = some q → F q.block)

theorem slb {a b : Nat} (h : (some ⟨a, 0, none⟩ : Option Addr) = some ⟨b, 0, none⟩) : a = b := by
  simpa using h

theorem RkAt.ext {w w' : World} {p sb sc : Nat} {ca : Option Addr} {cc : Nat} {ka : Option Addr} {kn kc : Nat} {s : St} {X : Nat → Prop} (h : RkAt w p sb sc ca cc ka kn kc s) (he : Ext w w' X)
    (h1 : ¬ X p) (h2 : ¬ X sb) (h4 : ∀ b, ca = some ⟨b, 0, none⟩ → ¬ X b) (h5 : ∀ q : Addr, ka = some q → ¬ X q.block) : RkAt w' p sb sc ca cc ka kn kc s :=
  ⟨h.d.ext he h1, h.dur.ext he (fun b hb => slb hb ▸ h2), h.cac.ext he h4, fun q hq => ⟨(h.kp q hq).1, (h.kp q hq).2.ext he (fun r hr _ => h5 r hr)⟩, h.n1, h.nc, h.nk, fun q hq => Nat.lt_of_lt_of_le (h.lk q hq) he.size⟩
theorem Rk.ext {w w' : World} {p : Nat} {s : St} {F X : Nat → Prop} (h : Rk w p s F) (he : Ext w w' X) (hx : ∀ b, F b → ¬ X b) : Rk w' p s F := by
  obtain ⟨sb, sc, ca, cc, ka, kn, kc, h, f1, f2, f4, f5⟩ := h
  exact ⟨sb, sc, ca, cc, ka, kn, kc, h.ext he (hx _ f1) (hx _ f2) (fun b hb => hx _ (f4 b hb)) (fun q hq => hx _ (f5 q hq)), f1, f2, f4, f5⟩

section
variable {w : World} {Q : Value → World → Prop} {p : Nat} {s : St} {F : Nat → Prop}

/-- The last write to a sector. -/
theorem all_last : ∀ (C : List (Nat × Sec)) (S : List Sec) (i : Nat), (∀ c ∈ C, c.1 ≠ i) → (all C S).getD i [] = S.getD i []
  | [], S, i, _ => rfl
  | c :: C, S, i, h => by
    show (all C (S.set c.1 c.2)).getD i [] = _
    rw [all_last C _ i (fun x hx => h x (.tail _ hx)), List.getD_eq_getElem?_getD, List.getD_eq_getElem?_getD, List.getElem?_set_ne (h c (.head _))]
theorem all_hit {C : List (Nat × Sec)} {S : List Sec} {j : Nat} (hj : j < C.length) (hl : C[j].1 < S.length) (h : ∀ k, (hk : k < C.length) → j < k → C[k].1 ≠ C[j].1) : (all C S).getD C[j].1 [] = C[j].2 := by
  have hsplit : C = C.take (j + 1) ++ C.drop (j + 1) := (List.take_append_drop _ _).symm
  have : all C S = all (C.drop (j + 1)) (all (C.take (j + 1)) S) := by
    conv => lhs; rw [hsplit]
    unfold all
    rw [List.foldl_append]
  rw [this, all_last _ _ _ (fun c hc => ?_), all_take_succ hj, List.getD_eq_getElem?_getD, List.getElem?_set_self (by rw [all_length]; exact hl)]
  · rfl
  · obtain ⟨k, hk, rfl⟩ := List.getElem_of_mem hc
    rw [List.getElem_drop]
    exact h _ (by rw [List.length_drop] at hk; omega) (by omega)

theorem rread_c {i : Int} {m : Nat} (h : Rk w p s F) (hok : Ok m 1000000 s) (hQ : Q (.tuple #[.string (mkS (rd s i).1), .int .i64 (rd s i).2]) w) : CallE Try.prog 85 #[.pointer (some ⟨p, 0, none⟩), .int .i64 i] w Q := by
  apply C.ref32_Disk_Read
  unfold W.ref32_Disk_Read
  simp only [add_mk, Nat.zero_add]
  unfold rd at hQ
  obtain ⟨sb, sc, ca, cc, ka, kn, kc, h, f1, f2, f4, f5⟩ := h
  have hcl := hok.cl
  refine br_of (fun h0 => ?_) (fun h0 => ?_)
  · simp only [decide_eq_true_eq] at h0
    rw [if_pos (.inl h0)] at hQ
    exact hQ
  simp only [decide_eq_false_iff_not] at h0
  refine ldL h.d rfl ?_
  refine br_of (fun h1 => ?_) (fun h1 => ?_)
  · simp only [decide_eq_true_eq] at h1
    rw [if_pos (.inr h1)] at hQ
    exact hQ
  simp only [decide_eq_false_iff_not] at h1
  rw [if_neg (by omega)] at hQ
  refine ldB h.d rfl ?_
  refine br_of (fun h2 => ?_) (fun h2 => ?_)
  · rw [if_pos h2] at hQ
    exact hQ
  rw [if_neg (by simp [h2])] at hQ
  obtain ⟨n, rfl⟩ := nat_of (show 0 ≤ i by omega)
  rw [Int.toNat_natCast] at hQ
  refine ldL h.d rfl ?_
  refine LoopW.nat s.C.length (fun k x w' => x = (((s.C.length : Int) - 1 - (k : Int)), ()) ∧ w' = w ∧ ∀ j, (hj : j < s.C.length) → s.C.length - k ≤ j → s.C[j].1 ≠ n) ⟨by rw [wrap_i64 (by omega) (by omega)]; simp, rfl, fun j hj hh => by omega⟩ ?_
  rintro k x w1 next hk ⟨rfl, rfl, hno⟩ hnext
  dsimp only
  by_cases hlt : k < s.C.length
  case neg =>
    rw [decide_eq_false (by omega), br_false]
    unfold W.ref32_Disk_Read_k10
    simp only [add_mk, Nat.zero_add]
    refine ldL h.d rfl ?_
    refine ixb n 1 9 (by omega) ?_
    refine slL h.dur (by rw [Nat.mul_one]; exact strs_getD (by omega)) (ft ?_)
    rw [all_last s.C s.S n (fun c hc => by
      obtain ⟨j, hj, rfl⟩ := List.getElem_of_mem hc
      exact hno j hj (by omega))] at hQ
    exact hQ
  rw [decide_eq_true (by omega), br_true]
  obtain ⟨cb, rfl⟩ := h.cac.one_block (by omega)
  obtain ⟨j, hj, hjk⟩ : ∃ j : Nat, j < s.C.length ∧ (s.C.length : Int) - 1 - (k : Int) = (j : Int) := ⟨s.C.length - 1 - k, by omega, by omega⟩
  rw [hjk]
  refine ldL h.d rfl ?_
  refine ixb j 2 176 hj ?_
  simp only [add_mk, Nat.add_zero]
  refine slL h.cac (wcells_idx hj) (fi ?_)
  by_cases he : s.C[j].1 = n
  · rw [show ((s.C[j].1 : Int) == (n : Int)) = true by rw [beq_iff_eq]; omega, br_true]
    refine ldL h.d rfl ?_
    refine ixb j 2 176 hj ?_
    simp only [add_mk]
    refine slL h.cac (wcells_data hj) (ft ?_)
    have := all_hit (S := s.S) hj (by have := hok.len; have := hok.idx _ (List.getElem_mem hj); omega) (fun k' hk' hlt' => by rw [he]; exact hno k' hk' (by omega))
    rw [he] at this
    rw [this] at hQ
    exact hQ
  · rw [show ((s.C[j].1 : Int) == (n : Int)) = false by rw [beq_eq_false_iff_ne]; omega, br_false]
    rw [wrap_i64 (by omega) (by omega)]
    refine hnext hlt _ _ ⟨?_, rfl, fun j' hj' hh => ?_⟩
    · rw [show (j : Int) - 1 = (s.C.length : Int) - 1 - ((k + 1 : Nat) : Int) by omega]
    · by_cases hjj : j' = j
      · subst hjj; exact he
      · exact hno j' hj' (by omega)

theorem rlose_c {ka' : Option Addr} {kn' kc' : Nat} {kl : List Bool} {m sb sc : Nat} {ca : Option Addr} {cc : Nat} {ka : Option Addr} {kn kc : Nat} (h : RkAt w p sb sc ca cc ka kn kc s) (f1 : F p) (f2 : F sb) (hok : Ok m 1000000 s) (hk : Reads w ka' (bls kl)) (hkn : kl.length = kn')
    (hne : ∀ q : Addr, ka' = some q → kl ≠ [] → q.block ≠ sb)
    (hQ : ∀ w', Rk w' p (lose s kl) F → Ext w w' F → Q (.tuple #[]) w') :
    CallE Try.prog 88 #[.pointer (some ⟨p, 0, none⟩), .slice ka' kn' kc'] w Q := by
  have hcl := hok.cl
  have hlen := hok.len
  apply C.ref32_Disk_lose
  unfold W.ref32_Disk_lose
  simp only [add_mk, Nat.zero_add]
  refine LoopW.nat s.C.length (fun i x w' => x = ((i : Int), ()) ∧ Sl w' 9 1 (some ⟨sb, 0, none⟩) s.S.length sc (strs (sel (s.C.take i) kl s.S)) ∧ Ext w w' (· = sb)) ⟨rfl, by rw [List.take_zero]; exact h.dur, Ext.refl _ _⟩ ?_
  rintro i x w1 next hi ⟨rfl, a1, e1⟩ hnext
  dsimp only
  have d1 := h.d.ext e1 h.n1
  refine ldL d1 rfl ?_
  by_cases hlt : i < s.C.length
  case neg =>
    rw [decide_eq_false (by omega), br_false]
    obtain rfl : i = s.C.length := by omega
    rw [List.take_length] at a1
    unfold W.ref32_Disk_lose_k5
    simp only [add_mk, Nat.zero_add]
    refine st_i d1 (by show 1 < 5; omega) fun w2 a2 e2 z2 => ?_
    refine st_i a2 (by show 2 < 5; omega) fun w3 a3 e3 z3 => ?_
    refine st_i a3 (by show 3 < 5; omega) fun w4 a4 e4 z4 => ?_
    refine st_i a4 (by show 4 < 5; omega) fun w5 a5 e5 z5 => ?_
    have e15 := ((e2.tr e3).tr e4).tr e5
    have hdlose : (lose s kl).S.length = s.S.length := sel_length _ _ _
    refine hQ w5 ⟨sb, sc, none, 0, none, 0, 0, ⟨?_, ?_, .inl ⟨rfl, rfl, rfl, rfl⟩, fun q hq => (by cases hq), h.n1, fun b hb => (by cases hb), fun b hb => (by cases hb), fun b hb => (by cases hb)⟩, f1, f2, fun b hb => (by cases hb), fun b hb => (by cases hb)⟩ (e1.trans e15 (fun b _ hx => hx ▸ f2) (fun b _ hx => hx ▸ f1))
    · rw [hdlose]
      exact a5
    · rw [hdlose]
      exact a1.ext e15 (fun b hb hx => h.n1 ((slb hb).trans hx).symm)
  rw [decide_eq_true (by omega), br_true]
  obtain ⟨cb, rfl⟩ := h.cac.one_block (by omega)
  have cac1 : Sl w1 176 2 (some ⟨cb, 0, none⟩) s.C.length cc (wcells s.C) := h.cac.ext e1 (fun b hb hx => (h.nc b hb).2 hx)
  have hidx := hok.idx s.C[i] (List.getElem_mem hlt)
  have fin : ∀ b : Bool, b = kl.getD i false → W.ref32_Disk_lose_k4 ⟨p, 0, none⟩ ka' kn' kc' (i : Int) b next w1 Q := by
    intro b hb
    unfold W.ref32_Disk_lose_k4
    simp only [add_mk, Nat.zero_add]
    rw [inc_nat (by omega)]
    have hsucc := sel_take_succ hlt kl s.S
    rw [← hb] at hsucc
    cases b with
    | false =>
      rw [br_false]
      refine hnext hlt _ _ ⟨rfl, ?_, e1⟩
      rw [hsucc]
      exact a1
    | true =>
      rw [br_true]
      show dr w1 _
      unfold dr
      refine ldL (w := drew w1) d1 rfl ?_
      refine ldL (w := drew w1) d1 rfl ?_
      refine ixb i 2 176 hlt ?_
      simp only [add_mk, Nat.add_zero]
      refine slL (w := drew w1) cac1 (wcells_idx hlt) (fi ?_)
      refine ldL (w := drew w1) d1 rfl ?_
      refine ixb i 2 176 hlt ?_
      simp only [add_mk]
      refine slL (w := drew w1) cac1 (wcells_data hlt) (ft ?_)
      refine ixb s.C[i].1 1 9 (by rw [hlen]; exact hidx) ?_
      refine slS (w := drew w1) a1 (by rw [strs_length, sel_length, hlen]; omega) fun w3 a3 e3 z3 => ?_
      rw [strs_set, Nat.mul_one] at a3
      refine hnext hlt _ _ ⟨rfl, ?_, e1.drew_.tr e3⟩
      rw [hsucc]
      exact a3
  by_cases hik : i < kl.length
  · rw [decide_eq_true (by omega), br_true]
    obtain ⟨q, rfl⟩ := hk.some_ (by rw [bls_length]; omega)
    have hk2 : Reads w1 (some q) (bls kl) := hk.ext e1 (fun q' hq' _ hx => hne q' hq' (fun h => by subst h; simp at hik) hx)
    refine ixs i 1 4 (by omega) ?_
    refine rdL hk2 (by rw [Nat.mul_one]; exact bls_getD hik) (fb ?_)
    exact fin _ rfl
  · rw [decide_eq_false (by omega), br_false]
    refine fin _ ?_
    rw [List.getD_eq_getElem?_getD, List.getElem?_eq_none (by omega)]; rfl

theorem rwrite_k10 {i : Nat} {d : Sec} {m sb sc : Nat} {ca : Option Addr} {cc : Nat} {ka : Option Addr} {kn kc : Nat} {pl : Option (Nat × List Bool)} (h : RkAt w p sb sc ca cc ka kn kc ⟨s.S, s.C, s.off, pl⟩) (f1 : F p) (f2 : F sb) (f4 : ∀ b, ca = some ⟨b, 0, none⟩ → F b) (f5 : ∀ q : Addr, ka = some q → F q.block)
    (hok : Ok m 1000000 s)
    (hQ : ∀ w' F', Rk w' p ⟨s.S, s.C ++ [(i, d)], s.off, pl⟩ F' → Ext w w' F → (∀ b, F' b → F b ∨ w.heap.size ≤ b) → Q (.int .i64 0) w') :
    W.ref32_Disk_Write_k10 ⟨p, 0, none⟩ (i : Int) (mkS d) w Q := by
  unfold W.ref32_Disk_Write_k10
  simp only [add_mk, Nat.zero_add]
  have hcl := hok.cl
  refine ldL h.d rfl ?_
  refine al_i fun xb w1 hxb a1 e1 z1 => ?_
  have hcac : Sl w1 176 2 ca s.C.length cc (wcells s.C) := h.cac.ext e1 (fun _ _ h => h)
  refine ap_i 176 2 (vs := wrow (i, d)) hcac (.inr ⟨_, rfl, fun j hj => by rw [add_mk, a1.cell, Nat.zero_add]; rfl⟩) rfl (wrow_one _) (by show s.C.length + 1 ≤ _; omega) fun ca' cc' w2 s2 hor hsome e2 => fs ?_
  have hp1 := h.d.lt
  have d2 : At w2 p _ _ := (h.d.ext e1 (fun h => h)).ext e2 (fun hx => (h.nc _ hx).1 rfl)
  refine st_i d2 (by show 1 < 5; omega) fun w3 a3 e3 z3 => ?_
  have e02 : Ext w w2 (fun b => ca = some ⟨b, 0, none⟩) := e1.trans e2 (fun _ _ h => h.elim) (fun _ _ h => h)
  have e03 : Ext w w3 (fun b => ca = some ⟨b, 0, none⟩ ∨ b = p) := e02.trans e3 (fun _ _ h => .inl h) (fun _ _ h => .inr h)
  have hsb := h.dur.lt
  have nca : ∀ b, ca' = some ⟨b, 0, none⟩ → b ≠ p ∧ b ≠ sb := by
    intro b hb
    rcases hor b hb with hx | hx
    · exact h.nc b hx
    · exact ⟨by omega, by omega⟩
  have hkx : ∀ q : Addr, ka = some q → ¬ (ca = some ⟨q.block, 0, none⟩ ∨ q.block = p) := by
    intro q hq hx
    obtain ⟨h1, h2, h4⟩ := h.nk q hq
    rcases hx with hx | hx
    · exact h4 hx
    · exact h1 hx
  refine hQ w3 (fun b => F b ∨ w.heap.size ≤ b) ⟨sb, sc, ca', cc', ka, kn, kc, ⟨?_, ?_, ?_, fun q hq => ?_, h.n1, nca, fun q hq => ?_, fun q hq => ?_⟩, .inl f1, .inl f2, fun b hb => ?_, fun q hq => .inl (f5 q hq)⟩ ?_ (fun b hb => hb)
  · rw [show (s.C ++ [(i, d)]).length = s.C.length + 1 by simp]
    exact a3
  · exact h.dur.ext e03 (fun b hb hx => by
      obtain rfl := slb hb
      rcases hx with hx | hx
      · exact (h.nc _ hx).2 rfl
      · exact h.n1 hx.symm)
  · rw [show (s.C ++ [(i, d)]).length = s.C.length + 1 by simp]
    have := s2.ext e3 (fun b hb hx => (nca b hb).1 hx)
    rw [← wcells_snoc] at this
    exact this
  · obtain ⟨h2, h3⟩ := h.kp q hq
    exact ⟨h2, h3.ext e03 (fun r hr _ => hkx r hr)⟩
  · obtain ⟨h1, h2, h4⟩ := h.nk q hq
    refine ⟨h1, h2, fun hx => ?_⟩
    rcases hor _ hx with hy | hy
    · exact h4 hy
    · have := h.lk q hq
      omega
  · exact Nat.lt_of_lt_of_le (h.lk q hq) e03.size
  · rcases hor b hb with hx | hx
    · exact .inl (f4 b hx)
    · right; omega
  · refine e03.mono fun b _ hx => ?_
    rcases hx with hx | rfl
    · exact f4 b hx
    · exact f1

theorem rwrite_c {i : Int} {d : Sec} {m : Nat} (h : Rk w p s F) (hok : Ok m 1000000 s)
    (hQ : ∀ w' F', Rk w' p (wr s i d).1 F' → Ext w w' F → (∀ b, F' b → F b ∨ w.heap.size ≤ b) → Q (.int .i64 (wr s i d).2) w') :
    CallE Try.prog 83 #[.pointer (some ⟨p, 0, none⟩), .int .i64 i, .string (mkS d)] w Q := by
  apply C.ref32_Disk_Write
  unfold W.ref32_Disk_Write
  simp only [add_mk, Nat.zero_add]
  unfold wr at hQ
  have same : (wr s i d) = (s, 1) → Q (.int .i64 1) w := fun he => by unfold wr at he; rw [he] at hQ; exact hQ w F h (Ext.refl _ _) (fun _ hb => .inl hb)
  have h' := h
  obtain ⟨sb, sc, ca, cc, ka, kn, kc, h, f1, f2, f4, f5⟩ := h
  refine br_of (fun h0 => ?_) (fun h0 => ?_)
  · simp only [decide_eq_true_eq] at h0
    exact same (by unfold wr; rw [if_pos (.inl h0)])
  simp only [decide_eq_false_iff_not] at h0
  refine ldL h.d rfl ?_
  refine br_of (fun h1 => ?_) (fun h1 => ?_)
  · simp only [decide_eq_true_eq] at h1
    exact same (by unfold wr; rw [if_pos (.inr (.inl h1))])
  simp only [decide_eq_false_iff_not] at h1
  rw [mkS_size]
  refine br_of (fun h2 => ?_) (fun h2 => ?_)
  · rw [bne_iff_ne] at h2
    exact same (by unfold wr; rw [if_pos (.inr (.inr (by omega)))])
  have h2' : d.length = 64 := by
    rw [bne_eq_false_iff_eq] at h2
    omega
  rw [if_neg (by rintro (h | h | h) <;> omega)] at hQ
  refine ldB h.d rfl ?_
  refine br_of (fun h3 => ?_) (fun h3 => ?_)
  · rw [if_pos h3] at hQ
    exact hQ w F h' (Ext.refl _ _) (fun _ hb => .inl hb)
  rw [if_neg (by simp [h3])] at hQ
  obtain ⟨n, rfl⟩ := nat_of (show 0 ≤ i by omega)
  rw [Int.toNat_natCast] at hQ
  refine ldI h.d rfl ?_
  cases hp : s.plan with
  | none =>
    rw [hp] at hQ
    rw [show (plv none == 0) = false from rfl, br_false]
    refine ldI h.d rfl ?_
    rw [hp, show plv none = -1 from rfl, decide_eq_false (by omega), br_false]
    have hs : (⟨s.S, s.C, s.off, none⟩ : St) = s := by rw [← hp]
    exact rwrite_k10 (s := s) (pl := none) (by rw [hs]; exact h) f1 f2 f4 f5 hok hQ
  | some q =>
    obtain ⟨k, kl⟩ := q
    rw [hp] at hQ
    obtain ⟨hl2, hl3⟩ := h.kp _ hp
    dsimp only at hl2 hl3
    rw [show plv (some (k, kl)) = (k : Int) from rfl]
    cases k with
    | zero =>
      rw [show (((0 : Nat) : Int) == 0) = true from rfl, br_true]
      refine ldL h.d rfl ?_
      refine rlose_c h f1 f2 hok hl3 hl2.symm (fun q hq _ => (h.nk q hq).2.1) fun w' hd he => ⟨rfl, ?_⟩
      exact hQ w' F hd he (fun _ hb => .inl hb)
    | succ k =>
      rw [show (((k + 1 : Nat) : Int) == 0) = false by rw [beq_eq_false_iff_ne]; omega, br_false]
      refine ldI h.d rfl ?_
      rw [hp, show plv (some (k + 1, kl)) = ((k + 1 : Nat) : Int) from rfl, decide_eq_true (by omega), br_true]
      refine ldI h.d rfl ?_
      rw [hp, show plv (some (k + 1, kl)) = ((k + 1 : Nat) : Int) from rfl]
      have hpl := hok.pl _ hp
      have hpl' : k + 1 ≤ 1000000 := hpl
      rw [wrap_i64 (by omega) (by omega)]
      refine st_i h.d (by show 3 < 5; omega) fun w1 a1 e1 z1 => ?_
      have h1 : RkAt w1 p sb sc ca cc ka kn kc ⟨s.S, s.C, s.off, some (k, kl)⟩ := by
        refine ⟨?_, h.dur.ext e1 (fun b hb hx => h.n1 ((slb hb).trans hx).symm), h.cac.ext e1 (fun b hb hx => (h.nc b hb).1 hx), fun q hq => ?_, h.n1, h.nc, h.nk, fun q hq => Nat.lt_of_lt_of_le (h.lk q hq) e1.size⟩
        · rw [show (((k + 1 : Nat) : Int) - 1) = (k : Int) by omega] at a1
          exact a1
        · simp only [Option.some.injEq] at hq
          subst hq
          exact ⟨hl2, hl3.ext e1 (fun r hr _ hx => (h.nk r hr).1 hx)⟩
      refine rwrite_k10 (s := s) (pl := some (k, kl)) h1 f1 f2 f4 f5 hok fun w' F' hd he hF => ?_
      refine hQ w' F' hd ((e1.mono fun b _ hb => by subst hb; exact f1).tr he) (fun b hb => ?_)
      rw [z1] at hF
      exact hF b hb

theorem rflush_c {m : Nat} (h : Rk w p s F) (hok : Ok m 1000000 s) (hQ : ∀ w', Rk w' p (fl s).1 F → Ext w w' F → Q (.int .i64 (fl s).2) w') :
    CallE Try.prog 84 #[.pointer (some ⟨p, 0, none⟩)] w Q := by
  apply C.ref32_Disk_Flush
  unfold W.ref32_Disk_Flush
  simp only [add_mk, Nat.zero_add]
  unfold fl at hQ
  have h' := h
  obtain ⟨sb, sc, ca, cc, ka, kn, kc, h, f1, f2, f4, f5⟩ := h
  refine ldB h.d rfl ?_
  refine br_of (fun h3 => ?_) (fun h3 => ?_)
  · rw [if_pos h3] at hQ
    exact hQ w h' (Ext.refl _ _)
  rw [if_neg (by simp [h3])] at hQ
  have hcl := hok.cl
  have hlen := hok.len
  refine LoopW.nat s.C.length (fun i x w' => x = ((i : Int), ()) ∧ Sl w' 9 1 (some ⟨sb, 0, none⟩) s.S.length sc (strs (all (s.C.take i) s.S)) ∧ Ext w w' (· = sb)) ⟨rfl, by rw [List.take_zero]; exact h.dur, Ext.refl _ _⟩ ?_
  rintro i x w1 next hi ⟨rfl, a1, e1⟩ hnext
  dsimp only
  have d1 := h.d.ext e1 h.n1
  refine ldL d1 rfl ?_
  by_cases hlt : i < s.C.length
  case neg =>
    rw [decide_eq_false (by omega), br_false]
    obtain rfl : i = s.C.length := by omega
    rw [List.take_length] at a1
    refine st_i d1 (by show 1 < 5; omega) fun w2 a2 e2 z2 => ?_
    have e02 : Ext w w2 (fun b => b = sb ∨ b = p) := e1.trans e2 (fun _ _ h => .inl h) (fun _ _ h => .inr h)
    refine hQ w2 ⟨sb, sc, none, 0, ka, kn, kc, ⟨?_, ?_, .inl ⟨rfl, rfl, rfl, rfl⟩, fun q hq => ?_, h.n1, fun b hb => (by cases hb), fun q hq => ⟨(h.nk q hq).1, (h.nk q hq).2.1, by simp⟩, fun q hq => Nat.lt_of_lt_of_le (h.lk q hq) e02.size⟩, f1, f2, fun b hb => (by cases hb), f5⟩ (e02.mono fun b _ hx => by rcases hx with rfl | rfl; exact f2; exact f1)
    · rw [show (all s.C s.S).length = s.S.length from all_length _ _]
      exact a2
    · rw [show (all s.C s.S).length = s.S.length from all_length _ _]
      exact a1.ext e2 (fun b hb hx => h.n1 ((slb hb).trans hx).symm)
    · obtain ⟨h2, h3⟩ := h.kp q hq
      refine ⟨h2, h3.ext e02 (fun r hr _ hx => ?_)⟩
      rcases hx with hx | hx
      · exact (h.nk r hr).2.1 hx
      · exact (h.nk r hr).1 hx
  rw [decide_eq_true (by omega), br_true]
  obtain ⟨cb, rfl⟩ := h.cac.one_block (by omega)
  have cac1 : Sl w1 176 2 (some ⟨cb, 0, none⟩) s.C.length cc (wcells s.C) := h.cac.ext e1 (fun b hb hx => (h.nc b hb).2 hx)
  have hidx := hok.idx s.C[i] (List.getElem_mem hlt)
  show dr w1 _
  unfold dr
  refine ldL (w := drew w1) d1 rfl ?_
  refine ldL (w := drew w1) d1 rfl ?_
  refine ixb i 2 176 hlt ?_
  simp only [add_mk, Nat.add_zero]
  refine slL (w := drew w1) cac1 (wcells_idx hlt) (fi ?_)
  refine ldL (w := drew w1) d1 rfl ?_
  refine ixb i 2 176 hlt ?_
  simp only [add_mk]
  refine slL (w := drew w1) cac1 (wcells_data hlt) (ft ?_)
  refine ixb s.C[i].1 1 9 (by rw [hlen]; exact hidx) ?_
  refine slS (w := drew w1) a1 (by rw [strs_length, all_length, hlen]; omega) fun w3 a3 e3 z3 => ?_
  rw [strs_set, Nat.mul_one, ← all_take_succ hlt] at a3
  rw [inc_nat (by omega)]
  exact hnext hlt _ _ ⟨rfl, a3, e1.drew_.tr e3⟩

theorem rcutAfter_c {n : Int} {ka' : Option Addr} {kn' kc' : Nat} {kl : List Bool} (h : Rk w p s F) (hk : Reads w ka' (bls kl)) (hkn : kl.length = kn') (hkl : kn' ≤ 140737488355328)
    (hQ : ∀ w' F', Rk w' p (cut s n kl) F' → Ext w w' F → (∀ b, F' b → F b ∨ w.heap.size ≤ b) → Q (.tuple #[]) w') :
    CallE Try.prog 52 #[.pointer (some ⟨p, 0, none⟩), .int .i64 n, .slice ka' kn' kc'] w Q := by
  apply C.ref32_Disk_CutAfter
  unfold W.ref32_Disk_CutAfter
  simp only [add_mk, Nat.zero_add]
  unfold cut at hQ
  obtain ⟨sb, sc, ca, cc, ka, kn, kc, h, f1, f2, f4, f5⟩ := h
  refine al_i fun b w1 hb a1 e1 z1 => ?_
  refine ap_0 4 (vs := bls kl) (.inr ⟨b, [], rfl, a1, rfl, rfl, Nat.le_refl _⟩) (hk.ext e1 (fun _ _ _ h => h)) (by rw [bls_length, hkn]) (bls_one kl) hkl fun a' c' w2 s2 hor _ e2 => fs ?_
  have hp1 := h.d.lt; have hp2 := h.dur.lt
  have e02 : Ext w w2 (fun _ => False) := e1.trans e2 (fun _ _ h => h) (fun b' hb' h => by simp only [Option.some.injEq, Addr.mk.injEq, and_true] at h; omega)
  have d2 := h.d.ext e02 (fun h => h)
  refine st_i d2 (by show 3 < 5; omega) fun w3 a3 e3 z3 => ?_
  refine st_i a3 (by show 4 < 5; omega) fun w4 a4 e4 z4 => ?_
  have e24 := e3.tr e4
  have e04 : Ext w w4 (· = p) := (e02.of0 (X := (· = p))).tr e24
  have hca : ∀ b, ca = some ⟨b, 0, none⟩ → b < w.heap.size := by
    intro b hb
    subst hb
    exact h.cac.lt
  have hnew' : ∀ q : Addr, a' = some q → w.heap.size ≤ q.block ∧ q.block < w2.heap.size := by
    intro q hq
    subst hq
    rcases s2 with ⟨hh, _⟩ | ⟨b', sp, hb', hat, _⟩
    · cases hh
    · cases hb'
      rcases hor b' rfl with hx | hx
      · have := slb hx
        exact ⟨by show w.heap.size ≤ b'; omega, hat.lt⟩
      · exact ⟨by show w.heap.size ≤ b'; omega, hat.lt⟩
  have hpl : (if (-1 : Int) > n then (-1 : Int) else n) = plv (if n < 0 then none else some (n.toNat, kl)) := by
    by_cases h0 : n < 0
    · rw [if_pos h0]
      show _ = (-1 : Int)
      split <;> omega
    · rw [if_neg h0, if_neg (by omega)]
      show n = ((n.toNat : Nat) : Int)
      omega
  rw [hpl] at a4
  refine hQ w4 (fun b => F b ∨ w.heap.size ≤ b) ⟨sb, sc, ca, cc, a', kn', c', ⟨a4, h.dur.ext e04 (fun b hb hx => h.n1 ((slb hb).trans hx).symm), h.cac.ext e04 (fun b hb hx => (h.nc b hb).1 hx), fun q hq => ?_, h.n1, h.nc, fun q hq => ?_, fun q hq => ?_⟩, .inl f1, .inl f2, fun b hb => .inl (f4 b hb), fun q hq => .inr (hnew' q hq).1⟩ (e04.mono fun b _ hb => by subst hb; exact f1) (fun b hb => hb)
  · dsimp only at hq
    split at hq
    · cases hq
    · simp only [Option.some.injEq] at hq
      subst hq
      refine ⟨hkn.symm, ?_⟩
      exact s2.reads.ext e24 (fun r hr _ hx => by have := (hnew' r hr).1; omega)
  · have := hnew' q hq
    exact ⟨by omega, by omega, fun hx => by have := hca _ hx; omega⟩
  · have := (hnew' q hq).2
    omega

theorem rpowerOff_c {ka' : Option Addr} {kn' kc' : Nat} {kl : List Bool} {m : Nat} (h : Rk w p s F) (hok : Ok m 1000000 s) (hk : Reads w ka' (bls kl)) (hkn : kl.length = kn') (hkF : ∀ q : Addr, ka' = some q → kl ≠ [] → ¬ F q.block)
    (hQ : ∀ w', Rk w' p (pOff s kl).1 F → Ext w w' F → Q (.int .i64 (pOff s kl).2) w') :
    CallE Try.prog 53 #[.pointer (some ⟨p, 0, none⟩), .slice ka' kn' kc'] w Q := by
  apply C.ref32_Disk_PowerOff
  unfold W.ref32_Disk_PowerOff
  simp only [add_mk, Nat.zero_add]
  unfold pOff at hQ
  have h' := h
  obtain ⟨sb, sc, ca, cc, ka, kn, kc, h, f1, f2, f4, f5⟩ := h
  refine ldB h.d rfl ?_
  refine br_of (fun h3 => ?_) (fun h3 => ?_)
  · rw [if_pos h3] at hQ
    exact hQ w h' (Ext.refl _ _)
  rw [if_neg (by simp [h3])] at hQ
  refine rlose_c h f1 f2 hok hk hkn (fun q hq hne hx => hkF q hq hne (hx ▸ f2)) fun w' hd he => ⟨rfl, ?_⟩
  exact hQ w' hd he

theorem rpowerOn_c (h : Rk w p s F) (hQ : ∀ w', Rk w' p (pOn s).1 F → Ext w w' F → Q (.int .i64 (pOn s).2) w') :
    CallE Try.prog 54 #[.pointer (some ⟨p, 0, none⟩)] w Q := by
  apply C.ref32_Disk_PowerOn
  unfold W.ref32_Disk_PowerOn
  simp only [add_mk, Nat.zero_add]
  unfold pOn at hQ
  have h' := h
  obtain ⟨sb, sc, ca, cc, ka, kn, kc, h, f1, f2, f4, f5⟩ := h
  refine ldB h.d rfl ?_
  cases hoff : s.off with
  | false =>
    rw [if_neg (by simp [hoff])] at hQ
    rw [Bool.not_false, br_true]
    exact hQ w h' (Ext.refl _ _)
  | true =>
    rw [if_pos hoff] at hQ
    rw [Bool.not_true, br_false]
    refine st_i h.d (by show 2 < 5; omega) fun w1 a1 e1 z1 => ?_
    refine hQ w1 ⟨sb, sc, ca, cc, ka, kn, kc, ⟨a1, h.dur.ext e1 (fun b hb hx => h.n1 ((slb hb).trans hx).symm), h.cac.ext e1 (fun b hb hx => (h.nc b hb).1 hx), fun q hq => ?_, h.n1, h.nc, h.nk, fun q hq => Nat.lt_of_lt_of_le (h.lk q hq) e1.size⟩, f1, f2, f4, f5⟩ (e1.mono fun b _ hb => by subst hb; exact f1)
    obtain ⟨h2, h3⟩ := h.kp q hq
    exact ⟨h2, h3.ext e1 (fun r hr _ hx => (h.nk r hr).1 hx)⟩

theorem rcontents_c {m : Nat} (h : Rk w p s F) (hok : Ok m 1000000 s) (hm : m ≤ 1000000)
    (hQ : ∀ a' c' w', Sl w' 9 1 a' m c' (strs s.S) → (∀ b, a' = some ⟨b, 0, none⟩ → w.heap.size ≤ b) → Ext w w' (fun _ => False) → Q (.slice a' m c') w') :
    CallE Try.prog 55 #[.pointer (some ⟨p, 0, none⟩)] w Q := by
  apply C.ref32_Disk_Contents
  unfold W.ref32_Disk_Contents
  simp only [add_mk, Nat.zero_add]
  obtain ⟨sb, sc, ca, cc, ka, kn, kc, h, f1, f2, f4, f5⟩ := h
  refine al_i fun b w1 hb a1 e1 z1 => ?_
  have d1 := h.d.ext e1 (fun h => h)
  refine ldL d1 rfl ?_
  have hlen := hok.len
  have hd := h.dur.ext e1 (fun _ _ h => h)
  refine ap_i 9 1 (n := 0) (c := 0) (xs := []) (vs := strs s.S) (.inr ⟨b, [], rfl, a1, rfl, rfl, Nat.le_refl _⟩) hd.reads (by rw [strs_length, Nat.mul_one]) (strs_one _) (by omega) fun a' c' w2 s2 hor _ e2 => fs ?_
  rw [Nat.zero_add, hlen] at *
  rw [List.nil_append] at s2
  refine hQ a' c' w2 s2 (fun b' hb' => ?_) (e1.trans e2 (fun _ _ h => h) (fun b' hb' h => by have := slb h; omega))
  rcases hor b' hb' with hx | hx
  · have := slb hx; omega
  · omega

/-- What holds while a new disk is filled. -/
structure Nw (U w : World) (p i : Nat) (sa : Option Addr) (sc : Nat) : Prop where
  e : Ext U w (fun _ => False)
  d : At w p [.slice sa i sc, .slice none 0 0, .bool false, .int .i64 (-1), .slice none 0 0] 142
  s : Sl w 9 1 sa i sc (strs (List.replicate i zs))
theorem Nw.ext {U w w' : World} {p i : Nat} {sa : Option Addr} {sc : Nat} (h : Nw U w p i sa sc) (e : Ext w w' (fun _ => False)) : Nw U w' p i sa sc := ⟨h.e.tr e, h.d.ext e (fun h => h), h.s.ext e (fun _ _ h => h)⟩

theorem rnew_c {n : Nat} (h1 : 1 ≤ n) (h2 : n ≤ 4096) (hQ : ∀ p w', Rk w' p (new n) (fun b => w.heap.size ≤ b) → Ext w w' (fun _ => False) → Q (.tuple #[.pointer (some ⟨p, 0, none⟩), .int .i64 0]) w') :
    CallE Try.prog 47 #[.int .i64 (n : Int)] w Q := by
  apply C.ref32_New
  unfold W.ref32_New
  rw [decide_eq_false (by omega), br_false, decide_eq_false (by omega), br_false]
  refine al_i fun p w1 hp a1 e1 z1 => ?_
  refine LoopW.nat n (fun i x w' => x = ((i : Int), ()) ∧ ∃ sa sc, At w' p [.slice sa i sc, .slice none 0 0, .bool false, .int .i64 (-1), .slice none 0 0] 142 ∧ Sl w' 9 1 sa i sc (strs (List.replicate i zs)) ∧ (∀ b, sa = some ⟨b, 0, none⟩ → b ≠ p ∧ w.heap.size ≤ b) ∧ Ext w w' (fun _ => False))
    ⟨rfl, none, 0, a1, .inl ⟨rfl, rfl, rfl, rfl⟩, fun b hb => (by cases hb), e1⟩ ?_
  rintro i x w2 next hi ⟨rfl, sa, sc, a2, s2, hsb, e2⟩ hnext
  dsimp only
  have hsz := e2.size
  by_cases hlt : i < n
  case neg =>
    rw [decide_eq_false (by omega), br_false]
    obtain rfl : i = n := by omega
    obtain ⟨sb, rfl⟩ := s2.one_block (by omega)
    have := hsb sb rfl
    refine hQ p w2 ⟨sb, sc, none, 0, none, 0, 0, ⟨?_, ?_, .inl ⟨rfl, rfl, rfl, rfl⟩, fun q hq => (by cases hq), Ne.symm this.1, fun b hb => (by cases hb), fun b hb => (by cases hb), fun b hb => (by cases hb)⟩, by show w.heap.size ≤ p; omega, this.2, fun b hb => (by cases hb), fun b hb => (by cases hb)⟩ e2
    · rw [show (new i).S.length = i by simp [new]]
      exact a2
    · rw [show (new i).S.length = i by simp [new]]
      exact s2
  rw [decide_eq_true (by omega), br_true]
  have hplt := a2.lt
  have hslt : ∀ b, sa = some ⟨b, 0, none⟩ → b < w2.heap.size := by
    intro b hb
    subst hb
    exact s2.lt
  simp only [add_mk, Nat.zero_add]
  have hI : ∀ w', Ext w w' (fun _ => False) → At w' p [.slice sa i sc, .slice none 0 0, .bool false, .int .i64 (-1), .slice none 0 0] 142 → Sl w' 9 1 sa i sc (strs (List.replicate i zs)) → Nw w w' p i sa sc := fun w' a b c => ⟨a, b, c⟩
  have h0 : Nw w (drew w2) p i sa sc := ⟨e2.drew_, a2, s2⟩
  have ldR : ∀ (w' : World) (K : Option Addr → Nat → Nat → Prop), Nw w w' p i sa sc → K sa i sc → ld Try.prog 49 ⟨p, 0, none⟩ w' fun v => fS v K := fun w' K h hK => ldL h.d rfl hK
  have mkR : ∀ (w' : World) (K : Option Addr → Nat → Nat → World → Prop), Nw w w' p i sa sc → (∀ b w'', Nw w w'' p i sa sc → At w'' b (by_ (List.replicate 64 0)) 5 → K (some ⟨b, 0, none⟩) 64 64 w'') → rv Try.prog (Instr.makeSlice 82 (.int .i64 64) (.int .i64 64)) w' fun v w'' => fS v fun a n c => K a n c w'' :=
    fun w' K h hK => mkB (n := 64) 5 (by omega) fun b w'' hb a e z => hK b w'' (h.ext e) a
  have cvR : ∀ (b : Nat) (w' : World) (K : ByteArray → World → Prop), At w' b (by_ (List.replicate 64 0)) 5 → K (mkS zs) w' → rv Try.prog (convert 82 9 (.slice (some ⟨b, 0, none⟩) 64 64)) w' fun v w'' => fT v fun t => K t w'' :=
    fun b w' K h hK => bsT h List.length_replicate hK
  have alR : ∀ (w' : World) (K : Addr → World → Prop), Nw w w' p i sa sc → (∀ b w'', Nw w w'' p i sa sc → At w'' b [.string (mkS zs)] 9 → K ⟨b, 0, none⟩ w'') → al 9 #[.string (mkS zs)] w' K :=
    fun w' K h hK => al_i fun b w'' hb a e z => hK b w'' (h.ext e) a
  have fin : ∀ (b : Nat) (w' : World), Nw w w' p i sa sc → At w' b [.string (mkS zs)] 9 → rv Try.prog (Builtin.append_ #[49, 49] 49 #[.slice sa i sc, .slice (some ⟨b, 0, none⟩) 1 1]) w' fun v w'' => fS v fun a n c => (True ∧ st Try.prog 49 ⟨p, 0, none⟩ (.slice a n c) w'' fun w3 => True ∧ next (IntKind.wrap .i64 ((i : Int) + 1), ()) w3) := by
    intro b w' h hb
    refine ap_i 9 1 (vs := strs [zs]) h.s (.inr ⟨_, rfl, fun j hj => by rw [add_mk, hb.cell, Nat.zero_add]; rfl⟩) rfl (strs_one _) (by omega) fun a' c' w3 s3 hor _ e3 => fs ⟨trivial, ?_⟩
    have d3 := h.d.ext e3 (fun hx => (hsb _ hx).1 rfl)
    refine st_i d3 (by show 0 < 5; omega) fun w4 a4 e4 z4 => ⟨trivial, ?_⟩
    rw [inc_nat (by omega)]
    have hz := h.e.size
    have hplt' := h.d.lt
    have hnp : ∀ b', a' = some ⟨b', 0, none⟩ → b' ≠ p ∧ w.heap.size ≤ b' := by
      intro b' hb'
      rcases hor b' hb' with hx | hx
      · exact hsb b' hx
      · exact ⟨by omega, by omega⟩
    refine hnext hlt _ _ ⟨rfl, a', c', a4, ?_, hnp, (h.e.trans e3 (fun _ _ h => h) (fun b' hb' hx => by have := (hsb _ hx).2; omega)).trans e4 (fun _ _ h => h) (fun b' hb' hx => by omega)⟩
    rw [← strs_append, ← List.replicate_succ'] at s3
    exact s3.ext e4 (fun b' hb' hx => (hnp b' hb').1 hx)
  refine ⟨fun _ => True, trivial, ?_⟩
  repeat' first
    | exact trivial
    | refine fin _ _ (by assumption) (by assumption)
    | refine ldR _ _ (by assumption) ?_
    | refine mkR _ _ (by assumption) fun _ _ _ _ => ?_
    | refine cvR _ _ _ (by assumption) ?_
    | refine alR _ _ (by assumption) fun _ _ _ _ => ?_
    | refine And.intro ?_ ?_
end
end Go.Proofs.Ytpinpccamfhofaa.Bd

/-
  Lists of bools that came in. No condition beyond those stated.
-/
set_option maxRecDepth 100000
namespace Go.Proofs.Ytpinpccamfhofaa.Bd
open Go Go.Ev Go.Proofs Go.ChangeShapes Go.WideShapes Go.ChangeAt Go.RowKit
/-- A list of bools that came in. -/
structure KOk (w : World) (ka : Option Addr) (kn : Nat) (kl : List Bool) : Prop where
  r : Reads w ka (bls kl)
  n : kl.length = kn
  le : kn ≤ 140737488355328
  lt : ∀ q : Addr, ka = some q → kl ≠ [] → q.block < w.heap.size
theorem KOk.ext {w w' : World} {ka : Option Addr} {kn : Nat} {kl : List Bool} (h : KOk w ka kn kl) (e : Ext w w' (fun _ => False)) : KOk w' ka kn kl :=
  ⟨h.r.ext e (fun _ _ _ h => h), h.n, h.le, fun q hq hne => Nat.lt_of_lt_of_le (h.lt q hq hne) e.size⟩

section
variable {H : Type} {enc : TypeId × Value → H}
theorem trod_bools {W : World} {n : Nat} {cs : List Value} {x : DataW H × List MemPlace} (h : DataW.trod enc Try.prog W 0 (fun _ => true) true n 78 cs = some x) (hw : Light Try.prog 78 x.1) :
    ∃ (ka : Option Addr) (kn kc : Nat) (kl : List Bool), cs = [.slice ka kn kc] ∧ KOk W ka kn kl := by
  rcases trod_slz (e := 4) (by kernel_rfl) h hw with hc | ⟨a, len, cap, hc, _, _, hb, hi⟩
  · exact ⟨none, 0, 0, [], hc, .inl rfl, rfl, by omega, fun q hq => by cases hq⟩
  · have hc1 : Try.prog.cellsOf 4 = 1 := by kernel_rfl
    have hb1 : Try.prog.bytesOf 4 = 1 := by kernel_rfl
    rw [hc1] at hi
    rw [hb1, Nat.mul_one] at hb
    obtain ⟨l, hl, hr, _, hlt⟩ := reads_rows (W := W) (a := a) (len := len) (m := 1) (f := fun b : Bool => [Value.bool b]) (R := fun _ => True) (by omega) (fun _ => rfl) (fun i hi' => by
      obtain ⟨cs', n', y, hcl, hat, hy, _⟩ := hi i hi'
      obtain ⟨b, hb, _⟩ := DataW.trod_bool (by kernel_rfl) hy
      refine ⟨b, trivial, fun j hj => ?_⟩
      rw [hat j hj, hb])
    refine ⟨some a, len, cap, l, hc, ?_, hl, ?_, fun q hq hne => ?_⟩
    · rw [show bls l = l.flatMap fun b : Bool => [Value.bool b] by unfold bls; exact List.map_eq_flatMap]
      exact hr
    · have := reachBytes_lt
      omega
    · cases hq
      exact hlt hne
theorem open_bools {W : World} {v : Value} {d : DataW H} {p : List MemPlace} {r : Reach} {b0 : Nat} (hv : Value.okWide Try.prog W r b0 78 v)
    (h : DataW.Trod enc Try.prog W 0 (fun _ => true) true 78 v d p) (hw : Light Try.prog 78 d) : ∃ (ka : Option Addr) (kn kc : Nat) (kl : List Bool), v = .slice ka kn kc ∧ KOk W ka kn kl := by
  obtain ⟨n, h⟩ := trod_of h
  obtain ⟨a0, l0, c0, rfl⟩ := okWide_slice (t := 78) (e := 4) (by kernel_rfl) hv
  obtain ⟨ka, kn, kc, kl, hc, hk⟩ := trod_bools h hw
  exact ⟨ka, kn, kc, kl, by simpa [Value.cells] using hc, hk⟩
end
end Go.Proofs.Ytpinpccamfhofaa.Bd
