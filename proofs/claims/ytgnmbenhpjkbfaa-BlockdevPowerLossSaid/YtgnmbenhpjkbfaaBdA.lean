/-
  A block device: the plain form. No program in sight.
-/
import Derived.Test.YtgnmbenhpjkbfaaR
namespace Go.Proofs.Ytgnmbenhpjkbfaa.Bd
open Go Go.Ev

abbrev Sec := List UInt8
/-- The writes, one after the other. -/
def all (C : List (Nat × Sec)) (S : List Sec) : List Sec := C.foldl (fun l c => l.set c.1 c.2) S
/-- Those writes that ks selects. -/
def sel : List (Nat × Sec) → List Bool → List Sec → List Sec
  | [], _, S => S
  | _ :: _, [], S => S
  | c :: cs, k :: ks, S => sel cs ks (if k then S.set c.1 c.2 else S)

/-- What a disk holds: the sectors, the cached writes, whether the power is off, the plan. -/
structure St where
  S : List Sec
  C : List (Nat × Sec)
  off : Bool
  plan : Option (Nat × List Bool)

def zs : Sec := List.replicate 64 0
def new (n : Nat) : St := ⟨List.replicate n zs, [], false, none⟩
def lose (s : St) (k : List Bool) : St := ⟨sel s.C k s.S, [], true, none⟩
def rd (s : St) (i : Int) : Sec × Int :=
  if i < 0 ∨ (s.S.length : Int) ≤ i then ([], 1) else if s.off then ([], 16) else ((all s.C s.S).getD i.toNat [], 0)
def wr (s : St) (i : Int) (d : Sec) : St × Int :=
  if i < 0 ∨ (s.S.length : Int) ≤ i ∨ d.length ≠ 64 then (s, 1) else if s.off then (s, 16) else
  match s.plan with
  | some (0, k) => (lose s k, 16)
  | some (n + 1, k) => (⟨s.S, s.C ++ [(i.toNat, d)], s.off, some (n, k)⟩, 0)
  | none => (⟨s.S, s.C ++ [(i.toNat, d)], s.off, none⟩, 0)
def fl (s : St) : St × Int := if s.off then (s, 16) else (⟨all s.C s.S, [], s.off, s.plan⟩, 0)
def cut (s : St) (n : Int) (k : List Bool) : St := ⟨s.S, s.C, s.off, if n < 0 then none else some (n.toNat, k)⟩
def pOff (s : St) (k : List Bool) : St × Int := if s.off then (s, 9) else (lose s k, 0)
def pOn (s : St) : St × Int := if s.off then (⟨s.S, s.C, false, s.plan⟩, 0) else (s, 9)

/-- A disk of n sectors, with at most m cached writes. -/
structure Ok (n m : Nat) (s : St) : Prop where
  len : s.S.length = n
  idx : ∀ c ∈ s.C, c.1 < n
  cl : s.C.length ≤ m
  pl : ∀ p ∈ s.plan, p.1 ≤ 1000000

theorem all_length : ∀ (C : List (Nat × Sec)) (S : List Sec), (all C S).length = S.length
  | [], S => rfl
  | c :: C, S => by show (all C (S.set c.1 c.2)).length = _; rw [all_length C]; simp
theorem sel_length : ∀ (C : List (Nat × Sec)) (ks : List Bool) (S : List Sec), (sel C ks S).length = S.length
  | [], _, S => rfl
  | _ :: _, [], S => rfl
  | c :: C, k :: ks, S => by simp only [sel]; rw [sel_length C]; split <;> simp
theorem all_snoc (C : List (Nat × Sec)) (c : Nat × Sec) (S : List Sec) : all (C ++ [c]) S = (all C S).set c.1 c.2 := by simp [all]
theorem all_take_succ {C : List (Nat × Sec)} {i : Nat} (h : i < C.length) (S : List Sec) : all (C.take (i + 1)) S = (all (C.take i) S).set C[i].1 C[i].2 := by
  rw [List.take_succ_eq_append_getElem h, all_snoc]
theorem sel_nil (C : List (Nat × Sec)) (S : List Sec) : sel C [] S = S := by cases C <;> rfl
/-- One write more. -/
theorem sel_snoc : ∀ (C : List (Nat × Sec)) (ks : List Bool) (S : List Sec) (c : Nat × Sec), sel (C ++ [c]) ks S = if ks.getD C.length false then (sel C ks S).set c.1 c.2 else sel C ks S
  | [], [], S, c => rfl
  | [], k :: ks, S, c => by cases k <;> simp [sel]
  | x :: C, [], S, c => by simp [sel]
  | x :: C, k :: ks, S, c => by
    simp only [List.cons_append, sel, sel_snoc C ks, List.length_cons, List.getD_cons_succ]
theorem sel_take_succ {C : List (Nat × Sec)} {i : Nat} (h : i < C.length) (ks : List Bool) (S : List Sec) :
    sel (C.take (i + 1)) ks S = if ks.getD i false then (sel (C.take i) ks S).set C[i].1 C[i].2 else sel (C.take i) ks S := by
  rw [List.take_succ_eq_append_getElem h, sel_snoc, List.length_take, Nat.min_eq_left (by omega)]
theorem sel_all : ∀ (C : List (Nat × Sec)) (ks : List Bool) (S : List Sec), (∀ i, i < C.length → ks.getD i false = true) → sel C ks S = all C S
  | [], _, S, _ => rfl
  | c :: C, [], S, h => by have := h 0 (by simp); simp at this
  | c :: C, k :: ks, S, h => by
    have h0 : k = true := by simpa using h 0 (by simp)
    subst h0
    simp only [sel, if_true]
    rw [sel_all C ks _ (fun i hi => by simpa using h (i + 1) (by simpa using hi))]
    rfl
theorem sel_none : ∀ (C : List (Nat × Sec)) (ks : List Bool) (S : List Sec), (∀ i, i < C.length → ks.getD i false = false) → sel C ks S = S
  | [], _, S, _ => rfl
  | c :: C, [], S, _ => rfl
  | c :: C, k :: ks, S, h => by
    have h0 : k = false := by simpa using h 0 (by simp)
    subst h0
    simp only [sel, Bool.false_eq_true, if_false]
    exact sel_none C ks _ (fun i hi => by simpa using h (i + 1) (by simpa using hi))
theorem sel_head : ∀ (C : List (Nat × Sec)) (k : Nat) (S : List Sec), sel C (List.replicate k true) S = all (C.take k) S
  | [], k, S => by simp [sel, all]
  | c :: C, 0, S => by simp [sel, all]
  | c :: C, k + 1, S => by
    simp only [List.replicate_succ, sel, if_true, List.take_succ_cons]
    rw [sel_head C k]
    rfl
/-- A sector is as it was, or it holds the data of a write. -/
theorem sel_from : ∀ (C : List (Nat × Sec)) (ks : List Bool) (S : List Sec) (j : Nat), (sel C ks S)[j]? = S[j]? ∨ ∃ i, ∃ h : i < C.length, C[i].1 = j ∧ (sel C ks S)[j]? = some C[i].2
  | [], _, S, j => .inl rfl
  | _ :: _, [], S, j => .inl rfl
  | c :: C, k :: ks, S, j => by
    simp only [sel]
    rcases sel_from C ks (if k then S.set c.1 c.2 else S) j with h | ⟨i, hi, h1, h2⟩
    · rw [h]
      cases k with
      | false => exact .inl rfl
      | true =>
        simp only [if_true]
        by_cases hj : c.1 = j
        · subst hj
          by_cases hl : c.1 < S.length
          · right
            refine ⟨0, by simp, rfl, ?_⟩
            rw [List.getElem?_set_self hl]; rfl
          · left
            rw [List.getElem?_eq_none (by simp; omega), List.getElem?_eq_none (by omega)]
        · left
          rw [List.getElem?_set_ne hj]
    · exact .inr ⟨i + 1, by simpa using hi, by simpa using h1, by simpa using h2⟩

theorem ok_new (n : Nat) : Ok n 0 (new n) := ⟨by simp [new], by simp [new], by simp [new], by simp [new]⟩
theorem Ok.le {n m m' : Nat} {s : St} (h : Ok n m s) (hm : m ≤ m') : Ok n m' s := ⟨h.len, h.idx, Nat.le_trans h.cl hm, h.pl⟩
theorem Ok.lose {n m : Nat} {s : St} (h : Ok n m s) (k : List Bool) : Ok n 0 (lose s k) := ⟨by rw [Bd.lose, sel_length, h.len], by simp [Bd.lose], by simp [Bd.lose], by simp [Bd.lose]⟩
theorem Ok.wr {n m : Nat} {s : St} (h : Ok n m s) (i : Int) (d : Sec) : Ok n (m + 1) (wr s i d).1 := by
  unfold Bd.wr
  split
  · exact h.le (by omega)
  rename_i hi
  split
  · exact h.le (by omega)
  have hl := h.len
  split
  · exact (h.lose _).le (by omega)
  · rename_i p k hp
    refine ⟨h.len, fun c hc => ?_, by simp; have := h.cl; omega, fun p' hp' => ?_⟩
    · simp only [List.mem_append, List.mem_singleton] at hc
      rcases hc with hc | rfl
      · exact h.idx c hc
      · show i.toNat < n; omega
    · simp only [Option.mem_def, Option.some.injEq] at hp'
      subst hp'
      have := h.pl _ hp
      show p ≤ _
      have h2 : p + 1 ≤ 1000000 := this
      omega
  · refine ⟨h.len, fun c hc => ?_, by simp; have := h.cl; omega, by simp⟩
    simp only [List.mem_append, List.mem_singleton] at hc
    rcases hc with hc | rfl
    · exact h.idx c hc
    · show i.toNat < n; omega
theorem Ok.fl {n m : Nat} {s : St} (h : Ok n m s) : Ok n m (fl s).1 := by
  unfold Bd.fl
  split
  · exact h
  · exact ⟨by rw [all_length, h.len], by simp, by simp, h.pl⟩
theorem Ok.cut {n m : Nat} {s : St} (h : Ok n m s) {p : Int} (hp : p ≤ 1000000) (k : List Bool) : Ok n m (cut s p k) := by
  refine ⟨h.len, h.idx, h.cl, fun q hq => ?_⟩
  unfold Bd.cut at hq
  dsimp only at hq
  split at hq
  · simp at hq
  · simp only [Option.mem_def, Option.some.injEq] at hq
    subst hq
    show p.toNat ≤ _
    omega
theorem Ok.pOff {n m : Nat} {s : St} (h : Ok n m s) (k : List Bool) : Ok n m (pOff s k).1 := by
  unfold Bd.pOff
  split
  · exact h
  · exact (h.lose k).le (by omega)
theorem Ok.pOn {n m : Nat} {s : St} (h : Ok n m s) : Ok n m (pOn s).1 := by
  unfold Bd.pOn
  split
  · exact ⟨h.len, h.idx, h.cl, h.pl⟩
  · exact h

/- The cells. -/
def strs (l : List Sec) : List Value := l.map fun d => .string (mkS d)
theorem strs_length (l : List Sec) : (strs l).length = l.length := by simp [strs]
theorem strs_get (l : List Sec) (i : Nat) : (strs l)[i]? = (l[i]?).map fun d => Value.string (mkS d) := by simp [strs]
theorem strs_getD {l : List Sec} {i : Nat} (h : i < l.length) : (strs l)[i]? = some (.string (mkS (l.getD i []))) := by
  rw [strs_get, List.getD_eq_getElem?_getD, List.getElem?_eq_getElem h]; rfl
theorem strs_set (l : List Sec) (i : Nat) (d : Sec) : (strs l).set i (.string (mkS d)) = strs (l.set i d) := by simp [strs, List.map_set]
theorem strs_one (l : List Sec) : ∀ v ∈ strs l, one v = true := by
  intro v hv
  simp only [strs, List.mem_map] at hv
  obtain ⟨b, _, rfl⟩ := hv
  rfl
theorem strs_append (a b : List Sec) : strs (a ++ b) = strs a ++ strs b := by simp [strs]
def wrow (c : Nat × Sec) : List Value := [.int .i64 (c.1 : Int), .string (mkS c.2)]
def wcells (C : List (Nat × Sec)) : List Value := C.flatMap wrow
theorem wcells_length (C : List (Nat × Sec)) : (wcells C).length = C.length * 2 := flat_length (f := wrow) (m := 2) (fun _ => rfl) C
theorem wcells_snoc (C : List (Nat × Sec)) (c : Nat × Sec) : wcells (C ++ [c]) = wcells C ++ wrow c := by simp [wcells]
theorem wcells_idx {C : List (Nat × Sec)} {i : Nat} (h : i < C.length) : (wcells C)[i * 2]? = some (.int .i64 (C[i].1 : Int)) := by
  have := flat_get (f := wrow) (m := 2) (fun _ => rfl) C i 0 h (by omega)
  simpa [wcells, wrow] using this
theorem wcells_data {C : List (Nat × Sec)} {i : Nat} (h : i < C.length) : (wcells C)[i * 2 + 1]? = some (.string (mkS C[i].2)) := by
  have := flat_get (f := wrow) (m := 2) (fun _ => rfl) C i 1 h (by omega)
  simpa [wcells, wrow] using this
theorem wrow_one (c : Nat × Sec) : ∀ v ∈ wrow c, one v = true := by
  intro v hv
  simp only [wrow, List.mem_cons, List.not_mem_nil, or_false] at hv
  rcases hv with rfl | rfl <;> rfl
def bls (l : List Bool) : List Value := l.map fun b => .bool b
theorem bls_length (l : List Bool) : (bls l).length = l.length := by simp [bls]
theorem bls_getD {l : List Bool} {i : Nat} (h : i < l.length) : (bls l)[i]? = some (.bool (l.getD i false)) := by
  rw [List.getD_eq_getElem?_getD, List.getElem?_eq_getElem h]; simp [bls, h]
theorem bls_one (l : List Bool) : ∀ v ∈ bls l, one v = true := by
  intro v hv
  simp only [bls, List.mem_map] at hv
  obtain ⟨b, _, rfl⟩ := hv
  rfl
theorem bls_set (l : List Bool) (i : Nat) (b : Bool) : (bls l).set i (.bool b) = bls (l.set i b) := by simp [bls, List.map_set]
end Go.Proofs.Ytgnmbenhpjkbfaa.Bd
