/-
  The freezer: its plain form, and the program's methods over the code. No condition beyond those stated.
-/
import Derived.Test.YtpinpccamfhofaaGB
import Derived.Test.YtpinpccamfhofaaW1
set_option linter.unusedVariables false
set_option linter.unusedSimpArgs false
set_option maxRecDepth 100000
namespace Go.Proofs.Ytpinpccamfhofaa.Hi
open Go Go.Ev Go.Proofs


/-- A freezer: its state (0 running, 1 freezing, 2 frozen), clock, deadline, and the ends of sections. -/
structure Fz where
  st : Nat
  clk : Nat
  dl : Nat
  ends : List Nat
def us (l : List Nat) : List Value := l.map fun n : Nat => .int .u64 (n : Int)
theorem us_length (l : List Nat) : (us l).length = l.length := by simp [us]
theorem us_get {l : List Nat} {i : Nat} (h : i < l.length) : (us l)[i]? = some (.int .u64 ((l[i] : Nat) : Int)) := by
  unfold us
  rw [List.getElem?_map, List.getElem?_eq_getElem h]
  rfl
theorem us_set (l : List Nat) (i n : Nat) : (us l).set i (.int .u64 (n : Int)) = us (l.set i n) := by simp [us, List.map_set]
def fzc (s : Fz) (eb : Nat) : List Value := [.int .i64 (s.st : Int), .int .u64 (s.clk : Int), .int .u64 (s.dl : Int), .slice (some ⟨eb, 0, none⟩) s.ends.length s.ends.length]
/-- Block p holds the freezer s, block eb its list. -/
structure FzAt (w : World) (p eb : Nat) (s : Fz) : Prop where
  d : At w p (fzc s eb) 133
  e : At w eb (us s.ends) 32
  ne : p ≠ eb
theorem FzAt.ext {w w' : World} {p eb : Nat} {s : Fz} {X : Nat → Prop} (h : FzAt w p eb s) (he : Ext w w' X) (h1 : ¬ X p) (h2 : ¬ X eb) : FzAt w' p eb s := ⟨h.d.ext he h1, h.e.ext he h2, h.ne⟩
theorem FzAt.ext0 {w w' : World} {p eb : Nat} {s : Fz} (h : FzAt w p eb s) (he : Ext w w' (fun _ => False)) : FzAt w' p eb s := h.ext he (fun h => h) (fun h => h)

def timely (s : Fz) (now : Nat) : Bool := decide (s.clk ≤ now) && decide (now ≤ 1152921504606846976)
def known (s : Fz) (pr : Int) : Bool := decide (0 ≤ pr) && decide (pr < (s.ends.length : Int))
def ent (s : Fz) (pr : Int) (un now : Nat) : Fz × Int :=
  if known s pr = false ∨ un < now ∨ 1152921504606846976 < un ∨ timely s now = false then (s, 1) else if s.st ≠ 0 then (s, 9)
  else (⟨s.st, now, s.dl, s.ends.set pr.toNat (if s.ends.getD pr.toNat 0 < un then un else s.ends.getD pr.toNat 0)⟩, 0)
def lim (s : Fz) (now : Nat) : Nat := if s.dl < now then s.dl else now
def adv (s : Fz) (now : Nat) : Fz × Bool × Int :=
  if timely s now = false then (s, false, 1) else if s.st ≠ 1 then (⟨s.st, now, s.dl, s.ends⟩, decide (s.st = 2), 0)
  else if s.ends.all (fun e => decide (e ≤ lim s now)) then (⟨2, now, s.dl, s.ends⟩, true, 0)
  else if s.dl ≤ now then (⟨0, now, s.dl, s.ends⟩, false, 14) else (⟨1, now, s.dl, s.ends⟩, false, 0)
def frz (s : Fz) (now dl : Nat) : Fz × Int :=
  if dl < now ∨ 1152921504606846976 < dl ∨ timely s now = false then (s, 1) else if s.st ≠ 0 then (s, 9) else ((adv ⟨1, s.clk, dl, s.ends⟩ now).1, (adv ⟨1, s.clk, dl, s.ends⟩ now).2.2)
def thw (s : Fz) (now : Nat) : Fz × Int := if timely s now = false then (s, 1) else if s.st = 0 then (s, 9) else (⟨0, now, s.dl, s.ends⟩, 0)
def fro (s : Fz) (pr : Int) : Bool := known s pr && (decide (s.st = 2) || decide (s.st = 1) && decide (s.ends.getD pr.toNat 0 ≤ s.clk))
def fz0 (n : Nat) : Fz := ⟨0, 0, 0, List.replicate n 0⟩

section
variable {U w : World} {Q : Value → World → Prop} {p eb : Nat} {s : Fz}

theorem newFreezer_c {n : Nat} (hn : n ≤ 64) (hQ : ∀ p eb w', FzAt w' p eb (fz0 n) → w.heap.size ≤ p → w.heap.size ≤ eb → Ext w w' (fun _ => False) → Q (.tuple #[.pointer (some ⟨p, 0, none⟩), .int .i64 0]) w') :
    CallE Try.prog 29 #[.int .i64 (n : Int)] w Q := by
  apply C.hibernate_NewFreezer
  unfold W.hibernate_NewFreezer
  rw [decide_eq_false (by omega), br_false, decide_eq_false (by omega), br_false]
  refine mk_i 32 1 (by omega) (by omega) fun eb w1 heb a1 e1 z1 => fs ?_
  have hz : zeroL Try.prog 32 = [.int .u64 0] := by kernel_rfl
  rw [Int.toNat_natCast, hz, zeros_one] at a1
  rw [Int.toNat_natCast]
  have hus : us (List.replicate n 0) = List.replicate n (Value.int .u64 0) := by simp [us]
  refine al_i fun p w2 hp a2 e2 z2 => ?_
  refine hQ p eb w2 ⟨?_, by show At w2 eb (us (List.replicate n 0)) _; rw [hus]; exact a1.ext e2 (fun h => h), by omega⟩ (by omega) (by omega) (e1.tr e2)
  have : fzc (fz0 n) eb = [.int .i64 0, .int .u64 0, .int .u64 0, .slice (some ⟨eb, 0, none⟩) n n] := by simp [fzc, fz0]
  rw [this]
  exact a2
theorem newFreezer_bad {n : Int} (hn : n < 0 ∨ 64 < n) (hQ : Q (.tuple #[.pointer none, .int .i64 1]) w) : CallE Try.prog 29 #[.int .i64 n] w Q := by
  apply C.hibernate_NewFreezer
  unfold W.hibernate_NewFreezer
  by_cases h : n < 0
  · rw [decide_eq_true h, br_true]; exact hQ
  · rw [decide_eq_false h, br_false, decide_eq_true (by omega), br_true]; exact hQ
theorem timely_c {now : Nat} (h : FzAt w p eb s) (hQ : Q (.bool (timely s now)) w) : CallE Try.prog 75 #[.pointer (some ⟨p, 0, none⟩), .int .u64 (now : Int)] w Q := by
  apply C.hibernate_Freezer_timely
  unfold W.hibernate_Freezer_timely
  simp only [add_mk, Nat.zero_add]
  refine ldI h.d rfl ?_
  unfold timely at hQ
  by_cases h1 : s.clk ≤ now
  · rw [decide_eq_true h1, Bool.true_and] at hQ
    rw [decide_eq_true (by omega), br_true]
    by_cases h2 : now ≤ 1152921504606846976
    · rw [decide_eq_true h2] at hQ
      rw [decide_eq_true (by omega)]; exact hQ
    · rw [decide_eq_false h2] at hQ
      rw [decide_eq_false (by omega)]; exact hQ
  · rw [decide_eq_false h1, Bool.false_and] at hQ
    rw [decide_eq_false (by omega), br_false]; exact hQ
theorem known_c {pr : Int} (h : FzAt w p eb s) (hQ : Q (.bool (known s pr)) w) : CallE Try.prog 77 #[.pointer (some ⟨p, 0, none⟩), .int .i64 pr] w Q := by
  apply C.hibernate_Freezer_known
  unfold W.hibernate_Freezer_known
  simp only [add_mk, Nat.zero_add]
  unfold known at hQ
  by_cases h1 : 0 ≤ pr
  · rw [decide_eq_true h1, Bool.true_and] at hQ
    rw [decide_eq_true h1, br_true]
    refine ldL h.d rfl ?_
    exact hQ
  · rw [decide_eq_false h1, Bool.false_and] at hQ
    rw [decide_eq_false h1, br_false]; exact hQ
theorem known_iff {s : Fz} {pr : Int} : known s pr = true ↔ 0 ≤ pr ∧ pr < (s.ends.length : Int) := by simp [known]
theorem enter_c {pr : Int} {un now : Nat} (h : FzAt w p eb s) (hQ : ∀ w', FzAt w' p eb (ent s pr un now).1 → Ext w w' (fun b => b = p ∨ b = eb) → Q (.int .i64 (ent s pr un now).2) w') :
    CallE Try.prog 38 #[.pointer (some ⟨p, 0, none⟩), .int .i64 pr, .int .u64 (un : Int), .int .u64 (now : Int)] w Q := by
  apply C.hibernate_Freezer_Enter
  unfold W.hibernate_Freezer_Enter
  unfold ent at hQ
  have bad : (known s pr = false ∨ un < now ∨ 1152921504606846976 < un ∨ timely s now = false) → Q (.int .i64 1) w := by
    intro hc
    rw [if_pos hc] at hQ
    exact hQ w h (Ext.refl _ _)
  refine known_c h (fb ?_)
  by_cases hk : known s pr = true
  case neg =>
    rw [Bool.eq_false_iff.2 hk, Bool.not_false, br_true]
    exact bad (.inl (Bool.eq_false_iff.2 hk))
  rw [hk, Bool.not_true, br_false]
  by_cases h1 : un < now
  · rw [decide_eq_true (by omega), br_true]
    exact bad (.inr (.inl h1))
  rw [decide_eq_false (by omega), br_false]
  by_cases h2 : 1152921504606846976 < un
  · rw [decide_eq_true (by omega), br_true]
    exact bad (.inr (.inr (.inl h2)))
  rw [decide_eq_false (by omega), br_false]
  refine timely_c h (fb ?_)
  by_cases ht : timely s now = true
  case neg =>
    rw [Bool.eq_false_iff.2 ht, Bool.not_false, br_true]
    exact bad (.inr (.inr (.inr (Bool.eq_false_iff.2 ht))))
  rw [ht, Bool.not_true, br_false]
  rw [if_neg (by rw [hk, ht]; simp; omega)] at hQ
  simp only [add_mk, Nat.zero_add]
  refine ldI h.d rfl ?_
  by_cases h0 : s.st = 0
  case neg =>
    rw [if_pos h0] at hQ
    rw [show (((s.st : Nat) : Int) != 0) = true by rw [bne_iff_ne]; omega, br_true]
    exact hQ w h (Ext.refl _ _)
  rw [if_neg (by simp [h0])] at hQ
  rw [show (((s.st : Nat) : Int) != 0) = false by rw [h0]; rfl, br_false]
  obtain ⟨k0, k1⟩ := known_iff.1 hk
  obtain ⟨k, rfl⟩ := nat_of k0
  have hkl : k < s.ends.length := by omega
  refine st_i h.d (by show 1 < 4; omega) fun w1 a1 e1 z1 => ?_
  unfold dr
  dsimp only
  refine ldL (w := drew w1) a1.drew_ rfl ?_
  refine ldL (w := drew w1) a1.drew_ rfl ?_
  have he1 := (h.e.ext e1 (Ne.symm h.ne)).drew_
  refine ixb k 1 32 hkl ?_
  rw [Nat.mul_one]
  refine ldI (w := drew w1) he1 (us_get hkl) ?_
  refine ixb k 1 32 hkl ?_
  rw [Nat.mul_one]
  have hgd : s.ends.getD k 0 = s.ends[k] := by rw [List.getD_eq_getElem?_getD, List.getElem?_eq_getElem hkl]; rfl
  rw [Int.toNat_natCast, hgd] at hQ
  have hif : (if (un : Int) > ((s.ends[k] : Nat) : Int) then (un : Int) else ((s.ends[k] : Nat) : Int)) = (((if s.ends[k] < un then un else s.ends[k]) : Nat) : Int) := by split <;> split <;> omega
  rw [hif]
  refine st_i (w := drew w1) he1 (by rw [us_length]; exact hkl) fun w2 a2 e2 z2 => ?_
  rw [us_set] at a2
  refine hQ w2 ⟨?_, a2, h.ne⟩ ((e1.drew_).trans e2 (fun _ _ h => .inl h) (fun _ _ h => .inr h))
  have hd := a1.drew_.ext e2 h.ne
  have : fzc ⟨s.st, now, s.dl, s.ends.set k (if s.ends[k] < un then un else s.ends[k])⟩ eb = (fzc s eb).set 1 (.int .u64 (now : Int)) := by simp [fzc]
  rw [this]
  exact hd

theorem advance_c {now : Nat} (h : FzAt w p eb s) (hl : s.ends.length ≤ 1000000) (hQ : ∀ w', FzAt w' p eb (adv s now).1 → Ext w w' (fun b => b = p ∨ b = eb) → Q (.tuple #[.bool (adv s now).2.1, .int .i64 (adv s now).2.2]) w') :
    CallE Try.prog 34 #[.pointer (some ⟨p, 0, none⟩), .int .u64 (now : Int)] w Q := by
  apply C.hibernate_Freezer_Advance
  unfold W.hibernate_Freezer_Advance
  unfold adv at hQ
  refine timely_c h (fb ?_)
  by_cases ht : timely s now = true
  case neg =>
    rw [if_pos (Bool.eq_false_iff.2 ht)] at hQ
    rw [Bool.eq_false_iff.2 ht, Bool.not_false, br_true]
    exact hQ w h (Ext.refl _ _)
  rw [if_neg (by rw [ht]; simp)] at hQ
  rw [ht, Bool.not_true, br_false]
  simp only [add_mk, Nat.zero_add]
  refine st_i h.d (by show 1 < 4; omega) fun w1 a1 e1 z1 => ?_
  have f1 : FzAt w1 p eb ⟨s.st, now, s.dl, s.ends⟩ := ⟨a1, h.e.ext e1 (Ne.symm h.ne), h.ne⟩
  have e1' : Ext w w1 (fun b => b = p ∨ b = eb) := e1.mono (fun _ _ h => .inl h)
  refine ldI f1.d rfl ?_
  by_cases h1 : s.st = 1
  case neg =>
    rw [if_pos h1] at hQ
    rw [show (((s.st : Nat) : Int) != 1) = true by rw [bne_iff_ne]; omega, br_true]
    refine ldI f1.d rfl ?_
    have := hQ w1 f1 e1'
    rw [show (((s.st : Nat) : Int) == 2) = decide (s.st = 2) by by_cases hh : s.st = 2 <;> simp [hh]; omega]
    exact this
  rw [if_neg (by simp [h1])] at hQ
  rw [show (((s.st : Nat) : Int) != 1) = false by rw [h1]; rfl, br_false]
  refine ldI f1.d rfl ?_
  refine ldL f1.d rfl ?_
  have hlim : (if ((s.dl : Nat) : Int) < ((now : Nat) : Int) then ((s.dl : Nat) : Int) else ((now : Nat) : Int)) = ((lim s now : Nat) : Int) := by unfold lim; split <;> split <;> omega
  refine LoopW.nat s.ends.length (fun i x w' => x = ((s.ends.take i).all (fun e => decide (e ≤ lim s now)), (i : Int), ()) ∧ w' = w1) ⟨rfl, rfl⟩ ?_
  rintro i x w2 next hi ⟨rfl, rfl⟩ hnext
  dsimp only
  by_cases hlt : i < s.ends.length
  · rw [decide_eq_true (by omega), br_true]
    refine ixb i 1 32 hlt ?_
    rw [Nat.mul_one]
    refine ldI f1.e (us_get hlt) ?_
    have htk : (s.ends.take (i + 1)).all (fun e => decide (e ≤ lim s now)) = ((s.ends.take i).all (fun e => decide (e ≤ lim s now)) && decide (s.ends[i] ≤ lim s now)) := by
      rw [show s.ends.take (i + 1) = s.ends.take i ++ [s.ends[i]] from (List.take_append_getElem hlt).symm, List.all_append]
      simp only [List.all_cons, List.all_nil, Bool.and_true]
    change br (decide (((s.ends[i] : Nat) : Int) > (if ((s.dl : Nat) : Int) < ((now : Nat) : Int) then ((s.dl : Nat) : Int) else ((now : Nat) : Int)))) _ _
    rw [hlim, inc_nat (by omega)]
    by_cases hc : s.ends[i] ≤ lim s now
    · rw [decide_eq_false (by omega), br_false]
      exact hnext hlt _ _ ⟨by rw [htk, decide_eq_true hc, Bool.and_true], rfl⟩
    · rw [decide_eq_true (by omega), br_true]
      exact hnext hlt _ _ ⟨by rw [htk, decide_eq_false hc, Bool.and_false], rfl⟩
  rw [decide_eq_false (by omega), br_false, List.take_of_length_le (by omega)]
  unfold W.hibernate_Freezer_Advance_k14
  simp only [add_mk, Nat.zero_add]
  have setst : ∀ (v : Nat) (w3 : World), At w3 p ((fzc ⟨s.st, now, s.dl, s.ends⟩ eb).set 0 (.int .i64 (v : Int))) 133 → Ext w2 w3 (· = p) → FzAt w3 p eb ⟨v, now, s.dl, s.ends⟩ := fun v w3 a3 e3 => ⟨a3, f1.e.ext e3 (Ne.symm h.ne), h.ne⟩
  by_cases hall : s.ends.all (fun e => decide (e ≤ lim s now)) = true
  · rw [if_pos hall] at hQ
    rw [hall, br_true]
    refine st_i f1.d (by show 0 < 4; omega) fun w3 a3 e3 z3 => ?_
    have f3 := setst 2 w3 a3 e3
    refine ldI f3.d rfl ?_
    exact hQ w3 f3 (e1'.trans e3 (fun _ _ h => h) (fun _ _ h => .inl h))
  rw [if_neg hall] at hQ
  rw [Bool.eq_false_iff.2 hall, br_false]
  refine ldI f1.d rfl ?_
  by_cases hdl : s.dl ≤ now
  · rw [if_pos hdl] at hQ
    rw [decide_eq_true (by show ((now : Nat) : Int) ≥ ((s.dl : Nat) : Int); omega), br_true]
    refine st_i f1.d (by show 0 < 4; omega) fun w3 a3 e3 z3 => ?_
    exact hQ w3 (setst 0 w3 a3 e3) (e1'.trans e3 (fun _ _ h => h) (fun _ _ h => .inl h))
  rw [if_neg hdl] at hQ
  rw [decide_eq_false (by show ¬ ((now : Nat) : Int) ≥ ((s.dl : Nat) : Int); omega), br_false]
  refine ldI f1.d rfl ?_
  have := hQ w2 (by rw [h1] at f1; exact f1) e1'
  rw [h1]
  exact this

theorem freeze_c {now dl : Nat} (h : FzAt w p eb s) (hl : s.ends.length ≤ 1000000) (hQ : ∀ w', FzAt w' p eb (frz s now dl).1 → Ext w w' (fun b => b = p ∨ b = eb) → Q (.int .i64 (frz s now dl).2) w') :
    CallE Try.prog 32 #[.pointer (some ⟨p, 0, none⟩), .int .u64 (now : Int), .int .u64 (dl : Int)] w Q := by
  apply C.hibernate_Freezer_Freeze
  unfold W.hibernate_Freezer_Freeze
  unfold frz at hQ
  have bad : (dl < now ∨ 1152921504606846976 < dl ∨ timely s now = false) → Q (.int .i64 1) w := by
    intro hc
    rw [if_pos hc] at hQ
    exact hQ w h (Ext.refl _ _)
  by_cases h1 : dl < now
  · rw [decide_eq_true (by omega), br_true]
    exact bad (.inl h1)
  rw [decide_eq_false (by omega), br_false]
  by_cases h2 : 1152921504606846976 < dl
  · rw [decide_eq_true (by omega), br_true]
    exact bad (.inr (.inl h2))
  rw [decide_eq_false (by omega), br_false]
  refine timely_c h (fb ?_)
  by_cases ht : timely s now = true
  case neg =>
    rw [Bool.eq_false_iff.2 ht, Bool.not_false, br_true]
    exact bad (.inr (.inr (Bool.eq_false_iff.2 ht)))
  rw [ht, Bool.not_true, br_false]
  rw [if_neg (by rw [ht]; simp; omega)] at hQ
  simp only [add_mk, Nat.zero_add]
  refine ldI h.d rfl ?_
  by_cases h0 : s.st = 0
  case neg =>
    rw [if_pos h0] at hQ
    rw [show (((s.st : Nat) : Int) != 0) = true by rw [bne_iff_ne]; omega, br_true]
    exact hQ w h (Ext.refl _ _)
  rw [if_neg (by simp [h0])] at hQ
  rw [show (((s.st : Nat) : Int) != 0) = false by rw [h0]; rfl, br_false]
  refine st_i h.d (by show 0 < 4; omega) fun w1 a1 e1 z1 => ?_
  refine st_i a1 (by show 2 < 4; omega) fun w2 a2 e2 z2 => ?_
  have f2 : FzAt w2 p eb ⟨1, s.clk, dl, s.ends⟩ := ⟨a2, (h.e.ext e1 (Ne.symm h.ne)).ext e2 (Ne.symm h.ne), h.ne⟩
  refine advance_c f2 hl fun w3 f3 e3 => ⟨_, _, rfl, ?_⟩
  exact hQ w3 f3 ((e1.trans e2 (Z := fun b => b = p ∨ b = eb) (fun _ _ h => .inl h) (fun _ _ h => .inl h)).tr e3)

theorem thaw_c {now : Nat} (h : FzAt w p eb s) (hQ : ∀ w', FzAt w' p eb (thw s now).1 → Ext w w' (fun b => b = p ∨ b = eb) → Q (.int .i64 (thw s now).2) w') :
    CallE Try.prog 36 #[.pointer (some ⟨p, 0, none⟩), .int .u64 (now : Int)] w Q := by
  apply C.hibernate_Freezer_Thaw
  unfold W.hibernate_Freezer_Thaw
  unfold thw at hQ
  refine timely_c h (fb ?_)
  by_cases ht : timely s now = true
  case neg =>
    rw [if_pos (Bool.eq_false_iff.2 ht)] at hQ
    rw [Bool.eq_false_iff.2 ht, Bool.not_false, br_true]
    exact hQ w h (Ext.refl _ _)
  rw [if_neg (by rw [ht]; simp)] at hQ
  rw [ht, Bool.not_true, br_false]
  simp only [add_mk, Nat.zero_add]
  refine ldI h.d rfl ?_
  by_cases h0 : s.st = 0
  · rw [if_pos h0] at hQ
    rw [show (((s.st : Nat) : Int) == 0) = true by rw [h0]; rfl, br_true]
    exact hQ w h (Ext.refl _ _)
  rw [if_neg h0] at hQ
  rw [show (((s.st : Nat) : Int) == 0) = false by rw [beq_eq_false_iff_ne]; omega, br_false]
  refine st_i h.d (by show 1 < 4; omega) fun w1 a1 e1 z1 => ?_
  refine st_i a1 (by show 0 < 4; omega) fun w2 a2 e2 z2 => ?_
  exact hQ w2 ⟨a2, (h.e.ext e1 (Ne.symm h.ne)).ext e2 (Ne.symm h.ne), h.ne⟩ (e1.trans e2 (fun _ _ h => .inl h) (fun _ _ h => .inl h))

theorem frozen_c {pr : Int} (h : FzAt w p eb s) (hQ : ∀ w', FzAt w' p eb s → Ext w w' (fun _ => False) → Q (.bool (fro s pr)) w') :
    CallE Try.prog 40 #[.pointer (some ⟨p, 0, none⟩), .int .i64 pr] w Q := by
  apply C.hibernate_Freezer_Frozen
  unfold W.hibernate_Freezer_Frozen
  unfold fro at hQ
  refine known_c h (fb ?_)
  by_cases hk : known s pr = true
  case neg =>
    rw [Bool.eq_false_iff.2 hk, Bool.not_false, br_true]
    have := hQ w h (Ext.refl _ _)
    rw [Bool.eq_false_iff.2 hk, Bool.false_and] at this
    exact this
  rw [hk, Bool.not_true, br_false]
  rw [hk, Bool.true_and] at hQ
  simp only [add_mk, Nat.zero_add]
  unfold dr
  dsimp only
  have ed : Ext w (drew w) (fun _ => False) := (Ext.refl w _).drew_
  have hd := h.ext0 ed
  have hq := hQ (drew w) hd ed
  obtain ⟨k0, k1⟩ := known_iff.1 hk
  obtain ⟨k, rfl⟩ := nat_of k0
  have hkl : k < s.ends.length := by omega
  refine ldI hd.d rfl ?_
  by_cases h2 : s.st = 2
  · rw [show (((s.st : Nat) : Int) == 2) = true by rw [h2]; rfl, br_true]
    rw [decide_eq_true h2, Bool.true_or] at hq
    exact hq
  rw [show (((s.st : Nat) : Int) == 2) = false by rw [beq_eq_false_iff_ne]; omega, br_false]
  rw [decide_eq_false h2, Bool.false_or] at hq
  refine ldI hd.d rfl ?_
  by_cases h1 : s.st = 1
  case neg =>
    rw [show (((s.st : Nat) : Int) == 1) = false by rw [beq_eq_false_iff_ne]; omega, br_false]
    rw [decide_eq_false h1, Bool.false_and] at hq
    exact hq
  rw [show (((s.st : Nat) : Int) == 1) = true by rw [h1]; rfl, br_true]
  rw [decide_eq_true h1, Bool.true_and] at hq
  refine ldL hd.d rfl ?_
  refine ixb k 1 32 hkl ?_
  rw [Nat.mul_one]
  refine ldI hd.e (us_get hkl) ?_
  refine ldI hd.d rfl ?_
  have hgd : s.ends.getD k 0 = s.ends[k] := by rw [List.getD_eq_getElem?_getD, List.getElem?_eq_getElem hkl]; rfl
  rw [Int.toNat_natCast, hgd] at hq
  have : decide (((s.ends[k] : Nat) : Int) ≤ ((s.clk : Nat) : Int)) = decide (s.ends[k] ≤ s.clk) := by
    by_cases hh : s.ends[k] ≤ s.clk
    · rw [decide_eq_true hh, decide_eq_true (by omega)]
    · rw [decide_eq_false hh, decide_eq_false (by omega)]
  rw [this]
  exact hq
end
end Go.Proofs.Ytpinpccamfhofaa.Hi
