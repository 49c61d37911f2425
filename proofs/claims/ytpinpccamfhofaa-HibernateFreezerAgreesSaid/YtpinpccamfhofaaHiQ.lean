/-
  The reference's freezer over the code. No condition beyond those stated.
-/
import Derived.Test.YtpinpccamfhofaaHiO
set_option linter.unusedVariables false
set_option linter.unusedSimpArgs false
set_option maxRecDepth 100000
namespace Go.Proofs.Ytpinpccamfhofaa.Hi
open Go Go.Ev Go.Proofs Go.Proofs.Ytpinpccamfhofaa.Im

/-- The reference keeps the end of a section plus 1, or 0. -/
def rel (es u : List Nat) : Prop := u.length = es.length ∧ ∀ i (h : i < es.length) (h' : i < u.length), (u[i] = 0 ∧ es[i] = 0) ∨ (u[i] = es[i] + 1 ∧ es[i] ≤ 1152921504606846976)
theorem rel.set {es u : List Nat} (h : rel es u) {k x : Nat} (hx : x ≤ 1152921504606846976) : rel (es.set k x) (u.set k (x + 1)) := by
  refine ⟨by rw [List.length_set, List.length_set]; exact h.1, fun i h1 h2 => ?_⟩
  rw [List.length_set] at h1 h2
  rw [List.getElem_set, List.getElem_set]
  by_cases hik : k = i
  · rw [if_pos hik, if_pos hik]; exact .inr ⟨rfl, hx⟩
  · rw [if_neg hik, if_neg hik]; exact h.2 i h1 h2
theorem rel.rep (n : Nat) : rel (List.replicate n 0) (List.replicate n 0) := ⟨rfl, fun i h1 h2 => .inl ⟨List.getElem_replicate .., List.getElem_replicate ..⟩⟩
def rfc (s : Fz) (eb : Nat) : List Value := [.slice (some ⟨eb, 0, none⟩) s.ends.length s.ends.length, .int .i64 (s.st : Int), .int .u64 (s.dl : Int), .int .u64 (s.clk : Int)]
/-- Block p holds the reference's freezer in state s, block eb its list. -/
structure RfAt (w : World) (p eb : Nat) (s : Fz) : Prop where
  d : At w p (rfc s eb) 69
  e : ∃ u, At w eb (us u) 32 ∧ rel s.ends u
  ne : p ≠ eb
theorem RfAt.ext {w w' : World} {p eb : Nat} {s : Fz} {X : Nat → Prop} (h : RfAt w p eb s) (he : Ext w w' X) (h1 : ¬ X p) (h2 : ¬ X eb) : RfAt w' p eb s := by
  obtain ⟨d, ⟨u, a, r⟩, ne⟩ := h
  exact ⟨d.ext he h1, ⟨u, a.ext he h2, r⟩, ne⟩
theorem RfAt.ext0 {w w' : World} {p eb : Nat} {s : Fz} (h : RfAt w p eb s) (he : Ext w w' (fun _ => False)) : RfAt w' p eb s := h.ext he (fun h => h) (fun h => h)
theorem RfAt.lt {w : World} {p eb : Nat} {s : Fz} (h : RfAt w p eb s) : p < w.heap.size ∧ eb < w.heap.size := by
  obtain ⟨d, ⟨u, a, r⟩, ne⟩ := h
  exact ⟨d.lt, a.lt⟩
def bad (s : Fz) (now later : Nat) : Bool := decide (later < now) || decide (1152921504606846976 < later) || !timely s now
theorem bad_same (s : Fz) (now : Nat) : bad s now now = !timely s now := by
  unfold bad timely
  by_cases h : now ≤ 1152921504606846976
  · rw [decide_eq_false (by omega), decide_eq_false (by omega)]; rfl
  · rw [decide_eq_false (show ¬ now ≤ 1152921504606846976 from h), Bool.and_false, Bool.not_false, Bool.or_true]
theorem bad_iff {s : Fz} {now later : Nat} : bad s now later = true ↔ (later < now ∨ 1152921504606846976 < later ∨ timely s now = false) := by
  unfold bad
  cases timely s now <;> simp

section
variable {U w : World} {Q : Value → World → Prop} {p eb : Nat} {s : Fz}

theorem rnewFreezer_c {n : Nat} (hn : n ≤ 64) (hQ : ∀ p eb w', RfAt w' p eb (fz0 n) → w.heap.size ≤ p → w.heap.size ≤ eb → Ext w w' (fun _ => False) → Q (.tuple #[.pointer (some ⟨p, 0, none⟩), .int .i64 0]) w') :
    CallE Try.prog 30 #[.int .i64 (n : Int)] w Q := by
  apply C.ref35_NewFreezer
  unfold W.ref35_NewFreezer
  rw [decide_eq_false (by omega), br_false, decide_eq_false (by omega), br_false]
  refine mk_i 32 1 (by omega) (by omega) fun eb w1 heb a1 e1 z1 => fs ?_
  have hz : zeroL Try.prog 32 = [.int .u64 0] := by kernel_rfl
  rw [Int.toNat_natCast, hz, zeros_one] at a1
  rw [Int.toNat_natCast]
  have hus : us (List.replicate n 0) = List.replicate n (Value.int .u64 0) := by simp [us]
  refine al_i fun p w2 hp a2 e2 z2 => ?_
  refine hQ p eb w2 ⟨?_, ⟨List.replicate n 0, by rw [hus]; exact a1.ext e2 (fun h => h), rel.rep n⟩, by omega⟩ (by omega) (by omega) (e1.tr e2)
  have : rfc (fz0 n) eb = [.slice (some ⟨eb, 0, none⟩) n n, .int .i64 0, .int .u64 0, .int .u64 0] := by simp [rfc, fz0]
  rw [this]
  exact a2
theorem rnewFreezer_bad {n : Int} (hn : n < 0 ∨ 64 < n) (hQ : Q (.tuple #[.pointer none, .int .i64 1]) w) : CallE Try.prog 30 #[.int .i64 n] w Q := by
  apply C.ref35_NewFreezer
  unfold W.ref35_NewFreezer
  by_cases h : n < 0
  · rw [decide_eq_true h, br_true]; exact hQ
  · rw [decide_eq_false h, br_false, decide_eq_true (by omega), br_true]; exact hQ
theorem rbad_c {now later : Nat} (h : RfAt w p eb s) (hQ : Q (.bool (bad s now later)) w) : CallE Try.prog 76 #[.pointer (some ⟨p, 0, none⟩), .int .u64 (now : Int), .int .u64 (later : Int)] w Q := by
  apply C.ref35_Freezer_bad
  unfold W.ref35_Freezer_bad
  unfold bad timely at hQ
  by_cases h1 : later < now
  · rw [decide_eq_true h1, Bool.true_or, Bool.true_or] at hQ
    rw [decide_eq_true (by omega), br_true]; exact hQ
  rw [decide_eq_false h1, Bool.false_or] at hQ
  rw [decide_eq_false (by omega), br_false]
  by_cases h2 : 1152921504606846976 < later
  · rw [decide_eq_true h2, Bool.true_or] at hQ
    rw [decide_eq_true (by omega), br_true]; exact hQ
  rw [decide_eq_false h2, Bool.false_or] at hQ
  rw [decide_eq_false (by omega), br_false]
  simp only [add_mk, Nat.zero_add]
  refine ldI h.d rfl ?_
  by_cases h3 : s.clk ≤ now
  · rw [decide_eq_true h3, Bool.true_and] at hQ
    rw [decide_eq_false (by omega), br_false]
    by_cases h4 : now ≤ 1152921504606846976
    · rw [decide_eq_true h4] at hQ
      rw [decide_eq_false (by omega)]; exact hQ
    · rw [decide_eq_false h4] at hQ
      rw [decide_eq_true (by omega)]; exact hQ
  · rw [decide_eq_false h3, Bool.false_and] at hQ
    rw [decide_eq_true (by omega), br_true]; exact hQ

theorem renter_c {pr : Int} {un now : Nat} (h : RfAt w p eb s) (hQ : ∀ w', RfAt w' p eb (ent s pr un now).1 → Ext w w' (fun b => b = p ∨ b = eb) → Q (.int .i64 (ent s pr un now).2) w') :
    CallE Try.prog 39 #[.pointer (some ⟨p, 0, none⟩), .int .i64 pr, .int .u64 (un : Int), .int .u64 (now : Int)] w Q := by
  apply C.ref35_Freezer_Enter
  unfold W.ref35_Freezer_Enter
  unfold ent at hQ
  have bd : (known s pr = false ∨ un < now ∨ 1152921504606846976 < un ∨ timely s now = false) → Q (.int .i64 1) w := by
    intro hc
    rw [if_pos hc] at hQ
    exact hQ w h (Ext.refl _ _)
  by_cases k0 : pr < 0
  · rw [decide_eq_true k0, br_true]
    exact bd (.inl (Bool.eq_false_iff.2 fun hc => by have := (known_iff.1 hc).1; omega))
  rw [decide_eq_false k0, br_false]
  simp only [add_mk, Nat.zero_add]
  refine ldL h.d rfl ?_
  by_cases k1 : pr < (s.ends.length : Int)
  case neg =>
    rw [decide_eq_true (by omega), br_true]
    exact bd (.inl (Bool.eq_false_iff.2 fun hc => by have := (known_iff.1 hc).2; omega))
  rw [decide_eq_false (by omega), br_false]
  refine rbad_c h (fb ?_)
  have hk : known s pr = true := known_iff.2 ⟨by omega, k1⟩
  by_cases hb : bad s now un = true
  · rw [hb, br_true]
    exact bd (.inr (bad_iff.1 hb))
  rw [Bool.eq_false_iff.2 hb, br_false]
  rw [if_neg (fun hc => by
    rcases hc with hc | hc
    · rw [hk] at hc; cases hc
    · exact hb (bad_iff.2 hc))] at hQ
  have hun : un ≤ 1152921504606846976 := by
    rcases Nat.lt_or_ge 1152921504606846976 un with hh | hh
    · exact absurd (bad_iff.2 (.inr (.inl hh))) hb
    · exact hh
  refine ldI h.d rfl ?_
  by_cases h0 : s.st = 0
  case neg =>
    rw [if_pos h0] at hQ
    rw [show (((s.st : Nat) : Int) != 0) = true by rw [bne_iff_ne]; omega, br_true]
    exact hQ w h (Ext.refl _ _)
  rw [if_neg (by simp [h0])] at hQ
  rw [show (((s.st : Nat) : Int) != 0) = false by rw [h0]; rfl, br_false]
  obtain ⟨k, rfl⟩ := nat_of (show 0 ≤ pr by omega)
  have hkl : k < s.ends.length := by omega
  refine st_i h.d (by show 3 < 4; omega) fun w1 a1 e1 z1 => ?_
  refine ldL a1 rfl ?_
  obtain ⟨u, au, hu⟩ := h.e
  have au1 := au.ext e1 (Ne.symm h.ne)
  have hul : k < u.length := by rw [hu.1]; exact hkl
  refine ixb k 1 32 hkl ?_
  rw [Nat.mul_one]
  refine ldI au1 (us_get hul) ?_
  rw [show IntKind.wrap .u64 ((un : Int) + 1) = ((un + 1 : Nat) : Int) by rw [wrap_u64 (by omega) (by omega)]; rfl]
  have hgd : s.ends.getD k 0 = s.ends[k] := by rw [List.getD_eq_getElem?_getD, List.getElem?_eq_getElem hkl]; rfl
  rw [Int.toNat_natCast, hgd] at hQ
  have hpair := hu.2 k hkl hul
  have hd : ∀ x : Nat, rfc ⟨s.st, now, s.dl, s.ends.set k x⟩ eb = (rfc s eb).set 3 (.int .u64 (now : Int)) := fun x => by simp [rfc]
  by_cases hgt : u[k] < un + 1
  · rw [decide_eq_true (by omega), br_true]
    refine ldL a1 rfl ?_
    refine ixb k 1 32 hkl ?_
    rw [Nat.mul_one]
    refine st_i au1 (by rw [us_length]; exact hul) fun w2 a2 e2 z2 => ?_
    rw [us_set] at a2
    have hif : (if s.ends[k] < un then un else s.ends[k]) = un := by split <;> omega
    rw [hif] at hQ
    exact hQ w2 ⟨by rw [hd]; exact a1.ext e2 h.ne, ⟨_, a2, hu.set hun⟩, h.ne⟩ (e1.trans e2 (fun _ _ h => .inl h) (fun _ _ h => .inr h))
  · rw [decide_eq_false (by omega), br_false]
    have hif : (if s.ends[k] < un then un else s.ends[k]) = s.ends[k] := by split <;> omega
    rw [hif, List.set_getElem_self] at hQ
    exact hQ w1 ⟨a1, ⟨u, au1, hu⟩, h.ne⟩ (e1.mono (fun _ _ h => .inl h))

theorem radvance_c {now : Nat} (h : RfAt w p eb s) (hl : s.ends.length ≤ 1000000) (hQ : ∀ w', RfAt w' p eb (adv s now).1 → Ext w w' (fun b => b = p ∨ b = eb) → Q (.tuple #[.bool (adv s now).2.1, .int .i64 (adv s now).2.2]) w') :
    CallE Try.prog 35 #[.pointer (some ⟨p, 0, none⟩), .int .u64 (now : Int)] w Q := by
  apply C.ref35_Freezer_Advance
  unfold W.ref35_Freezer_Advance
  unfold adv at hQ
  refine rbad_c h (fb ?_)
  rw [bad_same]
  by_cases ht : timely s now = true
  case neg =>
    rw [if_pos (Bool.eq_false_iff.2 ht)] at hQ
    rw [Bool.eq_false_iff.2 ht, Bool.not_false, br_true]
    exact hQ w h (Ext.refl _ _)
  rw [if_neg (by rw [ht]; simp)] at hQ
  rw [ht, Bool.not_true, br_false]
  simp only [add_mk, Nat.zero_add]
  refine st_i h.d (by show 3 < 4; omega) fun w1 a1 e1 z1 => ?_
  obtain ⟨u, au, hu⟩ := h.e
  have au1 := au.ext e1 (Ne.symm h.ne)
  have f1 : RfAt w1 p eb ⟨s.st, now, s.dl, s.ends⟩ := ⟨a1, ⟨u, au1, hu⟩, h.ne⟩
  have e1' : Ext w w1 (fun b => b = p ∨ b = eb) := e1.mono (fun _ _ h => .inl h)
  refine ldI f1.d rfl ?_
  by_cases h1 : s.st = 1
  case neg =>
    rw [if_pos h1] at hQ
    rw [show (((s.st : Nat) : Int) != 1) = true by rw [bne_iff_ne]; omega, br_true]
    refine ldI f1.d rfl ?_
    have := hQ w1 f1 e1'
    rw [show (((s.st : Nat) : Int) == 2) = decide (s.st = 2) by by_cases hh : s.st = 2 <;> simp [hh]; omega]
    exact this
  rw [if_neg (by simp [h1])] at hQ
  rw [show (((s.st : Nat) : Int) != 1) = false by rw [h1]; rfl, br_false]
  refine ldI f1.d rfl ?_
  have hlim : (if ((s.dl : Nat) : Int) < ((now : Nat) : Int) then ((s.dl : Nat) : Int) else ((now : Nat) : Int)) = ((lim s now : Nat) : Int) := by unfold lim; split <;> split <;> omega
  refine LoopW.nat s.ends.length (fun i x w' => x = ((s.ends.take i).all (fun e => decide (e ≤ lim s now)), (i : Int), ()) ∧ w' = w1) ⟨rfl, rfl⟩ ?_
  rintro i x w2 next hi ⟨rfl, rfl⟩ hnext
  dsimp only
  refine ldL f1.d rfl ?_
  by_cases hlt : i < s.ends.length
  · rw [decide_eq_true (by show ((i : Nat) : Int) < ((s.ends.length : Nat) : Int); omega), br_true, inc_nat (by omega)]
    have htk : (s.ends.take (i + 1)).all (fun e => decide (e ≤ lim s now)) = ((s.ends.take i).all (fun e => decide (e ≤ lim s now)) && decide (s.ends[i] ≤ lim s now)) := by
      rw [show s.ends.take (i + 1) = s.ends.take i ++ [s.ends[i]] from (List.take_append_getElem hlt).symm, List.all_append]
      simp only [List.all_cons, List.all_nil, Bool.and_true]
    have hul : i < u.length := by rw [hu.1]; exact hlt
    refine br_of (fun hb => ?_) fun hb => ?_
    · refine ldL f1.d rfl ?_
      refine ixb i 1 32 hlt ?_
      rw [Nat.mul_one]
      refine ldI au1 (us_get hul) ?_
      rcases hu.2 i hlt hul with ⟨hz, hez⟩ | ⟨hz, hle⟩
      · rw [hz]
        refine br_pos rfl ?_
        exact hnext hlt _ _ ⟨by rw [htk, hb, hez, decide_eq_true (Nat.zero_le _)]; rfl, rfl⟩
      · rw [hz]
        refine br_neg (by rw [beq_eq_false_iff_ne]; omega) ?_
        refine ldL f1.d rfl ?_
        refine ixb i 1 32 hlt ?_
        rw [Nat.mul_one]
        refine ldI au1 (us_get hul) ?_
        rw [hz, show IntKind.wrap .u64 (((s.ends[i] + 1 : Nat) : Int) - 1) = ((s.ends[i] : Nat) : Int) by rw [wrap_u64 (by omega) (by omega)]; omega]
        refine hnext hlt _ _ ⟨?_, rfl⟩
        rw [htk, hb, Bool.true_and]
        change (decide (((s.ends[i] : Nat) : Int) ≤ (if ((s.dl : Nat) : Int) < ((now : Nat) : Int) then ((s.dl : Nat) : Int) else ((now : Nat) : Int))), _) = _
        rw [hlim]
        congr 1
        by_cases hh : s.ends[i] ≤ lim s now
        · rw [decide_eq_true hh, decide_eq_true (by omega)]
        · rw [decide_eq_false hh, decide_eq_false (by omega)]
    · exact hnext hlt _ _ ⟨by rw [htk, hb]; rfl, rfl⟩
  rw [decide_eq_false (by show ¬ ((i : Nat) : Int) < ((s.ends.length : Nat) : Int); omega), br_false, List.take_of_length_le (by omega)]
  unfold W.ref35_Freezer_Advance_k12
  simp only [add_mk, Nat.zero_add]
  have setst : ∀ (v : Nat) (w3 : World), At w3 p ((rfc ⟨s.st, now, s.dl, s.ends⟩ eb).set 1 (.int .i64 (v : Int))) 69 → Ext w2 w3 (· = p) → RfAt w3 p eb ⟨v, now, s.dl, s.ends⟩ := fun v w3 a3 e3 => ⟨a3, ⟨u, au1.ext e3 (Ne.symm h.ne), hu⟩, h.ne⟩
  by_cases hall : s.ends.all (fun e => decide (e ≤ lim s now)) = true
  · rw [if_pos hall] at hQ
    rw [hall, br_true]
    refine st_i f1.d (by show 1 < 4; omega) fun w3 a3 e3 z3 => ?_
    exact hQ w3 (setst 2 w3 a3 e3) (e1'.trans e3 (fun _ _ h => h) (fun _ _ h => .inl h))
  rw [if_neg hall] at hQ
  rw [Bool.eq_false_iff.2 hall, br_false]
  refine ldI f1.d rfl ?_
  by_cases hdl : s.dl ≤ now
  · rw [if_pos hdl] at hQ
    rw [decide_eq_true (by show ((now : Nat) : Int) ≥ ((s.dl : Nat) : Int); omega), br_true]
    refine st_i f1.d (by show 1 < 4; omega) fun w3 a3 e3 z3 => ?_
    exact hQ w3 (setst 0 w3 a3 e3) (e1'.trans e3 (fun _ _ h => h) (fun _ _ h => .inl h))
  rw [if_neg hdl] at hQ
  rw [decide_eq_false (by show ¬ ((now : Nat) : Int) ≥ ((s.dl : Nat) : Int); omega), br_false]
  exact hQ w2 (by rw [h1] at f1; exact f1) e1'

theorem rfreeze_c {now dl : Nat} (h : RfAt w p eb s) (hl : s.ends.length ≤ 1000000) (hQ : ∀ w', RfAt w' p eb (frz s now dl).1 → Ext w w' (fun b => b = p ∨ b = eb) → Q (.int .i64 (frz s now dl).2) w') :
    CallE Try.prog 33 #[.pointer (some ⟨p, 0, none⟩), .int .u64 (now : Int), .int .u64 (dl : Int)] w Q := by
  apply C.ref35_Freezer_Freeze
  unfold W.ref35_Freezer_Freeze
  unfold frz at hQ
  refine rbad_c h (fb ?_)
  by_cases hb : bad s now dl = true
  · rw [hb, br_true]
    rw [if_pos (bad_iff.1 hb)] at hQ
    exact hQ w h (Ext.refl _ _)
  rw [Bool.eq_false_iff.2 hb, br_false]
  rw [if_neg (fun hc => hb (bad_iff.2 hc))] at hQ
  simp only [add_mk, Nat.zero_add]
  refine ldI h.d rfl ?_
  by_cases h0 : s.st = 0
  case neg =>
    rw [if_pos h0] at hQ
    rw [show (((s.st : Nat) : Int) != 0) = true by rw [bne_iff_ne]; omega, br_true]
    exact hQ w h (Ext.refl _ _)
  rw [if_neg (by simp [h0])] at hQ
  rw [show (((s.st : Nat) : Int) != 0) = false by rw [h0]; rfl, br_false]
  refine st_i h.d (by show 1 < 4; omega) fun w1 a1 e1 z1 => ?_
  refine st_i a1 (by show 2 < 4; omega) fun w2 a2 e2 z2 => ?_
  obtain ⟨u, au, hu⟩ := h.e
  have f2 : RfAt w2 p eb ⟨1, s.clk, dl, s.ends⟩ := ⟨a2, ⟨u, (au.ext e1 (Ne.symm h.ne)).ext e2 (Ne.symm h.ne), hu⟩, h.ne⟩
  refine radvance_c f2 hl fun w3 f3 e3 => ⟨_, _, rfl, ?_⟩
  exact hQ w3 f3 ((e1.trans e2 (Z := fun b => b = p ∨ b = eb) (fun _ _ h => .inl h) (fun _ _ h => .inl h)).tr e3)

theorem rthaw_c {now : Nat} (h : RfAt w p eb s) (hQ : ∀ w', RfAt w' p eb (thw s now).1 → Ext w w' (fun b => b = p ∨ b = eb) → Q (.int .i64 (thw s now).2) w') :
    CallE Try.prog 37 #[.pointer (some ⟨p, 0, none⟩), .int .u64 (now : Int)] w Q := by
  apply C.ref35_Freezer_Thaw
  unfold W.ref35_Freezer_Thaw
  unfold thw at hQ
  refine rbad_c h (fb ?_)
  rw [bad_same]
  by_cases ht : timely s now = true
  case neg =>
    rw [if_pos (Bool.eq_false_iff.2 ht)] at hQ
    rw [Bool.eq_false_iff.2 ht, Bool.not_false, br_true]
    exact hQ w h (Ext.refl _ _)
  rw [if_neg (by rw [ht]; simp)] at hQ
  rw [ht, Bool.not_true, br_false]
  simp only [add_mk, Nat.zero_add]
  refine ldI h.d rfl ?_
  by_cases h0 : s.st = 0
  · rw [if_pos h0] at hQ
    rw [show (((s.st : Nat) : Int) == 0) = true by rw [h0]; rfl, br_true]
    exact hQ w h (Ext.refl _ _)
  rw [if_neg h0] at hQ
  rw [show (((s.st : Nat) : Int) == 0) = false by rw [beq_eq_false_iff_ne]; omega, br_false]
  refine st_i h.d (by show 3 < 4; omega) fun w1 a1 e1 z1 => ?_
  refine st_i a1 (by show 1 < 4; omega) fun w2 a2 e2 z2 => ?_
  obtain ⟨u, au, hu⟩ := h.e
  exact hQ w2 ⟨a2, ⟨u, (au.ext e1 (Ne.symm h.ne)).ext e2 (Ne.symm h.ne), hu⟩, h.ne⟩ (e1.trans e2 (fun _ _ h => .inl h) (fun _ _ h => .inl h))

theorem rfrozen_c {pr : Int} (h : RfAt w p eb s) (hQ : ∀ w', RfAt w' p eb s → Ext w w' (fun _ => False) → Q (.bool (fro s pr)) w') :
    CallE Try.prog 41 #[.pointer (some ⟨p, 0, none⟩), .int .i64 pr] w Q := by
  apply C.ref35_Freezer_Frozen
  unfold W.ref35_Freezer_Frozen
  unfold fro at hQ
  have unk : known s pr = false → Q (.bool false) w := fun hk => by
    have := hQ w h (Ext.refl _ _)
    rw [hk, Bool.false_and] at this
    exact this
  by_cases k0 : pr < 0
  · rw [decide_eq_true k0, br_true]
    exact unk (Bool.eq_false_iff.2 fun hc => by have := (known_iff.1 hc).1; omega)
  rw [decide_eq_false k0, br_false]
  simp only [add_mk, Nat.zero_add]
  refine ldL h.d rfl ?_
  by_cases k1 : pr < (s.ends.length : Int)
  case neg =>
    rw [decide_eq_true (by omega), br_true]
    exact unk (Bool.eq_false_iff.2 fun hc => by have := (known_iff.1 hc).2; omega)
  rw [decide_eq_false (by omega), br_false]
  have hk : known s pr = true := known_iff.2 ⟨by omega, k1⟩
  rw [hk, Bool.true_and] at hQ
  unfold dr
  dsimp only
  have ed : Ext w (drew w) (fun _ => False) := (Ext.refl w _).drew_
  have hd := h.ext0 ed
  have hq := hQ (drew w) hd ed
  obtain ⟨k, rfl⟩ := nat_of (show 0 ≤ pr by omega)
  have hkl : k < s.ends.length := by omega
  refine ldI hd.d rfl ?_
  by_cases h2 : s.st = 2
  · rw [show (((s.st : Nat) : Int) == 2) = true by rw [h2]; rfl, br_true]
    rw [decide_eq_true h2, Bool.true_or] at hq
    exact hq
  rw [show (((s.st : Nat) : Int) == 2) = false by rw [beq_eq_false_iff_ne]; omega, br_false]
  rw [decide_eq_false h2, Bool.false_or] at hq
  refine ldI hd.d rfl ?_
  by_cases h1 : s.st = 1
  case neg =>
    rw [show (((s.st : Nat) : Int) == 1) = false by rw [beq_eq_false_iff_ne]; omega, br_false]
    rw [decide_eq_false h1, Bool.false_and] at hq
    exact hq
  rw [show (((s.st : Nat) : Int) == 1) = true by rw [h1]; rfl, br_true]
  rw [decide_eq_true h1, Bool.true_and] at hq
  have hgd : s.ends.getD k 0 = s.ends[k] := by rw [List.getD_eq_getElem?_getD, List.getElem?_eq_getElem hkl]; rfl
  rw [Int.toNat_natCast, hgd] at hq
  obtain ⟨u, au, hu⟩ := hd.e
  have hul : k < u.length := by rw [hu.1]; exact hkl
  refine ldL hd.d rfl ?_
  refine ixb k 1 32 hkl ?_
  rw [Nat.mul_one]
  refine ldI au (us_get hul) ?_
  rcases hu.2 k hkl hul with ⟨hz, hez⟩ | ⟨hz, hle⟩
  · rw [hz]
    refine br_pos rfl ?_
    rw [hez, decide_eq_true (Nat.zero_le _)] at hq
    exact hq
  rw [hz]
  refine br_neg (by rw [beq_eq_false_iff_ne]; omega) ?_
  refine ldL hd.d rfl ?_
  refine ixb k 1 32 hkl ?_
  rw [Nat.mul_one]
  refine ldI au (us_get hul) ?_
  refine ldI hd.d rfl ?_
  rw [hz, show IntKind.wrap .u64 (((s.ends[k] + 1 : Nat) : Int) - 1) = ((s.ends[k] : Nat) : Int) by rw [wrap_u64 (by omega) (by omega)]; omega]
  have : decide (((s.ends[k] : Nat) : Int) ≤ ((s.clk : Nat) : Int)) = decide (s.ends[k] ≤ s.clk) := by
    by_cases hh : s.ends[k] ≤ s.clk
    · rw [decide_eq_true hh, decide_eq_true (by omega)]
    · rw [decide_eq_false hh, decide_eq_false (by omega)]
  rw [this]
  exact hq
end
end Go.Proofs.Ytpinpccamfhofaa.Hi
