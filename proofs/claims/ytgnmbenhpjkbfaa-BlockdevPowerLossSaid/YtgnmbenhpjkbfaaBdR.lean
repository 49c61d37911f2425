/-
  A block device: contracts of the reference's methods. No condition beyond those stated.
-/
import Derived.Test.YtgnmbenhpjkbfaaBdP
namespace Go.Proofs.Ytgnmbenhpjkbfaa.Bd
open Go Go.Ev Go.Proofs

def plv : Option (Nat × List Bool) → Int
  | none => -1
  | some q => (q.1 : Int)
/-- What a disk's block holds. -/
def rkc (sb sc : Nat) (ca : Option Addr) (cc : Nat) (ka : Option Addr) (kn kc : Nat) (n cn : Nat) (off : Bool) (pl : Int) : List Value :=
  [.slice (some ⟨sb, 0, none⟩) n sc, .slice ca cn cc, .bool off, .int .i64 pl, .slice ka kn kc]

/-- Block p holds the reference's disk in state s. -/
structure RkAt (w : World) (p sb sc : Nat) (ca : Option Addr) (cc : Nat) (ka : Option Addr) (kn kc : Nat) (s : St) : Prop where
  d : At w p (rkc sb sc ca cc ka kn kc s.S.length s.C.length s.off (plv s.plan)) 67
  dur : Sl w 9 1 (some ⟨sb, 0, none⟩) s.S.length sc (strs s.S)
  cac : Sl w 81 2 ca s.C.length cc (wcells s.C)
  kp : ∀ q, s.plan = some q → kn = q.2.length ∧ Reads w ka (bls q.2)
  n1 : p ≠ sb
  nc : ∀ b, ca = some ⟨b, 0, none⟩ → b ≠ p ∧ b ≠ sb
  nk : ∀ q : Addr, ka = some q → q.block ≠ p ∧ q.block ≠ sb ∧ ca ≠ some ⟨q.block, 0, none⟩
  lk : ∀ q : Addr, ka = some q → q.block < w.heap.size

/-- Block p holds the reference's disk in state s; what it has lies in the blocks F. -/
def Rk (w : World) (p : Nat) (s : St) (F : Nat → Prop) : Prop :=
  ∃ sb sc ca cc ka kn kc, RkAt w p sb sc ca cc ka kn kc s ∧ F p ∧ F sb ∧ (∀ b, ca = some ⟨b, 0, none⟩ → F b) ∧ (∀ q : Addr, ka = some q → F q.block)

theorem slb {a b : Nat} (h : (some ⟨a, 0, none⟩ : Option Addr) = some ⟨b, 0, none⟩) : a = b := by
  simpa using h

theorem RkAt.ext {w w' : World} {p sb sc : Nat} {ca : Option Addr} {cc : Nat} {ka : Option Addr} {kn kc : Nat} {s : St} {X : Nat → Prop} (h : RkAt w p sb sc ca cc ka kn kc s) (he : Ext w w' X)
    (h1 : ¬ X p) (h2 : ¬ X sb) (h4 : ∀ b, ca = some ⟨b, 0, none⟩ → ¬ X b) (h5 : ∀ q : Addr, ka = some q → ¬ X q.block) : RkAt w' p sb sc ca cc ka kn kc s :=
  ⟨h.d.ext he h1, h.dur.ext he (fun b hb => slb hb ▸ h2), h.cac.ext he h4, fun q hq => ⟨(h.kp q hq).1, (h.kp q hq).2.ext he (fun r hr _ => h5 r hr)⟩, h.n1, h.nc, h.nk, fun q hq => Nat.lt_of_lt_of_le (h.lk q hq) he.size⟩
theorem Rk.ext {w w' : World} {p : Nat} {s : St} {F X : Nat → Prop} (h : Rk w p s F) (he : Ext w w' X) (hx : ∀ b, F b → ¬ X b) : Rk w' p s F := by
  obtain ⟨sb, sc, ca, cc, ka, kn, kc, h, f1, f2, f4, f5⟩ := h
  exact ⟨sb, sc, ca, cc, ka, kn, kc, h.ext he (hx _ f1) (hx _ f2) (fun b hb => hx _ (f4 b hb)) (fun q hq => hx _ (f5 q hq)), f1, f2, f4, f5⟩

section
variable {w : World} {Q : Value → World → Prop} {p : Nat} {s : St} {F : Nat → Prop}

theorem rpending_c (h : Rk w p s F) (hQ : Q (.int .i64 (s.C.length : Int)) w) : CallE Try.prog 26 #[.pointer (some ⟨p, 0, none⟩)] w Q := by
  obtain ⟨sb, sc, ca, cc, ka, kn, kc, h, f1, f2, f4, f5⟩ := h
  apply C.ref32_Disk_Pending
  unfold W.ref32_Disk_Pending
  simp only [add_mk, Nat.zero_add]
  refine ldL h.d rfl ?_
  exact hQ

/-- The last write to a sector. -/
theorem all_last : ∀ (C : List (Nat × Sec)) (S : List Sec) (i : Nat), (∀ c ∈ C, c.1 ≠ i) → (all C S).getD i [] = S.getD i []
  | [], S, i, _ => rfl
  | c :: C, S, i, h => by
    show (all C (S.set c.1 c.2)).getD i [] = _
    rw [all_last C _ i (fun x hx => h x (.tail _ hx)), List.getD_eq_getElem?_getD, List.getD_eq_getElem?_getD, List.getElem?_set_ne (h c (.head _))]
theorem all_hit {C : List (Nat × Sec)} {S : List Sec} {j : Nat} (hj : j < C.length) (hl : C[j].1 < S.length) (h : ∀ k, (hk : k < C.length) → j < k → C[k].1 ≠ C[j].1) : (all C S).getD C[j].1 [] = C[j].2 := by
  have hsplit : C = C.take (j + 1) ++ C.drop (j + 1) := (List.take_append_drop _ _).symm
  have : all C S = all (C.drop (j + 1)) (all (C.take (j + 1)) S) := by
    conv => lhs; rw [hsplit]
    unfold all
    rw [List.foldl_append]
  rw [this, all_last _ _ _ (fun c hc => ?_), all_take_succ hj, List.getD_eq_getElem?_getD, List.getElem?_set_self (by rw [all_length]; exact hl)]
  · rfl
  · obtain ⟨k, hk, rfl⟩ := List.getElem_of_mem hc
    rw [List.getElem_drop]
    exact h _ (by rw [List.length_drop] at hk; omega) (by omega)

theorem rread_c {i : Int} {m : Nat} (h : Rk w p s F) (hok : Ok m 1000000 s) (hQ : Q (.tuple #[.string (mkS (rd s i).1), .int .i64 (rd s i).2]) w) : CallE Try.prog 35 #[.pointer (some ⟨p, 0, none⟩), .int .i64 i] w Q := by
  apply C.ref32_Disk_Read
  unfold W.ref32_Disk_Read
  simp only [add_mk, Nat.zero_add]
  unfold rd at hQ
  obtain ⟨sb, sc, ca, cc, ka, kn, kc, h, f1, f2, f4, f5⟩ := h
  have hcl := hok.cl
  refine br_of (fun h0 => ?_) (fun h0 => ?_)
  · simp only [decide_eq_true_eq] at h0
    rw [if_pos (.inl h0)] at hQ
    exact hQ
  simp only [decide_eq_false_iff_not] at h0
  refine ldL h.d rfl ?_
  refine br_of (fun h1 => ?_) (fun h1 => ?_)
  · simp only [decide_eq_true_eq] at h1
    rw [if_pos (.inr h1)] at hQ
    exact hQ
  simp only [decide_eq_false_iff_not] at h1
  rw [if_neg (by omega)] at hQ
  refine ldB h.d rfl ?_
  refine br_of (fun h2 => ?_) (fun h2 => ?_)
  · rw [if_pos h2] at hQ
    exact hQ
  rw [if_neg (by simp [h2])] at hQ
  obtain ⟨n, rfl⟩ := nat_of (show 0 ≤ i by omega)
  rw [Int.toNat_natCast] at hQ
  refine ldL h.d rfl ?_
  refine LoopW.nat s.C.length (fun k x w' => x = (((s.C.length : Int) - 1 - (k : Int)), ()) ∧ w' = w ∧ ∀ j, (hj : j < s.C.length) → s.C.length - k ≤ j → s.C[j].1 ≠ n) ⟨by rw [wrap_i64 (by omega) (by omega)]; simp, rfl, fun j hj hh => by omega⟩ ?_
  rintro k x w1 next hk ⟨rfl, rfl, hno⟩ hnext
  dsimp only
  by_cases hlt : k < s.C.length
  case neg =>
    rw [decide_eq_false (by omega), br_false]
    unfold W.ref32_Disk_Read_k10
    simp only [add_mk, Nat.zero_add]
    refine ldL h.d rfl ?_
    refine ixb n 1 9 (by omega) ?_
    refine slL h.dur (by rw [Nat.mul_one]; exact strs_getD (by omega)) (ft ?_)
    rw [all_last s.C s.S n (fun c hc => by
      obtain ⟨j, hj, rfl⟩ := List.getElem_of_mem hc
      exact hno j hj (by omega))] at hQ
    exact hQ
  rw [decide_eq_true (by omega), br_true]
  obtain ⟨cb, rfl⟩ := h.cac.one_block (by omega)
  obtain ⟨j, hj, hjk⟩ : ∃ j : Nat, j < s.C.length ∧ (s.C.length : Int) - 1 - (k : Int) = (j : Int) := ⟨s.C.length - 1 - k, by omega, by omega⟩
  rw [hjk]
  refine ldL h.d rfl ?_
  refine ixb j 2 81 hj ?_
  simp only [add_mk, Nat.add_zero]
  refine slL h.cac (wcells_idx hj) (fi ?_)
  by_cases he : s.C[j].1 = n
  · rw [show ((s.C[j].1 : Int) == (n : Int)) = true by rw [beq_iff_eq]; omega, br_true]
    refine ldL h.d rfl ?_
    refine ixb j 2 81 hj ?_
    simp only [add_mk]
    refine slL h.cac (wcells_data hj) (ft ?_)
    have := all_hit (S := s.S) hj (by have := hok.len; have := hok.idx _ (List.getElem_mem hj); omega) (fun k' hk' hlt' => by rw [he]; exact hno k' hk' (by omega))
    rw [he] at this
    rw [this] at hQ
    exact hQ
  · rw [show ((s.C[j].1 : Int) == (n : Int)) = false by rw [beq_eq_false_iff_ne]; omega, br_false]
    rw [wrap_i64 (by omega) (by omega)]
    refine hnext hlt _ _ ⟨?_, rfl, fun j' hj' hh => ?_⟩
    · rw [show (j : Int) - 1 = (s.C.length : Int) - 1 - ((k + 1 : Nat) : Int) by omega]
    · by_cases hjj : j' = j
      · subst hjj; exact he
      · exact hno j' hj' (by omega)

theorem rlose_c {ka' : Option Addr} {kn' kc' : Nat} {kl : List Bool} {m sb sc : Nat} {ca : Option Addr} {cc : Nat} {ka : Option Addr} {kn kc : Nat} (h : RkAt w p sb sc ca cc ka kn kc s) (f1 : F p) (f2 : F sb) (hok : Ok m 1000000 s) (hk : Reads w ka' (bls kl)) (hkn : kl.length = kn')
    (hne : ∀ q : Addr, ka' = some q → kl ≠ [] → q.block ≠ sb)
    (hQ : ∀ w', Rk w' p (lose s kl) F → Ext w w' F → Q (.tuple #[]) w') :
    CallE Try.prog 46 #[.pointer (some ⟨p, 0, none⟩), .slice ka' kn' kc'] w Q := by
  have hcl := hok.cl
  have hlen := hok.len
  apply C.ref32_Disk_lose
  unfold W.ref32_Disk_lose
  simp only [add_mk, Nat.zero_add]
  refine LoopW.nat s.C.length (fun i x w' => x = ((i : Int), ()) ∧ Sl w' 9 1 (some ⟨sb, 0, none⟩) s.S.length sc (strs (sel (s.C.take i) kl s.S)) ∧ Ext w w' (· = sb)) ⟨rfl, by rw [List.take_zero]; exact h.dur, Ext.refl _ _⟩ ?_
  rintro i x w1 next hi ⟨rfl, a1, e1⟩ hnext
  dsimp only
  have d1 := h.d.ext e1 h.n1
  refine ldL d1 rfl ?_
  by_cases hlt : i < s.C.length
  case neg =>
    rw [decide_eq_false (by omega), br_false]
    obtain rfl : i = s.C.length := by omega
    rw [List.take_length] at a1
    unfold W.ref32_Disk_lose_k5
    simp only [add_mk, Nat.zero_add]
    refine st_i d1 (by show 1 < 5; omega) fun w2 a2 e2 z2 => ?_
    refine st_i a2 (by show 2 < 5; omega) fun w3 a3 e3 z3 => ?_
    refine st_i a3 (by show 3 < 5; omega) fun w4 a4 e4 z4 => ?_
    refine st_i a4 (by show 4 < 5; omega) fun w5 a5 e5 z5 => ?_
    have e15 := ((e2.tr e3).tr e4).tr e5
    have hdlose : (lose s kl).S.length = s.S.length := sel_length _ _ _
    refine hQ w5 ⟨sb, sc, none, 0, none, 0, 0, ⟨?_, ?_, .inl ⟨rfl, rfl, rfl, rfl⟩, fun q hq => (by cases hq), h.n1, fun b hb => (by cases hb), fun b hb => (by cases hb), fun b hb => (by cases hb)⟩, f1, f2, fun b hb => (by cases hb), fun b hb => (by cases hb)⟩ (e1.trans e15 (fun b _ hx => hx ▸ f2) (fun b _ hx => hx ▸ f1))
    · rw [hdlose]
      exact a5
    · rw [hdlose]
      exact a1.ext e15 (fun b hb hx => h.n1 ((slb hb).trans hx).symm)
  rw [decide_eq_true (by omega), br_true]
  obtain ⟨cb, rfl⟩ := h.cac.one_block (by omega)
  have cac1 : Sl w1 81 2 (some ⟨cb, 0, none⟩) s.C.length cc (wcells s.C) := h.cac.ext e1 (fun b hb hx => (h.nc b hb).2 hx)
  have hidx := hok.idx s.C[i] (List.getElem_mem hlt)
  have fin : ∀ b : Bool, b = kl.getD i false → W.ref32_Disk_lose_k4 ⟨p, 0, none⟩ ka' kn' kc' (i : Int) b next w1 Q := by
    intro b hb
    unfold W.ref32_Disk_lose_k4
    simp only [add_mk, Nat.zero_add]
    rw [inc_nat (by omega)]
    have hsucc := sel_take_succ hlt kl s.S
    rw [← hb] at hsucc
    cases b with
    | false =>
      rw [br_false]
      refine hnext hlt _ _ ⟨rfl, ?_, e1⟩
      rw [hsucc]
      exact a1
    | true =>
      rw [br_true]
      show dr w1 _
      unfold dr
      refine ldL (w := drew w1) d1 rfl ?_
      refine ldL (w := drew w1) d1 rfl ?_
      refine ixb i 2 81 hlt ?_
      simp only [add_mk, Nat.add_zero]
      refine slL (w := drew w1) cac1 (wcells_idx hlt) (fi ?_)
      refine ldL (w := drew w1) d1 rfl ?_
      refine ixb i 2 81 hlt ?_
      simp only [add_mk]
      refine slL (w := drew w1) cac1 (wcells_data hlt) (ft ?_)
      refine ixb s.C[i].1 1 9 (by rw [hlen]; exact hidx) ?_
      refine slS (w := drew w1) a1 (by rw [strs_length, sel_length, hlen]; omega) fun w3 a3 e3 z3 => ?_
      rw [strs_set, Nat.mul_one] at a3
      refine hnext hlt _ _ ⟨rfl, ?_, e1.drew_.tr e3⟩
      rw [hsucc]
      exact a3
  by_cases hik : i < kl.length
  · rw [decide_eq_true (by omega), br_true]
    obtain ⟨q, rfl⟩ := hk.some_ (by rw [bls_length]; omega)
    have hk2 : Reads w1 (some q) (bls kl) := hk.ext e1 (fun q' hq' _ hx => hne q' hq' (fun h => by subst h; simp at hik) hx)
    refine ixs i 1 4 (by omega) ?_
    refine rdL hk2 (by rw [Nat.mul_one]; exact bls_getD hik) (fb ?_)
    exact fin _ rfl
  · rw [decide_eq_false (by omega), br_false]
    refine fin _ ?_
    rw [List.getD_eq_getElem?_getD, List.getElem?_eq_none (by omega)]; rfl

theorem rwrite_k10 {i : Nat} {d : Sec} {m sb sc : Nat} {ca : Option Addr} {cc : Nat} {ka : Option Addr} {kn kc : Nat} {pl : Option (Nat × List Bool)} (h : RkAt w p sb sc ca cc ka kn kc ⟨s.S, s.C, s.off, pl⟩) (f1 : F p) (f2 : F sb) (f4 : ∀ b, ca = some ⟨b, 0, none⟩ → F b) (f5 : ∀ q : Addr, ka = some q → F q.block)
    (hok : Ok m 1000000 s)
    (hQ : ∀ w' F', Rk w' p ⟨s.S, s.C ++ [(i, d)], s.off, pl⟩ F' → Ext w w' F → (∀ b, F' b → F b ∨ w.heap.size ≤ b) → Q (.int .i64 0) w') :
    W.ref32_Disk_Write_k10 ⟨p, 0, none⟩ (i : Int) (mkS d) w Q := by
  unfold W.ref32_Disk_Write_k10
  simp only [add_mk, Nat.zero_add]
  have hcl := hok.cl
  refine ldL h.d rfl ?_
  refine al_i fun xb w1 hxb a1 e1 z1 => ?_
  have hcac : Sl w1 81 2 ca s.C.length cc (wcells s.C) := h.cac.ext e1 (fun _ _ h => h)
  refine ap_i 81 2 (vs := wrow (i, d)) hcac (.inr ⟨_, rfl, fun j hj => by rw [add_mk, a1.cell, Nat.zero_add]; rfl⟩) rfl (wrow_one _) (by show s.C.length + 1 ≤ _; omega) fun ca' cc' w2 s2 hor hsome e2 => fs ?_
  have hp1 := h.d.lt
  have d2 : At w2 p _ _ := (h.d.ext e1 (fun h => h)).ext e2 (fun hx => (h.nc _ hx).1 rfl)
  refine st_i d2 (by show 1 < 5; omega) fun w3 a3 e3 z3 => ?_
  have e02 : Ext w w2 (fun b => ca = some ⟨b, 0, none⟩) := e1.trans e2 (fun _ _ h => h.elim) (fun _ _ h => h)
  have e03 : Ext w w3 (fun b => ca = some ⟨b, 0, none⟩ ∨ b = p) := e02.trans e3 (fun _ _ h => .inl h) (fun _ _ h => .inr h)
  have hsb := h.dur.lt
  have nca : ∀ b, ca' = some ⟨b, 0, none⟩ → b ≠ p ∧ b ≠ sb := by
    intro b hb
    rcases hor b hb with hx | hx
    · exact h.nc b hx
    · exact ⟨by omega, by omega⟩
  have hkx : ∀ q : Addr, ka = some q → ¬ (ca = some ⟨q.block, 0, none⟩ ∨ q.block = p) := by
    intro q hq hx
    obtain ⟨h1, h2, h4⟩ := h.nk q hq
    rcases hx with hx | hx
    · exact h4 hx
    · exact h1 hx
  refine hQ w3 (fun b => F b ∨ w.heap.size ≤ b) ⟨sb, sc, ca', cc', ka, kn, kc, ⟨?_, ?_, ?_, fun q hq => ?_, h.n1, nca, fun q hq => ?_, fun q hq => ?_⟩, .inl f1, .inl f2, fun b hb => ?_, fun q hq => .inl (f5 q hq)⟩ ?_ (fun b hb => hb)
  · rw [show (s.C ++ [(i, d)]).length = s.C.length + 1 by simp]
    exact a3
  · exact h.dur.ext e03 (fun b hb hx => by
      obtain rfl := slb hb
      rcases hx with hx | hx
      · exact (h.nc _ hx).2 rfl
      · exact h.n1 hx.symm)
  · rw [show (s.C ++ [(i, d)]).length = s.C.length + 1 by simp]
    have := s2.ext e3 (fun b hb hx => (nca b hb).1 hx)
    rw [← wcells_snoc] at this
    exact this
  · obtain ⟨h2, h3⟩ := h.kp q hq
    exact ⟨h2, h3.ext e03 (fun r hr _ => hkx r hr)⟩
  · obtain ⟨h1, h2, h4⟩ := h.nk q hq
    refine ⟨h1, h2, fun hx => ?_⟩
    rcases hor _ hx with hy | hy
    · exact h4 hy
    · have := h.lk q hq
      omega
  · exact Nat.lt_of_lt_of_le (h.lk q hq) e03.size
  · rcases hor b hb with hx | hx
    · exact .inl (f4 b hx)
    · right; omega
  · refine e03.mono fun b _ hx => ?_
    rcases hx with hx | rfl
    · exact f4 b hx
    · exact f1

theorem rwrite_c {i : Int} {d : Sec} {m : Nat} (h : Rk w p s F) (hok : Ok m 1000000 s)
    (hQ : ∀ w' F', Rk w' p (wr s i d).1 F' → Ext w w' F → (∀ b, F' b → F b ∨ w.heap.size ≤ b) → Q (.int .i64 (wr s i d).2) w') :
    CallE Try.prog 34 #[.pointer (some ⟨p, 0, none⟩), .int .i64 i, .string (mkS d)] w Q := by
  apply C.ref32_Disk_Write
  unfold W.ref32_Disk_Write
  simp only [add_mk, Nat.zero_add]
  unfold wr at hQ
  have same : (wr s i d) = (s, 1) → Q (.int .i64 1) w := fun he => by unfold wr at he; rw [he] at hQ; exact hQ w F h (Ext.refl _ _) (fun _ hb => .inl hb)
  have h' := h
  obtain ⟨sb, sc, ca, cc, ka, kn, kc, h, f1, f2, f4, f5⟩ := h
  refine br_of (fun h0 => ?_) (fun h0 => ?_)
  · simp only [decide_eq_true_eq] at h0
    exact same (by unfold wr; rw [if_pos (.inl h0)])
  simp only [decide_eq_false_iff_not] at h0
  refine ldL h.d rfl ?_
  refine br_of (fun h1 => ?_) (fun h1 => ?_)
  · simp only [decide_eq_true_eq] at h1
    exact same (by unfold wr; rw [if_pos (.inr (.inl h1))])
  simp only [decide_eq_false_iff_not] at h1
  rw [mkS_size]
  refine br_of (fun h2 => ?_) (fun h2 => ?_)
  · rw [bne_iff_ne] at h2
    exact same (by unfold wr; rw [if_pos (.inr (.inr (by omega)))])
  have h2' : d.length = 64 := by
    rw [bne_eq_false_iff_eq] at h2
    omega
  rw [if_neg (by rintro (h | h | h) <;> omega)] at hQ
  refine ldB h.d rfl ?_
  refine br_of (fun h3 => ?_) (fun h3 => ?_)
  · rw [if_pos h3] at hQ
    exact hQ w F h' (Ext.refl _ _) (fun _ hb => .inl hb)
  rw [if_neg (by simp [h3])] at hQ
  obtain ⟨n, rfl⟩ := nat_of (show 0 ≤ i by omega)
  rw [Int.toNat_natCast] at hQ
  refine ldI h.d rfl ?_
  cases hp : s.plan with
  | none =>
    rw [hp] at hQ
    rw [show (plv none == 0) = false from rfl, br_false]
    refine ldI h.d rfl ?_
    rw [hp, show plv none = -1 from rfl, decide_eq_false (by omega), br_false]
    have hs : (⟨s.S, s.C, s.off, none⟩ : St) = s := by rw [← hp]
    exact rwrite_k10 (s := s) (pl := none) (by rw [hs]; exact h) f1 f2 f4 f5 hok hQ
  | some q =>
    obtain ⟨k, kl⟩ := q
    rw [hp] at hQ
    obtain ⟨hl2, hl3⟩ := h.kp _ hp
    dsimp only at hl2 hl3
    rw [show plv (some (k, kl)) = (k : Int) from rfl]
    cases k with
    | zero =>
      rw [show (((0 : Nat) : Int) == 0) = true from rfl, br_true]
      refine ldL h.d rfl ?_
      refine rlose_c h f1 f2 hok hl3 hl2.symm (fun q hq _ => (h.nk q hq).2.1) fun w' hd he => ⟨rfl, ?_⟩
      exact hQ w' F hd he (fun _ hb => .inl hb)
    | succ k =>
      rw [show (((k + 1 : Nat) : Int) == 0) = false by rw [beq_eq_false_iff_ne]; omega, br_false]
      refine ldI h.d rfl ?_
      rw [hp, show plv (some (k + 1, kl)) = ((k + 1 : Nat) : Int) from rfl, decide_eq_true (by omega), br_true]
      refine ldI h.d rfl ?_
      rw [hp, show plv (some (k + 1, kl)) = ((k + 1 : Nat) : Int) from rfl]
      have hpl := hok.pl _ hp
      have hpl' : k + 1 ≤ 1000000 := hpl
      rw [wrap_i64 (by omega) (by omega)]
      refine st_i h.d (by show 3 < 5; omega) fun w1 a1 e1 z1 => ?_
      have h1 : RkAt w1 p sb sc ca cc ka kn kc ⟨s.S, s.C, s.off, some (k, kl)⟩ := by
        refine ⟨?_, h.dur.ext e1 (fun b hb hx => h.n1 ((slb hb).trans hx).symm), h.cac.ext e1 (fun b hb hx => (h.nc b hb).1 hx), fun q hq => ?_, h.n1, h.nc, h.nk, fun q hq => Nat.lt_of_lt_of_le (h.lk q hq) e1.size⟩
        · rw [show (((k + 1 : Nat) : Int) - 1) = (k : Int) by omega] at a1
          exact a1
        · simp only [Option.some.injEq] at hq
          subst hq
          exact ⟨hl2, hl3.ext e1 (fun r hr _ hx => (h.nk r hr).1 hx)⟩
      refine rwrite_k10 (s := s) (pl := some (k, kl)) h1 f1 f2 f4 f5 hok fun w' F' hd he hF => ?_
      refine hQ w' F' hd ((e1.mono fun b _ hb => by subst hb; exact f1).tr he) (fun b hb => ?_)
      rw [z1] at hF
      exact hF b hb

theorem rflush_c {m : Nat} (h : Rk w p s F) (hok : Ok m 1000000 s) (hQ : ∀ w', Rk w' p (fl s).1 F → Ext w w' F → Q (.int .i64 (fl s).2) w') :
    CallE Try.prog 36 #[.pointer (some ⟨p, 0, none⟩)] w Q := by
  apply C.ref32_Disk_Flush
  unfold W.ref32_Disk_Flush
  simp only [add_mk, Nat.zero_add]
  unfold fl at hQ
  have h' := h
  obtain ⟨sb, sc, ca, cc, ka, kn, kc, h, f1, f2, f4, f5⟩ := h
  refine ldB h.d rfl ?_
  refine br_of (fun h3 => ?_) (fun h3 => ?_)
  · rw [if_pos h3] at hQ
    exact hQ w h' (Ext.refl _ _)
  rw [if_neg (by simp [h3])] at hQ
  have hcl := hok.cl
  have hlen := hok.len
  refine LoopW.nat s.C.length (fun i x w' => x = ((i : Int), ()) ∧ Sl w' 9 1 (some ⟨sb, 0, none⟩) s.S.length sc (strs (all (s.C.take i) s.S)) ∧ Ext w w' (· = sb)) ⟨rfl, by rw [List.take_zero]; exact h.dur, Ext.refl _ _⟩ ?_
  rintro i x w1 next hi ⟨rfl, a1, e1⟩ hnext
  dsimp only
  have d1 := h.d.ext e1 h.n1
  refine ldL d1 rfl ?_
  by_cases hlt : i < s.C.length
  case neg =>
    rw [decide_eq_false (by omega), br_false]
    obtain rfl : i = s.C.length := by omega
    rw [List.take_length] at a1
    refine st_i d1 (by show 1 < 5; omega) fun w2 a2 e2 z2 => ?_
    have e02 : Ext w w2 (fun b => b = sb ∨ b = p) := e1.trans e2 (fun _ _ h => .inl h) (fun _ _ h => .inr h)
    refine hQ w2 ⟨sb, sc, none, 0, ka, kn, kc, ⟨?_, ?_, .inl ⟨rfl, rfl, rfl, rfl⟩, fun q hq => ?_, h.n1, fun b hb => (by cases hb), fun q hq => ⟨(h.nk q hq).1, (h.nk q hq).2.1, by simp⟩, fun q hq => Nat.lt_of_lt_of_le (h.lk q hq) e02.size⟩, f1, f2, fun b hb => (by cases hb), f5⟩ (e02.mono fun b _ hx => by rcases hx with rfl | rfl; exact f2; exact f1)
    · rw [show (all s.C s.S).length = s.S.length from all_length _ _]
      exact a2
    · rw [show (all s.C s.S).length = s.S.length from all_length _ _]
      exact a1.ext e2 (fun b hb hx => h.n1 ((slb hb).trans hx).symm)
    · obtain ⟨h2, h3⟩ := h.kp q hq
      refine ⟨h2, h3.ext e02 (fun r hr _ hx => ?_)⟩
      rcases hx with hx | hx
      · exact (h.nk r hr).2.1 hx
      · exact (h.nk r hr).1 hx
  rw [decide_eq_true (by omega), br_true]
  obtain ⟨cb, rfl⟩ := h.cac.one_block (by omega)
  have cac1 : Sl w1 81 2 (some ⟨cb, 0, none⟩) s.C.length cc (wcells s.C) := h.cac.ext e1 (fun b hb hx => (h.nc b hb).2 hx)
  have hidx := hok.idx s.C[i] (List.getElem_mem hlt)
  show dr w1 _
  unfold dr
  refine ldL (w := drew w1) d1 rfl ?_
  refine ldL (w := drew w1) d1 rfl ?_
  refine ixb i 2 81 hlt ?_
  simp only [add_mk, Nat.add_zero]
  refine slL (w := drew w1) cac1 (wcells_idx hlt) (fi ?_)
  refine ldL (w := drew w1) d1 rfl ?_
  refine ixb i 2 81 hlt ?_
  simp only [add_mk]
  refine slL (w := drew w1) cac1 (wcells_data hlt) (ft ?_)
  refine ixb s.C[i].1 1 9 (by rw [hlen]; exact hidx) ?_
  refine slS (w := drew w1) a1 (by rw [strs_length, all_length, hlen]; omega) fun w3 a3 e3 z3 => ?_
  rw [strs_set, Nat.mul_one, ← all_take_succ hlt] at a3
  rw [inc_nat (by omega)]
  exact hnext hlt _ _ ⟨rfl, a3, e1.drew_.tr e3⟩

theorem rcutAfter_c {n : Int} {ka' : Option Addr} {kn' kc' : Nat} {kl : List Bool} (h : Rk w p s F) (hk : Reads w ka' (bls kl)) (hkn : kl.length = kn') (hkl : kn' ≤ 140737488355328)
    (hQ : ∀ w' F', Rk w' p (cut s n kl) F' → Ext w w' F → (∀ b, F' b → F b ∨ w.heap.size ≤ b) → Q (.tuple #[]) w') :
    CallE Try.prog 37 #[.pointer (some ⟨p, 0, none⟩), .int .i64 n, .slice ka' kn' kc'] w Q := by
  apply C.ref32_Disk_CutAfter
  unfold W.ref32_Disk_CutAfter
  simp only [add_mk, Nat.zero_add]
  unfold cut at hQ
  obtain ⟨sb, sc, ca, cc, ka, kn, kc, h, f1, f2, f4, f5⟩ := h
  refine al_i fun b w1 hb a1 e1 z1 => ?_
  refine ap_0 4 (vs := bls kl) (.inr ⟨b, [], rfl, a1, rfl, rfl, Nat.le_refl _⟩) (hk.ext e1 (fun _ _ _ h => h)) (by rw [bls_length, hkn]) (bls_one kl) hkl fun a' c' w2 s2 hor _ e2 => fs ?_
  have hp1 := h.d.lt; have hp2 := h.dur.lt
  have e02 : Ext w w2 (fun _ => False) := e1.trans e2 (fun _ _ h => h) (fun b' hb' h => by simp only [Option.some.injEq, Addr.mk.injEq, and_true] at h; omega)
  have d2 := h.d.ext e02 (fun h => h)
  refine st_i d2 (by show 3 < 5; omega) fun w3 a3 e3 z3 => ?_
  refine st_i a3 (by show 4 < 5; omega) fun w4 a4 e4 z4 => ?_
  have e24 := e3.tr e4
  have e04 : Ext w w4 (· = p) := (e02.of0 (X := (· = p))).tr e24
  have hca : ∀ b, ca = some ⟨b, 0, none⟩ → b < w.heap.size := by
    intro b hb
    subst hb
    exact h.cac.lt
  have hnew' : ∀ q : Addr, a' = some q → w.heap.size ≤ q.block ∧ q.block < w2.heap.size := by
    intro q hq
    subst hq
    rcases s2 with ⟨hh, _⟩ | ⟨b', sp, hb', hat, _⟩
    · cases hh
    · cases hb'
      rcases hor b' rfl with hx | hx
      · have := slb hx
        exact ⟨by show w.heap.size ≤ b'; omega, hat.lt⟩
      · exact ⟨by show w.heap.size ≤ b'; omega, hat.lt⟩
  have hpl : (if (-1 : Int) > n then (-1 : Int) else n) = plv (if n < 0 then none else some (n.toNat, kl)) := by
    by_cases h0 : n < 0
    · rw [if_pos h0]
      show _ = (-1 : Int)
      split <;> omega
    · rw [if_neg h0, if_neg (by omega)]
      show n = ((n.toNat : Nat) : Int)
      omega
  rw [hpl] at a4
  refine hQ w4 (fun b => F b ∨ w.heap.size ≤ b) ⟨sb, sc, ca, cc, a', kn', c', ⟨a4, h.dur.ext e04 (fun b hb hx => h.n1 ((slb hb).trans hx).symm), h.cac.ext e04 (fun b hb hx => (h.nc b hb).1 hx), fun q hq => ?_, h.n1, h.nc, fun q hq => ?_, fun q hq => ?_⟩, .inl f1, .inl f2, fun b hb => .inl (f4 b hb), fun q hq => .inr (hnew' q hq).1⟩ (e04.mono fun b _ hb => by subst hb; exact f1) (fun b hb => hb)
  · dsimp only at hq
    split at hq
    · cases hq
    · simp only [Option.some.injEq] at hq
      subst hq
      refine ⟨hkn.symm, ?_⟩
      exact s2.reads.ext e24 (fun r hr _ hx => by have := (hnew' r hr).1; omega)
  · have := hnew' q hq
    exact ⟨by omega, by omega, fun hx => by have := hca _ hx; omega⟩
  · have := (hnew' q hq).2
    omega

theorem rpowerOff_c {ka' : Option Addr} {kn' kc' : Nat} {kl : List Bool} {m : Nat} (h : Rk w p s F) (hok : Ok m 1000000 s) (hk : Reads w ka' (bls kl)) (hkn : kl.length = kn') (hkF : ∀ q : Addr, ka' = some q → kl ≠ [] → ¬ F q.block)
    (hQ : ∀ w', Rk w' p (pOff s kl).1 F → Ext w w' F → Q (.int .i64 (pOff s kl).2) w') :
    CallE Try.prog 38 #[.pointer (some ⟨p, 0, none⟩), .slice ka' kn' kc'] w Q := by
  apply C.ref32_Disk_PowerOff
  unfold W.ref32_Disk_PowerOff
  simp only [add_mk, Nat.zero_add]
  unfold pOff at hQ
  have h' := h
  obtain ⟨sb, sc, ca, cc, ka, kn, kc, h, f1, f2, f4, f5⟩ := h
  refine ldB h.d rfl ?_
  refine br_of (fun h3 => ?_) (fun h3 => ?_)
  · rw [if_pos h3] at hQ
    exact hQ w h' (Ext.refl _ _)
  rw [if_neg (by simp [h3])] at hQ
  refine rlose_c h f1 f2 hok hk hkn (fun q hq hne hx => hkF q hq hne (hx ▸ f2)) fun w' hd he => ⟨rfl, ?_⟩
  exact hQ w' hd he

theorem rpowerOn_c (h : Rk w p s F) (hQ : ∀ w', Rk w' p (pOn s).1 F → Ext w w' F → Q (.int .i64 (pOn s).2) w') :
    CallE Try.prog 39 #[.pointer (some ⟨p, 0, none⟩)] w Q := by
  apply C.ref32_Disk_PowerOn
  unfold W.ref32_Disk_PowerOn
  simp only [add_mk, Nat.zero_add]
  unfold pOn at hQ
  have h' := h
  obtain ⟨sb, sc, ca, cc, ka, kn, kc, h, f1, f2, f4, f5⟩ := h
  refine ldB h.d rfl ?_
  cases hoff : s.off with
  | false =>
    rw [if_neg (by simp [hoff])] at hQ
    rw [Bool.not_false, br_true]
    exact hQ w h' (Ext.refl _ _)
  | true =>
    rw [if_pos hoff] at hQ
    rw [Bool.not_true, br_false]
    refine st_i h.d (by show 2 < 5; omega) fun w1 a1 e1 z1 => ?_
    refine hQ w1 ⟨sb, sc, ca, cc, ka, kn, kc, ⟨a1, h.dur.ext e1 (fun b hb hx => h.n1 ((slb hb).trans hx).symm), h.cac.ext e1 (fun b hb hx => (h.nc b hb).1 hx), fun q hq => ?_, h.n1, h.nc, h.nk, fun q hq => Nat.lt_of_lt_of_le (h.lk q hq) e1.size⟩, f1, f2, f4, f5⟩ (e1.mono fun b _ hb => by subst hb; exact f1)
    obtain ⟨h2, h3⟩ := h.kp q hq
    exact ⟨h2, h3.ext e1 (fun r hr _ hx => (h.nk r hr).1 hx)⟩

theorem rcontents_c {m : Nat} (h : Rk w p s F) (hok : Ok m 1000000 s) (hm : m ≤ 1000000)
    (hQ : ∀ a' c' w', Sl w' 9 1 a' m c' (strs s.S) → (∀ b, a' = some ⟨b, 0, none⟩ → w.heap.size ≤ b) → Ext w w' (fun _ => False) → Q (.slice a' m c') w') :
    CallE Try.prog 28 #[.pointer (some ⟨p, 0, none⟩)] w Q := by
  apply C.ref32_Disk_Contents
  unfold W.ref32_Disk_Contents
  simp only [add_mk, Nat.zero_add]
  obtain ⟨sb, sc, ca, cc, ka, kn, kc, h, f1, f2, f4, f5⟩ := h
  refine al_i fun b w1 hb a1 e1 z1 => ?_
  have d1 := h.d.ext e1 (fun h => h)
  refine ldL d1 rfl ?_
  have hlen := hok.len
  have hd := h.dur.ext e1 (fun _ _ h => h)
  refine ap_i 9 1 (n := 0) (c := 0) (xs := []) (vs := strs s.S) (.inr ⟨b, [], rfl, a1, rfl, rfl, Nat.le_refl _⟩) hd.reads (by rw [strs_length, Nat.mul_one]) (strs_one _) (by omega) fun a' c' w2 s2 hor _ e2 => fs ?_
  rw [Nat.zero_add, hlen] at *
  rw [List.nil_append] at s2
  refine hQ a' c' w2 s2 (fun b' hb' => ?_) (e1.trans e2 (fun _ _ h => h) (fun b' hb' h => by have := slb h; omega))
  rcases hor b' hb' with hx | hx
  · have := slb hx; omega
  · omega

/-- What holds while a new disk is filled. -/
structure Nw (U w : World) (p i : Nat) (sa : Option Addr) (sc : Nat) : Prop where
  e : Ext U w (fun _ => False)
  d : At w p [.slice sa i sc, .slice none 0 0, .bool false, .int .i64 (-1), .slice none 0 0] 67
  s : Sl w 9 1 sa i sc (strs (List.replicate i zs))
theorem Nw.ext {U w w' : World} {p i : Nat} {sa : Option Addr} {sc : Nat} (h : Nw U w p i sa sc) (e : Ext w w' (fun _ => False)) : Nw U w' p i sa sc := ⟨h.e.tr e, h.d.ext e (fun h => h), h.s.ext e (fun _ _ h => h)⟩

theorem rnew_c {n : Nat} (h1 : 1 ≤ n) (h2 : n ≤ 4096) (hQ : ∀ p w', Rk w' p (new n) (fun b => w.heap.size ≤ b) → Ext w w' (fun _ => False) → Q (.tuple #[.pointer (some ⟨p, 0, none⟩), .int .i64 0]) w') :
    CallE Try.prog 23 #[.int .i64 (n : Int)] w Q := by
  apply C.ref32_New
  unfold W.ref32_New
  rw [decide_eq_false (by omega), br_false, decide_eq_false (by omega), br_false]
  refine al_i fun p w1 hp a1 e1 z1 => ?_
  refine LoopW.nat n (fun i x w' => x = ((i : Int), ()) ∧ ∃ sa sc, At w' p [.slice sa i sc, .slice none 0 0, .bool false, .int .i64 (-1), .slice none 0 0] 67 ∧ Sl w' 9 1 sa i sc (strs (List.replicate i zs)) ∧ (∀ b, sa = some ⟨b, 0, none⟩ → b ≠ p ∧ w.heap.size ≤ b) ∧ Ext w w' (fun _ => False))
    ⟨rfl, none, 0, a1, .inl ⟨rfl, rfl, rfl, rfl⟩, fun b hb => (by cases hb), e1⟩ ?_
  rintro i x w2 next hi ⟨rfl, sa, sc, a2, s2, hsb, e2⟩ hnext
  dsimp only
  have hsz := e2.size
  by_cases hlt : i < n
  case neg =>
    rw [decide_eq_false (by omega), br_false]
    obtain rfl : i = n := by omega
    obtain ⟨sb, rfl⟩ := s2.one_block (by omega)
    have := hsb sb rfl
    refine hQ p w2 ⟨sb, sc, none, 0, none, 0, 0, ⟨?_, ?_, .inl ⟨rfl, rfl, rfl, rfl⟩, fun q hq => (by cases hq), Ne.symm this.1, fun b hb => (by cases hb), fun b hb => (by cases hb), fun b hb => (by cases hb)⟩, by show w.heap.size ≤ p; omega, this.2, fun b hb => (by cases hb), fun b hb => (by cases hb)⟩ e2
    · rw [show (new i).S.length = i by simp [new]]
      exact a2
    · rw [show (new i).S.length = i by simp [new]]
      exact s2
  rw [decide_eq_true (by omega), br_true]
  have hplt := a2.lt
  have hslt : ∀ b, sa = some ⟨b, 0, none⟩ → b < w2.heap.size := by
    intro b hb
    subst hb
    exact s2.lt
  simp only [add_mk, Nat.zero_add]
  have hI : ∀ w', Ext w w' (fun _ => False) → At w' p [.slice sa i sc, .slice none 0 0, .bool false, .int .i64 (-1), .slice none 0 0] 67 → Sl w' 9 1 sa i sc (strs (List.replicate i zs)) → Nw w w' p i sa sc := fun w' a b c => ⟨a, b, c⟩
  have h0 : Nw w (drew w2) p i sa sc := ⟨e2.drew_, a2, s2⟩
  have ldR : ∀ (w' : World) (K : Option Addr → Nat → Nat → Prop), Nw w w' p i sa sc → K sa i sc → ld Try.prog 33 ⟨p, 0, none⟩ w' fun v => fS v K := fun w' K h hK => ldL h.d rfl hK
  have mkR : ∀ (w' : World) (K : Option Addr → Nat → Nat → World → Prop), Nw w w' p i sa sc → (∀ b w'', Nw w w'' p i sa sc → At w'' b (by_ (List.replicate 64 0)) 5 → K (some ⟨b, 0, none⟩) 64 64 w'') → rv Try.prog (Instr.makeSlice 41 (.int .i64 64) (.int .i64 64)) w' fun v w'' => fS v fun a n c => K a n c w'' :=
    fun w' K h hK => mkB (n := 64) 5 (by omega) fun b w'' hb a e z => hK b w'' (h.ext e) a
  have cvR : ∀ (b : Nat) (w' : World) (K : ByteArray → World → Prop), At w' b (by_ (List.replicate 64 0)) 5 → K (mkS zs) w' → rv Try.prog (convert 41 9 (.slice (some ⟨b, 0, none⟩) 64 64)) w' fun v w'' => fT v fun t => K t w'' :=
    fun b w' K h hK => bsT h List.length_replicate hK
  have alR : ∀ (w' : World) (K : Addr → World → Prop), Nw w w' p i sa sc → (∀ b w'', Nw w w'' p i sa sc → At w'' b [.string (mkS zs)] 9 → K ⟨b, 0, none⟩ w'') → al 9 #[.string (mkS zs)] w' K :=
    fun w' K h hK => al_i fun b w'' hb a e z => hK b w'' (h.ext e) a
  have fin : ∀ (b : Nat) (w' : World), Nw w w' p i sa sc → At w' b [.string (mkS zs)] 9 → rv Try.prog (Builtin.append_ #[33, 33] 33 #[.slice sa i sc, .slice (some ⟨b, 0, none⟩) 1 1]) w' fun v w'' => fS v fun a n c => (True ∧ st Try.prog 33 ⟨p, 0, none⟩ (.slice a n c) w'' fun w3 => True ∧ next (IntKind.wrap .i64 ((i : Int) + 1), ()) w3) := by
    intro b w' h hb
    refine ap_i 9 1 (vs := strs [zs]) h.s (.inr ⟨_, rfl, fun j hj => by rw [add_mk, hb.cell, Nat.zero_add]; rfl⟩) rfl (strs_one _) (by omega) fun a' c' w3 s3 hor _ e3 => fs ⟨trivial, ?_⟩
    have d3 := h.d.ext e3 (fun hx => (hsb _ hx).1 rfl)
    refine st_i d3 (by show 0 < 5; omega) fun w4 a4 e4 z4 => ⟨trivial, ?_⟩
    rw [inc_nat (by omega)]
    have hz := h.e.size
    have hplt' := h.d.lt
    have hnp : ∀ b', a' = some ⟨b', 0, none⟩ → b' ≠ p ∧ w.heap.size ≤ b' := by
      intro b' hb'
      rcases hor b' hb' with hx | hx
      · exact hsb b' hx
      · exact ⟨by omega, by omega⟩
    refine hnext hlt _ _ ⟨rfl, a', c', a4, ?_, hnp, (h.e.trans e3 (fun _ _ h => h) (fun b' hb' hx => by have := (hsb _ hx).2; omega)).trans e4 (fun _ _ h => h) (fun b' hb' hx => by omega)⟩
    rw [← strs_append, ← List.replicate_succ'] at s3
    exact s3.ext e4 (fun b' hb' hx => (hnp b' hb').1 hx)
  refine ⟨fun _ => True, trivial, ?_⟩
  repeat' first
    | exact trivial
    | refine fin _ _ (by assumption) (by assumption)
    | refine ldR _ _ (by assumption) ?_
    | refine mkR _ _ (by assumption) fun _ _ _ _ => ?_
    | refine cvR _ _ _ (by assumption) ?_
    | refine alR _ _ (by assumption) fun _ _ _ _ => ?_
    | refine And.intro ?_ ?_
end
end Go.Proofs.Ytgnmbenhpjkbfaa.Bd
