/-
  A block device: contracts of the program's methods. No condition beyond those stated.
-/
import Derived.Test.YtgnmbenhpjkbfaaBdA
import Derived.Test.YtgnmbenhpjkbfaaRep
namespace Go.Proofs.Ytgnmbenhpjkbfaa.Bd
open Go Go.Ev Go.Proofs

section
variable {w : World} {Q : Value → World → Prop}

/-- slices.Clone at strings -/
theorem cloneS_c {a : Option Addr} {n c : Nat} {l : List Sec} (h : Reads w a (strs l)) (hl : l.length = n) (hn : n ≤ 1000000)
    (hQ : ∀ a' c' w', Sl w' 9 1 a' n c' (strs l) → (∀ b, a' = some ⟨b, 0, none⟩ → w.heap.size ≤ b) → Ext w w' (fun _ => False) → Q (.slice a' n c') w') :
    CallE Try.prog 30 #[.slice a n c] w Q := by
  apply C.slices_Clone___string_string_
  unfold W.slices_Clone___string_string_
  refine qB sl_nil ?_
  refine br_of (fun h0 => ?_) (fun _ => ?_)
  · have : a = none := by cases a; rfl; cases h0
    subst this
    rcases h with h | ⟨p, hp, _⟩
    · have : l = [] := by cases l with | nil => rfl | cons _ _ => simp [strs] at h
      subst this
      simp only [List.length_nil] at hl
      subst hl
      exact hQ none 0 w (.inl ⟨rfl, rfl, rfl, rfl⟩) (fun b hb => by cases hb) (Ext.refl _ _)
    · cases hp
  · refine al_i fun b w1 hb a1 e1 z1 => ?_
    refine ap_i 9 1 (n := 0) (c := 0) (xs := []) (vs := strs l) (.inr ⟨b, [], rfl, a1, rfl, rfl, Nat.le_refl _⟩) (h.ext e1 (fun _ _ _ h => h)) (by rw [strs_length, hl, Nat.mul_one]) (strs_one l) (by omega) fun a' c' w2 s2 hor _ e2 => fs ?_
    rw [Nat.zero_add, List.nil_append] at *
    refine hQ a' c' w2 s2 (fun b' hb' => ?_) (e1.trans e2 (fun _ _ h => h) (fun b' hb' h => by simp only [Option.some.injEq, Addr.mk.injEq, and_true] at h; omega))
    rcases hor b' hb' with h | h
    · simp only [Option.some.injEq, Addr.mk.injEq, and_true] at h; omega
    · omega
/-- slices.Clone at bools -/
theorem cloneB_c {a : Option Addr} {n c : Nat} {l : List Bool} (h : Reads w a (bls l)) (hl : l.length = n) (hn : n ≤ 140737488355328)
    (hQ : ∀ a' c' w', Sl w' 4 1 a' n c' (bls l) → (∀ b, a' = some ⟨b, 0, none⟩ → w.heap.size ≤ b) → Ext w w' (fun _ => False) → Q (.slice a' n c') w') :
    CallE Try.prog 33 #[.slice a n c] w Q := by
  apply C.slices_Clone___bool_bool_
  unfold W.slices_Clone___bool_bool_
  refine qB sl_nil ?_
  refine br_of (fun h0 => ?_) (fun _ => ?_)
  · have : a = none := by cases a; rfl; cases h0
    subst this
    rcases h with h | ⟨p, hp, _⟩
    · have : l = [] := by cases l with | nil => rfl | cons _ _ => simp [bls] at h
      subst this
      simp only [List.length_nil] at hl
      subst hl
      exact hQ none 0 w (.inl ⟨rfl, rfl, rfl, rfl⟩) (fun b hb => by cases hb) (Ext.refl _ _)
    · cases hp
  · refine al_i fun b w1 hb a1 e1 z1 => ?_
    refine ap_0 4 (vs := bls l) (.inr ⟨b, [], rfl, a1, rfl, rfl, Nat.le_refl _⟩) (h.ext e1 (fun _ _ _ h => h)) (by rw [bls_length, hl]) (bls_one l) hn fun a' c' w2 s2 hor _ e2 => fs ?_
    refine hQ a' c' w2 s2 (fun b' hb' => ?_) (e1.trans e2 (fun _ _ h => h) (fun b' hb' h => by simp only [Option.some.injEq, Addr.mk.injEq, and_true] at h; omega))
    rcases hor b' hb' with h | h
    · simp only [Option.some.injEq, Addr.mk.injEq, and_true] at h; omega
    · omega
end

/-- What a disk's block holds. -/
def dkc (db vb vc : Nat) (ca : Option Addr) (cc : Nat) (ka : Option Addr) (kn kc : Nat) (lf : Int) (n cn : Nat) (off pl : Bool) : List Value :=
  [.slice (some ⟨db, 0, none⟩) n n, .slice (some ⟨vb, 0, none⟩) n vc, .slice ca cn cc, .bool off, .bool pl, .int .i64 lf, .slice ka kn kc]

/-- Block p holds the program's disk in state s. -/
structure DkAt (w : World) (p db vb vc : Nat) (ca : Option Addr) (cc : Nat) (ka : Option Addr) (kn kc : Nat) (lf : Int) (s : St) : Prop where
  d : At w p (dkc db vb vc ca cc ka kn kc lf s.S.length s.C.length s.off s.plan.isSome) 58
  dur : At w db (strs s.S) 9
  vis : Sl w 9 1 (some ⟨vb, 0, none⟩) s.S.length vc (strs (all s.C s.S))
  cac : Sl w 62 2 ca s.C.length cc (wcells s.C)
  kp : ∀ q, s.plan = some q → lf = (q.1 : Int) ∧ kn = q.2.length ∧ Reads w ka (bls q.2)
  n1 : p ≠ db
  n2 : p ≠ vb
  n3 : db ≠ vb
  nc : ∀ b, ca = some ⟨b, 0, none⟩ → b ≠ p ∧ b ≠ db ∧ b ≠ vb
  nk : ∀ q : Addr, ka = some q → q.block ≠ p ∧ q.block ≠ db ∧ q.block ≠ vb ∧ ca ≠ some ⟨q.block, 0, none⟩
  lk : ∀ q : Addr, ka = some q → q.block < w.heap.size

/-- Block p holds the program's disk in state s; what it has lies in the blocks F. -/
def Dk (w : World) (p : Nat) (s : St) (F : Nat → Prop) : Prop :=
  ∃ db vb vc ca cc ka kn kc lf, DkAt w p db vb vc ca cc ka kn kc lf s ∧ F p ∧ F db ∧ F vb ∧ (∀ b, ca = some ⟨b, 0, none⟩ → F b) ∧ (∀ q : Addr, ka = some q → F q.block)

theorem DkAt.ext {w w' : World} {p db vb vc : Nat} {ca : Option Addr} {cc : Nat} {ka : Option Addr} {kn kc : Nat} {lf : Int} {s : St} {X : Nat → Prop} (h : DkAt w p db vb vc ca cc ka kn kc lf s) (he : Ext w w' X)
    (h1 : ¬ X p) (h2 : ¬ X db) (h3 : ¬ X vb) (h4 : ∀ b, ca = some ⟨b, 0, none⟩ → ¬ X b) (h5 : ∀ q : Addr, ka = some q → ¬ X q.block) : DkAt w' p db vb vc ca cc ka kn kc lf s :=
  ⟨h.d.ext he h1, h.dur.ext he h2, h.vis.ext he (fun b hb => by simp only [Option.some.injEq, Addr.mk.injEq, and_true] at hb; subst hb; exact h3), h.cac.ext he h4, fun q hq => ⟨(h.kp q hq).1, (h.kp q hq).2.1, (h.kp q hq).2.2.ext he (fun r hr _ => h5 r hr)⟩, h.n1, h.n2, h.n3, h.nc, h.nk, fun q hq => Nat.lt_of_lt_of_le (h.lk q hq) he.size⟩
theorem Dk.ext {w w' : World} {p : Nat} {s : St} {F X : Nat → Prop} (h : Dk w p s F) (he : Ext w w' X) (hx : ∀ b, F b → ¬ X b) : Dk w' p s F := by
  obtain ⟨db, vb, vc, ca, cc, ka, kn, kc, lf, h, f1, f2, f3, f4, f5⟩ := h
  exact ⟨db, vb, vc, ca, cc, ka, kn, kc, lf, h.ext he (hx _ f1) (hx _ f2) (hx _ f3) (fun b hb => hx _ (f4 b hb)) (fun q hq => hx _ (f5 q hq)), f1, f2, f3, f4, f5⟩
theorem Dk.mono {w : World} {p : Nat} {s : St} {F G : Nat → Prop} (h : Dk w p s F) (hx : ∀ b, F b → G b) : Dk w p s G := by
  obtain ⟨db, vb, vc, ca, cc, ka, kn, kc, lf, h, f1, f2, f3, f4, f5⟩ := h
  exact ⟨db, vb, vc, ca, cc, ka, kn, kc, lf, h, hx _ f1, hx _ f2, hx _ f3, fun b hb => hx _ (f4 b hb), fun q hq => hx _ (f5 q hq)⟩
theorem Dk.lt {w : World} {p : Nat} {s : St} {F : Nat → Prop} (h : Dk w p s F) : p < w.heap.size := by
  obtain ⟨db, vb, vc, ca, cc, ka, kn, kc, lf, h, _⟩ := h
  exact h.d.lt

section
variable {w : World} {Q : Value → World → Prop} {p : Nat} {s : St} {F : Nat → Prop}

theorem size_c (h : Dk w p s F) (hQ : Q (.int .i64 (s.S.length : Int)) w) : CallE Try.prog 27 #[.pointer (some ⟨p, 0, none⟩)] w Q := by
  obtain ⟨db, vb, vc, ca, cc, ka, kn, kc, lf, h, _⟩ := h
  apply C.blockdev_Disk_Size
  unfold W.blockdev_Disk_Size
  simp only [add_mk, Nat.zero_add]
  refine ldL h.d rfl ?_
  exact hQ
theorem pending_c (h : Dk w p s F) (hQ : Q (.int .i64 (s.C.length : Int)) w) : CallE Try.prog 20 #[.pointer (some ⟨p, 0, none⟩)] w Q := by
  obtain ⟨db, vb, vc, ca, cc, ka, kn, kc, lf, h, _⟩ := h
  apply C.blockdev_Disk_Pending
  unfold W.blockdev_Disk_Pending
  simp only [add_mk, Nat.zero_add]
  refine ldL h.d rfl ?_
  exact hQ

theorem read_c {i : Int} (h : Dk w p s F) (hQ : Q (.tuple #[.string (mkS (rd s i).1), .int .i64 (rd s i).2]) w) : CallE Try.prog 21 #[.pointer (some ⟨p, 0, none⟩), .int .i64 i] w Q := by
  apply C.blockdev_Disk_Read
  unfold W.blockdev_Disk_Read
  simp only [add_mk, Nat.zero_add]
  unfold rd at hQ
  refine br_of (fun h0 => ?_) (fun h0 => ?_)
  · simp only [decide_eq_true_eq] at h0
    rw [if_pos (.inl h0)] at hQ
    exact hQ
  simp only [decide_eq_false_iff_not] at h0
  refine size_c h (fi ?_)
  refine br_of (fun h1 => ?_) (fun h1 => ?_)
  · simp only [decide_eq_true_eq] at h1
    rw [if_pos (.inr h1)] at hQ
    exact hQ
  simp only [decide_eq_false_iff_not] at h1
  rw [if_neg (by omega)] at hQ
  obtain ⟨db, vb, vc, ca, cc, ka, kn, kc, lf, h, _⟩ := h
  refine ldB h.d rfl ?_
  refine br_of (fun h2 => ?_) (fun h2 => ?_)
  · rw [if_pos h2] at hQ
    exact hQ
  rw [if_neg (by simp [h2])] at hQ
  refine ldL h.d rfl ?_
  obtain ⟨n, rfl⟩ := nat_of (show 0 ≤ i by omega)
  refine ixb n 1 9 (by omega) ?_
  refine slL h.vis (by rw [Nat.mul_one]; exact strs_getD (by rw [all_length]; omega)) (ft ?_)
  exact hQ

theorem removePlan_c {db vb vc : Nat} {ca : Option Addr} {cc : Nat} {ka : Option Addr} {kn kc : Nat} {lf : Int} {n cn : Nat} {off pl : Bool} (h : At w p (dkc db vb vc ca cc ka kn kc lf n cn off pl) 58)
    (hQ : ∀ w', At w' p (dkc db vb vc ca cc none 0 0 0 n cn off false) 58 → Ext w w' (· = p) → w'.heap.size = w.heap.size → Q (.tuple #[]) w') : CallE Try.prog 32 #[.pointer (some ⟨p, 0, none⟩)] w Q := by
  apply C.blockdev_Disk_removePlan
  unfold W.blockdev_Disk_removePlan
  simp only [add_mk, Nat.zero_add]
  refine st_i h (by show 4 < 7; omega) fun w1 a1 e1 z1 => ?_
  refine st_i a1 (by show 5 < 7; omega) fun w2 a2 e2 z2 => ?_
  refine st_i a2 (by show 6 < 7; omega) fun w3 a3 e3 z3 => ?_
  exact hQ w3 a3 ((e1.tr e2).tr e3) (by omega)

/-- A power loss. -/
theorem lose_c {ka' : Option Addr} {kn' kc' : Nat} {kl : List Bool} {m db vb vc : Nat} {ca : Option Addr} {cc : Nat} {ka : Option Addr} {kn kc : Nat} {lf : Int} (h : DkAt w p db vb vc ca cc ka kn kc lf s) (f1 : F p) (f2 : F db) (f3 : F vb) (hok : Ok m 1000000 s) (hk : Reads w ka' (bls kl)) (hkn : kl.length = kn')
    (hne : ∀ q : Addr, ka' = some q → kl ≠ [] → q.block ≠ db)
    (hQ : ∀ w', Dk w' p (lose s kl) F → Ext w w' F → Q (.tuple #[]) w') :
    CallE Try.prog 31 #[.pointer (some ⟨p, 0, none⟩), .slice ka' kn' kc'] w Q := by
  have hcl := hok.cl
  have hlen := hok.len
  apply C.blockdev_Disk_lose
  unfold W.blockdev_Disk_lose
  simp only [add_mk, Nat.zero_add]
  refine ldL h.d rfl ?_
  have hdlt := h.dur.lt
  refine LoopW.nat s.C.length (fun i x w' => x = ((i : Int), ()) ∧ At w' db (strs (sel (s.C.take i) kl s.S)) 9 ∧ Ext w w' (· = db)) ⟨rfl, by rw [List.take_zero]; exact h.dur, Ext.refl _ _⟩ ?_
  rintro i x w1 next hi ⟨rfl, a1, e1⟩ hnext
  dsimp only
  by_cases hlt : i < s.C.length
  case neg =>
    rw [decide_eq_false (by omega), br_false]
    obtain rfl : i = s.C.length := by omega
    rw [List.take_length] at a1
    unfold W.blockdev_Disk_lose_k6
    simp only [add_mk, Nat.zero_add]
    have d1 := h.d.ext e1 h.n1
    refine st_i d1 (by show 2 < 7; omega) fun w2 a2 e2 z2 => ?_
    show dr w2 _
    unfold dr
    refine ldL (w := drew w2) a2 rfl ?_
    refine ldL (w := drew w2) a2 rfl ?_
    have e12 : Ext w w2 (fun b => b = db ∨ b = p) := e1.trans e2 (fun _ _ h => .inl h) (fun _ _ h => .inr h)
    have vis2 : Sl (drew w2) 9 1 (some ⟨vb, 0, none⟩) s.S.length vc (strs (all s.C s.S)) := h.vis.ext e12.drew_ (fun b hb hx => by simp only [Option.some.injEq, Addr.mk.injEq, and_true] at hb; subst hb; rcases hx with hx | hx; exact h.n3 hx.symm; exact h.n2 hx.symm)
    have dur2 : At (drew w2) db (strs (sel s.C kl s.S)) 9 := a1.ext e2.drew_ (Ne.symm h.n1)
    refine cp_sl 9 1 (vs := strs (sel s.C kl s.S)) vis2 (.inr ⟨_, rfl, fun j hj => by rw [add_mk, dur2.cell, Nat.zero_add]⟩) (by rw [strs_length, sel_length, Nat.mul_one]) (strs_one _) fun w3 s3 e3 z3 => fi ?_
    have d3 := At.ext (w := drew w2) a2 e3 h.n2
    refine st_i d3 (by show 3 < 7; omega) fun w4 a4 e4 z4 => ?_
    refine removePlan_c a4 fun w5 a5 e5 z5 => ⟨rfl, ?_⟩
    have e25 : Ext (drew w2) w5 (fun b => b = vb ∨ b = p) := e3.trans (e4.tr e5) (fun _ _ h => .inl h) (fun _ _ h => .inr h)
    have hdlose : (lose s kl).S.length = s.S.length := sel_length _ _ _
    have e05 : Ext w w5 F := e12.trans e25.of_drew (fun b _ hx => by rcases hx with rfl | rfl; exact f2; exact f1) (fun b _ hx => by rcases hx with rfl | rfl; exact f3; exact f1)
    refine hQ w5 ⟨db, vb, vc, none, 0, none, 0, 0, 0, ⟨?_, ?_, ?_, .inl ⟨rfl, rfl, rfl, rfl⟩, fun q hq => (by cases hq), h.n1, h.n2, h.n3, fun b hb => (by cases hb), fun b hb => (by cases hb), fun b hb => (by cases hb)⟩, f1, f2, f3, fun b hb => (by cases hb), fun b hb => (by cases hb)⟩ e05
    · rw [hdlose]
      exact a5
    · exact dur2.ext e25 (fun hx => by rcases hx with hx | hx; exact h.n3 hx; exact h.n1 hx.symm)
    · rw [hdlose]
      exact s3.ext (e4.tr e5) (fun b hb hx => by simp only [Option.some.injEq, Addr.mk.injEq, and_true] at hb; subst hb; exact h.n2 hx.symm)
  rw [decide_eq_true (by omega), br_true]
  obtain ⟨cb, rfl⟩ := h.cac.one_block (by omega)
  have cac1 : Sl w1 62 2 (some ⟨cb, 0, none⟩) s.C.length cc (wcells s.C) := h.cac.ext e1 (fun b hb hx => (h.nc b hb).2.1 hx)
  obtain ⟨sp, ac, hc1, hc2, hc3⟩ := cac1.at_
  refine ixb i 2 62 hlt ?_
  refine ld_g 2 ac (by rw [List.length_append, hc1]; omega) ?_
  have hrow : ((wcells s.C ++ sp).drop (i * 2)).take 2 = wrow s.C[i] := by
    rw [List.drop_append_of_le_length (by omega), List.take_append_of_le_length (by rw [List.length_drop]; omega)]
    exact flat_row (f := wrow) (m := 2) (fun _ => rfl) s.C i hlt
  rw [hrow]
  refine fg ?_
  refine al_st 2 rfl (wrow_one _) fun xb w2 hxb a2 e2 z2 => ?_
  have hsz := e1.size
  have dur2 := a1.ext e2 (fun h => h)
  have e02 : Ext w w2 (· = db) := e1.tr0 e2
  have hidx := hok.idx s.C[i] (List.getElem_mem hlt)
  have fin : ∀ b : Bool, b = kl.getD i false → W.blockdev_Disk_lose_k4 ⟨p, 0, none⟩ ka' kn' kc' ⟨xb, 0, none⟩ (some ⟨cb, 0, none⟩) s.C.length cc (s.C.length : Int) (i : Int) b next w2 Q := by
    intro b hb
    unfold W.blockdev_Disk_lose_k4
    simp only [add_mk, Nat.zero_add]
    rw [inc_nat (by omega)]
    have hsucc := sel_take_succ hlt kl s.S
    rw [← hb] at hsucc
    cases b with
    | false =>
      rw [br_false]
      refine hnext hlt _ _ ⟨rfl, ?_, e02⟩
      rw [hsucc]
      exact dur2
    | true =>
      rw [br_true]
      show dr w2 _
      unfold dr
      have d2 := h.d.ext e02 h.n1
      refine ldL (w := drew w2) d2 rfl ?_
      refine ldI (w := drew w2) a2 rfl ?_
      refine ldT (w := drew w2) a2 rfl ?_
      refine ixb s.C[i].1 1 9 (by rw [hlen]; exact hidx) ?_
      refine st_i (w := drew w2) dur2 (by rw [strs_length, sel_length, hlen]; omega) fun w3 a3 e3 z3 => ?_
      rw [strs_set, Nat.mul_one] at a3
      refine hnext hlt _ _ ⟨rfl, ?_, e02.drew_.tr e3⟩
      rw [hsucc]
      exact a3
  by_cases hik : i < kl.length
  · rw [decide_eq_true (by omega), br_true]
    obtain ⟨q, rfl⟩ := hk.some_ (by rw [bls_length]; omega)
    have hk2 : Reads w2 (some q) (bls kl) := hk.ext e02 (fun q' hq' _ hx => hne q' hq' (fun h => by subst h; simp at hik) hx)
    refine ixs i 1 4 (by omega) ?_
    refine rdL hk2 (by rw [Nat.mul_one]; exact bls_getD hik) (fb ?_)
    exact fin _ rfl
  · rw [decide_eq_false (by omega), br_false]
    refine fin _ ?_
    rw [List.getD_eq_getElem?_getD, List.getElem?_eq_none (by omega)]; rfl

theorem write_k10 {i : Nat} {d : Sec} {m db vb vc : Nat} {ca : Option Addr} {cc : Nat} {ka : Option Addr} {kn kc : Nat} {lf : Int} {pl : Option (Nat × List Bool)} (h : DkAt w p db vb vc ca cc ka kn kc lf ⟨s.S, s.C, s.off, pl⟩) (f1 : F p) (f2 : F db) (f3 : F vb) (f4 : ∀ b, ca = some ⟨b, 0, none⟩ → F b) (f5 : ∀ q : Addr, ka = some q → F q.block)
    (hok : Ok m 1000000 s) (hi : i < s.S.length)
    (hQ : ∀ w' F', Dk w' p ⟨s.S, s.C ++ [(i, d)], s.off, pl⟩ F' → Ext w w' F → (∀ b, F' b → F b ∨ w.heap.size ≤ b) → Q (.int .i64 0) w') :
    W.blockdev_Disk_Write_k10 ⟨p, 0, none⟩ (i : Int) (mkS d) w Q := by
  unfold W.blockdev_Disk_Write_k10
  simp only [add_mk, Nat.zero_add]
  have hcl := hok.cl
  refine ldL h.d rfl ?_
  refine al_i fun xb w1 hxb a1 e1 z1 => ?_
  have hcac : Sl w1 62 2 ca s.C.length cc (wcells s.C) := h.cac.ext e1 (fun _ _ h => h)
  refine ap_i 62 2 (vs := wrow (i, d)) hcac (.inr ⟨_, rfl, fun j hj => by rw [add_mk, a1.cell, Nat.zero_add]; rfl⟩) rfl (wrow_one _) (by show s.C.length + 1 ≤ _; omega) fun ca' cc' w2 s2 hor hsome e2 => fs ?_
  have hp1 := h.d.lt
  have d2 : At w2 p _ _ := (h.d.ext e1 (fun h => h)).ext e2 (fun hx => (h.nc _ hx).1 rfl)
  refine st_i d2 (by show 2 < 7; omega) fun w3 a3 e3 z3 => ?_
  refine ldL a3 rfl ?_
  have e02 : Ext w w2 (fun b => ca = some ⟨b, 0, none⟩) := e1.trans e2 (fun _ _ h => h.elim) (fun _ _ h => h)
  have e03 : Ext w w3 (fun b => ca = some ⟨b, 0, none⟩ ∨ b = p) := e02.trans e3 (fun _ _ h => .inl h) (fun _ _ h => .inr h)
  have vis3 : Sl w3 9 1 (some ⟨vb, 0, none⟩) s.S.length vc (strs (all s.C s.S)) := h.vis.ext e03 (fun b hb hx => by
    simp only [Option.some.injEq, Addr.mk.injEq, and_true] at hb
    subst hb
    rcases hx with hx | hx
    · exact (h.nc _ hx).2.2 rfl
    · exact h.n2 hx.symm)
  refine ixb i 1 9 hi ?_
  refine slS vis3 (by rw [strs_length, all_length]; omega) fun w4 s4 e4 z4 => ?_
  rw [strs_set, Nat.mul_one, ← all_snoc s.C (i, d)] at s4
  have e04 : Ext w w4 (fun b => ca = some ⟨b, 0, none⟩ ∨ b = p ∨ b = vb) := e03.trans e4 (fun _ _ h => by rcases h with h | h; exact .inl h; exact .inr (.inl h)) (fun _ _ h => .inr (.inr h))
  have e24 : Ext w2 w4 (fun b => b = p ∨ b = vb) := e3.trans e4 (fun _ _ h => .inl h) (fun _ _ h => .inr h)
  have hz2 := e02.size
  have hdb := h.dur.lt
  have hvb := h.vis.lt
  have nca : ∀ b, ca' = some ⟨b, 0, none⟩ → b ≠ p ∧ b ≠ db ∧ b ≠ vb := by
    intro b hb
    rcases hor b hb with hx | hx
    · exact h.nc b hx
    · exact ⟨by omega, by omega, by omega⟩
  have hkx : ∀ q : Addr, ka = some q → ¬ (ca = some ⟨q.block, 0, none⟩ ∨ q.block = p ∨ q.block = vb) := by
    intro q hq hx
    obtain ⟨h1, h2, h3, h4⟩ := h.nk q hq
    rcases hx with hx | hx | hx
    · exact h4 hx
    · exact h1 hx
    · exact h3 hx
  have hnew : At w4 p (dkc db vb vc ca' cc' ka kn kc lf s.S.length (s.C.length + 1) s.off pl.isSome) 58 := At.ext a3 e4 h.n2
  refine hQ w4 (fun b => F b ∨ w.heap.size ≤ b) ⟨db, vb, vc, ca', cc', ka, kn, kc, lf, ⟨?_, ?_, s4, ?_, fun q hq => ?_, h.n1, h.n2, h.n3, nca, fun q hq => ?_, fun q hq => ?_⟩, .inl f1, .inl f2, .inl f3, fun b hb => ?_, fun q hq => .inl (f5 q hq)⟩ ?_ (fun b hb => hb)
  · rw [show (s.C ++ [(i, d)]).length = s.C.length + 1 by simp]
    exact hnew
  · exact h.dur.ext e04 (fun hx => by
      rcases hx with hx | hx | hx
      · exact (h.nc _ hx).2.1 rfl
      · exact h.n1 hx.symm
      · exact h.n3 hx)
  · rw [show (s.C ++ [(i, d)]).length = s.C.length + 1 by simp]
    have := s2.ext e24 (fun b hb hx => by
      obtain ⟨h1, h2, h3⟩ := nca b hb
      rcases hx with hx | hx
      · exact h1 hx
      · exact h3 hx)
    rw [← wcells_snoc] at this
    exact this
  · obtain ⟨h1, h2, h3⟩ := h.kp q hq
    exact ⟨h1, h2, h3.ext e04 (fun r hr _ => hkx r hr)⟩
  · obtain ⟨h1, h2, h3, h4⟩ := h.nk q hq
    refine ⟨h1, h2, h3, fun hx => ?_⟩
    rcases hor _ hx with hy | hy
    · exact h4 hy
    · have := h.lk q hq
      omega
  · exact Nat.lt_of_lt_of_le (h.lk q hq) e04.size
  · rcases hor b hb with hx | hx
    · exact .inl (f4 b hx)
    · right; omega
  · refine e04.mono fun b _ hx => ?_
    rcases hx with hx | rfl | rfl
    · exact f4 b hx
    · exact f1
    · exact f3

theorem write_c {i : Int} {d : Sec} {m : Nat} (h : Dk w p s F) (hok : Ok m 1000000 s)
    (hQ : ∀ w' F', Dk w' p (wr s i d).1 F' → Ext w w' F → (∀ b, F' b → F b ∨ w.heap.size ≤ b) → Q (.int .i64 (wr s i d).2) w') :
    CallE Try.prog 12 #[.pointer (some ⟨p, 0, none⟩), .int .i64 i, .string (mkS d)] w Q := by
  apply C.blockdev_Disk_Write
  unfold W.blockdev_Disk_Write
  simp only [add_mk, Nat.zero_add]
  unfold wr at hQ
  have same : (wr s i d) = (s, 1) → Q (.int .i64 1) w := fun he => by unfold wr at he; rw [he] at hQ; exact hQ w F h (Ext.refl _ _) (fun _ hb => .inl hb)
  refine br_of (fun h0 => ?_) (fun h0 => ?_)
  · simp only [decide_eq_true_eq] at h0
    exact same (by unfold wr; rw [if_pos (.inl h0)])
  simp only [decide_eq_false_iff_not] at h0
  refine size_c h (fi ?_)
  refine br_of (fun h1 => ?_) (fun h1 => ?_)
  · simp only [decide_eq_true_eq] at h1
    exact same (by unfold wr; rw [if_pos (.inr (.inl h1))])
  simp only [decide_eq_false_iff_not] at h1
  rw [mkS_size]
  refine br_of (fun h2 => ?_) (fun h2 => ?_)
  · rw [bne_iff_ne] at h2
    exact same (by unfold wr; rw [if_pos (.inr (.inr (by omega)))])
  have h2' : d.length = 64 := by
    rw [bne_eq_false_iff_eq] at h2
    omega
  rw [if_neg (by rintro (h | h | h) <;> omega)] at hQ
  have h' := h
  obtain ⟨db, vb, vc, ca, cc, ka, kn, kc, lf, h, f1, f2, f3, f4, f5⟩ := h
  refine ldB h.d rfl ?_
  refine br_of (fun h3 => ?_) (fun h3 => ?_)
  · rw [if_pos h3] at hQ
    exact hQ w F h' (Ext.refl _ _) (fun _ hb => .inl hb)
  rw [if_neg (by simp [h3])] at hQ
  obtain ⟨n, rfl⟩ := nat_of (show 0 ≤ i by omega)
  rw [Int.toNat_natCast] at hQ
  refine ldB h.d rfl ?_
  cases hp : s.plan with
  | none =>
    rw [hp] at hQ
    rw [Option.isSome_none, br_false]
    have hs : (⟨s.S, s.C, s.off, none⟩ : St) = s := by rw [← hp]
    exact write_k10 (s := s) (pl := none) (by rw [hs]; exact h) f1 f2 f3 f4 f5 hok (by omega) hQ
  | some q =>
    obtain ⟨k, kl⟩ := q
    rw [hp] at hQ
    rw [Option.isSome_some, br_true]
    obtain ⟨hl1, hl2, hl3⟩ := h.kp _ hp
    dsimp only at hl1 hl2 hl3
    subst hl1
    refine ldI h.d rfl ?_
    cases k with
    | zero =>
      rw [show (((0 : Nat) : Int) == 0) = true from rfl, br_true]
      refine ldL h.d rfl ?_
      refine lose_c h f1 f2 f3 hok hl3 hl2.symm (fun q hq _ => (h.nk q hq).2.1) fun w' hd he => ⟨rfl, ?_⟩
      exact hQ w' F hd he (fun _ hb => .inl hb)
    | succ k =>
      rw [show (((k + 1 : Nat) : Int) == 0) = false by rw [beq_eq_false_iff_ne]; omega, br_false]
      refine ldI h.d rfl ?_
      have hpl := hok.pl _ hp
      have hpl' : k + 1 ≤ 1000000 := hpl
      rw [wrap_i64 (by omega) (by omega)]
      refine st_i h.d (by show 5 < 7; omega) fun w1 a1 e1 z1 => ?_
      have h1 : DkAt w1 p db vb vc ca cc ka kn kc ((k : Nat) : Int) ⟨s.S, s.C, s.off, some (k, kl)⟩ := by
        refine ⟨?_, h.dur.ext e1 (Ne.symm h.n1), h.vis.ext e1 (fun b hb hx => ?_), h.cac.ext e1 (fun b hb hx => (h.nc b hb).1 hx), fun q hq => ?_, h.n1, h.n2, h.n3, h.nc, h.nk, fun q hq => Nat.lt_of_lt_of_le (h.lk q hq) e1.size⟩
        · rw [show (((k + 1 : Nat) : Int) - 1) = (k : Int) by omega, hp] at a1
          exact a1
        · simp only [Option.some.injEq, Addr.mk.injEq, and_true] at hb
          subst hb
          exact h.n2 hx.symm
        · simp only [Option.some.injEq] at hq
          subst hq
          exact ⟨rfl, hl2, hl3.ext e1 (fun r hr _ hx => (h.nk r hr).1 hx)⟩
      refine write_k10 (s := s) (pl := some (k, kl)) h1 f1 f2 f3 f4 f5 hok (by omega) fun w' F' hd he hF => ?_
      refine hQ w' F' hd ((e1.mono fun b _ hb => by subst hb; exact f1).tr he) (fun b hb => ?_)
      rw [z1] at hF
      exact hF b hb

theorem flush_c {m : Nat} (h : Dk w p s F) (hok : Ok m 1000000 s) (hQ : ∀ w', Dk w' p (fl s).1 F → Ext w w' F → Q (.int .i64 (fl s).2) w') :
    CallE Try.prog 19 #[.pointer (some ⟨p, 0, none⟩)] w Q := by
  apply C.blockdev_Disk_Flush
  unfold W.blockdev_Disk_Flush
  simp only [add_mk, Nat.zero_add]
  unfold fl at hQ
  have h' := h
  obtain ⟨db, vb, vc, ca, cc, ka, kn, kc, lf, h, f1, f2, f3, f4, f5⟩ := h
  refine ldB h.d rfl ?_
  refine br_of (fun h3 => ?_) (fun h3 => ?_)
  · rw [if_pos h3] at hQ
    exact hQ w h' (Ext.refl _ _)
  rw [if_neg (by simp [h3])] at hQ
  have hcl := hok.cl
  have hlen := hok.len
  refine ldL h.d rfl ?_
  refine LoopW.nat s.C.length (fun i x w' => x = ((i : Int), ()) ∧ At w' db (strs (all (s.C.take i) s.S)) 9 ∧ Ext w w' (· = db)) ⟨rfl, by rw [List.take_zero]; exact h.dur, Ext.refl _ _⟩ ?_
  rintro i x w1 next hi ⟨rfl, a1, e1⟩ hnext
  dsimp only
  have d1 := h.d.ext e1 h.n1
  by_cases hlt : i < s.C.length
  case neg =>
    rw [decide_eq_false (by omega), br_false]
    obtain rfl : i = s.C.length := by omega
    rw [List.take_length] at a1
    refine st_i d1 (by show 2 < 7; omega) fun w2 a2 e2 z2 => ?_
    have e02 : Ext w w2 (fun b => b = db ∨ b = p) := e1.trans e2 (fun _ _ h => .inl h) (fun _ _ h => .inr h)
    refine hQ w2 ⟨db, vb, vc, none, 0, ka, kn, kc, lf, ⟨?_, a1.ext e2 (Ne.symm h.n1), ?_, .inl ⟨rfl, rfl, rfl, rfl⟩, fun q hq => ?_, h.n1, h.n2, h.n3, fun b hb => (by cases hb), fun q hq => ⟨(h.nk q hq).1, (h.nk q hq).2.1, (h.nk q hq).2.2.1, by simp⟩, fun q hq => Nat.lt_of_lt_of_le (h.lk q hq) e02.size⟩, f1, f2, f3, fun b hb => (by cases hb), f5⟩ (e02.mono fun b _ hx => by rcases hx with rfl | rfl; exact f2; exact f1)
    · rw [show (all s.C s.S).length = s.S.length from all_length _ _]
      exact a2
    · rw [show (all s.C s.S).length = s.S.length from all_length _ _]
      refine Sl.ext (w := w) h.vis e02 (fun b hb hx => ?_)
      simp only [Option.some.injEq, Addr.mk.injEq, and_true] at hb
      subst hb
      rcases hx with hx | hx
      · exact h.n3 hx.symm
      · exact h.n2 hx.symm
    · obtain ⟨h1, h2, h3⟩ := h.kp q hq
      refine ⟨h1, h2, h3.ext e02 (fun r hr _ hx => ?_)⟩
      rcases hx with hx | hx
      · exact (h.nk r hr).2.1 hx
      · exact (h.nk r hr).1 hx
  rw [decide_eq_true (by omega), br_true]
  obtain ⟨cb, rfl⟩ := h.cac.one_block (by omega)
  have cac1 : Sl w1 62 2 (some ⟨cb, 0, none⟩) s.C.length cc (wcells s.C) := h.cac.ext e1 (fun b hb hx => (h.nc b hb).2.1 hx)
  obtain ⟨sp, ac, hc1, hc2, hc3⟩ := cac1.at_
  refine ixb i 2 62 hlt ?_
  refine ld_g 2 ac (by rw [List.length_append, hc1]; omega) ?_
  have hrow : ((wcells s.C ++ sp).drop (i * 2)).take 2 = wrow s.C[i] := by
    rw [List.drop_append_of_le_length (by omega), List.take_append_of_le_length (by rw [List.length_drop]; omega)]
    exact flat_row (f := wrow) (m := 2) (fun _ => rfl) s.C i hlt
  rw [hrow]
  refine fg ?_
  refine al_st 2 rfl (wrow_one _) fun xb w2 hxb a2 e2 z2 => ?_
  have dur2 := a1.ext e2 (fun h => h)
  have e02 : Ext w w2 (· = db) := e1.tr0 e2
  have hidx := hok.idx s.C[i] (List.getElem_mem hlt)
  simp only [add_mk, Nat.zero_add]
  show dr w2 _
  unfold dr
  have d2 := h.d.ext e02 h.n1
  refine ldL (w := drew w2) d2 rfl ?_
  refine ldI (w := drew w2) a2 rfl ?_
  refine ldT (w := drew w2) a2 rfl ?_
  refine ixb s.C[i].1 1 9 (by rw [hlen]; exact hidx) ?_
  refine st_i (w := drew w2) dur2 (by rw [strs_length, all_length, hlen]; omega) fun w3 a3 e3 z3 => ?_
  rw [strs_set, Nat.mul_one, ← all_take_succ hlt] at a3
  rw [inc_nat (by omega)]
  exact hnext hlt _ _ ⟨rfl, a3, e02.drew_.tr e3⟩

theorem cutAfter_c {n : Int} {ka' : Option Addr} {kn' kc' : Nat} {kl : List Bool} (h : Dk w p s F) (hk : Reads w ka' (bls kl)) (hkn : kl.length = kn') (hkl : kn' ≤ 140737488355328) (hkF : ∀ q : Addr, ka' = some q → kl ≠ [] → ¬ F q.block)
    (hQ : ∀ w' F', Dk w' p (cut s n kl) F' → Ext w w' F → (∀ b, F' b → F b ∨ w.heap.size ≤ b) → Q (.tuple #[]) w') :
    CallE Try.prog 14 #[.pointer (some ⟨p, 0, none⟩), .int .i64 n, .slice ka' kn' kc'] w Q := by
  apply C.blockdev_Disk_CutAfter
  unfold W.blockdev_Disk_CutAfter
  simp only [add_mk, Nat.zero_add]
  unfold cut at hQ
  obtain ⟨db, vb, vc, ca, cc, ka, kn, kc, lf, h, f1, f2, f3, f4, f5⟩ := h
  have hvx : ∀ b, (some ⟨vb, 0, none⟩ : Option Addr) = some ⟨b, 0, none⟩ → ¬ b = p := by
    intro b hb hx
    simp only [Option.some.injEq, Addr.mk.injEq, and_true] at hb
    subst hb
    exact h.n2 hx.symm
  refine br_of (fun h0 => ?_) (fun h0 => ?_)
  · simp only [decide_eq_true_eq] at h0
    rw [if_pos h0] at hQ
    refine removePlan_c h.d fun w1 a1 e1 z1 => ⟨rfl, ?_⟩
    exact hQ w1 F ⟨db, vb, vc, ca, cc, none, 0, 0, 0, ⟨a1, h.dur.ext e1 (Ne.symm h.n1), h.vis.ext e1 hvx, h.cac.ext e1 (fun b hb hx => (h.nc b hb).1 hx), fun q hq => (by cases hq), h.n1, h.n2, h.n3, h.nc, fun q hq => (by cases hq), fun q hq => (by cases hq)⟩, f1, f2, f3, f4, fun q hq => (by cases hq)⟩ (e1.mono fun b _ hb => by subst hb; exact f1) (fun b hb => .inl hb)
  · simp only [decide_eq_false_iff_not] at h0
    rw [if_neg h0] at hQ
    refine st_i h.d (by show 4 < 7; omega) fun w1 a1 e1 z1 => ?_
    refine st_i a1 (by show 5 < 7; omega) fun w2 a2 e2 z2 => ?_
    have e02 := e1.tr e2
    have hk2 := hk.ext e02 (fun q hq hne hx => hkF q hq (fun h => hne (by rw [h]; rfl)) (hx ▸ f1))
    refine cloneB_c hk2 hkn hkl fun a' c' w3 s3 hnew e3 => fs ?_
    have a3 := a2.ext e3 (fun h => h)
    refine st_i a3 (by show 6 < 7; omega) fun w4 a4 e4 z4 => ?_
    have e04 : Ext w w4 (· = p) := (e02.tr0 e3).tr e4
    have hp1 := h.d.lt; have hp2 := h.dur.lt; have hp3 := h.vis.lt
    have hca : ∀ b, ca = some ⟨b, 0, none⟩ → b < w.heap.size := by
      intro b hb
      subst hb
      exact h.cac.lt
    have hnew' : ∀ q : Addr, a' = some q → w.heap.size ≤ q.block ∧ q.block < w3.heap.size := by
      intro q hq
      subst hq
      rcases s3 with ⟨hh, _⟩ | ⟨b, sp, hb, hat, _⟩
      · cases hh
      · cases hb
        have := hnew b rfl
        exact ⟨by show w.heap.size ≤ b; omega, hat.lt⟩
    refine hQ w4 (fun b => F b ∨ w.heap.size ≤ b) ⟨db, vb, vc, ca, cc, a', kn', c', n, ⟨a4, h.dur.ext e04 (Ne.symm h.n1), h.vis.ext e04 hvx, h.cac.ext e04 (fun b hb hx => (h.nc b hb).1 hx), fun q hq => ?_, h.n1, h.n2, h.n3, h.nc, fun q hq => ?_, fun q hq => ?_⟩, .inl f1, .inl f2, .inl f3, fun b hb => .inl (f4 b hb), fun q hq => .inr (hnew' q hq).1⟩ (e04.mono fun b _ hb => by subst hb; exact f1) (fun b hb => hb)
    · simp only [Option.some.injEq] at hq
      subst hq
      refine ⟨by show n = ((n.toNat : Nat) : Int); omega, hkn.symm, ?_⟩
      exact s3.reads.ext e4 (fun r hr _ hx => by have := (hnew' r hr).1; omega)
    · have := hnew' q hq
      exact ⟨by omega, by omega, by omega, fun hx => by have := hca _ hx; omega⟩
    · have := (hnew' q hq).2
      omega

theorem powerOff_c {ka' : Option Addr} {kn' kc' : Nat} {kl : List Bool} {m : Nat} (h : Dk w p s F) (hok : Ok m 1000000 s) (hk : Reads w ka' (bls kl)) (hkn : kl.length = kn') (hkF : ∀ q : Addr, ka' = some q → kl ≠ [] → ¬ F q.block)
    (hQ : ∀ w', Dk w' p (pOff s kl).1 F → Ext w w' F → Q (.int .i64 (pOff s kl).2) w') :
    CallE Try.prog 11 #[.pointer (some ⟨p, 0, none⟩), .slice ka' kn' kc'] w Q := by
  apply C.blockdev_Disk_PowerOff
  unfold W.blockdev_Disk_PowerOff
  simp only [add_mk, Nat.zero_add]
  unfold pOff at hQ
  have h' := h
  obtain ⟨db, vb, vc, ca, cc, ka, kn, kc, lf, h, f1, f2, f3, f4, f5⟩ := h
  refine ldB h.d rfl ?_
  refine br_of (fun h3 => ?_) (fun h3 => ?_)
  · rw [if_pos h3] at hQ
    exact hQ w h' (Ext.refl _ _)
  rw [if_neg (by simp [h3])] at hQ
  refine lose_c h f1 f2 f3 hok hk hkn (fun q hq hne hx => hkF q hq hne (hx ▸ f2)) fun w' hd he => ⟨rfl, ?_⟩
  exact hQ w' hd he

theorem powerOn_c (h : Dk w p s F) (hQ : ∀ w', Dk w' p (pOn s).1 F → Ext w w' F → Q (.int .i64 (pOn s).2) w') :
    CallE Try.prog 22 #[.pointer (some ⟨p, 0, none⟩)] w Q := by
  apply C.blockdev_Disk_PowerOn
  unfold W.blockdev_Disk_PowerOn
  simp only [add_mk, Nat.zero_add]
  unfold pOn at hQ
  have h' := h
  obtain ⟨db, vb, vc, ca, cc, ka, kn, kc, lf, h, f1, f2, f3, f4, f5⟩ := h
  refine ldB h.d rfl ?_
  cases hoff : s.off with
  | false =>
    rw [if_neg (by simp [hoff])] at hQ
    rw [Bool.not_false, br_true]
    exact hQ w h' (Ext.refl _ _)
  | true =>
    rw [if_pos hoff] at hQ
    rw [Bool.not_true, br_false]
    refine st_i h.d (by show 3 < 7; omega) fun w1 a1 e1 z1 => ?_
    refine hQ w1 ⟨db, vb, vc, ca, cc, ka, kn, kc, lf, ⟨a1, h.dur.ext e1 (Ne.symm h.n1), h.vis.ext e1 (fun b hb hx => ?_), h.cac.ext e1 (fun b hb hx => (h.nc b hb).1 hx), fun q hq => ?_, h.n1, h.n2, h.n3, h.nc, h.nk, fun q hq => Nat.lt_of_lt_of_le (h.lk q hq) e1.size⟩, f1, f2, f3, f4, f5⟩ (e1.mono fun b _ hb => by subst hb; exact f1)
    · simp only [Option.some.injEq, Addr.mk.injEq, and_true] at hb
      subst hb
      exact h.n2 hx.symm
    · obtain ⟨h1, h2, h3⟩ := h.kp q hq
      exact ⟨h1, h2, h3.ext e1 (fun r hr _ hx => (h.nk r hr).1 hx)⟩

theorem contents_c {m : Nat} (h : Dk w p s F) (hok : Ok m 1000000 s) (hm : m ≤ 1000000)
    (hQ : ∀ a' c' w', Sl w' 9 1 a' m c' (strs s.S) → (∀ b, a' = some ⟨b, 0, none⟩ → w.heap.size ≤ b) → Ext w w' (fun _ => False) → Q (.slice a' m c') w') :
    CallE Try.prog 15 #[.pointer (some ⟨p, 0, none⟩)] w Q := by
  apply C.blockdev_Disk_Contents
  unfold W.blockdev_Disk_Contents
  simp only [add_mk, Nat.zero_add]
  obtain ⟨db, vb, vc, ca, cc, ka, kn, kc, lf, h, f1, f2, f3, f4, f5⟩ := h
  refine ldL h.d rfl ?_
  have hlen := hok.len
  rw [hlen]
  refine cloneS_c (.inr ⟨_, rfl, fun j hj => by rw [add_mk, h.dur.cell, Nat.zero_add]⟩) hlen (by omega) fun a' c' w' s' hn e => fs ?_
  exact hQ a' c' w' s' hn e

theorem new_bad {n : Int} (hn : n < 1 ∨ n > 4096) (hQ : Q (.tuple #[.pointer none, .int .i64 1]) w) : CallE Try.prog 10 #[.int .i64 n] w Q := by
  apply C.blockdev_New
  unfold W.blockdev_New
  refine br_of (fun _ => hQ) (fun h1 => br_of (fun _ => hQ) (fun h2 => ?_))
  simp only [decide_eq_false_iff_not] at h1 h2
  omega

theorem new_c {n : Nat} (h1 : 1 ≤ n) (h2 : n ≤ 4096) (hQ : ∀ p w', Dk w' p (new n) (fun b => w.heap.size ≤ b) → Ext w w' (fun _ => False) → Q (.tuple #[.pointer (some ⟨p, 0, none⟩), .int .i64 0]) w') :
    CallE Try.prog 10 #[.int .i64 (n : Int)] w Q := by
  apply C.blockdev_New
  unfold W.blockdev_New
  rw [decide_eq_false (by omega), br_false, decide_eq_false (by omega), br_false]
  refine repeat_c (x := 0) (n := 64) (by omega) fun w1 e1 => ft ?_
  refine mk_i 9 1 (by omega) (by omega) fun db w2 hdb a2 e2 z2 => fs ?_
  rw [Int.toNat_natCast] at *
  have hz : zeroL Try.prog 9 = [.string (mkS [])] := by kernel_rfl
  rw [hz, zeros_one] at a2
  refine al_i fun p w3 hp a3 e3 z3 => ?_
  simp only [add_mk, Nat.zero_add]
  refine ldL a3 rfl ?_
  have hs1 := e1.size
  have hnep : p ≠ db := by have := a2.lt; omega
  refine LoopW.nat n (fun i x w' => x = ((i : Int), ()) ∧ At w' db (strs (List.replicate i zs ++ List.replicate (n - i) [])) 9 ∧ Ext w3 w' (· = db)) ⟨rfl, ?_, Ext.refl _ _⟩ ?_
  · have : strs (List.replicate 0 zs ++ List.replicate (n - 0) []) = List.replicate n (.string (mkS [])) := by simp [strs]
    rw [this]
    exact a2.ext e3 (fun h => h)
  rintro i x w4 next hi ⟨rfl, a4, e4⟩ hnext
  dsimp only
  have d4 := a3.ext e4 hnep
  by_cases hlt : i < n
  · rw [decide_eq_true (by omega), br_true]
    refine ldL d4 rfl ?_
    refine ixb i 1 9 (by omega) ?_
    refine st_i a4 (by rw [strs_length]; simp only [List.length_append, List.length_replicate]; omega) fun w5 a5 e5 z5 => ?_
    rw [show (List.replicate 64 (0 : UInt8)) = zs from rfl, strs_set, Nat.mul_one] at a5
    rw [inc_nat (by omega)]
    refine hnext hlt _ _ ⟨rfl, ?_, e4.tr e5⟩
    have : (List.replicate i zs ++ List.replicate (n - i) ([] : Sec)).set i zs = List.replicate (i + 1) zs ++ List.replicate (n - (i + 1)) [] := by
      rw [List.set_append_right _ _ (by simp), List.length_replicate, Nat.sub_self, show n - i = (n - (i + 1)) + 1 by omega, List.replicate_succ, List.set_cons_zero, List.replicate_succ', List.append_assoc]
      rfl
    rw [this] at a5
    exact a5
  rw [decide_eq_false (by omega), br_false]
  obtain rfl : i = n := by omega
  rw [Nat.sub_self, List.replicate_zero, List.append_nil] at a4
  unfold W.blockdev_New_k10
  simp only [add_mk, Nat.zero_add]
  refine ldL d4 rfl ?_
  refine cloneS_c (l := List.replicate i zs) (.inr ⟨_, rfl, fun j hj => by rw [add_mk, a4.cell, Nat.zero_add]⟩) List.length_replicate (by omega) fun va vc w5 s5 hnew e5 => fs ?_
  obtain ⟨vb, rfl⟩ := s5.one_block (by omega)
  have d5 := d4.ext e5 (fun h => h)
  refine st_i d5 (by show 1 < 7; omega) fun w6 a6 e6 z6 => ?_
  have hs4 := e4.size
  have hvb := hnew vb rfl
  have hdlt := a4.lt; have hplt := d4.lt
  have e36 : Ext w w6 (fun _ => False) := ((((e1.tr e2).tr e3).trans e4 (fun _ _ h => h) (fun b hb hx => by have := (e1.tr e2).size; omega)).tr e5).trans e6 (fun _ _ h => h) (fun b hb hx => by have := (e1.tr e2).size; omega)
  refine hQ p w6 ⟨db, vb, vc, none, 0, none, 0, 0, 0, ⟨?_, ?_, ?_, .inl ⟨rfl, rfl, rfl, rfl⟩, fun q hq => (by cases hq), hnep, by omega, by omega, fun b hb => (by cases hb), fun b hb => (by cases hb), fun b hb => (by cases hb)⟩, ?_, ?_, ?_, fun b hb => (by cases hb), fun b hb => (by cases hb)⟩ e36
  · rw [show (new i).S.length = i by simp [new]]
    exact a6
  · exact (a4.ext e5 (fun h => h)).ext e6 (Ne.symm hnep)
  · rw [show (new i).S.length = i by simp [new]]
    exact s5.ext e6 (fun b hb hx => by simp only [Option.some.injEq, Addr.mk.injEq, and_true] at hb; omega)
  · show w.heap.size ≤ p; have := (e1.tr e2).size; omega
  · show w.heap.size ≤ db; omega
  · show w.heap.size ≤ vb; have := (e1.tr e2).size; omega
end
end Go.Proofs.Ytgnmbenhpjkbfaa.Bd
