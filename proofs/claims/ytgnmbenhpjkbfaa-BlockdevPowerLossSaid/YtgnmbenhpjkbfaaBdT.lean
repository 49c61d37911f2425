/-
  A block device: the statements BlockdevArguments, BlockdevCallsAgree, BlockdevCutPosition and BlockdevReadsLastWrite over the code. No condition beyond those stated.
-/
import Derived.Test.YtgnmbenhpjkbfaaBdM
namespace Go.Proofs.Ytgnmbenhpjkbfaa.Bd
open Go Go.Ev Go.Proofs Go.ChangeShapes Go.WideShapes Go.ChangeAt Go.RowKit

theorem wr_code {s : St} (hp : s.plan = none) (i : Int) (d : Sec) : (wr s i d).2 = if i < 0 ∨ (s.S.length : Int) ≤ i ∨ d.length ≠ 64 then 1 else if s.off then 16 else 0 := by
  unfold wr
  split
  · rfl
  · split
    · rfl
    · rw [hp]
theorem wr_ok {s : St} (hp : s.plan = none) (ho : s.off = false) {i : Int} (h0 : 0 ≤ i) (h1 : i < s.S.length) {d : Sec} (hd : d.length = 64) : wr s i d = (⟨s.S, s.C ++ [(i.toNat, d)], false, none⟩, 0) := by
  unfold wr
  rw [if_neg (by omega), if_neg (by simp [ho]), hp, ho]

section
variable {P : Program} {S : World → Prop} {t : TypeId}
theorem rdFS {α : Type} {p : Addr} {m o : Nat} {f : α → List Value} {l : List α} {v : Value} {K : Value → Prop} (i : Nat) (hi : i < l.length) (h : ∀ w, S w → Reads w (some p) (l.flatMap f)) (hf : ∀ x, (f x).length = m) (ho : o < m) (hv : (f l[i])[o]? = some v) (hK : K v)
    (ht : isScal P t = true := by kernel_rfl) : ldS P S t ((p.add (i * m)).add o) K := by
  refine ⟨v, fun w hw => ?_, hK⟩
  rw [add_add_]
  rcases h w hw with h' | ⟨p', hp, h'⟩
  · exfalso
    have := congrArg List.length h'
    rw [flat_length hf] at this
    simp only [List.length_nil] at this
    have : 0 < l.length * m := Nat.mul_pos (by omega) (by omega)
    omega
  · cases hp
    refine run_loadVar ht ?_
    rw [h' _ (by rw [flat_length hf]; have := Nat.mul_le_mul_right m (show i + 1 ≤ l.length from hi); rw [Nat.add_mul] at this; omega), flat_get hf l i o hi ho, hv]
end

section
variable {U w : World} {Q : Value → World → Prop}

theorem arguments_k4 {i : Int} {d : Sec} {off : Bool} (e0 : Ext U w (fun _ => False)) (hQ : ∀ w', Ext U w' (fun _ => False) → Q (.bool true) w') : W.law32_BlockdevArguments_k4 i (mkS d) off w Q := by
  unfold W.law32_BlockdevArguments_k4
  refine new_c (n := 3) (by omega) (by omega) fun p w1 h1 e1 => ⟨_, _, rfl, ?_⟩
  have o1 := One.new h1 e0 e1
  rw [show ((0 : Int) != 0) = false from rfl, br_false]
  refine eq_nil (fb ?_)
  rw [Option.isNone_some, br_false]
  have fin : ∀ {w' : World} {F : Nat → Prop} {s : St}, s.plan = none → s.off = off → Ok 3 1000000 s → One U w' p s F → W.law32_BlockdevArguments_k7 i (mkS d) off (some ⟨p, 0, none⟩) w' Q := by
    intro w' F s hp ho hok o
    have hcode := wr_code hp i d
    rw [ho, hok.len] at hcode
    have k12 : ∀ want : Int, (wr s i d).2 = want → W.law32_BlockdevArguments_k12 i (mkS d) (some ⟨p, 0, none⟩) want w' Q := by
      intro want hw
      unfold W.law32_BlockdevArguments_k12
      refine write_c o.d hok fun w2 F2 h2 e2 hF2 => fi ?_
      have o2 := o.step h2 e2 hF2
      rw [hw, beq_self_eq_true, br_true]
      exact awake_fin hQ o2.e
    have k10 : W.law32_BlockdevArguments_k10 i (mkS d) (some ⟨p, 0, none⟩) (if off then 16 else 0) w' Q := by
      unfold W.law32_BlockdevArguments_k10
      rw [mkS_size]
      refine br_of (fun h => k12 _ ?_) (fun h => br_of (fun h' => k12 _ ?_) (fun h' => br_of (fun h'' => k12 _ ?_) (fun h'' => k12 _ ?_)))
      · simp only [decide_eq_true_eq] at h
        rw [hcode, if_pos (.inl h)]
      · simp only [decide_eq_true_eq] at h'
        rw [hcode, if_pos (.inr (.inl (by omega)))]
      · rw [bne_iff_ne] at h''
        rw [hcode, if_pos (.inr (.inr (by omega)))]
      · simp only [decide_eq_false_iff_not] at h h'
        rw [bne_eq_false_iff_eq] at h''
        rw [hcode, if_neg (by omega)]
    unfold W.law32_BlockdevArguments_k7
    cases off with
    | true => exact k10
    | false => exact k10
  have k1 := (ok_new 3).le (show 0 ≤ 1000000 by omega)
  cases off with
  | false =>
    rw [br_false]
    exact fin rfl rfl k1 o1
  | true =>
    rw [br_true]
    refine powerOff_c (kl := []) o1.d k1 (.inl rfl) rfl (fun q hq => by cases hq) fun w2 h2 e2 => fi ?_
    have o2 := o1.stay h2 e2
    rw [show (pOff (new 3) []).2 = 0 from rfl, show ((0 : Int) != 0) = false from rfl, br_false]
    exact fin rfl rfl (k1.pOff []) o2

theorem arguments_c {n i : Int} {d : Sec} {off : Bool} (hQ : ∀ w', Ext U w' (fun _ => False) → Q (.bool true) w') : CallE Try.prog 3 #[.int .i64 n, .int .i64 i, .string (mkS d), .bool off] U Q := by
  apply C.law32_BlockdevArguments
  unfold W.law32_BlockdevArguments
  by_cases hn : n < 1 ∨ n > 4096
  · refine new_bad hn ⟨_, _, rfl, ?_⟩
    refine br_of (fun h => ?_) (fun h => ?_)
    · simp only [decide_eq_true_eq] at h
      rw [decide_eq_false (by omega), show (!(((1 : Int) == 0) == false)) = false from rfl, br_false, show ((1 : Int) != 0) = true from rfl, br_true, show ((1 : Int) != 1) = false from rfl, br_false]
      refine ne_nil (fb ?_)
      rw [Option.isNone_none, Bool.not_true, br_false]
      exact arguments_k4 (Ext.refl _ _) hQ
    · rw [show (!(((1 : Int) == 0) == false)) = false from rfl, br_false, show ((1 : Int) != 0) = true from rfl, br_true, show ((1 : Int) != 1) = false from rfl, br_false]
      refine ne_nil (fb ?_)
      rw [Option.isNone_none, Bool.not_true, br_false]
      exact arguments_k4 (Ext.refl _ _) hQ
  · obtain ⟨m, rfl⟩ := nat_of (show 0 ≤ n by omega)
    refine new_c (by omega) (by omega) fun p w1 h1 e1 => ⟨_, _, rfl, ?_⟩
    rw [decide_eq_true (by omega), br_true, decide_eq_true (by omega), show (!(((0 : Int) == 0) == true)) = false from rfl, br_false, show ((0 : Int) != 0) = false from rfl, br_false]
    exact arguments_k4 e1 hQ

/-- Two things of a law's own. -/
structure Duo (U w : World) (A B : World → (Nat → Prop) → Prop) (F G : Nat → Prop) : Prop where
  a : A w F
  b : B w G
  f : ∀ b, F b → U.heap.size ≤ b ∧ b < w.heap.size
  g : ∀ b, G b → U.heap.size ≤ b ∧ b < w.heap.size
  ne : ∀ b, F b → ¬ G b
  e : Ext U w (fun _ => False)
theorem Duo.left {w' : World} {A A' B : World → (Nat → Prop) → Prop} {F F' G : Nat → Prop} (h : Duo U w A B F G) (ha : A' w' (fun b => F' b ∧ b < w'.heap.size)) (he : Ext w w' F) (hF : ∀ b, F' b → F b ∨ w.heap.size ≤ b) (hb : B w' G) : Duo U w' A' B (fun b => F' b ∧ b < w'.heap.size) G :=
  ⟨ha, hb, fun b hb => ⟨by rcases hF b hb.1 with hx | hx; exact (h.f b hx).1; have := h.e.size; omega, hb.2⟩, fun b hb => ⟨(h.g b hb).1, Nat.lt_of_lt_of_le (h.g b hb).2 he.size⟩, fun b hb hg => by
    rcases hF b hb.1 with hx | hx
    · exact h.ne b hx hg
    · have := (h.g b hg).2; omega, h.e.trans he (fun _ _ h => h) (fun b hb hx => by have := (h.f b hx).1; omega)⟩
theorem Duo.right {w' : World} {A B B' : World → (Nat → Prop) → Prop} {F G G' : Nat → Prop} (h : Duo U w A B F G) (hb : B' w' (fun b => G' b ∧ b < w'.heap.size)) (he : Ext w w' G) (hG : ∀ b, G' b → G b ∨ w.heap.size ≤ b) (ha : A w' F) : Duo U w' A B' F (fun b => G' b ∧ b < w'.heap.size) :=
  ⟨ha, hb, fun b hb => ⟨(h.f b hb).1, Nat.lt_of_lt_of_le (h.f b hb).2 he.size⟩, fun b hb => ⟨by rcases hG b hb.1 with hx | hx; exact (h.g b hx).1; have := h.e.size; omega, hb.2⟩, fun b hf hb => by
    rcases hG b hb.1 with hx | hx
    · exact h.ne b hf hx
    · have := (h.f b hf).2; omega, h.e.trans he (fun _ _ h => h) (fun b hb hx => by have := (h.g b hx).1; omega)⟩
theorem Duo.same {w' : World} {A B : World → (Nat → Prop) → Prop} {F G : Nat → Prop} (h : Duo U w A B F G) (e : Ext w w' (fun _ => False)) (ha : A w' F) (hb : B w' G) : Duo U w' A B F G :=
  ⟨ha, hb, fun b hb => ⟨(h.f b hb).1, Nat.lt_of_lt_of_le (h.f b hb).2 e.size⟩, fun b hb => ⟨(h.g b hb).1, Nat.lt_of_lt_of_le (h.g b hb).2 e.size⟩, h.ne, h.e.tr e⟩

/-- The program's disk and the reference's, in one state. -/
abbrev PR (U w : World) (p q : Nat) (s : St) (F G : Nat → Prop) : Prop := Duo U w (fun w F => Dk w p s F) (fun w G => Rk w q s G) F G
theorem size_of {n : Int} : ∃ k : Nat, IntKind.wrap .i64 (1 + modv n 5) = (k : Int) ∧ 1 ≤ k ∧ k ≤ 5 := by
  have := modv_bd (v := n) (n := 5) (by omega)
  exact ⟨(1 + modv n 5).toNat, by rw [wrap_i64 (by omega) (by omega)]; omega, by omega, by omega⟩

theorem callsAgree_c {n : Int} {l : Option Addr} {ln lc : Nat} {cs : List Cl} (hC : Cin U l ln cs) (hQ : ∀ w', Ext U w' (fun _ => False) → Q (.bool true) w') : CallE Try.prog 8 #[.int .i64 n, .slice l ln lc] U Q := by
  apply C.law32_BlockdevCallsAgree
  unfold W.law32_BlockdevCallsAgree
  refine br_of (fun _ => awake_fin hQ (Ext.refl _ _)) (fun h60 => ?_)
  simp only [decide_eq_false_iff_not] at h60
  refine mod_c (by omega) (by omega) (fi ?_)
  obtain ⟨k, hk, hk1, hk5⟩ := size_of (n := n)
  rw [hk]
  refine new_c hk1 (by omega) fun p w1 h1 e1 => ⟨_, _, rfl, ?_⟩
  refine rnew_c hk1 (by omega) fun q w2 h2 e2 => ⟨_, _, rfl, ?_⟩
  rw [show ((0 : Int) != 0) = false from rfl, br_false, br_false]
  refine eq_nil (fb ?_)
  rw [Option.isNone_some, br_false]
  have hs1 := e1.size
  have d0 : PR U w2 p q (new k) (fun b => U.heap.size ≤ b ∧ b < w1.heap.size) (fun b => w1.heap.size ≤ b ∧ b < w2.heap.size) :=
    ⟨(h1.tight).ext e2 (fun _ _ h => h), h2.tight, fun b hb => ⟨hb.1, by have := e2.size; omega⟩, fun b hb => ⟨by omega, hb.2⟩, fun b hb hg => by omega, e1.tr e2⟩
  refine LoopW.nat ln (fun i x w' => x = ((i : Int), ()) ∧ ∃ s F G, Ok k i s ∧ PR U w' p q s F G) ⟨rfl, new k, _, _, ok_new k, d0⟩ ?_
  rintro i x w3 next hi ⟨rfl, s, F, G, hok, d3⟩ hnext
  dsimp only
  by_cases hlt : i < ln
  case neg =>
    rw [decide_eq_false (by omega), br_false]
    unfold W.law32_BlockdevCallsAgree_k15
    exact awake_fin hQ d3.e
  rw [decide_eq_true (by omega), br_true]
  have hic : i < cs.length := by rw [hC.n]; exact hlt
  have hok' := hok.le (show i ≤ 1000000 by omega)
  obtain ⟨lp, rfl⟩ := hC.ptr (by omega)
  have hKc := hC.k cs[i] (List.getElem_mem hic)
  refine ixs i 5 37 hlt ?_
  refine rdG (f := Cl.cells) i hic (hC.ext d3.e).r (fun _ => rfl) (by omega) (fg ?_)
  have hFU : ∀ b, F b → U.heap.size ≤ b := fun b hb => (d3.f b hb).1
  refine do_c (c := cs[i]) d3.a (fun b hb => (d3.f b hb).2) hok' (by omega) (by omega) (hKc.ext d3.e) (fun r hr hne hF => by have := hKc.lt r hr hne; have := hFU _ hF; omega) fun w4 F4 h4 e4 hF4 => ⟨_, _, rfl, ?_⟩
  have d4 := d3.left (A' := fun w F => Dk w p (doS s cs[i] k).1 F) h4.tight e4 hF4 (d3.b.ext e4 (fun b hb hx => d3.ne b hx hb))
  refine ixs i 5 37 hlt ?_
  refine rdG (f := Cl.cells) i hic (hC.ext d4.e).r (fun _ => rfl) (by omega) (fg ?_)
  refine want_c (c := cs[i]) d4.b (fun b hb => (d4.g b hb).2) hok' (by omega) (by omega) (hKc.ext d4.e) (fun r hr hne hF => by have := hKc.lt r hr hne; have := (d4.g _ hF).1; omega) fun w5 G5 h5 e5 hG5 => ⟨_, _, rfl, ?_⟩
  have d5 := d4.right (B' := fun w G => Rk w q (doS s cs[i] k).1 G) h5.tight e5 hG5 (Dk.ext (w := w4) d4.a e5 (fun b hb hx => d4.ne b hb hx))
  have ok5 := hok.doS cs[i] k
  have ok5' := ok5.le (show i + 1 ≤ 1000000 by omega)
  refine qB s_ne ?_
  rw [decide_eq_true rfl, Bool.not_true, br_false, bne_self_eq_false, br_false]
  refine pending_c d5.a (fi ?_)
  refine rpending_c d5.b (fi ?_)
  rw [bne_self_eq_false, br_false]
  refine size_c d5.a (fi ?_)
  rw [ok5.len, bne_self_eq_false, br_false]
  refine contents_c d5.a ok5' (by omega) fun a1 c1 w6 s6 hn6 e6 => fs ?_
  have b6 := d5.b.ext e6 (fun _ _ h => h)
  refine rcontents_c b6 ok5' (by omega) fun a2 c2 w7 s7 hn7 e7 => fs ?_
  have s67 := s6.ext e7 (fun _ _ h => h)
  refine equal_c s67.reads s7.reads ok5.len ok5.len (by omega) fun w8 e8 => fb ?_
  rw [decide_eq_true rfl, Bool.not_true, br_false, inc_nat (by omega)]
  have e58 := (e6.tr e7).tr e8
  exact hnext hlt _ _ ⟨rfl, _, _, _, ok5, d5.same e58 (d5.a.ext e58 (fun _ _ h => h)) (d5.b.ext e58 (fun _ _ h => h))⟩
end
end Go.Proofs.Ytgnmbenhpjkbfaa.Bd
