/-
  The statement HibernateFreezerAgrees over the code. No condition beyond those stated.
-/
import Derived.Test.YtpinpccamfhofaaHiQ
set_option linter.unusedVariables false
set_option linter.unusedSimpArgs false
set_option maxRecDepth 100000
namespace Go.Proofs.Ytpinpccamfhofaa.Hi
open Go Go.Ev Go.Proofs Go.Proofs.Ytpinpccamfhofaa.Im Go.ChangeShapes Go.WideShapes Go.ChangeAt Go.RowKit

/-- A call on a freezer. -/
structure Fr where
  kind : Int
  pr : Int
  wait : Nat
  len : Nat
  raw : Bool
instance : Inhabited Fr := ⟨⟨0, 0, 0, 0, false⟩⟩
def frC (c : Fr) : List Value := [.int .i64 c.kind, .int .i64 c.pr, .int .u64 (c.wait : Int), .int .u64 (c.len : Int), .bool c.raw]
theorem frC_len (c : Fr) : (frC c).length = 5 := rfl
section
variable {H : Type} {enc : TypeId × Value → H}
theorem open_frs {W : World} {v : Value} {d : DataW H} {p : List MemPlace} {r : Reach} {b0 : Nat} (hv : Value.okWide Try.prog W r b0 56 v)
    (h : DataW.Trod enc Try.prog W 0 (fun _ => true) true 56 v d p) : ∃ (l : Option Addr) (n c : Nat) (xs : List Fr), v = .slice l n c ∧ Reads W l (xs.flatMap frC) ∧ xs.length = n := by
  rcases open_sl (e := 65) (by kernel_rfl) hv h with rfl | ⟨a, len, cap, rfl, _, _, hi⟩
  · exact ⟨none, 0, 0, [], rfl, .inl rfl, rfl⟩
  · have hc5 : Try.prog.cellsOf 65 = 5 := by kernel_rfl
    rw [hc5] at hi
    obtain ⟨l, hl, hr, _, _⟩ := reads_rows (W := W) (a := a) (len := len) (m := 5) (f := frC) (R := fun _ => True) (by omega) (fun _ => rfl) (fun i hi' => by
      obtain ⟨cs', n', y, hcl, hat, hy⟩ := hi i hi'
      obtain ⟨xs, m, _, _, _, hxl, hf⟩ := DataW.trod_struct (fs := structFs Try.prog 65) (by kernel_rfl) hy
      have hs5 : (structFs Try.prog 65).size = 5 := by kernel_rfl
      rw [hs5] at hxl
      match xs, hxl with
      | [x0, x1, x2, x3, x4], _ =>
        obtain ⟨n0, h0, _, _⟩ := DataW.trod_int (k := .i64) (by kernel_rfl) (hf 0 _ rfl)
        obtain ⟨n1, h1, _, _⟩ := DataW.trod_int (k := .i64) (by kernel_rfl) (hf 1 _ rfl)
        obtain ⟨n2, h2, _, w2⟩ := DataW.trod_int (k := .u64) (by kernel_rfl) (hf 2 _ rfl)
        obtain ⟨n3, h3, _, w3⟩ := DataW.trod_int (k := .u64) (by kernel_rfl) (hf 3 _ rfl)
        obtain ⟨n4, h4, _⟩ := DataW.trod_bool (by kernel_rfl) (hf 4 _ rfl)
        obtain ⟨k2, rfl⟩ := nat_of (int_of_wf w2).1
        obtain ⟨k3, rfl⟩ := nat_of (int_of_wf w3).1
        refine ⟨⟨n0, n1, k2, k3, n4⟩, trivial, fun j hj => ?_⟩
        rw [hat j hj]
        have e0 : (cs'.drop 0).take 1 = [.int .i64 n0] := h0
        have e1 : (cs'.drop 1).take 1 = [.int .i64 n1] := h1
        have e2 : (cs'.drop 2).take 1 = [.int .u64 (k2 : Int)] := h2
        have e3 : (cs'.drop 3).take 1 = [.int .u64 (k3 : Int)] := h3
        have e4 : (cs'.drop 4).take 1 = [.bool n4] := h4
        match cs', hcl with
        | [c0, c1, c2, c3, c4], _ =>
          simp at e0 e1 e2 e3 e4
          subst e0 e1 e2 e3 e4
          rfl)
    exact ⟨some a, len, cap, l, rfl, hr, hl⟩
end

section
variable {U w : World} {Q : Value → World → Prop} {p eb q qb : Nat} {s : Fz}

theorem at_k2 {n now xb : Nat} {c : Fr} {b : Bool} (hx : At w xb (frC c) 65) (hn : b = false → 0 < n) (h6 : n ≤ 6) (hQ : ∀ (x : Int) (t u : Nat) w', Ext w w' (fun _ => False) → Q (.tuple #[.int .i64 x, .int .u64 (t : Int), .int .u64 (u : Int)]) w') :
    W.law35_Freeze_at_k2 (n : Int) (now : Int) ⟨xb, 0, none⟩ b w Q := by
  unfold W.law35_Freeze_at_k2
  simp only [add_mk, Nat.zero_add]
  refine br_of (fun _ => ?_) fun hb => ?_
  · unfold dr
    dsimp only
    refine ldI (w := drew w) hx.drew_ rfl ?_
    refine ldI (w := drew w) hx.drew_ rfl ?_
    refine ldI (w := drew w) hx.drew_ rfl ?_
    exact hQ _ _ _ _ (Ext.refl w _).drew_
  · refine ⟨fun w' => At w' xb (frC c) 65, hx.drew_, ?_⟩
    refine ldS_i (fun w h => h) rfl (fi ?_)
    refine ldS_i (fun w h => h) rfl (fi ?_)
    refine ldS_i (fun w h => h) rfl (fi ?_)
    refine ldS_i (fun w h => h) rfl (fi ?_)
    have := hn hb
    refine mod_c (by omega) (by omega) (fi ⟨hx.drew_, ?_⟩)
    rw [wrap_u64', wrap_u64']
    obtain ⟨t, ht⟩ := nat_of (show 0 ≤ ((now : Int) + Int.tmod (c.wait : Int) 8) % 18446744073709551616 by omega)
    rw [ht]
    obtain ⟨u, hu⟩ := nat_of (show 0 ≤ ((t : Int) + Int.tmod (c.len : Int) 12) % 18446744073709551616 by omega)
    rw [hu]
    exact hQ _ t u _ (Ext.refl w _).drew_
theorem at_c {n now : Nat} {c : Fr} (h6 : n ≤ 6) (hQ : ∀ (x : Int) (t u : Nat) w', Ext w w' (fun _ => False) → Q (.tuple #[.int .i64 x, .int .u64 (t : Int), .int .u64 (u : Int)]) w') :
    CallE Try.prog 31 #[.agg (frC c).toArray, .int .i64 (n : Int), .int .u64 (now : Int)] w Q := by
  apply C.law35_Freeze_at (c__0 := c.kind) (c__1 := c.pr) (c__2 := (c.wait : Int)) (c__3 := (c.len : Int)) (c__4 := c.raw)
  unfold W.law35_Freeze_at
  refine al_i fun xb w1 hxb a1 e1 z1 => ?_
  change At w1 xb (frC c) 65 at a1
  simp only [add_mk, Nat.zero_add]
  refine ldB a1 rfl ?_
  refine br_of (fun _ => at_k2 a1 (fun h => by cases h) h6 fun x t u w2 e2 => hQ x t u w2 (e1.tr e2)) fun _ => at_k2 a1 (fun h => ?_) h6 fun x t u w2 e2 => hQ x t u w2 (e1.tr e2)
  rw [beq_eq_false_iff_ne] at h
  omega

/-- Program and reference in one state. -/
structure Bo (w : World) (p eb q qb : Nat) (s : Fz) : Prop where
  f : FzAt w p eb s
  r : RfAt w q qb s
  ne : p ≠ q ∧ p ≠ qb ∧ eb ≠ q ∧ eb ≠ qb
theorem Bo.ext0 {w w' : World} (h : Bo w p eb q qb s) (e : Ext w w' (fun _ => False)) : Bo w' p eb q qb s := ⟨h.f.ext0 e, h.r.ext0 e, h.ne⟩

def newE (n : Int) : Int := if n < 0 ∨ 64 < n then 1 else 0
theorem newAny_c {n : Int} (hQ : ∀ x w', Ext w w' (fun _ => False) → Q (.tuple #[.pointer x, .int .i64 (newE n)]) w') : CallE Try.prog 29 #[.int .i64 n] w Q := by
  unfold newE at hQ
  by_cases hp : n < 0 ∨ 64 < n
  · rw [if_pos hp] at hQ
    exact newFreezer_bad hp (hQ none w (Ext.refl _ _))
  · rw [if_neg hp] at hQ
    obtain ⟨m, rfl⟩ := nat_of (show 0 ≤ n by omega)
    exact newFreezer_c (by omega) fun p eb w1 f1 _ _ e1 => hQ _ w1 e1
theorem rnewAny_c {n : Int} (hQ : ∀ x w', Ext w w' (fun _ => False) → Q (.tuple #[.pointer x, .int .i64 (newE n)]) w') : CallE Try.prog 30 #[.int .i64 n] w Q := by
  unfold newE at hQ
  by_cases hp : n < 0 ∨ 64 < n
  · rw [if_pos hp] at hQ
    exact rnewFreezer_bad hp (hQ none w (Ext.refl _ _))
  · rw [if_neg hp] at hQ
    obtain ⟨m, rfl⟩ := nat_of (show 0 ≤ n by omega)
    exact rnewFreezer_c (by omega) fun p eb w1 f1 _ _ e1 => hQ _ w1 e1

theorem freezerAgrees_k25 {l : Option Addr} {ln lc n i : Nat} {x : Int} {b : Bool} {next : (Int × Unit) → World → Prop} (h : Bo w p eb q qb s) (hn : n ≤ 6) (hi : i ≤ 1000000)
    (hnext : ∀ w', Bo w' p eb q qb s → Ext w w' (fun _ => False) → next (((i + 1 : Nat) : Int), ()) w') : W.law35_HibernateFreezerAgrees_k25 l ln lc (n : Int) (some ⟨p, 0, none⟩) (some ⟨q, 0, none⟩) (i : Int) x x b b next w Q := by
  unfold W.law35_HibernateFreezerAgrees_k25
  refine br_neg (by simp) (br_neg (by simp) ?_)
  refine LoopW.nat (n + 2) (fun j y w' => y = ((j : Int) - 1, ()) ∧ Bo w' p eb q qb s ∧ Ext w w' (fun _ => False)) ⟨rfl, h, Ext.refl _ _⟩ ?_
  rintro j y w1 nx hj ⟨rfl, h1, e1⟩ hnx
  dsimp only
  by_cases hlt : j < n + 2
  · rw [decide_eq_true (by omega), br_true]
    refine frozen_c h1.f fun w2 f2 e2 => fb ?_
    refine rfrozen_c (h1.r.ext0 e2) fun w3 f3 e3 => fb ?_
    refine br_neg (by simp) ?_
    rw [show IntKind.wrap .i64 ((j : Int) - 1 + 1) = ((j + 1 : Nat) : Int) - 1 by rw [wrap_i64 (by omega) (by omega)]; omega]
    exact hnx hlt _ _ ⟨rfl, ⟨f2.ext0 e3, f3, h1.ne⟩, (e1.tr e2).tr e3⟩
  rw [decide_eq_false (by omega), br_false, inc_nat (by omega)]
  exact hnext w1 h1 e1

theorem freezerAgrees_c {a : Option Addr} {n c : Nat} {xs : List Fr} {pro : Int} (hr : Reads w a (xs.flatMap frC)) (hn : xs.length = n) (hQ : ∀ w', Ext w w' (fun _ => False) → Q (.bool true) w') :
    CallE Try.prog 6 #[.int .i64 pro, .slice a n c] w Q := by
  apply C.law35_HibernateFreezerAgrees
  unfold W.law35_HibernateFreezerAgrees
  refine br_of (fun _ => awake_fin (Ext.refl _ _) hQ) fun hle => ?_
  have h50 : n ≤ 50 := by have := of_decide_eq_false hle; omega
  refine newAny_c fun _ w0 e0 => ⟨_, _, rfl, ?_⟩
  refine rnewAny_c fun _ w1 e1' => ⟨_, _, rfl, ?_⟩
  have e1 := e0.tr e1'
  have hmb := modv_bd (v := pro) (n := 6) (by omega)
  refine mod_c (by omega) (by omega) (fi ?_)
  obtain ⟨m, hm⟩ := nat_of hmb.1
  rw [hm] at hmb ⊢
  refine newFreezer_c (n := m) (by omega) fun p eb w2 f2 hp heb e2 => ⟨_, _, rfl, ?_⟩
  refine rnewFreezer_c (n := m) (by omega) fun q qb w3 f3 hq hqb e3 => ⟨_, _, rfl, ?_⟩
  refine br_neg (by simp) (br_neg (by simp) (br_neg rfl ?_))
  refine eq_nil (fb ?_)
  refine br_neg rfl ?_
  have hz1 := e1.size
  have hz2 := e2.size
  have lp := f2.d.lt
  have leb := f2.e.lt
  have hne : p ≠ q ∧ p ≠ qb ∧ eb ≠ q ∧ eb ≠ qb := ⟨by omega, by omega, by omega, by omega⟩
  have e03 := (e1.tr e2).tr e3
  have hU1 : ∀ {wa wb : World}, Ext w wa (fun _ => False) → Ext wa wb (fun b => b = p ∨ b = eb) → Ext w wb (fun _ => False) := fun e0 e => e0.trans e (fun _ _ h => h) (fun b hb h => by rcases h with h | h <;> omega)
  have hU2 : ∀ {wa wb : World}, Ext w wa (fun _ => False) → Ext wa wb (fun b => b = q ∨ b = qb) → Ext w wb (fun _ => False) := fun e0 e => e0.trans e (fun _ _ h => h) (fun b hb h => by rcases h with h | h <;> omega)
  subst hn
  refine LoopW.nat xs.length (fun i x w' => x = ((i : Int), ()) ∧ (∃ s, Bo w' p eb q qb s ∧ s.ends.length ≤ 1000000) ∧ Ext w w' (fun _ => False)) ⟨rfl, ⟨fz0 m, ⟨f2.ext0 e3, f3, hne⟩, by show (List.replicate m 0).length ≤ _; rw [List.length_replicate]; omega⟩, e03⟩ ?_
  rintro i x w4 next hi ⟨rfl, ⟨s, h4, hsl⟩, e4⟩ hnext
  dsimp only
  by_cases hlt : i < xs.length
  case neg =>
    rw [decide_eq_false (by omega), br_false]
    unfold W.law35_HibernateFreezerAgrees_k32
    exact awake_fin e4 hQ
  rw [decide_eq_true (by omega), br_true]
  obtain ⟨ap, rfl⟩ := hr.some_ (by rw [flat_length frC_len]; omega)
  refine ⟨fun w' => Ext w w' (fun _ => False) ∧ At w' q (rfc s qb) 69, ⟨e4.drew_, h4.r.d.drew_⟩, ?_⟩
  refine ixsS i 5 65 hlt ?_
  refine ldS_cs (vs := frC xs[i]) (fun w' h j hj => ?_) (fg ?_)
  · have hr' := hr.ext h.1 (fun _ _ _ h => h)
    rcases hr' with hh | ⟨p', hp', hh⟩
    · exfalso
      have := congrArg List.length hh
      rw [flat_length frC_len, List.length_nil] at this
      omega
    · cases hp'
      rw [frC_len] at hj
      rw [add_add_, hh _ (by rw [flat_length frC_len]; omega), flat_get frC_len xs i j hlt hj]
  simp only [nn_mk, add_mk, Nat.zero_add]
  refine ldS_i (fun _ h => h.2) rfl (fi ?_)
  refine at_c (w := drew w4) (by omega) fun x t u w5 e5 => ⟨_, _, _, rfl, ?_⟩
  have e45 : Ext w4 w5 (fun _ => False) := e5.of_drew
  have h5 := h4.ext0 e45
  have e05 := e4.tr e45
  refine ⟨⟨e05, h5.r.d⟩, ?_⟩
  refine ixs i 5 65 hlt ?_
  refine rdF (o := 0) i hlt (hr.ext e05 (fun _ _ _ h => h)) frC_len (by omega) rfl (fi ?_)
  refine mod_c (by omega) (by omega) (fi ?_)
  have fin : ∀ {wa wb : World} {s' : Fz} {cd : Int} {b : Bool}, Ext w wa (fun _ => False) → RfAt wa q qb s → FzAt wa p eb s' → Ext wa wb (fun b => b = q ∨ b = qb) → RfAt wb q qb s' → s'.ends.length = s.ends.length → W.law35_HibernateFreezerAgrees_k25 (some ap) xs.length c (m : Int) (some ⟨p, 0, none⟩) (some ⟨q, 0, none⟩) (i : Int) cd cd b b next wb Q := by
    intro wa wb s' cd b ea ra fa eab rb hl
    refine freezerAgrees_k25 ⟨fa.ext eab (by omega) (by omega), rb, hne⟩ (by omega) (by omega) fun w' h' e' => ?_
    exact hnext hlt _ _ ⟨rfl, ⟨s', h', by omega⟩, (hU2 ea eab).tr e'⟩
  have kr : ∀ {wa wb : World}, RfAt wa q qb s → Ext wa wb (fun b => b = p ∨ b = eb) → RfAt wb q qb s := fun h e => h.ext e (by omega) (by omega)
  have la : ∀ (s : Fz) (now : Nat), (adv s now).1.ends = s.ends := by
    intro s now
    unfold adv
    split
    · rfl
    split
    · rfl
    split
    · rfl
    split <;> rfl
  refine br_of (fun _ => ?_) fun _ => br_of (fun _ => ?_) fun _ => br_of (fun _ => ?_) fun _ => ?_
  · refine freeze_c h5.f hsl fun w6 f6 e6 => fi ?_
    have r6 := kr h5.r e6
    refine rfreeze_c r6 hsl fun w7 f7 e7 => fi ?_
    refine fin (hU1 e05 e6) r6 f6 e7 f7 ?_
    unfold frz
    split
    · rfl
    split
    · rfl
    · dsimp only; rw [la]
  · refine advance_c h5.f hsl fun w6 f6 e6 => ⟨_, _, rfl, ?_⟩
    have r6 := kr h5.r e6
    refine radvance_c r6 hsl fun w7 f7 e7 => ⟨_, _, rfl, ?_⟩
    refine fin (hU1 e05 e6) r6 f6 e7 f7 ?_
    rw [la]
  · refine thaw_c h5.f fun w6 f6 e6 => fi ?_
    have r6 := kr h5.r e6
    refine rthaw_c r6 fun w7 f7 e7 => fi ?_
    refine fin (hU1 e05 e6) r6 f6 e7 f7 ?_
    unfold thw
    split
    · rfl
    split <;> rfl
  · refine enter_c h5.f fun w6 f6 e6 => fi ?_
    have r6 := kr h5.r e6
    refine renter_c r6 fun w7 f7 e7 => fi ?_
    refine fin (hU1 e05 e6) r6 f6 e7 f7 ?_
    unfold ent
    split
    · rfl
    split
    · rfl
    · exact List.length_set ..
end
end Go.Proofs.Ytpinpccamfhofaa.Hi
