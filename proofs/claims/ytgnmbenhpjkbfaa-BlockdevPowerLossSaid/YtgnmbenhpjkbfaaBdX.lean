/-
  A block device: the statement BlockdevPowerLoss over the code. No condition beyond those stated.
-/
import Derived.Test.YtgnmbenhpjkbfaaBdV
namespace Go.Proofs.Ytgnmbenhpjkbfaa.Bd
open Go Go.Ev Go.Proofs Go.ChangeShapes Go.WideShapes Go.ChangeAt Go.RowKit

/-- After i writes onto the sectors S. -/
def stA (k : Nat) (S : List Sec) (cs : List Cl) (i : Nat) : St := ⟨S, (cs.take i).map (wOf k), false, none⟩
theorem stA_ok {k : Nat} (hk : 1 ≤ k) {S : List Sec} (hS : S.length = k) (cs : List Cl) (i : Nat) : Ok k i (stA k S cs i) := by
  refine ⟨hS, fun c hc => ?_, by simp [stA]; omega, by simp [stA]⟩
  simp only [stA, List.mem_map] at hc
  obtain ⟨x, _, rfl⟩ := hc
  have := modv_bd (v := x.sect) (n := (k : Int)) (by omega)
  show (modv x.sect (k : Int)).toNat < k
  omega
theorem stA_succ {k : Nat} (hk : 1 ≤ k) {S : List Sec} (hS : S.length = k) {cs : List Cl} {i : Nat} (hi : i < cs.length) : wr (stA k S cs i) (modv cs[i].sect (k : Int)) (sec cs[i].data) = (stA k S cs (i + 1), 0) := by
  have hm := modv_bd (v := cs[i].sect) (n := (k : Int)) (by omega)
  rw [wr_ok rfl rfl hm.1 (by rw [(stA_ok hk hS cs i).len]; exact hm.2) (sec_length _)]
  unfold stA
  rw [List.take_succ_eq_append_getElem hi, List.map_append]
  rfl

section
variable {U w : World} {Q : Value → World → Prop}

theorem powerLoss_k33 {l oa na : Option Addr} {ln lc k p oc nc : Nat} {cs : List Cl} {S : List Sec} {kl : List Bool} {F : Nat → Prop} (hC : Cin U l ln cs) (hln : ln ≤ 40) (hk1 : 1 ≤ k) (hk5 : k ≤ 5) (hS : S.length = k)
    (o : One U w p ⟨sel (cs.map (wOf k)) kl S, [], false, none⟩ F) (ho : Reads w oa (strs S)) (hn : Reads w na (strs (sel (cs.map (wOf k)) kl S))) (hQ : ∀ w', Ext U w' (fun _ => False) → Q (.bool true) w') :
    W.law32_BlockdevPowerLoss_k33 l ln lc (k : Int) (some ⟨p, 0, none⟩) oa k oc na k nc w Q := by
  unfold W.law32_BlockdevPowerLoss_k33
  have hfrom := sel_from (cs.map (wOf k)) kl S
  have hNl : (sel (cs.map (wOf k)) kl S).length = k := by rw [sel_length, hS]
  generalize hN : sel (cs.map (wOf k)) kl S = N at *
  obtain ⟨op, rfl⟩ := ho.some_ (by rw [strs_length]; omega)
  obtain ⟨np, rfl⟩ := hn.some_ (by rw [strs_length]; omega)
  refine LoopW.nat k (fun j x w' => x = ((j : Int), ()) ∧ Ext w w' (fun _ => False)) ⟨rfl, Ext.refl _ _⟩ ?_
  rintro j x w1 next hj ⟨rfl, e1⟩ hnext
  dsimp only
  have o1 := o.same e1
  by_cases hlt : j < k
  case neg =>
    rw [decide_eq_false (by omega), br_false]
    unfold W.law32_BlockdevPowerLoss_k44
    exact awake_fin hQ o1.e
  rw [decide_eq_true (by omega), br_true]
  show dr w1 _
  unfold dr
  have e1' := e1.drew_
  refine ixs j 1 9 hlt ?_
  refine rdL (hn.ext e1' (fun _ _ _ h => h)) (by rw [Nat.mul_one]; exact strs_getD (by omega)) (ft ?_)
  refine ixs j 1 9 hlt ?_
  refine rdL (ho.ext e1' (fun _ _ _ h => h)) (by rw [Nat.mul_one]; exact strs_getD (by omega)) (ft ?_)
  refine qB s_eq ?_
  refine LoopW.nat ln (fun i x w' => ∃ f : Bool, x = (f, (i : Int), ()) ∧ (f = false → N.getD j [] ≠ S.getD j [] ∧ ∀ i', (h : i' < cs.length) → i' < i → ¬ (modv cs[i'].sect (k : Int) = (j : Int) ∧ N.getD j [] = sec cs[i'].data)) ∧ Ext w w' (fun _ => False)) ⟨_, rfl, fun hf => ⟨of_decide_eq_false hf, fun i' _ h => by omega⟩, e1'⟩ ?_
  rintro i x w2 nxt hi ⟨f, rfl, hf, e2⟩ hnxt
  dsimp only
  have o2 := o.same e2
  by_cases hil : i < ln
  case neg =>
    rw [decide_eq_false (by omega), br_false]
    unfold W.law32_BlockdevPowerLoss_k41
    refine read_c o2.d ⟨_, _, rfl, ?_⟩
    have hft : f = true := by
      cases hff : f with
      | true => rfl
      | false =>
        exfalso
        obtain ⟨h1, h2⟩ := hf hff
        have hNj : N[j]? = some (N.getD j []) := by rw [List.getD_eq_getElem?_getD, List.getElem?_eq_getElem (by omega)]; rfl
        have hSj : S[j]? = some (S.getD j []) := by rw [List.getD_eq_getElem?_getD, List.getElem?_eq_getElem (by omega)]; rfl
        rcases hfrom j with h | ⟨i', hi', h3, h4⟩
        · rw [hNj, hSj] at h
          exact h1 (Option.some.inj h)
        · rw [List.length_map] at hi'
          rw [List.getElem_map] at h3 h4
          rw [hNj] at h4
          have hm := modv_bd (v := cs[i'].sect) (n := (k : Int)) (by omega)
          refine h2 i' hi' (by have := hC.n; omega) ⟨?_, Option.some.inj h4⟩
          have h5 : (modv cs[i'].sect (k : Int)).toNat = j := h3
          omega
    rw [hft, Bool.not_true, br_false]
    have hr : rd ⟨N, [], false, none⟩ (j : Int) = (N.getD j [], 0) := by
      unfold rd
      rw [if_neg (by show ¬ ((j : Int) < 0 ∨ (N.length : Int) ≤ (j : Int)); omega), if_neg (by simp), Int.toNat_natCast]
      rfl
    rw [hr]
    dsimp only
    rw [show ((0 : Int) != 0) = false from rfl, br_false]
    refine ixs j 1 9 hlt ?_
    refine rdL (hn.ext e2 (fun _ _ _ h => h)) (by rw [Nat.mul_one]; exact strs_getD (by omega)) (ft ?_)
    refine qB s_ne ?_
    rw [decide_eq_true rfl, Bool.not_true, br_false, inc_nat (by omega)]
    exact hnext hlt _ _ ⟨rfl, e2⟩
  rw [decide_eq_true (by omega), br_true, inc_nat (by omega)]
  have hic : i < cs.length := by rw [hC.n]; exact hil
  obtain ⟨lp, rfl⟩ := hC.ptr (by omega)
  refine ⟨fun w' => Ext w w' (fun _ => False), e2.drew_, ?_⟩
  cases hff : f with
  | true =>
    rw [br_true]
    exact ⟨e2.drew_, e2.drew_, hnxt hil _ _ ⟨true, rfl, by simp, e2.drew_⟩⟩
  | false =>
    rw [br_false]
    obtain ⟨h1, h2⟩ := hf hff
    refine ixsS i 5 37 hil ?_
    refine rdFS (f := Cl.cells) i hic (fun w' hw' => (hC.ext (o.e.tr hw')).r) (fun _ => rfl) (by omega) rfl (fi ?_)
    refine mod_c (by omega) (by omega) (fi ⟨e2.drew_, ?_⟩)
    by_cases hmj : modv cs[i].sect (k : Int) = (j : Int)
    · rw [show (modv cs[i].sect (k : Int) == (j : Int)) = true by rw [beq_iff_eq]; exact hmj, br_true]
      refine ixsS j 1 9 hlt ?_
      refine ⟨.string (mkS (N.getD j [])), fun w' hw' => ?_, ft ?_⟩
      · rcases hn.ext hw' (fun _ _ _ h => h) with hx | ⟨np', hp', hc'⟩
        · exfalso
          have := congrArg List.length hx
          rw [strs_length, List.length_nil] at this
          omega
        · cases hp'
          refine run_loadVar (by kernel_rfl) ?_
          rw [Nat.mul_one, hc' j (by rw [strs_length]; omega), strs_getD (by omega)]
      refine ixsS i 5 37 hil ?_
      refine rdFS (f := Cl.cells) i hic (fun w' hw' => (hC.ext (o.e.tr hw')).r) (fun _ => rfl) (by omega) rfl (fi ?_)
      refine sector_c fun w3 e3 => ft ?_
      have e3' := e2.drew_.tr e3
      refine ⟨e3', ?_⟩
      refine qSB s_eq ?_
      refine hnxt hil _ _ ⟨_, rfl, fun hd => ⟨h1, fun i' hi' hlt' hx => ?_⟩, e3'⟩
      by_cases hii : i' = i
      · subst hii
        exact of_decide_eq_false hd hx.2
      · exact h2 i' hi' (by omega) hx
    · rw [show (modv cs[i].sect (k : Int) == (j : Int)) = false by rw [beq_eq_false_iff_ne]; exact hmj, br_false]
      refine ⟨e2.drew_, hnxt hil _ _ ⟨false, rfl, fun _ => ⟨h1, fun i' hi' hlt' hx => ?_⟩, e2.drew_⟩⟩
      by_cases hii : i' = i
      · subst hii
        exact hmj hx.1
      · exact h2 i' hi' (by omega) hx

theorem powerLoss_k28 {l oa la ka : Option Addr} {ln lc k p oc lac kn kc : Nat} {cs : List Cl} {S : List Sec} {kl : List Bool} {F : Nat → Prop} {fa fn : Bool} (hC : Cin U l ln cs) (hK : KOk U ka kn kl) (hln : ln ≤ 40) (hk1 : 1 ≤ k) (hk5 : k ≤ 5) (hS : S.length = k)
    (o : One U w p (stA k S cs ln) F) (ho : Reads w oa (strs S)) (hoF : ∀ q : Addr, oa = some q → ¬ F q.block) (hl : Reads w la (strs (all (cs.map (wOf k)) S))) (hlF : ∀ q : Addr, la = some q → ¬ F q.block)
    (hfa : fa = true → ∀ j, j < ln → kl.getD j false = true) (hfn : fn = true → ∀ j, j < ln → kl.getD j false = false) (hQ : ∀ w', Ext U w' (fun _ => False) → Q (.bool true) w') :
    W.law32_BlockdevPowerLoss_k28 l ln lc ka kn kc (k : Int) (some ⟨p, 0, none⟩) oa k oc la k lac fa fn w Q := by
  unfold W.law32_BlockdevPowerLoss_k28
  have hok := (stA_ok hk1 hS cs ln).le (show ln ≤ 1000000 by omega)
  have hK1 := hK.ext o.e
  refine powerOff_c o.d hok hK1.r hK1.n (hK.apart o) fun w1 h1 e1 => fi ?_
  have o1 := o.stay h1 e1
  have htk : cs.take ln = cs := List.take_of_length_le (by rw [hC.n]; omega)
  have hp : pOff (stA k S cs ln) kl = (⟨sel (cs.map (wOf k)) kl S, [], true, none⟩, 0) := by
    unfold pOff lose stA
    rw [htk]
    rfl
  rw [hp] at o1 ⊢
  dsimp only at o1 ⊢
  rw [show ((0 : Int) != 0) = false from rfl, br_false]
  refine powerOn_c o1.d fun w2 h2 e2 => fi ?_
  have o2 := o1.stay h2 e2
  rw [show pOn ⟨sel (cs.map (wOf k)) kl S, [], true, none⟩ = (⟨sel (cs.map (wOf k)) kl S, [], false, none⟩, 0) from rfl] at o2 ⊢
  dsimp only at o2 ⊢
  rw [show ((0 : Int) != 0) = false from rfl, br_false]
  have ok2 : Ok k 1000000 ⟨sel (cs.map (wOf k)) kl S, [], false, none⟩ := ⟨by rw [sel_length, hS], by simp, by simp, by simp⟩
  refine contents_c o2.d ok2 (by omega) fun na nc w3 s3 hn3 e3 => fs ?_
  rw [bne_self_eq_false, br_false]
  have o3 := o2.same e3
  have e02 : Ext w w2 F := e1.tr e2
  have ho3 : Reads w3 oa (strs S) := (ho.ext e02 (fun q hq _ => hoF q hq)).ext e3 (fun _ _ _ h => h)
  have hl3 : Reads w3 la (strs (all (cs.map (wOf k)) S)) := (hl.ext e02 (fun q hq _ => hlF q hq)).ext e3 (fun _ _ _ h => h)
  have hN := ok2.len
  have fin : ∀ w', Ext w3 w' (fun _ => False) → W.law32_BlockdevPowerLoss_k33 l ln lc (k : Int) (some ⟨p, 0, none⟩) oa k oc na k nc w' Q := fun w' e' =>
    powerLoss_k33 hC hln hk1 hk5 hS (o3.same e') (ho3.ext e' (fun _ _ _ h => h)) (s3.reads.ext e' (fun _ _ _ h => h)) hQ
  have second : ∀ w', Ext w3 w' (fun _ => False) → br fn (CallE Try.prog 18 #[.slice na k nc, .slice oa k oc] w' fun v w'' => fB v fun b => br (!b) (Q (.bool false) w'') (W.law32_BlockdevPowerLoss_k33 l ln lc (k : Int) (some ⟨p, 0, none⟩) oa k oc na k nc w'' Q)) (W.law32_BlockdevPowerLoss_k33 l ln lc (k : Int) (some ⟨p, 0, none⟩) oa k oc na k nc w' Q) := by
    intro w' e'
    refine br_of (fun hf => ?_) (fun _ => fin w' e')
    refine equal_c (s3.reads.ext e' (fun _ _ _ h => h)) (ho3.ext e' (fun _ _ _ h => h)) hN hS (by omega) fun w'' e'' => fb ?_
    rw [decide_eq_true (sel_none _ _ _ (fun i hi => hfn hf i (by rw [List.length_map, hC.n] at hi; exact hi))), Bool.not_true, br_false]
    exact fin w'' (e'.tr e'')
  refine br_of (fun hf => ?_) (fun _ => second w3 (Ext.refl _ _))
  refine equal_c s3.reads hl3 hN (by rw [all_length, hS]) (by omega) fun w4 e4 => fb ?_
  rw [decide_eq_true (sel_all _ _ _ (fun i hi => hfa hf i (by rw [List.length_map, hC.n] at hi; exact hi))), Bool.not_true, br_false]
  exact second w4 e4

theorem powerLoss_k12 {l ka : Option Addr} {ln lc k p kn kc : Nat} {cs : List Cl} {kl : List Bool} {F : Nat → Prop} {s : St} (hC : Cin U l ln cs) (hK : KOk U ka kn kl) (hln : ln ≤ 40) (hk1 : 1 ≤ k) (hk5 : k ≤ 5)
    (o : One U w p s F) (hok : Ok k 1000000 s) (hpl : s.plan = none) (hon : s.off = false) (hQ : ∀ w', Ext U w' (fun _ => False) → Q (.bool true) w') :
    W.law32_BlockdevPowerLoss_k12 l ln lc ka kn kc (k : Int) (some ⟨p, 0, none⟩) w Q := by
  unfold W.law32_BlockdevPowerLoss_k12
  refine flush_c o.d hok fun w1 h1 e1 => fi ?_
  have o1 := o.stay h1 e1
  have hf : fl s = (⟨all s.C s.S, [], false, none⟩, 0) := by unfold fl; rw [if_neg (by simp [hon]), hon, hpl]
  have ok1 := hok.fl
  rw [hf] at o1 ok1 ⊢
  dsimp only at o1 ok1 ⊢
  rw [show ((0 : Int) != 0) = false from rfl, br_false]
  have hS := ok1.len
  dsimp only at hS
  generalize all s.C s.S = S at *
  refine contents_c o1.d ok1 (by omega) fun oa oc w2 s2 hn2 e2 => fs ?_
  rw [bne_self_eq_false, br_false]
  refine al_i fun xb w3 hxb a3 e3 z3 => ?_
  have s23 := s2.ext e3 (fun _ _ h => h)
  refine ap_i 9 1 (n := 0) (c := 0) (xs := []) (vs := strs S) (.inr ⟨xb, [], rfl, a3, rfl, rfl, Nat.le_refl _⟩) s23.reads (by rw [strs_length, hS, Nat.mul_one]) (strs_one _) (by omega) fun la lac w4 s4 hor _ e4 => fs ?_
  rw [Nat.zero_add] at *
  rw [List.nil_append] at s4
  have e24 : Ext w2 w4 (fun _ => False) := e3.trans e4 (fun _ _ h => h) (fun b hb hx => by have := slb hx; omega)
  have o4 := (o1.same e2).same e24
  obtain ⟨lb, rfl⟩ := s4.one_block (by omega)
  obtain ⟨ob, rfl⟩ := s2.one_block (by omega)
  have hob := hn2 ob rfl
  have hs2 := e2.size
  have hoblt := s2.lt
  have hlb : w2.heap.size ≤ lb := by
    rcases hor lb rfl with hx | hx
    · have := slb hx; omega
    · omega
  have hs1 := o1.e.size
  have s2' : Sl w4 9 1 (some ⟨ob, 0, none⟩) k oc (strs S) := s2.ext e24 (fun _ _ h => h)
  refine LoopW.nat ln (fun i x w' => ∃ (fa fn : Bool), x = (fa, fn, (i : Int), ()) ∧ ∃ F, One U w' p (stA k S cs i) F ∧ ¬ F ob ∧ ¬ F lb ∧ Sl w' 9 1 (some ⟨ob, 0, none⟩) k oc (strs S) ∧ Sl w' 9 1 (some ⟨lb, 0, none⟩) k lac (strs (all ((cs.take i).map (wOf k)) S)) ∧ (fa = true → ∀ j, j < i → kl.getD j false = true) ∧ (fn = true → ∀ j, j < i → kl.getD j false = false))
    ⟨true, true, rfl, F, o4, fun hx => by have := (o1.f ob hx).2; omega, fun hx => by have := (o1.f lb hx).2; omega, s2', s4, fun _ j hj => by omega, fun _ j hj => by omega⟩ ?_
  rintro i x w5 next hi ⟨fa, fn, rfl, F5, o5, hF1, hF2, s5o, s5l, hfa, hfn⟩ hnext
  dsimp only
  by_cases hlt : i < ln
  case neg =>
    rw [decide_eq_false (by omega), br_false]
    obtain rfl : i = ln := by omega
    have htk : cs.take i = cs := List.take_of_length_le (by rw [hC.n]; omega)
    rw [htk] at s5l
    exact powerLoss_k28 hC hK hln hk1 hk5 hS o5 s5o.reads (fun q hq hx => by cases hq; exact hF1 hx) s5l.reads (fun q hq hx => by cases hq; exact hF2 hx) hfa hfn hQ
  rw [decide_eq_true (by omega), br_true]
  have hic : i < cs.length := by rw [hC.n]; exact hlt
  obtain ⟨lp, rfl⟩ := hC.ptr (by omega)
  refine ixs i 5 37 hlt ?_
  refine rdF (f := Cl.cells) i hic (hC.ext o5.e).r (fun _ => rfl) (by omega) rfl (fi ?_)
  refine mod_c (by omega) (by omega) (fi ?_)
  have hm := modv_bd (v := cs[i].sect) (n := (k : Int)) (by omega)
  refine ixs i 5 37 hlt ?_
  refine rdF (f := Cl.cells) i hic (hC.ext o5.e).r (fun _ => rfl) (by omega) rfl (fi ?_)
  refine sector_c fun w6 e6 => ft ?_
  have o6 := o5.same e6
  have hok5 := (stA_ok hk1 hS cs i).le (show i ≤ 1000000 by omega)
  refine write_c o6.d hok5 fun w7 F7 h7 e7 hF7 => fi ?_
  rw [stA_succ hk1 hS hic] at h7 ⊢
  have o7 := o6.step h7 e7 hF7
  dsimp only at o7 ⊢
  rw [show ((0 : Int) != 0) = false from rfl, br_false]
  refine ixs i 5 37 hlt ?_
  refine rdF (f := Cl.cells) i hic (hC.ext o7.e).r (fun _ => rfl) (by omega) rfl (fi ?_)
  refine sector_c fun w8 e8 => ft ?_
  have o8 := o7.same e8
  obtain ⟨at_, hat⟩ := nat_of hm.1
  have hwof : wOf k cs[i] = (at_, sec cs[i].data) := by unfold wOf; rw [hat, Int.toNat_natCast]
  rw [hat] at hm ⊢
  have s8l : Sl w8 9 1 (some ⟨lb, 0, none⟩) k lac (strs (all ((cs.take i).map (wOf k)) S)) := ((s5l.ext e6 (fun _ _ h => h)).ext e7 (fun b hb hx => hF2 (slb hb ▸ hx))).ext e8 (fun _ _ h => h)
  have s8o : Sl w8 9 1 (some ⟨ob, 0, none⟩) k oc (strs S) := ((s5o.ext e6 (fun _ _ h => h)).ext e7 (fun b hb hx => hF1 (slb hb ▸ hx))).ext e8 (fun _ _ h => h)
  refine ixb at_ 1 9 (by omega) ?_
  refine slS s8l (by rw [strs_length, all_length, hS]; omega) fun w9 s9 e9 z9 => ?_
  have hlist : all ((cs.take (i + 1)).map (wOf k)) S = (all ((cs.take i).map (wOf k)) S).set at_ (sec cs[i].data) := by
    rw [List.take_succ_eq_append_getElem hic, List.map_append, List.map_singleton, all_snoc, hwof]
  rw [strs_set, Nat.mul_one, ← hlist] at s9
  have hs6 := e6.size
  have hlb5 := s5l.lt
  have hob5 := s5o.lt
  have hn1 : ¬ (F7 ob ∧ ob < w7.heap.size) := fun hx => by
    rcases hF7 ob hx.1 with hy | hy
    · exact hF1 hy
    · omega
  have hn2' : ¬ (F7 lb ∧ lb < w7.heap.size) := fun hx => by
    rcases hF7 lb hx.1 with hy | hy
    · exact hF2 hy
    · omega
  have hne : ob ≠ lb := by omega
  have o9 : One U w9 p (stA k S cs (i + 1)) (fun b => F7 b ∧ b < w7.heap.size) :=
    ⟨o8.d.ext e9 (fun b hb hx => hn2' (hx ▸ hb)), fun b hb => by rw [z9]; exact o8.f b hb, o8.e.trans e9 (fun _ _ h => h) (fun b hb hx => by omega)⟩
  have s9o := s8o.ext e9 (fun b hb hx => hne ((slb hb).trans hx))
  have hKr : Reads w9 ka (bls kl) := (hK.ext o9.e).r
  have hkn := hK.n
  rw [inc_nat (by omega)]
  have go : ∀ (fa' fn' : Bool), (fa' = true → fa = true ∧ kl.getD i false = true) → (fn' = true → fn = true ∧ kl.getD i false = false) → next (fa', fn', ((i + 1 : Nat) : Int), ()) w9 := by
    intro fa' fn' ha hb
    refine hnext hlt _ _ ⟨fa', fn', rfl, _, o9, hn1, hn2', s9o, s9, fun h j hj => ?_, fun h j hj => ?_⟩
    · by_cases hji : j = i
      · subst hji; exact (ha h).2
      · exact hfa (ha h).1 j (by omega)
    · by_cases hji : j = i
      · subst hji; exact (hb h).2
      · exact hfn (hb h).1 j (by omega)
  have out : ¬ i < kn → kl.getD i false = false := fun h => by rw [List.getD_eq_getElem?_getD, List.getElem?_eq_none (by omega)]; rfl
  have rdk : ∀ (K : Bool → Prop), i < kn → K (kl.getD i false) → rq Try.prog (Instr.indexAt 31 (.slice ka kn kc) (.int .i64 (i : Int))) w9 fun v => fA v fun a => ld Try.prog 4 a w9 fun v => fB v K := by
    intro K hik hK'
    obtain ⟨q, rfl⟩ := hKr.some_ (by rw [bls_length]; omega)
    refine ixs i 1 4 hik ?_
    exact rdL hKr (by rw [Nat.mul_one]; exact bls_getD (by omega)) (fb hK')
  have nn2 : ∀ fa' : Bool, (fa' = true → fa = true ∧ kl.getD i false = true) → br fn (br (decide ((i : Int) ≥ ((kn : Nat) : Int))) (next (fa', true, ((i + 1 : Nat) : Int), ()) w9) (rq Try.prog (Instr.indexAt 31 (.slice ka kn kc) (.int .i64 (i : Int))) w9 fun v => fA v fun a => ld Try.prog 4 a w9 fun v => fB v fun b => next (fa', (!b), ((i + 1 : Nat) : Int), ()) w9)) (next (fa', false, ((i + 1 : Nat) : Int), ()) w9) := by
    intro fa' ha
    refine br_of (fun hfn' => br_of (fun hge => ?_) (fun hge => ?_)) (fun _ => go fa' false ha (by simp))
    · simp only [decide_eq_true_eq] at hge
      exact go fa' true ha (fun _ => ⟨hfn', out (by omega)⟩)
    · simp only [decide_eq_false_iff_not] at hge
      refine rdk _ (by omega) ?_
      exact go fa' _ ha (fun h => ⟨hfn', by simpa using h⟩)
  refine br_of (fun hfat => br_of (fun hik => ?_) (fun hik => ?_)) (fun _ => nn2 false (by simp))
  · simp only [decide_eq_true_eq] at hik
    refine rdk _ (by omega) ?_
    exact nn2 _ (fun h => ⟨hfat, h⟩)
  · exact nn2 false (by simp)

theorem powerLoss_c {n : Int} {bl l ka : Option Addr} {bn bc ln lc kn kc : Nat} {bs cs : List Cl} {kl : List Bool} (hB : Cin U bl bn bs) (hC : Cin U l ln cs) (hK : KOk U ka kn kl) (hQ : ∀ w', Ext U w' (fun _ => False) → Q (.bool true) w') :
    CallE Try.prog 6 #[.int .i64 n, .slice bl bn bc, .slice l ln lc, .slice ka kn kc] U Q := by
  apply C.law32_BlockdevPowerLoss
  unfold W.law32_BlockdevPowerLoss
  have key : ∀ b : Bool, (b = false → bn ≤ 40 ∧ ln ≤ 40) → W.law32_BlockdevPowerLoss_k2 n bl bn bc l ln lc ka kn kc b U Q := by
    intro b hb
    unfold W.law32_BlockdevPowerLoss_k2
    refine br_of (fun _ => awake_fin hQ (Ext.refl _ _)) (fun hbf => ?_)
    obtain ⟨hbn, hln⟩ := hb hbf
    refine mod_c (by omega) (by omega) (fi ?_)
    obtain ⟨k, hk, hk1, hk5⟩ := size_of (n := n)
    rw [hk]
    refine new_c hk1 (by omega) fun p w1 h1 e1 => ⟨_, _, rfl, ?_⟩
    have o1 := One.new h1 (Ext.refl U _) e1
    rw [show ((0 : Int) != 0) = false from rfl, br_false]
    refine eq_nil (fb ?_)
    rw [Option.isNone_some, br_false]
    refine LoopW.nat bn (fun i x w' => x = ((i : Int), ()) ∧ ∃ F, One U w' p (stW k bs i) F) ⟨rfl, _, o1⟩ ?_
    rintro i x w2 next hi ⟨rfl, F, o2⟩ hnext
    dsimp only
    have hok := (stW_ok hk1 bs i).le (show i ≤ 1000000 by omega)
    by_cases hlt : i < bn
    case neg =>
      rw [decide_eq_false (by omega), br_false]
      exact powerLoss_k12 hC hK hln hk1 hk5 o2 hok rfl rfl hQ
    rw [decide_eq_true (by omega), br_true]
    have hic : i < bs.length := by rw [hB.n]; exact hlt
    obtain ⟨lp, rfl⟩ := hB.ptr (by omega)
    refine ⟨fun w' => Ext U w' (fun _ => False), o2.e.drew_, ?_⟩
    refine ixsS i 5 37 hlt ?_
    refine rdFS (f := Cl.cells) i hic (fun w' hw' => (hB.ext hw').r) (fun _ => rfl) (by omega) rfl (fi ?_)
    refine ixsS i 5 37 hlt ?_
    refine rdFS (f := Cl.cells) i hic (fun w' hw' => (hB.ext hw').r) (fun _ => rfl) (by omega) rfl (fi ?_)
    refine mod_c (by omega) (by omega) (fi ⟨o2.e.drew_, ?_⟩)
    refine sector_c fun w3 e3 => ft ?_
    have o3 := o2.same (w' := w3) e3.of_drew
    refine ⟨o3.e, ?_⟩
    refine write_c o3.d hok fun w4 F4 h4 e4 hF4 => fi ?_
    rw [stW_succ hk1 hic] at h4 ⊢
    have o4 := o3.step h4 e4 hF4
    refine ⟨o4.e, ?_⟩
    dsimp only
    rw [show ((0 : Int) != 0) = false from rfl, br_false, inc_nat (by omega)]
    exact hnext hlt _ _ ⟨rfl, _, o4⟩
  refine br_of (fun _ => key true (by simp)) (fun h1 => key _ (fun h2 => ?_))
  simp only [decide_eq_false_iff_not] at h1 h2
  omega
end
end Go.Proofs.Ytgnmbenhpjkbfaa.Bd
