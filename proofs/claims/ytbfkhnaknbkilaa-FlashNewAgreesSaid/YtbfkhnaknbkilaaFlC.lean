/-
  A flash memory: the statement FlashProgramClears over the code. No condition beyond those stated.
-/
import Derived.Test.YtbfkhnaknbkilaaFlV
namespace Go.Proofs.Ytbfkhnaknbkilaa.Fl
open Go Go.Ev Go.Proofs Go.ChangeShapes Go.WideShapes Go.ChangeAt Go.RowKit

theorem byte_eq0 (x : UInt8) : (((x.toNat : Nat) : Int) == 0) = decide (x = 0) := by
  have h := byte_ne0 x
  rw [show (((x.toNat : Nat) : Int) == 0) = !(((x.toNat : Nat) : Int) != 0) by simp [bne], h]
  by_cases hx : x = 0 <;> simp [hx]

section
variable {U w : World} {Q : Value → World → Prop}

theorem clears_k35 {was d now : Pg} {r : Int} {f : Bool} (hr : (f = false → r = 9 ∧ now = was) ∧ (f = true → r = 0 ∧ now = d)) (e : Ext U w (fun _ => False)) (hQ : ∀ w', Ext U w' (fun _ => False) → Q (.bool true) w') :
    W.law40_FlashProgramClears_k35 (mkS was) (mkS d) r (mkS now) f w Q := by
  unfold W.law40_FlashProgramClears_k35
  cases f with
  | false =>
    obtain ⟨rfl, rfl⟩ := hr.1 rfl
    rw [Bool.not_false, br_true, show ((9 : Int) == 9) = true from rfl, br_true]
    refine qB s_eq ?_
    rw [decide_eq_true rfl, br_true]
    exact awake_fin hQ e
  | true =>
    obtain ⟨rfl, rfl⟩ := hr.2 rfl
    rw [Bool.not_true, br_false, show ((0 : Int) == 0) = true from rfl, br_true]
    refine qB s_eq ?_
    rw [decide_eq_true rfl, br_true]
    exact awake_fin hQ e

theorem clears_k31 {p yb nb np en b q : Nat} {s : Fs} {F : Nat → Prop} {was d now : Pg} {r : Int} {f : Bool} {t : ByteArray} (o : One U w p s F) (hok : Ok s) (hon : s.off = false) (hnb : s.nb = nb) (hnp : s.np = np) (y : At w yb (shp nb np en) 23) (hb : b < nb) (hq : q < np) (ht : 1 < np → t = mkS (page s b ((q + 1) % np)))
    (hr : (f = false → r = 9 ∧ now = was) ∧ (f = true → r = 0 ∧ now = d)) (hQ : ∀ w', Ext U w' (fun _ => False) → Q (.bool true) w') :
    W.law40_FlashProgramClears_k31 ⟨yb, 0, none⟩ (some ⟨p, 0, none⟩) (b : Int) (q : Int) (mkS was) (mkS d) t r (mkS now) f w Q := by
  unfold W.law40_FlashProgramClears_k31
  simp only [add_mk, Nat.zero_add]
  refine ldI y rfl ?_
  have p2 := hok.p2
  by_cases h1 : 1 < np
  case neg =>
    rw [decide_eq_false (by omega), br_false]
    exact clears_k35 hr o.e hQ
  rw [decide_eq_true (by omega), br_true]
  refine ldI y rfl ?_
  rw [inc_nat (by omega)]
  refine rem_i (by omega) (fi ?_)
  rw [show Int.tmod ((q + 1 : Nat) : Int) (np : Int) = (((q + 1) % np : Nat) : Int) from rfl]
  have hm := Nat.mod_lt (q + 1) (show 0 < np by omega)
  refine read_c o.d hok ⟨_, _, rfl, ?_⟩
  rw [rd_in hon (by omega) (by omega)]
  dsimp only
  rw [ht h1]
  refine qB s_ne ?_
  rw [decide_eq_true rfl, Bool.not_true, br_false]
  exact clears_k35 hr o.e hQ

theorem clears_k22 {p yb nb np en i b q : Nat} {s : Fs} {F : Nat → Prop} {d : Pg} {t : ByteArray} (l : Lp U w p yb nb np en i s F) (hb : b < nb) (hq : q < np) (hd : d.length = 64) (ht : 1 < np → t = mkS (page s b ((q + 1) % np)))
    (hQ : ∀ w', Ext U w' (fun _ => False) → Q (.bool true) w') :
    W.law40_FlashProgramClears_k22 ⟨yb, 0, none⟩ (some ⟨p, 0, none⟩) (b : Int) (q : Int) (mkS (page s b q)) 0 (mkS d) t w Q := by
  unfold W.law40_FlashProgramClears_k22
  have hok := l.pr.ok
  have hnb := l.pr.nb; have hnp := l.pr.np
  have hbn : b < s.nb := by omega
  have hqn : q < s.np := by omega
  have hpl := hok.pagel hbn hqn
  refine program_c l.o.d hok fun w1 h1 e1 => fi ?_
  have o1 := l.o.stay h1 e1
  have hok1 := hok.prog (b : Int) (q : Int) d
  have y1 := l.y.ext e1 l.yf
  have hpr := prog_on l.pr.on l.pr.nc hbn hqn hd
  have key : ∃ s' r, prog s (b : Int) (q : Int) d = (s', r) ∧ s'.off = false ∧ s'.nb = nb ∧ s'.np = np ∧ (1 < np → page s' b ((q + 1) % np) = page s b ((q + 1) % np)) ∧ (fits (page s b q) d = false → r = 9 ∧ page s' b q = page s b q) ∧ (fits (page s b q) d = true → r = 0 ∧ page s' b q = d) := by
    by_cases hf : fits (page s b q) d = false
    · rw [if_pos hf] at hpr
      exact ⟨s, 9, hpr, l.pr.on, hnb, hnp, fun _ => rfl, fun _ => ⟨rfl, rfl⟩, fun h => by rw [hf] at h; cases h⟩
    · rw [if_neg hf] at hpr
      refine ⟨_, 0, hpr, l.pr.on, hnb, hnp, fun h1 => page_setP_ne hok hbn ?_ _, fun h => absurd h hf, fun _ => ⟨rfl, page_setP hok hbn hqn _⟩⟩
      by_cases hqq : q + 1 = np
      · rw [hqq, Nat.mod_self]; omega
      · rw [Nat.mod_eq_of_lt (by omega)]; omega
  obtain ⟨s', r, hp', k1, k2, k3, k4, k5, k6⟩ := key
  rw [hp'] at o1 hok1 ⊢
  dsimp only at o1 hok1 ⊢
  refine read_c o1.d hok1 ⟨_, _, rfl, ?_⟩
  rw [rd_in k1 (by omega) (by omega)]
  dsimp only
  rw [show ((0 : Int) != 0) = false from rfl, br_false, br_false, mkS_size, hpl, show (((64 : Nat) : Int) != 64) = false from rfl, br_false]
  refine LoopW.nat 64 (fun j x w' => (∃ f, x = (f, (j : Int), ()) ∧ (f = true ↔ ∀ i, i < j → d.getD i 0 &&& ~~~((page s b q).getD i 0) = 0)) ∧ Ext w1 w' (fun _ => False)) ⟨⟨true, rfl, by simp⟩, Ext.refl _ _⟩ ?_
  rintro j x w2 next hj ⟨⟨f, rfl, hf⟩, e2⟩ hnext
  dsimp only
  by_cases hlt : j < 64
  case neg =>
    rw [decide_eq_false (by omega), br_false]
    obtain rfl : j = 64 := by omega
    have hff : f = fits (page s b q) d := by rw [Bool.eq_iff_iff, hf, fits_upto]
    refine clears_k31 (o1.same e2) hok1 k1 k2 k3 (y1.ext e2 (fun h => h)) hb hq (fun h1 => by rw [ht h1, k4 h1]) ?_ hQ
    rw [hff]; exact ⟨k5, k6⟩
  rw [decide_eq_true (by omega), br_true]
  show dr w2 _
  unfold dr
  rw [inc_nat (by omega)]
  cases f with
  | true =>
    rw [br_true]
    refine qI (sxn j (by omega)) ?_
    refine qI (sxn j (by omega)) ?_
    rw [andNot8, byte_eq0]
    refine hnext hlt _ _ ⟨⟨_, rfl, ?_⟩, e2.drew_⟩
    rw [decide_eq_true_iff]
    have hf' := hf.1 rfl
    constructor
    · intro h i hi
      by_cases hij : i = j
      · subst hij; exact h
      · exact hf' i (by omega)
    · intro h; exact h j (by omega)
  | false =>
    rw [br_false]
    refine hnext hlt _ _ ⟨⟨_, rfl, ?_⟩, e2.drew_⟩
    constructor
    · intro h; cases h
    · intro h; exact hf.2 fun i hi => h i (by omega)

theorem clears_k17 {p xb yb nb np en i b q : Nat} {s : Fs} {F : Nat → Prop} {c : Cl} (l : Lp U w p yb nb np en i s F) (hx : At w xb c.cells 39) (hb : b < nb) (hq : q < np) (hQ : ∀ w', Ext U w' (fun _ => False) → Q (.bool true) w') :
    W.law40_FlashProgramClears_k17 ⟨xb, 0, none⟩ ⟨yb, 0, none⟩ (some ⟨p, 0, none⟩) (b : Int) (q : Int) w Q := by
  unfold W.law40_FlashProgramClears_k17
  simp only [add_mk, Nat.zero_add]
  have hok := l.pr.ok
  have hnb := l.pr.nb; have hnp := l.pr.np
  have p2 := hok.p2
  refine read_c l.o.d hok ⟨_, _, rfl, ?_⟩
  rw [rd_in l.pr.on (by omega) (by omega)]
  dsimp only
  refine ld_w hx (fg ?_)
  refine data_c (c := c) fun w1 e1 => ft ?_
  refine fill_c (c := 1) fun w2 e2 => ft ?_
  have e12 := e1.tr e2
  have l2 : Lp U w2 p yb nb np en i s F := ⟨l.o.same e12, l.pr, l.y.ext e12 (fun h => h), l.yf, l.yu⟩
  refine ldI l2.y rfl ?_
  by_cases h1 : 1 < np
  case neg =>
    rw [decide_eq_false (by omega), br_false]
    exact clears_k22 l2 hb hq (dat_length _ _) (fun h => absurd h h1) hQ
  rw [decide_eq_true (by omega), br_true]
  refine ldI l2.y rfl ?_
  rw [inc_nat (by omega)]
  refine rem_i (by omega) (fi ?_)
  rw [show Int.tmod ((q + 1 : Nat) : Int) (np : Int) = (((q + 1) % np : Nat) : Int) from rfl]
  have hm := Nat.mod_lt (q + 1) (show 0 < np by omega)
  refine read_c l2.o.d hok ⟨_, _, rfl, ?_⟩
  rw [rd_in l.pr.on (by omega) (by omega)]
  dsimp only
  exact clears_k22 l2 hb hq (dat_length _ _) (fun _ => rfl) hQ

theorem clears_c {x0 x1 x2 : Int} {l : Option Addr} {ln lc : Nat} {cs : List Cl} {c : Cl} (hC : Cin U l ln cs) (hQ : ∀ w', Ext U w' (fun _ => False) → Q (.bool true) w') :
    CallE Try.prog 4 #[.agg #[.int .i64 x0, .int .i64 x1, .int .i64 x2], .slice l ln lc, .agg #[.int .i64 c.kind, .int .i64 c.blk, .int .i64 c.pag, .int .u64 (c.data : Int), .int .u64 (c.torn : Int), .bool c.and_, .bool c.raw]] U Q := by
  apply C.law40_FlashProgramClears
  unfold W.law40_FlashProgramClears
  refine al_i fun ab w1 hab a1 e1 z1 => ?_
  refine al_i fun xb w2 hxb a2 e2 z2 => ?_
  have e12 := e1.tr e2
  refine br_of (fun _ => awake_fin hQ e12) (fun h20 => ?_)
  simp only [decide_eq_false_iff_not] at h20
  refine ld_w (a1.ext e2 (fun h => h)) (fg ?_)
  refine shape_c fun w3 e3 => fg ?_
  obtain ⟨nb, np, en, ⟨hnb, nb1, nb3⟩, ⟨hnp, np1, np3⟩, hen, en5⟩ := shape_nat x0 x1 x2
  rw [hnb, hnp, hen]
  refine al_st (vs := shp nb np en) 3 rfl (shp_one _ _ _) fun yb w4 hyb a4 e4 z4 => ?_
  refine ld_w a4 (fg ?_)
  have e14 : Ext U w4 (fun _ => False) := (e12.tr e3).tr e4
  have hs1 := e1.size; have hs2 := e12.size; have hs3 := (e12.tr e3).size; have hs3' := e3.size
  refine new_c (nb := nb) (np := np) (en := en) nb1 (by omega) np1 (by omega) (by omega) fun p w6 h6 e6 => ⟨_, _, rfl, ?_⟩
  have o6 := One.new h6 e14 e6
  rw [show ((0 : Int) != 0) = false from rfl, br_false]
  refine eq_nil (fb ?_)
  rw [Option.isNone_some, br_false]
  have hxlt := a2.lt
  have hx6 : At w6 xb c.cells 39 := ((a2.ext e3 (fun h => h)).ext e4 (fun h => h)).ext e6 (fun h => h)
  have hylt := a4.lt
  have y6 := a4.ext e6 (fun h => h)
  rw [show (⟨xb, 0, none⟩ : Addr).add 6 = ⟨xb, 6, none⟩ from rfl]
  have hxF : ¬ (w4.heap.size ≤ xb ∧ xb < w6.heap.size) := fun hx => by omega
  have hyF : ¬ (w4.heap.size ≤ yb ∧ yb < w6.heap.size) := fun hx => by omega
  refine st_i hx6 (by show 6 < 7; omega) fun w7 a7 e7 z7 => ?_
  have o7 := o6.own e7 hxF (by omega)
  have y7 := y6.ext e7 (by omega)
  change At w7 xb (Cl.cells ⟨c.kind, c.blk, c.pag, c.data, c.torn, c.and_, false⟩) 39 at a7
  generalize hcc : (⟨c.kind, c.blk, c.pag, c.data, c.torn, c.and_, false⟩ : Cl) = c2 at *
  have hraw : c2.raw = false := by rw [← hcc]
  refine ld_w a7 (fg ?_)
  refine ld_w y7 (fg ?_)
  refine at_c (c := c2) (s0 := (nb : Int)) (s1 := (np : Int)) (s2 := (en : Int)) (by omega) (by omega) (by omega) (by omega) hraw fun w8 e8 => ⟨_, _, rfl, ?_⟩
  have o8 := o7.same e8
  have a8 := a7.ext e8 (fun h => h)
  have y8 := y7.ext e8 (fun h => h)
  have mb := modv_bd (v := c2.blk) (n := (nb : Int)) (by omega)
  have mq := modv_bd (v := c2.pag) (n := (np : Int)) (by omega)
  obtain ⟨b, hb⟩ := nat_of mb.1
  obtain ⟨q, hq⟩ := nat_of mq.1
  rw [hb] at mb ⊢
  rw [hq] at mq ⊢
  have l8 : Lp U w8 p yb nb np en 0 (new nb np en) (fun b => w4.heap.size ≤ b ∧ b < w6.heap.size) := ⟨o8, pre_new nb1 (by omega) np1 (by omega) (by omega), y8, hyF, by omega⟩
  refine LoopW.nat ln (fun i x w' => x = ((i : Int), ()) ∧ ∃ s, Lp U w' p yb nb np en i s (fun b => w4.heap.size ≤ b ∧ b < w6.heap.size) ∧ At w' xb c2.cells 39) ⟨rfl, _, l8, a8⟩ ?_
  rintro i x w9 next hi ⟨rfl, s, l9, x9⟩ hnext
  dsimp only
  by_cases hlt : i < ln
  case neg =>
    rw [decide_eq_false (by omega), br_false]
    exact clears_k17 l9 x9 (by omega) (by omega) hQ
  rw [decide_eq_true (by omega), br_true, inc_nat (by omega)]
  have hic : i < cs.length := by rw [hC.n]; exact hlt
  refine prep l9 hC hlt hic (by omega) (by omega) fun zb w' b q hb hbn hq hqn l' hz e' => ?_
  exact hnext hlt _ _ ⟨rfl, _, l', x9.ext e' hxF⟩
end
end Go.Proofs.Ytbfkhnaknbkilaa.Fl
