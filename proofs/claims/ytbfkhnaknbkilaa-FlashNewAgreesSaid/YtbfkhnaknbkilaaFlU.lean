/-
  A flash memory: the statement FlashInterruption over the code. No condition beyond those stated.
-/
import Derived.Test.YtbfkhnaknbkilaaFlT
namespace Go.Proofs.Ytbfkhnaknbkilaa.Fl
open Go Go.Ev Go.Proofs Go.ChangeShapes Go.WideShapes Go.ChangeAt Go.RowKit

section
variable {U w : World} {Q : Value → World → Prop}

theorem within_c {x a b : Pg} (hx : x.length = 64) (ha : a.length = 64) (hb : b.length = 64) (h : ∀ i, i < 64 → (a.getD i 0 &&& b.getD i 0) &&& ~~~(x.getD i 0) = 0 ∧ x.getD i 0 &&& ~~~(a.getD i 0 ||| b.getD i 0) = 0) (hQ : ∀ w', Ext w w' (fun _ => False) → Q (.bool true) w') :
    CallE Try.prog 25 #[.string (mkS x), .string (mkS a), .string (mkS b)] w Q := by
  apply C.law40_within
  unfold W.law40_within
  rw [mkS_size, mkS_size, mkS_size, hx, ha, hb, bne_self_eq_false, br_false, br_false]
  refine LoopW.nat 64 (fun j y w' => y = ((j : Int), ()) ∧ Ext w w' (fun _ => False)) ⟨rfl, Ext.refl _ _⟩ ?_
  rintro j y w1 next hj ⟨rfl, e1⟩ hnext
  dsimp only
  by_cases hlt : j < 64
  case neg =>
    rw [decide_eq_false (by omega), br_false]
    exact hQ w1 e1
  rw [decide_eq_true (by omega), br_true]
  obtain ⟨h1, h2⟩ := h j hlt
  show dr w1 _
  unfold dr
  refine qI (sxn j (by omega)) ?_
  refine qI (sxn j (by omega)) ?_
  refine qI (sxn j (by omega)) ?_
  rw [and8, andNot8, byte_ne0, h1, decide_eq_false (by simp), br_false]
  refine qI (sxn j (by omega)) ?_
  refine qI (sxn j (by omega)) ?_
  refine qI (sxn j (by omega)) ?_
  rw [or8, andNot8, byte_ne0, h2, decide_eq_false (by simp), br_false, inc_nat (by omega)]
  exact hnext hlt _ _ ⟨rfl, e1.drew_⟩

theorem interruption_k27 {p xb b q n : Nat} {s : Fs} {F : Nat → Prop} {c : Cl} {was tg now : Pg} (o : One U w p s F) (hok : Ok s) (hoff : s.off = true) (hb : b < s.nb) (hq : q < s.np) (hx : At w xb c.cells 39) (hxF : ¬ F xb)
    (hp : page s b q = now) (her : s.er.getD b 0 = n) (hw : was.length = 64) (hto : tg.length = 64) (hm : ∀ i, i < 64 → now.getD i 0 = (was.getD i 0 &&& ~~~(sel c.torn i)) ||| (tg.getD i 0 &&& sel c.torn i)) (hQ : ∀ w', Ext U w' (fun _ => False) → Q (.bool true) w') :
    W.law40_FlashInterruption_k27 ⟨xb, 0, none⟩ (some ⟨p, 0, none⟩) (b : Int) (q : Int) (mkS was) (mkS tg) (n : Int) 16 w Q := by
  unfold W.law40_FlashInterruption_k27
  simp only [add_mk, Nat.zero_add]
  refine read_c o.d hok ⟨_, _, rfl, ?_⟩
  have hr : rd s (b : Int) (q : Int) = ([], 16) := by
    unfold rd
    rw [if_neg (by rw [isP_in hb hq]; simp), if_pos hoff]
  rw [hr]
  dsimp only
  rw [show ((16 : Int) != 16) = false from rfl, br_false, br_false]
  refine powerOff_c o.d fun w1 h1 e1 => fi ?_
  have o1 := o.stay h1 e1
  have hpo : pOff s = (s, 9) := by unfold pOff; rw [if_pos hoff]
  rw [hpo] at o1 ⊢
  dsimp only at o1 ⊢
  rw [show ((9 : Int) != 9) = false from rfl, br_false]
  refine powerOn_c o1.d fun w2 h2 e2 => fi ?_
  have o2 := o1.stay h2 e2
  have hok2 := hok.pOn
  have hpn : pOn s = ({ s with off := false }, 0) := by unfold pOn; rw [if_pos hoff]
  rw [hpn] at o2 hok2 ⊢
  dsimp only at o2 hok2 ⊢
  rw [show ((0 : Int) != 0) = false from rfl, br_false]
  refine erases_c o2.d hok2 (fi ?_)
  have hes : eras { s with off := false } (b : Int) = (n : Int) := by
    unfold eras
    rw [if_pos (by exact isB_in (s := { s with off := false }) hb), Int.toNat_natCast]
    show ((s.er.getD b 0 : Nat) : Int) = _
    rw [her]
  rw [hes, bne_self_eq_false, br_false]
  refine read_c o2.d hok2 ⟨_, _, rfl, ?_⟩
  rw [rd_in rfl (by exact hb) (by exact hq)]
  have hp2 : page { s with off := false } b q = now := hp
  rw [hp2]
  dsimp only
  rw [show ((0 : Int) != 0) = false from rfl, br_false]
  have hnl : now.length = 64 := by rw [← hp]; exact hok.pagel hb hq
  refine within_c hnl hw hto (fun i hi => by rw [hm i hi]; exact mix_in _ _ _) fun w3 e3 => fb ?_
  rw [Bool.not_true, br_false, mkS_size, hnl]
  have o3 := o2.same e3
  have x3 : At w3 xb c.cells 39 := ((hx.ext e1 hxF).ext e2 hxF).ext e3 (fun h => h)
  refine LoopW.nat 64 (fun j y w' => y = ((j : Int), ()) ∧ Ext w3 w' (fun _ => False)) ⟨rfl, Ext.refl _ _⟩ ?_
  rintro j y w4 next hj ⟨rfl, e4⟩ hnext
  dsimp only
  by_cases hlt : j < 64
  case neg =>
    rw [decide_eq_false (by omega), br_false]
    unfold W.law40_FlashInterruption_k39
    exact awake_fin hQ (o3.e.tr e4)
  rw [decide_eq_true (by omega), br_true]
  refine ldI (x3.ext e4 (fun h => h)) rfl ?_
  have h1 : IntKind.wrap .u64 (IntKind.wrap .i64 (8 * (Int.tmod (j : Int) 8))) = 8 * ((j % 8 : Nat) : Int) := by
    rw [show Int.tmod (j : Int) 8 = ((j % 8 : Nat) : Int) from rfl, wrap_i64 (by omega) (by omega), wrap_u64 (by omega) (by omega)]
  rw [h1]
  refine qI (shr_i (by omega) (by show 8 * ((j % 8 : Nat) : Int) ≤ ((64 : Nat) : Int); omega)) ?_
  rw [fdiv_byte, wrap_byte]
  change dr w4 _
  unfold dr
  refine qI (sxn j (by omega)) ?_
  refine qI (sxn j (by omega)) ?_
  refine qI (sxn j (by omega)) ?_
  rw [show UInt8.ofNat (c.torn / 256 ^ (j % 8)) = sel c.torn j from rfl, andNot8, and8, or8, hm j hlt, bne_self_eq_false, br_false, inc_nat (by omega)]
  exact hnext hlt _ _ ⟨rfl, e4.drew_⟩

theorem interruption_k16 {p xb yb nb np i : Nat} {s : Fs} {F : Nat → Prop} {c : Cl} {er : Bool} (h : Lp U w p yb nb np 30 i s F) (hi : i ≤ 20) (hx : At w xb c.cells 39) (hxF : ¬ F xb) (hxy : xb ≠ yb) (hxU : U.heap.size ≤ xb) (ht : c.torn < 18446744073709551616)
    (hQ : ∀ w', Ext U w' (fun _ => False) → Q (.bool true) w') : W.law40_FlashInterruption_k16 er ⟨xb, 0, none⟩ ⟨yb, 0, none⟩ (some ⟨p, 0, none⟩) w Q := by
  unfold W.law40_FlashInterruption_k16
  simp only [add_mk, Nat.zero_add]
  have hok := h.pr.ok
  have hnb := h.pr.nb; have hnp := h.pr.np; have hen := h.pr.en
  have b1 := hok.b1; have b2 := hok.b2; have p1 := hok.p1; have p2 := hok.p2
  rw [hnb] at b1 b2
  rw [hnp] at p1 p2
  refine st_i hx (by show 6 < 7; omega) fun w1 a1 e1 z1 => ?_
  refine st_i a1 (by show 5 < 7; omega) fun w2 a2 e2 z2 => ?_
  have e12 := e1.tr e2
  have o2 := h.o.own e12 hxF hxU
  have y2 := h.y.ext e12 (Ne.symm hxy)
  change At w2 xb (Cl.cells ⟨c.kind, c.blk, c.pag, c.data, c.torn, true, false⟩) 39 at a2
  generalize hcc : (⟨c.kind, c.blk, c.pag, c.data, c.torn, true, false⟩ : Cl) = c2 at *
  have hraw : c2.raw = false := by rw [← hcc]
  have hand : c2.and_ = true := by rw [← hcc]
  have htc : c2.torn < 18446744073709551616 := by rw [← hcc]; exact ht
  refine ld_w a2 (fg ?_)
  refine ld_w y2 (fg ?_)
  refine at_c (c := c2) (s0 := (nb : Int)) (s1 := (np : Int)) (s2 := ((30 : Nat) : Int)) (by omega) (by omega) (by omega) (by omega) hraw fun w3 e3 => ⟨_, _, rfl, ?_⟩
  have o3 := o2.same e3
  have a3 := a2.ext e3 (fun h => h)
  have mb := modv_bd (v := c2.blk) (n := (nb : Int)) (by omega)
  have mq := modv_bd (v := c2.pag) (n := (np : Int)) (by omega)
  obtain ⟨b, hb⟩ := nat_of mb.1
  obtain ⟨q, hq⟩ := nat_of mq.1
  rw [hb] at mb ⊢
  rw [hq] at mq ⊢
  have hbn : b < s.nb := by omega
  have hqn : q < s.np := by omega
  refine read_c o3.d hok ⟨_, _, rfl, ?_⟩
  rw [rd_in h.pr.on hbn hqn]
  dsimp only
  refine ld_w a3 (fg ?_)
  refine data_c (c := c2) fun w4 e4 => ft ?_
  have o4 := o3.same e4
  have a4 := a3.ext e4 (fun h => h)
  refine erases_c o4.d hok (fi ?_)
  have hes : eras s (b : Int) = ((s.er.getD b 0 : Nat) : Int) := by unfold eras; rw [if_pos (isB_in hbn), Int.toNat_natCast]
  rw [hes]
  refine ldI a4 rfl ?_
  refine cutAfter_c (t := c2.torn) o4.d fun w5 h5 e5 => ⟨rfl, ?_⟩
  have o5 := o4.stay h5 e5
  have a5 := a4.ext e5 hxF
  have hok5 : Ok (cutA s 0 c2.torn) := hok.cutA (by omega) htc
  have hpl := hok.pagel hbn hqn
  have hfit := dat_fits (was := page s b q) hand hpl
  have hdl := dat_length c2 (page s b q)
  generalize hs5 : cutA s 0 c2.torn = s5 at *
  have f5 : s5.nb = s.nb ∧ s5.np = s.np ∧ s5.en = 30 ∧ s5.off = false ∧ s5.cut = true ∧ s5.left = 0 ∧ s5.pg = s.pg ∧ s5.er = s.er ∧ s5.torn = c2.torn := by
    rw [← hs5]; exact ⟨rfl, rfl, hen, h.pr.on, rfl, rfl, rfl, rfl, rfl⟩
  obtain ⟨g1, g2, g3, g4, g5, g6, g7, g8, g9⟩ := f5
  have hpg5 : page s5 b q = page s b q := by unfold page; rw [g7]
  have hin : ∀ s', s'.cut = true → s'.left = 0 → intr s' = ({ s' with off := true, cut := false }, true) := fun s' h1 h2 => by
    unfold intr; rw [if_neg (by simp [h1]), if_neg (by omega)]
  have herb : s.er.getD b 0 ≤ 20 := Nat.le_trans (getD_le h.pr.er b) hi
  cases er with
  | true =>
    rw [br_true]
    refine fill_c (c := 255) fun w6 e6 => ft ?_
    have o6 := o5.same e6
    refine erase_c o6.d hok5 fun w7 h7 e7 => fi ?_
    have o7 := o6.stay h7 e7
    have hok7 := hok5.era (b : Int)
    have hera : era s5 (b : Int) = (eraB { ({ s5 with er := s5.er.set b (s5.er.getD b 0 + 1) } : Fs) with off := true, cut := false } b s5.torn, 16) := by
      unfold era
      rw [if_neg (by rw [isB_in (by rw [g1]; exact hbn)]; simp), if_neg (by simp [g4]), Int.toNat_natCast, if_neg (by rw [g3, g8]; omega), hin { s5 with er := s5.er.set b (s5.er.getD b 0 + 1) } g5 g6]
      rfl
    rw [hera] at o7 hok7 ⊢
    dsimp only at o7 hok7 ⊢
    rw [inc_nat (by omega)]
    have hokE : Ok { ({ s5 with er := s5.er.set b (s5.er.getD b 0 + 1) } : Fs) with off := true, cut := false } := by
      have := hok5.more (b := b) (by rw [g3, g8]; omega)
      exact ⟨this.b1, this.b2, this.p1, this.p2, this.e2, this.lp, this.lr, this.l64, this.le, this.er, this.lf, this.tn⟩
    refine interruption_k27 (c := c2) (now := eraT c2.torn (page s b q)) o7 hok7 rfl (by show b < s5.nb; rw [g1]; exact hbn) (by show q < s5.np; rw [g2]; exact hqn) ((a5.ext e6 (fun h => h)).ext e7 hxF) hxF ?_ ?_ hpl List.length_replicate (fun i hi => ?_) hQ
    · rw [page_eraB hokE (by show b < s5.nb; rw [g1]; exact hbn) (by show q < s5.np; rw [g2]; exact hqn), g9]
      congr 1
    · show (s5.er.set b (s5.er.getD b 0 + 1)).getD b 0 = _
      rw [g8, List.getD_eq_getElem?_getD, List.getElem?_set_self (by rw [hok.le]; exact hbn)]; rfl
    · rw [eraT_get _ _ hi, era_mask, show (List.replicate 64 (255 : UInt8)).getD i 0 = 255 from ff_get hi]
  | false =>
    rw [br_false]
    refine program_c o5.d hok5 fun w6 h6 e6 => fi ?_
    have o6 := o5.stay h6 e6
    have hok6 := hok5.prog (b : Int) (q : Int) (dat c2 (page s b q))
    have hpr : prog s5 (b : Int) (q : Int) (dat c2 (page s b q)) = (setP { s5 with off := true, cut := false } b q (progT s5.torn (page s b q) (dat c2 (page s b q))), 16) := by
      unfold prog
      rw [if_neg (by rw [isP_in (by rw [g1]; exact hbn) (by rw [g2]; exact hqn)]; simp [hdl]), if_neg (by simp [g4]), Int.toNat_natCast, Int.toNat_natCast, hpg5, if_neg (by rw [hfit]; simp), hin s5 g5 g6]
      rfl
    rw [hpr] at o6 hok6 ⊢
    dsimp only at o6 hok6 ⊢
    have hok5' : Ok { s5 with off := true, cut := false } := ⟨hok5.b1, hok5.b2, hok5.p1, hok5.p2, hok5.e2, hok5.lp, hok5.lr, hok5.l64, hok5.le, hok5.er, hok5.lf, hok5.tn⟩
    refine interruption_k27 (c := c2) (now := progT s5.torn (page s b q) (dat c2 (page s b q))) o6 hok6 rfl (by show b < s5.nb; rw [g1]; exact hbn) (by show q < s5.np; rw [g2]; exact hqn) (a5.ext e6 hxF) hxF ?_ ?_ hpl hdl (fun i hi => ?_) hQ
    · exact page_setP hok5' (by show b < s5.nb; rw [g1]; exact hbn) (by show q < s5.np; rw [g2]; exact hqn) _
    · show s5.er.getD b 0 = _
      rw [g8]
    · rw [progT_get _ _ _ hi, g9]
      exact clr_mask (fits_upto.1 hfit i hi)

theorem interruption_c {x0 x1 x2 : Int} {l : Option Addr} {ln lc : Nat} {cs : List Cl} {c : Cl} {er : Bool} (hC : Cin U l ln cs) (ht : c.torn < 18446744073709551616) (hQ : ∀ w', Ext U w' (fun _ => False) → Q (.bool true) w') :
    CallE Try.prog 5 #[.agg #[.int .i64 x0, .int .i64 x1, .int .i64 x2], .slice l ln lc, .agg #[.int .i64 c.kind, .int .i64 c.blk, .int .i64 c.pag, .int .u64 (c.data : Int), .int .u64 (c.torn : Int), .bool c.and_, .bool c.raw], .bool er] U Q := by
  apply C.law40_FlashInterruption
  unfold W.law40_FlashInterruption
  refine al_i fun ab w1 hab a1 e1 z1 => ?_
  refine al_i fun xb w2 hxb a2 e2 z2 => ?_
  have e12 := e1.tr e2
  refine br_of (fun _ => awake_fin hQ e12) (fun h20 => ?_)
  simp only [decide_eq_false_iff_not] at h20
  refine ld_w (a1.ext e2 (fun h => h)) (fg ?_)
  refine shape_c fun w3 e3 => fg ?_
  obtain ⟨nb, np, en, ⟨hnb, nb1, nb3⟩, ⟨hnp, np1, np3⟩, hen, en5⟩ := shape_nat x0 x1 x2
  rw [hnb, hnp, hen]
  refine al_st (vs := shp nb np en) 3 rfl (shp_one _ _ _) fun yb w4 hyb a4 e4 z4 => ?_
  rw [show (⟨yb, 0, none⟩ : Addr).add 2 = ⟨yb, 2, none⟩ from rfl]
  refine st_i a4 (by show 2 < 3; omega) fun w5 a5 e5 z5 => ?_
  change At w5 yb (shp nb np 30) 23 at a5
  refine ld_w a5 (fg ?_)
  have e14 : Ext U w4 (fun _ => False) := (e12.tr e3).tr e4
  have hs1 := e1.size; have hs2 := e12.size; have hs3 := (e12.tr e3).size
  have e15 : Ext U w5 (fun _ => False) := e14.trans e5 (fun _ _ h => h) (fun b hb hx => by omega)
  refine new_c (nb := nb) (np := np) (en := 30) nb1 (by omega) np1 (by omega) (by omega) fun p w6 h6 e6 => ⟨_, _, rfl, ?_⟩
  have o6 := One.new h6 e15 e6
  rw [show ((0 : Int) != 0) = false from rfl, br_false]
  refine eq_nil (fb ?_)
  rw [Option.isNone_some, br_false]
  have hxlt := a2.lt
  have hx5 : At w5 xb c.cells 39 := ((a2.ext e3 (fun h => h)).ext e4 (fun h => h)).ext e5 (fun hx => by have := e3.size; omega)
  have hylt := a5.lt
  have l6 : Lp U w6 p yb nb np 30 0 (new nb np 30) (fun b => w5.heap.size ≤ b ∧ b < w6.heap.size) := ⟨o6, pre_new nb1 (by omega) np1 (by omega) (by omega), a5.ext e6 (fun h => h), fun hx => by omega, by omega⟩
  refine LoopW.nat ln (fun i x w' => x = ((i : Int), ()) ∧ ∃ s, Lp U w' p yb nb np 30 i s (fun b => w5.heap.size ≤ b ∧ b < w6.heap.size) ∧ At w' xb c.cells 39) ⟨rfl, _, l6, hx5.ext e6 (fun h => h)⟩ ?_
  rintro i x w7 next hi ⟨rfl, s, l7, x7⟩ hnext
  dsimp only
  have hxl5 := hx5.lt
  by_cases hlt : i < ln
  case neg =>
    rw [decide_eq_false (by omega), br_false]
    exact interruption_k16 l7 (by omega) x7 (fun hx => by omega) (by have := e3.size; omega) (by omega) ht hQ
  rw [decide_eq_true (by omega), br_true, inc_nat (by omega)]
  have hic : i < cs.length := by rw [hC.n]; exact hlt
  refine prep l7 hC hlt hic (by omega) (by omega) fun zb w' b q hb hbn hq hqn l' hz e' => ?_
  exact hnext hlt _ _ ⟨rfl, _, l', x7.ext e' (fun hx => by omega)⟩
end
end Go.Proofs.Ytbfkhnaknbkilaa.Fl
