/-
  A flash memory: the statements FlashWear, FlashRetry, FlashProgramClears and FlashInterruption over the code. No condition beyond those stated.
-/
import Derived.Test.YtbfkhnaknbkilaaFlN
namespace Go.Proofs.Ytbfkhnaknbkilaa.Fl
open Go Go.Ev Go.Proofs Go.ChangeShapes Go.WideShapes Go.ChangeAt Go.RowKit

/-- The call as the statements make it. -/
def low (c : Cl) (M : Int) : Cl := ⟨modv c.kind M, c.blk, c.pag, c.data, c.torn, c.and_, false⟩
def shp (nb np en : Nat) : List Value := [.int .i64 (nb : Int), .int .i64 (np : Int), .int .i64 (en : Int)]
/-- What the loop ahead of each statement keeps. -/
structure Lp (U w : World) (p yb nb np en i : Nat) (s : Fs) (F : Nat → Prop) : Prop where
  o : One U w p s F
  pr : Pre nb np en i s
  y : At w yb (shp nb np en) 23
  yf : ¬ F yb
  yu : U.heap.size ≤ yb

section
variable {U w : World} {Q : Value → World → Prop}

theorem prep {p yb nb np en i ln lc : Nat} {s : Fs} {F : Nat → Prop} {l : Option Addr} {cs : List Cl} {M : Int} {K : Addr → Int → Int → Int → World → Prop} (h : Lp U w p yb nb np en i s F) (hC : Cin U l ln cs) (hi : i < ln) (hic : i < cs.length) (hM : 0 < M) (hM7 : M ≤ 7)
    (hK : ∀ (zb : Nat) (w' : World) (b q : Nat), modv cs[i].blk (nb : Int) = (b : Int) → b < nb → modv cs[i].pag (np : Int) = (q : Int) → q < np → Lp U w' p yb nb np en (i + 1) (doF s (low cs[i] M) (b : Int) (q : Int) (page s b q)).1 F → At w' zb (low cs[i] M).cells 39 → Ext w w' F → K ⟨zb, 0, none⟩ (b : Int) (q : Int) (doF s (low cs[i] M) (b : Int) (q : Int) (page s b q)).2.2 w') :
    rq Try.prog (Instr.indexAt 36 (.slice l ln lc) (.int .i64 (i : Int))) w fun v95 => fA v95 fun a96 =>
    ld Try.prog 39 a96 w fun v97 => fG v97 fun g98 =>
    al 39 (zeroT Try.prog 39).cells w fun a100 w99 =>
    st Try.prog 39 a100 (.agg g98) w99 fun w101 =>
    ld Try.prog 3 (a100.add 0) w101 fun v102 => fI .i64 v102 fun x103 =>
    CallE Try.prog 15 #[(.int .i64 x103), (.int .i64 M)] w101 fun v104 w105 => fI .i64 v104 fun x106 =>
    st Try.prog 4 (a100.add 6) (.bool false) w105 fun w107 =>
    st Try.prog 3 (a100.add 0) (.int .i64 x106) w107 fun w108 =>
    ld Try.prog 39 a100 w108 fun v109 => fG v109 fun g110 =>
    ld Try.prog 23 ⟨yb, 0, none⟩ w108 fun v111 => fG v111 fun g112 =>
    CallE Try.prog 14 #[(.agg g110), (.agg g112)] w108 fun v113 w114 => ∃ (x115 : Int) (x116 : Int), v113 = .tuple #[(.int .i64 x115), (.int .i64 x116)] ∧
    CallE Try.prog 16 #[(.pointer (some ⟨p, 0, none⟩)), (.int .i64 x115), (.int .i64 x116)] w114 fun v117 w118 => ∃ (t119 : ByteArray) (x120 : Int), v117 = .tuple #[(.string t119), (.int .i64 x120)] ∧
    ld Try.prog 39 a100 w118 fun v121 => fG v121 fun g122 =>
    ld Try.prog 23 ⟨yb, 0, none⟩ w118 fun v123 => fG v123 fun g124 =>
    CallE Try.prog 17 #[(.pointer (some ⟨p, 0, none⟩)), (.agg g122), (.agg g124), (.string t119)] w118 fun v125 w126 => ∃ (t127 : ByteArray) (x128 : Int), v125 = .tuple #[(.string t127), (.int .i64 x128)] ∧
    K a100 x115 x116 x128 w126 := by
  obtain ⟨lp, rfl⟩ := hC.ptr (by omega)
  have hok := h.pr.ok
  have hnb := h.pr.nb; have hnp := h.pr.np
  have b1 := hok.b1; have b2 := hok.b2; have p1 := hok.p1; have p2 := hok.p2
  rw [hnb] at b1 b2
  rw [hnp] at p1 p2
  refine ixs i 7 39 hi ?_
  refine rdG (f := Cl.cells) i hic (hC.ext h.o.e).r (fun _ => rfl) (by omega) (fg ?_)
  generalize cs[i] = c at *
  refine al_st 7 rfl c.one_ fun zb w1 hzb a1 e1 z1 => ?_
  simp only [add_mk, Nat.zero_add]
  refine ldI a1 rfl ?_
  refine mod_c hM (by omega) (fi ?_)
  refine st_i a1 (by show 6 < 7; omega) fun w2 a2 e2 z2 => ?_
  refine st_i a2 (by show 0 < 7; omega) fun w3 a3 e3 z3 => ?_
  change At w3 zb (low c M).cells 39 at a3
  have hs0 := h.o.e.size
  have hzF : ¬ F zb := fun hx => by have := (h.o.f zb hx).2; omega
  have hyl := h.y.lt
  have e23 : Ext w1 w3 (· = zb) := e2.tr e3
  have o3 : One U w3 p s F := (h.o.same e1).own e23 hzF (by omega)
  have y3 : At w3 yb (shp nb np en) 23 := (h.y.ext e1 (fun h => h)).ext e23 (by omega)
  refine ld_w a3 (fg ?_)
  refine ld_w y3 (fg ?_)
  refine at_c (c := low c M) (s0 := (nb : Int)) (s1 := (np : Int)) (s2 := (en : Int)) (by omega) (by omega) (by omega) (by omega) rfl fun w4 e4 => ⟨_, _, rfl, ?_⟩
  have o4 := o3.same e4
  have mb := modv_bd (v := c.blk) (n := (nb : Int)) (by omega)
  have mq := modv_bd (v := c.pag) (n := (np : Int)) (by omega)
  obtain ⟨b, hb⟩ := nat_of mb.1
  obtain ⟨q, hq⟩ := nat_of mq.1
  have hbn : b < nb := by omega
  have hqn : q < np := by omega
  change CallE _ _ #[_, .int .i64 (modv c.blk (nb : Int)), .int .i64 (modv c.pag (np : Int))] _ _
  rw [hb, hq]
  refine read_c o4.d hok ⟨_, _, rfl, ?_⟩
  rw [rd_in h.pr.on (by rw [hnb]; exact hbn) (by rw [hnp]; exact hqn)]
  have a4 := a3.ext e4 (fun h => h)
  have y4 := y3.ext e4 (fun h => h)
  refine ld_w a4 (fg ?_)
  refine ld_w y4 (fg ?_)
  have mk := modv_bd (v := c.kind) (n := M) hM
  refine do_c (c := low c M) (s0 := (nb : Int)) (s1 := (np : Int)) (s2 := (en : Int)) o4.d (fun b hb => (o4.f b hb).2) hok mk.1 (by show modv c.kind M ≤ 6; omega) (by omega) (by omega) (by omega) (by omega) rfl fun w5 h5 e5 => ⟨_, _, rfl, ?_⟩
  change Fk w5 p (doF s (low c M) (modv c.blk (nb : Int)) (modv c.pag (np : Int)) (page s b q)).1 F at h5
  change K _ (modv c.blk (nb : Int)) (modv c.pag (np : Int)) (doF s (low c M) (modv c.blk (nb : Int)) (modv c.pag (np : Int)) (page s b q)).2.2 w5
  rw [hb, hq] at h5 ⊢
  have o5 := o4.stay h5 e5
  refine hK zb w5 b q hb hbn hq hqn ⟨o5, h.pr.doF _ _ _ _, y4.ext e5 h.yf, h.yf, h.yu⟩ (a4.ext e5 hzF) ?_
  exact (((e1.of0 (X := fun b => F b ∨ b = zb)).tr (e23.mono fun _ _ h => .inr h)).tr0 e4).trans e5 (fun b hb' hx => by rcases hx with hx | hx; exact hx; omega) (fun _ _ h => h)

/-- The shape that a statement uses. -/
theorem shape_nat (x0 x1 x2 : Int) : ∃ nb np en : Nat, (1 + modv x0 3 = (nb : Int) ∧ 1 ≤ nb ∧ nb ≤ 3) ∧ (1 + modv x1 3 = (np : Int) ∧ 1 ≤ np ∧ np ≤ 3) ∧ (modv x2 6 = (en : Int) ∧ en ≤ 5) := by
  have m0 := modv_bd (v := x0) (n := 3) (by omega)
  have m1 := modv_bd (v := x1) (n := 3) (by omega)
  have m2 := modv_bd (v := x2) (n := 6) (by omega)
  exact ⟨(1 + modv x0 3).toNat, (1 + modv x1 3).toNat, (modv x2 6).toNat, ⟨by omega, by omega, by omega⟩, ⟨by omega, by omega, by omega⟩, by omega, by omega⟩
theorem shp_one (nb np en : Nat) : ∀ v ∈ shp nb np en, one v = true := by
  intro v hv
  simp only [shp, List.mem_cons, List.not_mem_nil, or_false] at hv
  rcases hv with rfl | rfl | rfl <;> rfl

/- Retry. -/
theorem retry_k31 {p : Nat} {s : Fs} {F : Nat → Prop} {b q : Nat} {d : Pg} (o : One U w p s F) (hok : Ok s) (hr : rd s (b : Int) (q : Int) = (d, 0)) (hQ : ∀ w', Ext U w' (fun _ => False) → Q (.bool true) w') :
    W.law40_FlashRetry_k31 (some ⟨p, 0, none⟩) (b : Int) (q : Int) (mkS d) 0 w Q := by
  unfold W.law40_FlashRetry_k31
  refine read_c o.d hok ⟨_, _, rfl, ?_⟩
  rw [hr]
  dsimp only
  rw [show ((0 : Int) == 0) = true from rfl, br_true, br_true]
  refine qB s_eq ?_
  rw [decide_eq_true rfl, br_true]
  exact awake_fin hQ o.e

theorem retry_k16 {p xb yb nb np i : Nat} {s : Fs} {F : Nat → Prop} {c : Cl} {er : Bool} (h : Lp U w p yb nb np 40 i s F) (hi : i ≤ 20) (hx : At w xb c.cells 39) (hxF : ¬ F xb) (hxy : xb ≠ yb) (hxU : U.heap.size ≤ xb) (ht : c.torn < 18446744073709551616)
    (hQ : ∀ w', Ext U w' (fun _ => False) → Q (.bool true) w') : W.law40_FlashRetry_k16 er ⟨xb, 0, none⟩ ⟨yb, 0, none⟩ (some ⟨p, 0, none⟩) w Q := by
  unfold W.law40_FlashRetry_k16
  simp only [add_mk, Nat.zero_add]
  have hok := h.pr.ok
  have hnb := h.pr.nb; have hnp := h.pr.np; have hen := h.pr.en
  have b1 := hok.b1; have b2 := hok.b2; have p1 := hok.p1; have p2 := hok.p2
  rw [hnb] at b1 b2
  rw [hnp] at p1 p2
  refine st_i hx (by show 6 < 7; omega) fun w1 a1 e1 z1 => ?_
  refine st_i a1 (by show 5 < 7; omega) fun w2 a2 e2 z2 => ?_
  have e12 := e1.tr e2
  have o2 := h.o.own e12 hxF hxU
  have y2 := h.y.ext e12 (Ne.symm hxy)
  change At w2 xb (Cl.cells ⟨c.kind, c.blk, c.pag, c.data, c.torn, true, false⟩) 39 at a2
  generalize hcc : (⟨c.kind, c.blk, c.pag, c.data, c.torn, true, false⟩ : Cl) = c2 at *
  have hraw : c2.raw = false := by rw [← hcc]
  have hand : c2.and_ = true := by rw [← hcc]
  have htc : c2.torn < 18446744073709551616 := by rw [← hcc]; exact ht
  refine ld_w a2 (fg ?_)
  refine ld_w y2 (fg ?_)
  refine at_c (c := c2) (s0 := (nb : Int)) (s1 := (np : Int)) (s2 := ((40 : Nat) : Int)) (by omega) (by omega) (by omega) (by omega) hraw fun w3 e3 => ⟨_, _, rfl, ?_⟩
  have o3 := o2.same e3
  have a3 := a2.ext e3 (fun h => h)
  have mb := modv_bd (v := c2.blk) (n := (nb : Int)) (by omega)
  have mq := modv_bd (v := c2.pag) (n := (np : Int)) (by omega)
  obtain ⟨b, hb⟩ := nat_of mb.1
  obtain ⟨q, hq⟩ := nat_of mq.1
  rw [hb] at mb ⊢
  rw [hq] at mq ⊢
  have hbn : b < s.nb := by omega
  have hqn : q < s.np := by omega
  refine read_c o3.d hok ⟨_, _, rfl, ?_⟩
  rw [rd_in h.pr.on hbn hqn]
  dsimp only
  refine ld_w a3 (fg ?_)
  refine data_c (c := c2) fun w4 e4 => ft ?_
  have o4 := o3.same e4
  have a4 := a3.ext e4 (fun h => h)
  refine ldI a4 rfl ?_
  refine cutAfter_c (t := c2.torn) o4.d fun w5 h5 e5 => ⟨rfl, ?_⟩
  have o5 := o4.stay h5 e5
  have hok5 : Ok (cutA s 0 c2.torn) := hok.cutA (by omega) htc
  have hpl := hok.pagel hbn hqn
  have hfit := dat_fits (was := page s b q) hand hpl
  have hdl := dat_length c2 (page s b q)
  generalize hs5 : cutA s 0 c2.torn = s5 at *
  have f5 : s5.nb = s.nb ∧ s5.np = s.np ∧ s5.en = 40 ∧ s5.off = false ∧ s5.cut = true ∧ s5.left = 0 ∧ s5.pg = s.pg ∧ s5.er = s.er := by
    rw [← hs5]; exact ⟨rfl, rfl, hen, h.pr.on, rfl, rfl, rfl, rfl⟩
  obtain ⟨g1, g2, g3, g4, g5, g6, g7, g8⟩ := f5
  have hpg5 : page s5 b q = page s b q := by unfold page; rw [g7]
  have hin : ∀ s', s'.cut = true → s'.left = 0 → intr s' = ({ s' with off := true, cut := false }, true) := fun s' h1 h2 => by
    unfold intr; rw [if_neg (by simp [h1]), if_neg (by omega)]
  have herb : s.er.getD b 0 ≤ 20 := Nat.le_trans (getD_le h.pr.er b) hi
  cases er with
  | true =>
    rw [br_true]
    refine erase_c o5.d hok5 fun w6 h6 e6 => fi ?_
    have o6 := o5.stay h6 e6
    have hok6 := hok5.era (b : Int)
    have hera : era s5 (b : Int) = (eraB { ({ s5 with er := s5.er.set b (s5.er.getD b 0 + 1) } : Fs) with off := true, cut := false } b s5.torn, 16) := by
      unfold era
      rw [if_neg (by rw [isB_in (by rw [g1]; exact hbn)]; simp), if_neg (by simp [g4]), Int.toNat_natCast, if_neg (by rw [g3, g8]; omega), hin { s5 with er := s5.er.set b (s5.er.getD b 0 + 1) } g5 g6]
      rfl
    rw [hera] at o6 hok6 ⊢
    dsimp only at o6 hok6 ⊢
    generalize hs6 : eraB { ({ s5 with er := s5.er.set b (s5.er.getD b 0 + 1) } : Fs) with off := true, cut := false } b s5.torn = s6 at *
    have f6 : s6.nb = s.nb ∧ s6.np = s.np ∧ s6.en = 40 ∧ s6.off = true ∧ s6.cut = false ∧ s6.er = s.er.set b (s.er.getD b 0 + 1) := by
      rw [← hs6]; exact ⟨g1, g2, g3, rfl, rfl, by show s5.er.set b _ = _; rw [g8]⟩
    obtain ⟨k1, k2, k3, k4, k5, k6⟩ := f6
    unfold W.law40_FlashRetry_k25
    rw [show ((16 : Int) != 16) = false from rfl, br_false]
    refine powerOn_c o6.d fun w7 h7 e7 => fi ?_
    have o7 := o6.stay h7 e7
    have hok7 := hok6.pOn
    have hpo : pOn s6 = ({ s6 with off := false }, 0) := by unfold pOn; rw [if_pos k4]
    rw [hpo] at o7 hok7 ⊢
    dsimp only at o7 hok7 ⊢
    rw [show ((0 : Int) != 0) = false from rfl, br_false, br_true]
    refine fill_c (c := 255) fun w8 e8 => ft ?_
    have o8 := o7.same e8
    refine erase_c o8.d hok7 fun w9 h9 e9 => fi ?_
    have o9 := o8.stay h9 e9
    have hok9 := hok7.era (b : Int)
    have herg : (s.er.set b (s.er.getD b 0 + 1)).getD b 0 = s.er.getD b 0 + 1 := by
      rw [List.getD_eq_getElem?_getD, List.getElem?_set_self (by rw [hok.le]; exact hbn)]; rfl
    have hera2 : era { s6 with off := false } (b : Int) = (eraB { ({ s6 with off := false } : Fs) with er := s6.er.set b (s6.er.getD b 0 + 1) } b full, 0) := by
      unfold era
      rw [if_neg (by rw [isB_in (by show b < s6.nb; rw [k1]; exact hbn)]; simp), if_neg (by simp), Int.toNat_natCast, if_neg (by show ¬ s6.en ≤ s6.er.getD b 0; rw [k3, k6, herg]; omega), intr_none (s := { ({ s6 with off := false } : Fs) with er := s6.er.set b (s6.er.getD b 0 + 1) }) k5]
      rfl
    rw [hera2] at o9 hok9 ⊢
    dsimp only at o9 hok9 ⊢
    refine retry_k31 o9 hok9 ?_ hQ
    have hok9' : Ok { ({ s6 with off := false } : Fs) with er := s6.er.set b (s6.er.getD b 0 + 1) } := hok7.more (by show s6.er.getD b 0 < s6.en; rw [k3, k6, herg]; omega)
    rw [rd_in rfl (by show b < s6.nb; rw [k1]; exact hbn) (by show q < s6.np; rw [k2]; exact hqn), page_eraB hok9' (by show b < s6.nb; rw [k1]; exact hbn) (by show q < s6.np; rw [k2]; exact hqn), eraT_full]
    rfl
  | false =>
    rw [br_false]
    refine program_c o5.d hok5 fun w6 h6 e6 => fi ?_
    have o6 := o5.stay h6 e6
    have hok6 := hok5.prog (b : Int) (q : Int) (dat c2 (page s b q))
    have hpr : prog s5 (b : Int) (q : Int) (dat c2 (page s b q)) = (setP { s5 with off := true, cut := false } b q (progT s5.torn (page s b q) (dat c2 (page s b q))), 16) := by
      unfold prog
      rw [if_neg (by rw [isP_in (by rw [g1]; exact hbn) (by rw [g2]; exact hqn)]; simp [hdl]), if_neg (by simp [g4]), Int.toNat_natCast, Int.toNat_natCast, hpg5, if_neg (by rw [hfit]; simp), hin s5 g5 g6]
      rfl
    rw [hpr] at o6 hok6 ⊢
    dsimp only at o6 hok6 ⊢
    have hok5' : Ok { s5 with off := true, cut := false } := ⟨hok5.b1, hok5.b2, hok5.p1, hok5.p2, hok5.e2, hok5.lp, hok5.lr, hok5.l64, hok5.le, hok5.er, hok5.lf, hok5.tn⟩
    have hpg6 := page_setP hok5' (b := b) (q := q) (by show b < s5.nb; rw [g1]; exact hbn) (by show q < s5.np; rw [g2]; exact hqn) (progT s5.torn (page s b q) (dat c2 (page s b q)))
    generalize hs6 : setP { s5 with off := true, cut := false } b q (progT s5.torn (page s b q) (dat c2 (page s b q))) = s6 at *
    have f6 : s6.nb = s.nb ∧ s6.np = s.np ∧ s6.off = true ∧ s6.cut = false := by
      rw [← hs6]; exact ⟨g1, g2, rfl, rfl⟩
    obtain ⟨k1, k2, k4, k5⟩ := f6
    unfold W.law40_FlashRetry_k25
    rw [show ((16 : Int) != 16) = false from rfl, br_false]
    refine powerOn_c o6.d fun w7 h7 e7 => fi ?_
    have o7 := o6.stay h7 e7
    have hok7 := hok6.pOn
    have hpo : pOn s6 = ({ s6 with off := false }, 0) := by unfold pOn; rw [if_pos k4]
    rw [hpo] at o7 hok7 ⊢
    dsimp only at o7 hok7 ⊢
    rw [show ((0 : Int) != 0) = false from rfl, br_false, br_false]
    refine program_c o7.d hok7 fun w8 h8 e8 => fi ?_
    have o8 := o7.stay h8 e8
    have hok8 := hok7.prog (b : Int) (q : Int) (dat c2 (page s b q))
    have hpg7 : page { s6 with off := false } b q = progT s5.torn (page s b q) (dat c2 (page s b q)) := hpg6
    have hpr2 : prog { s6 with off := false } (b : Int) (q : Int) (dat c2 (page s b q)) = (setP { s6 with off := false } b q (dat c2 (page s b q)), 0) := by
      unfold prog
      rw [if_neg (by rw [isP_in (by show b < s6.nb; rw [k1]; exact hbn) (by show q < s6.np; rw [k2]; exact hqn)]; simp [hdl]), if_neg (by simp), Int.toNat_natCast, Int.toNat_natCast, hpg7, if_neg (by rw [again_fits hfit]; simp), intr_none (s := { s6 with off := false }) k5]
      rfl
    rw [hpr2] at o8 hok8 ⊢
    dsimp only at o8 hok8 ⊢
    refine retry_k31 o8 hok8 ?_ hQ
    rw [rd_in rfl (by show b < s6.nb; rw [k1]; exact hbn) (by show q < s6.np; rw [k2]; exact hqn), page_setP hok7 (by show b < s6.nb; rw [k1]; exact hbn) (by show q < s6.np; rw [k2]; exact hqn)]

theorem retry_c {x0 x1 x2 : Int} {l : Option Addr} {ln lc : Nat} {cs : List Cl} {c : Cl} {er : Bool} (hC : Cin U l ln cs) (ht : c.torn < 18446744073709551616) (hQ : ∀ w', Ext U w' (fun _ => False) → Q (.bool true) w') :
    CallE Try.prog 7 #[.agg #[.int .i64 x0, .int .i64 x1, .int .i64 x2], .slice l ln lc, .agg #[.int .i64 c.kind, .int .i64 c.blk, .int .i64 c.pag, .int .u64 (c.data : Int), .int .u64 (c.torn : Int), .bool c.and_, .bool c.raw], .bool er] U Q := by
  apply C.law40_FlashRetry
  unfold W.law40_FlashRetry
  refine al_i fun ab w1 hab a1 e1 z1 => ?_
  refine al_i fun xb w2 hxb a2 e2 z2 => ?_
  have e12 := e1.tr e2
  refine br_of (fun _ => awake_fin hQ e12) (fun h20 => ?_)
  simp only [decide_eq_false_iff_not] at h20
  refine ld_w (a1.ext e2 (fun h => h)) (fg ?_)
  refine shape_c fun w3 e3 => fg ?_
  obtain ⟨nb, np, en, ⟨hnb, nb1, nb3⟩, ⟨hnp, np1, np3⟩, hen, en5⟩ := shape_nat x0 x1 x2
  rw [hnb, hnp, hen]
  refine al_st (vs := shp nb np en) 3 rfl (shp_one _ _ _) fun yb w4 hyb a4 e4 z4 => ?_
  rw [show (⟨yb, 0, none⟩ : Addr).add 2 = ⟨yb, 2, none⟩ from rfl]
  refine st_i a4 (by show 2 < 3; omega) fun w5 a5 e5 z5 => ?_
  change At w5 yb (shp nb np 40) 23 at a5
  refine ld_w a5 (fg ?_)
  have e14 : Ext U w4 (fun _ => False) := (e12.tr e3).tr e4
  have hs1 := e1.size; have hs2 := e12.size; have hs3 := (e12.tr e3).size
  have e15 : Ext U w5 (fun _ => False) := e14.trans e5 (fun _ _ h => h) (fun b hb hx => by omega)
  refine new_c (nb := nb) (np := np) (en := 40) nb1 (by omega) np1 (by omega) (by omega) fun p w6 h6 e6 => ⟨_, _, rfl, ?_⟩
  have o6 := One.new h6 e15 e6
  rw [show ((0 : Int) != 0) = false from rfl, br_false]
  refine eq_nil (fb ?_)
  rw [Option.isNone_some, br_false]
  have hxlt := a2.lt
  have hx5 : At w5 xb c.cells 39 := ((a2.ext e3 (fun h => h)).ext e4 (fun h => h)).ext e5 (fun hx => by have := e3.size; omega)
  have hylt := a5.lt
  have l6 : Lp U w6 p yb nb np 40 0 (new nb np 40) (fun b => w5.heap.size ≤ b ∧ b < w6.heap.size) := ⟨o6, pre_new nb1 (by omega) np1 (by omega) (by omega), a5.ext e6 (fun h => h), fun hx => by omega, by omega⟩
  refine LoopW.nat ln (fun i x w' => x = ((i : Int), ()) ∧ ∃ s, Lp U w' p yb nb np 40 i s (fun b => w5.heap.size ≤ b ∧ b < w6.heap.size) ∧ At w' xb c.cells 39) ⟨rfl, _, l6, hx5.ext e6 (fun h => h)⟩ ?_
  rintro i x w7 next hi ⟨rfl, s, l7, x7⟩ hnext
  dsimp only
  have hxl5 := hx5.lt
  by_cases hlt : i < ln
  case neg =>
    rw [decide_eq_false (by omega), br_false]
    exact retry_k16 l7 (by omega) x7 (fun hx => by omega) (by have := e3.size; omega) (by omega) ht hQ
  rw [decide_eq_true (by omega), br_true, inc_nat (by omega)]
  have hic : i < cs.length := by rw [hC.n]; exact hlt
  refine prep l7 hC hlt hic (by omega) (by omega) fun zb w' b q hb hbn hq hqn l' hz e' => ?_
  exact hnext hlt _ _ ⟨rfl, _, l', x7.ext e' (fun hx => by omega)⟩
end
end Go.Proofs.Ytbfkhnaknbkilaa.Fl
