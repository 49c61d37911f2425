/-
  A flash memory: the statement FlashNewAgrees over the code. No condition beyond those stated.
-/
import Derived.Test.YtbfkhnaknbkilaaFlC
namespace Go.Proofs.Ytbfkhnaknbkilaa.Fl
open Go Go.Ev Go.Proofs Go.ChangeShapes Go.WideShapes Go.ChangeAt Go.RowKit

/-- The shape's limits. -/
def Bad (b q n : Int) : Prop := b < 1 ∨ b > 32 ∨ q < 1 ∨ q > 32 ∨ n < 0 ∨ n > 1048576
def rcs (nb np en kb : Nat) (l : Option Addr) (n c : Nat) : List Value := [.int .i64 (nb : Int), .int .i64 (np : Int), .int .i64 (en : Int), .slice l n c, .slice (some ⟨kb, 0, none⟩) nb nb, .bool false, .int .i64 (-1), .int .u64 0]

section
variable {U w : World} {Q : Value → World → Prop}

theorem erased_c (hQ : ∀ w', Ext w w' (fun _ => False) → Q (.string (mkS ff)) w') : CallE Try.prog 28 #[] w Q := by
  apply C.ref40_erased
  unfold W.ref40_erased
  refine mkB (n := 64) 5 (by omega) fun b w1 hb a1 e1 z1 => ?_
  refine LoopW.nat 64 (fun j x w' => x = ((j : Int), ()) ∧ At w' b (by_ (List.replicate j 255 ++ List.replicate (64 - j) 0)) 5 ∧ Ext w w' (fun _ => False)) ⟨rfl, a1, e1⟩ ?_
  rintro j x w2 next hj ⟨rfl, a2, e2⟩ hnext
  dsimp only
  have hsz := e2.size
  by_cases hlt : j < 64
  case neg =>
    rw [decide_eq_false (by omega), br_false]
    obtain rfl : j = 64 := by omega
    unfold W.ref40_erased_k6
    rw [Nat.sub_self, List.replicate_zero, List.append_nil] at a2
    refine bsT a2 List.length_replicate ?_
    exact hQ w2 e2
  rw [decide_eq_true (by omega), br_true]
  refine ixb j 1 5 hlt ?_
  refine st_i a2 (by rw [by_length]; simp only [List.length_append, List.length_replicate]; omega) fun w3 a3 e3 z3 => ?_
  rw [show (255 : Int) = (((255 : UInt8).toNat : Nat) : Int) from rfl, by_set, Nat.mul_one] at a3
  rw [inc_nat (by omega)]
  refine hnext hlt _ _ ⟨rfl, ?_, e2.trans e3 (fun _ _ h => h) (fun b' hb' hx => by omega)⟩
  have : (List.replicate j (255 : UInt8) ++ List.replicate (64 - j) 0).set j 255 = List.replicate (j + 1) 255 ++ List.replicate (64 - (j + 1)) 0 := by
    rw [List.set_append_right _ _ (by simp), List.length_replicate, Nat.sub_self, show 64 - j = (64 - (j + 1)) + 1 by omega, List.replicate_succ, List.set_cons_zero, List.replicate_succ', List.append_assoc]
    rfl
  rw [this] at a3
  exact a3

theorem rnew_bad {b q n : Int} (h : Bad b q n) (hQ : ∀ w', Ext w w' (fun _ => False) → Q (.tuple #[.pointer none, .int .i64 1]) w') : CallE Try.prog 9 #[.agg #[.int .i64 b, .int .i64 q, .int .i64 n]] w Q := by
  apply C.ref40_New
  unfold W.ref40_New
  unfold Bad at h
  refine al_i fun xb w1 hxb a1 e1 z1 => ?_
  simp only [add_mk, Nat.zero_add]
  have fin := hQ w1 e1
  refine ldI a1 rfl ?_
  refine br_of (fun _ => fin) (fun h1 => ?_)
  refine ldI a1 rfl ?_
  refine br_of (fun _ => fin) (fun h2 => ?_)
  refine ldI a1 rfl ?_
  refine br_of (fun _ => fin) (fun h3 => ?_)
  refine ldI a1 rfl ?_
  refine br_of (fun _ => fin) (fun h4 => ?_)
  refine ldI a1 rfl ?_
  refine br_of (fun _ => fin) (fun h5 => ?_)
  refine ldI a1 rfl ?_
  refine br_of (fun _ => fin) (fun h6 => ?_)
  simp only [decide_eq_false_iff_not] at h1 h2 h3 h4 h5 h6
  omega

theorem rnew_c {nb np en : Nat} (h1 : 1 ≤ nb) (h2 : nb ≤ 32) (h3 : 1 ≤ np) (h4 : np ≤ 32) (h5 : en ≤ 1048576) (hQ : ∀ p w', Ext w w' (fun _ => False) → Q (.tuple #[.pointer (some ⟨p, 0, none⟩), .int .i64 0]) w') :
    CallE Try.prog 9 #[.agg #[.int .i64 (nb : Int), .int .i64 (np : Int), .int .i64 (en : Int)]] w Q := by
  apply C.ref40_New
  unfold W.ref40_New
  refine al_i fun xb w1 hxb a1 e1 z1 => ?_
  simp only [add_mk, Nat.zero_add]
  refine ldI a1 rfl ?_
  rw [decide_eq_false (by omega), br_false]
  refine ldI a1 rfl ?_
  rw [decide_eq_false (by omega), br_false]
  refine ldI a1 rfl ?_
  rw [decide_eq_false (by omega), br_false]
  refine ldI a1 rfl ?_
  rw [decide_eq_false (by omega), br_false]
  refine ldI a1 rfl ?_
  rw [decide_eq_false (by omega), br_false]
  refine ldI a1 rfl ?_
  rw [decide_eq_false (by omega), br_false]
  change At w1 xb (shp nb np en) 23 at a1
  refine ⟨fun w' => At w' xb (shp nb np en) 23, a1, ?_⟩
  refine ldS_g (fun w h => h) (fg ?_)
  refine ldS_i (fun w h => h) rfl (fi ?_)
  refine mk_i 3 1 (by omega) (by omega) fun kb w2 hkb a2 e2 z2 => fs ?_
  rw [Int.toNat_natCast] at *
  have ax2 := At.ext (w := drew w1) a1 e2 (fun h => h)
  refine ⟨ax2, ?_⟩
  refine rqS_r (fun w => run_of_peel (v := Value.agg (rcs nb np en kb none 0 0).toArray) (by kernel_rfl) w) (fg ?_)
  refine al_i fun p w3 hp a3 e3 z3 => ?_
  have ax3 := ax2.ext e3 (fun h => h)
  refine ⟨ax3, ?_⟩
  have hw1 : (drew w1).heap.size = w.heap.size + 1 := z1
  have e13 : Ext w w3 (fun _ => False) := (e1.tr e2.of_drew).tr e3
  have hpx : p ≠ xb := by omega
  refine LoopW.nat nb (fun i x w' => x = ((i : Int), ()) ∧ At w' xb (shp nb np en) 23 ∧ (∃ l c vs, At w' p (rcs nb np en kb l i c) 68 ∧ Sl w' 62 1 l i c vs ∧ ∀ b, l = some ⟨b, 0, none⟩ → b ≠ xb ∧ b ≠ p ∧ w.heap.size ≤ b) ∧ Ext w w' (fun _ => False))
    ⟨rfl, ax3, ⟨none, 0, [], a3, .inl ⟨rfl, rfl, rfl, rfl⟩, fun b hb => by cases hb⟩, e13⟩ ?_
  rintro i x w5 next hi ⟨rfl, x5, ⟨l, c, vs, p5, s5, f5⟩, e5⟩ hnext
  dsimp only
  refine ldI x5 rfl ?_
  by_cases hlt : i < nb
  case neg =>
    rw [decide_eq_false (by omega), br_false]
    exact hQ p w5 e5
  rw [decide_eq_true (by omega), br_true]
  have hx5 := x5.lt; have hp5 := p5.lt; have hs5 := e5.size
  refine LoopW.nat np (fun j y w' => (∃ a c' vs', y = ((a, j, c'), (j : Int), ()) ∧ Sl w' 9 1 a j c' vs' ∧ (∀ b, a = some ⟨b, 0, none⟩ → w5.heap.size ≤ b)) ∧ Ext w5 w' (fun _ => False))
    ⟨⟨none, 0, [], rfl, .inl ⟨rfl, rfl, rfl, rfl⟩, fun b hb => by cases hb⟩, Ext.refl _ _⟩ ?_
  rintro j y w6 next6 hj ⟨⟨a, c', vs', rfl, s6, f6⟩, e6⟩ hnext6
  dsimp only
  refine ldI (x5.ext e6 (fun h => h)) rfl ?_
  have hs6 := e6.size
  by_cases hjt : j < np
  case neg =>
    rw [decide_eq_false (by omega), br_false]
    unfold W.ref40_New_k12
    simp only [add_mk, Nat.zero_add]
    have p6 := p5.ext e6 (fun h => h)
    have s6' := s5.ext e6 (fun _ _ h => h)
    refine ldL p6 rfl ?_
    refine al_i fun tb w7 htb a7 e7 z7 => ?_
    refine ap_i 62 1 (vs := [.slice a j c']) (s6'.ext e7 (fun _ _ h => h)) (.inr ⟨_, rfl, fun k hk => by rw [add_mk, a7.cell, Nat.zero_add]⟩) rfl (by simp [one]) (by omega) fun a' c'' w8 s8 hor hsome e8 => fs ?_
    have p7 := p6.ext e7 (fun h => h)
    have p8 := p7.ext e8 (fun hx => (f5 p hx).2.1 rfl)
    refine st_i p8 (by show 3 < 8; omega) fun w9 a9 e9 z9 => ?_
    change At w9 p (rcs nb np en kb a' (i + 1) c'') 68 at a9
    rw [inc_nat (by omega)]
    have e57 : Ext w w7 (fun _ => False) := (e5.tr e6).tr e7
    have e58 : Ext w w8 (fun _ => False) := e57.trans e8 (fun _ _ h => h) (fun b hb hx => by have := (f5 b hx).2.2; omega)
    have fr : ∀ b, a' = some ⟨b, 0, none⟩ → b ≠ xb ∧ b ≠ p ∧ w.heap.size ≤ b := fun b hb => by
      rcases hor b hb with h | h
      · exact f5 b h
      · exact ⟨by omega, by omega, by omega⟩
    refine hnext hlt _ _ ⟨rfl, ?_, ⟨a', c'', _, a9, s8.ext e9 (fun b hb hx => (fr b hb).2.1 hx), fr⟩, ?_⟩
    · exact (((x5.ext e6 (fun h => h)).ext e7 (fun h => h)).ext e8 (fun hx => (f5 xb hx).1 rfl)).ext e9 (fun hx => hpx hx.symm)
    · exact e58.trans e9 (fun _ _ h => h) (fun b hb hx => by omega)
  rw [decide_eq_true (by omega), br_true]
  refine erased_c fun w7 e7 => ft ?_
  refine al_i fun tb w8 htb a8 e8 z8 => ?_
  refine ap_i 9 1 (vs := [.string (mkS ff)]) ((s6.ext e7 (fun _ _ h => h)).ext e8 (fun _ _ h => h)) (.inr ⟨_, rfl, fun k hk => by rw [add_mk, a8.cell, Nat.zero_add]⟩) rfl (by simp [one]) (by omega) fun a' c'' w9 s9 hor hsome e9 => fs ?_
  rw [inc_nat (by omega)]
  have hs7 := e7.size; have hs8 := e8.size
  refine hnext6 hjt _ _ ⟨⟨a', c'', _, rfl, s9, fun b hb => ?_⟩, ((e6.tr e7).tr e8).trans e9 (fun _ _ h => h) (fun b hb hx => by have := f6 b hx; omega)⟩
  rcases hor b hb with h | h
  · exact f6 b h
  · omega

/-- New, whatever the shape. -/
theorem newA {b q n : Int} (hQ : ∀ p r w', Ext w w' (fun _ => False) → (Bad b q n → p = none ∧ r = 1) → (¬ Bad b q n → p.isNone = false ∧ r = 0) → Q (.tuple #[.pointer p, .int .i64 r]) w') :
    CallE Try.prog 8 #[.agg #[.int .i64 b, .int .i64 q, .int .i64 n]] w Q := by
  by_cases hB : Bad b q n
  · exact new_bad hB fun w' e => hQ none 1 w' e (fun _ => ⟨rfl, rfl⟩) (fun h => absurd hB h)
  · have hB' := hB
    unfold Bad at hB'
    obtain ⟨b, rfl⟩ := nat_of (show 0 ≤ b by omega)
    obtain ⟨q, rfl⟩ := nat_of (show 0 ≤ q by omega)
    obtain ⟨n, rfl⟩ := nat_of (show 0 ≤ n by omega)
    exact new_c (by omega) (by omega) (by omega) (by omega) (by omega) fun p w' _ e => hQ _ 0 w' e (fun h => absurd h hB) (fun _ => ⟨rfl, rfl⟩)
theorem rnewA {b q n : Int} (hQ : ∀ p r w', Ext w w' (fun _ => False) → (Bad b q n → p = none ∧ r = 1) → (¬ Bad b q n → p.isNone = false ∧ r = 0) → Q (.tuple #[.pointer p, .int .i64 r]) w') :
    CallE Try.prog 9 #[.agg #[.int .i64 b, .int .i64 q, .int .i64 n]] w Q := by
  by_cases hB : Bad b q n
  · exact rnew_bad hB fun w' e => hQ none 1 w' e (fun _ => ⟨rfl, rfl⟩) (fun h => absurd hB h)
  · have hB' := hB
    unfold Bad at hB'
    obtain ⟨b, rfl⟩ := nat_of (show 0 ≤ b by omega)
    obtain ⟨q, rfl⟩ := nat_of (show 0 ≤ q by omega)
    obtain ⟨n, rfl⟩ := nat_of (show 0 ≤ n by omega)
    exact rnew_c (by omega) (by omega) (by omega) (by omega) (by omega) fun p w' e => hQ _ 0 w' e (fun h => absurd h hB) (fun _ => ⟨rfl, rfl⟩)

theorem getShape_c {p : Nat} {s : Fs} {F : Nat → Prop} (h : Fk w p s F) (hQ : ∀ w', Ext w w' (fun _ => False) → Q (.agg (shp s.nb s.np s.en).toArray) w') : CallE Try.prog 11 #[.pointer (some ⟨p, 0, none⟩)] w Q := by
  apply C.flash_Flash_Shape
  unfold W.flash_Flash_Shape
  obtain ⟨bb, PB, h, f1, f2, f3⟩ := h
  simp only [add_mk, Nat.zero_add]
  refine al_i fun tb w1 htb a1 e1 z1 => ?_
  have d1 := h.d.ext e1 (fun h => h)
  refine ld_cs (vs := shp s.nb s.np s.en) (fun j hj => ?_) (fg ?_)
  · rw [add_mk, d1.cell, Nat.zero_add]
    match j, hj with
    | 0, _ => rfl
    | 1, _ => rfl
    | 2, _ => rfl
  have hz : (zeroT Try.prog 23).cells.toList = shp 0 0 0 := by kernel_rfl
  rw [hz] at a1
  refine st_g 3 a1 (by show 0 + 3 ≤ 3; omega) rfl (shp_one _ _ _) fun w2 a2 e2 z2 => ?_
  change At w2 tb (shp s.nb s.np s.en) 23 at a2
  refine ld_w a2 (fg ?_)
  exact hQ w2 (e1.trans e2 (fun _ _ h => h) (fun b hb hx => by omega))

theorem eqS_nil {S : World → Prop} {P : Program} {t : TypeId} {x y : Operand} {p : Option Addr} {K : Value → Prop} (hK : K (.bool p.isNone)) (ht : isPtr P t = true := by kernel_rfl) :
    rqS P S (do eqGuard .eql t x y (.pointer p) (.pointer none); binOp .eql t (.pointer p) (.pointer none)) K :=
  rqS_r (fun w => by
    obtain ⟨v, h, rfl⟩ := eq_nil (P := P) (t := t) (x := x) (y := y) (p := p) (w := w) (K := (· = .bool p.isNone)) rfl ht
    exact h) hK

/-- A shape is like itself. -/
theorem shp_same {nb np en : Nat} {x y : Operand} (hb1 : 1 ≤ nb) (hb3 : nb ≤ 3) (hp1 : 1 ≤ np) (hp3 : np ≤ 3) (he : en ≤ 5) :
    peel Try.prog (do eqGuard .neq 23 x y (.agg (shp nb np en).toArray) (.agg (shp nb np en).toArray); binOp .neq 23 (.agg (shp nb np en).toArray) (.agg (shp nb np en).toArray)) = some (.bool false) := by
  obtain rfl | rfl | rfl : nb = 1 ∨ nb = 2 ∨ nb = 3 := by omega
  all_goals obtain rfl | rfl | rfl : np = 1 ∨ np = 2 ∨ np = 3 := by omega
  all_goals obtain rfl | rfl | rfl | rfl | rfl | rfl : en = 0 ∨ en = 1 ∨ en = 2 ∨ en = 3 ∨ en = 4 ∨ en = 5 := by omega
  all_goals kernel_rfl

theorem fits_ff (d : Pg) : fits ff d = true := by
  rw [fits_upto]
  intro i hi
  have : ff.getD i 0 = 255 := by unfold ff; rw [List.getD_eq_getElem?_getD, List.getElem?_replicate, if_pos hi]; rfl
  rw [this, show ~~~(255 : UInt8) = 0 from rfl, UInt8.and_zero]

theorem newAgrees_c {x0 x1 x2 : Int} {d : Pg} (hQ : ∀ w', Ext U w' (fun _ => False) → Q (.bool true) w') :
    CallE Try.prog 3 #[.agg #[.int .i64 x0, .int .i64 x1, .int .i64 x2], .string (mkS d)] U Q := by
  apply C.law40_FlashNewAgrees
  unfold W.law40_FlashNewAgrees
  refine al_i fun ab w1 hab a1 e1 z1 => ?_
  refine ld_w a1 (fg ?_)
  refine newA fun p r w2 e2 hb1 hg1 => ⟨_, _, rfl, ?_⟩
  have a2 := a1.ext e2 (fun h => h)
  refine ld_w a2 (fg ?_)
  refine rnewA fun p' r' w3 e3 hb2 hg2 => ⟨_, _, rfl, ?_⟩
  refine ld_w (a2.ext e3 (fun h => h)) (fg ?_)
  refine shape_c fun w4 e4 => fg ?_
  obtain ⟨nb, np, en, ⟨hnb, nb1, nb3⟩, ⟨hnp, np1, np3⟩, hen, en5⟩ := shape_nat x0 x1 x2
  rw [hnb, hnp, hen]
  refine al_st (vs := shp nb np en) 3 rfl (shp_one _ _ _) fun yb w5 hyb a5 e5 z5 => ?_
  refine ld_w a5 (fg ?_)
  have e05 : Ext U w5 (fun _ => False) := (((e1.tr e2).tr e3).tr e4).tr e5
  refine new_c (nb := nb) (np := np) (en := en) nb1 (by omega) np1 (by omega) (by omega) fun q w6 h6 e6 => ⟨_, _, rfl, ?_⟩
  have o6 := One.new h6 e05 e6
  have y6 := a5.ext e6 (fun h => h)
  have ed : Ext w6 (drew w6) (fun _ => False) := (Ext.refl _ _).drew_
  have o7 := o6.same ed
  have y7 := y6.ext ed (fun h => h)
  refine ⟨fun w' => At w' yb (shp nb np en) 23, y7, ?_⟩
  have hpr : r = r' ∧ p.isNone = (r != 0) := by
    by_cases hB : Bad x0 x1 x2
    · obtain ⟨rfl, rfl⟩ := hb1 hB
      obtain ⟨_, rfl⟩ := hb2 hB
      exact ⟨rfl, rfl⟩
    · obtain ⟨h, rfl⟩ := hg1 hB
      obtain ⟨_, rfl⟩ := hg2 hB
      exact ⟨rfl, h⟩
  obtain ⟨rfl, hpn⟩ := hpr
  rw [bne_self_eq_false, br_false]
  refine eqS_nil (fb ?_)
  rw [hpn, beq_self_eq_true, Bool.not_true, br_false, show ((0 : Int) != 0) = false from rfl, br_false]
  refine eqS_nil (fb ?_)
  rw [Option.isNone_some, br_false]
  refine ldS_g (fun w h => h) (fg ?_)
  refine getShape_c o7.d fun w8 e8 => fg ?_
  refine ⟨y7.ext e8 (fun h => h), ?_⟩
  refine rqS_r (fun w => run_of_peel (shp_same nb1 nb3 np1 np3 en5) w) (fb ?_)
  rw [br_false]
  have o8 := o7.same e8
  have hok : Ok (new nb np en) := ok_new nb1 (by omega) np1 (by omega) (by omega)
  refine program_c (b := 0) (q := 0) o8.d hok fun w9 h9 e9 => fi ?_
  have o9 := o8.stay h9 e9
  have hpg : page (new nb np en) 0 0 = ff := by
    unfold page new
    dsimp only
    rw [List.getD_eq_getElem?_getD, List.getD_eq_getElem?_getD, List.getElem?_replicate, if_pos (by omega), Option.getD_some, List.getElem?_replicate, if_pos (by omega), Option.getD_some]
  rw [mkS_size]
  by_cases hd : d.length = 64
  · have hr : (prog (new nb np en) 0 0 d).2 = 0 := by
      have := prog_on (s := new nb np en) (b := 0) (q := 0) (d := d) rfl rfl (by show 0 < nb; omega) (by show 0 < np; omega) hd
      rw [hpg, fits_ff, if_neg (by simp)] at this
      exact congrArg Prod.snd this
    rw [hr, hd, show ((((0 : Int) == 0) == (((64 : Nat) : Int) == 64))) = true from rfl, br_true, show ((0 : Int) == 0) = true from rfl, br_true]
    exact awake_fin hQ o9.e
  · have hr : (prog (new nb np en) 0 0 d).2 = 1 := by
      unfold prog
      rw [if_pos (.inr hd)]
    have h64 : (((d.length : Nat) : Int) == 64) = false := by
      rw [beq_eq_false_iff_ne]; omega
    rw [hr, h64, show ((((1 : Int) == 0) == false)) = true from rfl, br_true, show ((1 : Int) == 0) = false from rfl, br_false, show ((1 : Int) == 1) = true from rfl, br_true]
    exact awake_fin hQ o9.e
end
end Go.Proofs.Ytbfkhnaknbkilaa.Fl
