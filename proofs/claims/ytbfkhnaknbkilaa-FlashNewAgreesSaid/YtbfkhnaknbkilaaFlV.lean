/-
  A flash memory: the statements FlashWear and FlashProgramClears over the code. No condition beyond those stated.
-/
import Derived.Test.YtbfkhnaknbkilaaFlU
namespace Go.Proofs.Ytbfkhnaknbkilaa.Fl
open Go Go.Ev Go.Proofs Go.ChangeShapes Go.WideShapes Go.ChangeAt Go.RowKit

def ints (l : List Nat) : List Value := l.map fun (n : Nat) => .int .i64 (n : Int)
theorem ints_length (l : List Nat) : (ints l).length = l.length := by simp [ints]
theorem ints_getD {l : List Nat} {i : Nat} (h : i < l.length) : (ints l)[i]? = some (.int .i64 ((l.getD i 0 : Nat) : Int)) := by
  rw [List.getD_eq_getElem?_getD, List.getElem?_eq_getElem h]; simp [ints, h]
theorem ints_set (l : List Nat) (i n : Nat) : (ints l).set i (.int .i64 (n : Int)) = ints (l.set i n) := by simp [ints, List.map_set]

/-- Erase, while the power is on and nothing is planned. -/
theorem era_on {s : Fs} {b : Nat} (ho : s.off = false) (hc : s.cut = false) (hb : b < s.nb) : era s (b : Int) = if s.en ≤ s.er.getD b 0 then (s, 15) else (eraB { s with er := s.er.set b (s.er.getD b 0 + 1) } b full, 0) := by
  unfold era
  rw [if_neg (by rw [isB_in hb]; simp), if_neg (by simp [ho]), Int.toNat_natCast, intr_none (s := { s with er := s.er.set b (s.er.getD b 0 + 1) }) hc]
  rfl
theorem prog_on {s : Fs} {b q : Nat} {d : Pg} (ho : s.off = false) (hc : s.cut = false) (hb : b < s.nb) (hq : q < s.np) (hd : d.length = 64) : prog s (b : Int) (q : Int) d = if fits (page s b q) d = false then (s, 9) else (setP s b q d, 0) := by
  unfold prog
  rw [if_neg (by rw [isP_in hb hq]; simp [hd]), if_neg (by simp [ho]), Int.toNat_natCast, Int.toNat_natCast, intr_none hc]
  rfl

section
variable {U w : World} {Q : Value → World → Prop}

theorem wear_k24 {p yb nb np en i i' kb b : Nat} {s : Fs} {F : Nat → Prop} {l : Option Addr} {ln lc : Nat} {next : (Int × Unit) → World → Prop} (h : Lp U w p yb nb np en i' s F) (hk : At w kb (ints s.er) 3) (hb : b < nb) (hi : i ≤ 1000)
    (hn : ∀ w', Lp U w' p yb nb np en i' s F → At w' kb (ints s.er) 3 → next (((i + 1 : Nat) : Int), ()) w') :
    W.law40_FlashWear_k24 l ln lc ⟨yb, 0, none⟩ (some ⟨p, 0, none⟩) (some ⟨kb, 0, none⟩) nb nb (i : Int) (b : Int) next w Q := by
  unfold W.law40_FlashWear_k24
  have hok := h.pr.ok
  have hbn : b < s.nb := by rw [h.pr.nb]; exact hb
  refine ⟨fun w' => At w' kb (ints s.er) 3, hk, ?_⟩
  refine ixbS b 1 3 hb ?_
  refine ldS_i (fun w h => h) (by rw [Nat.mul_one]; exact ints_getD (by rw [hok.le]; exact hbn)) (fi ?_)
  have e0 : Ext w (drew w) (fun _ => False) := (Ext.refl _ _).drew_
  have o1 := h.o.same e0
  refine erases_c o1.d hok (fi ⟨hk, ?_⟩)
  have hes : eras s (b : Int) = ((s.er.getD b 0 : Nat) : Int) := by unfold eras; rw [if_pos (isB_in hbn), Int.toNat_natCast]
  rw [hes, bne_self_eq_false, br_false, inc_nat (by omega)]
  exact hn (drew w) ⟨o1, h.pr, h.y.ext e0 (fun h => h), h.yf, h.yu⟩ hk

theorem wear_c {x0 x1 x2 : Int} {l : Option Addr} {ln lc : Nat} {cs : List Cl} (hC : Cin U l ln cs) (hQ : ∀ w', Ext U w' (fun _ => False) → Q (.bool true) w') :
    CallE Try.prog 6 #[.agg #[.int .i64 x0, .int .i64 x1, .int .i64 x2], .slice l ln lc] U Q := by
  apply C.law40_FlashWear
  unfold W.law40_FlashWear
  refine al_i fun ab w1 hab a1 e1 z1 => ?_
  refine br_of (fun _ => awake_fin hQ e1) (fun h60 => ?_)
  simp only [decide_eq_false_iff_not] at h60
  refine ld_w a1 (fg ?_)
  refine shape_c fun w3 e3 => fg ?_
  obtain ⟨nb, np, en, ⟨hnb, nb1, nb3⟩, ⟨hnp, np1, np3⟩, hen, en5⟩ := shape_nat x0 x1 x2
  rw [hnb, hnp, hen]
  refine al_st (vs := shp nb np en) 3 rfl (shp_one _ _ _) fun yb w4 hyb a4 e4 z4 => ?_
  refine ld_w a4 (fg ?_)
  have e14 : Ext U w4 (fun _ => False) := (e1.tr e3).tr e4
  have hs3 := (e1.tr e3).size
  refine new_c (nb := nb) (np := np) (en := en) nb1 (by omega) np1 (by omega) (by omega) fun p w6 h6 e6 => ⟨_, _, rfl, ?_⟩
  have o6 := One.new h6 e14 e6
  rw [show ((0 : Int) != 0) = false from rfl, br_false]
  refine eq_nil (fb ?_)
  rw [Option.isNone_some, br_false]
  have y6 := a4.ext e6 (fun h => h)
  have hylt := a4.lt
  simp only [add_mk, Nat.zero_add]
  refine ldI y6 rfl ?_
  refine mk_i 3 1 (by omega) (by omega) fun kb w7 hkb a7 e7 z7 => fs ?_
  rw [Int.toNat_natCast] at *
  have hz : zeroL Try.prog 3 = [.int .i64 0] := by kernel_rfl
  rw [hz, zeros_one, show List.replicate nb (Value.int .i64 0) = ints (new nb np en).er by simp [ints, new]] at a7
  have hs4 := e14.size
  have hs6 := e6.size
  have l7 : Lp U w7 p yb nb np en 0 (new nb np en) (fun b => w4.heap.size ≤ b ∧ b < w6.heap.size) := ⟨o6.same e7, pre_new nb1 (by omega) np1 (by omega) (by omega), y6.ext e7 (fun h => h), fun hx => by omega, by omega⟩
  refine LoopW.nat ln (fun i x w' => x = ((i : Int), ()) ∧ ∃ s, Lp U w' p yb nb np en i s (fun b => w4.heap.size ≤ b ∧ b < w6.heap.size) ∧ At w' kb (ints s.er) 3) ⟨rfl, _, l7, a7⟩ ?_
  rintro i x w8 next hi ⟨rfl, s, l8, k8⟩ hnext
  dsimp only
  have hkF : ¬ (w4.heap.size ≤ kb ∧ kb < w6.heap.size) := fun hx => by omega
  by_cases hlt : i < ln
  case neg =>
    rw [decide_eq_false (by omega), br_false]
    unfold W.law40_FlashWear_k26
    exact awake_fin hQ l8.o.e
  rw [decide_eq_true (by omega), br_true]
  have hic : i < cs.length := by rw [hC.n]; exact hlt
  have hok := l8.pr.ok
  have hsn := l8.pr.nb; have hsp := l8.pr.np; have hse := l8.pr.en
  refine prep l8 hC hlt hic (by omega) (by omega) fun zb w9 b q hb hbn hq hqn l9 hz9 e9 => ?_
  rw [show (⟨zb, 0, none⟩ : Addr).add 0 = ⟨zb, 0, none⟩ from rfl]
  refine ldI hz9 rfl ?_
  have k9 := k8.ext e9 hkF
  have mk := modv_bd (v := cs[i].kind) (n := 7) (by omega)
  have hbs : b < s.nb := by omega
  have hqs : q < s.np := by omega
  change br (decide (modv cs[i].kind 7 ≥ 5)) _ _
  by_cases h5 : modv cs[i].kind 7 ≥ 5
  case neg =>
    rw [decide_eq_false h5, br_false]
    have her : (doF s (low cs[i] 7) (b : Int) (q : Int) (page s b q)).1.er = s.er := by
      unfold doF
      split
      · rw [prog_on l8.pr.on l8.pr.nc hbs hqs (dat_length _ _)]
        split <;> rfl
      split
      · rfl
      · rename_i h1 h2
        have hk' : (low cs[i] 7).kind = modv cs[i].kind 7 := rfl
        omega
    rw [← her] at k9
    exact wear_k24 l9 k9 hbn (by omega) fun w' l' k' => hnext hlt _ _ ⟨rfl, _, l', k'⟩
  rw [decide_eq_true h5, br_true]
  have hdo : doF s (low cs[i] 7) (b : Int) (q : Int) (page s b q) = ((era s (b : Int)).1, [], (era s (b : Int)).2) := by
    unfold doF
    rw [if_neg (by show ¬ modv cs[i].kind 7 < 4; omega), if_neg (by show ¬ modv cs[i].kind 7 = 4; omega)]
  rw [hdo] at l9 ⊢
  dsimp only at l9 ⊢
  change dr w9 _
  unfold dr
  have e0 : Ext w9 (drew w9) (fun _ => False) := (Ext.refl _ _).drew_
  have l10 : Lp U (drew w9) p yb nb np en (i + 1) (era s (b : Int)).1 (fun b => w4.heap.size ≤ b ∧ b < w6.heap.size) := ⟨l9.o.same e0, l9.pr, l9.y.ext e0 (fun h => h), l9.yf, l9.yu⟩
  have k10 : At (drew w9) kb (ints s.er) 3 := k9
  generalize drew w9 = w10 at *
  refine ixb b 1 3 hbn ?_
  refine ldI k10 (by rw [Nat.mul_one]; exact ints_getD (by rw [hok.le]; exact hbs)) ?_
  refine ldI l10.y rfl ?_
  have hera := era_on l8.pr.on l8.pr.nc hbs
  by_cases hge : s.en ≤ s.er.getD b 0
  · rw [if_pos hge] at hera
    rw [hera] at l10 ⊢
    dsimp only at l10 ⊢
    rw [decide_eq_false (by omega), show (!(((15 : Int) == 0) == false)) = false from rfl, br_false, show ((15 : Int) != 0) = true from rfl, br_true, show ((15 : Int) != 15) = false from rfl, br_false]
    unfold W.law40_FlashWear_k19
    rw [show ((15 : Int) == 0) = false from rfl, br_false]
    exact wear_k24 l10 k10 hbn (by omega) fun w' l' k' => hnext hlt _ _ ⟨rfl, _, l', k'⟩
  · rw [if_neg hge] at hera
    have herl := getD_le l8.pr.er b
    rw [hera] at l10 ⊢
    dsimp only at l10 ⊢
    rw [decide_eq_true (by omega), show (!(((0 : Int) == 0) == true)) = false from rfl, br_false, show ((0 : Int) != 0) = false from rfl, br_false]
    unfold W.law40_FlashWear_k19
    rw [show ((0 : Int) == 0) = true from rfl, br_true]
    refine ixb b 1 3 hbn ?_
    refine ldI k10 (by rw [Nat.mul_one]; exact ints_getD (by rw [hok.le]; exact hbs)) ?_
    refine ixb b 1 3 hbn ?_
    rw [inc_nat (by omega)]
    refine st_i k10 (by rw [ints_length, hok.le]; omega) fun w11 a11 e11 z11 => ?_
    rw [ints_set, Nat.mul_one] at a11
    have hs8 := l8.o.e.size
    have hk8 := k8.lt
    have o11 := l10.o.own e11 hkF (by omega)
    have l11 : Lp U w11 p yb nb np en (i + 1) (eraB { s with er := s.er.set b (s.er.getD b 0 + 1) } b full) (fun b => w4.heap.size ≤ b ∧ b < w6.heap.size) := ⟨o11, l10.pr, l10.y.ext e11 (by omega), l10.yf, l10.yu⟩
    refine read_c o11.d l10.pr.ok ⟨_, _, rfl, ?_⟩
    have hokm : Ok { s with er := s.er.set b (s.er.getD b 0 + 1) } := hok.more (by omega)
    rw [rd_in l10.pr.on (by exact hbs) (by exact hqs), page_eraB hokm hbs hqs, eraT_full]
    dsimp only
    rw [show ((0 : Int) != 0) = false from rfl, br_false]
    refine fill_c (c := 255) fun w12 e12 => ft ?_
    refine qB s_ne ?_
    rw [decide_eq_true (show ff = List.replicate 64 255 from rfl), Bool.not_true, br_false]
    have l12 : Lp U w12 p yb nb np en (i + 1) (eraB { s with er := s.er.set b (s.er.getD b 0 + 1) } b full) (fun b => w4.heap.size ≤ b ∧ b < w6.heap.size) := ⟨l11.o.same e12, l11.pr, l11.y.ext e12 (fun h => h), l11.yf, l11.yu⟩
    exact wear_k24 l12 (a11.ext e12 (fun h => h)) hbn (by omega) fun w' l' k' => hnext hlt _ _ ⟨rfl, _, l', k'⟩
end
end Go.Proofs.Ytbfkhnaknbkilaa.Fl
