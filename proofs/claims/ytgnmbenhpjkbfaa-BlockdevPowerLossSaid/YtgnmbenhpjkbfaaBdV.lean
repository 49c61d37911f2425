/-
  A block device: the statements BlockdevKeepPrefix and BlockdevContentsAreCopies over the code. No condition beyond those stated.
-/
import Derived.Test.YtgnmbenhpjkbfaaBdU
namespace Go.Proofs.Ytgnmbenhpjkbfaa.Bd
open Go Go.Ev Go.Proofs Go.ChangeShapes Go.WideShapes Go.ChangeAt Go.RowKit

/-- Two disks of the program's. -/
abbrev PP (U w : World) (p q : Nat) (s r : St) (F G : Nat → Prop) : Prop := Duo U w (fun w F => Dk w p s F) (fun w G => Dk w q r G) F G
theorem PP.same {U w w' : World} {p q : Nat} {s r : St} {F G : Nat → Prop} (h : PP U w p q s r F G) (e : Ext w w' (fun _ => False)) : PP U w' p q s r F G :=
  Duo.same h e (Dk.ext (w := w) h.a e (fun _ _ h => h)) (Dk.ext (w := w) h.b e (fun _ _ h => h))
theorem PP.left' {U w w' : World} {p q : Nat} {s s' r : St} {F F' G : Nat → Prop} (h : PP U w p q s r F G) (ha : Dk w' p s' F') (he : Ext w w' F) (hF : ∀ b, F' b → F b ∨ w.heap.size ≤ b) : PP U w' p q s' r (fun b => F' b ∧ b < w'.heap.size) G :=
  Duo.left (A' := fun w F => Dk w p s' F) h ha.tight he hF (Dk.ext (w := w) h.b he (fun b hb hx => h.ne b hx hb))
theorem PP.right' {U w w' : World} {p q : Nat} {s r r' : St} {F G G' : Nat → Prop} (h : PP U w p q s r F G) (hb : Dk w' q r' G') (he : Ext w w' G) (hG : ∀ b, G' b → G b ∨ w.heap.size ≤ b) : PP U w' p q s r' F (fun b => G' b ∧ b < w'.heap.size) :=
  Duo.right (B' := fun w G => Dk w q r' G) h hb.tight he hG (Dk.ext (w := w) h.a he (fun b hb hx => h.ne b hb hx))
/-- A block of the law's own is written. -/
theorem PP.own {U w w' : World} {p q b0 : Nat} {s r : St} {F G : Nat → Prop} (h : PP U w p q s r F G) (e : Ext w w' (· = b0)) (hz : w'.heap.size = w.heap.size) (hF : ¬ F b0) (hG : ¬ G b0) (hU : U.heap.size ≤ b0) : PP U w' p q s r F G :=
  ⟨Dk.ext (w := w) h.a e (fun b hb hx => hF (hx ▸ hb)), Dk.ext (w := w) h.b e (fun b hb hx => hG (hx ▸ hb)), fun b hb => by rw [hz]; exact h.f b hb, fun b hb => by rw [hz]; exact h.g b hb, h.ne, h.e.trans e (fun _ _ h => h) (fun b hb hx => by omega)⟩

/-- The write that a call stands for. -/
def wOf (k : Nat) (c : Cl) : Nat × Sec := ((modv c.sect (k : Int)).toNat, sec c.data)
/-- A disk on which the first i of the writes were made. -/
def stW (k : Nat) (cs : List Cl) (i : Nat) : St := ⟨List.replicate k zs, (cs.take i).map (wOf k), false, none⟩
theorem stW_ok {k : Nat} (hk : 1 ≤ k) (cs : List Cl) (i : Nat) : Ok k i (stW k cs i) := by
  refine ⟨by simp [stW], fun c hc => ?_, by simp [stW]; omega, by simp [stW]⟩
  simp only [stW, List.mem_map] at hc
  obtain ⟨x, _, rfl⟩ := hc
  have := modv_bd (v := x.sect) (n := (k : Int)) (by omega)
  show (modv x.sect (k : Int)).toNat < k
  omega
theorem stW_succ {k : Nat} (hk : 1 ≤ k) {cs : List Cl} {i : Nat} (hi : i < cs.length) : wr (stW k cs i) (modv cs[i].sect (k : Int)) (sec cs[i].data) = (stW k cs (i + 1), 0) := by
  have hm := modv_bd (v := cs[i].sect) (n := (k : Int)) (by omega)
  rw [wr_ok rfl rfl hm.1 (by rw [(stW_ok hk cs i).len]; exact hm.2) (sec_length _)]
  unfold stW
  rw [List.take_succ_eq_append_getElem hi, List.map_append]
  rfl

section
variable {U w : World} {Q : Value → World → Prop}

theorem keepPrefix_c {n k_ : Int} {l : Option Addr} {ln lc : Nat} {cs : List Cl} (hC : Cin U l ln cs) (hQ : ∀ w', Ext U w' (fun _ => False) → Q (.bool true) w') :
    CallE Try.prog 7 #[.int .i64 n, .slice l ln lc, .int .i64 k_] U Q := by
  apply C.law32_BlockdevKeepPrefix
  unfold W.law32_BlockdevKeepPrefix
  refine br_of (fun _ => awake_fin hQ (Ext.refl _ _)) (fun h40 => ?_)
  simp only [decide_eq_false_iff_not] at h40
  refine mod_c (by omega) (by omega) (fi ?_)
  obtain ⟨k, hk, hk1, hk5⟩ := size_of (n := n)
  rw [hk]
  refine new_c hk1 (by omega) fun p w1 h1 e1 => ⟨_, _, rfl, ?_⟩
  refine new_c hk1 (by omega) fun q w2 h2 e2 => ⟨_, _, rfl, ?_⟩
  rw [show ((0 : Int) != 0) = false from rfl, br_false, br_false]
  refine eq_nil (fb ?_)
  rw [Option.isNone_some, br_false]
  refine eq_nil (fb ?_)
  rw [Option.isNone_some, br_false]
  have hs1 := e1.size
  have d2 : PP U w2 p q (stW k cs 0) (stW k cs 0) (fun b => U.heap.size ≤ b ∧ b < w1.heap.size) (fun b => w1.heap.size ≤ b ∧ b < w2.heap.size) :=
    ⟨(h1.tight).ext e2 (fun _ _ h => h), h2.tight, fun b hb => ⟨hb.1, by have := e2.size; omega⟩, fun b hb => ⟨by omega, hb.2⟩, fun b hb hg => by omega, e1.tr e2⟩
  rw [show IntKind.wrap .i64 ((ln : Int) + 1) = ((ln + 1 : Nat) : Int) from inc_nat (by omega)]
  refine mod_c (by omega) (by omega) (fi ?_)
  have hm := modv_bd (v := k_) (n := ((ln + 1 : Nat) : Int)) (by omega)
  obtain ⟨f, hf⟩ := nat_of hm.1
  rw [hf] at hm ⊢
  refine mk_i 4 1 (by omega) (by omega) fun kb w3 hkb a3 e3 z3 => fs ?_
  rw [Int.toNat_natCast] at *
  have hz : zeroL Try.prog 4 = [.bool false] := by kernel_rfl
  rw [hz, zeros_one] at a3
  have d3 := PP.same d2 e3
  have hs2 := e2.size
  refine LoopW.nat ln (fun i x w' => x = ((i : Int), ()) ∧ ∃ F G, PP U w' p q (stW k cs i) (stW k cs (min i f)) F G ∧ At w' kb (bls (List.replicate (min i f) true ++ List.replicate (f - i) false)) 4 ∧ ¬ F kb ∧ ¬ G kb) ⟨rfl, _, _, by rw [Nat.zero_min]; exact d3, ?_, fun hx => by omega, fun hx => by omega⟩ ?_
  · rw [Nat.zero_min]
    have : bls (List.replicate 0 true ++ List.replicate (f - 0) false) = List.replicate f (.bool false) := by simp [bls]
    rw [this]
    exact a3
  rintro i x w4 next hi ⟨rfl, F, G, d4, a4, hF, hG⟩ hnext
  dsimp only
  have hs4 := d4.e.size
  by_cases hlt : i < ln
  case neg =>
    rw [decide_eq_false (by omega), br_false]
    obtain rfl : i = ln := by omega
    rw [Nat.min_eq_right (by omega), show f - i = 0 by omega, List.replicate_zero, List.append_nil] at a4
    rw [Nat.min_eq_right (by omega)] at d4
    unfold W.law32_BlockdevKeepPrefix_k20
    have hok1 := (stW_ok hk1 cs i).le (show i ≤ 1000000 by omega)
    have hok2 := (stW_ok hk1 cs f).le (show f ≤ 1000000 by omega)
    refine powerOff_c (kl := List.replicate f true) d4.a hok1 (.inr ⟨_, rfl, fun j hj => by rw [add_mk, a4.cell, Nat.zero_add]⟩) List.length_replicate (fun r hr _ hx => by cases hr; exact hF hx) fun w5 h5 e5 => fi ?_
    have d5 := PP.left' d4 h5 e5 (fun b hb => .inl hb)
    have hp : pOff (stW k cs i) (List.replicate f true) = (⟨all (((cs.take i).map (wOf k)).take f) (List.replicate k zs), [], true, none⟩, 0) := by
      unfold pOff lose
      rw [if_neg (by simp [stW]), sel_head]
      rfl
    rw [hp] at d5 ⊢
    dsimp only at d5 ⊢
    rw [show ((0 : Int) == 0) = true from rfl, br_true]
    refine flush_c d5.b hok2 fun w6 h6 e6 => fi ?_
    have d6 := PP.right' d5 h6 e6 (fun b hb => .inl hb)
    have hfl : fl (stW k cs f) = (⟨all ((cs.take f).map (wOf k)) (List.replicate k zs), [], false, none⟩, 0) := rfl
    rw [hfl] at d6 ⊢
    dsimp only at d6 ⊢
    rw [show ((0 : Int) == 0) = true from rfl, br_true]
    have heq : ((cs.take i).map (wOf k)).take f = (cs.take f).map (wOf k) := by
      rw [← List.map_take, List.take_take, Nat.min_eq_left (by omega)]
    rw [heq] at d6
    have okc : ∀ off : Bool, Ok k 1000000 ⟨all ((cs.take f).map (wOf k)) (List.replicate k zs), [], off, none⟩ := fun off => ⟨by rw [all_length, List.length_replicate], by simp, by simp, by simp⟩
    refine contents_c d6.a (okc _) (by omega) fun a7 c7 w7 s7 hn7 e7 => fs ?_
    have b7 := Dk.ext (w := w6) d6.b e7 (fun _ _ h => h)
    refine contents_c b7 (okc _) (by omega) fun a8 c8 w8 s8 hn8 e8 => fs ?_
    refine equal_c (s7.ext e8 (fun _ _ h => h)).reads s8.reads (okc true).len (okc true).len (by omega) fun w9 e9 => fb ?_
    rw [decide_eq_true rfl, br_true]
    exact awake_fin hQ (((d6.e.tr e7).tr e8).tr e9)
  rw [decide_eq_true (by omega), br_true]
  have hic : i < cs.length := by rw [hC.n]; exact hlt
  obtain ⟨lp, rfl⟩ := hC.ptr (by omega)
  refine ixs i 5 37 hlt ?_
  refine rdF (f := Cl.cells) i hic (hC.ext d4.e).r (fun _ => rfl) (by omega) rfl (fi ?_)
  refine mod_c (by omega) (by omega) (fi ?_)
  refine ixs i 5 37 hlt ?_
  refine rdF (f := Cl.cells) i hic (hC.ext d4.e).r (fun _ => rfl) (by omega) rfl (fi ?_)
  refine sector_c fun w5 e5 => ft ?_
  have d5 := PP.same d4 e5
  have hok1 := (stW_ok hk1 cs i).le (show i ≤ 1000000 by omega)
  refine write_c d5.a hok1 fun w6 F6 h6 e6 hF6 => fi ?_
  rw [stW_succ hk1 hic] at h6 ⊢
  have d6 := PP.left' d5 h6 e6 hF6
  dsimp only at d6 ⊢
  rw [show ((0 : Int) != 0) = false from rfl, br_false]
  have hkl4 := a4.lt
  have a6 := (a4.ext e5 (fun h => h)).ext e6 hF
  have hs5 := e5.size
  have hkF6 : ¬ (F6 kb ∧ kb < w6.heap.size) := fun hx => by
    rcases hF6 kb hx.1 with hy | hy
    · exact hF hy
    · omega
  by_cases hif : i < f
  · rw [decide_eq_true (by omega), br_true]
    refine ixb i 1 4 (by omega) ?_
    refine st_i a6 (by rw [bls_length]; simp only [List.length_append, List.length_replicate]; omega) fun w7 a7 e7 z7 => ?_
    rw [bls_set, Nat.mul_one] at a7
    have d7 := PP.own d6 e7 z7 hkF6 hG (by omega)
    refine ixs i 5 37 hlt ?_
    refine rdF (f := Cl.cells) i hic (hC.ext d7.e).r (fun _ => rfl) (by omega) rfl (fi ?_)
    refine sector_c fun w8 e8 => ft ?_
    have d8 := PP.same d7 e8
    rw [Nat.min_eq_left (by omega)] at d8
    refine write_c d8.b hok1 fun w9 G9 h9 e9 hG9 => fi ?_
    rw [stW_succ hk1 hic] at h9 ⊢
    have d9 := PP.right' d8 h9 e9 hG9
    dsimp only at d9 ⊢
    rw [show ((0 : Int) != 0) = false from rfl, br_false, inc_nat (by omega)]
    have a9 := (a7.ext e8 (fun h => h)).ext e9 hG
    have hs8 := e8.size
    have hs6 := e6.size
    have hkl7 := a7.lt
    refine hnext hlt _ _ ⟨rfl, _, _, by rw [Nat.min_eq_left (show i + 1 ≤ f by omega)]; exact d9, ?_, hkF6, fun hx => by
      rcases hG9 kb hx.1 with hy | hy
      · exact hG hy
      · omega⟩
    have : (List.replicate (min i f) true ++ List.replicate (f - i) false).set i true = List.replicate (min (i + 1) f) true ++ List.replicate (f - (i + 1)) false := by
      rw [Nat.min_eq_left (by omega), Nat.min_eq_left (by omega), List.set_append_right _ _ (by simp), List.length_replicate, Nat.sub_self, show f - i = (f - (i + 1)) + 1 by omega, List.replicate_succ, List.set_cons_zero, List.replicate_succ', List.append_assoc]
      rfl
    rw [this] at a9
    exact a9
  · rw [decide_eq_false (by omega), br_false, inc_nat (by omega)]
    refine hnext hlt _ _ ⟨rfl, _, _, by rw [Nat.min_eq_right (show f ≤ i + 1 by omega)]; rw [Nat.min_eq_right (by omega)] at d6; exact d6, ?_, hkF6, hG⟩
    rw [Nat.min_eq_right (by omega), show f - i = 0 by omega] at a6
    rw [Nat.min_eq_right (by omega), show f - (i + 1) = 0 by omega]
    exact a6

theorem copies_k20 {l : Option Addr} {ln lc p q i : Nat} {cs : List Cl} {s : St} {F G : Nat → Prop} {next : (Int × Unit) → World → Prop} (hC : Cin U l ln cs) (hi : i < ln) (hln : ln ≤ 20) (hok : Ok 3 i s) (d : PP U w p q s s F G)
    (hn : ∀ w' s' F' G', Ok 3 (i + 1) s' → PP U w' p q s' s' F' G' → next (((i + 1 : Nat) : Int), ()) w') :
    W.law32_BlockdevContentsAreCopies_k20 l ln lc (some ⟨p, 0, none⟩) (some ⟨q, 0, none⟩) (i : Int) next w Q := by
  unfold W.law32_BlockdevContentsAreCopies_k20
  have hic : i < cs.length := by rw [hC.n]; exact hi
  obtain ⟨lp, rfl⟩ := hC.ptr (by omega)
  have hok' := hok.le (show i ≤ 1000000 by omega)
  refine ⟨fun w' => Ext U w' (fun _ => False), d.e.drew_, ?_⟩
  refine ixsS i 5 37 hi ?_
  refine rdFS (f := Cl.cells) i hic (fun w' hw' => (hC.ext hw').r) (fun _ => rfl) (by omega) rfl (fi ?_)
  refine ixsS i 5 37 hi ?_
  refine rdFS (f := Cl.cells) i hic (fun w' hw' => (hC.ext hw').r) (fun _ => rfl) (by omega) rfl (fi ?_)
  refine ixsS i 5 37 hi ?_
  refine rdFS (f := Cl.cells) i hic (fun w' hw' => (hC.ext hw').r) (fun _ => rfl) (by omega) rfl (fi ?_)
  refine ixsS i 5 37 hi ?_
  refine rdFS (f := Cl.cells) i hic (fun w' hw' => (hC.ext hw').r) (fun _ => rfl) (by omega) rfl (fi ?_)
  refine mod_c (by omega) (by omega) (fi ⟨d.e.drew_, ?_⟩)
  refine sector_c fun w1 e1 => ft ?_
  have d1 := PP.same d e1.of_drew
  refine ⟨d1.e, ?_⟩
  refine write_c d1.a hok' fun w2 F2 h2 e2 hF2 => fi ?_
  have d2 := PP.left' d1 h2 e2 hF2
  refine ⟨d2.e, ?_⟩
  refine mod_c (by omega) (by omega) (fi ⟨d2.e, ?_⟩)
  refine sector_c fun w3 e3 => ft ?_
  have d3 := PP.same d2 e3
  refine ⟨d3.e, ?_⟩
  refine write_c d3.b hok' fun w4 G4 h4 e4 hG4 => fi ?_
  have d4 := PP.right' d3 h4 e4 hG4
  refine ⟨d4.e, ?_⟩
  rw [bne_self_eq_false, br_false, inc_nat (by omega)]
  exact hn w4 _ _ _ (hok.wr _ _) d4

theorem copies_k14 {l : Option Addr} {ln lc p q : Nat} {cs : List Cl} {s : St} {F G : Nat → Prop} (hC : Cin U l ln cs) (hln : ln ≤ 20) (hok : Ok 3 0 s) (d : PP U w p q s s F G) (hQ : ∀ w', Ext U w' (fun _ => False) → Q (.bool true) w') :
    W.law32_BlockdevContentsAreCopies_k14 l ln lc (some ⟨p, 0, none⟩) (some ⟨q, 0, none⟩) w Q := by
  unfold W.law32_BlockdevContentsAreCopies_k14
  refine LoopW.nat ln (fun i x w' => x = ((i : Int), ()) ∧ ∃ s F G, Ok 3 i s ∧ PP U w' p q s s F G) ⟨rfl, s, F, G, hok, d⟩ ?_
  rintro i x w1 next hi ⟨rfl, s, F, G, hok1, d1⟩ hnext
  dsimp only
  have hok' := hok1.le (show i ≤ 1000000 by omega)
  by_cases hlt : i < ln
  case neg =>
    rw [decide_eq_false (by omega), br_false]
    unfold W.law32_BlockdevContentsAreCopies_k22
    refine contents_c d1.a hok' (by omega) fun a2 c2 w2 s2 hn2 e2 => fs ?_
    have b2 := Dk.ext (w := w1) d1.b e2 (fun _ _ h => h)
    refine contents_c b2 hok' (by omega) fun a3 c3 w3 s3 hn3 e3 => fs ?_
    refine equal_c (s2.ext e3 (fun _ _ h => h)).reads s3.reads hok1.len hok1.len (by omega) fun w4 e4 => fb ?_
    rw [decide_eq_true rfl, br_true]
    exact awake_fin hQ (((d1.e.tr e2).tr e3).tr e4)
  rw [decide_eq_true (by omega), br_true]
  refine contents_c d1.a hok' (by omega) fun a2 c2 w2 s2 hn2 e2 => fs ?_
  rw [show (((3 : Nat) : Int) == 3) = true from rfl, br_true]
  obtain ⟨xb, rfl⟩ := s2.one_block (by omega)
  have hxb := hn2 xb rfl
  rw [show Int.tmod (i : Int) 3 = ((i % 3 : Nat) : Int) from rfl]
  refine ixb (i % 3) 1 9 (by omega) ?_
  refine slS s2 (by rw [strs_length, hok1.len]; omega) fun w3 s3 e3 z3 => ?_
  have d2 := PP.same d1 e2
  have hs1 := d1.e.size
  have d3 := PP.own d2 e3 z3 (fun hx => by have := (d1.f xb hx).2; omega) (fun hx => by have := (d1.g xb hx).2; omega) (by omega)
  exact copies_k20 hC hlt hln hok1 d3 fun w' s' F' G' ok' d' => hnext hlt _ _ ⟨rfl, s', F', G', ok', d'⟩

theorem contentsAreCopies_c {l ka : Option Addr} {ln lc kn kc : Nat} {cs : List Cl} {kl : List Bool} (hC : Cin U l ln cs) (hK : KOk U ka kn kl) (hQ : ∀ w', Ext U w' (fun _ => False) → Q (.bool true) w') :
    CallE Try.prog 4 #[.slice l ln lc, .slice ka kn kc] U Q := by
  apply C.law32_BlockdevContentsAreCopies
  unfold W.law32_BlockdevContentsAreCopies
  have key : ∀ b : Bool, (b = false → 1 ≤ ln ∧ ln ≤ 20) → W.law32_BlockdevContentsAreCopies_k2 l ln lc ka kn kc b U Q := by
    intro b hb
    unfold W.law32_BlockdevContentsAreCopies_k2
    refine br_of (fun _ => awake_fin hQ (Ext.refl _ _)) (fun hbf => ?_)
    obtain ⟨hl1, hl20⟩ := hb hbf
    refine new_c (n := 3) (by omega) (by omega) fun p w1 h1 e1 => ⟨_, _, rfl, ?_⟩
    refine new_c (n := 3) (by omega) (by omega) fun q w2 h2 e2 => ⟨_, _, rfl, ?_⟩
    rw [show ((0 : Int) != 0) = false from rfl, br_false, br_false]
    refine eq_nil (fb ?_)
    rw [Option.isNone_some, br_false]
    refine eq_nil (fb ?_)
    rw [Option.isNone_some, br_false]
    have hs1 := e1.size
    have hs2 := e2.size
    have d2 : PP U w2 p q (new 3) (new 3) (fun b => U.heap.size ≤ b ∧ b < w1.heap.size) (fun b => w1.heap.size ≤ b ∧ b < w2.heap.size) :=
      ⟨(h1.tight).ext e2 (fun _ _ h => h), h2.tight, fun b hb => ⟨hb.1, by omega⟩, fun b hb => ⟨by omega, hb.2⟩, fun b hb hg => by omega, e1.tr e2⟩
    refine al_i fun xb w3 hxb a3 e3 z3 => ?_
    have hK3 := hK.ext (d2.e.tr e3)
    refine ap_0 4 (vs := bls kl) (.inr ⟨xb, [], rfl, a3, rfl, rfl, Nat.le_refl _⟩) hK3.r (by rw [bls_length, hK.n]) (bls_one kl) hK.le fun ma mc w4 s4 hor _ e4 => fs ?_
    have e24 : Ext w2 w4 (fun _ => False) := e3.trans e4 (fun _ _ h => h) (fun b hb hx => by have := slb hx; omega)
    have d4 := PP.same d2 e24
    have hmb : ∀ b, ma = some ⟨b, 0, none⟩ → w2.heap.size ≤ b ∧ b < w4.heap.size := by
      intro b hb
      subst hb
      refine ⟨?_, s4.lt⟩
      rcases hor b rfl with hx | hx
      · have := slb hx; omega
      · omega
    rw [show IntKind.wrap .i64 ((ln : Int) - 1) = ((ln - 1 : Nat) : Int) by rw [wrap_i64 (by omega) (by omega)]; omega]
    have hmF : ∀ r : Addr, ma = some r → kl ≠ [] → ¬ (U.heap.size ≤ r.block ∧ r.block < w1.heap.size) := by
      intro r hr hne hx
      rcases s4 with ⟨hh, _⟩ | ⟨b, sp, hb, _⟩
      · rw [hr] at hh; cases hh
      · rw [hr] at hb; cases hb
        have h1 := (hmb b hr).1
        have h2 : b < w1.heap.size := hx.2
        omega
    refine cutAfter_c d4.a s4.reads hK.n hK.le hmF fun w5 F5 h5 e5 hF5 => ⟨rfl, ?_⟩
    have d5 := PP.left' d4 h5 e5 hF5
    have hK5 := hK.ext d5.e
    refine cutAfter_c d5.b hK5.r hK5.n hK5.le (fun r hr hne hx => by have := hK.lt r hr hne; have := (d5.g _ hx).1; omega) fun w6 G6 h6 e6 hG6 => ⟨rfl, ?_⟩
    have d6 := PP.right' d5 h6 e6 hG6
    have s5 : Sl w5 4 1 ma kn mc (bls kl) := s4.ext e5 (fun b hb hx => by have := (hmb b hb).1; omega)
    have s6 : Sl w6 4 1 ma kn mc (bls kl) := s5.ext e6 (fun b hb hx => by have := (hmb b hb).1; omega)
    have hs4 := e24.size
    have hnF : ∀ b, ma = some ⟨b, 0, none⟩ → ¬ (F5 b ∧ b < w5.heap.size) ∧ ¬ (G6 b ∧ b < w6.heap.size) ∧ U.heap.size ≤ b := by
      intro b hb
      have h1 := hmb b hb
      have hs5 := e5.size
      refine ⟨fun hx => ?_, fun hx => ?_, by omega⟩
      · rcases hF5 b hx.1 with hy | hy
        · omega
        · omega
      · rcases hG6 b hx.1 with hy | hy
        · omega
        · omega
    have hok6 : Ok 3 0 (cut (new 3) ((ln - 1 : Nat) : Int) kl) := (ok_new 3).cut (by omega) kl
    refine LoopW.nat kn (fun i x w' => x = ((i : Int), ()) ∧ ∃ ml, PP U w' p q (cut (new 3) ((ln - 1 : Nat) : Int) kl) (cut (new 3) ((ln - 1 : Nat) : Int) kl) (fun b => F5 b ∧ b < w5.heap.size) (fun b => G6 b ∧ b < w6.heap.size) ∧ Sl w' 4 1 ma kn mc (bls ml)) ⟨rfl, kl, d6, s6⟩ ?_
    rintro i x w7 next hi ⟨rfl, ml, d7, s7⟩ hnext
    dsimp only
    by_cases hlt : i < kn
    case neg =>
      rw [decide_eq_false (by omega), br_false]
      exact copies_k14 hC hl20 hok6 d7 hQ
    rw [decide_eq_true (by omega), br_true]
    obtain ⟨mb, rfl⟩ := s7.one_block (by omega)
    have hlen : ml.length = kn := by have := s7.len_; rw [bls_length, Nat.mul_one] at this; exact this
    have hkle := hK.le
    refine ixb i 1 4 hlt ?_
    refine slL s7 (by rw [Nat.mul_one]; exact bls_getD (by omega)) (fb ?_)
    refine ixb i 1 4 hlt ?_
    refine slS s7 (by rw [bls_length]; omega) fun w8 s8 e8 z8 => ?_
    rw [bls_set] at s8
    obtain ⟨n1, n2, n3⟩ := hnF mb rfl
    rw [wrap_i64 (by omega) (by omega)]
    exact hnext hlt _ _ ⟨rfl, _, PP.own d7 e8 z8 n1 n2 n3, s8⟩
  refine br_of (fun _ => key true (by simp)) (fun h20 => key _ (fun h0 => ?_))
  simp only [decide_eq_false_iff_not] at h20
  rw [beq_eq_false_iff_ne] at h0
  omega
end
end Go.Proofs.Ytgnmbenhpjkbfaa.Bd
