/-
  A block device: the statements BlockdevCutPosition and BlockdevReadsLastWrite over the code. No condition beyond those stated.
-/
import Derived.Test.YtgnmbenhpjkbfaaBdT
namespace Go.Proofs.Ytgnmbenhpjkbfaa.Bd
open Go Go.Ev Go.Proofs Go.ChangeShapes Go.WideShapes Go.ChangeAt Go.RowKit

/-- After i writes, the power loss being planned behind c of them. -/
def Cut (k c i : Nat) (kl : List Bool) (s : St) : Prop :=
  Ok k i s ∧ (i ≤ c → s.off = false ∧ s.plan = some (c - i, kl) ∧ s.C.length = i) ∧ (c < i → s.off = true ∧ s.plan = none ∧ s.C = [])
theorem Cut.step {k c i : Nat} {kl : List Bool} {s : St} (h : Cut k c i kl s) {at_ : Int} (h0 : 0 ≤ at_) (h1 : at_ < k) {d : Sec} (hd : d.length = 64) : Cut k c (i + 1) kl (wr s at_ d).1 ∧ (wr s at_ d).2 = if (i : Int) ≥ (c : Int) then 16 else 0 := by
  obtain ⟨hok, h2, h3⟩ := h
  have hl := hok.len
  refine ⟨⟨hok.wr _ _, ?_, ?_⟩, ?_⟩
  · intro hi
    obtain ⟨ho, hp, hc⟩ := h2 (by omega)
    unfold wr
    rw [if_neg (by omega), if_neg (by simp [ho]), hp, show c - i = (c - (i + 1)) + 1 by omega]
    exact ⟨ho, rfl, by simp [hc]⟩
  · intro hi
    by_cases hic : i = c
    · obtain ⟨ho, hp, hc⟩ := h2 (by omega)
      unfold wr
      rw [if_neg (by omega), if_neg (by simp [ho]), hp, show c - i = 0 by omega]
      exact ⟨rfl, rfl, rfl⟩
    · obtain ⟨ho, hp, hc⟩ := h3 (by omega)
      unfold wr
      rw [if_neg (by omega), if_pos ho]
      exact ⟨ho, hp, hc⟩
  · unfold wr
    rw [if_neg (by omega)]
    by_cases hic : c < i
    · obtain ⟨ho, hp, hc⟩ := h3 hic
      rw [if_pos ho, if_pos (by omega)]
    · obtain ⟨ho, hp, hc⟩ := h2 (by omega)
      rw [if_neg (by simp [ho]), hp]
      by_cases hcc : i = c
      · rw [show c - i = 0 by omega, if_pos (by omega)]
      · rw [show c - i = (c - (i + 1)) + 1 by omega, if_neg (by omega)]

section
variable {U w : World} {Q : Value → World → Prop}

theorem cutPosition_k15 {l : Option Addr} {ln lc k c i p : Nat} {cs : List Cl} {kl : List Bool} {s : St} {F : Nat → Prop} {want : Int} {next : (Int × Unit) → World → Prop} (hC : Cin U l ln cs) (hln : ln ≤ 30) (hk1 : 1 ≤ k) (hk5 : k ≤ 5) (hi : i < ln) (o : One U w p s F) (hc : Cut k c i kl s) (hw : want = if (i : Int) ≥ (c : Int) then 16 else 0)
    (hn : ∀ w' F' s', One U w' p s' F' → Cut k c (i + 1) kl s' → next (((i + 1 : Nat) : Int), ()) w') :
    W.law32_BlockdevCutPosition_k15 l ln lc (k : Int) (some ⟨p, 0, none⟩) (c : Int) (i : Int) want next w Q := by
  unfold W.law32_BlockdevCutPosition_k15
  have hic : i < cs.length := by rw [hC.n]; exact hi
  obtain ⟨lp, rfl⟩ := hC.ptr (by omega)
  refine ⟨fun w' => Ext U w' (fun _ => False), o.e.drew_, ?_⟩
  refine ixsS i 5 37 hi ?_
  refine rdFS (f := Cl.cells) i hic (fun w' hw' => (hC.ext hw').r) (fun _ => rfl) (by omega) rfl (fi ?_)
  refine ixsS i 5 37 hi ?_
  refine rdFS (f := Cl.cells) i hic (fun w' hw' => (hC.ext hw').r) (fun _ => rfl) (by omega) rfl (fi ?_)
  refine mod_c (by omega) (by omega) (fi ⟨o.e.drew_, ?_⟩)
  have hm := modv_bd (v := cs[i].sect) (n := (k : Int)) (by omega)
  refine sector_c fun w1 e1 => ft ?_
  have o1 := o.same (w' := w1) e1.of_drew
  refine ⟨o1.e, ?_⟩
  have hok := hc.1.le (show i ≤ 1000000 by omega)
  refine write_c o1.d hok fun w2 F2 h2 e2 hF2 => fi ?_
  have o2 := o1.step h2 e2 hF2
  refine ⟨o2.e, ?_⟩
  obtain ⟨hc', hcode⟩ := hc.step hm.1 hm.2 (sec_length cs[i].data)
  rw [hcode, hw, bne_self_eq_false, br_false, inc_nat (by omega)]
  exact hn w2 _ _ o2 hc'

theorem cutPosition_k17 {l : Option Addr} {ln lc k c p : Nat} {cs : List Cl} {kl : List Bool} {s : St} {F : Nat → Prop} (hC : Cin U l ln cs) (hln : ln ≤ 30) (hk1 : 1 ≤ k) (hk5 : k ≤ 5) (o : One U w p s F) (hc : Cut k c ln kl s) (hQ : ∀ w', Ext U w' (fun _ => False) → Q (.bool true) w') :
    W.law32_BlockdevCutPosition_k17 l ln lc (k : Int) (some ⟨p, 0, none⟩) (c : Int) w Q := by
  unfold W.law32_BlockdevCutPosition_k17
  have hok := hc.1.le (show ln ≤ 1000000 by omega)
  by_cases hle : ln ≤ c
  · rw [decide_eq_true (by omega), br_true]
    obtain ⟨ho, hp, hcl⟩ := hc.2.1 hle
    refine powerOn_c o.d fun w1 h1 e1 => fi ?_
    have o1 := o.stay h1 e1
    have hpo : pOn s = (s, 9) := by unfold pOn; rw [if_neg (by simp [ho])]
    rw [hpo] at o1 ⊢
    dsimp only at o1 ⊢
    rw [show ((9 : Int) == 9) = true from rfl, br_true]
    refine pending_c o1.d (fi ?_)
    rw [hcl, beq_self_eq_true, br_true]
    exact awake_fin hQ o1.e
  rw [decide_eq_false (by omega), br_false]
  obtain ⟨ho, hp, hcl⟩ := hc.2.2 (by omega)
  refine flush_c o.d hok fun w1 h1 e1 => fi ?_
  have o1 := o.stay h1 e1
  have hf : fl s = (s, 16) := by unfold fl; rw [if_pos ho]
  rw [hf] at o1 ⊢
  dsimp only at o1 ⊢
  rw [show ((16 : Int) != 16) = false from rfl, br_false]
  refine pending_c o1.d (fi ?_)
  rw [hcl, show ((([] : List (Nat × Sec)).length : Int) != 0) = false from rfl, br_false]
  refine powerOff_c (kl := []) o1.d hok (.inl rfl) rfl (fun q hq => by cases hq) fun w2 h2 e2 => fi ?_
  have o2 := o1.stay h2 e2
  have hpf : pOff s [] = (s, 9) := by unfold pOff; rw [if_pos ho]
  rw [hpf] at o2 ⊢
  dsimp only at o2 ⊢
  rw [show ((9 : Int) != 9) = false from rfl, br_false]
  refine powerOn_c o2.d fun w3 h3 e3 => fi ?_
  have o3 := o2.stay h3 e3
  have hpo : pOn s = (⟨s.S, [], false, none⟩, 0) := by unfold pOn; rw [if_pos ho, hcl, hp]
  rw [hpo] at o3 ⊢
  dsimp only at o3 ⊢
  rw [show ((0 : Int) != 0) = false from rfl, br_false]
  have hlen := hok.len
  refine LoopW.nat ln (fun i x w' => x = ((i : Int), ()) ∧ ∃ s' F', One U w' p s' F' ∧ Ok k i s' ∧ s'.plan = none ∧ s'.off = false) ⟨rfl, _, _, o3, ⟨hlen, by simp, by simp, by simp⟩, rfl, rfl⟩ ?_
  rintro i x w4 next hi ⟨rfl, s', F', o4, hok4, hp4, ho4⟩ hnext
  dsimp only
  by_cases hlt : i < ln
  case neg =>
    rw [decide_eq_false (by omega), br_false]
    unfold W.law32_BlockdevCutPosition_k26
    exact awake_fin hQ o4.e
  rw [decide_eq_true (by omega), br_true]
  have hic : i < cs.length := by rw [hC.n]; exact hlt
  obtain ⟨lp, rfl⟩ := hC.ptr (by omega)
  refine ⟨fun w' => Ext U w' (fun _ => False), o4.e.drew_, ?_⟩
  refine ixsS i 5 37 hlt ?_
  refine rdFS (f := Cl.cells) i hic (fun w' hw' => (hC.ext hw').r) (fun _ => rfl) (by omega) rfl (fi ?_)
  refine ixsS i 5 37 hlt ?_
  refine rdFS (f := Cl.cells) i hic (fun w' hw' => (hC.ext hw').r) (fun _ => rfl) (by omega) rfl (fi ?_)
  refine mod_c (by omega) (by omega) (fi ⟨o4.e.drew_, ?_⟩)
  have hm := modv_bd (v := cs[i].sect) (n := (k : Int)) (by omega)
  refine sector_c fun w5 e5 => ft ?_
  have o5 := o4.same (w' := w5) e5.of_drew
  refine ⟨o5.e, ?_⟩
  refine write_c o5.d (hok4.le (by omega)) fun w6 F6 h6 e6 hF6 => fi ?_
  have o6 := o5.step h6 e6 hF6
  refine ⟨o6.e, ?_⟩
  have hw := wr_ok hp4 ho4 hm.1 (by rw [hok4.len]; exact hm.2) (sec_length cs[i].data)
  have hok6 := hok4.wr (modv cs[i].sect (k : Int)) (sec cs[i].data)
  rw [hw] at o6 hok6 ⊢
  dsimp only at o6 hok6 ⊢
  rw [show ((0 : Int) != 0) = false from rfl, br_false, inc_nat (by omega)]
  exact hnext hlt _ _ ⟨rfl, _, _, o6, hok6, rfl, rfl⟩

theorem cutPosition_c {n cut_ : Int} {l ka : Option Addr} {ln lc kn kc : Nat} {cs : List Cl} {kl : List Bool} (hC : Cin U l ln cs) (hK : KOk U ka kn kl) (hQ : ∀ w', Ext U w' (fun _ => False) → Q (.bool true) w') :
    CallE Try.prog 9 #[.int .i64 n, .slice l ln lc, .int .i64 cut_, .slice ka kn kc] U Q := by
  apply C.law32_BlockdevCutPosition
  unfold W.law32_BlockdevCutPosition
  refine br_of (fun _ => awake_fin hQ (Ext.refl _ _)) (fun h30 => ?_)
  simp only [decide_eq_false_iff_not] at h30
  refine mod_c (by omega) (by omega) (fi ?_)
  obtain ⟨k, hk, hk1, hk5⟩ := size_of (n := n)
  rw [hk]
  refine new_c hk1 (by omega) fun p w1 h1 e1 => ⟨_, _, rfl, ?_⟩
  have o1 := One.new h1 (Ext.refl U _) e1
  rw [show ((0 : Int) != 0) = false from rfl, br_false]
  refine eq_nil (fb ?_)
  rw [Option.isNone_some, br_false]
  refine mod_c (by omega) (by omega) (fi ?_)
  have hm := modv_bd (v := cut_) (n := 20) (by omega)
  obtain ⟨c, hc⟩ := nat_of hm.1
  rw [hc] at hm ⊢
  have hK1 := hK.ext o1.e
  refine cutAfter_c o1.d hK1.r hK1.n hK1.le (hK.apart o1) fun w2 F2 h2 e2 hF2 => ⟨rfl, ?_⟩
  have o2 := o1.step h2 e2 hF2
  have hcut : Cut k c 0 kl (cut (new k) (c : Int) kl) := by
    refine ⟨(ok_new k).cut (by omega) kl, fun _ => ⟨rfl, ?_, rfl⟩, fun h => by omega⟩
    unfold cut
    dsimp only
    rw [if_neg (by omega), Int.toNat_natCast, Nat.sub_zero]
  refine LoopW.nat ln (fun i x w' => x = ((i : Int), ()) ∧ ∃ s F, One U w' p s F ∧ Cut k c i kl s) ⟨rfl, _, _, o2, hcut⟩ ?_
  rintro i x w3 next hi ⟨rfl, s, F, o3, hc3⟩ hnext
  dsimp only
  by_cases hlt : i < ln
  case neg =>
    rw [decide_eq_false (by omega), br_false]
    obtain rfl : i = ln := by omega
    exact cutPosition_k17 hC (by omega) hk1 hk5 o3 hc3 hQ
  rw [decide_eq_true (by omega), br_true]
  refine br_of (fun hge => ?_) (fun hge => ?_)
  · simp only [decide_eq_true_eq] at hge
    exact cutPosition_k15 hC (by omega) hk1 hk5 hlt o3 hc3 (by rw [if_pos hge]) fun w' F' s' o' hc' => hnext hlt _ _ ⟨rfl, s', F', o', hc'⟩
  · simp only [decide_eq_false_iff_not] at hge
    exact cutPosition_k15 hC (by omega) hk1 hk5 hlt o3 hc3 (by rw [if_neg hge]) fun w' F' s' o' hc' => hnext hlt _ _ ⟨rfl, s', F', o', hc'⟩

/-- The disk, and the list of what was written last. -/
structure Lw (U w : World) (p k i lb : Nat) (s : St) (F : Nat → Prop) : Prop where
  o : One U w p s F
  ok : Ok k i s
  pl : s.plan = none
  on : s.off = false
  l : At w lb (strs (all s.C s.S)) 9
  nf : ¬ F lb
  lo : U.heap.size ≤ lb

theorem readsLast_k24 {l : Option Addr} {ln lc k i p lb : Nat} {s : St} {F : Nat → Prop} {next : (Int × Unit) → World → Prop} (hk5 : k ≤ 5) (hi : i ≤ 60) {i' : Nat} (h : Lw U w p k i' lb s F)
    (hn : ∀ w', Lw U w' p k i' lb s F → next (((i + 1 : Nat) : Int), ()) w') :
    W.law32_BlockdevReadsLastWrite_k24 l ln lc (k : Int) (some ⟨p, 0, none⟩) (some ⟨lb, 0, none⟩) k k (i : Int) next w Q := by
  unfold W.law32_BlockdevReadsLastWrite_k24
  have hlen := h.ok.len
  refine LoopW.nat k (fun j x w' => x = ((j : Int), ()) ∧ w' = w) ⟨rfl, rfl⟩ ?_
  rintro j x w1 nxt hj ⟨rfl, rfl⟩ hnxt
  dsimp only
  by_cases hlt : j < k
  case neg =>
    rw [decide_eq_false (by omega), br_false, inc_nat (by omega)]
    exact hn w1 h
  rw [decide_eq_true (by omega), br_true]
  refine read_c h.o.d ⟨_, _, rfl, ?_⟩
  have hr : rd s (j : Int) = ((all s.C s.S).getD j [], 0) := by
    unfold rd
    rw [if_neg (by omega), if_neg (by simp [h.on]), Int.toNat_natCast]
  rw [hr]
  dsimp only
  rw [show ((0 : Int) != 0) = false from rfl, br_false]
  refine ixb j 1 9 hlt ?_
  refine ldT h.l (by rw [Nat.mul_one]; exact strs_getD (by rw [all_length]; omega)) ?_
  refine qB s_ne ?_
  rw [decide_eq_true rfl, Bool.not_true, br_false, inc_nat (by omega)]
  exact hnxt hlt _ _ ⟨rfl, rfl⟩

theorem readsLast_k12 {l : Option Addr} {ln lc k p lb : Nat} {cs : List Cl} {F : Nat → Prop} {s : St} (hC : Cin U l ln cs) (hln : ln ≤ 60) (hk1 : 1 ≤ k) (hk5 : k ≤ 5) (h : Lw U w p k 0 lb s F) (hQ : ∀ w', Ext U w' (fun _ => False) → Q (.bool true) w') :
    W.law32_BlockdevReadsLastWrite_k12 l ln lc (k : Int) (some ⟨p, 0, none⟩) (some ⟨lb, 0, none⟩) k k w Q := by
  unfold W.law32_BlockdevReadsLastWrite_k12
  refine LoopW.nat ln (fun i x w' => x = ((i : Int), ()) ∧ ∃ s F, Lw U w' p k i lb s F) ⟨rfl, s, F, h⟩ ?_
  rintro i x w1 next hi ⟨rfl, s, F, h1⟩ hnext
  dsimp only
  by_cases hlt : i < ln
  case neg =>
    rw [decide_eq_false (by omega), br_false]
    unfold W.law32_BlockdevReadsLastWrite_k30
    exact awake_fin hQ h1.o.e
  rw [decide_eq_true (by omega), br_true]
  have hic : i < cs.length := by rw [hC.n]; exact hlt
  obtain ⟨lp, rfl⟩ := hC.ptr (by omega)
  refine ixs i 5 37 hlt ?_
  refine rdG (f := Cl.cells) i hic (hC.ext h1.o.e).r (fun _ => rfl) (by omega) (fg ?_)
  generalize cs[i] = c
  refine al_st 5 rfl (fun v hv => by simp only [Cl.cells, List.mem_cons, List.not_mem_nil, or_false] at hv; rcases hv with rfl | rfl | rfl | rfl | rfl <;> rfl) fun xb w2 hxb a2 e2 z2 => ?_
  simp only [add_mk, Nat.zero_add]
  have hlb := h1.l.lt
  have h2 : Lw U w2 p k i lb s F := ⟨h1.o.same e2, h1.ok, h1.pl, h1.on, h1.l.ext e2 (fun h => h), h1.nf, h1.lo⟩
  refine ldI a2 rfl ?_
  refine mod_c (by omega) (by omega) (fi ?_)
  have hm := modv_bd (v := c.sect) (n := (k : Int)) (by omega)
  refine ldI a2 rfl ?_
  refine mod_c (by omega) (by omega) (fi ?_)
  have hok := h2.ok.le (show i ≤ 1000000 by omega)
  have hlen := h2.ok.len
  refine br_of (fun h5 => ?_) (fun h5 => ?_)
  · refine flush_c h2.o.d hok fun w3 h3 e3 => fi ?_
    have o3 := h2.o.stay h3 e3
    have hf : fl s = (⟨all s.C s.S, [], false, none⟩, 0) := by unfold fl; rw [if_neg (by simp [h2.on]), h2.on, h2.pl]
    have ok3 := h2.ok.fl
    rw [hf] at o3 ok3 ⊢
    dsimp only at o3 ok3 ⊢
    rw [show ((0 : Int) != 0) = false from rfl, br_false]
    refine pending_c o3.d (fi ?_)
    rw [show ((([] : List (Nat × Sec)).length : Int) != 0) = false from rfl, br_false]
    refine contents_c o3.d (ok3.le (show i ≤ 1000000 by omega)) (by omega) fun a4 c4 w4 s4 hn4 e4 => fs ?_
    have l3 : At w3 lb (strs (all s.C s.S)) 9 := h2.l.ext e3 h2.nf
    have l4 := l3.ext e4 (fun h => h)
    refine equal_c (la := all s.C s.S) (lb := all s.C s.S) s4.reads (.inr ⟨_, rfl, fun j hj => by rw [add_mk, l4.cell, Nat.zero_add]⟩) ok3.len ok3.len (by omega) fun w5 e5 => fb ?_
    rw [decide_eq_true rfl, Bool.not_true, br_false]
    refine readsLast_k24 (i' := i + 1) hk5 (by omega) (s := ⟨all s.C s.S, [], false, none⟩) (F := F) ⟨o3.same (e4.tr e5), ok3.le (by omega), rfl, rfl, l4.ext e5 (fun h => h), h2.nf, h2.lo⟩ fun w' h' => ?_
    exact hnext hlt _ _ ⟨rfl, _, _, h'⟩
  · refine ldI a2 rfl ?_
    refine mod_c (by omega) (by omega) (fi ?_)
    refine br_of (fun h4 => ?_) (fun h4 => ?_)
    · refine ldI a2 rfl ?_
      refine sector_c fun w3 e3 => ft ?_
      have o3 := h2.o.same e3
      refine write_c o3.d hok fun w4 F4 h4 e4 hF4 => fi ?_
      have o4 := o3.step h4 e4 hF4
      have hw := wr_ok h2.pl h2.on hm.1 (by rw [hlen]; exact hm.2) (sec_length c.data)
      have ok4 := h2.ok.wr (modv c.sect (k : Int)) (sec c.data)
      rw [hw] at o4 ok4 ⊢
      dsimp only at o4 ok4 ⊢
      rw [show ((0 : Int) != 0) = false from rfl, br_false]
      have hxF : ¬ F xb := fun hx => by have := (h1.o.f xb hx).2; omega
      refine ldI ((a2.ext e3 (fun h => h)).ext e4 hxF) rfl ?_
      refine sector_c fun w5 e5 => ft ?_
      have l3 := h2.l.ext e3 (fun h => h)
      have l5 := (l3.ext e4 h2.nf).ext e5 (fun h => h)
      obtain ⟨at_, hat⟩ := nat_of hm.1
      rw [hat] at o4 ok4 hm ⊢
      rw [Int.toNat_natCast] at o4 ok4
      refine ixb at_ 1 9 (by omega) ?_
      refine st_i l5 (by rw [strs_length, all_length]; omega) fun w6 a6 e6 z6 => ?_
      rw [strs_set, Nat.mul_one, ← all_snoc s.C (at_, sec c.data)] at a6
      have hs3 := e3.size
      have hlb2 := h2.l.lt
      have hnf : ∀ b, (F4 b ∧ b < w4.heap.size) → b ≠ lb := by
        rintro b ⟨hb, _⟩ rfl
        rcases hF4 b hb with hx | hx
        · exact h2.nf hx
        · omega
      have o5 := o4.same e5
      have o6 : One U w6 p ⟨s.S, s.C ++ [(at_, sec c.data)], false, none⟩ (fun b => F4 b ∧ b < w4.heap.size) :=
        ⟨o5.d.ext e6 (fun b hb hx => hnf b hb hx), fun b hb => ⟨(o5.f b hb).1, by have := (o5.f b hb).2; omega⟩, o5.e.trans e6 (fun _ _ h => h) (fun b hb hx => by have := h2.lo; omega)⟩
      refine readsLast_k24 (i' := i + 1) hk5 (by omega) ⟨o6, ok4, rfl, rfl, a6, fun hx => hnf lb hx rfl, h2.lo⟩ fun w' h' => ?_
      exact hnext hlt _ _ ⟨rfl, _, _, h'⟩
    · refine readsLast_k24 (i' := i + 1) hk5 (by omega) ⟨h2.o, h2.ok.le (by omega), h2.pl, h2.on, h2.l, h2.nf, h2.lo⟩ fun w' h' => ?_
      exact hnext hlt _ _ ⟨rfl, _, _, h'⟩

theorem readsLastWrite_c {n : Int} {l : Option Addr} {ln lc : Nat} {cs : List Cl} (hC : Cin U l ln cs) (hQ : ∀ w', Ext U w' (fun _ => False) → Q (.bool true) w') :
    CallE Try.prog 5 #[.int .i64 n, .slice l ln lc] U Q := by
  apply C.law32_BlockdevReadsLastWrite
  unfold W.law32_BlockdevReadsLastWrite
  refine br_of (fun _ => awake_fin hQ (Ext.refl _ _)) (fun h60 => ?_)
  simp only [decide_eq_false_iff_not] at h60
  refine mod_c (by omega) (by omega) (fi ?_)
  obtain ⟨k, hk, hk1, hk5⟩ := size_of (n := n)
  rw [hk]
  refine new_c hk1 (by omega) fun p w1 h1 e1 => ⟨_, _, rfl, ?_⟩
  have o1 := One.new h1 (Ext.refl U _) e1
  rw [show ((0 : Int) != 0) = false from rfl, br_false]
  refine eq_nil (fb ?_)
  rw [Option.isNone_some, br_false]
  refine mk_i 9 1 (by omega) (by omega) fun lb w2 hlb a2 e2 z2 => fs ?_
  rw [Int.toNat_natCast] at *
  have hz : zeroL Try.prog 9 = [.string (mkS [])] := by kernel_rfl
  rw [hz, zeros_one] at a2
  have hs1 := e1.size
  have o2 := o1.same e2
  refine LoopW.nat k (fun i x w' => x = ((i : Int), ()) ∧ At w' lb (strs (List.replicate i zs ++ List.replicate (k - i) [])) 9 ∧ Ext w2 w' (· = lb)) ⟨rfl, ?_, Ext.refl _ _⟩ ?_
  · have : strs (List.replicate 0 zs ++ List.replicate (k - 0) []) = List.replicate k (.string (mkS [])) := by simp [strs]
    rw [this]
    exact a2
  rintro i x w3 next hi ⟨rfl, a3, e3⟩ hnext
  dsimp only
  by_cases hlt : i < k
  · rw [decide_eq_true (by omega), br_true]
    refine mkB (n := 64) 5 (by omega) fun zb w4 hzb a4 e4 z4 => ?_
    refine bsT a4 List.length_replicate ?_
    refine ixb i 1 9 (by omega) ?_
    have a34 := a3.ext e4 (fun h => h)
    refine st_i a34 (by rw [strs_length]; simp only [List.length_append, List.length_replicate]; omega) fun w5 a5 e5 z5 => ?_
    rw [show (List.replicate 64 (0 : UInt8)) = zs from rfl, strs_set, Nat.mul_one] at a5
    rw [inc_nat (by omega)]
    refine hnext hlt _ _ ⟨rfl, ?_, (e3.tr0 e4).tr e5⟩
    have : (List.replicate i zs ++ List.replicate (k - i) ([] : Sec)).set i zs = List.replicate (i + 1) zs ++ List.replicate (k - (i + 1)) [] := by
      rw [List.set_append_right _ _ (by simp), List.length_replicate, Nat.sub_self, show k - i = (k - (i + 1)) + 1 by omega, List.replicate_succ, List.set_cons_zero, List.replicate_succ', List.append_assoc]
      rfl
    rw [this] at a5
    exact a5
  rw [decide_eq_false (by omega), br_false]
  obtain rfl : i = k := by omega
  rw [Nat.sub_self, List.replicate_zero, List.append_nil] at a3
  have hnf : ∀ b, (U.heap.size ≤ b ∧ b < w1.heap.size) → b ≠ lb := fun b hb hx => by omega
  refine readsLast_k12 hC (by omega) hk1 hk5 (s := new i) (F := fun b => U.heap.size ≤ b ∧ b < w1.heap.size) ⟨⟨o2.d.ext e3 (fun b hb hx => hnf b hb hx), fun b hb => ⟨hb.1, by have := e2.size; have := e3.size; omega⟩, o2.e.trans e3 (fun _ _ h => h) (fun b hb hx => by omega)⟩, ok_new i, rfl, rfl, a3, fun hx => hnf lb hx rfl, by omega⟩ hQ
end
end Go.Proofs.Ytgnmbenhpjkbfaa.Bd
