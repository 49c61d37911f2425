/-
  A flash memory: a call of a sequence, the example. No condition beyond those stated.
-/
import Derived.Test.YtbfkhnaknbkilaaFlL
namespace Go.Proofs.Ytbfkhnaknbkilaa.Fl
open Go Go.Ev Go.Proofs Go.ChangeShapes Go.WideShapes Go.ChangeAt Go.RowKit

/-- What a call of Program, Read or Erase does. -/
def doF (s : Fs) (c : Cl) (b q : Int) (was : Pg) : Fs × Pg × Int :=
  if c.kind < 4 then ((prog s b q (dat c was)).1, [], (prog s b q (dat c was)).2)
  else if c.kind = 4 then (s, (rd s b q).1, (rd s b q).2)
  else ((era s b).1, [], (era s b).2)

section
variable {w : World} {Q : Value → World → Prop} {p : Nat} {s : Fs} {F : Nat → Prop}

theorem do_c {c : Cl} {s0 s1 s2 : Int} {was : Pg} (h : Fk w p s F) (hF : ∀ b, F b → b < w.heap.size) (hok : Ok s) (hk0 : 0 ≤ c.kind) (hk6 : c.kind ≤ 6) (h0 : 0 < s0) (h0' : s0 ≤ 100) (h1 : 0 < s1) (h1' : s1 ≤ 100) (hr : c.raw = false)
    (hQ : ∀ w', Fk w' p (doF s c (modv c.blk s0) (modv c.pag s1) was).1 F → Ext w w' F → Q (.tuple #[.string (mkS (doF s c (modv c.blk s0) (modv c.pag s1) was).2.1), .int .i64 (doF s c (modv c.blk s0) (modv c.pag s1) was).2.2]) w') :
    CallE Try.prog 17 #[.pointer (some ⟨p, 0, none⟩), .agg #[.int .i64 c.kind, .int .i64 c.blk, .int .i64 c.pag, .int .u64 (c.data : Int), .int .u64 (c.torn : Int), .bool c.and_, .bool c.raw], .agg #[.int .i64 s0, .int .i64 s1, .int .i64 s2], .string (mkS was)] w Q := by
  apply C.law40_do
  unfold W.law40_do
  refine al_i fun xb w1 hxb a1 e1 z1 => ?_
  refine al_i fun yb w2 hyb a2 e2 z2 => ?_
  simp only [add_mk, Nat.zero_add]
  have x2 := a1.ext e2 (fun h => h)
  refine ld_w x2 (fg ?_)
  refine ld_w a2 (fg ?_)
  refine at_c h0 h0' h1 h1' hr fun w3 e3 => ⟨_, _, rfl, ?_⟩
  have x3 := x2.ext e3 (fun h => h)
  refine ldI x3 rfl ?_
  refine mod_c (by omega) (by omega) (fi ?_)
  have hm : modv c.kind 10 = c.kind := by unfold modv; omega
  rw [hm]
  have e03 : Ext w w3 (fun _ => False) := (e1.tr e2).tr e3
  have h3 := h.ext e03 (fun _ _ h => h)
  generalize modv c.blk s0 = b at *
  generalize modv c.pag s1 = q at *
  unfold doF at hQ
  have wcase : c.kind < 4 → W.law40_do_k8 ⟨p, 0, none⟩ (mkS was) ⟨xb, 0, none⟩ b q c.kind true w3 Q := by
    intro h4
    rw [if_pos h4] at hQ
    unfold W.law40_do_k8
    rw [br_true]
    refine ld_w x3 (fg ?_)
    refine data_c fun w4 e4 => ft ?_
    refine program_c (h3.ext e4 (fun _ _ h => h)) hok fun w5 h5 e5 => fi ?_
    exact hQ w5 h5 (((e03.tr e4).of0 (X := F)).tr e5)
  refine br_of (fun hk => wcase ?_) (fun k0 => ?_)
  · rw [beq_iff_eq] at hk; omega
  refine br_of (fun hk => wcase ?_) (fun k1 => ?_)
  · rw [beq_iff_eq] at hk; omega
  refine br_of (fun hk => wcase ?_) (fun k2 => ?_)
  · rw [beq_iff_eq] at hk; omega
  rw [beq_eq_false_iff_ne] at k0 k1 k2
  by_cases k3 : c.kind = 3
  · rw [show (c.kind == 3) = true by rw [beq_iff_eq]; exact k3]
    exact wcase (by omega)
  rw [show (c.kind == 3) = false by rw [beq_eq_false_iff_ne]; exact k3]
  rw [if_neg (by omega)] at hQ
  unfold W.law40_do_k8
  rw [br_false]
  by_cases k4 : c.kind = 4
  · rw [if_pos k4] at hQ
    rw [show (c.kind == 4) = true by rw [beq_iff_eq]; exact k4, br_true]
    refine read_c h3 hok ⟨_, _, rfl, ?_⟩
    exact hQ w3 h3 e03.of0
  rw [if_neg k4] at hQ
  rw [show (c.kind == 4) = false by rw [beq_eq_false_iff_ne]; exact k4, br_false]
  have ecase : W.law40_do_k13 ⟨p, 0, none⟩ ⟨xb, 0, none⟩ b c.kind true w3 Q := by
    unfold W.law40_do_k13
    rw [br_true]
    refine erase_c h3 hok fun w5 h5 e5 => fi ?_
    exact hQ w5 h5 ((e03.of0 (X := F)).tr e5)
  refine br_of (fun _ => ecase) (fun k5 => ?_)
  rw [beq_eq_false_iff_ne] at k5
  rw [show (c.kind == 6) = true by rw [beq_iff_eq]; omega]
  exact ecase

/-- A flash of a law's own. -/
structure One (U w : World) (p : Nat) (s : Fs) (F : Nat → Prop) : Prop where
  d : Fk w p s F
  f : ∀ b, F b → U.heap.size ≤ b ∧ b < w.heap.size
  e : Ext U w (fun _ => False)
theorem One.new {U w w' : World} {p : Nat} {s : Fs} (h : Fk w' p s (fun b => w.heap.size ≤ b)) (e0 : Ext U w (fun _ => False)) (e : Ext w w' (fun _ => False)) : One U w' p s (fun b => w.heap.size ≤ b ∧ b < w'.heap.size) :=
  ⟨h.tight, fun b hb => ⟨by have := e0.size; omega, hb.2⟩, e0.tr e⟩
theorem One.stay {U w w' : World} {p : Nat} {s s' : Fs} {F : Nat → Prop} (h : One U w p s F) (hd : Fk w' p s' F) (he : Ext w w' F) : One U w' p s' F :=
  ⟨hd, fun b hb => ⟨(h.f b hb).1, Nat.lt_of_lt_of_le (h.f b hb).2 he.size⟩, h.e.trans he (fun _ _ h => h) (fun b hb hx => by have := (h.f b hx).1; omega)⟩
theorem One.same {U w w' : World} {p : Nat} {s : Fs} {F : Nat → Prop} (h : One U w p s F) (e : Ext w w' (fun _ => False)) : One U w' p s F :=
  ⟨h.d.ext e (fun _ _ h => h), fun b hb => ⟨(h.f b hb).1, Nat.lt_of_lt_of_le (h.f b hb).2 e.size⟩, h.e.tr e⟩
theorem One.own {U w w' : World} {p b0 : Nat} {s : Fs} {F : Nat → Prop} (h : One U w p s F) (e : Ext w w' (· = b0)) (hF : ¬ F b0) (hU : U.heap.size ≤ b0) : One U w' p s F :=
  ⟨h.d.ext e (fun b hb hx => hF (hx ▸ hb)), fun b hb => ⟨(h.f b hb).1, Nat.lt_of_lt_of_le (h.f b hb).2 e.size⟩, h.e.trans e (fun _ _ h => h) (fun b hb hx => by omega)⟩

def fst (n : Nat) (e : Nat) (pgs : Pg) (off cut : Bool) (left : Int) (torn : Nat) : Fs := ⟨1, 1, n, [[pgs]], [e], off, cut, left, torn⟩
theorem ok_fst {n e : Nat} {pgs : Pg} {off cut : Bool} {left : Int} {torn : Nat} (h1 : n ≤ 100) (h2 : e ≤ n) (h3 : pgs.length = 64) (h4 : left ≤ 100) (h5 : torn ≤ 100) : Ok (fst n e pgs off cut left torn) :=
  ⟨Nat.le_refl 1, by show 1 ≤ 32; omega, Nat.le_refl 1, by show 1 ≤ 32; omega, by show n ≤ _; omega, rfl, by simp [fst], by simp [fst, h3], rfl, by simpa [fst] using h2, by show left ≤ _; omega, by show torn < _; omega⟩

theorem awake_c (hQ : ∀ w', Ext w w' (fun _ => False) → Q (.bool true) w') : CallE Try.prog 13 #[] w Q := by
  apply C.law40_awake
  unfold W.law40_awake
  have r15 : ∀ c : UInt8, (List.replicate 64 c).length = 64 := fun c => List.length_replicate
  refine new_c (nb := 1) (np := 1) (en := 3) (by omega) (by omega) (by omega) (by omega) (by omega) fun p w1 h1 e1 => ⟨_, _, rfl, ?_⟩
  have o1 := One.new h1 (Ext.refl w _) e1
  rw [show new 1 1 3 = fst 3 0 ff false false 0 0 from rfl] at o1
  rw [show ((0 : Int) != 0) = false from rfl, br_false]
  refine eq_nil (fb ?_)
  rw [Option.isNone_some, br_false]
  refine fill_c (c := 15) fun w2 e2 => ft ?_
  refine program_c (o1.same e2).d (ok_fst (by omega) (by omega) (r15 _) (by omega) (by omega)) fun w3 h3 e3 => fi ?_
  have o3 := (o1.same e2).stay h3 e3
  rw [show prog (fst 3 0 ff false false 0 0) 0 0 (List.replicate 64 15) = (fst 3 0 (List.replicate 64 15) false false 0 0, 0) by kernel_rfl] at o3 ⊢
  dsimp only at o3 ⊢
  rw [show ((0 : Int) != 0) = false from rfl, br_false]
  refine fill_c (c := 7) fun w4 e4 => ft ?_
  refine program_c (o3.same e4).d (ok_fst (by omega) (by omega) (r15 _) (by omega) (by omega)) fun w5 h5 e5 => fi ?_
  have o5 := (o3.same e4).stay h5 e5
  rw [show prog (fst 3 0 (List.replicate 64 15) false false 0 0) 0 0 (List.replicate 64 7) = (fst 3 0 (List.replicate 64 7) false false 0 0, 0) by kernel_rfl] at o5 ⊢
  dsimp only at o5 ⊢
  rw [show ((0 : Int) != 0) = false from rfl, br_false]
  refine fill_c (c := 8) fun w6 e6 => ft ?_
  refine program_c (o5.same e6).d (ok_fst (by omega) (by omega) (r15 _) (by omega) (by omega)) fun w7 h7 e7 => fi ?_
  have o7 := (o5.same e6).stay h7 e7
  rw [show prog (fst 3 0 (List.replicate 64 7) false false 0 0) 0 0 (List.replicate 64 8) = (fst 3 0 (List.replicate 64 7) false false 0 0, 9) by kernel_rfl] at o7 ⊢
  dsimp only at o7 ⊢
  rw [show ((9 : Int) != 9) = false from rfl, br_false]
  refine erase_c o7.d (ok_fst (by omega) (by omega) (r15 _) (by omega) (by omega)) fun w8 h8 e8 => fi ?_
  have o8 := o7.stay h8 e8
  rw [show era (fst 3 0 (List.replicate 64 7) false false 0 0) 0 = (fst 3 1 ff false false 0 0, 0) by kernel_rfl] at o8 ⊢
  dsimp only at o8 ⊢
  rw [show ((0 : Int) != 0) = false from rfl, br_false]
  refine cutAfter_c (t := 1) o8.d fun w9 h9 e9 => ⟨rfl, ?_⟩
  have o9 := o8.stay h9 e9
  rw [show cutA (fst 3 1 ff false false 0 0) 0 1 = fst 3 1 ff false true 0 1 from rfl] at o9
  refine fill_c (c := 0) fun w10 e10 => ft ?_
  refine program_c (o9.same e10).d (ok_fst (by omega) (by omega) (r15 _) (by omega) (by omega)) fun w11 h11 e11 => fi ?_
  have o11 := (o9.same e10).stay h11 e11
  rw [show prog (fst 3 1 ff false true 0 1) 0 0 (List.replicate 64 0) = (fst 3 1 (progT 1 ff (List.replicate 64 0)) true false 0 1, 16) by kernel_rfl] at o11 ⊢
  dsimp only at o11 ⊢
  have k11 : ∀ off, Ok (fst 3 1 (progT 1 ff (List.replicate 64 0)) off false 0 1) := fun off => ok_fst (by omega) (by omega) (progT_length _ _ _) (by omega) (by omega)
  refine read_c o11.d (k11 _) ⟨_, _, rfl, ?_⟩
  rw [show rd (fst 3 1 (progT 1 ff (List.replicate 64 0)) true false 0 1) 0 0 = ([], 16) from rfl]
  refine powerOn_c o11.d fun w12 h12 e12 => fi ?_
  have o12 := o11.stay h12 e12
  rw [show pOn (fst 3 1 (progT 1 ff (List.replicate 64 0)) true false 0 1) = (fst 3 1 (progT 1 ff (List.replicate 64 0)) false false 0 1, 0) from rfl] at o12 ⊢
  dsimp only at o12 ⊢
  refine read_c o12.d (k11 _) ⟨_, _, rfl, ?_⟩
  rw [show rd (fst 3 1 (progT 1 ff (List.replicate 64 0)) false false 0 1) 0 0 = (progT 1 ff (List.replicate 64 0), 0) from rfl]
  dsimp only
  have hl := progT_length 1 ff (List.replicate 64 0)
  rw [show ((16 : Int) == 16) = true from rfl, br_true, br_true, show ((0 : Int) == 0) = true from rfl, br_true, br_true, mkS_size, hl, show (((64 : Nat) : Int) == 64) = true from rfl, br_true]
  refine qI (sxn 0 (by omega)) ?_
  rw [show ((((progT 1 ff (List.replicate 64 0)).getD 0 0).toNat : Int) == 254) = true by decide +kernel, br_true]
  refine qI (sxn 1 (by omega)) ?_
  rw [show ((((progT 1 ff (List.replicate 64 0)).getD 1 0).toNat : Int) == 255) = true by decide +kernel, br_true]
  refine qI (sxn 8 (by omega)) ?_
  rw [show ((((progT 1 ff (List.replicate 64 0)).getD 8 0).toNat : Int) == 254) = true by decide +kernel, br_true]
  refine erases_c o12.d (k11 _) (fi ?_)
  rw [show eras (fst 3 1 (progT 1 ff (List.replicate 64 0)) false false 0 1) 0 = 1 from rfl]
  exact hQ w12 o12.e
theorem awake_fin {U : World} (hQ : ∀ w', Ext U w' (fun _ => False) → Q (.bool true) w') (e : Ext U w (fun _ => False)) : CallE Try.prog 13 #[] w fun v w' => fB v fun b => Q (.bool b) w' :=
  awake_c fun w' e' => fb (hQ w' (e.tr e'))
end
end Go.Proofs.Ytbfkhnaknbkilaa.Fl
