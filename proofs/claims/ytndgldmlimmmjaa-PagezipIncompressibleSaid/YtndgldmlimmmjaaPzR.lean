/-
  Page compression: the statements PagezipRepeatedWord and PagezipIncompressible over the code. No condition beyond those stated.
-/
import Derived.Test.YtndgldmlimmmjaaPzL
import Derived.Test.YtndgldmlimmmjaaPzN
import Derived.Test.YtndgldmlimmmjaaQ
namespace Go.Proofs.Ytndgldmlimmmjaa.Pz
open Go Go.Ev Go.Proofs Go.ChangeShapes Go.WideShapes Go.ChangeAt Go.RowKit

theorem fdiv_byte (x j : Nat) : Int.fdiv (x : Int) (2 ^ (8 * (j : Int)).toNat) = ((x / 256 ^ j : Nat) : Int) := by
  have h1 : (8 * (j : Int)).toNat = 8 * j := by omega
  have h2 : ((2 : Int) ^ (8 * j)) = ((256 ^ j : Nat) : Int) := by
    rw [show (256 : Nat) = 2 ^ 8 from rfl, ← Nat.pow_mul]
    push_cast
    rfl
  rw [h1, h2]
  exact fdiv_n _ _

section
variable {w U : World} {Q : Value → World → Prop}

/-- Four bytes of a word are written. -/
theorem put4_loop {b k x : Nat} {l : List UInt8} {T : TypeId} {o1 o2 : Operand} {X E : Int} {K : World → Prop} (ha : At w b (by_ l) T) (hl : l.length = 256) (hk : k < 64) (hX : X = (x : Int)) (hE : E = ((4 * k : Nat) : Int))
    (hK : ∀ w', At w' b (by_ (setb l k x 4)) T → Ext w w' (· = b) → K w') :
    LoopW (S := Int × Unit) (fun s w next =>
      br (decide ((s.1 : Int) < 4)) (rq Try.prog (do eqGuard .shr 35 o1 o2 (.int .u32 X) (.int .u64 (IntKind.wrap .u64 (IntKind.wrap .i64 (8 * s.1)))); binOp .shr 35 (.int .u32 X) (.int .u64 (IntKind.wrap .u64 (IntKind.wrap .i64 (8 * s.1))))) w fun v => fI .u32 v fun y =>
      rq Try.prog (Instr.indexAt 31 (.slice (some ⟨b, 0, none⟩) 256 256) (.int .i64 (IntKind.wrap .i64 (E + s.1)))) w fun v => fA v fun a =>
      st Try.prog 5 a (.int .u8 (IntKind.wrap .u8 y)) w fun w' =>
      next (((IntKind.wrap .i64 (s.1 + 1)) : Int), ()) w') (K w)) ((0 : Int), ()) w := by
  subst hX hE
  refine LoopW.nat 4 (fun j s w' => s = ((j : Int), ()) ∧ At w' b (by_ (setb l k x j)) T ∧ Ext w w' (· = b)) ⟨rfl, ha, Ext.refl _ _⟩ ?_
  rintro j s w1 next hj ⟨rfl, a1, e1⟩ hnext
  dsimp only
  by_cases hlt : j < 4
  case neg =>
    rw [decide_eq_false (by omega), br_false]
    have : j = 4 := by omega
    subst this
    exact hK w1 a1 e1
  rw [decide_eq_true (by omega), br_true]
  rw [wrap_i64 (x := 8 * (j : Int)) (by omega) (by omega), wrap_u64 (by omega) (by omega)]
  refine qI (shr_i (by omega) (by show 8 * (j : Int) ≤ ((32 : Nat) : Int); omega)) ?_
  rw [fdiv_byte, wrap_byte, show ((4 * k : Nat) : Int) + (j : Int) = ((4 * k + j : Nat) : Int) by push_cast; rfl, wrap_nat (by omega), inc_nat (by omega)]
  refine ixb (4 * k + j) 1 5 (by omega) ?_
  refine st_i a1 (by rw [by_length, setb_length]; omega) fun w2 a2 e2 z2 => ?_
  rw [by_set, Nat.mul_one] at a2
  exact hnext hlt _ _ ⟨rfl, a2, e1.tr e2⟩

theorem repeated_k4 {x m : Nat} (hx : x < 4294967296) (h0 : x ≠ 0) (hm : m ≤ 64) (e0 : Ext U w (fun _ => False)) (hQ : ∀ w', Ext U w' (fun _ => False) → Q (.bool true) w') :
    W.law33_PagezipRepeatedWord_k4 (x : Int) (m : Int) w Q := by
  unfold W.law33_PagezipRepeatedWord_k4
  refine mkB (n := 256) 5 (by omega) fun b w1 hb a1 e1 z1 => ?_
  have hbU : U.heap.size ≤ b := by have := e0.size; omega
  refine LoopW.nat m (fun i s w' => s = ((i : Int), ()) ∧ At w' b (by_ (flat (wsAt x i))) 5 ∧ Ext U w' (fun _ => False)) ⟨rfl, by rw [wsAt_zero, flat_zero]; exact a1, e0.tr e1⟩ ?_
  rintro i s w2 next hi ⟨rfl, a2, e2⟩ hnext
  dsimp only
  have hfl : (flat (wsAt x i)).length = 256 := by rw [flat_length, wsAt_length]
  by_cases hlt : i < m
  case neg =>
    rw [decide_eq_false (by omega), br_false]
    have : i = m := by omega
    subst this
    unfold W.law33_PagezipRepeatedWord_k12
    refine bsT a2 hfl ?_
    refine compress_c hfl fun w3 e3 => ⟨_, _, rfl, ?_⟩
    have hc := comp_repeated hx h0 hm
    have e23 := e2.tr e3
    have fin : ∀ z : Int, z = ((comp (flat (wsAt x i))).length : Int) → W.law33_PagezipRepeatedWord_k18 (mkS (comp (flat (wsAt x i)))) 0 z w3 Q := by
      rintro z rfl
      unfold W.law33_PagezipRepeatedWord_k18
      rw [mkS_size, show ((0 : Int) == 0) = true from rfl, br_true, beq_self_eq_true, br_true]
      exact awake_fin hQ e23
    rw [fdiv16]
    refine br_of (fun h => ?_) (fun h => ?_)
    · simp only [decide_eq_true_eq] at h
      rw [if_neg (by omega)] at hc
      refine br_of (fun h' => fin _ ?_) (fun h' => fin _ ?_)
      · rw [beq_iff_eq] at h'
        rw [hc, if_pos (by omega), wrap_i64 (x := 17 + 4) (by omega) (by omega), wrap_i64 (x := 17 + 4 + (i : Int)) (by omega) (by omega), wrap_i64 (x := 17 + 4 + (i : Int) - 1) (by omega) (by omega), wrap_i64 (by omega) (by omega)]
        omega
      · rw [beq_eq_false_iff_ne] at h'
        rw [hc, if_neg (by omega), wrap_i64 (x := 17 + 4) (by omega) (by omega), wrap_i64 (x := 17 + 4 + (i : Int)) (by omega) (by omega), wrap_i64 (by omega) (by omega)]
        omega
    · simp only [decide_eq_false_iff_not] at h
      rw [if_pos (by omega)] at hc
      exact fin _ (by rw [hc]; rfl)
  rw [decide_eq_true (by omega), br_true]
  have hmod : Int.tmod (IntKind.wrap .i64 (5 * (i : Int))) 64 = ((5 * i % 64 : Nat) : Int) := by
    rw [wrap_i64 (by omega) (by omega), show 5 * (i : Int) = ((5 * i : Nat) : Int) by push_cast; rfl]; rfl
  rw [hmod]
  refine put4_loop (k := 5 * i % 64) a2 hfl (by omega) rfl (by rw [wrap_i64 (by omega) (by omega)]; push_cast; rfl) fun w3 a3 e3 => ?_
  rw [setb_flat, ← wsAt_succ] at a3
  rw [inc_nat (by omega)]
  exact hnext hlt _ _ ⟨rfl, a3, e2.trans e3 (fun _ _ h => h) (fun b' hb' h => by omega)⟩

theorem repeatedWord_c {x n : Int} (h0 : 0 ≤ x) (h1 : x ≤ 4294967295) (hQ : ∀ w', Ext U w' (fun _ => False) → Q (.bool true) w') : CallE Try.prog 7 #[.int .u32 x, .int .i64 n] U Q := by
  apply C.law33_PagezipRepeatedWord
  unfold W.law33_PagezipRepeatedWord
  refine mod_c (by omega) (by omega) (fi ?_)
  have hm := modv_bd (v := n) (n := 65) (by omega)
  obtain ⟨m, hm'⟩ := nat_of hm.1
  rw [hm'] at hm ⊢
  obtain ⟨y, rfl⟩ := nat_of h0
  refine br_of (fun h => repeated_k4 (x := 1) (by omega) (by omega) (by omega) (Ext.refl _ _) hQ) (fun h => repeated_k4 (by omega) ?_ (by omega) (Ext.refl _ _) hQ)
  rw [beq_eq_false_iff_ne] at h
  omega

theorem incompressible_c {s lo : Int} (h0 : 0 ≤ s) (h1 : s ≤ 65535) (h2 : 0 ≤ lo) (h3 : lo ≤ 65535) (hQ : ∀ w', Ext U w' (fun _ => False) → Q (.bool true) w') : CallE Try.prog 8 #[.int .u16 s, .int .u16 lo] U Q := by
  obtain ⟨s, rfl⟩ := nat_of h0
  obtain ⟨lo, rfl⟩ := nat_of h2
  have hs : s % 60000 < 60000 := Nat.mod_lt _ (by omega)
  apply C.law33_PagezipIncompressible
  unfold W.law33_PagezipIncompressible
  refine mkB (n := 256) 5 (by omega) fun b w1 hb a1 e1 z1 => ?_
  refine LoopW.nat 64 (fun i y w' => y = ((i : Int), ()) ∧ At w' b (by_ (flat (incs (s % 60000) lo i))) 5 ∧ Ext U w' (fun _ => False)) ⟨rfl, by rw [incs_zero, flat_zero]; exact a1, e1⟩ ?_
  rintro i y w2 next hi ⟨rfl, a2, e2⟩ hnext
  dsimp only
  have hfl : (flat (incs (s % 60000) lo i)).length = 256 := by rw [flat_length, incs_length]
  by_cases hlt : i < 64
  case neg =>
    rw [decide_eq_false (by omega), br_false]
    have : i = 64 := by omega
    subst this
    unfold W.law33_PagezipIncompressible_k10
    refine bsT a2 hfl ?_
    refine compress_c hfl fun w3 e3 => ⟨_, _, rfl, ?_⟩
    rw [show ((0 : Int) == 0) = true from rfl, br_true]
    refine bsT (a2.ext e3 (fun h => h)) hfl ?_
    refine qT (s_add (a := [0]) (by simp; omega)) ?_
    refine qB s_eq ?_
    rw [decide_eq_true (by rw [comp_incs hs (by omega)]; rfl), br_true]
    exact awake_fin hQ (e2.tr e3)
  rw [decide_eq_true (by omega), br_true]
  refine put4_loop (k := i) (x := inc (s % 60000) lo i) a2 hfl hlt ?_ (by rw [wrap_i64 (by omega) (by omega)]; push_cast; rfl) fun w3 a3 e3 => ?_
  · have hu16 : ∀ z : Int, IntKind.wrap .u16 z = z % 65536 := fun z => by simp [IntKind.wrap, IntKind.bits, IntKind.signed]
    rw [wrap_i64 (x := (i : Int) + 1) (by omega) (by omega), hu16, hu16, show Int.tmod (s : Int) 60000 = ((s % 60000 : Nat) : Int) from rfl]
    simp only [wrap_u32']
    unfold inc
    omega
  rw [setb_flat, ← incs_succ] at a3
  rw [inc_nat (by omega)]
  exact hnext hlt _ _ ⟨rfl, a3, e2.trans e3 (fun _ _ h => h) (fun b' hb' h => by omega)⟩
end
end Go.Proofs.Ytndgldmlimmmjaa.Pz
