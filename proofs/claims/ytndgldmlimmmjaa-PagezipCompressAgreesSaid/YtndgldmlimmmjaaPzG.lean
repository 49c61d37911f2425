/-
  Page compression: the statements PagezipCompressAgrees and PagezipDecompressAgrees over the code. No condition beyond those stated.
-/
import Derived.Test.YtndgldmlimmmjaaPzL
import Derived.Test.YtndgldmlimmmjaaPzF
namespace Go.Proofs.Ytndgldmlimmmjaa.Pz
open Go Go.Ev Go.Proofs Go.ChangeShapes Go.WideShapes Go.ChangeAt Go.RowKit

section
variable {w U : World} {Q : Value → World → Prop}

/-- What Compress says of any string. -/
def compA (l : List UInt8) : List UInt8 × Int := if l.length = 256 then (comp l, 0) else ([], 1)
theorem compA_page {l : List UInt8} (h : l.length = 256) : compA l = (comp l, 0) := by unfold compA; rw [if_pos h]
theorem compressA_c {l : List UInt8} (hQ : ∀ w', Ext w w' (fun _ => False) → Q (.tuple #[.string (mkS (compA l).1), .int .i64 (compA l).2]) w') : CallE Try.prog 11 #[.string (mkS l)] w Q := by
  unfold compA at hQ
  by_cases h : l.length = 256
  · rw [if_pos h] at hQ; exact compress_c h hQ
  · rw [if_neg h] at hQ; exact compress_bad h (hQ w (Ext.refl _ _))
theorem refCompressA_c {l : List UInt8} (hQ : ∀ w', Ext w w' (fun _ => False) → Q (.tuple #[.string (mkS (compA l).1), .int .i64 (compA l).2]) w') : CallE Try.prog 12 #[.string (mkS l)] w Q := by
  unfold compA at hQ
  by_cases h : l.length = 256
  · rw [if_pos h] at hQ; exact refCompress_c h hQ
  · rw [if_neg h] at hQ; exact refCompress_bad h (hQ w (Ext.refl _ _))

theorem compressAgrees_c {l : List UInt8} {wl : Option Addr} {wn wc : Nat} {st : Int} (hU : U32s U wl wn) (hs0 : 0 ≤ st) (hs1 : st ≤ 255) (hQ : ∀ w', Ext U w' (fun _ => False) → Q (.bool true) w') :
    CallE Try.prog 3 #[.string (mkS l), .slice wl wn wc, .int .u8 st] U Q := by
  apply C.law33_PagezipCompressAgrees
  unfold W.law33_PagezipCompressAgrees
  have key : ∀ f : Bool, W.law33_PagezipCompressAgrees_k2 (mkS l) wl wn wc st f U Q := by
    intro f
    unfold W.law33_PagezipCompressAgrees_k2
    refine br_of (fun _ => awake_fin hQ (Ext.refl _ _)) (fun _ => ?_)
    refine compressA_c fun w1 e1 => ⟨_, _, rfl, ?_⟩
    refine refCompressA_c fun w2 e2 => ⟨_, _, rfl, ?_⟩
    refine page_c (hU.ext (e1.tr e2)) hs0 hs1 fun p w3 hp e3 => ft ?_
    refine compressA_c fun w4 e4 => ⟨_, _, rfl, ?_⟩
    refine refCompressA_c fun w5 e5 => ⟨_, _, rfl, ?_⟩
    refine qB s_eq ?_
    rw [decide_eq_true rfl, br_true, beq_self_eq_true, br_true]
    refine qB s_eq ?_
    rw [decide_eq_true rfl, br_true, beq_self_eq_true, br_true]
    exact awake_fin hQ ((((e1.tr e2).tr e3).tr e4).tr e5)
  exact br_of (fun _ => key _) (fun _ => key _)

theorem decompressAgrees_c {l : List UInt8} {wl : Option Addr} {wn wc : Nat} {st at_ c : Int} (hU : U32s U wl wn) (hs0 : 0 ≤ st) (hs1 : st ≤ 255) (hc0 : 0 ≤ c) (hc1 : c ≤ 255) (hQ : ∀ w', Ext U w' (fun _ => False) → Q (.bool true) w') :
    CallE Try.prog 5 #[.string (mkS l), .slice wl wn wc, .int .u8 st, .int .i64 at_, .int .u8 c] U Q := by
  apply C.law33_PagezipDecompressAgrees
  unfold W.law33_PagezipDecompressAgrees
  have key : ∀ f : Bool, (f = false → l.length ≤ 600) → W.law33_PagezipDecompressAgrees_k2 (mkS l) wl wn wc st at_ c f U Q := by
    intro f hf
    unfold W.law33_PagezipDecompressAgrees_k2
    refine br_of (fun _ => awake_fin hQ (Ext.refl _ _)) (fun hff => ?_)
    have hll := hf hff
    refine page_c hU hs0 hs1 fun p w1 hp e1 => ft ?_
    refine refCompress_c hp fun w2 e2 => ⟨_, _, rfl, ?_⟩
    have hcl := comp_length hp
    rw [mkS_size]
    refine mod_c (by omega) (by omega) (fi ?_)
    have hm := modv_bd (v := at_) (n := ((comp p).length : Int)) (by omega)
    obtain ⟨k, hk⟩ := nat_of hm.1
    rw [hk] at hm ⊢
    generalize comp p = x at *
    obtain ⟨cb, rfl⟩ := u8_of hc0 hc1
    refine al_i fun b w3 hb a3 e3 z3 => ?_
    refine bsT (l := [cb]) a3 rfl ?_
    refine ⟨fun _ => True, trivial, ?_⟩
    rw [inc_nat (by omega)]
    refine qST (s_hi (by omega) (by omega)) ?_
    rw [Int.toNat_natCast]
    refine qST (s_add (by simp only [List.length_append, List.length_take, List.length_drop, List.length_cons, List.length_nil]; omega)) ?_
    refine qST (s_lo (by omega) (by omega)) ?_
    rw [Int.toNat_natCast]
    refine qST (s_add (by simp only [List.length_append, List.length_take, List.length_drop, List.length_cons, List.length_nil]; omega)) ?_
    refine qST (s_hi (by omega) (by omega)) ?_
    rw [Int.toNat_natCast]
    refine qST (s_add (by simp only [List.length_append, List.length_take, List.length_drop, List.length_cons, List.length_nil]; omega)) ?_
    refine qST (s_lo (by omega) (by omega)) ?_
    rw [Int.toNat_natCast]
    refine qST (s_add (by simp only [List.length_append, List.length_take, List.length_drop, List.length_cons, List.length_nil]; omega)) ?_
    refine qST (s_hi (by omega) (by omega)) ?_
    rw [Int.toNat_natCast]
    refine qST (s_lo (by omega) (by omega)) ?_
    rw [Int.toNat_natCast]
    refine qST (s_add (by simp only [List.length_append, List.length_take, List.length_drop, List.length_cons, List.length_nil]; omega)) ?_
    have y1 : (x.take k ++ [cb] ++ x.drop (k + 1)).length ≤ 600 := by simp only [List.length_append, List.length_take, List.length_drop, List.length_cons, List.length_nil]; omega
    have y2 : (x.take k ++ [cb] ++ x.drop k).length ≤ 600 := by simp only [List.length_append, List.length_take, List.length_drop, List.length_cons, List.length_nil]; omega
    have y3 : (x.take k ++ x.drop (k + 1)).length ≤ 600 := by simp only [List.length_append, List.length_take, List.length_drop, List.length_cons, List.length_nil]; omega
    have y4 : x.length ≤ 600 := by omega
    generalize x.take k ++ [cb] ++ x.drop (k + 1) = x1 at *
    generalize x.take k ++ [cb] ++ x.drop k = x2 at *
    generalize x.take k ++ x.drop (k + 1) = x3 at *
    have e03 : Ext U (drew w3) (fun _ => False) := ((e1.tr e2).tr e3).drew_
    refine LoopW.nat 5 (fun i z w' => z = ((i : Int), ()) ∧ Ext U w' (fun _ => False)) ⟨rfl, e03⟩ ?_
    rintro i z w4 next hi ⟨rfl, e4⟩ hnext
    dsimp only
    by_cases hlt : i < 5
    case neg =>
      rw [decide_eq_false (by omega), br_false]
      unfold W.law33_PagezipDecompressAgrees_k14
      exact awake_fin hQ e4
    rw [decide_eq_true (by omega), br_true]
    have hpick : ∃ s : List UInt8, s.length ≤ 600 ∧ ([Value.string (mkS l), .string (mkS x), .string (mkS x1), .string (mkS x2), .string (mkS x3)])[i]? = some (.string (mkS s)) := by
      rcases (show i = 0 ∨ i = 1 ∨ i = 2 ∨ i = 3 ∨ i = 4 by omega) with rfl | rfl | rfl | rfl | rfl
      · exact ⟨l, hll, rfl⟩
      · exact ⟨x, y4, rfl⟩
      · exact ⟨x1, y1, rfl⟩
      · exact ⟨x2, y2, rfl⟩
      · exact ⟨x3, y3, rfl⟩
    obtain ⟨s, hsl, hs⟩ := hpick
    refine qT (ag_x i 5 9 hlt hs) ?_
    refine decompress_c (by omega) fun w5 e5 => ⟨_, _, rfl, ?_⟩
    refine refDecompress_c (by omega) fun w6 e6 => ⟨_, _, rfl, ?_⟩
    rw [back_agrees]
    refine qB s_ne ?_
    rw [decide_eq_true rfl, Bool.not_true, br_false, bne_self_eq_false, br_false, inc_nat (by omega)]
    exact hnext hlt _ _ ⟨rfl, (e4.tr e5).tr e6⟩
  rw [mkS_size]
  refine br_of (fun h1 => key true (by simp)) (fun h1 => key _ (fun h2 => ?_))
  simp only [decide_eq_false_iff_not] at h1
  omega
end
end Go.Proofs.Ytndgldmlimmmjaa.Pz
