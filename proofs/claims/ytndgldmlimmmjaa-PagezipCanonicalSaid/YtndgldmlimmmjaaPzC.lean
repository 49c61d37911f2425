/-
  Page compression: the statement PagezipCanonical over the code. No condition beyond those stated.
-/
import Derived.Test.YtndgldmlimmmjaaPzL
import Derived.Test.YtndgldmlimmmjaaQ
namespace Go.Proofs.Ytndgldmlimmmjaa.Pz
open Go Go.Ev Go.Proofs Go.ChangeShapes Go.WideShapes Go.ChangeAt Go.RowKit

theorem back_cases (s : List UInt8) : (∃ p, p.length = 256 ∧ comp p = s ∧ back (expP s) s = (p, 0)) ∨ back (expP s) s = ([], 3) := by
  cases h : expP s with
  | none => exact .inr rfl
  | some p =>
    by_cases hc : comp p = s
    · left
      refine ⟨p, expP_length h, hc, ?_⟩
      unfold back
      dsimp only
      rw [if_pos hc]
    · right
      unfold back
      dsimp only
      rw [if_neg hc]

section
variable {U : World} {Q : Value → World → Prop}

theorem canonical_c {l : List UInt8} {wl : Option Addr} {wn wc : Nat} {st at_ c : Int} (hU : U32s U wl wn) (hs0 : 0 ≤ st) (hs1 : st ≤ 255) (hc0 : 0 ≤ c) (hc1 : c ≤ 255) (hQ : ∀ w', Ext U w' (fun _ => False) → Q (.bool true) w') :
    CallE Try.prog 6 #[.string (mkS l), .slice wl wn wc, .int .u8 st, .int .i64 at_, .int .u8 c] U Q := by
  apply C.law33_PagezipCanonical
  unfold W.law33_PagezipCanonical
  have key : ∀ f : Bool, (f = false → l.length ≤ 600) → W.law33_PagezipCanonical_k2 (mkS l) wl wn wc st at_ c f U Q := by
    intro f hf
    unfold W.law33_PagezipCanonical_k2
    refine br_of (fun _ => awake_fin hQ (Ext.refl _ _)) (fun hff => ?_)
    have hll := hf hff
    refine page_c hU hs0 hs1 fun p w1 hp e1 => ?_
    rw [fT_str]
    refine compress_c hp fun w2 e2 => ⟨_, _, rfl, ?_⟩
    have hcl := comp_length hp
    rw [show ((0 : Int) != 0) = false from rfl, br_false, mkS_size, show ((((comp p).length : Nat) : Int) == 0) = false by rw [beq_eq_false_iff_ne]; omega, br_false]
    refine mod_c (by omega) (by omega) ?_
    rw [fI_int]
    have hm := modv_bd (v := at_) (n := ((comp p).length : Int)) (by omega)
    obtain ⟨k, hk⟩ : ∃ k : Nat, modv at_ ((comp p).length : Int) = (k : Int) := ⟨(modv at_ ((comp p).length : Int)).toNat, by omega⟩
    rw [hk] at hm ⊢
    generalize comp p = x at *
    obtain ⟨cb, rfl⟩ := u8_of hc0 hc1
    rw [inc_nat (by omega)]
    refine ⟨fun _ => True, trivial, ?_⟩
    refine qST (s_hi (by omega) (by omega)) ?_
    rw [Int.toNat_natCast]
    refine qST (s_lo (by omega) (by omega)) ?_
    rw [Int.toNat_natCast]
    refine al_i fun b w3 hb a3 e3 z3 => ?_
    refine ⟨trivial, ?_⟩
    refine bsT (l := [cb]) a3 rfl ?_
    refine ⟨trivial, ?_⟩
    refine qST (s_add (by simp only [List.length_append, List.length_take, List.length_drop, List.length_cons, List.length_nil]; omega)) ?_
    refine qST (s_add (by simp only [List.length_append, List.length_take, List.length_drop, List.length_cons, List.length_nil]; omega)) ?_
    have hyl : (x.take k ++ [cb] ++ x.drop (k + 1)).length ≤ 600 := by simp only [List.length_append, List.length_take, List.length_drop, List.length_cons, List.length_nil]; omega
    generalize x.take k ++ [cb] ++ x.drop (k + 1) = y at *
    have e03 : Ext U w3 (fun _ => False) := ((e1.tr e2).tr e3.of_drew)
    refine LoopW.nat 2 (fun i z w' => z = ((i : Int), ()) ∧ Ext U w' (fun _ => False)) ⟨rfl, e03⟩ ?_
    rintro i z w4 next hi ⟨rfl, e4⟩ hnext
    dsimp only
    by_cases hlt : i < 2
    case neg =>
      rw [decide_eq_false (by omega), br_false]
      unfold W.law33_PagezipCanonical_k18
      exact awake_fin hQ e4
    rw [decide_eq_true (by omega), br_true]
    have hpick : ∃ s : List UInt8, s.length ≤ 600 ∧ ([Value.string (mkS l), .string (mkS y)])[i]? = some (.string (mkS s)) := by
      rcases (show i = 0 ∨ i = 1 by omega) with rfl | rfl
      · exact ⟨l, hll, rfl⟩
      · exact ⟨y, hyl, rfl⟩
    obtain ⟨s, hsl, hs⟩ := hpick
    refine qT (ag_x i 2 9 hlt hs) ?_
    refine decompress_c (by omega) fun w5 e5 => ⟨_, _, rfl, ?_⟩
    rw [inc_nat (by omega)]
    rcases back_cases s with ⟨q, hq, hcq, hb⟩ | hb
    · rw [hb, show ((0 : Int) != 0) = false from rfl, br_false]
      refine compress_c hq fun w6 e6 => ⟨_, _, rfl, ?_⟩
      rw [show ((0 : Int) != 0) = false from rfl, br_false]
      refine qB s_ne ?_
      rw [decide_eq_true hcq, Bool.not_true, br_false]
      exact hnext hlt _ _ ⟨rfl, (e4.tr e5).tr e6⟩
    · rw [hb, show ((3 : Int) != 0) = true from rfl, br_true, show ((3 : Int) != 3) = false from rfl, br_false, mkS_nil]
      refine qB s_ne ?_
      rw [decide_eq_true rfl, Bool.not_true, br_false]
      exact hnext hlt _ _ ⟨rfl, e4.tr e5⟩
  rw [mkS_size]
  refine br_of (fun h1 => key true (by simp)) (fun h1 => key _ (fun h2 => ?_))
  simp only [decide_eq_false_iff_not] at h1
  omega
end
end Go.Proofs.Ytndgldmlimmmjaa.Pz
