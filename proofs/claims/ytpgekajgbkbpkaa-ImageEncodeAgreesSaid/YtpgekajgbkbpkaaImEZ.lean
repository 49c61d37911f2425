/-
  The statement ImageEncodeAgrees holds for every input: Encode returns the result of the reference. No condition.
-/
import Derived.Test.YtpgekajgbkbpkaaImV
import Derived.Test.YtpgekajgbkbpkaaZ
namespace Go.Proofs.Ytpgekajgbkbpkaa.Im
open Go Go.Ev Go.Proofs Go.ChangeShapes Go.WideShapes Go.ChangeAt Go.RowKit

set_option maxRecDepth 100000 in
theorem ImageEncodeAgrees_lifted (os : Os) (started : os.Started) (H : Type) (enc : TypeId × Value → H) :
    ReturnsInHanded {} Try.checked os 7 .any (Rows.imageEncodeAgreesSpec.pre6 enc Try.prog Try.f7 Rows.imageEncodeAgreesRow.domain false) (Rows.imageEncodeAgreesSpec.post enc Try.prog Try.f7 false true false false) := by
  refine returnsInHanded_of_change (C := Try.checked) own started (by kernel_rfl) Try.func7
    (ChangeSpec.witness6 (enc := enc) (C := Try.checked) false ⟨#[], #[.agg (by_ zb).toArray, .int .u64 0, .slice none 0 0, .int .i64 0, .int .i64 0, .string ⟨#[]⟩, .int .u8 0], []⟩ 8 (by kernel_rfl) (by kernel_rfl) (by kernel_rfl) (by kernel_rfl)) ?_
  intro W base args ds gs before hval0 hW _ _
  have hval : ∀ (j : Nat) t v, Try.f7.params[j]? = some t → args[j]? = some v → Value.okWide Try.prog W .any base t v := hval0
  have hW' := hW
  obtain ⟨p, q, hA0, hV, rfl, hfz, hnd⟩ := hW
  have hA : DataW.TrodAll enc Try.prog W 0 (fun _ => true) true Try.f7.params.toList args.toList ds p := hA0
  rw [Try.params7] at hA hval
  obtain ⟨v0, vs0, d0, ds0, p0, q0, hargs, rfl, rfl, h0, r0⟩ := trodAll_cons hA
  obtain ⟨v1, vs1, d1, ds1, p1, q1, rfl, rfl, rfl, h1, r1⟩ := trodAll_cons r0
  obtain ⟨v2, vs2, d2, ds2, p2, q2, rfl, rfl, rfl, h2, r2⟩ := trodAll_cons r1
  obtain ⟨v3, vs3, d3, ds3, p3, q3, rfl, rfl, rfl, h3, r3⟩ := trodAll_cons r2
  obtain ⟨v4, vs4, d4, ds4, p4, q4, rfl, rfl, rfl, h4, r4⟩ := trodAll_cons r3
  obtain ⟨v5, vs5, d5, ds5, p5, q5, rfl, rfl, rfl, h5, r5⟩ := trodAll_cons r4
  obtain ⟨v6, vs6, d6, ds6, p6, q6, rfl, rfl, rfl, h6, r6⟩ := trodAll_cons r5
  obtain ⟨rfl, rfl, rfl⟩ := trodAll_nil r6
  obtain rfl : args = #[v0, v1, v2, v3, v4, v5, v6] := by cases args; simp_all
  obtain ⟨rfl, rfl⟩ := trodVars_none hV
  have g0 := hval 0 _ v0 rfl rfl
  have g1 := hval 1 _ v1 rfl rfl
  have g2 := hval 2 _ v2 rfl rfl
  have g3 := hval 3 _ v3 rfl rfl
  have g4 := hval 4 _ v4 rfl rfl
  have g5 := hval 5 _ v5 rfl rfl
  have g6 := hval 6 _ v6 rfl rfl
  obtain ⟨bd0, rfl, hl0⟩ := open_board g0 h0
  obtain ⟨n1, rfl, _, _, w1⟩ := open_int (k := .u64) (by kernel_rfl) g1 h1
  obtain ⟨m1, rfl⟩ := nat_of (int_of_wf w1).1
  have hm1 : (m1 : Int) ≤ 18446744073709551615 := (int_of_wf w1).2
  obtain ⟨l2, ln2, lc2, rs2, rfl, hR2⟩ := open_raws g2 h2
  obtain ⟨n3, rfl, _, _, w3⟩ := open_int (k := .i64) (by kernel_rfl) g3 h3
  obtain ⟨n4, rfl, _, _, w4⟩ := open_int (k := .i64) (by kernel_rfl) g4 h4
  obtain ⟨s5, rfl⟩ := open_str (by kernel_rfl) g5
  obtain ⟨n6, rfl, _, _, w6⟩ := open_int (k := .u8) (by kernel_rfl) g6 h6
  refine CallE.mono (encodeAgrees_c (rc := lc2) (k := n3) (n := n4) (data := s5) (how := n6) hl0 hR2 (Q := fun v W' => v = .bool true ∧ Below W.heap.size W W') fun w' e => ⟨rfl, e.below (Nat.le_refl _) (fun _ _ h => h)⟩) ?_
  rintro v W' ⟨rfl, hb⟩
  exact law_post (tb := 4) laidOut (by kernel_rfl) (by kernel_rfl) (by kernel_rfl) rfl hW' ⟨rfl, rfl, rfl⟩ hb

theorem ImageEncodeAgrees_holds : Rows.ImageEncodeAgreesSaid :=
  OpenClaim.holds_of_wide 7 Try.f7 rfl rfl rfl rfl rfl rfl rfl ⟨rfl, rfl, rfl, rfl, rfl⟩ rfl rfl rfl rfl rfl (by kernel_rfl) Try.func7 (by kernel_rfl)
    (of_decide_eq_true (by kernel_rfl)) (by unfold Func.isWrapper; first | (rw [if_pos (by decide +kernel)]; kernel_rfl) | (rw [if_neg (by decide +kernel)]; exact ⟨rfl, rfl⟩))
    (fun os started H enc _ => ImageEncodeAgrees_lifted os started H enc)

end Go.Proofs.Ytpgekajgbkbpkaa.Im
