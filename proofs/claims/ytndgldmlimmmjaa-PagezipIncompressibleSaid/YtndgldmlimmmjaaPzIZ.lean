/-
  The statement PagezipIncompressible holds for every input: a page of words with different upper halves is stored as it is. No condition.
-/
import Derived.Test.YtndgldmlimmmjaaPzR
import Derived.Test.YtndgldmlimmmjaaZ
namespace Go.Proofs.Ytndgldmlimmmjaa.Pz
open Go Go.Ev Go.Proofs Go.ChangeShapes Go.WideShapes Go.ChangeAt Go.RowKit

set_option maxRecDepth 100000 in
theorem PagezipIncompressible_lifted (os : Os) (started : os.Started) (H : Type) (enc : TypeId × Value → H) :
    ReturnsInHanded {} Try.checked os 8 .any (Rows.pagezipIncompressibleSpec.pre6 enc Try.prog Try.f8 Rows.pagezipIncompressibleRow.domain false) (Rows.pagezipIncompressibleSpec.post enc Try.prog Try.f8 false true false false) := by
  refine returnsInHanded_of_change (C := Try.checked) own started (by kernel_rfl) Try.func8
    (ChangeSpec.witness6 (enc := enc) (C := Try.checked) false ⟨#[], #[.int .u16 0, .int .u16 0], []⟩ 8 (by kernel_rfl) (by kernel_rfl) (by kernel_rfl) (by kernel_rfl)) ?_
  intro W base args ds gs before hval0 hW _ _
  have hval : ∀ (j : Nat) t v, Try.f8.params[j]? = some t → args[j]? = some v → Value.okWide Try.prog W .any base t v := hval0
  have hW' := hW
  obtain ⟨p, q, hA0, hV, rfl, hfz, hnd⟩ := hW
  have hA : DataW.TrodAll enc Try.prog W 0 (fun _ => true) true Try.f8.params.toList args.toList ds p := hA0
  rw [Try.params8] at hA hval
  obtain ⟨v0, vs0, d0, ds0, p0, q0, hargs, rfl, rfl, h0, r0⟩ := trodAll_cons hA
  obtain ⟨v1, vs1, d1, ds1, p1, q1, rfl, rfl, rfl, h1, r1⟩ := trodAll_cons r0
  obtain ⟨rfl, rfl, rfl⟩ := trodAll_nil r1
  obtain rfl : args = #[v0, v1] := by cases args; simp_all
  obtain ⟨rfl, rfl⟩ := trodVars_none hV
  have g0 := hval 0 _ v0 rfl rfl
  have g1 := hval 1 _ v1 rfl rfl
  obtain ⟨n0, rfl, _, _, w0⟩ := open_int (k := .u16) (by kernel_rfl) g0 h0
  obtain ⟨n1, rfl, _, _, w1⟩ := open_int (k := .u16) (by kernel_rfl) g1 h1
  refine CallE.mono (incompressible_c (int_of_wf w0).1 (int_of_wf w0).2 (int_of_wf w1).1 (int_of_wf w1).2 (Q := fun v W' => v = .bool true ∧ Below W.heap.size W W') fun w' e => ⟨rfl, e.below (Nat.le_refl _) (fun _ _ h => h)⟩) ?_
  rintro v W' ⟨rfl, hb⟩
  exact law_post (tb := 4) laidOut (by kernel_rfl) (by kernel_rfl) (by kernel_rfl) rfl hW' ⟨rfl, rfl, rfl⟩ hb

theorem PagezipIncompressible_holds : Rows.PagezipIncompressibleSaid :=
  OpenClaim.holds_of_wide 8 Try.f8 rfl rfl rfl rfl rfl rfl rfl ⟨rfl, rfl, rfl, rfl, rfl⟩ rfl rfl rfl rfl rfl (by kernel_rfl) Try.func8 (by kernel_rfl)
    (of_decide_eq_true (by kernel_rfl)) (by unfold Func.isWrapper; first | (rw [if_pos (by decide +kernel)]; kernel_rfl) | (rw [if_neg (by decide +kernel)]; exact ⟨rfl, rfl⟩))
    (fun os started H enc _ => PagezipIncompressible_lifted os started H enc)

end Go.Proofs.Ytndgldmlimmmjaa.Pz
