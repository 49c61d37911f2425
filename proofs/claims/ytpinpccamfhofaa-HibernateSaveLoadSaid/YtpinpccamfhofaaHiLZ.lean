/-
  The statement HibernateSaveLoad holds for every input: what was saved is loaded once, and for its own board only. No condition.
-/
import Derived.Test.YtpinpccamfhofaaHiM
import Derived.Test.YtpinpccamfhofaaGB
namespace Go.Proofs.Ytpinpccamfhofaa.Hi
open Go Go.Ev Go.Proofs.Ytpinpccamfhofaa.Im Go.Proofs Go.ChangeShapes Go.WideShapes Go.ChangeAt Go.RowKit

set_option maxRecDepth 100000 in
theorem HibernateSaveLoad_lifted (os : Os) (started : os.Started) (H : Type) (enc : TypeId × Value → H) :
    ReturnsInHanded {} Try.checked os 4 .any (Rows.hibernateSaveLoadSpec.pre6 enc Try.prog Try.f4 Rows.hibernateSaveLoadRow.domain false) (Rows.hibernateSaveLoadSpec.post enc Try.prog Try.f4 false true false false) := by
  refine returnsInHanded_of_change (C := Try.checked) own started (by kernel_rfl) Try.func4
    (ChangeSpec.witness6 (enc := enc) (C := Try.checked) false ⟨#[], #[.agg (by_ zb).toArray, .agg (by_ zb).toArray, .int .u64 0, .slice none 0 0], []⟩ 8 (by kernel_rfl) (by kernel_rfl) (by kernel_rfl) (by kernel_rfl)) ?_
  intro W base args ds gs before hval0 hW _ _
  have hval : ∀ (j : Nat) t v, Try.f4.params[j]? = some t → args[j]? = some v → Value.okWide Try.prog W .any base t v := hval0
  have hW' := hW
  obtain ⟨p, q, hA0, hV, rfl, hfz, hnd⟩ := hW
  have hA : DataW.TrodAll enc Try.prog W 0 (fun _ => true) true Try.f4.params.toList args.toList ds p := hA0
  rw [Try.params4] at hA hval
  obtain ⟨v0, vs0, d0, ds0, p0, q0, hargs, rfl, rfl, h0, r0⟩ := trodAll_cons hA
  obtain ⟨v1, vs1, d1, ds1, p1, q1, rfl, rfl, rfl, h1, r1⟩ := trodAll_cons r0
  obtain ⟨v2, vs2, d2, ds2, p2, q2, rfl, rfl, rfl, h2, r2⟩ := trodAll_cons r1
  obtain ⟨v3, vs3, d3, ds3, p3, q3, rfl, rfl, rfl, h3, r3⟩ := trodAll_cons r2
  obtain ⟨rfl, rfl, rfl⟩ := trodAll_nil r3
  obtain rfl : args = #[v0, v1, v2, v3] := by cases args; simp_all
  obtain ⟨rfl, rfl⟩ := trodVars_none hV
  have g0 := hval 0 _ v0 rfl rfl
  have g1 := hval 1 _ v1 rfl rfl
  have g2 := hval 2 _ v2 rfl rfl
  have g3 := hval 3 _ v3 rfl rfl
  obtain ⟨bd0, rfl, hl0⟩ := open_board g0 h0
  obtain ⟨bd1, rfl, hl1⟩ := open_board g1 h1
  obtain ⟨n2, rfl, _, _, w2⟩ := open_int (k := .u64) (by kernel_rfl) g2 h2
  obtain ⟨m2, rfl⟩ := nat_of (int_of_wf w2).1
  have hm2 : (m2 : Int) ≤ 18446744073709551615 := (int_of_wf w2).2
  obtain ⟨l3, ln3, lc3, rs3, rfl, hR3⟩ := open_raws g3 h3
  refine CallE.mono (saveLoad_c (rc := lc3) hl0 hl1 (by omega) hR3 (Q := fun v W' => v = .bool true ∧ Below W.heap.size W W') fun w' e => ⟨rfl, e.below (Nat.le_refl _) (fun _ _ h => h)⟩) ?_
  rintro v W' ⟨rfl, hb⟩
  exact law_post (tb := 4) laidOut (by kernel_rfl) (by kernel_rfl) (by kernel_rfl) rfl hW' ⟨rfl, rfl, rfl⟩ hb

theorem HibernateSaveLoad_holds : Rows.HibernateSaveLoadSaid :=
  OpenClaim.holds_of_wide 4 Try.f4 rfl rfl rfl rfl rfl rfl rfl ⟨rfl, rfl, rfl, rfl, rfl⟩ rfl rfl rfl rfl rfl (by kernel_rfl) Try.func4 (by kernel_rfl)
    (of_decide_eq_true (by kernel_rfl)) (by unfold Func.isWrapper; first | (rw [if_pos (by decide +kernel)]; kernel_rfl) | (rw [if_neg (by decide +kernel)]; exact ⟨rfl, rfl⟩))
    (fun os started H enc _ => HibernateSaveLoad_lifted os started H enc)

end Go.Proofs.Ytpinpccamfhofaa.Hi
