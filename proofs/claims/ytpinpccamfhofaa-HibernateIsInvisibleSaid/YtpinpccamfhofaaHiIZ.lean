/-
  The statement HibernateIsInvisible holds for every input: a program does not see that the machine hibernates. No condition.
-/
import Derived.Test.YtpinpccamfhofaaHiW
import Derived.Test.YtpinpccamfhofaaGB
set_option linter.unusedVariables false
set_option linter.unusedSimpArgs false
namespace Go.Proofs.Ytpinpccamfhofaa.Hi
open Go Go.Ev Go.Proofs.Ytpinpccamfhofaa.Im Go.Proofs Go.ChangeShapes Go.WideShapes Go.ChangeAt Go.RowKit

set_option maxRecDepth 100000 in
theorem HibernateIsInvisible_lifted (os : Os) (started : os.Started) (H : Type) (enc : TypeId × Value → H) :
    ReturnsInHanded {} Try.checked os 9 .any (Rows.hibernateIsInvisibleSpec.pre6 enc Try.prog Try.f9 Rows.hibernateIsInvisibleRow.domain false) (Rows.hibernateIsInvisibleSpec.post enc Try.prog Try.f9 false true false false) := by
  refine returnsInHanded_of_change_sized (C := Try.checked) own started (by kernel_rfl) Try.func9
    (ChangeSpec.witness6 (enc := enc) (C := Try.checked) false ⟨#[], #[.slice none 0 0, .slice none 0 0, .int .i64 0, .slice none 0 0], []⟩ 8 (by kernel_rfl) (by kernel_rfl) (by kernel_rfl) (by kernel_rfl)) ?_
  intro W base args ds gs before hval0 hW _ hsz _
  have hval : ∀ (j : Nat) t v, Try.f9.params[j]? = some t → args[j]? = some v → Value.okWide Try.prog W .any base t v := hval0
  have hW' := hW
  obtain ⟨p, q, hA0, hV, rfl, hfz, hnd⟩ := hW
  have hA : DataW.TrodAll enc Try.prog W 0 (fun _ => true) true Try.f9.params.toList args.toList ds p := hA0
  rw [Try.params9] at hA hval
  obtain ⟨v0, vs0, d0, ds0, p0, q0, hargs, rfl, rfl, h0, r0⟩ := trodAll_cons hA
  obtain ⟨v1, vs1, d1, ds1, p1, q1, rfl, rfl, rfl, h1, r1⟩ := trodAll_cons r0
  obtain ⟨v2, vs2, d2, ds2, p2, q2, rfl, rfl, rfl, h2, r2⟩ := trodAll_cons r1
  obtain ⟨v3, vs3, d3, ds3, p3, q3, rfl, rfl, rfl, h3, r3⟩ := trodAll_cons r2
  obtain ⟨rfl, rfl, rfl⟩ := trodAll_nil r3
  obtain rfl : args = #[v0, v1, v2, v3] := by cases args; simp_all
  obtain ⟨rfl, rfl⟩ := trodVars_none hV
  have g0 := hval 0 _ v0 rfl rfl
  have g1 := hval 1 _ v1 rfl rfl
  have g2 := hval 2 _ v2 rfl rfl
  have g3 := hval 3 _ v3 rfl rfl
  obtain ⟨l0, ln0, lc0, rs0, rfl, hR0⟩ := open_raws g0 h0
  obtain ⟨l1, ln1, lc1, xs1, rfl, hS1⟩ := open_stos g1 h1
  obtain ⟨n2, rfl, _, _, w2⟩ := open_int (k := .i64) (by kernel_rfl) g2 h2
  obtain ⟨l3, ln3, lc3, kl3, rfl, hK3⟩ := Bd.open_bools g3 h3 (light_of (ts := Try.f9.params.toList) hsz 3 (t := 78) (by kernel_rfl) rfl)
  refine CallE.mono (invisible_c (rc := lc0) (cut_ := n2) (kc := lc3) hR0 hS1 hK3 (Q := fun v W' => v = .bool true ∧ Below W.heap.size W W') fun w' e => ⟨rfl, e.below (Nat.le_refl _) (fun _ _ h => h)⟩) ?_
  rintro v W' ⟨rfl, hb⟩
  exact law_post (tb := 4) laidOut (by kernel_rfl) (by kernel_rfl) (by kernel_rfl) rfl hW' ⟨rfl, rfl, rfl⟩ hb

theorem HibernateIsInvisible_holds : Rows.HibernateIsInvisibleSaid :=
  OpenClaim.holds_of_wide 9 Try.f9 rfl rfl rfl rfl rfl rfl rfl ⟨rfl, rfl, rfl, rfl, rfl⟩ rfl rfl rfl rfl rfl (by kernel_rfl) Try.func9 (by kernel_rfl)
    (of_decide_eq_true (by kernel_rfl)) (by unfold Func.isWrapper; first | (rw [if_pos (by decide +kernel)]; kernel_rfl) | (rw [if_neg (by decide +kernel)]; exact ⟨rfl, rfl⟩))
    (fun os started H enc _ => HibernateIsInvisible_lifted os started H enc)

end Go.Proofs.Ytpinpccamfhofaa.Hi
