/-
  The statement HibernateEventAbortsFreezing holds for every input: a wake event ends freezing, or all processes are frozen, or the time runs out. No condition.
-/
import Derived.Test.YtpinpccamfhofaaHiV
import Derived.Test.YtpinpccamfhofaaGB
set_option linter.unusedVariables false
set_option linter.unusedSimpArgs false
namespace Go.Proofs.Ytpinpccamfhofaa.Hi
open Go Go.Ev Go.Proofs.Ytpinpccamfhofaa.Im Go.Proofs Go.ChangeShapes Go.WideShapes Go.ChangeAt Go.RowKit

set_option maxRecDepth 100000 in
theorem HibernateEventAbortsFreezing_lifted (os : Os) (started : os.Started) (H : Type) (enc : TypeId × Value → H) :
    ReturnsInHanded {} Try.checked os 13 .any (Rows.hibernateEventAbortsFreezingSpec.pre6 enc Try.prog Try.f13 Rows.hibernateEventAbortsFreezingRow.domain false) (Rows.hibernateEventAbortsFreezingSpec.post enc Try.prog Try.f13 false true false false) := by
  refine returnsInHanded_of_change (C := Try.checked) own started (by kernel_rfl) Try.func13
    (ChangeSpec.witness6 (enc := enc) (C := Try.checked) false ⟨#[], #[.slice none 0 0, .int .u64 0, .int .u64 0], []⟩ 8 (by kernel_rfl) (by kernel_rfl) (by kernel_rfl) (by kernel_rfl)) ?_
  intro W base args ds gs before hval0 hW _ _
  have hval : ∀ (j : Nat) t v, Try.f13.params[j]? = some t → args[j]? = some v → Value.okWide Try.prog W .any base t v := hval0
  have hW' := hW
  obtain ⟨p, q, hA0, hV, rfl, hfz, hnd⟩ := hW
  have hA : DataW.TrodAll enc Try.prog W 0 (fun _ => true) true Try.f13.params.toList args.toList ds p := hA0
  rw [Try.params13] at hA hval
  obtain ⟨v0, vs0, d0, ds0, p0, q0, hargs, rfl, rfl, h0, r0⟩ := trodAll_cons hA
  obtain ⟨v1, vs1, d1, ds1, p1, q1, rfl, rfl, rfl, h1, r1⟩ := trodAll_cons r0
  obtain ⟨v2, vs2, d2, ds2, p2, q2, rfl, rfl, rfl, h2, r2⟩ := trodAll_cons r1
  obtain ⟨rfl, rfl, rfl⟩ := trodAll_nil r2
  obtain rfl : args = #[v0, v1, v2] := by cases args; simp_all
  obtain ⟨rfl, rfl⟩ := trodVars_none hV
  have g0 := hval 0 _ v0 rfl rfl
  have g1 := hval 1 _ v1 rfl rfl
  have g2 := hval 2 _ v2 rfl rfl
  obtain ⟨l0, ln0, lc0, xs0, rfl, hr0, hn0⟩ := open_u64s g0 h0
  obtain ⟨n1, rfl, _, _, w1⟩ := open_int (k := .u64) (by kernel_rfl) g1 h1
  obtain ⟨m1, rfl⟩ := nat_of (int_of_wf w1).1
  have hm1 : (m1 : Int) ≤ 18446744073709551615 := (int_of_wf w1).2
  obtain ⟨n2, rfl, _, _, w2⟩ := open_int (k := .u64) (by kernel_rfl) g2 h2
  obtain ⟨m2, rfl⟩ := nat_of (int_of_wf w2).1
  have hm2 : (m2 : Int) ≤ 18446744073709551615 := (int_of_wf w2).2
  refine CallE.mono (abortsFreezing_c (c := lc0) (wait := m1) (at_ := m2) hr0 hn0 (Q := fun v W' => v = .bool true ∧ Below W.heap.size W W') fun w' e => ⟨rfl, e.below (Nat.le_refl _) (fun _ _ h => h)⟩) ?_
  rintro v W' ⟨rfl, hb⟩
  exact law_post (tb := 4) laidOut (by kernel_rfl) (by kernel_rfl) (by kernel_rfl) rfl hW' ⟨rfl, rfl, rfl⟩ hb

theorem HibernateEventAbortsFreezing_holds : Rows.HibernateEventAbortsFreezingSaid :=
  OpenClaim.holds_of_wide 13 Try.f13 rfl rfl rfl rfl rfl rfl rfl ⟨rfl, rfl, rfl, rfl, rfl⟩ rfl rfl rfl rfl rfl (by kernel_rfl) Try.func13 (by kernel_rfl)
    (of_decide_eq_true (by kernel_rfl)) (by unfold Func.isWrapper; first | (rw [if_pos (by decide +kernel)]; kernel_rfl) | (rw [if_neg (by decide +kernel)]; exact ⟨rfl, rfl⟩))
    (fun os started H enc _ => HibernateEventAbortsFreezing_lifted os started H enc)

end Go.Proofs.Ytpinpccamfhofaa.Hi
