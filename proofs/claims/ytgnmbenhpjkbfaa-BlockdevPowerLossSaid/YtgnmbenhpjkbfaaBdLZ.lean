/-
  The statement BlockdevPowerLoss holds for every input: what a power loss leaves. No condition.
-/
import Derived.Test.YtgnmbenhpjkbfaaBdX
import Derived.Test.YtgnmbenhpjkbfaaZ
namespace Go.Proofs.Ytgnmbenhpjkbfaa.Bd
open Go Go.Ev Go.Proofs Go.ChangeShapes Go.WideShapes Go.ChangeAt Go.RowKit

set_option maxRecDepth 100000 in
theorem BlockdevPowerLoss_lifted (os : Os) (started : os.Started) (H : Type) (enc : TypeId × Value → H) :
    ReturnsInHanded {} Try.checked os 6 .any (Rows.blockdevPowerLossSpec.pre6 enc Try.prog Try.f6 Rows.blockdevPowerLossRow.domain false) (Rows.blockdevPowerLossSpec.post enc Try.prog Try.f6 false true false false) := by
  refine returnsInHanded_of_change_sized (C := Try.checked) own started (by kernel_rfl) Try.func6
    (ChangeSpec.witness6 (enc := enc) (C := Try.checked) false ⟨#[], #[.int .i64 0, .slice none 0 0, .slice none 0 0, .slice none 0 0], []⟩ 8 (by kernel_rfl) (by kernel_rfl) (by kernel_rfl) (by kernel_rfl)) ?_
  intro W base args ds gs before hval0 hW _ hsz _
  have hval : ∀ (j : Nat) t v, Try.f6.params[j]? = some t → args[j]? = some v → Value.okWide Try.prog W .any base t v := hval0
  have hW' := hW
  obtain ⟨p, q, hA0, hV, rfl, hfz, hnd⟩ := hW
  have hA : DataW.TrodAll enc Try.prog W 0 (fun _ => true) true Try.f6.params.toList args.toList ds p := hA0
  rw [Try.params6] at hA hval
  obtain ⟨v0, vs0, d0, ds0, p0, q0, hargs, rfl, rfl, h0, r0⟩ := trodAll_cons hA
  obtain ⟨v1, vs1, d1, ds1, p1, q1, rfl, rfl, rfl, h1, r1⟩ := trodAll_cons r0
  obtain ⟨v2, vs2, d2, ds2, p2, q2, rfl, rfl, rfl, h2, r2⟩ := trodAll_cons r1
  obtain ⟨v3, vs3, d3, ds3, p3, q3, rfl, rfl, rfl, h3, r3⟩ := trodAll_cons r2
  obtain ⟨rfl, rfl, rfl⟩ := trodAll_nil r3
  obtain rfl : args = #[v0, v1, v2, v3] := by cases args; simp_all
  obtain ⟨rfl, rfl⟩ := trodVars_none hV
  have g0 := hval 0 _ v0 rfl rfl
  have g1 := hval 1 _ v1 rfl rfl
  have g2 := hval 2 _ v2 rfl rfl
  have g3 := hval 3 _ v3 rfl rfl
  obtain ⟨n0, rfl, _, _, w0⟩ := open_int (k := .i64) (by kernel_rfl) g0 h0
  obtain ⟨l1, ln1, lc1, cs1, rfl, hC1⟩ := open_calls g1 h1 (light_of (ts := Try.f6.params.toList) hsz 1 (t := 30) (by kernel_rfl) rfl)
  obtain ⟨l2, ln2, lc2, cs2, rfl, hC2⟩ := open_calls g2 h2 (light_of (ts := Try.f6.params.toList) hsz 2 (t := 30) (by kernel_rfl) rfl)
  obtain ⟨l3, ln3, lc3, kl3, rfl, hK3⟩ := open_bools g3 h3 (light_of (ts := Try.f6.params.toList) hsz 3 (t := 31) (by kernel_rfl) rfl)
  refine CallE.mono (powerLoss_c (n := n0) (bc := lc1) (lc := lc2) (kc := lc3) hC1 hC2 hK3 (Q := fun v W' => v = .bool true ∧ Below W.heap.size W W') fun w' e => ⟨rfl, e.below (Nat.le_refl _) (fun _ _ h => h)⟩) ?_
  rintro v W' ⟨rfl, hb⟩
  exact law_post (tb := 4) laidOut (by kernel_rfl) (by kernel_rfl) (by kernel_rfl) rfl hW' ⟨rfl, rfl, rfl⟩ hb

theorem BlockdevPowerLoss_holds : Rows.BlockdevPowerLossSaid :=
  OpenClaim.holds_of_wide 6 Try.f6 rfl rfl rfl rfl rfl rfl rfl ⟨rfl, rfl, rfl, rfl, rfl⟩ rfl rfl rfl rfl rfl (by kernel_rfl) Try.func6 (by kernel_rfl)
    (of_decide_eq_true (by kernel_rfl)) (by unfold Func.isWrapper; first | (rw [if_pos (by decide +kernel)]; kernel_rfl) | (rw [if_neg (by decide +kernel)]; exact ⟨rfl, rfl⟩))
    (fun os started H enc _ => BlockdevPowerLoss_lifted os started H enc)

end Go.Proofs.Ytgnmbenhpjkbfaa.Bd
