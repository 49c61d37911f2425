/-
  The statement WakeupNoEventIsLost holds for every input: what has begun keeps Arm from succeeding with the earlier count. No condition.
-/
import Derived.Test.YtdfjakdgclbleaaWkN
import Derived.Test.YtdfjakdgclbleaaZ
namespace Go.Proofs.Ytdfjakdgclbleaa.Wk
open Go Go.Ev Go.Proofs Go.ChangeShapes Go.WideShapes Go.ChangeAt Go.RowKit

set_option maxRecDepth 100000 in
theorem WakeupNoEventIsLost_lifted (os : Os) (started : os.Started) (H : Type) (enc : TypeId × Value → H) :
    ReturnsInHanded {} Try.checked os 4 .any (Rows.wakeupNoEventIsLostSpec.pre6 enc Try.prog Try.f4 Rows.wakeupNoEventIsLostRow.domain false) (Rows.wakeupNoEventIsLostSpec.post enc Try.prog Try.f4 false true false false) := by
  refine returnsInHanded_of_change (C := Try.checked) own started (by kernel_rfl) Try.func4
    (ChangeSpec.witness6 (enc := enc) (C := Try.checked) false ⟨#[], #[.int .i64 0, .slice none 0 0, .slice none 0 0, .int .i64 0, .int .u64 0, .int .u8 0], []⟩ 8 (by kernel_rfl) (by kernel_rfl) (by kernel_rfl) (by kernel_rfl)) ?_
  intro W base args ds gs before hval0 hW _ _
  have hval : ∀ (j : Nat) t v, Try.f4.params[j]? = some t → args[j]? = some v → Value.okWide Try.prog W .any base t v := hval0
  have hW' := hW
  obtain ⟨p, q, hA0, hV, rfl, hfz, hnd⟩ := hW
  have hA : DataW.TrodAll enc Try.prog W 0 (fun _ => true) true Try.f4.params.toList args.toList ds p := hA0
  rw [Try.params4] at hA hval
  obtain ⟨v0, vs0, d0, ds0, p0, q0, hargs, rfl, rfl, h0, r0⟩ := trodAll_cons hA
  obtain ⟨v1, vs1, d1, ds1, p1, q1, rfl, rfl, rfl, h1, r1⟩ := trodAll_cons r0
  obtain ⟨v2, vs2, d2, ds2, p2, q2, rfl, rfl, rfl, h2, r2⟩ := trodAll_cons r1
  obtain ⟨v3, vs3, d3, ds3, p3, q3, rfl, rfl, rfl, h3, r3⟩ := trodAll_cons r2
  obtain ⟨v4, vs4, d4, ds4, p4, q4, rfl, rfl, rfl, h4, r4⟩ := trodAll_cons r3
  obtain ⟨v5, vs5, d5, ds5, p5, q5, rfl, rfl, rfl, h5, r5⟩ := trodAll_cons r4
  obtain ⟨rfl, rfl, rfl⟩ := trodAll_nil r5
  obtain rfl : args = #[v0, v1, v2, v3, v4, v5] := by cases args; simp_all
  obtain ⟨rfl, rfl⟩ := trodVars_none hV
  have g0 := hval 0 _ v0 rfl rfl
  have g1 := hval 1 _ v1 rfl rfl
  have g2 := hval 2 _ v2 rfl rfl
  have g3 := hval 3 _ v3 rfl rfl
  have g4 := hval 4 _ v4 rfl rfl
  have g5 := hval 5 _ v5 rfl rfl
  obtain ⟨n0, rfl, _, _, w0⟩ := open_int (k := .i64) (by kernel_rfl) g0 h0
  obtain ⟨l1, ln1, lc1, cs1, rfl, hcs1, hC1⟩ := open_calls g1 h1
  obtain ⟨l2, ln2, lc2, cs2, rfl, hcs2, hC2⟩ := open_calls g2 h2
  obtain ⟨n3, rfl, _, _, w3⟩ := open_int (k := .i64) (by kernel_rfl) g3 h3
  obtain ⟨n4, rfl, _, _, w4⟩ := open_int (k := .u64) (by kernel_rfl) g4 h4
  obtain ⟨n5, rfl, _, _, w5⟩ := open_int (k := .u8) (by kernel_rfl) g5 h5
  refine CallE.mono (noLost_c (n := n0) (lc := lc1) (mc := lc2) (src := n3) (kind := n5) hcs1 hC1 hcs2 hC2 (int_of_wf w4).1 (Q := fun v W' => v = .bool true ∧ Below W.heap.size W W') fun w' e => ⟨rfl, e.below (Nat.le_refl _) (fun _ _ h => h)⟩) ?_
  rintro v W' ⟨rfl, hb⟩
  exact law_post (tb := 4) laidOut (by kernel_rfl) (by kernel_rfl) (by kernel_rfl) rfl hW' ⟨rfl, rfl, rfl⟩ hb

theorem WakeupNoEventIsLost_holds : Rows.WakeupNoEventIsLostSaid :=
  OpenClaim.holds_of_wide 4 Try.f4 rfl rfl rfl rfl rfl rfl rfl ⟨rfl, rfl, rfl, rfl, rfl⟩ rfl rfl rfl rfl rfl (by kernel_rfl) Try.func4 (by kernel_rfl)
    (of_decide_eq_true (by kernel_rfl)) (by unfold Func.isWrapper; first | (rw [if_pos (by decide +kernel)]; kernel_rfl) | (rw [if_neg (by decide +kernel)]; exact ⟨rfl, rfl⟩))
    (fun os started H enc _ => WakeupNoEventIsLost_lifted os started H enc)

end Go.Proofs.Ytdfjakdgclbleaa.Wk
