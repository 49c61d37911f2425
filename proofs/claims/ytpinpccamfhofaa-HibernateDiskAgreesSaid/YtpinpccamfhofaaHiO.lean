/-
  Arguments that came in: lists of what is told of pages, of times. No condition beyond those stated.
-/
import Derived.Test.YtpinpccamfhofaaHiL
import Derived.Test.YtpinpccamfhofaaGF
set_option linter.unusedVariables false
set_option linter.unusedSimpArgs false
set_option maxRecDepth 100000
namespace Go.Proofs.Ytpinpccamfhofaa.Hi
open Go Go.Ev Go.Proofs Go.Proofs.Ytpinpccamfhofaa.Im Go.ChangeShapes Go.WideShapes Go.ChangeAt Go.RowKit
section
variable {H : Type} {enc : TypeId × Value → H}
theorem open_infos {W : World} {v : Value} {d : DataW H} {p : List MemPlace} {r : Reach} {b0 : Nat} (hv : Value.okWide Try.prog W r b0 22 v)
    (h : DataW.Trod enc Try.prog W 0 (fun _ => true) true 22 v d p) : ∃ (l : Option Addr) (n c : Nat) (xs : List PI), v = .slice l n c ∧ Reads W l (xs.flatMap piC) ∧ xs.length = n := by
  rcases open_sl (e := 27) (by kernel_rfl) hv h with rfl | ⟨a, len, cap, rfl, _, _, hi⟩
  · exact ⟨none, 0, 0, [], rfl, .inl rfl, rfl⟩
  · have hc3 : Try.prog.cellsOf 27 = 3 := by kernel_rfl
    rw [hc3] at hi
    obtain ⟨l, hl, hr, _, _⟩ := reads_rows (W := W) (a := a) (len := len) (m := 3) (f := piC) (R := fun _ => True) (by omega) (fun _ => rfl) (fun i hi' => by
      obtain ⟨cs', n', y, hcl, hat, hy⟩ := hi i hi'
      obtain ⟨xs, m, _, _, _, hxl, hf⟩ := DataW.trod_struct (fs := structFs Try.prog 27) (by kernel_rfl) hy
      have hs3 : (structFs Try.prog 27).size = 3 := by kernel_rfl
      rw [hs3] at hxl
      match xs, hxl with
      | [x0, x1, x2], _ =>
        obtain ⟨n0, h0, _⟩ := DataW.trod_bool (by kernel_rfl) (hf 0 _ rfl)
        obtain ⟨n1, h1, _⟩ := DataW.trod_bool (by kernel_rfl) (hf 1 _ rfl)
        obtain ⟨n2, h2, _⟩ := DataW.trod_bool (by kernel_rfl) (hf 2 _ rfl)
        refine ⟨(n0, n1, n2), trivial, fun j hj => ?_⟩
        rw [hat j hj]
        have e0 : (cs'.drop 0).take 1 = [.bool n0] := h0
        have e1 : (cs'.drop 1).take 1 = [.bool n1] := h1
        have e2 : (cs'.drop 2).take 1 = [.bool n2] := h2
        match cs', hcl with
        | [c0, c1, c2], _ =>
          simp at e0 e1 e2
          subst e0 e1 e2
          rfl)
    exact ⟨some a, len, cap, l, rfl, hr, hl⟩
theorem open_u64s {W : World} {v : Value} {d : DataW H} {p : List MemPlace} {r : Reach} {b0 : Nat} (hv : Value.okWide Try.prog W r b0 67 v)
    (h : DataW.Trod enc Try.prog W 0 (fun _ => true) true 67 v d p) : ∃ (l : Option Addr) (n c : Nat) (xs : List Nat), v = .slice l n c ∧ Reads W l (us xs) ∧ xs.length = n := by
  rcases open_sl (e := 32) (by kernel_rfl) hv h with rfl | ⟨a, len, cap, rfl, _, _, hi⟩
  · exact ⟨none, 0, 0, [], rfl, .inl rfl, rfl⟩
  · have hc1 : Try.prog.cellsOf 32 = 1 := by kernel_rfl
    rw [hc1] at hi
    obtain ⟨l, hl, hr, _, _⟩ := reads_rows (W := W) (a := a) (len := len) (m := 1) (f := fun n : Nat => [Value.int .u64 (n : Int)]) (R := fun _ => True) (by omega) (fun _ => rfl) (fun i hi' => by
      obtain ⟨cs', n', y, hcl, hat, hy⟩ := hi i hi'
      obtain ⟨b, hb, _, wb⟩ := DataW.trod_int (k := .u64) (by kernel_rfl) hy
      obtain ⟨k, rfl⟩ := nat_of (int_of_wf wb).1
      refine ⟨k, trivial, fun j hj => ?_⟩
      rw [hat j hj, hb])
    refine ⟨some a, len, cap, l, rfl, ?_, hl⟩
    rw [show us l = l.flatMap fun n : Nat => [Value.int .u64 (n : Int)] by unfold us; exact List.map_eq_flatMap]
    exact hr
end
end Go.Proofs.Ytpinpccamfhofaa.Hi
