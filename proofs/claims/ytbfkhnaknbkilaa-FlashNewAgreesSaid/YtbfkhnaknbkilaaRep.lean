/-
  A byte repeated: the kit's contract of strings.Repeat in this engine's form; clones of slices. No condition beyond those stated.
-/
import Derived.Test.YtbfkhnaknbkilaaR
import Derived.Test.YtbfkhnaknbkilaaW1
import Derived.Test.YtbfkhnaknbkilaaShf
namespace Go.Proofs.Ytbfkhnaknbkilaa
open Go Go.Ev Go.Proofs

theorem Ext.of_below {w w' : World} (h : RowKit.Below w.heap.size w w') : Ext w w' (fun _ => False) := ⟨h.os, h.tape, h.output, h.size, fun b hb _ => h.block b hb⟩

section
variable {w : World} {Q : Value → World → Prop}
theorem repeatL_one_byte (x : UInt8) : ∀ n, Lib.repeatL [x] n = List.replicate n x
  | 0 => rfl
  | n + 1 => by rw [Lib.repeatL, repeatL_one_byte x n, List.replicate_succ]; rfl
theorem repeat_c {x : UInt8} {n : Nat} (hn : n ≤ 1000000) (hQ : ∀ w', Ext w w' (fun _ => False) → Q (.string (mkS (List.replicate n x))) w') : CallE Try.prog 26 #[.string (mkS [x]), .int .i64 (n : Int)] w Q := by
  refine Calls.mono (Try.strings_Repeat (mkS [x]) n w (by omega) (by rw [mkS_size]; show 1 * n ≤ _; omega)) ?_
  rintro e w' ⟨rfl, hb⟩
  refine ⟨_, rfl, ?_⟩
  have := hQ w' (Ext.of_below hb)
  rw [← repeatL_one_byte] at this
  exact this
end
end Go.Proofs.Ytbfkhnaknbkilaa
