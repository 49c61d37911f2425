/-
  Two facts on the translation's tables. No condition.
-/
import Derived.Test.YtpgekajgbkbpkaaLink
namespace Go.Proofs.Ytpgekajgbkbpkaa
open Go Go.Ev Go.Proofs Go.ChangeShapes Go.WideShapes Go.ChangeAt Go.RowKit
theorem own : ownKnob Try.prog.godebug = none := by kernel_rfl
theorem laidOut : laidOutB Try.prog = true := by kernel_rfl
end Go.Proofs.Ytpgekajgbkbpkaa
