/- The conditions of the functions of this translation, written out by a program; each is an equation that the kernel checks. No condition. -/
import Derived.Test.YtdfjakdgclbleaaEng
import Derived.Test.YtdfjakdgclbleaaChecked
set_option maxRecDepth 100000
set_option linter.unusedVariables false
namespace Go.Proofs.Ytdfjakdgclbleaa
open Go Go.Ev Go.Proofs
def callable (f : Nat) : Bool := Nat.ble 3 f && Nat.ble f 43
theorem callable_all : (List.range 44).all (fun f => !callable f || isCall Try.prog f) = true := by kernel_rfl
theorem callable_ok (f : Nat) (h : callable f = true) : isCall Try.prog f = true := by
  have h' : f < 44 := by
    simp only [callable, Bool.and_eq_true] at h
    have := Nat.le_of_ble_eq_true h.2
    omega
  have := List.all_eq_true.1 callable_all f (List.mem_range.2 h')
  rw [h] at this
  simpa using this
theorem mixed : Try.prog.follows .mixedOrders = true := by kernel_rfl
end Go.Proofs.Ytdfjakdgclbleaa
