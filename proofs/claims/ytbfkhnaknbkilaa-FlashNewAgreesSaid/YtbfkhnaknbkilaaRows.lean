/-
  No cell of these rows narrows 'for every input' (looked for: loops, veiled, ifaces, maps, wideKeys, modest, calm, conditions, laid).
  DERIVED. THE GIVEN ROWS OF THIS SEAT. 5 by the template 'for every input the law returns true; each argument reads behind the call as it read before'; 0 by the template 'total and deterministic' (their statements: YtbfkhnaknbkilaaTotals.lean).
  GIVEN WITH THE SEED: the statements are not yours to turn. If you find one false, say at which input.
  Laid BY PROGRAM, IN A SANDBOX (cutbox-rows.mjs): the forced cells as the released guide's own fill.sh prints them over the translation 1a9e0cf86f3fceaa… (all of the seat's roots in one cut). By AI agents, Wed Nov 11 2026. No macro, syntax, notation, axiom, sorry.
-/
import Derived.Test.YtbfkhnaknbkilaaChecked
import GoSem.Claim
import GoSem.ClaimJoined
import GoSem.ClaimMapViews
import Derived.JoinedTies
import Derived.KernelRfl
namespace Go.Proofs.Ytbfkhnaknbkilaa
/- THE CELL 'sum', in the pinned program and in every row, IS THE sha256 OF THE DUMP (.gsa) THAT YtbfkhnaknbkilaaProg.lean LOADS. Nothing in Lean hashes anything: it is a label: what it is worth is what the hold of that sum in a sandbox is worth. -/
noncomputable def Try.pinned : Pinned := { name := "ytbfkhnaknbkilaa", sum := "1a9e0cf86f3fceaa57c10afff5dad5a612391d58613d62bb0ce0eadeef9175b7", checked := Try.checked }
namespace Rows
def none {H : Type} : Left H := { results := [], args := [] }

/-- 'platformfwlaw40.FlashNewAgrees': WHATEVER THE INPUT: true; the input reads as it did. -/
def flashNewAgreesSpec : ChangeSpec := { name := "flashNewAgrees", fn := fun _ => fun
  | [d1, d2] => { results := [.lit (.bool true)], args := [d1, d2] }
  | _ => none }
def flashNewAgreesRow : OpenClaim := { program := "ytbfkhnaknbkilaa", sum := "1a9e0cf86f3fceaa57c10afff5dad5a612391d58613d62bb0ce0eadeef9175b7", func := "platformfw/platformfwlaw40.FlashNewAgrees", spec := "flashNewAgrees", inPlace := ["internal/abi.NoEscape", "internal/bytealg.MakeNoZero"], apart := false }
def FlashNewAgreesSaid : Prop := flashNewAgreesRow.holds Try.pinned (OpenSpec.ofChange flashNewAgreesSpec)

/-- ITS FALSE NEIGHBOUR: 'it returns false'. Refute it at one input. -/
def flashNewAgreesWrong : ChangeSpec := { name := "flashNewAgrees", fn := fun _ => fun
  | [d1, d2] => { results := [.lit (.bool false)], args := [d1, d2] }
  | _ => none }
def FlashNewAgreesWrongFalsely : Prop := flashNewAgreesRow.holds Try.pinned (OpenSpec.ofChange flashNewAgreesWrong)

/-- 'platformfwlaw40.FlashProgramClears': WHATEVER THE INPUT: true; the input reads as it did. -/
def flashProgramClearsSpec : ChangeSpec := { name := "flashProgramClears", fn := fun _ => fun
  | [d1, d2, d3] => { results := [.lit (.bool true)], args := [d1, d2, d3] }
  | _ => none }
def flashProgramClearsRow : OpenClaim := { program := "ytbfkhnaknbkilaa", sum := "1a9e0cf86f3fceaa57c10afff5dad5a612391d58613d62bb0ce0eadeef9175b7", func := "platformfw/platformfwlaw40.FlashProgramClears", spec := "flashProgramClears", inPlace := ["internal/abi.NoEscape", "internal/bytealg.MakeNoZero"], apart := false }
def FlashProgramClearsSaid : Prop := flashProgramClearsRow.holds Try.pinned (OpenSpec.ofChange flashProgramClearsSpec)

/-- ITS FALSE NEIGHBOUR: 'it returns false'. Refute it at one input. -/
def flashProgramClearsWrong : ChangeSpec := { name := "flashProgramClears", fn := fun _ => fun
  | [d1, d2, d3] => { results := [.lit (.bool false)], args := [d1, d2, d3] }
  | _ => none }
def FlashProgramClearsWrongFalsely : Prop := flashProgramClearsRow.holds Try.pinned (OpenSpec.ofChange flashProgramClearsWrong)

/-- 'platformfwlaw40.FlashInterruption': WHATEVER THE INPUT: true; the input reads as it did. -/
def flashInterruptionSpec : ChangeSpec := { name := "flashInterruption", fn := fun _ => fun
  | [d1, d2, d3, d4] => { results := [.lit (.bool true)], args := [d1, d2, d3, d4] }
  | _ => none }
def flashInterruptionRow : OpenClaim := { program := "ytbfkhnaknbkilaa", sum := "1a9e0cf86f3fceaa57c10afff5dad5a612391d58613d62bb0ce0eadeef9175b7", func := "platformfw/platformfwlaw40.FlashInterruption", spec := "flashInterruption", inPlace := ["internal/abi.NoEscape", "internal/bytealg.MakeNoZero"], apart := false }
def FlashInterruptionSaid : Prop := flashInterruptionRow.holds Try.pinned (OpenSpec.ofChange flashInterruptionSpec)

/-- ITS FALSE NEIGHBOUR: 'it returns false'. Refute it at one input. -/
def flashInterruptionWrong : ChangeSpec := { name := "flashInterruption", fn := fun _ => fun
  | [d1, d2, d3, d4] => { results := [.lit (.bool false)], args := [d1, d2, d3, d4] }
  | _ => none }
def FlashInterruptionWrongFalsely : Prop := flashInterruptionRow.holds Try.pinned (OpenSpec.ofChange flashInterruptionWrong)

/-- 'platformfwlaw40.FlashWear': WHATEVER THE INPUT: true; the input reads as it did. -/
def flashWearSpec : ChangeSpec := { name := "flashWear", fn := fun _ => fun
  | [d1, d2] => { results := [.lit (.bool true)], args := [d1, d2] }
  | _ => none }
def flashWearRow : OpenClaim := { program := "ytbfkhnaknbkilaa", sum := "1a9e0cf86f3fceaa57c10afff5dad5a612391d58613d62bb0ce0eadeef9175b7", func := "platformfw/platformfwlaw40.FlashWear", spec := "flashWear", inPlace := ["internal/abi.NoEscape", "internal/bytealg.MakeNoZero"], apart := false }
def FlashWearSaid : Prop := flashWearRow.holds Try.pinned (OpenSpec.ofChange flashWearSpec)

/-- ITS FALSE NEIGHBOUR: 'it returns false'. Refute it at one input. -/
def flashWearWrong : ChangeSpec := { name := "flashWear", fn := fun _ => fun
  | [d1, d2] => { results := [.lit (.bool false)], args := [d1, d2] }
  | _ => none }
def FlashWearWrongFalsely : Prop := flashWearRow.holds Try.pinned (OpenSpec.ofChange flashWearWrong)

/-- 'platformfwlaw40.FlashRetry': WHATEVER THE INPUT: true; the input reads as it did. -/
def flashRetrySpec : ChangeSpec := { name := "flashRetry", fn := fun _ => fun
  | [d1, d2, d3, d4] => { results := [.lit (.bool true)], args := [d1, d2, d3, d4] }
  | _ => none }
def flashRetryRow : OpenClaim := { program := "ytbfkhnaknbkilaa", sum := "1a9e0cf86f3fceaa57c10afff5dad5a612391d58613d62bb0ce0eadeef9175b7", func := "platformfw/platformfwlaw40.FlashRetry", spec := "flashRetry", inPlace := ["internal/abi.NoEscape", "internal/bytealg.MakeNoZero"], apart := false }
def FlashRetrySaid : Prop := flashRetryRow.holds Try.pinned (OpenSpec.ofChange flashRetrySpec)

/-- ITS FALSE NEIGHBOUR: 'it returns false'. Refute it at one input. -/
def flashRetryWrong : ChangeSpec := { name := "flashRetry", fn := fun _ => fun
  | [d1, d2, d3, d4] => { results := [.lit (.bool false)], args := [d1, d2, d3, d4] }
  | _ => none }
def FlashRetryWrongFalsely : Prop := flashRetryRow.holds Try.pinned (OpenSpec.ofChange flashRetryWrong)

/- THE SECOND FORM. 'bulk': how many values and letters a reading holds, each counted each time it is reached (what is shared counts as often as it is met; a slice's spare places count too). A statement '..UptoSaid' is the law's where the arguments, and the package variables that the reading takes, are together of bulk at most 1048576: NARROWER than '..Said'. Prove '..Said' where nothing that the law and all that it calls make is longer than what came in: it says more and counts as full. Else prove '..UptoSaid'. A law counts once. -/
mutual
def uptoBulk {H : Type} : DataW H → Nat
  | .lit (.string bytes) => bytes.length + 1
  | .lit _ => 1
  | .nil => 1
  | .ptr d => uptoBulk d + 1
  | .slice elems spare => uptoBulkAll elems + uptoBulkAll spare + 1
  | .agg parts => uptoBulkAll parts + 1
  | .iface _ d => uptoBulk d + 1
  | .map entries => uptoBulkEntries entries + 1
  | .held _ => 1
def uptoBulkAll {H : Type} : List (DataW H) → Nat
  | [] => 0
  | d :: r => uptoBulk d + uptoBulkAll r
def uptoBulkEntries {H : Type} : List (Lit × DataW H) → Nat
  | [] => 0
  | x :: r => uptoBulkEntry x + uptoBulkEntries r
def uptoBulkEntry {H : Type} : Lit × DataW H → Nat
  | (.string bytes, d) => bytes.length + uptoBulk d + 1
  | (_, d) => uptoBulk d + 1
 end
def uptoSmall : (H : Type) → List (DataW H) → Bool := fun _ ds => decide (uptoBulkAll ds ≤ 1048576)
def OpenSpec.upto (s : _root_.Go.ChangeSpec) : _root_.Go.OpenSpec := { _root_.Go.OpenSpec.ofChange s with cond := some uptoSmall }

/-- 'platformfwlaw40.FlashNewAgrees', WHERE WHAT IT READS IS OF BULK AT MOST 1048576: true; the input reads as it did. -/
def flashNewAgreesUptoRow : OpenClaim := { program := "ytbfkhnaknbkilaa", sum := "1a9e0cf86f3fceaa57c10afff5dad5a612391d58613d62bb0ce0eadeef9175b7", func := "platformfw/platformfwlaw40.FlashNewAgrees", spec := "flashNewAgrees", inPlace := ["internal/abi.NoEscape", "internal/bytealg.MakeNoZero"], apart := false, narrowed := true }
def FlashNewAgreesUptoSaid : Prop := flashNewAgreesUptoRow.holds Try.pinned (OpenSpec.upto flashNewAgreesSpec)

/-- 'platformfwlaw40.FlashProgramClears', WHERE WHAT IT READS IS OF BULK AT MOST 1048576: true; the input reads as it did. -/
def flashProgramClearsUptoRow : OpenClaim := { program := "ytbfkhnaknbkilaa", sum := "1a9e0cf86f3fceaa57c10afff5dad5a612391d58613d62bb0ce0eadeef9175b7", func := "platformfw/platformfwlaw40.FlashProgramClears", spec := "flashProgramClears", inPlace := ["internal/abi.NoEscape", "internal/bytealg.MakeNoZero"], apart := false, narrowed := true }
def FlashProgramClearsUptoSaid : Prop := flashProgramClearsUptoRow.holds Try.pinned (OpenSpec.upto flashProgramClearsSpec)

/-- 'platformfwlaw40.FlashInterruption', WHERE WHAT IT READS IS OF BULK AT MOST 1048576: true; the input reads as it did. -/
def flashInterruptionUptoRow : OpenClaim := { program := "ytbfkhnaknbkilaa", sum := "1a9e0cf86f3fceaa57c10afff5dad5a612391d58613d62bb0ce0eadeef9175b7", func := "platformfw/platformfwlaw40.FlashInterruption", spec := "flashInterruption", inPlace := ["internal/abi.NoEscape", "internal/bytealg.MakeNoZero"], apart := false, narrowed := true }
def FlashInterruptionUptoSaid : Prop := flashInterruptionUptoRow.holds Try.pinned (OpenSpec.upto flashInterruptionSpec)

/-- 'platformfwlaw40.FlashWear', WHERE WHAT IT READS IS OF BULK AT MOST 1048576: true; the input reads as it did. -/
def flashWearUptoRow : OpenClaim := { program := "ytbfkhnaknbkilaa", sum := "1a9e0cf86f3fceaa57c10afff5dad5a612391d58613d62bb0ce0eadeef9175b7", func := "platformfw/platformfwlaw40.FlashWear", spec := "flashWear", inPlace := ["internal/abi.NoEscape", "internal/bytealg.MakeNoZero"], apart := false, narrowed := true }
def FlashWearUptoSaid : Prop := flashWearUptoRow.holds Try.pinned (OpenSpec.upto flashWearSpec)

/-- 'platformfwlaw40.FlashRetry', WHERE WHAT IT READS IS OF BULK AT MOST 1048576: true; the input reads as it did. -/
def flashRetryUptoRow : OpenClaim := { program := "ytbfkhnaknbkilaa", sum := "1a9e0cf86f3fceaa57c10afff5dad5a612391d58613d62bb0ce0eadeef9175b7", func := "platformfw/platformfwlaw40.FlashRetry", spec := "flashRetry", inPlace := ["internal/abi.NoEscape", "internal/bytealg.MakeNoZero"], apart := false, narrowed := true }
def FlashRetryUptoSaid : Prop := flashRetryUptoRow.holds Try.pinned (OpenSpec.upto flashRetrySpec)

end Rows
end Go.Proofs.Ytbfkhnaknbkilaa
