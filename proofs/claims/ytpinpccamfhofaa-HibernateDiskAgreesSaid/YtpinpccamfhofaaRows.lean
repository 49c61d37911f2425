/-
  No cell of these rows narrows 'for every input' (looked for: loops, veiled, ifaces, maps, wideKeys, modest, calm, conditions, laid).
  DERIVED. THE GIVEN ROWS OF THIS SEAT. 11 by the template 'for every input the law returns true; each argument reads behind the call as it read before'; 0 by the template 'total and deterministic' (their statements: YtpinpccamfhofaaTotals.lean).
  GIVEN WITH THE SEED: the statements are not yours to turn. If you find one false, say at which input.
  Laid BY PROGRAM, IN A SANDBOX (cutbox-rows.mjs): the forced cells as the released guide's own fill.sh prints them over the translation 40a28b0b7b94a6c7… (all of the seat's roots in one cut). By AI agents, Wed Nov 11 2026. No macro, syntax, notation, axiom, sorry.
-/
import Derived.Test.YtpinpccamfhofaaChecked
import GoSem.Claim
import GoSem.ClaimJoined
import GoSem.ClaimMapViews
import Derived.JoinedTies
import Derived.KernelRfl
namespace Go.Proofs.Ytpinpccamfhofaa
/- THE CELL 'sum', in the pinned program and in every row, IS THE sha256 OF THE DUMP (.gsa) THAT YtpinpccamfhofaaProg.lean LOADS. Nothing in Lean hashes anything: it is a label: what it is worth is what the hold of that sum in a sandbox is worth. -/
noncomputable def Try.pinned : Pinned := { name := "ytpinpccamfhofaa", sum := "40a28b0b7b94a6c76212c7945a6df92dc579e185d5df533e4943de4e51fc7488", checked := Try.checked }
namespace Rows
def none {H : Type} : Left H := { results := [], args := [] }

/-- 'platformfwlaw35.HibernateSelectAgrees': WHATEVER THE INPUT: true; the input reads as it did. -/
def hibernateSelectAgreesSpec : ChangeSpec := { name := "hibernateSelectAgrees", fn := fun _ => fun
  | [d] => { results := [.lit (.bool true)], args := [d] }
  | _ => none }
def hibernateSelectAgreesRow : OpenClaim := { program := "ytpinpccamfhofaa", sum := "40a28b0b7b94a6c76212c7945a6df92dc579e185d5df533e4943de4e51fc7488", func := "platformfw/platformfwlaw35.HibernateSelectAgrees", spec := "hibernateSelectAgrees", inPlace := ["internal/abi.NoEscape", "internal/bytealg.MakeNoZero"], apart := false }
def HibernateSelectAgreesSaid : Prop := hibernateSelectAgreesRow.holds Try.pinned (OpenSpec.ofChange hibernateSelectAgreesSpec)

/-- ITS FALSE NEIGHBOUR: 'it returns false'. Refute it at one input. -/
def hibernateSelectAgreesWrong : ChangeSpec := { name := "hibernateSelectAgrees", fn := fun _ => fun
  | [d] => { results := [.lit (.bool false)], args := [d] }
  | _ => none }
def HibernateSelectAgreesWrongFalsely : Prop := hibernateSelectAgreesRow.holds Try.pinned (OpenSpec.ofChange hibernateSelectAgreesWrong)

/-- 'platformfwlaw35.HibernateSaveLoad': WHATEVER THE INPUT: true; the input reads as it did. -/
def hibernateSaveLoadSpec : ChangeSpec := { name := "hibernateSaveLoad", fn := fun _ => fun
  | [d1, d2, d3, d4] => { results := [.lit (.bool true)], args := [d1, d2, d3, d4] }
  | _ => none }
def hibernateSaveLoadRow : OpenClaim := { program := "ytpinpccamfhofaa", sum := "40a28b0b7b94a6c76212c7945a6df92dc579e185d5df533e4943de4e51fc7488", func := "platformfw/platformfwlaw35.HibernateSaveLoad", spec := "hibernateSaveLoad", inPlace := ["internal/abi.NoEscape", "internal/bytealg.MakeNoZero"], apart := false }
def HibernateSaveLoadSaid : Prop := hibernateSaveLoadRow.holds Try.pinned (OpenSpec.ofChange hibernateSaveLoadSpec)

/-- ITS FALSE NEIGHBOUR: 'it returns false'. Refute it at one input. -/
def hibernateSaveLoadWrong : ChangeSpec := { name := "hibernateSaveLoad", fn := fun _ => fun
  | [d1, d2, d3, d4] => { results := [.lit (.bool false)], args := [d1, d2, d3, d4] }
  | _ => none }
def HibernateSaveLoadWrongFalsely : Prop := hibernateSaveLoadRow.holds Try.pinned (OpenSpec.ofChange hibernateSaveLoadWrong)

/-- 'platformfwlaw35.HibernateRefuses': WHATEVER THE INPUT: true; the input reads as it did. -/
def hibernateRefusesSpec : ChangeSpec := { name := "hibernateRefuses", fn := fun _ => fun
  | [d1, d2] => { results := [.lit (.bool true)], args := [d1, d2] }
  | _ => none }
def hibernateRefusesRow : OpenClaim := { program := "ytpinpccamfhofaa", sum := "40a28b0b7b94a6c76212c7945a6df92dc579e185d5df533e4943de4e51fc7488", func := "platformfw/platformfwlaw35.HibernateRefuses", spec := "hibernateRefuses", inPlace := ["internal/abi.NoEscape", "internal/bytealg.MakeNoZero"], apart := false }
def HibernateRefusesSaid : Prop := hibernateRefusesRow.holds Try.pinned (OpenSpec.ofChange hibernateRefusesSpec)

/-- ITS FALSE NEIGHBOUR: 'it returns false'. Refute it at one input. -/
def hibernateRefusesWrong : ChangeSpec := { name := "hibernateRefuses", fn := fun _ => fun
  | [d1, d2] => { results := [.lit (.bool false)], args := [d1, d2] }
  | _ => none }
def HibernateRefusesWrongFalsely : Prop := hibernateRefusesRow.holds Try.pinned (OpenSpec.ofChange hibernateRefusesWrong)

/-- 'platformfwlaw35.HibernateFreezerAgrees': WHATEVER THE INPUT: true; the input reads as it did. -/
def hibernateFreezerAgreesSpec : ChangeSpec := { name := "hibernateFreezerAgrees", fn := fun _ => fun
  | [d1, d2] => { results := [.lit (.bool true)], args := [d1, d2] }
  | _ => none }
def hibernateFreezerAgreesRow : OpenClaim := { program := "ytpinpccamfhofaa", sum := "40a28b0b7b94a6c76212c7945a6df92dc579e185d5df533e4943de4e51fc7488", func := "platformfw/platformfwlaw35.HibernateFreezerAgrees", spec := "hibernateFreezerAgrees", inPlace := ["internal/abi.NoEscape", "internal/bytealg.MakeNoZero"], apart := false }
def HibernateFreezerAgreesSaid : Prop := hibernateFreezerAgreesRow.holds Try.pinned (OpenSpec.ofChange hibernateFreezerAgreesSpec)

/-- ITS FALSE NEIGHBOUR: 'it returns false'. Refute it at one input. -/
def hibernateFreezerAgreesWrong : ChangeSpec := { name := "hibernateFreezerAgrees", fn := fun _ => fun
  | [d1, d2] => { results := [.lit (.bool false)], args := [d1, d2] }
  | _ => none }
def HibernateFreezerAgreesWrongFalsely : Prop := hibernateFreezerAgreesRow.holds Try.pinned (OpenSpec.ofChange hibernateFreezerAgreesWrong)

/-- 'platformfwlaw35.HibernateFreezesAllOrNone': WHATEVER THE INPUT: true; the input reads as it did. -/
def hibernateFreezesAllOrNoneSpec : ChangeSpec := { name := "hibernateFreezesAllOrNone", fn := fun _ => fun
  | [d1, d2, d3] => { results := [.lit (.bool true)], args := [d1, d2, d3] }
  | _ => none }
def hibernateFreezesAllOrNoneRow : OpenClaim := { program := "ytpinpccamfhofaa", sum := "40a28b0b7b94a6c76212c7945a6df92dc579e185d5df533e4943de4e51fc7488", func := "platformfw/platformfwlaw35.HibernateFreezesAllOrNone", spec := "hibernateFreezesAllOrNone", inPlace := ["internal/abi.NoEscape", "internal/bytealg.MakeNoZero"], apart := false }
def HibernateFreezesAllOrNoneSaid : Prop := hibernateFreezesAllOrNoneRow.holds Try.pinned (OpenSpec.ofChange hibernateFreezesAllOrNoneSpec)

/-- ITS FALSE NEIGHBOUR: 'it returns false'. Refute it at one input. -/
def hibernateFreezesAllOrNoneWrong : ChangeSpec := { name := "hibernateFreezesAllOrNone", fn := fun _ => fun
  | [d1, d2, d3] => { results := [.lit (.bool false)], args := [d1, d2, d3] }
  | _ => none }
def HibernateFreezesAllOrNoneWrongFalsely : Prop := hibernateFreezesAllOrNoneRow.holds Try.pinned (OpenSpec.ofChange hibernateFreezesAllOrNoneWrong)

/-- 'platformfwlaw35.HibernateRestoresMemory': WHATEVER THE INPUT: true; the input reads as it did. -/
def hibernateRestoresMemorySpec : ChangeSpec := { name := "hibernateRestoresMemory", fn := fun _ => fun
  | [d1, d2, d3] => { results := [.lit (.bool true)], args := [d1, d2, d3] }
  | _ => none }
def hibernateRestoresMemoryRow : OpenClaim := { program := "ytpinpccamfhofaa", sum := "40a28b0b7b94a6c76212c7945a6df92dc579e185d5df533e4943de4e51fc7488", func := "platformfw/platformfwlaw35.HibernateRestoresMemory", spec := "hibernateRestoresMemory", inPlace := ["internal/abi.NoEscape", "internal/bytealg.MakeNoZero"], apart := false }
def HibernateRestoresMemorySaid : Prop := hibernateRestoresMemoryRow.holds Try.pinned (OpenSpec.ofChange hibernateRestoresMemorySpec)

/-- ITS FALSE NEIGHBOUR: 'it returns false'. Refute it at one input. -/
def hibernateRestoresMemoryWrong : ChangeSpec := { name := "hibernateRestoresMemory", fn := fun _ => fun
  | [d1, d2, d3] => { results := [.lit (.bool false)], args := [d1, d2, d3] }
  | _ => none }
def HibernateRestoresMemoryWrongFalsely : Prop := hibernateRestoresMemoryRow.holds Try.pinned (OpenSpec.ofChange hibernateRestoresMemoryWrong)

/-- 'platformfwlaw35.HibernateIsInvisible': WHATEVER THE INPUT: true; the input reads as it did. -/
def hibernateIsInvisibleSpec : ChangeSpec := { name := "hibernateIsInvisible", fn := fun _ => fun
  | [d1, d2, d3, d4] => { results := [.lit (.bool true)], args := [d1, d2, d3, d4] }
  | _ => none }
def hibernateIsInvisibleRow : OpenClaim := { program := "ytpinpccamfhofaa", sum := "40a28b0b7b94a6c76212c7945a6df92dc579e185d5df533e4943de4e51fc7488", func := "platformfw/platformfwlaw35.HibernateIsInvisible", spec := "hibernateIsInvisible", inPlace := ["internal/abi.NoEscape", "internal/bytealg.MakeNoZero"], apart := false }
def HibernateIsInvisibleSaid : Prop := hibernateIsInvisibleRow.holds Try.pinned (OpenSpec.ofChange hibernateIsInvisibleSpec)

/-- ITS FALSE NEIGHBOUR: 'it returns false'. Refute it at one input. -/
def hibernateIsInvisibleWrong : ChangeSpec := { name := "hibernateIsInvisible", fn := fun _ => fun
  | [d1, d2, d3, d4] => { results := [.lit (.bool false)], args := [d1, d2, d3, d4] }
  | _ => none }
def HibernateIsInvisibleWrongFalsely : Prop := hibernateIsInvisibleRow.holds Try.pinned (OpenSpec.ofChange hibernateIsInvisibleWrong)

/-- 'platformfwlaw35.HibernateSaveIsAtomic': WHATEVER THE INPUT: true; the input reads as it did. -/
def hibernateSaveIsAtomicSpec : ChangeSpec := { name := "hibernateSaveIsAtomic", fn := fun _ => fun
  | [d1, d2, d3, d4, d5] => { results := [.lit (.bool true)], args := [d1, d2, d3, d4, d5] }
  | _ => none }
def hibernateSaveIsAtomicRow : OpenClaim := { program := "ytpinpccamfhofaa", sum := "40a28b0b7b94a6c76212c7945a6df92dc579e185d5df533e4943de4e51fc7488", func := "platformfw/platformfwlaw35.HibernateSaveIsAtomic", spec := "hibernateSaveIsAtomic", inPlace := ["internal/abi.NoEscape", "internal/bytealg.MakeNoZero"], apart := false }
def HibernateSaveIsAtomicSaid : Prop := hibernateSaveIsAtomicRow.holds Try.pinned (OpenSpec.ofChange hibernateSaveIsAtomicSpec)

/-- ITS FALSE NEIGHBOUR: 'it returns false'. Refute it at one input. -/
def hibernateSaveIsAtomicWrong : ChangeSpec := { name := "hibernateSaveIsAtomic", fn := fun _ => fun
  | [d1, d2, d3, d4, d5] => { results := [.lit (.bool false)], args := [d1, d2, d3, d4, d5] }
  | _ => none }
def HibernateSaveIsAtomicWrongFalsely : Prop := hibernateSaveIsAtomicRow.holds Try.pinned (OpenSpec.ofChange hibernateSaveIsAtomicWrong)

/-- 'platformfwlaw35.HibernateLoadIsAtomic': WHATEVER THE INPUT: true; the input reads as it did. -/
def hibernateLoadIsAtomicSpec : ChangeSpec := { name := "hibernateLoadIsAtomic", fn := fun _ => fun
  | [d1, d2] => { results := [.lit (.bool true)], args := [d1, d2] }
  | _ => none }
def hibernateLoadIsAtomicRow : OpenClaim := { program := "ytpinpccamfhofaa", sum := "40a28b0b7b94a6c76212c7945a6df92dc579e185d5df533e4943de4e51fc7488", func := "platformfw/platformfwlaw35.HibernateLoadIsAtomic", spec := "hibernateLoadIsAtomic", inPlace := ["internal/abi.NoEscape", "internal/bytealg.MakeNoZero"], apart := false }
def HibernateLoadIsAtomicSaid : Prop := hibernateLoadIsAtomicRow.holds Try.pinned (OpenSpec.ofChange hibernateLoadIsAtomicSpec)

/-- ITS FALSE NEIGHBOUR: 'it returns false'. Refute it at one input. -/
def hibernateLoadIsAtomicWrong : ChangeSpec := { name := "hibernateLoadIsAtomic", fn := fun _ => fun
  | [d1, d2] => { results := [.lit (.bool false)], args := [d1, d2] }
  | _ => none }
def HibernateLoadIsAtomicWrongFalsely : Prop := hibernateLoadIsAtomicRow.holds Try.pinned (OpenSpec.ofChange hibernateLoadIsAtomicWrong)

/-- 'platformfwlaw35.HibernateDiskAgrees': WHATEVER THE INPUT: true; the input reads as it did. -/
def hibernateDiskAgreesSpec : ChangeSpec := { name := "hibernateDiskAgrees", fn := fun _ => fun
  | [d1, d2] => { results := [.lit (.bool true)], args := [d1, d2] }
  | _ => none }
def hibernateDiskAgreesRow : OpenClaim := { program := "ytpinpccamfhofaa", sum := "40a28b0b7b94a6c76212c7945a6df92dc579e185d5df533e4943de4e51fc7488", func := "platformfw/platformfwlaw35.HibernateDiskAgrees", spec := "hibernateDiskAgrees", inPlace := ["internal/abi.NoEscape", "internal/bytealg.MakeNoZero"], apart := false }
def HibernateDiskAgreesSaid : Prop := hibernateDiskAgreesRow.holds Try.pinned (OpenSpec.ofChange hibernateDiskAgreesSpec)

/-- ITS FALSE NEIGHBOUR: 'it returns false'. Refute it at one input. -/
def hibernateDiskAgreesWrong : ChangeSpec := { name := "hibernateDiskAgrees", fn := fun _ => fun
  | [d1, d2] => { results := [.lit (.bool false)], args := [d1, d2] }
  | _ => none }
def HibernateDiskAgreesWrongFalsely : Prop := hibernateDiskAgreesRow.holds Try.pinned (OpenSpec.ofChange hibernateDiskAgreesWrong)

/-- 'platformfwlaw35.HibernateEventAbortsFreezing': WHATEVER THE INPUT: true; the input reads as it did. -/
def hibernateEventAbortsFreezingSpec : ChangeSpec := { name := "hibernateEventAbortsFreezing", fn := fun _ => fun
  | [d1, d2, d3] => { results := [.lit (.bool true)], args := [d1, d2, d3] }
  | _ => none }
def hibernateEventAbortsFreezingRow : OpenClaim := { program := "ytpinpccamfhofaa", sum := "40a28b0b7b94a6c76212c7945a6df92dc579e185d5df533e4943de4e51fc7488", func := "platformfw/platformfwlaw35.HibernateEventAbortsFreezing", spec := "hibernateEventAbortsFreezing", inPlace := ["internal/abi.NoEscape", "internal/bytealg.MakeNoZero"], apart := false }
def HibernateEventAbortsFreezingSaid : Prop := hibernateEventAbortsFreezingRow.holds Try.pinned (OpenSpec.ofChange hibernateEventAbortsFreezingSpec)

/-- ITS FALSE NEIGHBOUR: 'it returns false'. Refute it at one input. -/
def hibernateEventAbortsFreezingWrong : ChangeSpec := { name := "hibernateEventAbortsFreezing", fn := fun _ => fun
  | [d1, d2, d3] => { results := [.lit (.bool false)], args := [d1, d2, d3] }
  | _ => none }
def HibernateEventAbortsFreezingWrongFalsely : Prop := hibernateEventAbortsFreezingRow.holds Try.pinned (OpenSpec.ofChange hibernateEventAbortsFreezingWrong)

/- THE SECOND FORM. 'bulk': how many values and letters a reading holds, each counted each time it is reached (what is shared counts as often as it is met; a slice's spare places count too). A statement '..UptoSaid' is the law's where the arguments, and the package variables that the reading takes, are together of bulk at most 1048576: NARROWER than '..Said'. Prove '..Said' where nothing that the law and all that it calls make is longer than what came in: it says more and counts as full. Else prove '..UptoSaid'. A law counts once. -/
mutual
def uptoBulk {H : Type} : DataW H → Nat
  | .lit (.string bytes) => bytes.length + 1
  | .lit _ => 1
  | .nil => 1
  | .ptr d => uptoBulk d + 1
  | .slice elems spare => uptoBulkAll elems + uptoBulkAll spare + 1
  | .agg parts => uptoBulkAll parts + 1
  | .iface _ d => uptoBulk d + 1
  | .map entries => uptoBulkEntries entries + 1
  | .held _ => 1
def uptoBulkAll {H : Type} : List (DataW H) → Nat
  | [] => 0
  | d :: r => uptoBulk d + uptoBulkAll r
def uptoBulkEntries {H : Type} : List (Lit × DataW H) → Nat
  | [] => 0
  | x :: r => uptoBulkEntry x + uptoBulkEntries r
def uptoBulkEntry {H : Type} : Lit × DataW H → Nat
  | (.string bytes, d) => bytes.length + uptoBulk d + 1
  | (_, d) => uptoBulk d + 1
 end
def uptoSmall : (H : Type) → List (DataW H) → Bool := fun _ ds => decide (uptoBulkAll ds ≤ 1048576)
def OpenSpec.upto (s : _root_.Go.ChangeSpec) : _root_.Go.OpenSpec := { _root_.Go.OpenSpec.ofChange s with cond := some uptoSmall }

/-- 'platformfwlaw35.HibernateSelectAgrees', WHERE WHAT IT READS IS OF BULK AT MOST 1048576: true; the input reads as it did. -/
def hibernateSelectAgreesUptoRow : OpenClaim := { program := "ytpinpccamfhofaa", sum := "40a28b0b7b94a6c76212c7945a6df92dc579e185d5df533e4943de4e51fc7488", func := "platformfw/platformfwlaw35.HibernateSelectAgrees", spec := "hibernateSelectAgrees", inPlace := ["internal/abi.NoEscape", "internal/bytealg.MakeNoZero"], apart := false, narrowed := true }
def HibernateSelectAgreesUptoSaid : Prop := hibernateSelectAgreesUptoRow.holds Try.pinned (OpenSpec.upto hibernateSelectAgreesSpec)

/-- 'platformfwlaw35.HibernateSaveLoad', WHERE WHAT IT READS IS OF BULK AT MOST 1048576: true; the input reads as it did. -/
def hibernateSaveLoadUptoRow : OpenClaim := { program := "ytpinpccamfhofaa", sum := "40a28b0b7b94a6c76212c7945a6df92dc579e185d5df533e4943de4e51fc7488", func := "platformfw/platformfwlaw35.HibernateSaveLoad", spec := "hibernateSaveLoad", inPlace := ["internal/abi.NoEscape", "internal/bytealg.MakeNoZero"], apart := false, narrowed := true }
def HibernateSaveLoadUptoSaid : Prop := hibernateSaveLoadUptoRow.holds Try.pinned (OpenSpec.upto hibernateSaveLoadSpec)

/-- 'platformfwlaw35.HibernateRefuses', WHERE WHAT IT READS IS OF BULK AT MOST 1048576: true; the input reads as it did. -/
def hibernateRefusesUptoRow : OpenClaim := { program := "ytpinpccamfhofaa", sum := "40a28b0b7b94a6c76212c7945a6df92dc579e185d5df533e4943de4e51fc7488", func := "platformfw/platformfwlaw35.HibernateRefuses", spec := "hibernateRefuses", inPlace := ["internal/abi.NoEscape", "internal/bytealg.MakeNoZero"], apart := false, narrowed := true }
def HibernateRefusesUptoSaid : Prop := hibernateRefusesUptoRow.holds Try.pinned (OpenSpec.upto hibernateRefusesSpec)

/-- 'platformfwlaw35.HibernateFreezerAgrees', WHERE WHAT IT READS IS OF BULK AT MOST 1048576: true; the input reads as it did. -/
def hibernateFreezerAgreesUptoRow : OpenClaim := { program := "ytpinpccamfhofaa", sum := "40a28b0b7b94a6c76212c7945a6df92dc579e185d5df533e4943de4e51fc7488", func := "platformfw/platformfwlaw35.HibernateFreezerAgrees", spec := "hibernateFreezerAgrees", inPlace := ["internal/abi.NoEscape", "internal/bytealg.MakeNoZero"], apart := false, narrowed := true }
def HibernateFreezerAgreesUptoSaid : Prop := hibernateFreezerAgreesUptoRow.holds Try.pinned (OpenSpec.upto hibernateFreezerAgreesSpec)

/-- 'platformfwlaw35.HibernateFreezesAllOrNone', WHERE WHAT IT READS IS OF BULK AT MOST 1048576: true; the input reads as it did. -/
def hibernateFreezesAllOrNoneUptoRow : OpenClaim := { program := "ytpinpccamfhofaa", sum := "40a28b0b7b94a6c76212c7945a6df92dc579e185d5df533e4943de4e51fc7488", func := "platformfw/platformfwlaw35.HibernateFreezesAllOrNone", spec := "hibernateFreezesAllOrNone", inPlace := ["internal/abi.NoEscape", "internal/bytealg.MakeNoZero"], apart := false, narrowed := true }
def HibernateFreezesAllOrNoneUptoSaid : Prop := hibernateFreezesAllOrNoneUptoRow.holds Try.pinned (OpenSpec.upto hibernateFreezesAllOrNoneSpec)

/-- 'platformfwlaw35.HibernateRestoresMemory', WHERE WHAT IT READS IS OF BULK AT MOST 1048576: true; the input reads as it did. -/
def hibernateRestoresMemoryUptoRow : OpenClaim := { program := "ytpinpccamfhofaa", sum := "40a28b0b7b94a6c76212c7945a6df92dc579e185d5df533e4943de4e51fc7488", func := "platformfw/platformfwlaw35.HibernateRestoresMemory", spec := "hibernateRestoresMemory", inPlace := ["internal/abi.NoEscape", "internal/bytealg.MakeNoZero"], apart := false, narrowed := true }
def HibernateRestoresMemoryUptoSaid : Prop := hibernateRestoresMemoryUptoRow.holds Try.pinned (OpenSpec.upto hibernateRestoresMemorySpec)

/-- 'platformfwlaw35.HibernateIsInvisible', WHERE WHAT IT READS IS OF BULK AT MOST 1048576: true; the input reads as it did. -/
def hibernateIsInvisibleUptoRow : OpenClaim := { program := "ytpinpccamfhofaa", sum := "40a28b0b7b94a6c76212c7945a6df92dc579e185d5df533e4943de4e51fc7488", func := "platformfw/platformfwlaw35.HibernateIsInvisible", spec := "hibernateIsInvisible", inPlace := ["internal/abi.NoEscape", "internal/bytealg.MakeNoZero"], apart := false, narrowed := true }
def HibernateIsInvisibleUptoSaid : Prop := hibernateIsInvisibleUptoRow.holds Try.pinned (OpenSpec.upto hibernateIsInvisibleSpec)

/-- 'platformfwlaw35.HibernateSaveIsAtomic', WHERE WHAT IT READS IS OF BULK AT MOST 1048576: true; the input reads as it did. -/
def hibernateSaveIsAtomicUptoRow : OpenClaim := { program := "ytpinpccamfhofaa", sum := "40a28b0b7b94a6c76212c7945a6df92dc579e185d5df533e4943de4e51fc7488", func := "platformfw/platformfwlaw35.HibernateSaveIsAtomic", spec := "hibernateSaveIsAtomic", inPlace := ["internal/abi.NoEscape", "internal/bytealg.MakeNoZero"], apart := false, narrowed := true }
def HibernateSaveIsAtomicUptoSaid : Prop := hibernateSaveIsAtomicUptoRow.holds Try.pinned (OpenSpec.upto hibernateSaveIsAtomicSpec)

/-- 'platformfwlaw35.HibernateLoadIsAtomic', WHERE WHAT IT READS IS OF BULK AT MOST 1048576: true; the input reads as it did. -/
def hibernateLoadIsAtomicUptoRow : OpenClaim := { program := "ytpinpccamfhofaa", sum := "40a28b0b7b94a6c76212c7945a6df92dc579e185d5df533e4943de4e51fc7488", func := "platformfw/platformfwlaw35.HibernateLoadIsAtomic", spec := "hibernateLoadIsAtomic", inPlace := ["internal/abi.NoEscape", "internal/bytealg.MakeNoZero"], apart := false, narrowed := true }
def HibernateLoadIsAtomicUptoSaid : Prop := hibernateLoadIsAtomicUptoRow.holds Try.pinned (OpenSpec.upto hibernateLoadIsAtomicSpec)

/-- 'platformfwlaw35.HibernateDiskAgrees', WHERE WHAT IT READS IS OF BULK AT MOST 1048576: true; the input reads as it did. -/
def hibernateDiskAgreesUptoRow : OpenClaim := { program := "ytpinpccamfhofaa", sum := "40a28b0b7b94a6c76212c7945a6df92dc579e185d5df533e4943de4e51fc7488", func := "platformfw/platformfwlaw35.HibernateDiskAgrees", spec := "hibernateDiskAgrees", inPlace := ["internal/abi.NoEscape", "internal/bytealg.MakeNoZero"], apart := false, narrowed := true }
def HibernateDiskAgreesUptoSaid : Prop := hibernateDiskAgreesUptoRow.holds Try.pinned (OpenSpec.upto hibernateDiskAgreesSpec)

/-- 'platformfwlaw35.HibernateEventAbortsFreezing', WHERE WHAT IT READS IS OF BULK AT MOST 1048576: true; the input reads as it did. -/
def hibernateEventAbortsFreezingUptoRow : OpenClaim := { program := "ytpinpccamfhofaa", sum := "40a28b0b7b94a6c76212c7945a6df92dc579e185d5df533e4943de4e51fc7488", func := "platformfw/platformfwlaw35.HibernateEventAbortsFreezing", spec := "hibernateEventAbortsFreezing", inPlace := ["internal/abi.NoEscape", "internal/bytealg.MakeNoZero"], apart := false, narrowed := true }
def HibernateEventAbortsFreezingUptoSaid : Prop := hibernateEventAbortsFreezingUptoRow.holds Try.pinned (OpenSpec.upto hibernateEventAbortsFreezingSpec)

end Rows
end Go.Proofs.Ytpinpccamfhofaa
