/-
  No cell of these rows narrows 'for every input' (looked for: loops, veiled, ifaces, maps, wideKeys, modest, calm, conditions, laid).
  DERIVED. THE GIVEN ROWS OF THIS SEAT. 9 by the template 'for every input the law returns true; each argument reads behind the call as it read before'; 0 by the template 'total and deterministic' (their statements: YtpgekajgbkbpkaaTotals.lean).
  GIVEN WITH THE SEED: the statements are not yours to turn. If you find one false, say at which input.
  Laid BY PROGRAM, IN A SANDBOX (cutbox-rows.mjs): the forced cells as the released guide's own fill.sh prints them over the translation c959fab15f2c6657… (all of the seat's roots in one cut). By AI agents, Wed Nov 11 2026. No macro, syntax, notation, axiom, sorry.
-/
import Derived.Test.YtpgekajgbkbpkaaChecked
import GoSem.Claim
import GoSem.ClaimJoined
import GoSem.ClaimMapViews
import Derived.JoinedTies
import Derived.KernelRfl
namespace Go.Proofs.Ytpgekajgbkbpkaa
/- THE CELL 'sum', in the pinned program and in every row, IS THE sha256 OF THE DUMP (.gsa) THAT YtpgekajgbkbpkaaProg.lean LOADS. Nothing in Lean hashes anything: it is a label: what it is worth is what the hold of that sum in a sandbox is worth. -/
noncomputable def Try.pinned : Pinned := { name := "ytpgekajgbkbpkaa", sum := "c959fab15f2c6657d12935c50b641994c4284227a91a78f27d6785d548849782", checked := Try.checked }
namespace Rows
def none {H : Type} : Left H := { results := [], args := [] }

/-- 'platformfwlaw34.ImageChecksumAgrees': WHATEVER THE INPUT: true; the input reads as it did. -/
def imageChecksumAgreesSpec : ChangeSpec := { name := "imageChecksumAgrees", fn := fun _ => fun
  | [d] => { results := [.lit (.bool true)], args := [d] }
  | _ => none }
def imageChecksumAgreesRow : OpenClaim := { program := "ytpgekajgbkbpkaa", sum := "c959fab15f2c6657d12935c50b641994c4284227a91a78f27d6785d548849782", func := "platformfw/platformfwlaw34.ImageChecksumAgrees", spec := "imageChecksumAgrees", inPlace := ["internal/abi.NoEscape", "internal/bytealg.MakeNoZero"], apart := false }
def ImageChecksumAgreesSaid : Prop := imageChecksumAgreesRow.holds Try.pinned (OpenSpec.ofChange imageChecksumAgreesSpec)

/-- ITS FALSE NEIGHBOUR: 'it returns false'. Refute it at one input. -/
def imageChecksumAgreesWrong : ChangeSpec := { name := "imageChecksumAgrees", fn := fun _ => fun
  | [d] => { results := [.lit (.bool false)], args := [d] }
  | _ => none }
def ImageChecksumAgreesWrongFalsely : Prop := imageChecksumAgreesRow.holds Try.pinned (OpenSpec.ofChange imageChecksumAgreesWrong)

/-- 'platformfwlaw34.ImageChecksumIsAffine': WHATEVER THE INPUT: true; the input reads as it did. -/
def imageChecksumIsAffineSpec : ChangeSpec := { name := "imageChecksumIsAffine", fn := fun _ => fun
  | [d1, d2, d3] => { results := [.lit (.bool true)], args := [d1, d2, d3] }
  | _ => none }
def imageChecksumIsAffineRow : OpenClaim := { program := "ytpgekajgbkbpkaa", sum := "c959fab15f2c6657d12935c50b641994c4284227a91a78f27d6785d548849782", func := "platformfw/platformfwlaw34.ImageChecksumIsAffine", spec := "imageChecksumIsAffine", inPlace := ["internal/abi.NoEscape", "internal/bytealg.MakeNoZero"], apart := false }
def ImageChecksumIsAffineSaid : Prop := imageChecksumIsAffineRow.holds Try.pinned (OpenSpec.ofChange imageChecksumIsAffineSpec)

/-- ITS FALSE NEIGHBOUR: 'it returns false'. Refute it at one input. -/
def imageChecksumIsAffineWrong : ChangeSpec := { name := "imageChecksumIsAffine", fn := fun _ => fun
  | [d1, d2, d3] => { results := [.lit (.bool false)], args := [d1, d2, d3] }
  | _ => none }
def ImageChecksumIsAffineWrongFalsely : Prop := imageChecksumIsAffineRow.holds Try.pinned (OpenSpec.ofChange imageChecksumIsAffineWrong)

/-- 'platformfwlaw34.ImageHeaderRoundTrip': WHATEVER THE INPUT: true; the input reads as it did. -/
def imageHeaderRoundTripSpec : ChangeSpec := { name := "imageHeaderRoundTrip", fn := fun _ => fun
  | [d] => { results := [.lit (.bool true)], args := [d] }
  | _ => none }
def imageHeaderRoundTripRow : OpenClaim := { program := "ytpgekajgbkbpkaa", sum := "c959fab15f2c6657d12935c50b641994c4284227a91a78f27d6785d548849782", func := "platformfw/platformfwlaw34.ImageHeaderRoundTrip", spec := "imageHeaderRoundTrip", inPlace := ["internal/abi.NoEscape", "internal/bytealg.MakeNoZero"], apart := false }
def ImageHeaderRoundTripSaid : Prop := imageHeaderRoundTripRow.holds Try.pinned (OpenSpec.ofChange imageHeaderRoundTripSpec)

/-- ITS FALSE NEIGHBOUR: 'it returns false'. Refute it at one input. -/
def imageHeaderRoundTripWrong : ChangeSpec := { name := "imageHeaderRoundTrip", fn := fun _ => fun
  | [d] => { results := [.lit (.bool false)], args := [d] }
  | _ => none }
def ImageHeaderRoundTripWrongFalsely : Prop := imageHeaderRoundTripRow.holds Try.pinned (OpenSpec.ofChange imageHeaderRoundTripWrong)

/-- 'platformfwlaw34.ImageHeaderAgrees': WHATEVER THE INPUT: true; the input reads as it did. -/
def imageHeaderAgreesSpec : ChangeSpec := { name := "imageHeaderAgrees", fn := fun _ => fun
  | [d1, d2, d3, d4] => { results := [.lit (.bool true)], args := [d1, d2, d3, d4] }
  | _ => none }
def imageHeaderAgreesRow : OpenClaim := { program := "ytpgekajgbkbpkaa", sum := "c959fab15f2c6657d12935c50b641994c4284227a91a78f27d6785d548849782", func := "platformfw/platformfwlaw34.ImageHeaderAgrees", spec := "imageHeaderAgrees", inPlace := ["internal/abi.NoEscape", "internal/bytealg.MakeNoZero"], apart := false }
def ImageHeaderAgreesSaid : Prop := imageHeaderAgreesRow.holds Try.pinned (OpenSpec.ofChange imageHeaderAgreesSpec)

/-- ITS FALSE NEIGHBOUR: 'it returns false'. Refute it at one input. -/
def imageHeaderAgreesWrong : ChangeSpec := { name := "imageHeaderAgrees", fn := fun _ => fun
  | [d1, d2, d3, d4] => { results := [.lit (.bool false)], args := [d1, d2, d3, d4] }
  | _ => none }
def ImageHeaderAgreesWrongFalsely : Prop := imageHeaderAgreesRow.holds Try.pinned (OpenSpec.ofChange imageHeaderAgreesWrong)

/-- 'platformfwlaw34.ImageEncodeAgrees': WHATEVER THE INPUT: true; the input reads as it did. -/
def imageEncodeAgreesSpec : ChangeSpec := { name := "imageEncodeAgrees", fn := fun _ => fun
  | [d1, d2, d3, d4, d5, d6, d7] => { results := [.lit (.bool true)], args := [d1, d2, d3, d4, d5, d6, d7] }
  | _ => none }
def imageEncodeAgreesRow : OpenClaim := { program := "ytpgekajgbkbpkaa", sum := "c959fab15f2c6657d12935c50b641994c4284227a91a78f27d6785d548849782", func := "platformfw/platformfwlaw34.ImageEncodeAgrees", spec := "imageEncodeAgrees", inPlace := ["internal/abi.NoEscape", "internal/bytealg.MakeNoZero"], apart := false }
def ImageEncodeAgreesSaid : Prop := imageEncodeAgreesRow.holds Try.pinned (OpenSpec.ofChange imageEncodeAgreesSpec)

/-- ITS FALSE NEIGHBOUR: 'it returns false'. Refute it at one input. -/
def imageEncodeAgreesWrong : ChangeSpec := { name := "imageEncodeAgrees", fn := fun _ => fun
  | [d1, d2, d3, d4, d5, d6, d7] => { results := [.lit (.bool false)], args := [d1, d2, d3, d4, d5, d6, d7] }
  | _ => none }
def ImageEncodeAgreesWrongFalsely : Prop := imageEncodeAgreesRow.holds Try.pinned (OpenSpec.ofChange imageEncodeAgreesWrong)

/-- 'platformfwlaw34.ImageRoundTrip': WHATEVER THE INPUT: true; the input reads as it did. -/
def imageRoundTripSpec : ChangeSpec := { name := "imageRoundTrip", fn := fun _ => fun
  | [d1, d2, d3, d4, d5] => { results := [.lit (.bool true)], args := [d1, d2, d3, d4, d5] }
  | _ => none }
def imageRoundTripRow : OpenClaim := { program := "ytpgekajgbkbpkaa", sum := "c959fab15f2c6657d12935c50b641994c4284227a91a78f27d6785d548849782", func := "platformfw/platformfwlaw34.ImageRoundTrip", spec := "imageRoundTrip", inPlace := ["internal/abi.NoEscape", "internal/bytealg.MakeNoZero"], apart := false }
def ImageRoundTripSaid : Prop := imageRoundTripRow.holds Try.pinned (OpenSpec.ofChange imageRoundTripSpec)

/-- ITS FALSE NEIGHBOUR: 'it returns false'. Refute it at one input. -/
def imageRoundTripWrong : ChangeSpec := { name := "imageRoundTrip", fn := fun _ => fun
  | [d1, d2, d3, d4, d5] => { results := [.lit (.bool false)], args := [d1, d2, d3, d4, d5] }
  | _ => none }
def ImageRoundTripWrongFalsely : Prop := imageRoundTripRow.holds Try.pinned (OpenSpec.ofChange imageRoundTripWrong)

/-- 'platformfwlaw34.ImageDetectsBitErrors': WHATEVER THE INPUT: true; the input reads as it did. -/
def imageDetectsBitErrorsSpec : ChangeSpec := { name := "imageDetectsBitErrors", fn := fun _ => fun
  | [d1, d2, d3] => { results := [.lit (.bool true)], args := [d1, d2, d3] }
  | _ => none }
def imageDetectsBitErrorsRow : OpenClaim := { program := "ytpgekajgbkbpkaa", sum := "c959fab15f2c6657d12935c50b641994c4284227a91a78f27d6785d548849782", func := "platformfw/platformfwlaw34.ImageDetectsBitErrors", spec := "imageDetectsBitErrors", inPlace := ["internal/abi.NoEscape", "internal/bytealg.MakeNoZero"], apart := false }
def ImageDetectsBitErrorsSaid : Prop := imageDetectsBitErrorsRow.holds Try.pinned (OpenSpec.ofChange imageDetectsBitErrorsSpec)

/-- ITS FALSE NEIGHBOUR: 'it returns false'. Refute it at one input. -/
def imageDetectsBitErrorsWrong : ChangeSpec := { name := "imageDetectsBitErrors", fn := fun _ => fun
  | [d1, d2, d3] => { results := [.lit (.bool false)], args := [d1, d2, d3] }
  | _ => none }
def ImageDetectsBitErrorsWrongFalsely : Prop := imageDetectsBitErrorsRow.holds Try.pinned (OpenSpec.ofChange imageDetectsBitErrorsWrong)

/-- 'platformfwlaw34.ImageTruncation': WHATEVER THE INPUT: true; the input reads as it did. -/
def imageTruncationSpec : ChangeSpec := { name := "imageTruncation", fn := fun _ => fun
  | [d1, d2] => { results := [.lit (.bool true)], args := [d1, d2] }
  | _ => none }
def imageTruncationRow : OpenClaim := { program := "ytpgekajgbkbpkaa", sum := "c959fab15f2c6657d12935c50b641994c4284227a91a78f27d6785d548849782", func := "platformfw/platformfwlaw34.ImageTruncation", spec := "imageTruncation", inPlace := ["internal/abi.NoEscape", "internal/bytealg.MakeNoZero"], apart := false }
def ImageTruncationSaid : Prop := imageTruncationRow.holds Try.pinned (OpenSpec.ofChange imageTruncationSpec)

/-- ITS FALSE NEIGHBOUR: 'it returns false'. Refute it at one input. -/
def imageTruncationWrong : ChangeSpec := { name := "imageTruncation", fn := fun _ => fun
  | [d1, d2] => { results := [.lit (.bool false)], args := [d1, d2] }
  | _ => none }
def ImageTruncationWrongFalsely : Prop := imageTruncationRow.holds Try.pinned (OpenSpec.ofChange imageTruncationWrong)

/-- 'platformfwlaw34.ImagePrefix': WHATEVER THE INPUT: true; the input reads as it did. -/
def imagePrefixSpec : ChangeSpec := { name := "imagePrefix", fn := fun _ => fun
  | [d1, d2, d3] => { results := [.lit (.bool true)], args := [d1, d2, d3] }
  | _ => none }
def imagePrefixRow : OpenClaim := { program := "ytpgekajgbkbpkaa", sum := "c959fab15f2c6657d12935c50b641994c4284227a91a78f27d6785d548849782", func := "platformfw/platformfwlaw34.ImagePrefix", spec := "imagePrefix", inPlace := ["internal/abi.NoEscape", "internal/bytealg.MakeNoZero"], apart := false }
def ImagePrefixSaid : Prop := imagePrefixRow.holds Try.pinned (OpenSpec.ofChange imagePrefixSpec)

/-- ITS FALSE NEIGHBOUR: 'it returns false'. Refute it at one input. -/
def imagePrefixWrong : ChangeSpec := { name := "imagePrefix", fn := fun _ => fun
  | [d1, d2, d3] => { results := [.lit (.bool false)], args := [d1, d2, d3] }
  | _ => none }
def ImagePrefixWrongFalsely : Prop := imagePrefixRow.holds Try.pinned (OpenSpec.ofChange imagePrefixWrong)

/- THE SECOND FORM. 'bulk': how many values and letters a reading holds, each counted each time it is reached (what is shared counts as often as it is met; a slice's spare places count too). A statement '..UptoSaid' is the law's where the arguments, and the package variables that the reading takes, are together of bulk at most 1048576: NARROWER than '..Said'. Prove '..Said' where nothing that the law and all that it calls make is longer than what came in: it says more and counts as full. Else prove '..UptoSaid'. A law counts once. -/
mutual
def uptoBulk {H : Type} : DataW H → Nat
  | .lit (.string bytes) => bytes.length + 1
  | .lit _ => 1
  | .nil => 1
  | .ptr d => uptoBulk d + 1
  | .slice elems spare => uptoBulkAll elems + uptoBulkAll spare + 1
  | .agg parts => uptoBulkAll parts + 1
  | .iface _ d => uptoBulk d + 1
  | .map entries => uptoBulkEntries entries + 1
  | .held _ => 1
def uptoBulkAll {H : Type} : List (DataW H) → Nat
  | [] => 0
  | d :: r => uptoBulk d + uptoBulkAll r
def uptoBulkEntries {H : Type} : List (Lit × DataW H) → Nat
  | [] => 0
  | x :: r => uptoBulkEntry x + uptoBulkEntries r
def uptoBulkEntry {H : Type} : Lit × DataW H → Nat
  | (.string bytes, d) => bytes.length + uptoBulk d + 1
  | (_, d) => uptoBulk d + 1
 end
def uptoSmall : (H : Type) → List (DataW H) → Bool := fun _ ds => decide (uptoBulkAll ds ≤ 1048576)
def OpenSpec.upto (s : _root_.Go.ChangeSpec) : _root_.Go.OpenSpec := { _root_.Go.OpenSpec.ofChange s with cond := some uptoSmall }

/-- 'platformfwlaw34.ImageChecksumAgrees', WHERE WHAT IT READS IS OF BULK AT MOST 1048576: true; the input reads as it did. -/
def imageChecksumAgreesUptoRow : OpenClaim := { program := "ytpgekajgbkbpkaa", sum := "c959fab15f2c6657d12935c50b641994c4284227a91a78f27d6785d548849782", func := "platformfw/platformfwlaw34.ImageChecksumAgrees", spec := "imageChecksumAgrees", inPlace := ["internal/abi.NoEscape", "internal/bytealg.MakeNoZero"], apart := false, narrowed := true }
def ImageChecksumAgreesUptoSaid : Prop := imageChecksumAgreesUptoRow.holds Try.pinned (OpenSpec.upto imageChecksumAgreesSpec)

/-- 'platformfwlaw34.ImageChecksumIsAffine', WHERE WHAT IT READS IS OF BULK AT MOST 1048576: true; the input reads as it did. -/
def imageChecksumIsAffineUptoRow : OpenClaim := { program := "ytpgekajgbkbpkaa", sum := "c959fab15f2c6657d12935c50b641994c4284227a91a78f27d6785d548849782", func := "platformfw/platformfwlaw34.ImageChecksumIsAffine", spec := "imageChecksumIsAffine", inPlace := ["internal/abi.NoEscape", "internal/bytealg.MakeNoZero"], apart := false, narrowed := true }
def ImageChecksumIsAffineUptoSaid : Prop := imageChecksumIsAffineUptoRow.holds Try.pinned (OpenSpec.upto imageChecksumIsAffineSpec)

/-- 'platformfwlaw34.ImageHeaderRoundTrip', WHERE WHAT IT READS IS OF BULK AT MOST 1048576: true; the input reads as it did. -/
def imageHeaderRoundTripUptoRow : OpenClaim := { program := "ytpgekajgbkbpkaa", sum := "c959fab15f2c6657d12935c50b641994c4284227a91a78f27d6785d548849782", func := "platformfw/platformfwlaw34.ImageHeaderRoundTrip", spec := "imageHeaderRoundTrip", inPlace := ["internal/abi.NoEscape", "internal/bytealg.MakeNoZero"], apart := false, narrowed := true }
def ImageHeaderRoundTripUptoSaid : Prop := imageHeaderRoundTripUptoRow.holds Try.pinned (OpenSpec.upto imageHeaderRoundTripSpec)

/-- 'platformfwlaw34.ImageHeaderAgrees', WHERE WHAT IT READS IS OF BULK AT MOST 1048576: true; the input reads as it did. -/
def imageHeaderAgreesUptoRow : OpenClaim := { program := "ytpgekajgbkbpkaa", sum := "c959fab15f2c6657d12935c50b641994c4284227a91a78f27d6785d548849782", func := "platformfw/platformfwlaw34.ImageHeaderAgrees", spec := "imageHeaderAgrees", inPlace := ["internal/abi.NoEscape", "internal/bytealg.MakeNoZero"], apart := false, narrowed := true }
def ImageHeaderAgreesUptoSaid : Prop := imageHeaderAgreesUptoRow.holds Try.pinned (OpenSpec.upto imageHeaderAgreesSpec)

/-- 'platformfwlaw34.ImageEncodeAgrees', WHERE WHAT IT READS IS OF BULK AT MOST 1048576: true; the input reads as it did. -/
def imageEncodeAgreesUptoRow : OpenClaim := { program := "ytpgekajgbkbpkaa", sum := "c959fab15f2c6657d12935c50b641994c4284227a91a78f27d6785d548849782", func := "platformfw/platformfwlaw34.ImageEncodeAgrees", spec := "imageEncodeAgrees", inPlace := ["internal/abi.NoEscape", "internal/bytealg.MakeNoZero"], apart := false, narrowed := true }
def ImageEncodeAgreesUptoSaid : Prop := imageEncodeAgreesUptoRow.holds Try.pinned (OpenSpec.upto imageEncodeAgreesSpec)

/-- 'platformfwlaw34.ImageRoundTrip', WHERE WHAT IT READS IS OF BULK AT MOST 1048576: true; the input reads as it did. -/
def imageRoundTripUptoRow : OpenClaim := { program := "ytpgekajgbkbpkaa", sum := "c959fab15f2c6657d12935c50b641994c4284227a91a78f27d6785d548849782", func := "platformfw/platformfwlaw34.ImageRoundTrip", spec := "imageRoundTrip", inPlace := ["internal/abi.NoEscape", "internal/bytealg.MakeNoZero"], apart := false, narrowed := true }
def ImageRoundTripUptoSaid : Prop := imageRoundTripUptoRow.holds Try.pinned (OpenSpec.upto imageRoundTripSpec)

/-- 'platformfwlaw34.ImageDetectsBitErrors', WHERE WHAT IT READS IS OF BULK AT MOST 1048576: true; the input reads as it did. -/
def imageDetectsBitErrorsUptoRow : OpenClaim := { program := "ytpgekajgbkbpkaa", sum := "c959fab15f2c6657d12935c50b641994c4284227a91a78f27d6785d548849782", func := "platformfw/platformfwlaw34.ImageDetectsBitErrors", spec := "imageDetectsBitErrors", inPlace := ["internal/abi.NoEscape", "internal/bytealg.MakeNoZero"], apart := false, narrowed := true }
def ImageDetectsBitErrorsUptoSaid : Prop := imageDetectsBitErrorsUptoRow.holds Try.pinned (OpenSpec.upto imageDetectsBitErrorsSpec)

/-- 'platformfwlaw34.ImageTruncation', WHERE WHAT IT READS IS OF BULK AT MOST 1048576: true; the input reads as it did. -/
def imageTruncationUptoRow : OpenClaim := { program := "ytpgekajgbkbpkaa", sum := "c959fab15f2c6657d12935c50b641994c4284227a91a78f27d6785d548849782", func := "platformfw/platformfwlaw34.ImageTruncation", spec := "imageTruncation", inPlace := ["internal/abi.NoEscape", "internal/bytealg.MakeNoZero"], apart := false, narrowed := true }
def ImageTruncationUptoSaid : Prop := imageTruncationUptoRow.holds Try.pinned (OpenSpec.upto imageTruncationSpec)

/-- 'platformfwlaw34.ImagePrefix', WHERE WHAT IT READS IS OF BULK AT MOST 1048576: true; the input reads as it did. -/
def imagePrefixUptoRow : OpenClaim := { program := "ytpgekajgbkbpkaa", sum := "c959fab15f2c6657d12935c50b641994c4284227a91a78f27d6785d548849782", func := "platformfw/platformfwlaw34.ImagePrefix", spec := "imagePrefix", inPlace := ["internal/abi.NoEscape", "internal/bytealg.MakeNoZero"], apart := false, narrowed := true }
def ImagePrefixUptoSaid : Prop := imagePrefixUptoRow.holds Try.pinned (OpenSpec.upto imagePrefixSpec)

end Rows
end Go.Proofs.Ytpgekajgbkbpkaa
