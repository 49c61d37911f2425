/-
  Contracts of the library that the kit has proved of any program, laid at this program by the kit's own tool. No condition.
-/
import Derived.Shelf.Strings.Repeat
import Derived.Shelf.Bits.Mul64
import Derived.Test.YtbfkhnaknbkilaaProg
namespace Go.Proofs
open Go.Shelf
def Try.lays212_ren : Go.Shelf.Ren := ⟨fun | 212 => 34 | 263 => 40 | 264 => 41 | n => n, fun | 46 => 54 | 51 => 87 | 146 => 88 | 53 => 37 | 148 => 90 | n => n, fun | n => n⟩
theorem Try.lays212 : Go.Proofs.Lays.n212 Try.prog Try.lays212_ren := {
  mixed := by kernel_rfl
  f212 := Try.func34.trans (congrArg some (by kernel_rfl))
  f263 := Try.func40.trans (congrArg some (by kernel_rfl))
  f264 := Try.func41.trans (congrArg some (by kernel_rfl))
  t46 := Try.underlying54
  a46 := Try.isAgg54
  z46 := Try.sizeOf54
  v46 := Try.zeroValue54
  t51 := Try.underlying87
  a51 := Try.isAgg87
  z51 := Try.sizeOf87
  v51 := Try.zeroValue87
  t53 := Try.underlying37
  a53 := Try.isAgg37
  z53 := Try.sizeOf37
  v53 := Try.zeroValue37
  t146 := Try.underlying88
  a146 := Try.isAgg88
  z146 := Try.sizeOf88
  v146 := Try.zeroValue88
  t148 := Try.underlying90
  a148 := Try.isAgg90
  z148 := Try.sizeOf90
  v148 := Try.zeroValue90 }
open Go.RowKit Go.Lib in
theorem Try.bits_Mul (x y : Nat) (hx : x < 18446744073709551616) (hy : y < 18446744073709551616) (w : World) :
    Calls Try.prog 34 #[.int .u64 x, .int .u64 y] w fun e w' => e = .returned (.tuple #[.int .u64 ((x * y / 18446744073709551616 : Nat) : Int), .int .u64 ((x * y % 18446744073709551616 : Nat) : Int)]) ∧ w' = w := Any.bits_Mul Try.lays212 x y hx hy w
def Try.lays105_ren : Go.Shelf.Ren := ⟨fun | 105 => 26 | 212 => 34 | 99 => 35 | 165 => 36 | 166 => 37 | 170 => 38 | 169 => 39 | 263 => 40 | 264 => 41 | 206 => 42 | 240 => 43 | 241 => 44 | 276 => 45 | 277 => 46 | n => n, fun | 9 => 9 | 3 => 3 | 4 => 4 | 20 => 20 | 0 => 0 | 46 => 54 | 109 => 75 | 5 => 5 | 72 => 80 | 76 => 84 | 51 => 87 | 146 => 88 | 53 => 37 | 148 => 90 | 70 => 78 | 37 => 71 | 75 => 83 | 127 => 92 | 164 => 93 | 80 => 69 | n => n, fun | n => n⟩
theorem Try.lays105 : Go.Proofs.Lays.n105 Try.prog Try.lays105_ren := {
  mixed := by kernel_rfl
  f99 := Try.func35.trans (congrArg some (by kernel_rfl))
  f105 := Try.func26.trans (congrArg some (by kernel_rfl))
  f165 := Try.func36.trans (congrArg some (by kernel_rfl))
  f166 := Try.func37.trans (congrArg some (by kernel_rfl))
  f169 := Try.func39.trans (congrArg some (by kernel_rfl))
  f170 := Try.func38.trans (congrArg some (by kernel_rfl))
  f206 := Try.func42.trans (congrArg some (by kernel_rfl))
  f212 := Try.func34.trans (congrArg some (by kernel_rfl))
  f240 := Try.func43.trans (congrArg some (by kernel_rfl))
  f241 := Try.func44.trans (congrArg some (by kernel_rfl))
  f263 := Try.func40.trans (congrArg some (by kernel_rfl))
  f264 := Try.func41.trans (congrArg some (by kernel_rfl))
  f276 := Try.func45.trans (congrArg some (by kernel_rfl))
  f277 := Try.func46.trans (congrArg some (by kernel_rfl))
  t0 := Try.underlying0
  a0 := Try.isAgg0
  z0 := Try.sizeOf0
  v0 := Try.zeroValue0
  t3 := Try.underlying3
  a3 := Try.isAgg3
  z3 := Try.sizeOf3
  v3 := Try.zeroValue3
  t4 := Try.underlying4
  a4 := Try.isAgg4
  z4 := Try.sizeOf4
  v4 := Try.zeroValue4
  t5 := Try.underlying5
  a5 := Try.isAgg5
  z5 := Try.sizeOf5
  v5 := Try.zeroValue5
  t9 := Try.underlying9
  a9 := Try.isAgg9
  z9 := Try.sizeOf9
  v9 := Try.zeroValue9
  t20 := Try.underlying20
  a20 := Try.isAgg20
  z20 := Try.sizeOf20
  v20 := Try.zeroValue20
  t37 := Try.underlying71
  a37 := Try.isAgg71
  z37 := Try.sizeOf71
  v37 := Try.zeroValue71
  t46 := Try.underlying54
  a46 := Try.isAgg54
  z46 := Try.sizeOf54
  v46 := Try.zeroValue54
  t51 := Try.underlying87
  a51 := Try.isAgg87
  z51 := Try.sizeOf87
  v51 := Try.zeroValue87
  t53 := Try.underlying37
  a53 := Try.isAgg37
  z53 := Try.sizeOf37
  v53 := Try.zeroValue37
  t70 := Try.underlying78
  a70 := Try.isAgg78
  z70 := Try.sizeOf78
  v70 := Try.zeroValue78
  t72 := Try.underlying80
  a72 := Try.isAgg80
  z72 := Try.sizeOf80
  v72 := Try.zeroValue80
  t75 := Try.underlying83
  a75 := Try.isAgg83
  z75 := Try.sizeOf83
  v75 := Try.zeroValue83
  t76 := Try.underlying84
  a76 := Try.isAgg84
  z76 := Try.sizeOf84
  v76 := Try.zeroValue84
  t109 := Try.underlying75
  a109 := Try.isAgg75
  z109 := Try.sizeOf75
  v109 := Try.zeroValue75
  t127 := Try.underlying92
  a127 := Try.isAgg92
  z127 := Try.sizeOf92
  v127 := Try.zeroValue92
  t146 := Try.underlying88
  a146 := Try.isAgg88
  z146 := Try.sizeOf88
  v146 := Try.zeroValue88
  t148 := Try.underlying90
  a148 := Try.isAgg90
  z148 := Try.sizeOf90
  v148 := Try.zeroValue90
  t164 := Try.underlying93
  a164 := Try.isAgg93
  z164 := Try.sizeOf93
  v164 := Try.zeroValue93 }
theorem Try.Builder_Extra_105 : Builder.Extra Try.prog Try.lays105_ren := {
  sizeBuilder := by kernel_rfl
  liesBuilder := by kernel_rfl
  t5 := Try.underlying5
  a5 := Try.isAgg5
  z5 := Try.sizeOf5
  v5 := Try.zeroValue5
  infoByte := by kernel_rfl
  cellsByte := by kernel_rfl
  sizeByte := by kernel_rfl
  neB5 := by decide }
open Go.RowKit Go.Lib in
theorem Try.strings_Repeat (s : ByteArray) (c : Nat) (w : World) (hc : c ≤ 9223372036854775807) (hlen : s.size * c ≤ 140737488355328) :
    Calls Try.prog 26 #[.string s, .int .i64 c] w fun e w' => e = .returned (.string ⟨(Lib.repeatL s.data.toList c).toArray⟩) ∧ Below w.heap.size w w' := Any.strings_Repeat Try.lays105 Try.Builder_Extra_105 s c w hc hlen
end Go.Proofs
