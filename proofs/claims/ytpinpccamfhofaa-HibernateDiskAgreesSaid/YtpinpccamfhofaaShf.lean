/-
  Contracts of the library that the kit has proved of any program, laid at this program by the kit's own tool. No condition.
-/
import Derived.Shelf.Strings.Repeat
import Derived.Shelf.Bits.Mul64
import Derived.Shelf.Strings.OnBuilder
import Derived.Test.YtpinpccamfhofaaProg
set_option linter.unusedVariables false
set_option linter.unusedSimpArgs false
namespace Go.Proofs
open Go.Shelf
def Try.lays156_ren : Go.Shelf.Ren := ⟨fun | 156 => 101 | 165 => 96 | 166 => 97 | 169 => 99 | 240 => 117 | 241 => 118 | 276 => 121 | 277 => 122 | n => n, fun | 31 => 49 | 9 => 9 | 3 => 3 | 4 => 4 | 0 => 0 | 20 => 20 | 72 => 157 | 76 => 160 | 70 => 155 | 37 => 82 | 75 => 159 | 127 => 181 | 164 => 183 | 5 => 5 | 80 => 162 | n => n, fun | n => n⟩
theorem Try.lays156 : Go.Proofs.Lays.n156 Try.prog Try.lays156_ren := {
  mixed := by kernel_rfl
  f156 := Try.func101.trans (congrArg some (by kernel_rfl))
  f165 := Try.func96.trans (congrArg some (by kernel_rfl))
  f166 := Try.func97.trans (congrArg some (by kernel_rfl))
  f169 := Try.func99.trans (congrArg some (by kernel_rfl))
  f240 := Try.func117.trans (congrArg some (by kernel_rfl))
  f241 := Try.func118.trans (congrArg some (by kernel_rfl))
  f276 := Try.func121.trans (congrArg some (by kernel_rfl))
  f277 := Try.func122.trans (congrArg some (by kernel_rfl))
  t0 := Try.underlying0
  a0 := Try.isAgg0
  z0 := Try.sizeOf0
  v0 := Try.zeroValue0
  t3 := Try.underlying3
  a3 := Try.isAgg3
  z3 := Try.sizeOf3
  v3 := Try.zeroValue3
  t4 := Try.underlying4
  a4 := Try.isAgg4
  z4 := Try.sizeOf4
  v4 := Try.zeroValue4
  t9 := Try.underlying9
  a9 := Try.isAgg9
  z9 := Try.sizeOf9
  v9 := Try.zeroValue9
  t20 := Try.underlying20
  a20 := Try.isAgg20
  z20 := Try.sizeOf20
  v20 := Try.zeroValue20
  t31 := Try.underlying49
  a31 := Try.isAgg49
  z31 := Try.sizeOf49
  v31 := Try.zeroValue49
  t37 := Try.underlying82
  a37 := Try.isAgg82
  z37 := Try.sizeOf82
  v37 := Try.zeroValue82
  t70 := Try.underlying155
  a70 := Try.isAgg155
  z70 := Try.sizeOf155
  v70 := Try.zeroValue155
  t72 := Try.underlying157
  a72 := Try.isAgg157
  z72 := Try.sizeOf157
  v72 := Try.zeroValue157
  t75 := Try.underlying159
  a75 := Try.isAgg159
  z75 := Try.sizeOf159
  v75 := Try.zeroValue159
  t76 := Try.underlying160
  a76 := Try.isAgg160
  z76 := Try.sizeOf160
  v76 := Try.zeroValue160
  t127 := Try.underlying181
  a127 := Try.isAgg181
  z127 := Try.sizeOf181
  v127 := Try.zeroValue181
  t164 := Try.underlying183
  a164 := Try.isAgg183
  z164 := Try.sizeOf183
  v164 := Try.zeroValue183 }
theorem Try.Builder_Extra_156 : Builder.Extra Try.prog Try.lays156_ren := {
  sizeBuilder := by kernel_rfl
  liesBuilder := by kernel_rfl
  t5 := Try.underlying5
  a5 := Try.isAgg5
  z5 := Try.sizeOf5
  v5 := Try.zeroValue5
  infoByte := by kernel_rfl
  cellsByte := by kernel_rfl
  sizeByte := by kernel_rfl
  neB5 := by decide }
open Go.RowKit in
theorem Try.strings_Join_none (a : Option Addr) (c : Nat) (sep : ByteArray) (w : World) :
    Calls Try.prog 101 #[.slice a 0 c, .string sep] w fun e w' => e = .returned (.string ⟨#[]⟩) ∧ w' = w := Any.strings_Join_none Try.lays156 Try.Builder_Extra_156 a c sep w
open Go.RowKit in
theorem Try.strings_Join (bk o c : Nat) (xs : List ByteArray) (sep : ByteArray) (w : World) (hcells : ∀ (j : Nat) x, xs[j]? = some x → w.cell? ⟨bk, o + j, none⟩ = some (.string x)) (hbk : bk < w.heap.size) (hN : xs.length ≤ 140737488355328) (hcap : xs.length ≤ c) (hlen : (Lib.join (xs.map (·.data.toList)) sep.data.toList).length ≤ 140737488355328) :
    Calls Try.prog 101 #[.slice (some ⟨bk, o, none⟩) xs.length c, .string sep] w fun e w' => e = .returned (.string ⟨(Lib.join (xs.map (·.data.toList)) sep.data.toList).toArray⟩) ∧ Below w.heap.size w w' := Any.strings_Join Try.lays156 Try.Builder_Extra_156 bk o c xs sep w hcells hbk hN hcap hlen
def Try.lays212_ren : Go.Shelf.Ren := ⟨fun | 212 => 94 | 263 => 114 | 264 => 115 | n => n, fun | 46 => 126 | 51 => 119 | 146 => 177 | 53 => 32 | 148 => 179 | n => n, fun | n => n⟩
theorem Try.lays212 : Go.Proofs.Lays.n212 Try.prog Try.lays212_ren := {
  mixed := by kernel_rfl
  f212 := Try.func94.trans (congrArg some (by kernel_rfl))
  f263 := Try.func114.trans (congrArg some (by kernel_rfl))
  f264 := Try.func115.trans (congrArg some (by kernel_rfl))
  t46 := Try.underlying126
  a46 := Try.isAgg126
  z46 := Try.sizeOf126
  v46 := Try.zeroValue126
  t51 := Try.underlying119
  a51 := Try.isAgg119
  z51 := Try.sizeOf119
  v51 := Try.zeroValue119
  t53 := Try.underlying32
  a53 := Try.isAgg32
  z53 := Try.sizeOf32
  v53 := Try.zeroValue32
  t146 := Try.underlying177
  a146 := Try.isAgg177
  z146 := Try.sizeOf177
  v146 := Try.zeroValue177
  t148 := Try.underlying179
  a148 := Try.isAgg179
  z148 := Try.sizeOf179
  v148 := Try.zeroValue179 }
open Go.RowKit Go.Lib in
theorem Try.bits_Mul (x y : Nat) (hx : x < 18446744073709551616) (hy : y < 18446744073709551616) (w : World) :
    Calls Try.prog 94 #[.int .u64 x, .int .u64 y] w fun e w' => e = .returned (.tuple #[.int .u64 ((x * y / 18446744073709551616 : Nat) : Int), .int .u64 ((x * y % 18446744073709551616 : Nat) : Int)]) ∧ w' = w := Any.bits_Mul Try.lays212 x y hx hy w
def Try.lays105_ren : Go.Shelf.Ren := ⟨fun | 105 => 61 | 212 => 94 | 99 => 95 | 165 => 96 | 166 => 97 | 170 => 98 | 169 => 99 | 263 => 114 | 264 => 115 | 206 => 116 | 240 => 117 | 241 => 118 | 276 => 121 | 277 => 122 | n => n, fun | 9 => 9 | 3 => 3 | 4 => 4 | 20 => 20 | 0 => 0 | 46 => 126 | 109 => 152 | 5 => 5 | 72 => 157 | 76 => 160 | 51 => 119 | 146 => 177 | 53 => 32 | 148 => 179 | 70 => 155 | 37 => 82 | 75 => 159 | 127 => 181 | 164 => 183 | 80 => 162 | n => n, fun | n => n⟩
theorem Try.lays105 : Go.Proofs.Lays.n105 Try.prog Try.lays105_ren := {
  mixed := by kernel_rfl
  f99 := Try.func95.trans (congrArg some (by kernel_rfl))
  f105 := Try.func61.trans (congrArg some (by kernel_rfl))
  f165 := Try.func96.trans (congrArg some (by kernel_rfl))
  f166 := Try.func97.trans (congrArg some (by kernel_rfl))
  f169 := Try.func99.trans (congrArg some (by kernel_rfl))
  f170 := Try.func98.trans (congrArg some (by kernel_rfl))
  f206 := Try.func116.trans (congrArg some (by kernel_rfl))
  f212 := Try.func94.trans (congrArg some (by kernel_rfl))
  f240 := Try.func117.trans (congrArg some (by kernel_rfl))
  f241 := Try.func118.trans (congrArg some (by kernel_rfl))
  f263 := Try.func114.trans (congrArg some (by kernel_rfl))
  f264 := Try.func115.trans (congrArg some (by kernel_rfl))
  f276 := Try.func121.trans (congrArg some (by kernel_rfl))
  f277 := Try.func122.trans (congrArg some (by kernel_rfl))
  t0 := Try.underlying0
  a0 := Try.isAgg0
  z0 := Try.sizeOf0
  v0 := Try.zeroValue0
  t3 := Try.underlying3
  a3 := Try.isAgg3
  z3 := Try.sizeOf3
  v3 := Try.zeroValue3
  t4 := Try.underlying4
  a4 := Try.isAgg4
  z4 := Try.sizeOf4
  v4 := Try.zeroValue4
  t5 := Try.underlying5
  a5 := Try.isAgg5
  z5 := Try.sizeOf5
  v5 := Try.zeroValue5
  t9 := Try.underlying9
  a9 := Try.isAgg9
  z9 := Try.sizeOf9
  v9 := Try.zeroValue9
  t20 := Try.underlying20
  a20 := Try.isAgg20
  z20 := Try.sizeOf20
  v20 := Try.zeroValue20
  t37 := Try.underlying82
  a37 := Try.isAgg82
  z37 := Try.sizeOf82
  v37 := Try.zeroValue82
  t46 := Try.underlying126
  a46 := Try.isAgg126
  z46 := Try.sizeOf126
  v46 := Try.zeroValue126
  t51 := Try.underlying119
  a51 := Try.isAgg119
  z51 := Try.sizeOf119
  v51 := Try.zeroValue119
  t53 := Try.underlying32
  a53 := Try.isAgg32
  z53 := Try.sizeOf32
  v53 := Try.zeroValue32
  t70 := Try.underlying155
  a70 := Try.isAgg155
  z70 := Try.sizeOf155
  v70 := Try.zeroValue155
  t72 := Try.underlying157
  a72 := Try.isAgg157
  z72 := Try.sizeOf157
  v72 := Try.zeroValue157
  t75 := Try.underlying159
  a75 := Try.isAgg159
  z75 := Try.sizeOf159
  v75 := Try.zeroValue159
  t76 := Try.underlying160
  a76 := Try.isAgg160
  z76 := Try.sizeOf160
  v76 := Try.zeroValue160
  t109 := Try.underlying152
  a109 := Try.isAgg152
  z109 := Try.sizeOf152
  v109 := Try.zeroValue152
  t127 := Try.underlying181
  a127 := Try.isAgg181
  z127 := Try.sizeOf181
  v127 := Try.zeroValue181
  t146 := Try.underlying177
  a146 := Try.isAgg177
  z146 := Try.sizeOf177
  v146 := Try.zeroValue177
  t148 := Try.underlying179
  a148 := Try.isAgg179
  z148 := Try.sizeOf179
  v148 := Try.zeroValue179
  t164 := Try.underlying183
  a164 := Try.isAgg183
  z164 := Try.sizeOf183
  v164 := Try.zeroValue183 }
theorem Try.Builder_Extra_105 : Builder.Extra Try.prog Try.lays105_ren := {
  sizeBuilder := by kernel_rfl
  liesBuilder := by kernel_rfl
  t5 := Try.underlying5
  a5 := Try.isAgg5
  z5 := Try.sizeOf5
  v5 := Try.zeroValue5
  infoByte := by kernel_rfl
  cellsByte := by kernel_rfl
  sizeByte := by kernel_rfl
  neB5 := by decide }
open Go.RowKit Go.Lib in
theorem Try.strings_Repeat (s : ByteArray) (c : Nat) (w : World) (hc : c ≤ 9223372036854775807) (hlen : s.size * c ≤ 140737488355328) :
    Calls Try.prog 61 #[.string s, .int .i64 c] w fun e w' => e = .returned (.string ⟨(Lib.repeatL s.data.toList c).toArray⟩) ∧ Below w.heap.size w w' := Any.strings_Repeat Try.lays105 Try.Builder_Extra_105 s c w hc hlen
end Go.Proofs
