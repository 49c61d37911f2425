/- The conditions of the functions of this translation, written out by a program; each is an equation that the kernel checks. No condition. -/
import Derived.Test.YtpinpccamfhofaaGA
import Derived.Test.YtpinpccamfhofaaChecked
import Derived.Test.YtpinpccamfhofaaW0
set_option linter.unusedVariables false
set_option linter.unusedSimpArgs false
set_option maxRecDepth 100000
set_option linter.unusedVariables false
namespace Go.Proofs.Ytpinpccamfhofaa
open Go Go.Ev Go.Proofs
def W.wakeup_Sources_end (s_ : Addr) (source_ : Int) (w : World) (Q : Value → World → Prop) : Prop :=
  rq Try.prog (Instr.indexAt 145 (.pointer (some (s_.add 0))) (.int .i64 source_)) w fun v1 => fA v1 fun a2 =>
  st Try.prog 4 (a2.add 0) (.bool false) w fun w3 =>
  CallE Try.prog 93 #[(.pointer (some s_)), (.int .i64 source_)] w3 fun v4 w5 => v4 = .tuple #[] ∧
  ld Try.prog 3 (s_.add 99) w5 fun v6 => fI .i64 v6 fun x7 =>
  st Try.prog 3 (s_.add 99) (.int .i64 (IntKind.wrap .i64 (x7 + 1))) w5 fun w8 =>
  Q (.tuple #[]) w8
theorem E.wakeup_Sources_end (s_ : Addr) (source_ : Int) (w : World) (Q : Value → World → Prop) : ev Try.prog Try.f113.ntmps callable [] [] (Try.f113.body.getD .skip) (enumE 0 [(.pointer (some s_)), (.int .i64 source_)]) w (KQ Try.prog Try.f113.results.toList Q) = W.wakeup_Sources_end s_ source_ w Q := by kernel_rfl
theorem C.wakeup_Sources_end (s_ : Addr) (source_ : Int) (w : World) (Q : Value → World → Prop) (h : W.wakeup_Sources_end s_ source_ w Q) : CallE Try.prog 113 #[(.pointer (some s_)), (.int .i64 source_)] w Q :=
  calls_of_ev mixed callable_ok (args := [(.pointer (some s_)), (.int .i64 source_)]) Try.func113 rfl ((E.wakeup_Sources_end s_ source_ w Q).symm ▸ h)

def W.internal_stringslite_HasPrefix (s_ : ByteArray) (prefix_ : ByteArray) (w : World) (Q : Value → World → Prop) : Prop :=
  br (decide ((((s_.size : Nat) : Int) : Int) ≥ ((prefix_.size : Nat) : Int))) (rq Try.prog (Instr.sliceAt 9 (.string s_) none (some (.int .i64 ((prefix_.size : Nat) : Int))) none) w fun v1 => fT v1 fun t2 =>
  rq Try.prog (do eqGuard .eql 9 (.tmp 14) (.tmp 15) (.string t2) (.string prefix_); binOp .eql 9 (.string t2) (.string prefix_)) w fun v3 => fB v3 fun b4 =>
  Q (.bool b4) w) (Q (.bool false) w)
theorem E.internal_stringslite_HasPrefix (s_ : ByteArray) (prefix_ : ByteArray) (w : World) (Q : Value → World → Prop) : ev Try.prog Try.f116.ntmps callable [] [] (Try.f116.body.getD .skip) (enumE 0 [(.string s_), (.string prefix_)]) w (KQ Try.prog Try.f116.results.toList Q) = W.internal_stringslite_HasPrefix s_ prefix_ w Q := by kernel_rfl
theorem C.internal_stringslite_HasPrefix (s_ : ByteArray) (prefix_ : ByteArray) (w : World) (Q : Value → World → Prop) (h : W.internal_stringslite_HasPrefix s_ prefix_ w Q) : CallE Try.prog 116 #[(.string s_), (.string prefix_)] w Q :=
  calls_of_ev mixed callable_ok (args := [(.string s_), (.string prefix_)]) Try.func116 rfl ((E.internal_stringslite_HasPrefix s_ prefix_ w Q).symm ▸ h)

def W.strings_Builder_copyCheck (b_ : Addr) (w : World) (Q : Value → World → Prop) : Prop :=
  ld Try.prog 155 (b_.add 0) w fun v1 => fP v1 fun p2 =>
  rq Try.prog (do eqGuard .eql 155 (.tmp 5) (.const (.pointer none)) (.pointer p2) (.pointer none); binOp .eql 155 (.pointer p2) (.pointer none)) w fun v3 => fB v3 fun b4 =>
  br b4 (rv Try.prog (convert 155 183 (.pointer (some b_))) w fun v5 w6 => fP v5 fun p7 =>
  rv Try.prog (convert 183 155 (.pointer p7)) w6 fun v8 w9 => fP v8 fun p10 =>
  st Try.prog 155 (b_.add 0) (.pointer p10) w9 fun w11 =>
  Q (.tuple #[]) w11) (ld Try.prog 155 (b_.add 0) w fun v12 => fP v12 fun p13 =>
  rq Try.prog (do eqGuard .neq 155 (.tmp 17) (.tmp 18) (.pointer p13) (.pointer (some b_)); binOp .neq 155 (.pointer p13) (.pointer (some b_))) w fun v14 => fB v14 fun b15 =>
  br b15 (False) (Q (.tuple #[]) w))
theorem E.strings_Builder_copyCheck (b_ : Addr) (w : World) (Q : Value → World → Prop) : ev Try.prog Try.f117.ntmps callable [] [] (Try.f117.body.getD .skip) (enumE 0 [(.pointer (some b_))]) w (KQ Try.prog Try.f117.results.toList Q) = W.strings_Builder_copyCheck b_ w Q := by kernel_rfl
theorem C.strings_Builder_copyCheck (b_ : Addr) (w : World) (Q : Value → World → Prop) (h : W.strings_Builder_copyCheck b_ w Q) : CallE Try.prog 117 #[(.pointer (some b_))] w Q :=
  calls_of_ev mixed callable_ok (args := [(.pointer (some b_))]) Try.func117 rfl ((E.strings_Builder_copyCheck b_ w Q).symm ▸ h)

def W.pagezip_Decompress (s_ : ByteArray) (w : World) (Q : Value → World → Prop) : Prop :=
  CallE Try.prog 123 #[(.string s_)] w fun v1 w2 => ∃ (t3 : ByteArray) (b4 : Bool), v1 = .tuple #[(.string t3), (.bool b4)] ∧
  br (!b4) (Q (.tuple #[(.string ⟨#[]⟩), (.int .i64 3)]) w2) (CallE Try.prog 71 #[(.string t3)] w2 fun v5 w6 => ∃ (t7 : ByteArray) (x8 : Int), v5 = .tuple #[(.string t7), (.int .i64 x8)] ∧
  br ((x8 : Int) != 0) (Q (.tuple #[(.string ⟨#[]⟩), (.int .i64 3)]) w6) (rq Try.prog (do eqGuard .neq 9 (.tmp 23) (.tmp 24) (.string t7) (.string s_); binOp .neq 9 (.string t7) (.string s_)) w6 fun v9 => fB v9 fun b10 =>
  br b10 (Q (.tuple #[(.string ⟨#[]⟩), (.int .i64 3)]) w6) (Q (.tuple #[(.string t3), (.int .i64 0)]) w6)))
theorem E.pagezip_Decompress (s_ : ByteArray) (w : World) (Q : Value → World → Prop) : ev Try.prog Try.f119.ntmps callable [] [] (Try.f119.body.getD .skip) (enumE 0 [(.string s_)]) w (KQ Try.prog Try.f119.results.toList Q) = W.pagezip_Decompress s_ w Q := by kernel_rfl
theorem C.pagezip_Decompress (s_ : ByteArray) (w : World) (Q : Value → World → Prop) (h : W.pagezip_Decompress s_ w Q) : CallE Try.prog 119 #[(.string s_)] w Q :=
  calls_of_ev mixed callable_ok (args := [(.string s_)]) Try.func119 rfl ((E.pagezip_Decompress s_ w Q).symm ▸ h)

def W.ref33_Decompress_k6 (p0 : ByteArray) (p4 : ByteArray) (p5 : Bool) (w : World) (Q : Value → World → Prop) : Prop :=
  br (!p5) (Q (.tuple #[(.string ⟨#[]⟩), (.int .i64 3)]) w) (CallE Try.prog 107 #[(.string p4)] w fun v1 w2 => ∃ (t3 : ByteArray) (x4 : Int), v1 = .tuple #[(.string t3), (.int .i64 x4)] ∧
  br ((x4 : Int) != 0) (Q (.tuple #[(.string ⟨#[]⟩), (.int .i64 3)]) w2) (rq Try.prog (do eqGuard .neq 9 (.tmp 41) (.tmp 42) (.string t3) (.string p0); binOp .neq 9 (.string t3) (.string p0)) w2 fun v5 => fB v5 fun b6 =>
  br b6 (Q (.tuple #[(.string ⟨#[]⟩), (.int .i64 3)]) w2) (Q (.tuple #[(.string p4), (.int .i64 0)]) w2)))
def W.ref33_Decompress_k5 (p0 : ByteArray) (p4 : ByteArray) (p5 : Bool) (p25 : Bool) (w : World) (Q : Value → World → Prop) : Prop :=
  br p25 (CallE Try.prog 124 #[(.string p0)] w fun v9 w10 => ∃ (t11 : ByteArray) (b12 : Bool), v9 = .tuple #[(.string t11), (.bool b12)] ∧
  W.ref33_Decompress_k6 p0 t11 b12 w10 Q) (W.ref33_Decompress_k6 p0 p4 p5 w Q)
def W.ref33_Decompress_k3 (p0 : ByteArray) (p4 : ByteArray) (p5 : Bool) (p15 : Bool) (w : World) (Q : Value → World → Prop) : Prop :=
  br p15 (rq Try.prog (Instr.sliceAt 9 (.string p0) (some (.int .i64 1)) none none) w fun v7 => fT v7 fun t8 =>
  W.ref33_Decompress_k6 p0 t8 true w Q) (br (decide ((((p0.size : Nat) : Int) : Int) > 0)) (rq Try.prog (Instr.index 9 (.string p0) (.int .i64 0)) w fun v13 => fI .u8 v13 fun x14 =>
  W.ref33_Decompress_k5 p0 p4 p5 ((x14 : Int) == 1) w Q) (W.ref33_Decompress_k5 p0 p4 p5 false w Q))
def W.ref33_Decompress (s_ : ByteArray) (w : World) (Q : Value → World → Prop) : Prop :=
  br ((((s_.size : Nat) : Int) : Int) == 257) (rq Try.prog (Instr.index 9 (.string s_) (.int .i64 0)) w fun v15 => fI .u8 v15 fun x16 =>
  W.ref33_Decompress_k3 s_ ⟨#[]⟩ false ((x16 : Int) == 0) w Q) (W.ref33_Decompress_k3 s_ ⟨#[]⟩ false false w Q)
theorem E.ref33_Decompress (s_ : ByteArray) (w : World) (Q : Value → World → Prop) : ev Try.prog Try.f120.ntmps callable [] [] (Try.f120.body.getD .skip) (enumE 0 [(.string s_)]) w (KQ Try.prog Try.f120.results.toList Q) = W.ref33_Decompress s_ w Q := by kernel_rfl
theorem C.ref33_Decompress (s_ : ByteArray) (w : World) (Q : Value → World → Prop) (h : W.ref33_Decompress s_ w Q) : CallE Try.prog 120 #[(.string s_)] w Q :=
  calls_of_ev mixed callable_ok (args := [(.string s_)]) Try.func120 rfl ((E.ref33_Decompress s_ w Q).symm ▸ h)

def W.pagezip_expand_k19 (p5 : ByteArray) (p7 : Addr) (w : World) (Q : Value → World → Prop) : Prop :=
  CallE Try.prog 99 #[(.pointer (some p7))] w fun v12 w13 => fT v12 fun t14 =>
  rq Try.prog (do eqGuard .eql 9 (.tmp 82) (.const (.string ⟨#[]⟩)) (.string p5) (.string ⟨#[]⟩); binOp .eql 9 (.string p5) (.string ⟨#[]⟩)) w13 fun v15 => fB v15 fun b16 =>
  Q (.tuple #[(.string t14), (.bool b16)]) w13
def W.pagezip_expand_k3 (p0 : ByteArray) (w : World) (Q : Value → World → Prop) : Prop :=
  br (decide ((((p0.size : Nat) : Int) : Int) < 17)) (Q (.tuple #[(.string ⟨#[]⟩), (.bool false)]) w) (br (decide ((((p0.size : Nat) : Int) : Int) > 256)) (Q (.tuple #[(.string ⟨#[]⟩), (.bool false)]) w) (rq Try.prog (Instr.index 9 (.string p0) (.int .i64 0)) w fun v1 => fI .u8 v1 fun x2 =>
  br ((x2 : Int) != 1) (Q (.tuple #[(.string ⟨#[]⟩), (.bool false)]) w) (dr w fun w3 =>
  rq Try.prog (Instr.sliceAt 9 (.string p0) (some (.int .i64 1)) (some (.int .i64 17)) none) w3 fun v4 => fT v4 fun t5 =>
  rq Try.prog (Instr.sliceAt 9 (.string p0) (some (.int .i64 17)) none none) w3 fun v6 => fT v6 fun t7 =>
  al 170 (zeroT Try.prog 170).cells w3 fun a9 w8 =>
  al 157 (zeroT Try.prog 157).cells w8 fun a11 w10 =>
  LoopW (S := ByteArray × Int × Unit) (fun s17 w18 next19 =>
  br (decide ((s17.2.1 : Int) < 64)) (rq Try.prog (Instr.index 9 (.string t5) (.int .i64 (IntKind.wrap .i64 (Int.tdiv s17.2.1 4)))) w18 fun v20 => fI .u8 v20 fun x21 =>
  rq Try.prog (do eqGuard .shr 5 (.tmp 46) (.tmp 49) (.int .u8 x21) (.int .i64 (IntKind.wrap .i64 (2 * (Int.tmod s17.2.1 4)))); binOp .shr 5 (.int .u8 x21) (.int .i64 (IntKind.wrap .i64 (2 * (Int.tmod s17.2.1 4))))) w18 fun v22 => fI .u8 v22 fun x23 =>
  CallE Try.prog 125 #[(.pointer (some a9)), (.int .i64 (band .i64 (IntKind.wrap .i64 x23) 3)), (.string s17.1)] w18 fun v24 w25 => ∃ (x26 : Int) (x27 : Int) (b28 : Bool), v24 = .tuple #[(.int .u32 x26), (.int .i64 x27), (.bool b28)] ∧
  br (!b28) (Q (.tuple #[(.string ⟨#[]⟩), (.bool false)]) w25) (rq Try.prog (Instr.sliceAt 9 (.string s17.1) (some (.int .i64 x27)) none none) w25 fun v29 => fT v29 fun t30 =>
  CallE Try.prog 106 #[(.pointer (some a9)), (.int .u32 x26)] w25 fun v31 w32 => v31 = .tuple #[] ∧
  al 5 #[(.int .u8 (IntKind.wrap .u8 x26)), (.int .u8 (IntKind.wrap .u8 (Int.fdiv x26 (2 ^ 8)))), (.int .u8 (IntKind.wrap .u8 (Int.fdiv x26 (2 ^ 16)))), (.int .u8 (IntKind.wrap .u8 (Int.fdiv x26 (2 ^ 24))))] w32 fun a34 w33 =>
  CallE Try.prog 126 #[(.pointer (some a11)), (.slice (some a34) 4 4)] w33 fun v35 w36 => ∃ (x37 : Int) (v38 : Value), v35 = .tuple #[(.int .i64 x37), v38] ∧
  next19 (t30, ((IntKind.wrap .i64 (s17.2.1 + 1)) : Int), ()) w36)) (W.pagezip_expand_k19 s17.1 a11 w18 Q)) (t7, (0 : Int), ()) w10)))
def W.pagezip_expand (s_ : ByteArray) (w : World) (Q : Value → World → Prop) : Prop :=
  br ((((s_.size : Nat) : Int) : Int) == 257) (rq Try.prog (Instr.index 9 (.string s_) (.int .i64 0)) w fun v39 => fI .u8 v39 fun x40 =>
  br ((x40 : Int) == 0) (rq Try.prog (Instr.sliceAt 9 (.string s_) (some (.int .i64 1)) none none) w fun v41 => fT v41 fun t42 =>
  Q (.tuple #[(.string t42), (.bool true)]) w) (W.pagezip_expand_k3 s_ w Q)) (W.pagezip_expand_k3 s_ w Q)
theorem E.pagezip_expand (s_ : ByteArray) (w : World) (Q : Value → World → Prop) : ev Try.prog Try.f123.ntmps callable [(9, [(5, .string ⟨#[]⟩), (40, .int .i64 0)], [4, 6, 7])] [] (Try.f123.body.getD .skip) (enumE 0 [(.string s_)]) w (KQ Try.prog Try.f123.results.toList Q) = W.pagezip_expand s_ w Q := by kernel_rfl
theorem C.pagezip_expand (s_ : ByteArray) (w : World) (Q : Value → World → Prop) (h : W.pagezip_expand s_ w Q) : CallE Try.prog 123 #[(.string s_)] w Q :=
  calls_of_ev mixed callable_ok (args := [(.string s_)]) Try.func123 rfl ((E.pagezip_expand s_ w Q).symm ▸ h)

def W.ref33_unpack_k25 (p5 : Option Addr) (p5n : Nat) (p5c : Nat) (w : World) (Q : Value → World → Prop) : Prop :=
  rv Try.prog (convert 82 9 (.slice p5 p5n p5c)) w fun v3 w4 => fT v3 fun t5 =>
  Q (.tuple #[(.string t5), (.bool true)]) w4
def W.ref33_unpack_k24 (p0 : ByteArray) (p4 : Addr) (p5 : Option Addr) (p5n : Nat) (p5c : Nat) (p6 : Int) (p7 : Int) (p10 : Int) (next8 : ((Option Addr × Nat × Nat) × Int × Int × Unit) → World → Prop) (w : World) (Q : Value → World → Prop) : Prop :=
  al 5 #[(.int .u8 (IntKind.wrap .u8 p10)), (.int .u8 (IntKind.wrap .u8 (Int.fdiv p10 (2 ^ 8)))), (.int .u8 (IntKind.wrap .u8 (Int.fdiv p10 (2 ^ 16)))), (.int .u8 (IntKind.wrap .u8 (Int.fdiv p10 (2 ^ 24))))] w fun a16 w15 =>
  rv Try.prog (Builtin.append_ #[82, 82] 82 #[(.slice p5 p5n p5c), (.slice (some a16) 4 4)]) w15 fun v17 w18 => fS v17 fun l19 l19n l19c =>
  next8 ((l19, l19n, l19c), (p6 : Int), ((IntKind.wrap .i64 (p7 + 1)) : Int), ()) w18
def W.ref33_unpack_k21 (p0 : ByteArray) (p4 : Addr) (p5 : Option Addr) (p5n : Nat) (p5c : Nat) (p6 : Int) (p7 : Int) (p9 : Int) (p10 : Int) (next8 : ((Option Addr × Nat × Nat) × Int × Int × Unit) → World → Prop) (w : World) (Q : Value → World → Prop) : Prop :=
  br ((p10 : Int) != 0) (rq Try.prog (Instr.indexAt 169 (.pointer (some p4)) (.int .u32 (Int.tmod (Int.fdiv p10 (2 ^ 16)) 16))) w fun v20 => fA v20 fun a21 =>
  st Try.prog 119 a21 (.int .u32 p10) w fun w22 =>
  W.ref33_unpack_k24 p0 p4 p5 p5n p5c (IntKind.wrap .i64 (p6 + p9)) p7 p10 next8 w22 Q) (W.ref33_unpack_k24 p0 p4 p5 p5n p5c (IntKind.wrap .i64 (p6 + p9)) p7 p10 next8 w Q)
def W.ref33_unpack_k13 (p0 : ByteArray) (p4 : Addr) (p5 : Option Addr) (p5n : Nat) (p5c : Nat) (p6 : Int) (p7 : Int) (p8 : Int) (p9 : Int) (next8 : ((Option Addr × Nat × Nat) × Int × Int × Unit) → World → Prop) (w : World) (Q : Value → World → Prop) : Prop :=
  br ((p8 : Int) == 1) (rq Try.prog (Instr.index 9 (.string p0) (.int .i64 p6)) w fun v23 => fI .u8 v23 fun x24 =>
  rq Try.prog (Instr.indexAt 169 (.pointer (some p4)) (.int .u8 x24)) w fun v25 => fA v25 fun a26 =>
  ld Try.prog 119 a26 w fun v27 => fI .u32 v27 fun x28 =>
  W.ref33_unpack_k21 p0 p4 p5 p5n p5c p6 p7 p9 x28 next8 w Q) (br ((p8 : Int) == 2) (dr w fun w29 =>
  rq Try.prog (Instr.index 9 (.string p0) (.int .i64 p6)) w29 fun v30 => fI .u8 v30 fun x31 =>
  rq Try.prog (Instr.indexAt 169 (.pointer (some p4)) (.int .u8 x31)) w29 fun v32 => fA v32 fun a33 =>
  ld Try.prog 119 a33 w29 fun v34 => fI .u32 v34 fun x35 =>
  rq Try.prog (Instr.index 9 (.string p0) (.int .i64 (IntKind.wrap .i64 (p6 + 1)))) w29 fun v36 => fI .u8 v36 fun x37 =>
  rq Try.prog (Instr.index 9 (.string p0) (.int .i64 (IntKind.wrap .i64 (p6 + 2)))) w29 fun v38 => fI .u8 v38 fun x39 =>
  W.ref33_unpack_k21 p0 p4 p5 p5n p5c p6 p7 p9 (IntKind.wrap .u32 ((IntKind.wrap .u32 ((IntKind.wrap .u32 ((Int.fdiv x35 (2 ^ 16)) * 2 ^ 16)) + (IntKind.wrap .u32 x37))) + (IntKind.wrap .u32 ((IntKind.wrap .u32 x39) * 2 ^ 8)))) next8 w29 Q) (br ((p8 : Int) == 3) (dr w fun w40 =>
  rq Try.prog (Instr.index 9 (.string p0) (.int .i64 p6)) w40 fun v41 => fI .u8 v41 fun x42 =>
  rq Try.prog (Instr.index 9 (.string p0) (.int .i64 (IntKind.wrap .i64 (p6 + 1)))) w40 fun v43 => fI .u8 v43 fun x44 =>
  rq Try.prog (Instr.index 9 (.string p0) (.int .i64 (IntKind.wrap .i64 (p6 + 2)))) w40 fun v45 => fI .u8 v45 fun x46 =>
  rq Try.prog (Instr.index 9 (.string p0) (.int .i64 (IntKind.wrap .i64 (p6 + 3)))) w40 fun v47 => fI .u8 v47 fun x48 =>
  W.ref33_unpack_k21 p0 p4 p5 p5n p5c p6 p7 p9 (IntKind.wrap .u32 ((IntKind.wrap .u32 ((IntKind.wrap .u32 ((IntKind.wrap .u32 x42) + (IntKind.wrap .u32 ((IntKind.wrap .u32 x44) * 2 ^ 8)))) + (IntKind.wrap .u32 ((IntKind.wrap .u32 x46) * 2 ^ 16)))) + (IntKind.wrap .u32 ((IntKind.wrap .u32 x48) * 2 ^ 24)))) next8 w40 Q) (W.ref33_unpack_k21 p0 p4 p5 p5n p5c p6 p7 p9 0 next8 w Q)))
def W.ref33_unpack (s_ : ByteArray) (w : World) (Q : Value → World → Prop) : Prop :=
  br (decide ((((s_.size : Nat) : Int) : Int) < 17)) (Q (.tuple #[(.string ⟨#[]⟩), (.bool false)]) w) (al 169 (zeroT Try.prog 169).cells w fun a2 w1 =>
  LoopW (S := (Option Addr × Nat × Nat) × Int × Int × Unit) (fun s6 w7 next8 =>
  br (decide ((s6.2.2.1 : Int) < 64)) (rq Try.prog (Instr.index 9 (.string s_) (.int .i64 (IntKind.wrap .i64 (1 + (IntKind.wrap .i64 (Int.tdiv s6.2.2.1 4)))))) w7 fun v9 => fI .u8 v9 fun x10 =>
  rq Try.prog (do eqGuard .shr 5 (.tmp 22) (.tmp 26) (.int .u8 x10) (.int .u64 (IntKind.wrap .u64 (IntKind.wrap .i64 (2 * (Int.tmod s6.2.2.1 4))))); binOp .shr 5 (.int .u8 x10) (.int .u64 (IntKind.wrap .u64 (IntKind.wrap .i64 (2 * (Int.tmod s6.2.2.1 4)))))) w7 fun v11 => fI .u8 v11 fun x12 =>
  rq Try.prog (Instr.index 191 (.agg #[(.int .i64 0), (.int .i64 1), (.int .i64 3), (.int .i64 4)]) (.int .u8 (band .u8 x12 3))) w7 fun v13 => fI .i64 v13 fun x14 =>
  br (decide (((IntKind.wrap .i64 (((s_.size : Nat) : Int) - s6.2.1)) : Int) < x14)) (Q (.tuple #[(.string ⟨#[]⟩), (.bool false)]) w7) (br (((band .u8 x12 3) : Int) == 1) (rq Try.prog (Instr.index 9 (.string s_) (.int .i64 s6.2.1)) w7 fun v49 => fI .u8 v49 fun x50 =>
  br (decide ((x50 : Int) > 15)) (Q (.tuple #[(.string ⟨#[]⟩), (.bool false)]) w7) (W.ref33_unpack_k13 s_ a2 s6.1.1 s6.1.2.1 s6.1.2.2 s6.2.1 s6.2.2.1 (band .u8 x12 3) x14 next8 w7 Q)) (br (((band .u8 x12 3) : Int) == 2) (rq Try.prog (Instr.index 9 (.string s_) (.int .i64 s6.2.1)) w7 fun v51 => fI .u8 v51 fun x52 =>
  br (decide ((x52 : Int) > 15)) (Q (.tuple #[(.string ⟨#[]⟩), (.bool false)]) w7) (W.ref33_unpack_k13 s_ a2 s6.1.1 s6.1.2.1 s6.1.2.2 s6.2.1 s6.2.2.1 (band .u8 x12 3) x14 next8 w7 Q)) (W.ref33_unpack_k13 s_ a2 s6.1.1 s6.1.2.1 s6.1.2.2 s6.2.1 s6.2.2.1 (band .u8 x12 3) x14 next8 w7 Q)))) (W.ref33_unpack_k25 s6.1.1 s6.1.2.1 s6.1.2.2 w7 Q)) ((none, 0, 0), (17 : Int), (0 : Int), ()) w1)
theorem E.ref33_unpack (s_ : ByteArray) (w : World) (Q : Value → World → Prop) : ev Try.prog Try.f124.ntmps callable [(7, [(5, .slice none 0 0), (6, .int .i64 0), (7, .int .i64 0)], [0, 4])] [] (Try.f124.body.getD .skip) (enumE 0 [(.string s_)]) w (KQ Try.prog Try.f124.results.toList Q) = W.ref33_unpack s_ w Q := by kernel_rfl
theorem C.ref33_unpack (s_ : ByteArray) (w : World) (Q : Value → World → Prop) (h : W.ref33_unpack s_ w Q) : CallE Try.prog 124 #[(.string s_)] w Q :=
  calls_of_ev mixed callable_ok (args := [(.string s_)]) Try.func124 rfl ((E.ref33_unpack s_ w Q).symm ▸ h)

def W.pagezip_dictionary_decode_k9 (p0 : Addr) (p1 : Int) (p2 : ByteArray) (p9 : Int) (w : World) (Q : Value → World → Prop) : Prop :=
  br (decide ((((p2.size : Nat) : Int) : Int) < p9)) (Q (.tuple #[(.int .u32 0), (.int .i64 0), (.bool false)]) w) (br ((p1 : Int) == 0) (Q (.tuple #[(.int .u32 0), (.int .i64 0), (.bool true)]) w) (br ((p1 : Int) == 3) (CallE Try.prog 103 #[(.string p2)] w fun v1 w2 => fI .u32 v1 fun x3 =>
  Q (.tuple #[(.int .u32 x3), (.int .i64 p9), (.bool true)]) w2) (rq Try.prog (Instr.index 9 (.string p2) (.int .i64 0)) w fun v4 => fI .u8 v4 fun x5 =>
  br (decide ((x5 : Int) ≥ 16)) (Q (.tuple #[(.int .u32 0), (.int .i64 0), (.bool false)]) w) (dr w fun w6 =>
  rq Try.prog (Instr.index 9 (.string p2) (.int .i64 0)) w6 fun v7 => fI .u8 v7 fun x8 =>
  rq Try.prog (Instr.indexAt 170 (.pointer (some p0)) (.int .u8 x8)) w6 fun v9 => fA v9 fun a10 =>
  ld Try.prog 119 a10 w6 fun v11 => fI .u32 v11 fun x12 =>
  br ((p1 : Int) == 2) (dr w6 fun w13 =>
  rq Try.prog (Instr.index 9 (.string p2) (.int .i64 1)) w13 fun v14 => fI .u8 v14 fun x15 =>
  rq Try.prog (Instr.index 9 (.string p2) (.int .i64 2)) w13 fun v16 => fI .u8 v16 fun x17 =>
  Q (.tuple #[(.int .u32 (bor .u32 (bor .u32 (band .u32 x12 4294901760) (IntKind.wrap .u32 x15)) (IntKind.wrap .u32 ((IntKind.wrap .u32 x17) * 2 ^ 8)))), (.int .i64 p9), (.bool true)]) w13) (Q (.tuple #[(.int .u32 x12), (.int .i64 p9), (.bool true)]) w6)))))
def W.pagezip_dictionary_decode (d_ : Addr) (tag_ : Int) (s_ : ByteArray) (w : World) (Q : Value → World → Prop) : Prop :=
  br ((tag_ : Int) == 1) (W.pagezip_dictionary_decode_k9 d_ tag_ s_ 1 w Q) (br ((tag_ : Int) == 2) (W.pagezip_dictionary_decode_k9 d_ tag_ s_ 3 w Q) (br ((tag_ : Int) == 3) (W.pagezip_dictionary_decode_k9 d_ tag_ s_ 4 w Q) (W.pagezip_dictionary_decode_k9 d_ tag_ s_ 0 w Q)))
theorem E.pagezip_dictionary_decode (d_ : Addr) (tag_ : Int) (s_ : ByteArray) (w : World) (Q : Value → World → Prop) : ev Try.prog Try.f125.ntmps callable [] [] (Try.f125.body.getD .skip) (enumE 0 [(.pointer (some d_)), (.int .i64 tag_), (.string s_)]) w (KQ Try.prog Try.f125.results.toList Q) = W.pagezip_dictionary_decode d_ tag_ s_ w Q := by kernel_rfl
theorem C.pagezip_dictionary_decode (d_ : Addr) (tag_ : Int) (s_ : ByteArray) (w : World) (Q : Value → World → Prop) (h : W.pagezip_dictionary_decode d_ tag_ s_ w Q) : CallE Try.prog 125 #[(.pointer (some d_)), (.int .i64 tag_), (.string s_)] w Q :=
  calls_of_ev mixed callable_ok (args := [(.pointer (some d_)), (.int .i64 tag_), (.string s_)]) Try.func125 rfl ((E.pagezip_dictionary_decode d_ tag_ s_ w Q).symm ▸ h)

def W.strings_Builder_Write (b_ : Addr) (p_ : Option Addr) (p_n : Nat) (p_c : Nat) (w : World) (Q : Value → World → Prop) : Prop :=
  CallE Try.prog 117 #[(.pointer (some b_))] w fun v1 w2 => v1 = .tuple #[] ∧
  ld Try.prog 82 (b_.add 1) w2 fun v3 => fS v3 fun l4 l4n l4c =>
  rv Try.prog (Builtin.append_ #[82, 82] 82 #[(.slice l4 l4n l4c), (.slice p_ p_n p_c)]) w2 fun v5 w6 => fS v5 fun l7 l7n l7c =>
  st Try.prog 82 (b_.add 1) (.slice l7 l7n l7c) w6 fun w8 =>
  Q (.tuple #[(.int .i64 ((p_n : Nat) : Int)), .nilIface]) w8
theorem E.strings_Builder_Write (b_ : Addr) (p_ : Option Addr) (p_n : Nat) (p_c : Nat) (w : World) (Q : Value → World → Prop) : ev Try.prog Try.f126.ntmps callable [] [] (Try.f126.body.getD .skip) (enumE 0 [(.pointer (some b_)), (.slice p_ p_n p_c)]) w (KQ Try.prog Try.f126.results.toList Q) = W.strings_Builder_Write b_ p_ p_n p_c w Q := by kernel_rfl
theorem C.strings_Builder_Write (b_ : Addr) (p_ : Option Addr) (p_n : Nat) (p_c : Nat) (w : World) (Q : Value → World → Prop) (h : W.strings_Builder_Write b_ p_ p_n p_c w Q) : CallE Try.prog 126 #[(.pointer (some b_)), (.slice p_ p_n p_c)] w Q :=
  calls_of_ev mixed callable_ok (args := [(.pointer (some b_)), (.slice p_ p_n p_c)]) Try.func126 rfl ((E.strings_Builder_Write b_ p_ p_n p_c w Q).symm ▸ h)
end Go.Proofs.Ytpinpccamfhofaa
