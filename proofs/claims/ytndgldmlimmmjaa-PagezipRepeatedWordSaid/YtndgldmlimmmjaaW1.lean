/- The conditions of the functions of this translation, written out by a program; each is an equation that the kernel checks. No condition. -/
import Derived.Test.YtndgldmlimmmjaaEng
import Derived.Test.YtndgldmlimmmjaaChecked
import Derived.Test.YtndgldmlimmmjaaW0
set_option maxRecDepth 100000
set_option linter.unusedVariables false
namespace Go.Proofs.Ytndgldmlimmmjaa
open Go Go.Ev Go.Proofs
def W.law33_PagezipCompressAgrees_k2 (p0 : ByteArray) (p1 : Option Addr) (p1n : Nat) (p1c : Nat) (p2 : Int) (p23 : Bool) (w : World) (Q : Value → World → Prop) : Prop :=
  br p23 (CallE Try.prog 10 #[] w fun v1 w2 => fB v1 fun b3 =>
  Q (.bool b3) w2) (CallE Try.prog 11 #[(.string p0)] w fun v4 w5 => ∃ (t6 : ByteArray) (x7 : Int), v4 = .tuple #[(.string t6), (.int .i64 x7)] ∧
  CallE Try.prog 12 #[(.string p0)] w5 fun v8 w9 => ∃ (t10 : ByteArray) (x11 : Int), v8 = .tuple #[(.string t10), (.int .i64 x11)] ∧
  CallE Try.prog 13 #[(.slice p1 p1n p1c), (.int .u8 p2)] w9 fun v12 w13 => fT v12 fun t14 =>
  CallE Try.prog 11 #[(.string t14)] w13 fun v15 w16 => ∃ (t17 : ByteArray) (x18 : Int), v15 = .tuple #[(.string t17), (.int .i64 x18)] ∧
  CallE Try.prog 12 #[(.string t14)] w16 fun v19 w20 => ∃ (t21 : ByteArray) (x22 : Int), v19 = .tuple #[(.string t21), (.int .i64 x22)] ∧
  rq Try.prog (do eqGuard .eql 9 (.tmp 48) (.tmp 49) (.string t6) (.string t10); binOp .eql 9 (.string t6) (.string t10)) w20 fun v23 => fB v23 fun b24 =>
  br b24 (br ((x7 : Int) == x11) (rq Try.prog (do eqGuard .eql 9 (.tmp 57) (.tmp 58) (.string t17) (.string t21); binOp .eql 9 (.string t17) (.string t21)) w20 fun v25 => fB v25 fun b26 =>
  br b26 (br ((x18 : Int) == x22) (CallE Try.prog 10 #[] w20 fun v27 w28 => fB v27 fun b29 =>
  Q (.bool b29) w28) (Q (.bool false) w20)) (Q (.bool false) w20)) (Q (.bool false) w20)) (Q (.bool false) w20))
def W.law33_PagezipCompressAgrees (s_ : ByteArray) (words_ : Option Addr) (words_n : Nat) (words_c : Nat) (stride_ : Int) (w : World) (Q : Value → World → Prop) : Prop :=
  br (decide ((((s_.size : Nat) : Int) : Int) > 600)) (W.law33_PagezipCompressAgrees_k2 s_ words_ words_n words_c stride_ true w Q) (W.law33_PagezipCompressAgrees_k2 s_ words_ words_n words_c stride_ (decide ((((words_n : Nat) : Int) : Int) > 64)) w Q)
theorem E.law33_PagezipCompressAgrees (s_ : ByteArray) (words_ : Option Addr) (words_n : Nat) (words_c : Nat) (stride_ : Int) (w : World) (Q : Value → World → Prop) : ev Try.prog Try.f3.ntmps callable [] [] (Try.f3.body.getD .skip) (enumE 0 [(.string s_), (.slice words_ words_n words_c), (.int .u8 stride_)]) w (KQ Try.prog Try.f3.results.toList Q) = W.law33_PagezipCompressAgrees s_ words_ words_n words_c stride_ w Q := by kernel_rfl
theorem C.law33_PagezipCompressAgrees (s_ : ByteArray) (words_ : Option Addr) (words_n : Nat) (words_c : Nat) (stride_ : Int) (w : World) (Q : Value → World → Prop) (h : W.law33_PagezipCompressAgrees s_ words_ words_n words_c stride_ w Q) : CallE Try.prog 3 #[(.string s_), (.slice words_ words_n words_c), (.int .u8 stride_)] w Q :=
  calls_of_ev mixed callable_ok (args := [(.string s_), (.slice words_ words_n words_c), (.int .u8 stride_)]) Try.func3 rfl ((E.law33_PagezipCompressAgrees s_ words_ words_n words_c stride_ w Q).symm ▸ h)

def W.law33_PagezipRoundTrip (words_ : Option Addr) (words_n : Nat) (words_c : Nat) (stride_ : Int) (w : World) (Q : Value → World → Prop) : Prop :=
  br (decide ((((words_n : Nat) : Int) : Int) > 64)) (CallE Try.prog 10 #[] w fun v1 w2 => fB v1 fun b3 =>
  Q (.bool b3) w2) (CallE Try.prog 13 #[(.slice words_ words_n words_c), (.int .u8 stride_)] w fun v4 w5 => fT v4 fun t6 =>
  CallE Try.prog 11 #[(.string t6)] w5 fun v7 w8 => ∃ (t9 : ByteArray) (x10 : Int), v7 = .tuple #[(.string t9), (.int .i64 x10)] ∧
  CallE Try.prog 14 #[(.string t9)] w8 fun v11 w12 => ∃ (t13 : ByteArray) (x14 : Int), v11 = .tuple #[(.string t13), (.int .i64 x14)] ∧
  br ((x10 : Int) == 0) (br ((x14 : Int) == 0) (rq Try.prog (do eqGuard .eql 9 (.tmp 34) (.tmp 35) (.string t13) (.string t6); binOp .eql 9 (.string t13) (.string t6)) w12 fun v15 => fB v15 fun b16 =>
  br b16 (br (decide ((((t9.size : Nat) : Int) : Int) ≥ 17)) (br (decide ((((t9.size : Nat) : Int) : Int) ≤ 257)) (CallE Try.prog 10 #[] w12 fun v17 w18 => fB v17 fun b19 =>
  Q (.bool b19) w18) (Q (.bool false) w12)) (Q (.bool false) w12)) (Q (.bool false) w12)) (Q (.bool false) w12)) (Q (.bool false) w12))
theorem E.law33_PagezipRoundTrip (words_ : Option Addr) (words_n : Nat) (words_c : Nat) (stride_ : Int) (w : World) (Q : Value → World → Prop) : ev Try.prog Try.f4.ntmps callable [] [] (Try.f4.body.getD .skip) (enumE 0 [(.slice words_ words_n words_c), (.int .u8 stride_)]) w (KQ Try.prog Try.f4.results.toList Q) = W.law33_PagezipRoundTrip words_ words_n words_c stride_ w Q := by kernel_rfl
theorem C.law33_PagezipRoundTrip (words_ : Option Addr) (words_n : Nat) (words_c : Nat) (stride_ : Int) (w : World) (Q : Value → World → Prop) (h : W.law33_PagezipRoundTrip words_ words_n words_c stride_ w Q) : CallE Try.prog 4 #[(.slice words_ words_n words_c), (.int .u8 stride_)] w Q :=
  calls_of_ev mixed callable_ok (args := [(.slice words_ words_n words_c), (.int .u8 stride_)]) Try.func4 rfl ((E.law33_PagezipRoundTrip words_ words_n words_c stride_ w Q).symm ▸ h)

def W.law33_PagezipDecompressAgrees_k14 (w : World) (Q : Value → World → Prop) : Prop :=
  CallE Try.prog 10 #[] w fun v19 w20 => fB v19 fun b21 =>
  Q (.bool b21) w20
def W.law33_PagezipDecompressAgrees_k2 (p0 : ByteArray) (p1 : Option Addr) (p1n : Nat) (p1c : Nat) (p2 : Int) (p3 : Int) (p4 : Int) (p28 : Bool) (w : World) (Q : Value → World → Prop) : Prop :=
  br p28 (CallE Try.prog 10 #[] w fun v1 w2 => fB v1 fun b3 =>
  Q (.bool b3) w2) (CallE Try.prog 13 #[(.slice p1 p1n p1c), (.int .u8 p2)] w fun v4 w5 => fT v4 fun t6 =>
  CallE Try.prog 12 #[(.string t6)] w5 fun v7 w8 => ∃ (t9 : ByteArray) (x10 : Int), v7 = .tuple #[(.string t9), (.int .i64 x10)] ∧
  CallE Try.prog 15 #[(.int .i64 p3), (.int .i64 ((t9.size : Nat) : Int))] w8 fun v11 w12 => fI .i64 v11 fun x13 =>
  al 5 #[(.int .u8 p4)] w12 fun a15 w14 =>
  rv Try.prog (convert 31 9 (.slice (some a15) 1 1)) w14 fun v16 w17 => fT v16 fun t18 =>
  drawE fun S22 => S22 (drew w17) ∧ (rqS Try.prog S22 (Instr.sliceAt 9 (.string t9) none (some (.int .i64 x13)) none) fun v23 => fT v23 fun t24 =>
  rqS Try.prog S22 (do eqGuard .add 9 (.tmp 48) (.tmp 49) (.string t24) (.string t18); binOp .add 9 (.string t24) (.string t18)) fun v25 => fT v25 fun t26 =>
  rqS Try.prog S22 (Instr.sliceAt 9 (.string t9) (some (.int .i64 (IntKind.wrap .i64 (x13 + 1)))) none none) fun v27 => fT v27 fun t28 =>
  rqS Try.prog S22 (do eqGuard .add 9 (.tmp 50) (.tmp 54) (.string t26) (.string t28); binOp .add 9 (.string t26) (.string t28)) fun v29 => fT v29 fun t30 =>
  rqS Try.prog S22 (Instr.sliceAt 9 (.string t9) none (some (.int .i64 x13)) none) fun v31 => fT v31 fun t32 =>
  rqS Try.prog S22 (do eqGuard .add 9 (.tmp 58) (.tmp 59) (.string t32) (.string t18); binOp .add 9 (.string t32) (.string t18)) fun v33 => fT v33 fun t34 =>
  rqS Try.prog S22 (Instr.sliceAt 9 (.string t9) (some (.int .i64 x13)) none none) fun v35 => fT v35 fun t36 =>
  rqS Try.prog S22 (do eqGuard .add 9 (.tmp 60) (.tmp 63) (.string t34) (.string t36); binOp .add 9 (.string t34) (.string t36)) fun v37 => fT v37 fun t38 =>
  rqS Try.prog S22 (Instr.sliceAt 9 (.string t9) none (some (.int .i64 x13)) none) fun v39 => fT v39 fun t40 =>
  rqS Try.prog S22 (Instr.sliceAt 9 (.string t9) (some (.int .i64 (IntKind.wrap .i64 (x13 + 1)))) none none) fun v41 => fT v41 fun t42 =>
  rqS Try.prog S22 (do eqGuard .add 9 (.tmp 67) (.tmp 71) (.string t40) (.string t42); binOp .add 9 (.string t40) (.string t42)) fun v43 => fT v43 fun t44 =>
  LoopW (S := Int × Unit) (fun s45 w46 next47 =>
  br (decide ((s45.1 : Int) < 5)) (rq Try.prog (Instr.index 32 (.agg #[(.string p0), (.string t9), (.string t30), (.string t38), (.string t44)]) (.int .i64 s45.1)) w46 fun v48 => fT v48 fun t49 =>
  CallE Try.prog 14 #[(.string t49)] w46 fun v50 w51 => ∃ (t52 : ByteArray) (x53 : Int), v50 = .tuple #[(.string t52), (.int .i64 x53)] ∧
  CallE Try.prog 16 #[(.string t49)] w51 fun v54 w55 => ∃ (t56 : ByteArray) (x57 : Int), v54 = .tuple #[(.string t56), (.int .i64 x57)] ∧
  rq Try.prog (do eqGuard .neq 9 (.tmp 87) (.tmp 88) (.string t52) (.string t56); binOp .neq 9 (.string t52) (.string t56)) w55 fun v58 => fB v58 fun b59 =>
  br b59 (Q (.bool false) w55) (br ((x53 : Int) != x57) (Q (.bool false) w55) (next47 (((IntKind.wrap .i64 (s45.1 + 1)) : Int), ()) w55))) (W.law33_PagezipDecompressAgrees_k14  w46 Q)) ((0 : Int), ()) (drew w17)))
def W.law33_PagezipDecompressAgrees (s_ : ByteArray) (words_ : Option Addr) (words_n : Nat) (words_c : Nat) (stride_ : Int) (at_ : Int) (c_ : Int) (w : World) (Q : Value → World → Prop) : Prop :=
  br (decide ((((s_.size : Nat) : Int) : Int) > 600)) (W.law33_PagezipDecompressAgrees_k2 s_ words_ words_n words_c stride_ at_ c_ true w Q) (W.law33_PagezipDecompressAgrees_k2 s_ words_ words_n words_c stride_ at_ c_ (decide ((((words_n : Nat) : Int) : Int) > 64)) w Q)
theorem E.law33_PagezipDecompressAgrees (s_ : ByteArray) (words_ : Option Addr) (words_n : Nat) (words_c : Nat) (stride_ : Int) (at_ : Int) (c_ : Int) (w : World) (Q : Value → World → Prop) : ev Try.prog Try.f5.ntmps callable [(7, [(74, .int .i64 0)], [73])] [] (Try.f5.body.getD .skip) (enumE 0 [(.string s_), (.slice words_ words_n words_c), (.int .u8 stride_), (.int .i64 at_), (.int .u8 c_)]) w (KQ Try.prog Try.f5.results.toList Q) = W.law33_PagezipDecompressAgrees s_ words_ words_n words_c stride_ at_ c_ w Q := by kernel_rfl
theorem C.law33_PagezipDecompressAgrees (s_ : ByteArray) (words_ : Option Addr) (words_n : Nat) (words_c : Nat) (stride_ : Int) (at_ : Int) (c_ : Int) (w : World) (Q : Value → World → Prop) (h : W.law33_PagezipDecompressAgrees s_ words_ words_n words_c stride_ at_ c_ w Q) : CallE Try.prog 5 #[(.string s_), (.slice words_ words_n words_c), (.int .u8 stride_), (.int .i64 at_), (.int .u8 c_)] w Q :=
  calls_of_ev mixed callable_ok (args := [(.string s_), (.slice words_ words_n words_c), (.int .u8 stride_), (.int .i64 at_), (.int .u8 c_)]) Try.func5 rfl ((E.law33_PagezipDecompressAgrees s_ words_ words_n words_c stride_ at_ c_ w Q).symm ▸ h)

def W.law33_PagezipCanonical_k18 (w : World) (Q : Value → World → Prop) : Prop :=
  CallE Try.prog 10 #[] w fun v14 w15 => fB v14 fun b16 =>
  Q (.bool b16) w15
def W.law33_PagezipCanonical_k2 (p0 : ByteArray) (p1 : Option Addr) (p1n : Nat) (p1c : Nat) (p2 : Int) (p3 : Int) (p4 : Int) (p27 : Bool) (w : World) (Q : Value → World → Prop) : Prop :=
  br p27 (CallE Try.prog 10 #[] w fun v1 w2 => fB v1 fun b3 =>
  Q (.bool b3) w2) (CallE Try.prog 13 #[(.slice p1 p1n p1c), (.int .u8 p2)] w fun v4 w5 => fT v4 fun t6 =>
  CallE Try.prog 11 #[(.string t6)] w5 fun v7 w8 => ∃ (t9 : ByteArray) (x10 : Int), v7 = .tuple #[(.string t9), (.int .i64 x10)] ∧
  br ((x10 : Int) != 0) (Q (.bool false) w8) (br ((((t9.size : Nat) : Int) : Int) == 0) (Q (.bool false) w8) (CallE Try.prog 15 #[(.int .i64 p3), (.int .i64 ((t9.size : Nat) : Int))] w8 fun v11 w12 => fI .i64 v11 fun x13 =>
  drawE fun S17 => S17 (drew w12) ∧ (rqS Try.prog S17 (Instr.sliceAt 9 (.string t9) none (some (.int .i64 x13)) none) fun v18 => fT v18 fun t19 =>
  rqS Try.prog S17 (Instr.sliceAt 9 (.string t9) (some (.int .i64 (IntKind.wrap .i64 (x13 + 1)))) none none) fun v20 => fT v20 fun t21 =>
  al 5 #[(.int .u8 p4)] (drew w12) fun a23 w22 =>
  S17 w22 ∧ (rv Try.prog (convert 31 9 (.slice (some a23) 1 1)) w22 fun v24 w25 => fT v24 fun t26 =>
  S17 w25 ∧ (rqS Try.prog S17 (do eqGuard .add 9 (.tmp 50) (.tmp 53) (.string t19) (.string t26); binOp .add 9 (.string t19) (.string t26)) fun v27 => fT v27 fun t28 =>
  rqS Try.prog S17 (do eqGuard .add 9 (.tmp 54) (.tmp 58) (.string t28) (.string t21); binOp .add 9 (.string t28) (.string t21)) fun v29 => fT v29 fun t30 =>
  LoopW (S := Int × Unit) (fun s31 w32 next33 =>
  br (decide ((s31.1 : Int) < 2)) (rq Try.prog (Instr.index 34 (.agg #[(.string p0), (.string t30)]) (.int .i64 s31.1)) w32 fun v34 => fT v34 fun t35 =>
  CallE Try.prog 14 #[(.string t35)] w32 fun v36 w37 => ∃ (t38 : ByteArray) (x39 : Int), v36 = .tuple #[(.string t38), (.int .i64 x39)] ∧
  br ((x39 : Int) != 0) (br ((x39 : Int) != 3) (Q (.bool false) w37) (rq Try.prog (do eqGuard .neq 9 (.tmp 74) (.const (.string ⟨#[]⟩)) (.string t38) (.string ⟨#[]⟩); binOp .neq 9 (.string t38) (.string ⟨#[]⟩)) w37 fun v40 => fB v40 fun b41 =>
  br b41 (Q (.bool false) w37) (next33 (((IntKind.wrap .i64 (s31.1 + 1)) : Int), ()) w37))) (CallE Try.prog 11 #[(.string t38)] w37 fun v42 w43 => ∃ (t44 : ByteArray) (x45 : Int), v42 = .tuple #[(.string t44), (.int .i64 x45)] ∧
  br ((x45 : Int) != 0) (Q (.bool false) w43) (rq Try.prog (do eqGuard .neq 9 (.tmp 85) (.tmp 86) (.string t44) (.string t35); binOp .neq 9 (.string t44) (.string t35)) w43 fun v46 => fB v46 fun b47 =>
  br b47 (Q (.bool false) w43) (next33 (((IntKind.wrap .i64 (s31.1 + 1)) : Int), ()) w43)))) (W.law33_PagezipCanonical_k18  w32 Q)) ((0 : Int), ()) w25))))))
def W.law33_PagezipCanonical (s_ : ByteArray) (words_ : Option Addr) (words_n : Nat) (words_c : Nat) (stride_ : Int) (at_ : Int) (c_ : Int) (w : World) (Q : Value → World → Prop) : Prop :=
  br (decide ((((s_.size : Nat) : Int) : Int) > 600)) (W.law33_PagezipCanonical_k2 s_ words_ words_n words_c stride_ at_ c_ true w Q) (W.law33_PagezipCanonical_k2 s_ words_ words_n words_c stride_ at_ c_ (decide ((((words_n : Nat) : Int) : Int) > 64)) w Q)
theorem E.law33_PagezipCanonical (s_ : ByteArray) (words_ : Option Addr) (words_n : Nat) (words_c : Nat) (stride_ : Int) (at_ : Int) (c_ : Int) (w : World) (Q : Value → World → Prop) : ev Try.prog Try.f6.ntmps callable [(8, [(61, .int .i64 0)], [60])] [] (Try.f6.body.getD .skip) (enumE 0 [(.string s_), (.slice words_ words_n words_c), (.int .u8 stride_), (.int .i64 at_), (.int .u8 c_)]) w (KQ Try.prog Try.f6.results.toList Q) = W.law33_PagezipCanonical s_ words_ words_n words_c stride_ at_ c_ w Q := by kernel_rfl
theorem C.law33_PagezipCanonical (s_ : ByteArray) (words_ : Option Addr) (words_n : Nat) (words_c : Nat) (stride_ : Int) (at_ : Int) (c_ : Int) (w : World) (Q : Value → World → Prop) (h : W.law33_PagezipCanonical s_ words_ words_n words_c stride_ at_ c_ w Q) : CallE Try.prog 6 #[(.string s_), (.slice words_ words_n words_c), (.int .u8 stride_), (.int .i64 at_), (.int .u8 c_)] w Q :=
  calls_of_ev mixed callable_ok (args := [(.string s_), (.slice words_ words_n words_c), (.int .u8 stride_), (.int .i64 at_), (.int .u8 c_)]) Try.func6 rfl ((E.law33_PagezipCanonical s_ words_ words_n words_c stride_ at_ c_ w Q).symm ▸ h)

def W.law33_PagezipRepeatedWord_k18 (p9 : ByteArray) (p10 : Int) (p11 : Int) (w : World) (Q : Value → World → Prop) : Prop :=
  br ((p10 : Int) == 0) (br ((((p9.size : Nat) : Int) : Int) == p11) (CallE Try.prog 10 #[] w fun v14 w15 => fB v14 fun b16 =>
  Q (.bool b16) w15) (Q (.bool false) w)) (Q (.bool false) w)
def W.law33_PagezipRepeatedWord_k12 (p0 : Int) (p5 : Int) (p6 : Option Addr) (p6n : Nat) (p6c : Nat) (w : World) (Q : Value → World → Prop) : Prop :=
  rv Try.prog (convert 31 9 (.slice p6 p6n p6c)) w fun v7 w8 => fT v7 fun t9 =>
  CallE Try.prog 11 #[(.string t9)] w8 fun v10 w11 => ∃ (t12 : ByteArray) (x13 : Int), v10 = .tuple #[(.string t12), (.int .i64 x13)] ∧
  br (decide ((p5 : Int) > 0)) (br (((Int.fdiv p0 (2 ^ 16)) : Int) == 0) (W.law33_PagezipRepeatedWord_k18 t12 x13 (IntKind.wrap .i64 ((IntKind.wrap .i64 ((IntKind.wrap .i64 ((IntKind.wrap .i64 (17 + 4)) + p5)) - 1)) - 1)) w11 Q) (W.law33_PagezipRepeatedWord_k18 t12 x13 (IntKind.wrap .i64 ((IntKind.wrap .i64 ((IntKind.wrap .i64 (17 + 4)) + p5)) - 1)) w11 Q)) (W.law33_PagezipRepeatedWord_k18 t12 x13 17 w11 Q)
def W.law33_PagezipRepeatedWord_k4 (p0 : Int) (p5 : Int) (w : World) (Q : Value → World → Prop) : Prop :=
  rv Try.prog (Instr.makeSlice 31 (.int .i64 256) (.int .i64 256)) w fun v4 w5 => fS v4 fun l6 l6n l6c =>
  LoopW (S := Int × Unit) (fun s17 w18 next19 =>
  br (decide ((s17.1 : Int) < p5)) (LoopW (S := Int × Unit) (fun s20 w21 next22 =>
  br (decide ((s20.1 : Int) < 4)) (rq Try.prog (do eqGuard .shr 35 (.tmp 33) (.tmp 36) (.int .u32 p0) (.int .u64 (IntKind.wrap .u64 (IntKind.wrap .i64 (8 * s20.1)))); binOp .shr 35 (.int .u32 p0) (.int .u64 (IntKind.wrap .u64 (IntKind.wrap .i64 (8 * s20.1))))) w21 fun v23 => fI .u32 v23 fun x24 =>
  rq Try.prog (Instr.indexAt 31 (.slice l6 l6n l6c) (.int .i64 (IntKind.wrap .i64 ((IntKind.wrap .i64 (4 * (Int.tmod (IntKind.wrap .i64 (5 * s17.1)) 64))) + s20.1)))) w21 fun v25 => fA v25 fun a26 =>
  st Try.prog 5 a26 (.int .u8 (IntKind.wrap .u8 x24)) w21 fun w27 =>
  next22 (((IntKind.wrap .i64 (s20.1 + 1)) : Int), ()) w27) (next19 (((IntKind.wrap .i64 (s17.1 + 1)) : Int), ()) w21)) ((0 : Int), ()) w18) (W.law33_PagezipRepeatedWord_k12 p0 p5 l6 l6n l6c w18 Q)) ((0 : Int), ()) w5
def W.law33_PagezipRepeatedWord (w_ : Int) (n_ : Int) (w : World) (Q : Value → World → Prop) : Prop :=
  CallE Try.prog 15 #[(.int .i64 n_), (.int .i64 65)] w fun v1 w2 => fI .i64 v1 fun x3 =>
  br ((w_ : Int) == 0) (W.law33_PagezipRepeatedWord_k4 1 x3 w2 Q) (W.law33_PagezipRepeatedWord_k4 w_ x3 w2 Q)
theorem E.law33_PagezipRepeatedWord (w_ : Int) (n_ : Int) (w : World) (Q : Value → World → Prop) : ev Try.prog Try.f7.ntmps callable [(6, [(7, .int .i64 0)], [0, 5, 6]), (9, [(8, .int .i64 0)], [0, 5, 6, 7])] [] (Try.f7.body.getD .skip) (enumE 0 [(.int .u32 w_), (.int .i64 n_)]) w (KQ Try.prog Try.f7.results.toList Q) = W.law33_PagezipRepeatedWord w_ n_ w Q := by kernel_rfl
theorem C.law33_PagezipRepeatedWord (w_ : Int) (n_ : Int) (w : World) (Q : Value → World → Prop) (h : W.law33_PagezipRepeatedWord w_ n_ w Q) : CallE Try.prog 7 #[(.int .u32 w_), (.int .i64 n_)] w Q :=
  calls_of_ev mixed callable_ok (args := [(.int .u32 w_), (.int .i64 n_)]) Try.func7 rfl ((E.law33_PagezipRepeatedWord w_ n_ w Q).symm ▸ h)

def W.law33_PagezipIncompressible_k10 (p5 : Option Addr) (p5n : Nat) (p5c : Nat) (w : World) (Q : Value → World → Prop) : Prop :=
  rv Try.prog (convert 31 9 (.slice p5 p5n p5c)) w fun v4 w5 => fT v4 fun t6 =>
  CallE Try.prog 11 #[(.string t6)] w5 fun v7 w8 => ∃ (t9 : ByteArray) (x10 : Int), v7 = .tuple #[(.string t9), (.int .i64 x10)] ∧
  br ((x10 : Int) == 0) (rv Try.prog (convert 31 9 (.slice p5 p5n p5c)) w8 fun v11 w12 => fT v11 fun t13 =>
  rq Try.prog (do eqGuard .add 9 (.const (.string ⟨#[0]⟩)) (.tmp 57) (.string ⟨#[0]⟩) (.string t13); binOp .add 9 (.string ⟨#[0]⟩) (.string t13)) w12 fun v14 => fT v14 fun t15 =>
  rq Try.prog (do eqGuard .eql 9 (.tmp 55) (.tmp 58) (.string t9) (.string t15); binOp .eql 9 (.string t9) (.string t15)) w12 fun v16 => fB v16 fun b17 =>
  br b17 (CallE Try.prog 10 #[] w12 fun v18 w19 => fB v18 fun b20 =>
  Q (.bool b20) w19) (Q (.bool false) w12)) (Q (.bool false) w8)
def W.law33_PagezipIncompressible (seed_ : Int) (low_ : Int) (w : World) (Q : Value → World → Prop) : Prop :=
  rv Try.prog (Instr.makeSlice 31 (.int .i64 256) (.int .i64 256)) w fun v1 w2 => fS v1 fun l3 l3n l3c =>
  LoopW (S := Int × Unit) (fun s21 w22 next23 =>
  br (decide ((s21.1 : Int) < 64)) (LoopW (S := Int × Unit) (fun s24 w25 next26 =>
  br (decide ((s24.1 : Int) < 4)) (rq Try.prog (do eqGuard .shr 35 (.tmp 39) (.tmp 42) (.int .u32 (IntKind.wrap .u32 ((IntKind.wrap .u32 ((IntKind.wrap .u32 ((IntKind.wrap .u32 (IntKind.wrap .u16 ((IntKind.wrap .u16 (IntKind.wrap .i64 (s21.1 + 1))) + (Int.tmod seed_ 60000)))) * 2 ^ 16)) + (IntKind.wrap .u32 low_))) + (IntKind.wrap .u32 s21.1)))) (.int .u64 (IntKind.wrap .u64 (IntKind.wrap .i64 (8 * s24.1)))); binOp .shr 35 (.int .u32 (IntKind.wrap .u32 ((IntKind.wrap .u32 ((IntKind.wrap .u32 ((IntKind.wrap .u32 (IntKind.wrap .u16 ((IntKind.wrap .u16 (IntKind.wrap .i64 (s21.1 + 1))) + (Int.tmod seed_ 60000)))) * 2 ^ 16)) + (IntKind.wrap .u32 low_))) + (IntKind.wrap .u32 s21.1)))) (.int .u64 (IntKind.wrap .u64 (IntKind.wrap .i64 (8 * s24.1))))) w25 fun v27 => fI .u32 v27 fun x28 =>
  rq Try.prog (Instr.indexAt 31 (.slice l3 l3n l3c) (.int .i64 (IntKind.wrap .i64 ((IntKind.wrap .i64 (4 * s21.1)) + s24.1)))) w25 fun v29 => fA v29 fun a30 =>
  st Try.prog 5 a30 (.int .u8 (IntKind.wrap .u8 x28)) w25 fun w31 =>
  next26 (((IntKind.wrap .i64 (s24.1 + 1)) : Int), ()) w31) (next23 (((IntKind.wrap .i64 (s21.1 + 1)) : Int), ()) w25)) ((0 : Int), ()) w22) (W.law33_PagezipIncompressible_k10 l3 l3n l3c w22 Q)) ((0 : Int), ()) w2
theorem E.law33_PagezipIncompressible (seed_ : Int) (low_ : Int) (w : World) (Q : Value → World → Prop) : ev Try.prog Try.f8.ntmps callable [(3, [(6, .int .i64 0)], [0, 1, 5]), (7, [(8, .int .i64 0)], [0, 1, 5, 6, 7])] [] (Try.f8.body.getD .skip) (enumE 0 [(.int .u16 seed_), (.int .u16 low_)]) w (KQ Try.prog Try.f8.results.toList Q) = W.law33_PagezipIncompressible seed_ low_ w Q := by kernel_rfl
theorem C.law33_PagezipIncompressible (seed_ : Int) (low_ : Int) (w : World) (Q : Value → World → Prop) (h : W.law33_PagezipIncompressible seed_ low_ w Q) : CallE Try.prog 8 #[(.int .u16 seed_), (.int .u16 low_)] w Q :=
  calls_of_ev mixed callable_ok (args := [(.int .u16 seed_), (.int .u16 low_)]) Try.func8 rfl ((E.law33_PagezipIncompressible seed_ low_ w Q).symm ▸ h)

def W.law33_PagezipZeroTail (words_ : Option Addr) (words_n : Nat) (words_c : Nat) (stride_ : Int) (at_ : Int) (w : World) (Q : Value → World → Prop) : Prop :=
  br (decide ((((words_n : Nat) : Int) : Int) > 64)) (CallE Try.prog 10 #[] w fun v1 w2 => fB v1 fun b3 =>
  Q (.bool b3) w2) (CallE Try.prog 13 #[(.slice words_ words_n words_c), (.int .u8 stride_)] w fun v4 w5 => fT v4 fun t6 =>
  CallE Try.prog 15 #[(.int .i64 at_), (.int .i64 65)] w5 fun v7 w8 => fI .i64 v7 fun x9 =>
  drawE fun S10 => S10 (drew w8) ∧ (rqS Try.prog S10 (Instr.sliceAt 9 (.string t6) none (some (.int .i64 (IntKind.wrap .i64 (4 * x9)))) none) fun v11 => fT v11 fun t12 =>
  rv Try.prog (Instr.makeSlice 31 (.int .i64 (IntKind.wrap .i64 (256 - (IntKind.wrap .i64 (4 * x9))))) (.int .i64 (IntKind.wrap .i64 (256 - (IntKind.wrap .i64 (4 * x9)))))) (drew w8) fun v13 w14 => fS v13 fun l15 l15n l15c =>
  S10 w14 ∧ (rv Try.prog (convert 31 9 (.slice l15 l15n l15c)) w14 fun v16 w17 => fT v16 fun t18 =>
  S10 w17 ∧ (rqS Try.prog S10 (do eqGuard .add 9 (.tmp 26) (.tmp 30) (.string t12) (.string t18); binOp .add 9 (.string t12) (.string t18)) fun v19 => fT v19 fun t20 =>
  CallE Try.prog 11 #[(.string t6)] w17 fun v21 w22 => ∃ (t23 : ByteArray) (x24 : Int), v21 = .tuple #[(.string t23), (.int .i64 x24)] ∧
  CallE Try.prog 11 #[(.string t20)] w22 fun v25 w26 => ∃ (t27 : ByteArray) (x28 : Int), v25 = .tuple #[(.string t27), (.int .i64 x28)] ∧
  br ((x24 : Int) == 0) (br ((x28 : Int) == 0) (br (decide ((((t27.size : Nat) : Int) : Int) ≤ ((t23.size : Nat) : Int))) (CallE Try.prog 10 #[] w26 fun v29 w30 => fB v29 fun b31 =>
  Q (.bool b31) w30) (Q (.bool false) w26)) (Q (.bool false) w26)) (Q (.bool false) w26)))))
theorem E.law33_PagezipZeroTail (words_ : Option Addr) (words_n : Nat) (words_c : Nat) (stride_ : Int) (at_ : Int) (w : World) (Q : Value → World → Prop) : ev Try.prog Try.f9.ntmps callable [] [] (Try.f9.body.getD .skip) (enumE 0 [(.slice words_ words_n words_c), (.int .u8 stride_), (.int .i64 at_)]) w (KQ Try.prog Try.f9.results.toList Q) = W.law33_PagezipZeroTail words_ words_n words_c stride_ at_ w Q := by kernel_rfl
theorem C.law33_PagezipZeroTail (words_ : Option Addr) (words_n : Nat) (words_c : Nat) (stride_ : Int) (at_ : Int) (w : World) (Q : Value → World → Prop) (h : W.law33_PagezipZeroTail words_ words_n words_c stride_ at_ w Q) : CallE Try.prog 9 #[(.slice words_ words_n words_c), (.int .u8 stride_), (.int .i64 at_)] w Q :=
  calls_of_ev mixed callable_ok (args := [(.slice words_ words_n words_c), (.int .u8 stride_), (.int .i64 at_)]) Try.func9 rfl ((E.law33_PagezipZeroTail words_ words_n words_c stride_ at_ w Q).symm ▸ h)

def W.law33_awake (w : World) (Q : Value → World → Prop) : Prop :=
  rv Try.prog (Instr.makeSlice 31 (.int .i64 256) (.int .i64 256)) w fun v1 w2 => fS v1 fun l3 l3n l3c =>
  rv Try.prog (convert 31 9 (.slice l3 l3n l3c)) w2 fun v4 w5 => fT v4 fun t6 =>
  CallE Try.prog 11 #[(.string t6)] w5 fun v7 w8 => ∃ (t9 : ByteArray) (x10 : Int), v7 = .tuple #[(.string t9), (.int .i64 x10)] ∧
  CallE Try.prog 14 #[(.string t9)] w8 fun v11 w12 => ∃ (t13 : ByteArray) (x14 : Int), v11 = .tuple #[(.string t13), (.int .i64 x14)] ∧
  CallE Try.prog 11 #[(.string ⟨#[120]⟩)] w12 fun v15 w16 => ∃ (t17 : ByteArray) (x18 : Int), v15 = .tuple #[(.string t17), (.int .i64 x18)] ∧
  CallE Try.prog 14 #[(.string ⟨#[]⟩)] w16 fun v19 w20 => ∃ (t21 : ByteArray) (x22 : Int), v19 = .tuple #[(.string t21), (.int .i64 x22)] ∧
  br ((x10 : Int) == 0) (br ((x14 : Int) == 0) (br ((x18 : Int) == 1) (br ((x22 : Int) == 3) (rv Try.prog (Instr.makeSlice 31 (.int .i64 16) (.int .i64 16)) w20 fun v23 w24 => fS v23 fun l25 l25n l25c =>
  rv Try.prog (convert 31 9 (.slice l25 l25n l25c)) w24 fun v26 w27 => fT v26 fun t28 =>
  rq Try.prog (do eqGuard .add 9 (.const (.string ⟨#[1]⟩)) (.tmp 47) (.string ⟨#[1]⟩) (.string t28); binOp .add 9 (.string ⟨#[1]⟩) (.string t28)) w27 fun v29 => fT v29 fun t30 =>
  rq Try.prog (do eqGuard .eql 9 (.tmp 45) (.tmp 48) (.string t9) (.string t30); binOp .eql 9 (.string t9) (.string t30)) w27 fun v31 => fB v31 fun b32 =>
  br b32 (rq Try.prog (do eqGuard .eql 9 (.tmp 52) (.tmp 53) (.string t13) (.string t6); binOp .eql 9 (.string t13) (.string t6)) w27 fun v33 => fB v33 fun b34 =>
  Q (.bool b34) w27) (Q (.bool false) w27)) (Q (.bool false) w20)) (Q (.bool false) w20)) (Q (.bool false) w20)) (Q (.bool false) w20)
theorem E.law33_awake (w : World) (Q : Value → World → Prop) : ev Try.prog Try.f10.ntmps callable [] [] (Try.f10.body.getD .skip) (enumE 0 []) w (KQ Try.prog Try.f10.results.toList Q) = W.law33_awake w Q := by kernel_rfl
theorem C.law33_awake (w : World) (Q : Value → World → Prop) (h : W.law33_awake w Q) : CallE Try.prog 10 #[] w Q :=
  calls_of_ev mixed callable_ok (args := []) Try.func10 rfl ((E.law33_awake w Q).symm ▸ h)

def W.pagezip_Compress_k21 (p0 : ByteArray) (p5 : Addr) (p6 : Option Addr) (p6n : Nat) (p6c : Nat) (w : World) (Q : Value → World → Prop) : Prop :=
  br (decide (((IntKind.wrap .i64 (17 + ((p6n : Nat) : Int))) : Int) > 256)) (al 5 #[(.int .u8 0)] w fun a6 w5 =>
  rv Try.prog (convert 31 9 (.slice (some a6) 1 1)) w5 fun v7 w8 => fT v7 fun t9 =>
  rq Try.prog (do eqGuard .add 9 (.tmp 81) (.tmp 82) (.string t9) (.string p0); binOp .add 9 (.string t9) (.string p0)) w8 fun v10 => fT v10 fun t11 =>
  Q (.tuple #[(.string t11), (.int .i64 0)]) w8) (drawE fun S12 => S12 (drew w) ∧ (rqS Try.prog S12 (Instr.sliceAt 43 (.pointer (some p5)) none none none) fun v13 => fS v13 fun l14 l14n l14c =>
  (al 5 #[(.int .u8 1)] (drew w) fun a16 w15 =>
  S12 w15 ∧ ((rv Try.prog (convert 31 9 (.slice (some a16) 1 1)) w15 fun v17 w18 => fT v17 fun t19 =>
  S12 w18 ∧ ((rv Try.prog (convert 31 9 (.slice l14 l14n l14c)) w18 fun v20 w21 => fT v20 fun t22 =>
  S12 w21 ∧ (rqS Try.prog S12 (do eqGuard .add 9 (.tmp 85) (.tmp 87) (.string t19) (.string t22); binOp .add 9 (.string t19) (.string t22)) fun v23 => fT v23 fun t24 =>
  rv Try.prog (convert 31 9 (.slice p6 p6n p6c)) w21 fun v25 w26 => fT v25 fun t27 =>
  S12 w26 ∧ (rqS Try.prog S12 (do eqGuard .add 9 (.tmp 88) (.tmp 90) (.string t24) (.string t27); binOp .add 9 (.string t24) (.string t27)) fun v28 => fT v28 fun t29 =>
  Q (.tuple #[(.string t29), (.int .i64 0)]) w26))) ∧ (rv Try.prog (convert 31 9 (.slice p6 p6n p6c)) w18 fun v30 w31 => fT v30 fun t32 =>
  S12 w31 ∧ (rv Try.prog (convert 31 9 (.slice l14 l14n l14c)) w31 fun v33 w34 => fT v33 fun t35 =>
  S12 w34 ∧ (rqS Try.prog S12 (do eqGuard .add 9 (.tmp 85) (.tmp 87) (.string t19) (.string t35); binOp .add 9 (.string t19) (.string t35)) fun v36 => fT v36 fun t37 =>
  rqS Try.prog S12 (do eqGuard .add 9 (.tmp 88) (.tmp 90) (.string t37) (.string t32); binOp .add 9 (.string t37) (.string t32)) fun v38 => fT v38 fun t39 =>
  Q (.tuple #[(.string t39), (.int .i64 0)]) w34))))) ∧ (rv Try.prog (convert 31 9 (.slice l14 l14n l14c)) w15 fun v40 w41 => fT v40 fun t42 =>
  S12 w41 ∧ ((rv Try.prog (convert 31 9 (.slice (some a16) 1 1)) w41 fun v43 w44 => fT v43 fun t45 =>
  S12 w44 ∧ (rqS Try.prog S12 (do eqGuard .add 9 (.tmp 85) (.tmp 87) (.string t45) (.string t42); binOp .add 9 (.string t45) (.string t42)) fun v46 => fT v46 fun t47 =>
  rv Try.prog (convert 31 9 (.slice p6 p6n p6c)) w44 fun v48 w49 => fT v48 fun t50 =>
  S12 w49 ∧ (rqS Try.prog S12 (do eqGuard .add 9 (.tmp 88) (.tmp 90) (.string t47) (.string t50); binOp .add 9 (.string t47) (.string t50)) fun v51 => fT v51 fun t52 =>
  Q (.tuple #[(.string t52), (.int .i64 0)]) w49))) ∧ (rv Try.prog (convert 31 9 (.slice p6 p6n p6c)) w41 fun v53 w54 => fT v53 fun t55 =>
  S12 w54 ∧ (rv Try.prog (convert 31 9 (.slice (some a16) 1 1)) w54 fun v56 w57 => fT v56 fun t58 =>
  S12 w57 ∧ (rqS Try.prog S12 (do eqGuard .add 9 (.tmp 85) (.tmp 87) (.string t58) (.string t42); binOp .add 9 (.string t58) (.string t42)) fun v59 => fT v59 fun t60 =>
  rqS Try.prog S12 (do eqGuard .add 9 (.tmp 88) (.tmp 90) (.string t60) (.string t55); binOp .add 9 (.string t60) (.string t55)) fun v61 => fT v61 fun t62 =>
  Q (.tuple #[(.string t62), (.int .i64 0)]) w57))))) ∧ (rv Try.prog (convert 31 9 (.slice p6 p6n p6c)) w15 fun v63 w64 => fT v63 fun t65 =>
  S12 w64 ∧ ((rv Try.prog (convert 31 9 (.slice (some a16) 1 1)) w64 fun v66 w67 => fT v66 fun t68 =>
  S12 w67 ∧ (rv Try.prog (convert 31 9 (.slice l14 l14n l14c)) w67 fun v69 w70 => fT v69 fun t71 =>
  S12 w70 ∧ (rqS Try.prog S12 (do eqGuard .add 9 (.tmp 85) (.tmp 87) (.string t68) (.string t71); binOp .add 9 (.string t68) (.string t71)) fun v72 => fT v72 fun t73 =>
  rqS Try.prog S12 (do eqGuard .add 9 (.tmp 88) (.tmp 90) (.string t73) (.string t65); binOp .add 9 (.string t73) (.string t65)) fun v74 => fT v74 fun t75 =>
  Q (.tuple #[(.string t75), (.int .i64 0)]) w70))) ∧ (rv Try.prog (convert 31 9 (.slice l14 l14n l14c)) w64 fun v76 w77 => fT v76 fun t78 =>
  S12 w77 ∧ (rv Try.prog (convert 31 9 (.slice (some a16) 1 1)) w77 fun v79 w80 => fT v79 fun t81 =>
  S12 w80 ∧ (rqS Try.prog S12 (do eqGuard .add 9 (.tmp 85) (.tmp 87) (.string t81) (.string t78); binOp .add 9 (.string t81) (.string t78)) fun v82 => fT v82 fun t83 =>
  rqS Try.prog S12 (do eqGuard .add 9 (.tmp 88) (.tmp 90) (.string t83) (.string t65); binOp .add 9 (.string t83) (.string t65)) fun v84 => fT v84 fun t85 =>
  Q (.tuple #[(.string t85), (.int .i64 0)]) w80))))))) ∧ (rv Try.prog (convert 31 9 (.slice l14 l14n l14c)) (drew w) fun v86 w87 => fT v86 fun t88 =>
  S12 w87 ∧ ((al 5 #[(.int .u8 1)] w87 fun a90 w89 =>
  S12 w89 ∧ ((rv Try.prog (convert 31 9 (.slice (some a90) 1 1)) w89 fun v91 w92 => fT v91 fun t93 =>
  S12 w92 ∧ (rqS Try.prog S12 (do eqGuard .add 9 (.tmp 85) (.tmp 87) (.string t93) (.string t88); binOp .add 9 (.string t93) (.string t88)) fun v94 => fT v94 fun t95 =>
  rv Try.prog (convert 31 9 (.slice p6 p6n p6c)) w92 fun v96 w97 => fT v96 fun t98 =>
  S12 w97 ∧ (rqS Try.prog S12 (do eqGuard .add 9 (.tmp 88) (.tmp 90) (.string t95) (.string t98); binOp .add 9 (.string t95) (.string t98)) fun v99 => fT v99 fun t100 =>
  Q (.tuple #[(.string t100), (.int .i64 0)]) w97))) ∧ (rv Try.prog (convert 31 9 (.slice p6 p6n p6c)) w89 fun v101 w102 => fT v101 fun t103 =>
  S12 w102 ∧ (rv Try.prog (convert 31 9 (.slice (some a90) 1 1)) w102 fun v104 w105 => fT v104 fun t106 =>
  S12 w105 ∧ (rqS Try.prog S12 (do eqGuard .add 9 (.tmp 85) (.tmp 87) (.string t106) (.string t88); binOp .add 9 (.string t106) (.string t88)) fun v107 => fT v107 fun t108 =>
  rqS Try.prog S12 (do eqGuard .add 9 (.tmp 88) (.tmp 90) (.string t108) (.string t103); binOp .add 9 (.string t108) (.string t103)) fun v109 => fT v109 fun t110 =>
  Q (.tuple #[(.string t110), (.int .i64 0)]) w105))))) ∧ (rv Try.prog (convert 31 9 (.slice p6 p6n p6c)) w87 fun v111 w112 => fT v111 fun t113 =>
  S12 w112 ∧ (al 5 #[(.int .u8 1)] w112 fun a115 w114 =>
  S12 w114 ∧ (rv Try.prog (convert 31 9 (.slice (some a115) 1 1)) w114 fun v116 w117 => fT v116 fun t118 =>
  S12 w117 ∧ (rqS Try.prog S12 (do eqGuard .add 9 (.tmp 85) (.tmp 87) (.string t118) (.string t88); binOp .add 9 (.string t118) (.string t88)) fun v119 => fT v119 fun t120 =>
  rqS Try.prog S12 (do eqGuard .add 9 (.tmp 88) (.tmp 90) (.string t120) (.string t113); binOp .add 9 (.string t120) (.string t113)) fun v121 => fT v121 fun t122 =>
  Q (.tuple #[(.string t122), (.int .i64 0)]) w117)))))) ∧ (rv Try.prog (convert 31 9 (.slice p6 p6n p6c)) (drew w) fun v123 w124 => fT v123 fun t125 =>
  S12 w124 ∧ ((al 5 #[(.int .u8 1)] w124 fun a127 w126 =>
  S12 w126 ∧ ((rv Try.prog (convert 31 9 (.slice (some a127) 1 1)) w126 fun v128 w129 => fT v128 fun t130 =>
  S12 w129 ∧ (rv Try.prog (convert 31 9 (.slice l14 l14n l14c)) w129 fun v131 w132 => fT v131 fun t133 =>
  S12 w132 ∧ (rqS Try.prog S12 (do eqGuard .add 9 (.tmp 85) (.tmp 87) (.string t130) (.string t133); binOp .add 9 (.string t130) (.string t133)) fun v134 => fT v134 fun t135 =>
  rqS Try.prog S12 (do eqGuard .add 9 (.tmp 88) (.tmp 90) (.string t135) (.string t125); binOp .add 9 (.string t135) (.string t125)) fun v136 => fT v136 fun t137 =>
  Q (.tuple #[(.string t137), (.int .i64 0)]) w132))) ∧ (rv Try.prog (convert 31 9 (.slice l14 l14n l14c)) w126 fun v138 w139 => fT v138 fun t140 =>
  S12 w139 ∧ (rv Try.prog (convert 31 9 (.slice (some a127) 1 1)) w139 fun v141 w142 => fT v141 fun t143 =>
  S12 w142 ∧ (rqS Try.prog S12 (do eqGuard .add 9 (.tmp 85) (.tmp 87) (.string t143) (.string t140); binOp .add 9 (.string t143) (.string t140)) fun v144 => fT v144 fun t145 =>
  rqS Try.prog S12 (do eqGuard .add 9 (.tmp 88) (.tmp 90) (.string t145) (.string t125); binOp .add 9 (.string t145) (.string t125)) fun v146 => fT v146 fun t147 =>
  Q (.tuple #[(.string t147), (.int .i64 0)]) w142))))) ∧ (rv Try.prog (convert 31 9 (.slice l14 l14n l14c)) w124 fun v148 w149 => fT v148 fun t150 =>
  S12 w149 ∧ (al 5 #[(.int .u8 1)] w149 fun a152 w151 =>
  S12 w151 ∧ (rv Try.prog (convert 31 9 (.slice (some a152) 1 1)) w151 fun v153 w154 => fT v153 fun t155 =>
  S12 w154 ∧ (rqS Try.prog S12 (do eqGuard .add 9 (.tmp 85) (.tmp 87) (.string t155) (.string t150); binOp .add 9 (.string t155) (.string t150)) fun v156 => fT v156 fun t157 =>
  rqS Try.prog S12 (do eqGuard .add 9 (.tmp 88) (.tmp 90) (.string t157) (.string t125); binOp .add 9 (.string t157) (.string t125)) fun v158 => fT v158 fun t159 =>
  Q (.tuple #[(.string t159), (.int .i64 0)]) w154))))))))
def W.pagezip_Compress_k19 (p0 : ByteArray) (p4 : Addr) (p5 : Addr) (p6 : Option Addr) (p6n : Nat) (p6c : Nat) (p8 : Int) (p13 : Int) (next162 : ((Option Addr × Nat × Nat) × Int × Unit) → World → Prop) (w : World) (Q : Value → World → Prop) : Prop :=
  CallE Try.prog 20 #[(.pointer (some p4)), (.int .u32 p8)] w fun v181 w182 => v181 = .tuple #[] ∧
  next162 ((p6, p6n, p6c), ((IntKind.wrap .i64 (p13 + 1)) : Int), ()) w182
def W.pagezip_Compress (page_ : ByteArray) (w : World) (Q : Value → World → Prop) : Prop :=
  br ((((page_.size : Nat) : Int) : Int) != 256) (Q (.tuple #[(.string ⟨#[]⟩), (.int .i64 1)]) w) (al 42 (zeroT Try.prog 42).cells w fun a2 w1 =>
  al 43 (zeroT Try.prog 43).cells w1 fun a4 w3 =>
  LoopW (S := (Option Addr × Nat × Nat) × Int × Unit) (fun s160 w161 next162 =>
  br (decide ((s160.2.1 : Int) < 64)) (rq Try.prog (Instr.sliceAt 9 (.string page_) (some (.int .i64 (IntKind.wrap .i64 (4 * s160.2.1)))) none none) w161 fun v163 => fT v163 fun t164 =>
  CallE Try.prog 17 #[(.string t164)] w161 fun v165 w166 => fI .u32 v165 fun x167 =>
  CallE Try.prog 18 #[(.pointer (some a2)), (.int .u32 x167)] w166 fun v168 w169 => fI .i64 v168 fun x170 =>
  dr w169 fun w171 =>
  rq Try.prog (Instr.indexAt 43 (.pointer (some a4)) (.int .i64 (IntKind.wrap .i64 (Int.tdiv s160.2.1 4)))) w171 fun v172 => fA v172 fun a173 =>
  ld Try.prog 5 a173 w171 fun v174 => fI .u8 v174 fun x175 =>
  rq Try.prog (do eqGuard .shl 3 (.tmp 27) (.tmp 30) (.int .i64 x170) (.int .i64 (IntKind.wrap .i64 (2 * (Int.tmod s160.2.1 4)))); binOp .shl 3 (.int .i64 x170) (.int .i64 (IntKind.wrap .i64 (2 * (Int.tmod s160.2.1 4))))) w171 fun v176 => fI .i64 v176 fun x177 =>
  rq Try.prog (Instr.indexAt 43 (.pointer (some a4)) (.int .i64 (IntKind.wrap .i64 (Int.tdiv s160.2.1 4)))) w171 fun v178 => fA v178 fun a179 =>
  st Try.prog 5 a179 (.int .u8 (bor .u8 x175 (IntKind.wrap .u8 x177))) w171 fun w180 =>
  br ((x170 : Int) == 1) (CallE Try.prog 19 #[(.int .u32 x167)] w180 fun v183 w184 => fI .i64 v183 fun x185 =>
  al 5 #[(.int .u8 (IntKind.wrap .u8 x185))] w184 fun a187 w186 =>
  rv Try.prog (Builtin.append_ #[31, 31] 31 #[(.slice s160.1.1 s160.1.2.1 s160.1.2.2), (.slice (some a187) 1 1)]) w186 fun v188 w189 => fS v188 fun l190 l190n l190c =>
  W.pagezip_Compress_k19 page_ a2 a4 l190 l190n l190c x167 s160.2.1 next162 w189 Q) (br ((x170 : Int) == 2) (CallE Try.prog 19 #[(.int .u32 x167)] w180 fun v191 w192 => fI .i64 v191 fun x193 =>
  al 5 #[(.int .u8 (IntKind.wrap .u8 x193)), (.int .u8 (IntKind.wrap .u8 x167)), (.int .u8 (IntKind.wrap .u8 (Int.fdiv x167 (2 ^ 8))))] w192 fun a195 w194 =>
  rv Try.prog (Builtin.append_ #[31, 31] 31 #[(.slice s160.1.1 s160.1.2.1 s160.1.2.2), (.slice (some a195) 3 3)]) w194 fun v196 w197 => fS v196 fun l198 l198n l198c =>
  W.pagezip_Compress_k19 page_ a2 a4 l198 l198n l198c x167 s160.2.1 next162 w197 Q) (br ((x170 : Int) == 3) (al 5 #[(.int .u8 (IntKind.wrap .u8 x167)), (.int .u8 (IntKind.wrap .u8 (Int.fdiv x167 (2 ^ 8)))), (.int .u8 (IntKind.wrap .u8 (Int.fdiv x167 (2 ^ 16)))), (.int .u8 (IntKind.wrap .u8 (Int.fdiv x167 (2 ^ 24))))] w180 fun a200 w199 =>
  rv Try.prog (Builtin.append_ #[31, 31] 31 #[(.slice s160.1.1 s160.1.2.1 s160.1.2.2), (.slice (some a200) 4 4)]) w199 fun v201 w202 => fS v201 fun l203 l203n l203c =>
  W.pagezip_Compress_k19 page_ a2 a4 l203 l203n l203c x167 s160.2.1 next162 w202 Q) (W.pagezip_Compress_k19 page_ a2 a4 s160.1.1 s160.1.2.1 s160.1.2.2 x167 s160.2.1 next162 w180 Q)))) (W.pagezip_Compress_k21 page_ a4 s160.1.1 s160.1.2.1 s160.1.2.2 w161 Q)) ((none, 0, 0), (0 : Int), ()) w3)
theorem E.pagezip_Compress (page_ : ByteArray) (w : World) (Q : Value → World → Prop) : ev Try.prog Try.f11.ntmps callable [(7, [(6, .slice none 0 0), (13, .int .i64 0)], [0, 4, 5])] [] (Try.f11.body.getD .skip) (enumE 0 [(.string page_)]) w (KQ Try.prog Try.f11.results.toList Q) = W.pagezip_Compress page_ w Q := by kernel_rfl
theorem C.pagezip_Compress (page_ : ByteArray) (w : World) (Q : Value → World → Prop) (h : W.pagezip_Compress page_ w Q) : CallE Try.prog 11 #[(.string page_)] w Q :=
  calls_of_ev mixed callable_ok (args := [(.string page_)]) Try.func11 rfl ((E.pagezip_Compress page_ w Q).symm ▸ h)

def W.ref33_Compress_k22 (p0 : ByteArray) (p5 : Option Addr) (p5n : Nat) (p5c : Nat) (p6 : Option Addr) (p6n : Nat) (p6c : Nat) (w : World) (Q : Value → World → Prop) : Prop :=
  br (decide (((IntKind.wrap .i64 (17 + ((p6n : Nat) : Int))) : Int) > 256)) (rq Try.prog (do eqGuard .add 9 (.const (.string ⟨#[0]⟩)) (.tmp 119) (.string ⟨#[0]⟩) (.string p0); binOp .add 9 (.string ⟨#[0]⟩) (.string p0)) w fun v6 => fT v6 fun t7 =>
  Q (.tuple #[(.string t7), (.int .i64 0)]) w) (rv Try.prog (convert 31 9 (.slice p5 p5n p5c)) w fun v8 w9 => fT v8 fun t10 =>
  rq Try.prog (do eqGuard .add 9 (.const (.string ⟨#[1]⟩)) (.tmp 122) (.string ⟨#[1]⟩) (.string t10); binOp .add 9 (.string ⟨#[1]⟩) (.string t10)) w9 fun v11 => fT v11 fun t12 =>
  rv Try.prog (convert 31 9 (.slice p6 p6n p6c)) w9 fun v13 w14 => fT v13 fun t15 =>
  rq Try.prog (do eqGuard .add 9 (.tmp 123) (.tmp 125) (.string t12) (.string t15); binOp .add 9 (.string t12) (.string t15)) w14 fun v16 => fT v16 fun t17 =>
  Q (.tuple #[(.string t17), (.int .i64 0)]) w14)
def W.ref33_Compress_k20 (p0 : ByteArray) (p4 : Addr) (p5 : Option Addr) (p5n : Nat) (p5c : Nat) (p6 : Option Addr) (p6n : Nat) (p6c : Nat) (p7 : Int) (p8 : Int) (p9 : Int) (p10 : Int) (next20 : ((Option Addr × Nat × Nat) × Int × Unit) → World → Prop) (w : World) (Q : Value → World → Prop) : Prop :=
  rq Try.prog (Instr.indexAt 31 (.slice p5 p5n p5c) (.int .i64 (IntKind.wrap .i64 (Int.tdiv p7 4)))) w fun v30 => fA v30 fun a31 =>
  ld Try.prog 5 a31 w fun v32 => fI .u8 v32 fun x33 =>
  rq Try.prog (do eqGuard .shl 5 (.tmp 104) (.tmp 108) (.int .u8 p10) (.int .u64 (IntKind.wrap .u64 (IntKind.wrap .i64 (2 * (Int.tmod p7 4))))); binOp .shl 5 (.int .u8 p10) (.int .u64 (IntKind.wrap .u64 (IntKind.wrap .i64 (2 * (Int.tmod p7 4)))))) w fun v34 => fI .u8 v34 fun x35 =>
  rq Try.prog (Instr.indexAt 31 (.slice p5 p5n p5c) (.int .i64 (IntKind.wrap .i64 (Int.tdiv p7 4)))) w fun v36 => fA v36 fun a37 =>
  st Try.prog 5 a37 (.int .u8 (IntKind.wrap .u8 (x33 + x35))) w fun w38 =>
  rq Try.prog (Instr.indexAt 41 (.pointer (some p4)) (.int .u32 p9)) w38 fun v39 => fA v39 fun a40 =>
  st Try.prog 35 a40 (.int .u32 p8) w38 fun w41 =>
  next20 ((p6, p6n, p6c), ((IntKind.wrap .i64 (p7 + 1)) : Int), ()) w41
def W.ref33_Compress (page_ : ByteArray) (w : World) (Q : Value → World → Prop) : Prop :=
  br ((((page_.size : Nat) : Int) : Int) != 256) (Q (.tuple #[(.string ⟨#[]⟩), (.int .i64 1)]) w) (al 41 (zeroT Try.prog 41).cells w fun a2 w1 =>
  rv Try.prog (Instr.makeSlice 31 (.int .i64 16) (.int .i64 16)) w1 fun v3 w4 => fS v3 fun l5 l5n l5c =>
  LoopW (S := (Option Addr × Nat × Nat) × Int × Unit) (fun s18 w19 next20 =>
  br (decide ((s18.2.1 : Int) < 64)) (dr w19 fun w21 =>
  rq Try.prog (Instr.index 9 (.string page_) (.int .i64 (IntKind.wrap .i64 (4 * s18.2.1)))) w21 fun v22 => fI .u8 v22 fun x23 =>
  rq Try.prog (Instr.index 9 (.string page_) (.int .i64 (IntKind.wrap .i64 ((IntKind.wrap .i64 (4 * s18.2.1)) + 1)))) w21 fun v24 => fI .u8 v24 fun x25 =>
  rq Try.prog (Instr.index 9 (.string page_) (.int .i64 (IntKind.wrap .i64 ((IntKind.wrap .i64 (4 * s18.2.1)) + 2)))) w21 fun v26 => fI .u8 v26 fun x27 =>
  rq Try.prog (Instr.index 9 (.string page_) (.int .i64 (IntKind.wrap .i64 ((IntKind.wrap .i64 (4 * s18.2.1)) + 3)))) w21 fun v28 => fI .u8 v28 fun x29 =>
  br (((IntKind.wrap .u32 ((IntKind.wrap .u32 ((IntKind.wrap .u32 ((IntKind.wrap .u32 x23) + (IntKind.wrap .u32 ((IntKind.wrap .u32 x25) * 2 ^ 8)))) + (IntKind.wrap .u32 ((IntKind.wrap .u32 x27) * 2 ^ 16)))) + (IntKind.wrap .u32 ((IntKind.wrap .u32 x29) * 2 ^ 24)))) : Int) == 0) (next20 ((s18.1.1, s18.1.2.1, s18.1.2.2), ((IntKind.wrap .i64 (s18.2.1 + 1)) : Int), ()) w21) (rq Try.prog (Instr.indexAt 41 (.pointer (some a2)) (.int .u32 (Int.tmod (Int.fdiv (IntKind.wrap .u32 ((IntKind.wrap .u32 ((IntKind.wrap .u32 ((IntKind.wrap .u32 x23) + (IntKind.wrap .u32 ((IntKind.wrap .u32 x25) * 2 ^ 8)))) + (IntKind.wrap .u32 ((IntKind.wrap .u32 x27) * 2 ^ 16)))) + (IntKind.wrap .u32 ((IntKind.wrap .u32 x29) * 2 ^ 24)))) (2 ^ 16)) 16))) w21 fun v42 => fA v42 fun a43 =>
  ld Try.prog 35 a43 w21 fun v44 => fI .u32 v44 fun x45 =>
  br ((x45 : Int) == (IntKind.wrap .u32 ((IntKind.wrap .u32 ((IntKind.wrap .u32 ((IntKind.wrap .u32 x23) + (IntKind.wrap .u32 ((IntKind.wrap .u32 x25) * 2 ^ 8)))) + (IntKind.wrap .u32 ((IntKind.wrap .u32 x27) * 2 ^ 16)))) + (IntKind.wrap .u32 ((IntKind.wrap .u32 x29) * 2 ^ 24))))) (al 5 #[(.int .u8 (IntKind.wrap .u8 (Int.tmod (Int.fdiv (IntKind.wrap .u32 ((IntKind.wrap .u32 ((IntKind.wrap .u32 ((IntKind.wrap .u32 x23) + (IntKind.wrap .u32 ((IntKind.wrap .u32 x25) * 2 ^ 8)))) + (IntKind.wrap .u32 ((IntKind.wrap .u32 x27) * 2 ^ 16)))) + (IntKind.wrap .u32 ((IntKind.wrap .u32 x29) * 2 ^ 24)))) (2 ^ 16)) 16)))] w21 fun a47 w46 =>
  rv Try.prog (Builtin.append_ #[31, 31] 31 #[(.slice s18.1.1 s18.1.2.1 s18.1.2.2), (.slice (some a47) 1 1)]) w46 fun v48 w49 => fS v48 fun l50 l50n l50c =>
  W.ref33_Compress_k20 page_ a2 l5 l5n l5c l50 l50n l50c s18.2.1 (IntKind.wrap .u32 ((IntKind.wrap .u32 ((IntKind.wrap .u32 ((IntKind.wrap .u32 x23) + (IntKind.wrap .u32 ((IntKind.wrap .u32 x25) * 2 ^ 8)))) + (IntKind.wrap .u32 ((IntKind.wrap .u32 x27) * 2 ^ 16)))) + (IntKind.wrap .u32 ((IntKind.wrap .u32 x29) * 2 ^ 24)))) (Int.tmod (Int.fdiv (IntKind.wrap .u32 ((IntKind.wrap .u32 ((IntKind.wrap .u32 ((IntKind.wrap .u32 x23) + (IntKind.wrap .u32 ((IntKind.wrap .u32 x25) * 2 ^ 8)))) + (IntKind.wrap .u32 ((IntKind.wrap .u32 x27) * 2 ^ 16)))) + (IntKind.wrap .u32 ((IntKind.wrap .u32 x29) * 2 ^ 24)))) (2 ^ 16)) 16) 1 next20 w49 Q) (rq Try.prog (Instr.indexAt 41 (.pointer (some a2)) (.int .u32 (Int.tmod (Int.fdiv (IntKind.wrap .u32 ((IntKind.wrap .u32 ((IntKind.wrap .u32 ((IntKind.wrap .u32 x23) + (IntKind.wrap .u32 ((IntKind.wrap .u32 x25) * 2 ^ 8)))) + (IntKind.wrap .u32 ((IntKind.wrap .u32 x27) * 2 ^ 16)))) + (IntKind.wrap .u32 ((IntKind.wrap .u32 x29) * 2 ^ 24)))) (2 ^ 16)) 16))) w21 fun v51 => fA v51 fun a52 =>
  ld Try.prog 35 a52 w21 fun v53 => fI .u32 v53 fun x54 =>
  br (((Int.fdiv x54 (2 ^ 16)) : Int) == (Int.fdiv (IntKind.wrap .u32 ((IntKind.wrap .u32 ((IntKind.wrap .u32 ((IntKind.wrap .u32 x23) + (IntKind.wrap .u32 ((IntKind.wrap .u32 x25) * 2 ^ 8)))) + (IntKind.wrap .u32 ((IntKind.wrap .u32 x27) * 2 ^ 16)))) + (IntKind.wrap .u32 ((IntKind.wrap .u32 x29) * 2 ^ 24)))) (2 ^ 16))) (al 5 #[(.int .u8 (IntKind.wrap .u8 (Int.tmod (Int.fdiv (IntKind.wrap .u32 ((IntKind.wrap .u32 ((IntKind.wrap .u32 ((IntKind.wrap .u32 x23) + (IntKind.wrap .u32 ((IntKind.wrap .u32 x25) * 2 ^ 8)))) + (IntKind.wrap .u32 ((IntKind.wrap .u32 x27) * 2 ^ 16)))) + (IntKind.wrap .u32 ((IntKind.wrap .u32 x29) * 2 ^ 24)))) (2 ^ 16)) 16))), (.int .u8 (IntKind.wrap .u8 (IntKind.wrap .u32 ((IntKind.wrap .u32 ((IntKind.wrap .u32 ((IntKind.wrap .u32 x23) + (IntKind.wrap .u32 ((IntKind.wrap .u32 x25) * 2 ^ 8)))) + (IntKind.wrap .u32 ((IntKind.wrap .u32 x27) * 2 ^ 16)))) + (IntKind.wrap .u32 ((IntKind.wrap .u32 x29) * 2 ^ 24)))))), (.int .u8 (IntKind.wrap .u8 (Int.fdiv (IntKind.wrap .u32 ((IntKind.wrap .u32 ((IntKind.wrap .u32 ((IntKind.wrap .u32 x23) + (IntKind.wrap .u32 ((IntKind.wrap .u32 x25) * 2 ^ 8)))) + (IntKind.wrap .u32 ((IntKind.wrap .u32 x27) * 2 ^ 16)))) + (IntKind.wrap .u32 ((IntKind.wrap .u32 x29) * 2 ^ 24)))) (2 ^ 8))))] w21 fun a56 w55 =>
  rv Try.prog (Builtin.append_ #[31, 31] 31 #[(.slice s18.1.1 s18.1.2.1 s18.1.2.2), (.slice (some a56) 3 3)]) w55 fun v57 w58 => fS v57 fun l59 l59n l59c =>
  W.ref33_Compress_k20 page_ a2 l5 l5n l5c l59 l59n l59c s18.2.1 (IntKind.wrap .u32 ((IntKind.wrap .u32 ((IntKind.wrap .u32 ((IntKind.wrap .u32 x23) + (IntKind.wrap .u32 ((IntKind.wrap .u32 x25) * 2 ^ 8)))) + (IntKind.wrap .u32 ((IntKind.wrap .u32 x27) * 2 ^ 16)))) + (IntKind.wrap .u32 ((IntKind.wrap .u32 x29) * 2 ^ 24)))) (Int.tmod (Int.fdiv (IntKind.wrap .u32 ((IntKind.wrap .u32 ((IntKind.wrap .u32 ((IntKind.wrap .u32 x23) + (IntKind.wrap .u32 ((IntKind.wrap .u32 x25) * 2 ^ 8)))) + (IntKind.wrap .u32 ((IntKind.wrap .u32 x27) * 2 ^ 16)))) + (IntKind.wrap .u32 ((IntKind.wrap .u32 x29) * 2 ^ 24)))) (2 ^ 16)) 16) 2 next20 w58 Q) (al 5 #[(.int .u8 (IntKind.wrap .u8 (IntKind.wrap .u32 ((IntKind.wrap .u32 ((IntKind.wrap .u32 ((IntKind.wrap .u32 x23) + (IntKind.wrap .u32 ((IntKind.wrap .u32 x25) * 2 ^ 8)))) + (IntKind.wrap .u32 ((IntKind.wrap .u32 x27) * 2 ^ 16)))) + (IntKind.wrap .u32 ((IntKind.wrap .u32 x29) * 2 ^ 24)))))), (.int .u8 (IntKind.wrap .u8 (Int.fdiv (IntKind.wrap .u32 ((IntKind.wrap .u32 ((IntKind.wrap .u32 ((IntKind.wrap .u32 x23) + (IntKind.wrap .u32 ((IntKind.wrap .u32 x25) * 2 ^ 8)))) + (IntKind.wrap .u32 ((IntKind.wrap .u32 x27) * 2 ^ 16)))) + (IntKind.wrap .u32 ((IntKind.wrap .u32 x29) * 2 ^ 24)))) (2 ^ 8)))), (.int .u8 (IntKind.wrap .u8 (Int.fdiv (IntKind.wrap .u32 ((IntKind.wrap .u32 ((IntKind.wrap .u32 ((IntKind.wrap .u32 x23) + (IntKind.wrap .u32 ((IntKind.wrap .u32 x25) * 2 ^ 8)))) + (IntKind.wrap .u32 ((IntKind.wrap .u32 x27) * 2 ^ 16)))) + (IntKind.wrap .u32 ((IntKind.wrap .u32 x29) * 2 ^ 24)))) (2 ^ 16)))), (.int .u8 (IntKind.wrap .u8 (Int.fdiv (IntKind.wrap .u32 ((IntKind.wrap .u32 ((IntKind.wrap .u32 ((IntKind.wrap .u32 x23) + (IntKind.wrap .u32 ((IntKind.wrap .u32 x25) * 2 ^ 8)))) + (IntKind.wrap .u32 ((IntKind.wrap .u32 x27) * 2 ^ 16)))) + (IntKind.wrap .u32 ((IntKind.wrap .u32 x29) * 2 ^ 24)))) (2 ^ 24))))] w21 fun a61 w60 =>
  rv Try.prog (Builtin.append_ #[31, 31] 31 #[(.slice s18.1.1 s18.1.2.1 s18.1.2.2), (.slice (some a61) 4 4)]) w60 fun v62 w63 => fS v62 fun l64 l64n l64c =>
  W.ref33_Compress_k20 page_ a2 l5 l5n l5c l64 l64n l64c s18.2.1 (IntKind.wrap .u32 ((IntKind.wrap .u32 ((IntKind.wrap .u32 ((IntKind.wrap .u32 x23) + (IntKind.wrap .u32 ((IntKind.wrap .u32 x25) * 2 ^ 8)))) + (IntKind.wrap .u32 ((IntKind.wrap .u32 x27) * 2 ^ 16)))) + (IntKind.wrap .u32 ((IntKind.wrap .u32 x29) * 2 ^ 24)))) (Int.tmod (Int.fdiv (IntKind.wrap .u32 ((IntKind.wrap .u32 ((IntKind.wrap .u32 ((IntKind.wrap .u32 x23) + (IntKind.wrap .u32 ((IntKind.wrap .u32 x25) * 2 ^ 8)))) + (IntKind.wrap .u32 ((IntKind.wrap .u32 x27) * 2 ^ 16)))) + (IntKind.wrap .u32 ((IntKind.wrap .u32 x29) * 2 ^ 24)))) (2 ^ 16)) 16) 3 next20 w63 Q)))) (W.ref33_Compress_k22 page_ l5 l5n l5c s18.1.1 s18.1.2.1 s18.1.2.2 w19 Q)) ((none, 0, 0), (0 : Int), ()) w4)
theorem E.ref33_Compress (page_ : ByteArray) (w : World) (Q : Value → World → Prop) : ev Try.prog Try.f12.ntmps callable [(7, [(6, .slice none 0 0), (7, .int .i64 0)], [0, 4, 5])] [] (Try.f12.body.getD .skip) (enumE 0 [(.string page_)]) w (KQ Try.prog Try.f12.results.toList Q) = W.ref33_Compress page_ w Q := by kernel_rfl
theorem C.ref33_Compress (page_ : ByteArray) (w : World) (Q : Value → World → Prop) (h : W.ref33_Compress page_ w Q) : CallE Try.prog 12 #[(.string page_)] w Q :=
  calls_of_ev mixed callable_ok (args := [(.string page_)]) Try.func12 rfl ((E.ref33_Compress page_ w Q).symm ▸ h)

def W.law33_Page_k22 (p5 : Option Addr) (p5n : Nat) (p5c : Nat) (w : World) (Q : Value → World → Prop) : Prop :=
  rv Try.prog (convert 31 9 (.slice p5 p5n p5c)) w fun v4 w5 => fT v4 fun t6 =>
  Q (.string t6) w5
def W.law33_Page_k18 (p0 : Option Addr) (p0n : Nat) (p0c : Nat) (p1 : Int) (p5 : Option Addr) (p5n : Nat) (p5c : Nat) (p6 : Int) (p8 : Int) (next9 : (Int × Unit) → World → Prop) (w : World) (Q : Value → World → Prop) : Prop :=
  LoopW (S := Int × Unit) (fun s10 w11 next12 =>
  br (decide ((s10.1 : Int) < 4)) (rq Try.prog (do eqGuard .shr 35 (.tmp 63) (.tmp 66) (.int .u32 p8) (.int .u64 (IntKind.wrap .u64 (IntKind.wrap .i64 (8 * s10.1)))); binOp .shr 35 (.int .u32 p8) (.int .u64 (IntKind.wrap .u64 (IntKind.wrap .i64 (8 * s10.1))))) w11 fun v13 => fI .u32 v13 fun x14 =>
  rq Try.prog (Instr.indexAt 31 (.slice p5 p5n p5c) (.int .i64 (IntKind.wrap .i64 ((IntKind.wrap .i64 (4 * p6)) + s10.1)))) w11 fun v15 => fA v15 fun a16 =>
  st Try.prog 5 a16 (.int .u8 (IntKind.wrap .u8 x14)) w11 fun w17 =>
  next12 (((IntKind.wrap .i64 (s10.1 + 1)) : Int), ()) w17) (next9 (((IntKind.wrap .i64 (p6 + 1)) : Int), ()) w11)) ((0 : Int), ()) w
def W.law33_Page_k11 (p0 : Option Addr) (p0n : Nat) (p0c : Nat) (p1 : Int) (p5 : Option Addr) (p5n : Nat) (p5c : Nat) (p6 : Int) (p8 : Int) (next9 : (Int × Unit) → World → Prop) (w : World) (Q : Value → World → Prop) : Prop :=
  br (((Int.tmod (IntKind.wrap .i64 ((IntKind.wrap .i64 p1) + p6)) 7) : Int) == 0) (W.law33_Page_k18 p0 p0n p0c p1 p5 p5n p5c p6 0 next9 w Q) (br (((Int.tmod (IntKind.wrap .i64 ((IntKind.wrap .i64 p1) + p6)) 7) : Int) == 1) (W.law33_Page_k18 p0 p0n p0c p1 p5 p5n p5c p6 (IntKind.wrap .u32 (p8 + (IntKind.wrap .u32 p6))) next9 w Q) (br (((Int.tmod (IntKind.wrap .i64 ((IntKind.wrap .i64 p1) + p6)) 7) : Int) == 2) (W.law33_Page_k18 p0 p0n p0c p1 p5 p5n p5c p6 (band .u32 p8 4294901775) next9 w Q) (W.law33_Page_k18 p0 p0n p0c p1 p5 p5n p5c p6 p8 next9 w Q)))
def W.law33_Page_k8 (p0 : Option Addr) (p0n : Nat) (p0c : Nat) (p1 : Int) (p5 : Option Addr) (p5n : Nat) (p5c : Nat) (p6 : Int) (p7 : Int) (next9 : (Int × Unit) → World → Prop) (w : World) (Q : Value → World → Prop) : Prop :=
  br (decide ((p7 : Int) < ((p0n : Nat) : Int))) (rq Try.prog (Instr.indexAt 22 (.slice p0 p0n p0c) (.int .i64 p7)) w fun v18 => fA v18 fun a19 =>
  ld Try.prog 35 a19 w fun v20 => fI .u32 v20 fun x21 =>
  W.law33_Page_k11 p0 p0n p0c p1 p5 p5n p5c p6 x21 next9 w Q) (W.law33_Page_k11 p0 p0n p0c p1 p5 p5n p5c p6 0 next9 w Q)
def W.law33_Page (words_ : Option Addr) (words_n : Nat) (words_c : Nat) (stride_ : Int) (w : World) (Q : Value → World → Prop) : Prop :=
  rv Try.prog (Instr.makeSlice 31 (.int .i64 256) (.int .i64 256)) w fun v1 w2 => fS v1 fun l3 l3n l3c =>
  LoopW (S := Int × Unit) (fun s7 w8 next9 =>
  br (decide ((s7.1 : Int) < 64)) (br (decide ((((words_n : Nat) : Int) : Int) > 0)) (br (decide (((Int.tmod stride_ 4) : Int) > 0)) (rq Try.prog (do eqGuard .rem 3 (.tmp 24) (.tmp 27) (.int .i64 s7.1) (.int .i64 (IntKind.wrap .i64 (1 + (IntKind.wrap .i64 stride_)))); binOp .rem 3 (.int .i64 s7.1) (.int .i64 (IntKind.wrap .i64 (1 + (IntKind.wrap .i64 stride_))))) w8 fun v22 => fI .i64 v22 fun x23 =>
  W.law33_Page_k8 words_ words_n words_c stride_ l3 l3n l3c s7.1 x23 next9 w8 Q) (W.law33_Page_k8 words_ words_n words_c stride_ l3 l3n l3c s7.1 s7.1 next9 w8 Q)) (W.law33_Page_k22 l3 l3n l3c w8 Q)) (W.law33_Page_k22 l3 l3n l3c w8 Q)) ((0 : Int), ()) w2
theorem E.law33_Page (words_ : Option Addr) (words_n : Nat) (words_c : Nat) (stride_ : Int) (w : World) (Q : Value → World → Prop) : ev Try.prog Try.f13.ntmps callable [(3, [(6, .int .i64 0)], [0, 1, 5]), (19, [(9, .int .i64 0)], [0, 1, 5, 6, 8])] [] (Try.f13.body.getD .skip) (enumE 0 [(.slice words_ words_n words_c), (.int .u8 stride_)]) w (KQ Try.prog Try.f13.results.toList Q) = W.law33_Page words_ words_n words_c stride_ w Q := by kernel_rfl
theorem C.law33_Page (words_ : Option Addr) (words_n : Nat) (words_c : Nat) (stride_ : Int) (w : World) (Q : Value → World → Prop) (h : W.law33_Page words_ words_n words_c stride_ w Q) : CallE Try.prog 13 #[(.slice words_ words_n words_c), (.int .u8 stride_)] w Q :=
  calls_of_ev mixed callable_ok (args := [(.slice words_ words_n words_c), (.int .u8 stride_)]) Try.func13 rfl ((E.law33_Page words_ words_n words_c stride_ w Q).symm ▸ h)

def W.pagezip_Decompress (s_ : ByteArray) (w : World) (Q : Value → World → Prop) : Prop :=
  CallE Try.prog 21 #[(.string s_)] w fun v1 w2 => ∃ (t3 : ByteArray) (b4 : Bool), v1 = .tuple #[(.string t3), (.bool b4)] ∧
  br (!b4) (Q (.tuple #[(.string ⟨#[]⟩), (.int .i64 3)]) w2) (CallE Try.prog 11 #[(.string t3)] w2 fun v5 w6 => ∃ (t7 : ByteArray) (x8 : Int), v5 = .tuple #[(.string t7), (.int .i64 x8)] ∧
  br ((x8 : Int) != 0) (Q (.tuple #[(.string ⟨#[]⟩), (.int .i64 3)]) w6) (rq Try.prog (do eqGuard .neq 9 (.tmp 23) (.tmp 24) (.string t7) (.string s_); binOp .neq 9 (.string t7) (.string s_)) w6 fun v9 => fB v9 fun b10 =>
  br b10 (Q (.tuple #[(.string ⟨#[]⟩), (.int .i64 3)]) w6) (Q (.tuple #[(.string t3), (.int .i64 0)]) w6)))
theorem E.pagezip_Decompress (s_ : ByteArray) (w : World) (Q : Value → World → Prop) : ev Try.prog Try.f14.ntmps callable [] [] (Try.f14.body.getD .skip) (enumE 0 [(.string s_)]) w (KQ Try.prog Try.f14.results.toList Q) = W.pagezip_Decompress s_ w Q := by kernel_rfl
theorem C.pagezip_Decompress (s_ : ByteArray) (w : World) (Q : Value → World → Prop) (h : W.pagezip_Decompress s_ w Q) : CallE Try.prog 14 #[(.string s_)] w Q :=
  calls_of_ev mixed callable_ok (args := [(.string s_)]) Try.func14 rfl ((E.pagezip_Decompress s_ w Q).symm ▸ h)

def W.help_Mod (v_ : Int) (n_ : Int) (w : World) (Q : Value → World → Prop) : Prop :=
  rq Try.prog (do eqGuard .rem 36 (.tmp 6) (.tmp 8) (.int .u64 (IntKind.wrap .u64 v_)) (.int .u64 (IntKind.wrap .u64 n_)); binOp .rem 36 (.int .u64 (IntKind.wrap .u64 v_)) (.int .u64 (IntKind.wrap .u64 n_))) w fun v1 => fI .u64 v1 fun x2 =>
  Q (.int .i64 (IntKind.wrap .i64 x2)) w
theorem E.help_Mod (v_ : Int) (n_ : Int) (w : World) (Q : Value → World → Prop) : ev Try.prog Try.f15.ntmps callable [] [] (Try.f15.body.getD .skip) (enumE 0 [(.int .i64 v_), (.int .i64 n_)]) w (KQ Try.prog Try.f15.results.toList Q) = W.help_Mod v_ n_ w Q := by kernel_rfl
theorem C.help_Mod (v_ : Int) (n_ : Int) (w : World) (Q : Value → World → Prop) (h : W.help_Mod v_ n_ w Q) : CallE Try.prog 15 #[(.int .i64 v_), (.int .i64 n_)] w Q :=
  calls_of_ev mixed callable_ok (args := [(.int .i64 v_), (.int .i64 n_)]) Try.func15 rfl ((E.help_Mod v_ n_ w Q).symm ▸ h)

def W.ref33_Decompress_k6 (p0 : ByteArray) (p4 : ByteArray) (p5 : Bool) (w : World) (Q : Value → World → Prop) : Prop :=
  br (!p5) (Q (.tuple #[(.string ⟨#[]⟩), (.int .i64 3)]) w) (CallE Try.prog 12 #[(.string p4)] w fun v1 w2 => ∃ (t3 : ByteArray) (x4 : Int), v1 = .tuple #[(.string t3), (.int .i64 x4)] ∧
  br ((x4 : Int) != 0) (Q (.tuple #[(.string ⟨#[]⟩), (.int .i64 3)]) w2) (rq Try.prog (do eqGuard .neq 9 (.tmp 41) (.tmp 42) (.string t3) (.string p0); binOp .neq 9 (.string t3) (.string p0)) w2 fun v5 => fB v5 fun b6 =>
  br b6 (Q (.tuple #[(.string ⟨#[]⟩), (.int .i64 3)]) w2) (Q (.tuple #[(.string p4), (.int .i64 0)]) w2)))
def W.ref33_Decompress_k5 (p0 : ByteArray) (p4 : ByteArray) (p5 : Bool) (p25 : Bool) (w : World) (Q : Value → World → Prop) : Prop :=
  br p25 (CallE Try.prog 22 #[(.string p0)] w fun v9 w10 => ∃ (t11 : ByteArray) (b12 : Bool), v9 = .tuple #[(.string t11), (.bool b12)] ∧
  W.ref33_Decompress_k6 p0 t11 b12 w10 Q) (W.ref33_Decompress_k6 p0 p4 p5 w Q)
def W.ref33_Decompress_k3 (p0 : ByteArray) (p4 : ByteArray) (p5 : Bool) (p15 : Bool) (w : World) (Q : Value → World → Prop) : Prop :=
  br p15 (rq Try.prog (Instr.sliceAt 9 (.string p0) (some (.int .i64 1)) none none) w fun v7 => fT v7 fun t8 =>
  W.ref33_Decompress_k6 p0 t8 true w Q) (br (decide ((((p0.size : Nat) : Int) : Int) > 0)) (rq Try.prog (Instr.index 9 (.string p0) (.int .i64 0)) w fun v13 => fI .u8 v13 fun x14 =>
  W.ref33_Decompress_k5 p0 p4 p5 ((x14 : Int) == 1) w Q) (W.ref33_Decompress_k5 p0 p4 p5 false w Q))
def W.ref33_Decompress (s_ : ByteArray) (w : World) (Q : Value → World → Prop) : Prop :=
  br ((((s_.size : Nat) : Int) : Int) == 257) (rq Try.prog (Instr.index 9 (.string s_) (.int .i64 0)) w fun v15 => fI .u8 v15 fun x16 =>
  W.ref33_Decompress_k3 s_ ⟨#[]⟩ false ((x16 : Int) == 0) w Q) (W.ref33_Decompress_k3 s_ ⟨#[]⟩ false false w Q)
theorem E.ref33_Decompress (s_ : ByteArray) (w : World) (Q : Value → World → Prop) : ev Try.prog Try.f16.ntmps callable [] [] (Try.f16.body.getD .skip) (enumE 0 [(.string s_)]) w (KQ Try.prog Try.f16.results.toList Q) = W.ref33_Decompress s_ w Q := by kernel_rfl
theorem C.ref33_Decompress (s_ : ByteArray) (w : World) (Q : Value → World → Prop) (h : W.ref33_Decompress s_ w Q) : CallE Try.prog 16 #[(.string s_)] w Q :=
  calls_of_ev mixed callable_ok (args := [(.string s_)]) Try.func16 rfl ((E.ref33_Decompress s_ w Q).symm ▸ h)

def W.pagezip_wordAt (s_ : ByteArray) (w : World) (Q : Value → World → Prop) : Prop :=
  dr w fun w1 =>
  rq Try.prog (Instr.index 9 (.string s_) (.int .i64 0)) w1 fun v2 => fI .u8 v2 fun x3 =>
  rq Try.prog (Instr.index 9 (.string s_) (.int .i64 1)) w1 fun v4 => fI .u8 v4 fun x5 =>
  rq Try.prog (Instr.index 9 (.string s_) (.int .i64 2)) w1 fun v6 => fI .u8 v6 fun x7 =>
  rq Try.prog (Instr.index 9 (.string s_) (.int .i64 3)) w1 fun v8 => fI .u8 v8 fun x9 =>
  Q (.int .u32 (bor .u32 (bor .u32 (bor .u32 (IntKind.wrap .u32 x3) (IntKind.wrap .u32 ((IntKind.wrap .u32 x5) * 2 ^ 8))) (IntKind.wrap .u32 ((IntKind.wrap .u32 x7) * 2 ^ 16))) (IntKind.wrap .u32 ((IntKind.wrap .u32 x9) * 2 ^ 24)))) w1
theorem E.pagezip_wordAt (s_ : ByteArray) (w : World) (Q : Value → World → Prop) : ev Try.prog Try.f17.ntmps callable [] [] (Try.f17.body.getD .skip) (enumE 0 [(.string s_)]) w (KQ Try.prog Try.f17.results.toList Q) = W.pagezip_wordAt s_ w Q := by kernel_rfl
theorem C.pagezip_wordAt (s_ : ByteArray) (w : World) (Q : Value → World → Prop) (h : W.pagezip_wordAt s_ w Q) : CallE Try.prog 17 #[(.string s_)] w Q :=
  calls_of_ev mixed callable_ok (args := [(.string s_)]) Try.func17 rfl ((E.pagezip_wordAt s_ w Q).symm ▸ h)

def W.pagezip_dictionary_tag (d_ : Addr) (w_ : Int) (w : World) (Q : Value → World → Prop) : Prop :=
  drawE fun S1 => S1 (drew w) ∧ (CallE Try.prog 19 #[(.int .u32 w_)] (drew w) fun v2 w3 => fI .i64 v2 fun x4 =>
  S1 w3 ∧ (rqS Try.prog S1 (Instr.indexAt 42 (.pointer (some d_)) (.int .i64 x4)) fun v5 => fA v5 fun a6 =>
  ldS Try.prog S1 35 a6 fun v7 => fI .u32 v7 fun x8 =>
  br ((w_ : Int) == 0) (Q (.int .i64 0) w3) (br ((w_ : Int) == x8) (Q (.int .i64 1) w3) (br (((Int.fdiv w_ (2 ^ 16)) : Int) == (Int.fdiv x8 (2 ^ 16))) (Q (.int .i64 2) w3) (Q (.int .i64 3) w3)))))
theorem E.pagezip_dictionary_tag (d_ : Addr) (w_ : Int) (w : World) (Q : Value → World → Prop) : ev Try.prog Try.f18.ntmps callable [] [] (Try.f18.body.getD .skip) (enumE 0 [(.pointer (some d_)), (.int .u32 w_)]) w (KQ Try.prog Try.f18.results.toList Q) = W.pagezip_dictionary_tag d_ w_ w Q := by kernel_rfl
theorem C.pagezip_dictionary_tag (d_ : Addr) (w_ : Int) (w : World) (Q : Value → World → Prop) (h : W.pagezip_dictionary_tag d_ w_ w Q) : CallE Try.prog 18 #[(.pointer (some d_)), (.int .u32 w_)] w Q :=
  calls_of_ev mixed callable_ok (args := [(.pointer (some d_)), (.int .u32 w_)]) Try.func18 rfl ((E.pagezip_dictionary_tag d_ w_ w Q).symm ▸ h)

def W.pagezip_slotOf (w_ : Int) (w : World) (Q : Value → World → Prop) : Prop :=
  Q (.int .i64 (Int.tmod (IntKind.wrap .i64 (Int.fdiv w_ (2 ^ 16))) 16)) w
theorem E.pagezip_slotOf (w_ : Int) (w : World) (Q : Value → World → Prop) : ev Try.prog Try.f19.ntmps callable [] [] (Try.f19.body.getD .skip) (enumE 0 [(.int .u32 w_)]) w (KQ Try.prog Try.f19.results.toList Q) = W.pagezip_slotOf w_ w Q := by kernel_rfl
theorem C.pagezip_slotOf (w_ : Int) (w : World) (Q : Value → World → Prop) (h : W.pagezip_slotOf w_ w Q) : CallE Try.prog 19 #[(.int .u32 w_)] w Q :=
  calls_of_ev mixed callable_ok (args := [(.int .u32 w_)]) Try.func19 rfl ((E.pagezip_slotOf w_ w Q).symm ▸ h)

def W.pagezip_dictionary_learn (d_ : Addr) (w_ : Int) (w : World) (Q : Value → World → Prop) : Prop :=
  br ((w_ : Int) != 0) (drawE fun S1 => S1 (drew w) ∧ (CallE Try.prog 19 #[(.int .u32 w_)] (drew w) fun v2 w3 => fI .i64 v2 fun x4 =>
  S1 w3 ∧ (rqS Try.prog S1 (Instr.indexAt 42 (.pointer (some d_)) (.int .i64 x4)) fun v5 => fA v5 fun a6 =>
  st Try.prog 35 a6 (.int .u32 w_) w3 fun w7 =>
  S1 w7 ∧ (Q (.tuple #[]) w7)))) (Q (.tuple #[]) w)
theorem E.pagezip_dictionary_learn (d_ : Addr) (w_ : Int) (w : World) (Q : Value → World → Prop) : ev Try.prog Try.f20.ntmps callable [] [] (Try.f20.body.getD .skip) (enumE 0 [(.pointer (some d_)), (.int .u32 w_)]) w (KQ Try.prog Try.f20.results.toList Q) = W.pagezip_dictionary_learn d_ w_ w Q := by kernel_rfl
theorem C.pagezip_dictionary_learn (d_ : Addr) (w_ : Int) (w : World) (Q : Value → World → Prop) (h : W.pagezip_dictionary_learn d_ w_ w Q) : CallE Try.prog 20 #[(.pointer (some d_)), (.int .u32 w_)] w Q :=
  calls_of_ev mixed callable_ok (args := [(.pointer (some d_)), (.int .u32 w_)]) Try.func20 rfl ((E.pagezip_dictionary_learn d_ w_ w Q).symm ▸ h)

def W.pagezip_expand_k19 (p5 : ByteArray) (p7 : Addr) (w : World) (Q : Value → World → Prop) : Prop :=
  CallE Try.prog 25 #[(.pointer (some p7))] w fun v12 w13 => fT v12 fun t14 =>
  rq Try.prog (do eqGuard .eql 9 (.tmp 82) (.const (.string ⟨#[]⟩)) (.string p5) (.string ⟨#[]⟩); binOp .eql 9 (.string p5) (.string ⟨#[]⟩)) w13 fun v15 => fB v15 fun b16 =>
  Q (.tuple #[(.string t14), (.bool b16)]) w13
def W.pagezip_expand_k3 (p0 : ByteArray) (w : World) (Q : Value → World → Prop) : Prop :=
  br (decide ((((p0.size : Nat) : Int) : Int) < 17)) (Q (.tuple #[(.string ⟨#[]⟩), (.bool false)]) w) (br (decide ((((p0.size : Nat) : Int) : Int) > 256)) (Q (.tuple #[(.string ⟨#[]⟩), (.bool false)]) w) (rq Try.prog (Instr.index 9 (.string p0) (.int .i64 0)) w fun v1 => fI .u8 v1 fun x2 =>
  br ((x2 : Int) != 1) (Q (.tuple #[(.string ⟨#[]⟩), (.bool false)]) w) (dr w fun w3 =>
  rq Try.prog (Instr.sliceAt 9 (.string p0) (some (.int .i64 1)) (some (.int .i64 17)) none) w3 fun v4 => fT v4 fun t5 =>
  rq Try.prog (Instr.sliceAt 9 (.string p0) (some (.int .i64 17)) none none) w3 fun v6 => fT v6 fun t7 =>
  al 42 (zeroT Try.prog 42).cells w3 fun a9 w8 =>
  al 52 (zeroT Try.prog 52).cells w8 fun a11 w10 =>
  LoopW (S := ByteArray × Int × Unit) (fun s17 w18 next19 =>
  br (decide ((s17.2.1 : Int) < 64)) (rq Try.prog (Instr.index 9 (.string t5) (.int .i64 (IntKind.wrap .i64 (Int.tdiv s17.2.1 4)))) w18 fun v20 => fI .u8 v20 fun x21 =>
  rq Try.prog (do eqGuard .shr 5 (.tmp 46) (.tmp 49) (.int .u8 x21) (.int .i64 (IntKind.wrap .i64 (2 * (Int.tmod s17.2.1 4)))); binOp .shr 5 (.int .u8 x21) (.int .i64 (IntKind.wrap .i64 (2 * (Int.tmod s17.2.1 4))))) w18 fun v22 => fI .u8 v22 fun x23 =>
  CallE Try.prog 23 #[(.pointer (some a9)), (.int .i64 (band .i64 (IntKind.wrap .i64 x23) 3)), (.string s17.1)] w18 fun v24 w25 => ∃ (x26 : Int) (x27 : Int) (b28 : Bool), v24 = .tuple #[(.int .u32 x26), (.int .i64 x27), (.bool b28)] ∧
  br (!b28) (Q (.tuple #[(.string ⟨#[]⟩), (.bool false)]) w25) (rq Try.prog (Instr.sliceAt 9 (.string s17.1) (some (.int .i64 x27)) none none) w25 fun v29 => fT v29 fun t30 =>
  CallE Try.prog 20 #[(.pointer (some a9)), (.int .u32 x26)] w25 fun v31 w32 => v31 = .tuple #[] ∧
  al 5 #[(.int .u8 (IntKind.wrap .u8 x26)), (.int .u8 (IntKind.wrap .u8 (Int.fdiv x26 (2 ^ 8)))), (.int .u8 (IntKind.wrap .u8 (Int.fdiv x26 (2 ^ 16)))), (.int .u8 (IntKind.wrap .u8 (Int.fdiv x26 (2 ^ 24))))] w32 fun a34 w33 =>
  CallE Try.prog 24 #[(.pointer (some a11)), (.slice (some a34) 4 4)] w33 fun v35 w36 => ∃ (x37 : Int) (v38 : Value), v35 = .tuple #[(.int .i64 x37), v38] ∧
  next19 (t30, ((IntKind.wrap .i64 (s17.2.1 + 1)) : Int), ()) w36)) (W.pagezip_expand_k19 s17.1 a11 w18 Q)) (t7, (0 : Int), ()) w10)))
def W.pagezip_expand (s_ : ByteArray) (w : World) (Q : Value → World → Prop) : Prop :=
  br ((((s_.size : Nat) : Int) : Int) == 257) (rq Try.prog (Instr.index 9 (.string s_) (.int .i64 0)) w fun v39 => fI .u8 v39 fun x40 =>
  br ((x40 : Int) == 0) (rq Try.prog (Instr.sliceAt 9 (.string s_) (some (.int .i64 1)) none none) w fun v41 => fT v41 fun t42 =>
  Q (.tuple #[(.string t42), (.bool true)]) w) (W.pagezip_expand_k3 s_ w Q)) (W.pagezip_expand_k3 s_ w Q)
theorem E.pagezip_expand (s_ : ByteArray) (w : World) (Q : Value → World → Prop) : ev Try.prog Try.f21.ntmps callable [(9, [(5, .string ⟨#[]⟩), (40, .int .i64 0)], [4, 6, 7])] [] (Try.f21.body.getD .skip) (enumE 0 [(.string s_)]) w (KQ Try.prog Try.f21.results.toList Q) = W.pagezip_expand s_ w Q := by kernel_rfl
theorem C.pagezip_expand (s_ : ByteArray) (w : World) (Q : Value → World → Prop) (h : W.pagezip_expand s_ w Q) : CallE Try.prog 21 #[(.string s_)] w Q :=
  calls_of_ev mixed callable_ok (args := [(.string s_)]) Try.func21 rfl ((E.pagezip_expand s_ w Q).symm ▸ h)

def W.ref33_unpack_k25 (p5 : Option Addr) (p5n : Nat) (p5c : Nat) (w : World) (Q : Value → World → Prop) : Prop :=
  rv Try.prog (convert 31 9 (.slice p5 p5n p5c)) w fun v3 w4 => fT v3 fun t5 =>
  Q (.tuple #[(.string t5), (.bool true)]) w4
def W.ref33_unpack_k24 (p0 : ByteArray) (p4 : Addr) (p5 : Option Addr) (p5n : Nat) (p5c : Nat) (p6 : Int) (p7 : Int) (p10 : Int) (next8 : ((Option Addr × Nat × Nat) × Int × Int × Unit) → World → Prop) (w : World) (Q : Value → World → Prop) : Prop :=
  al 5 #[(.int .u8 (IntKind.wrap .u8 p10)), (.int .u8 (IntKind.wrap .u8 (Int.fdiv p10 (2 ^ 8)))), (.int .u8 (IntKind.wrap .u8 (Int.fdiv p10 (2 ^ 16)))), (.int .u8 (IntKind.wrap .u8 (Int.fdiv p10 (2 ^ 24))))] w fun a16 w15 =>
  rv Try.prog (Builtin.append_ #[31, 31] 31 #[(.slice p5 p5n p5c), (.slice (some a16) 4 4)]) w15 fun v17 w18 => fS v17 fun l19 l19n l19c =>
  next8 ((l19, l19n, l19c), (p6 : Int), ((IntKind.wrap .i64 (p7 + 1)) : Int), ()) w18
def W.ref33_unpack_k21 (p0 : ByteArray) (p4 : Addr) (p5 : Option Addr) (p5n : Nat) (p5c : Nat) (p6 : Int) (p7 : Int) (p9 : Int) (p10 : Int) (next8 : ((Option Addr × Nat × Nat) × Int × Int × Unit) → World → Prop) (w : World) (Q : Value → World → Prop) : Prop :=
  br ((p10 : Int) != 0) (rq Try.prog (Instr.indexAt 41 (.pointer (some p4)) (.int .u32 (Int.tmod (Int.fdiv p10 (2 ^ 16)) 16))) w fun v20 => fA v20 fun a21 =>
  st Try.prog 35 a21 (.int .u32 p10) w fun w22 =>
  W.ref33_unpack_k24 p0 p4 p5 p5n p5c (IntKind.wrap .i64 (p6 + p9)) p7 p10 next8 w22 Q) (W.ref33_unpack_k24 p0 p4 p5 p5n p5c (IntKind.wrap .i64 (p6 + p9)) p7 p10 next8 w Q)
def W.ref33_unpack_k13 (p0 : ByteArray) (p4 : Addr) (p5 : Option Addr) (p5n : Nat) (p5c : Nat) (p6 : Int) (p7 : Int) (p8 : Int) (p9 : Int) (next8 : ((Option Addr × Nat × Nat) × Int × Int × Unit) → World → Prop) (w : World) (Q : Value → World → Prop) : Prop :=
  br ((p8 : Int) == 1) (rq Try.prog (Instr.index 9 (.string p0) (.int .i64 p6)) w fun v23 => fI .u8 v23 fun x24 =>
  rq Try.prog (Instr.indexAt 41 (.pointer (some p4)) (.int .u8 x24)) w fun v25 => fA v25 fun a26 =>
  ld Try.prog 35 a26 w fun v27 => fI .u32 v27 fun x28 =>
  W.ref33_unpack_k21 p0 p4 p5 p5n p5c p6 p7 p9 x28 next8 w Q) (br ((p8 : Int) == 2) (dr w fun w29 =>
  rq Try.prog (Instr.index 9 (.string p0) (.int .i64 p6)) w29 fun v30 => fI .u8 v30 fun x31 =>
  rq Try.prog (Instr.indexAt 41 (.pointer (some p4)) (.int .u8 x31)) w29 fun v32 => fA v32 fun a33 =>
  ld Try.prog 35 a33 w29 fun v34 => fI .u32 v34 fun x35 =>
  rq Try.prog (Instr.index 9 (.string p0) (.int .i64 (IntKind.wrap .i64 (p6 + 1)))) w29 fun v36 => fI .u8 v36 fun x37 =>
  rq Try.prog (Instr.index 9 (.string p0) (.int .i64 (IntKind.wrap .i64 (p6 + 2)))) w29 fun v38 => fI .u8 v38 fun x39 =>
  W.ref33_unpack_k21 p0 p4 p5 p5n p5c p6 p7 p9 (IntKind.wrap .u32 ((IntKind.wrap .u32 ((IntKind.wrap .u32 ((Int.fdiv x35 (2 ^ 16)) * 2 ^ 16)) + (IntKind.wrap .u32 x37))) + (IntKind.wrap .u32 ((IntKind.wrap .u32 x39) * 2 ^ 8)))) next8 w29 Q) (br ((p8 : Int) == 3) (dr w fun w40 =>
  rq Try.prog (Instr.index 9 (.string p0) (.int .i64 p6)) w40 fun v41 => fI .u8 v41 fun x42 =>
  rq Try.prog (Instr.index 9 (.string p0) (.int .i64 (IntKind.wrap .i64 (p6 + 1)))) w40 fun v43 => fI .u8 v43 fun x44 =>
  rq Try.prog (Instr.index 9 (.string p0) (.int .i64 (IntKind.wrap .i64 (p6 + 2)))) w40 fun v45 => fI .u8 v45 fun x46 =>
  rq Try.prog (Instr.index 9 (.string p0) (.int .i64 (IntKind.wrap .i64 (p6 + 3)))) w40 fun v47 => fI .u8 v47 fun x48 =>
  W.ref33_unpack_k21 p0 p4 p5 p5n p5c p6 p7 p9 (IntKind.wrap .u32 ((IntKind.wrap .u32 ((IntKind.wrap .u32 ((IntKind.wrap .u32 x42) + (IntKind.wrap .u32 ((IntKind.wrap .u32 x44) * 2 ^ 8)))) + (IntKind.wrap .u32 ((IntKind.wrap .u32 x46) * 2 ^ 16)))) + (IntKind.wrap .u32 ((IntKind.wrap .u32 x48) * 2 ^ 24)))) next8 w40 Q) (W.ref33_unpack_k21 p0 p4 p5 p5n p5c p6 p7 p9 0 next8 w Q)))
def W.ref33_unpack (s_ : ByteArray) (w : World) (Q : Value → World → Prop) : Prop :=
  br (decide ((((s_.size : Nat) : Int) : Int) < 17)) (Q (.tuple #[(.string ⟨#[]⟩), (.bool false)]) w) (al 41 (zeroT Try.prog 41).cells w fun a2 w1 =>
  LoopW (S := (Option Addr × Nat × Nat) × Int × Int × Unit) (fun s6 w7 next8 =>
  br (decide ((s6.2.2.1 : Int) < 64)) (rq Try.prog (Instr.index 9 (.string s_) (.int .i64 (IntKind.wrap .i64 (1 + (IntKind.wrap .i64 (Int.tdiv s6.2.2.1 4)))))) w7 fun v9 => fI .u8 v9 fun x10 =>
  rq Try.prog (do eqGuard .shr 5 (.tmp 22) (.tmp 26) (.int .u8 x10) (.int .u64 (IntKind.wrap .u64 (IntKind.wrap .i64 (2 * (Int.tmod s6.2.2.1 4))))); binOp .shr 5 (.int .u8 x10) (.int .u64 (IntKind.wrap .u64 (IntKind.wrap .i64 (2 * (Int.tmod s6.2.2.1 4)))))) w7 fun v11 => fI .u8 v11 fun x12 =>
  rq Try.prog (Instr.index 60 (.agg #[(.int .i64 0), (.int .i64 1), (.int .i64 3), (.int .i64 4)]) (.int .u8 (band .u8 x12 3))) w7 fun v13 => fI .i64 v13 fun x14 =>
  br (decide (((IntKind.wrap .i64 (((s_.size : Nat) : Int) - s6.2.1)) : Int) < x14)) (Q (.tuple #[(.string ⟨#[]⟩), (.bool false)]) w7) (br (((band .u8 x12 3) : Int) == 1) (rq Try.prog (Instr.index 9 (.string s_) (.int .i64 s6.2.1)) w7 fun v49 => fI .u8 v49 fun x50 =>
  br (decide ((x50 : Int) > 15)) (Q (.tuple #[(.string ⟨#[]⟩), (.bool false)]) w7) (W.ref33_unpack_k13 s_ a2 s6.1.1 s6.1.2.1 s6.1.2.2 s6.2.1 s6.2.2.1 (band .u8 x12 3) x14 next8 w7 Q)) (br (((band .u8 x12 3) : Int) == 2) (rq Try.prog (Instr.index 9 (.string s_) (.int .i64 s6.2.1)) w7 fun v51 => fI .u8 v51 fun x52 =>
  br (decide ((x52 : Int) > 15)) (Q (.tuple #[(.string ⟨#[]⟩), (.bool false)]) w7) (W.ref33_unpack_k13 s_ a2 s6.1.1 s6.1.2.1 s6.1.2.2 s6.2.1 s6.2.2.1 (band .u8 x12 3) x14 next8 w7 Q)) (W.ref33_unpack_k13 s_ a2 s6.1.1 s6.1.2.1 s6.1.2.2 s6.2.1 s6.2.2.1 (band .u8 x12 3) x14 next8 w7 Q)))) (W.ref33_unpack_k25 s6.1.1 s6.1.2.1 s6.1.2.2 w7 Q)) ((none, 0, 0), (17 : Int), (0 : Int), ()) w1)
theorem E.ref33_unpack (s_ : ByteArray) (w : World) (Q : Value → World → Prop) : ev Try.prog Try.f22.ntmps callable [(7, [(5, .slice none 0 0), (6, .int .i64 0), (7, .int .i64 0)], [0, 4])] [] (Try.f22.body.getD .skip) (enumE 0 [(.string s_)]) w (KQ Try.prog Try.f22.results.toList Q) = W.ref33_unpack s_ w Q := by kernel_rfl
theorem C.ref33_unpack (s_ : ByteArray) (w : World) (Q : Value → World → Prop) (h : W.ref33_unpack s_ w Q) : CallE Try.prog 22 #[(.string s_)] w Q :=
  calls_of_ev mixed callable_ok (args := [(.string s_)]) Try.func22 rfl ((E.ref33_unpack s_ w Q).symm ▸ h)

def W.pagezip_dictionary_decode_k9 (p0 : Addr) (p1 : Int) (p2 : ByteArray) (p9 : Int) (w : World) (Q : Value → World → Prop) : Prop :=
  br (decide ((((p2.size : Nat) : Int) : Int) < p9)) (Q (.tuple #[(.int .u32 0), (.int .i64 0), (.bool false)]) w) (br ((p1 : Int) == 0) (Q (.tuple #[(.int .u32 0), (.int .i64 0), (.bool true)]) w) (br ((p1 : Int) == 3) (CallE Try.prog 17 #[(.string p2)] w fun v1 w2 => fI .u32 v1 fun x3 =>
  Q (.tuple #[(.int .u32 x3), (.int .i64 p9), (.bool true)]) w2) (rq Try.prog (Instr.index 9 (.string p2) (.int .i64 0)) w fun v4 => fI .u8 v4 fun x5 =>
  br (decide ((x5 : Int) ≥ 16)) (Q (.tuple #[(.int .u32 0), (.int .i64 0), (.bool false)]) w) (dr w fun w6 =>
  rq Try.prog (Instr.index 9 (.string p2) (.int .i64 0)) w6 fun v7 => fI .u8 v7 fun x8 =>
  rq Try.prog (Instr.indexAt 42 (.pointer (some p0)) (.int .u8 x8)) w6 fun v9 => fA v9 fun a10 =>
  ld Try.prog 35 a10 w6 fun v11 => fI .u32 v11 fun x12 =>
  br ((p1 : Int) == 2) (dr w6 fun w13 =>
  rq Try.prog (Instr.index 9 (.string p2) (.int .i64 1)) w13 fun v14 => fI .u8 v14 fun x15 =>
  rq Try.prog (Instr.index 9 (.string p2) (.int .i64 2)) w13 fun v16 => fI .u8 v16 fun x17 =>
  Q (.tuple #[(.int .u32 (bor .u32 (bor .u32 (band .u32 x12 4294901760) (IntKind.wrap .u32 x15)) (IntKind.wrap .u32 ((IntKind.wrap .u32 x17) * 2 ^ 8)))), (.int .i64 p9), (.bool true)]) w13) (Q (.tuple #[(.int .u32 x12), (.int .i64 p9), (.bool true)]) w6)))))
def W.pagezip_dictionary_decode (d_ : Addr) (tag_ : Int) (s_ : ByteArray) (w : World) (Q : Value → World → Prop) : Prop :=
  br ((tag_ : Int) == 1) (W.pagezip_dictionary_decode_k9 d_ tag_ s_ 1 w Q) (br ((tag_ : Int) == 2) (W.pagezip_dictionary_decode_k9 d_ tag_ s_ 3 w Q) (br ((tag_ : Int) == 3) (W.pagezip_dictionary_decode_k9 d_ tag_ s_ 4 w Q) (W.pagezip_dictionary_decode_k9 d_ tag_ s_ 0 w Q)))
theorem E.pagezip_dictionary_decode (d_ : Addr) (tag_ : Int) (s_ : ByteArray) (w : World) (Q : Value → World → Prop) : ev Try.prog Try.f23.ntmps callable [] [] (Try.f23.body.getD .skip) (enumE 0 [(.pointer (some d_)), (.int .i64 tag_), (.string s_)]) w (KQ Try.prog Try.f23.results.toList Q) = W.pagezip_dictionary_decode d_ tag_ s_ w Q := by kernel_rfl
theorem C.pagezip_dictionary_decode (d_ : Addr) (tag_ : Int) (s_ : ByteArray) (w : World) (Q : Value → World → Prop) (h : W.pagezip_dictionary_decode d_ tag_ s_ w Q) : CallE Try.prog 23 #[(.pointer (some d_)), (.int .i64 tag_), (.string s_)] w Q :=
  calls_of_ev mixed callable_ok (args := [(.pointer (some d_)), (.int .i64 tag_), (.string s_)]) Try.func23 rfl ((E.pagezip_dictionary_decode d_ tag_ s_ w Q).symm ▸ h)

def W.strings_Builder_Write (b_ : Addr) (p_ : Option Addr) (p_n : Nat) (p_c : Nat) (w : World) (Q : Value → World → Prop) : Prop :=
  CallE Try.prog 26 #[(.pointer (some b_))] w fun v1 w2 => v1 = .tuple #[] ∧
  ld Try.prog 31 (b_.add 1) w2 fun v3 => fS v3 fun l4 l4n l4c =>
  rv Try.prog (Builtin.append_ #[31, 31] 31 #[(.slice l4 l4n l4c), (.slice p_ p_n p_c)]) w2 fun v5 w6 => fS v5 fun l7 l7n l7c =>
  st Try.prog 31 (b_.add 1) (.slice l7 l7n l7c) w6 fun w8 =>
  Q (.tuple #[(.int .i64 ((p_n : Nat) : Int)), .nilIface]) w8
theorem E.strings_Builder_Write (b_ : Addr) (p_ : Option Addr) (p_n : Nat) (p_c : Nat) (w : World) (Q : Value → World → Prop) : ev Try.prog Try.f24.ntmps callable [] [] (Try.f24.body.getD .skip) (enumE 0 [(.pointer (some b_)), (.slice p_ p_n p_c)]) w (KQ Try.prog Try.f24.results.toList Q) = W.strings_Builder_Write b_ p_ p_n p_c w Q := by kernel_rfl
theorem C.strings_Builder_Write (b_ : Addr) (p_ : Option Addr) (p_n : Nat) (p_c : Nat) (w : World) (Q : Value → World → Prop) (h : W.strings_Builder_Write b_ p_ p_n p_c w Q) : CallE Try.prog 24 #[(.pointer (some b_)), (.slice p_ p_n p_c)] w Q :=
  calls_of_ev mixed callable_ok (args := [(.pointer (some b_)), (.slice p_ p_n p_c)]) Try.func24 rfl ((E.strings_Builder_Write b_ p_ p_n p_c w Q).symm ▸ h)

def W.strings_Builder_String (b_ : Addr) (w : World) (Q : Value → World → Prop) : Prop :=
  drawE fun S1 => S1 (drew w) ∧ (ldS Try.prog S1 31 (b_.add 1) fun v2 => fS v2 fun l3 l3n l3c =>
  ldS Try.prog S1 31 (b_.add 1) fun v4 => fS v4 fun l5 l5n l5c =>
  rv Try.prog (Builtin.unsafeSliceData_ #[31] 61 #[(.slice l3 l3n l3c)]) (drew w) fun v6 w7 => fP v6 fun p8 =>
  S1 w7 ∧ (rv Try.prog (Builtin.unsafeString_ #[61, 3] 9 #[(.pointer p8), (.int .i64 ((l5n : Nat) : Int))]) w7 fun v9 w10 => fT v9 fun t11 =>
  S1 w10 ∧ (Q (.string t11) w10)))
theorem E.strings_Builder_String (b_ : Addr) (w : World) (Q : Value → World → Prop) : ev Try.prog Try.f25.ntmps callable [] [] (Try.f25.body.getD .skip) (enumE 0 [(.pointer (some b_))]) w (KQ Try.prog Try.f25.results.toList Q) = W.strings_Builder_String b_ w Q := by kernel_rfl
theorem C.strings_Builder_String (b_ : Addr) (w : World) (Q : Value → World → Prop) (h : W.strings_Builder_String b_ w Q) : CallE Try.prog 25 #[(.pointer (some b_))] w Q :=
  calls_of_ev mixed callable_ok (args := [(.pointer (some b_))]) Try.func25 rfl ((E.strings_Builder_String b_ w Q).symm ▸ h)

def W.strings_Builder_copyCheck (b_ : Addr) (w : World) (Q : Value → World → Prop) : Prop :=
  ld Try.prog 50 (b_.add 0) w fun v1 => fP v1 fun p2 =>
  rq Try.prog (do eqGuard .eql 50 (.tmp 5) (.const (.pointer none)) (.pointer p2) (.pointer none); binOp .eql 50 (.pointer p2) (.pointer none)) w fun v3 => fB v3 fun b4 =>
  br b4 (rv Try.prog (convert 50 62 (.pointer (some b_))) w fun v5 w6 => fP v5 fun p7 =>
  rv Try.prog (convert 62 50 (.pointer p7)) w6 fun v8 w9 => fP v8 fun p10 =>
  st Try.prog 50 (b_.add 0) (.pointer p10) w9 fun w11 =>
  Q (.tuple #[]) w11) (ld Try.prog 50 (b_.add 0) w fun v12 => fP v12 fun p13 =>
  rq Try.prog (do eqGuard .neq 50 (.tmp 17) (.tmp 18) (.pointer p13) (.pointer (some b_)); binOp .neq 50 (.pointer p13) (.pointer (some b_))) w fun v14 => fB v14 fun b15 =>
  br b15 (False) (Q (.tuple #[]) w))
theorem E.strings_Builder_copyCheck (b_ : Addr) (w : World) (Q : Value → World → Prop) : ev Try.prog Try.f26.ntmps callable [] [] (Try.f26.body.getD .skip) (enumE 0 [(.pointer (some b_))]) w (KQ Try.prog Try.f26.results.toList Q) = W.strings_Builder_copyCheck b_ w Q := by kernel_rfl
theorem C.strings_Builder_copyCheck (b_ : Addr) (w : World) (Q : Value → World → Prop) (h : W.strings_Builder_copyCheck b_ w Q) : CallE Try.prog 26 #[(.pointer (some b_))] w Q :=
  calls_of_ev mixed callable_ok (args := [(.pointer (some b_))]) Try.func26 rfl ((E.strings_Builder_copyCheck b_ w Q).symm ▸ h)
end Go.Proofs.Ytndgldmlimmmjaa
