/- The conditions of the functions of this translation, written out by a program; each is an equation that the kernel checks. No condition. -/
import Derived.Test.YtpinpccamfhofaaGA
import Derived.Test.YtpinpccamfhofaaChecked
import Derived.Test.YtpinpccamfhofaaW0
set_option linter.unusedVariables false
set_option linter.unusedSimpArgs false
set_option maxRecDepth 100000
set_option linter.unusedVariables false
namespace Go.Proofs.Ytpinpccamfhofaa
open Go Go.Ev Go.Proofs
def W.image_Decode_k9 (p0 : Option Addr) (p0n : Nat) (p0c : Nat) (p2 : Addr) (w : World) (Q : Value → World → Prop) : Prop :=
  rq Try.prog (Instr.indexAt 49 (.slice p0 p0n p0c) (.int .i64 0)) w fun v6 => fA v6 fun a7 =>
  ld Try.prog 9 a7 w fun v8 => fT v8 fun t9 =>
  CallE Try.prog 67 #[(.string t9)] w fun v10 w11 => ∃ (g12 : Array Value) (x13 : Int), v10 = .tuple #[(.agg g12), (.int .i64 x13)] ∧
  al 121 (zeroT Try.prog 121).cells w11 fun a15 w14 =>
  st Try.prog 121 a15 (.agg g12) w14 fun w16 =>
  br ((x13 : Int) != 0) (st Try.prog 41 p2 (.agg #[(.int .u8 0), (.int .u8 0), (.int .u8 0), (.int .u8 0), (.int .u8 0), (.int .u8 0), (.int .u8 0), (.int .u8 0), (.int .u8 0), (.int .u8 0), (.int .u8 0), (.int .u8 0), (.int .u8 0), (.int .u8 0), (.int .u8 0), (.int .u8 0), (.int .u8 0), (.int .u8 0), (.int .u8 0), (.int .u8 0), (.int .u8 0), (.int .u8 0), (.int .u8 0), (.int .u8 0), (.int .u8 0), (.int .u8 0), (.int .u8 0), (.int .u8 0), (.int .u8 0), (.int .u8 0), (.int .u8 0), (.int .u8 0), (.int .u64 0), (.slice none 0 0)]) w16 fun w17 =>
  ld Try.prog 41 p2 w17 fun v18 => fG v18 fun g19 =>
  Q (.tuple #[(.agg g19), (.int .i64 x13)]) w17) (ld Try.prog 119 (a15.add 33) w16 fun v20 => fI .u32 v20 fun x21 =>
  rq Try.prog (Instr.sliceAt 49 (.slice p0 p0n p0c) (some (.int .i64 1)) none none) w16 fun v22 => fS v22 fun l23 l23n l23c =>
  br (decide (((IntKind.wrap .u64 ((IntKind.wrap .u64 ((l23n : Nat) : Int)) * 64)) : Int) < (IntKind.wrap .u64 x21))) (st Try.prog 41 p2 (.agg #[(.int .u8 0), (.int .u8 0), (.int .u8 0), (.int .u8 0), (.int .u8 0), (.int .u8 0), (.int .u8 0), (.int .u8 0), (.int .u8 0), (.int .u8 0), (.int .u8 0), (.int .u8 0), (.int .u8 0), (.int .u8 0), (.int .u8 0), (.int .u8 0), (.int .u8 0), (.int .u8 0), (.int .u8 0), (.int .u8 0), (.int .u8 0), (.int .u8 0), (.int .u8 0), (.int .u8 0), (.int .u8 0), (.int .u8 0), (.int .u8 0), (.int .u8 0), (.int .u8 0), (.int .u8 0), (.int .u8 0), (.int .u8 0), (.int .u64 0), (.slice none 0 0)]) w16 fun w24 =>
  ld Try.prog 41 p2 w24 fun v25 => fG v25 fun g26 =>
  Q (.tuple #[(.agg g26), (.int .i64 4)]) w24) (rq Try.prog (Instr.sliceAt 49 (.slice l23 l23n l23c) none (some (.int .i64 (IntKind.wrap .i64 (IntKind.wrap .u64 (Int.tdiv (IntKind.wrap .u64 ((IntKind.wrap .u64 ((IntKind.wrap .u64 x21) + 64)) - 1)) 64))))) none) w16 fun v27 => fS v27 fun l28 l28n l28c =>
  CallE Try.prog 101 #[(.slice l28 l28n l28c), (.string ⟨#[]⟩)] w16 fun v29 w30 => fT v29 fun t31 =>
  rq Try.prog (Instr.sliceAt 9 (.string t31) none (some (.int .u64 (IntKind.wrap .u64 x21))) none) w30 fun v32 => fT v32 fun t33 =>
  drawE fun S34 => S34 (drew w30) ∧ (ldS Try.prog S34 119 (a15.add 34) fun v35 => fI .u32 v35 fun x36 =>
  CallE Try.prog 73 #[(.string t33)] (drew w30) fun v37 w38 => fI .u32 v37 fun x39 =>
  S34 w38 ∧ (br ((x39 : Int) != x36) (st Try.prog 41 p2 (.agg #[(.int .u8 0), (.int .u8 0), (.int .u8 0), (.int .u8 0), (.int .u8 0), (.int .u8 0), (.int .u8 0), (.int .u8 0), (.int .u8 0), (.int .u8 0), (.int .u8 0), (.int .u8 0), (.int .u8 0), (.int .u8 0), (.int .u8 0), (.int .u8 0), (.int .u8 0), (.int .u8 0), (.int .u8 0), (.int .u8 0), (.int .u8 0), (.int .u8 0), (.int .u8 0), (.int .u8 0), (.int .u8 0), (.int .u8 0), (.int .u8 0), (.int .u8 0), (.int .u8 0), (.int .u8 0), (.int .u8 0), (.int .u8 0), (.int .u64 0), (.slice none 0 0)]) w38 fun w40 =>
  ld Try.prog 41 p2 w40 fun v41 => fG v41 fun g42 =>
  Q (.tuple #[(.agg g42), (.int .i64 5)]) w40) (CallE Try.prog 102 #[(.string t33)] w38 fun v43 w44 => ∃ (l45 : Option Addr) (l45n : Nat) (l45c : Nat) (b46 : Bool), v43 = .tuple #[(.slice l45 l45n l45c), (.bool b46)] ∧
  br (!b46) (st Try.prog 41 p2 (.agg #[(.int .u8 0), (.int .u8 0), (.int .u8 0), (.int .u8 0), (.int .u8 0), (.int .u8 0), (.int .u8 0), (.int .u8 0), (.int .u8 0), (.int .u8 0), (.int .u8 0), (.int .u8 0), (.int .u8 0), (.int .u8 0), (.int .u8 0), (.int .u8 0), (.int .u8 0), (.int .u8 0), (.int .u8 0), (.int .u8 0), (.int .u8 0), (.int .u8 0), (.int .u8 0), (.int .u8 0), (.int .u8 0), (.int .u8 0), (.int .u8 0), (.int .u8 0), (.int .u8 0), (.int .u8 0), (.int .u8 0), (.int .u8 0), (.int .u64 0), (.slice none 0 0)]) w44 fun w47 =>
  ld Try.prog 41 p2 w47 fun v48 => fG v48 fun g49 =>
  Q (.tuple #[(.agg g49), (.int .i64 3)]) w47) (ld Try.prog 31 (a15.add 1) w44 fun v50 => fG v50 fun g51 =>
  ld Try.prog 32 (a15.add 0) w44 fun v52 => fI .u64 v52 fun x53 =>
  rq Try.prog (Instr.build 41 #[(0, (.agg g51)), (1, (.int .u64 x53)), (2, (.slice l45 l45n l45c))]) w44 fun v54 => fG v54 fun g55 =>
  st Try.prog 41 p2 (.agg g55) w44 fun w56 =>
  ld Try.prog 41 p2 w56 fun v57 => fG v57 fun g58 =>
  Q (.tuple #[(.agg g58), (.int .i64 0)]) w56))))))
def W.image_Decode (sectors_ : Option Addr) (sectors_n : Nat) (sectors_c : Nat) (w : World) (Q : Value → World → Prop) : Prop :=
  al 41 (zeroT Try.prog 41).cells w fun a2 w1 =>
  br ((((sectors_n : Nat) : Int) : Int) == 0) (st Try.prog 41 a2 (.agg #[(.int .u8 0), (.int .u8 0), (.int .u8 0), (.int .u8 0), (.int .u8 0), (.int .u8 0), (.int .u8 0), (.int .u8 0), (.int .u8 0), (.int .u8 0), (.int .u8 0), (.int .u8 0), (.int .u8 0), (.int .u8 0), (.int .u8 0), (.int .u8 0), (.int .u8 0), (.int .u8 0), (.int .u8 0), (.int .u8 0), (.int .u8 0), (.int .u8 0), (.int .u8 0), (.int .u8 0), (.int .u8 0), (.int .u8 0), (.int .u8 0), (.int .u8 0), (.int .u8 0), (.int .u8 0), (.int .u8 0), (.int .u8 0), (.int .u64 0), (.slice none 0 0)]) w1 fun w3 =>
  ld Try.prog 41 a2 w3 fun v4 => fG v4 fun g5 =>
  Q (.tuple #[(.agg g5), (.int .i64 3)]) w3) (LoopW (S := Int × Unit) (fun s59 w60 next61 =>
  br (decide ((s59.1 : Int) < ((sectors_n : Nat) : Int))) (rq Try.prog (Instr.indexAt 49 (.slice sectors_ sectors_n sectors_c) (.int .i64 s59.1)) w60 fun v62 => fA v62 fun a63 =>
  ld Try.prog 9 a63 w60 fun v64 => fT v64 fun t65 =>
  br ((((t65.size : Nat) : Int) : Int) != 64) (st Try.prog 41 a2 (.agg #[(.int .u8 0), (.int .u8 0), (.int .u8 0), (.int .u8 0), (.int .u8 0), (.int .u8 0), (.int .u8 0), (.int .u8 0), (.int .u8 0), (.int .u8 0), (.int .u8 0), (.int .u8 0), (.int .u8 0), (.int .u8 0), (.int .u8 0), (.int .u8 0), (.int .u8 0), (.int .u8 0), (.int .u8 0), (.int .u8 0), (.int .u8 0), (.int .u8 0), (.int .u8 0), (.int .u8 0), (.int .u8 0), (.int .u8 0), (.int .u8 0), (.int .u8 0), (.int .u8 0), (.int .u8 0), (.int .u8 0), (.int .u8 0), (.int .u64 0), (.slice none 0 0)]) w60 fun w66 =>
  ld Try.prog 41 a2 w66 fun v67 => fG v67 fun g68 =>
  Q (.tuple #[(.agg g68), (.int .i64 3)]) w66) (next61 (((IntKind.wrap .i64 (s59.1 + 1)) : Int), ()) w60)) (W.image_Decode_k9 sectors_ sectors_n sectors_c a2 w60 Q)) ((0 : Int), ()) w1)
theorem E.image_Decode (sectors_ : Option Addr) (sectors_n : Nat) (sectors_c : Nat) (w : World) (Q : Value → World → Prop) : ev Try.prog Try.f68.ntmps callable [(4, [(20, .int .i64 0)], [0, 2, 18, 19])] [] (Try.f68.body.getD .skip) (enumE 0 [(.slice sectors_ sectors_n sectors_c)]) w (KQ Try.prog Try.f68.results.toList Q) = W.image_Decode sectors_ sectors_n sectors_c w Q := by kernel_rfl
theorem C.image_Decode (sectors_ : Option Addr) (sectors_n : Nat) (sectors_c : Nat) (w : World) (Q : Value → World → Prop) (h : W.image_Decode sectors_ sectors_n sectors_c w Q) : CallE Try.prog 68 #[(.slice sectors_ sectors_n sectors_c)] w Q :=
  calls_of_ev mixed callable_ok (args := [(.slice sectors_ sectors_n sectors_c)]) Try.func68 rfl ((E.image_Decode sectors_ sectors_n sectors_c w Q).symm ▸ h)

def W.help_Equal_api_Page_ (a_ : Option Addr) (a_n : Nat) (a_c : Nat) (b_ : Option Addr) (b_n : Nat) (b_c : Nat) (w : World) (Q : Value → World → Prop) : Prop :=
  br ((((a_n : Nat) : Int) : Int) != ((b_n : Nat) : Int)) (Q (.bool false) w) (LoopW (S := Int × Unit) (fun s1 w2 next3 =>
  br (decide ((s1.1 : Int) < ((a_n : Nat) : Int))) (dr w2 fun w4 =>
  rq Try.prog (Instr.indexAt 39 (.slice a_ a_n a_c) (.int .i64 s1.1)) w4 fun v5 => fA v5 fun a6 =>
  ld Try.prog 85 a6 w4 fun v7 => fG v7 fun g8 =>
  rq Try.prog (Instr.indexAt 39 (.slice b_ b_n b_c) (.int .i64 s1.1)) w4 fun v9 => fA v9 fun a10 =>
  ld Try.prog 85 a10 w4 fun v11 => fG v11 fun g12 =>
  rq Try.prog (do eqGuard .neq 85 (.tmp 20) (.tmp 24) (.agg g8) (.agg g12); binOp .neq 85 (.agg g8) (.agg g12)) w4 fun v13 => fB v13 fun b14 =>
  br b14 (Q (.bool false) w4) (next3 (((IntKind.wrap .i64 (s1.1 + 1)) : Int), ()) w4)) (Q (.bool true) w2)) ((0 : Int), ()) w)
theorem E.help_Equal_api_Page_ (a_ : Option Addr) (a_n : Nat) (a_c : Nat) (b_ : Option Addr) (b_n : Nat) (b_c : Nat) (w : World) (Q : Value → World → Prop) : ev Try.prog Try.f69.ntmps callable [(4, [(5, .int .i64 0)], [0, 1])] [] (Try.f69.body.getD .skip) (enumE 0 [(.slice a_ a_n a_c), (.slice b_ b_n b_c)]) w (KQ Try.prog Try.f69.results.toList Q) = W.help_Equal_api_Page_ a_ a_n a_c b_ b_n b_c w Q := by kernel_rfl
theorem C.help_Equal_api_Page_ (a_ : Option Addr) (a_n : Nat) (a_c : Nat) (b_ : Option Addr) (b_n : Nat) (b_c : Nat) (w : World) (Q : Value → World → Prop) (h : W.help_Equal_api_Page_ a_ a_n a_c b_ b_n b_c w Q) : CallE Try.prog 69 #[(.slice a_ a_n a_c), (.slice b_ b_n b_c)] w Q :=
  calls_of_ev mixed callable_ok (args := [(.slice a_ a_n a_c), (.slice b_ b_n b_c)]) Try.func69 rfl ((E.help_Equal_api_Page_ a_ a_n a_c b_ b_n b_c w Q).symm ▸ h)

def W.image_validPages (pages_ : Option Addr) (pages_n : Nat) (pages_c : Nat) (w : World) (Q : Value → World → Prop) : Prop :=
  br (decide ((((pages_n : Nat) : Int) : Int) > 512)) (Q (.bool false) w) (LoopW (S := Int × Unit) (fun s1 w2 next3 =>
  br (decide ((s1.1 : Int) < ((pages_n : Nat) : Int))) (rq Try.prog (Instr.indexAt 39 (.slice pages_ pages_n pages_c) (.int .i64 s1.1)) w2 fun v4 => fA v4 fun a5 =>
  ld Try.prog 85 a5 w2 fun v6 => fG v6 fun g7 =>
  al 85 (zeroT Try.prog 85).cells w2 fun a9 w8 =>
  st Try.prog 85 a9 (.agg g7) w8 fun w10 =>
  ld Try.prog 3 (a9.add 0) w10 fun v11 => fI .i64 v11 fun x12 =>
  br (decide ((x12 : Int) < 0)) (Q (.bool false) w10) (ld Try.prog 3 (a9.add 0) w10 fun v13 => fI .i64 v13 fun x14 =>
  br (decide ((x14 : Int) > 2147483647)) (Q (.bool false) w10) (dr w10 fun w15 =>
  br (decide ((s1.1 : Int) > 0)) (ld Try.prog 3 (a9.add 0) w15 fun v16 => fI .i64 v16 fun x17 =>
  rq Try.prog (Instr.indexAt 39 (.slice pages_ pages_n pages_c) (.int .i64 (IntKind.wrap .i64 (s1.1 - 1)))) w15 fun v18 => fA v18 fun a19 =>
  ld Try.prog 3 (a19.add 0) w15 fun v20 => fI .i64 v20 fun x21 =>
  br (decide ((x17 : Int) ≤ x21)) (Q (.bool false) w15) (next3 (((IntKind.wrap .i64 (s1.1 + 1)) : Int), ()) w15)) (next3 (((IntKind.wrap .i64 (s1.1 + 1)) : Int), ()) w15)))) (Q (.bool true) w2)) ((0 : Int), ()) w)
theorem E.image_validPages (pages_ : Option Addr) (pages_n : Nat) (pages_c : Nat) (w : World) (Q : Value → World → Prop) : ev Try.prog Try.f70.ntmps callable [(4, [(10, .int .i64 0)], [0, 8, 9])] [] (Try.f70.body.getD .skip) (enumE 0 [(.slice pages_ pages_n pages_c)]) w (KQ Try.prog Try.f70.results.toList Q) = W.image_validPages pages_ pages_n pages_c w Q := by kernel_rfl
theorem C.image_validPages (pages_ : Option Addr) (pages_n : Nat) (pages_c : Nat) (w : World) (Q : Value → World → Prop) (h : W.image_validPages pages_ pages_n pages_c w Q) : CallE Try.prog 70 #[(.slice pages_ pages_n pages_c)] w Q :=
  calls_of_ev mixed callable_ok (args := [(.slice pages_ pages_n pages_c)]) Try.func70 rfl ((E.image_validPages pages_ pages_n pages_c w Q).symm ▸ h)

def W.pagezip_Compress_k21 (p0 : ByteArray) (p5 : Addr) (p6 : Option Addr) (p6n : Nat) (p6c : Nat) (w : World) (Q : Value → World → Prop) : Prop :=
  br (decide (((IntKind.wrap .i64 (17 + ((p6n : Nat) : Int))) : Int) > 256)) (al 5 #[(.int .u8 0)] w fun a6 w5 =>
  rv Try.prog (convert 82 9 (.slice (some a6) 1 1)) w5 fun v7 w8 => fT v7 fun t9 =>
  rq Try.prog (do eqGuard .add 9 (.tmp 81) (.tmp 82) (.string t9) (.string p0); binOp .add 9 (.string t9) (.string p0)) w8 fun v10 => fT v10 fun t11 =>
  Q (.tuple #[(.string t11), (.int .i64 0)]) w8) (drawE fun S12 => S12 (drew w) ∧ (rqS Try.prog S12 (Instr.sliceAt 171 (.pointer (some p5)) none none none) fun v13 => fS v13 fun l14 l14n l14c =>
  (al 5 #[(.int .u8 1)] (drew w) fun a16 w15 =>
  S12 w15 ∧ ((rv Try.prog (convert 82 9 (.slice (some a16) 1 1)) w15 fun v17 w18 => fT v17 fun t19 =>
  S12 w18 ∧ ((rv Try.prog (convert 82 9 (.slice l14 l14n l14c)) w18 fun v20 w21 => fT v20 fun t22 =>
  S12 w21 ∧ (rqS Try.prog S12 (do eqGuard .add 9 (.tmp 85) (.tmp 87) (.string t19) (.string t22); binOp .add 9 (.string t19) (.string t22)) fun v23 => fT v23 fun t24 =>
  rv Try.prog (convert 82 9 (.slice p6 p6n p6c)) w21 fun v25 w26 => fT v25 fun t27 =>
  S12 w26 ∧ (rqS Try.prog S12 (do eqGuard .add 9 (.tmp 88) (.tmp 90) (.string t24) (.string t27); binOp .add 9 (.string t24) (.string t27)) fun v28 => fT v28 fun t29 =>
  Q (.tuple #[(.string t29), (.int .i64 0)]) w26))) ∧ (rv Try.prog (convert 82 9 (.slice p6 p6n p6c)) w18 fun v30 w31 => fT v30 fun t32 =>
  S12 w31 ∧ (rv Try.prog (convert 82 9 (.slice l14 l14n l14c)) w31 fun v33 w34 => fT v33 fun t35 =>
  S12 w34 ∧ (rqS Try.prog S12 (do eqGuard .add 9 (.tmp 85) (.tmp 87) (.string t19) (.string t35); binOp .add 9 (.string t19) (.string t35)) fun v36 => fT v36 fun t37 =>
  rqS Try.prog S12 (do eqGuard .add 9 (.tmp 88) (.tmp 90) (.string t37) (.string t32); binOp .add 9 (.string t37) (.string t32)) fun v38 => fT v38 fun t39 =>
  Q (.tuple #[(.string t39), (.int .i64 0)]) w34))))) ∧ (rv Try.prog (convert 82 9 (.slice l14 l14n l14c)) w15 fun v40 w41 => fT v40 fun t42 =>
  S12 w41 ∧ ((rv Try.prog (convert 82 9 (.slice (some a16) 1 1)) w41 fun v43 w44 => fT v43 fun t45 =>
  S12 w44 ∧ (rqS Try.prog S12 (do eqGuard .add 9 (.tmp 85) (.tmp 87) (.string t45) (.string t42); binOp .add 9 (.string t45) (.string t42)) fun v46 => fT v46 fun t47 =>
  rv Try.prog (convert 82 9 (.slice p6 p6n p6c)) w44 fun v48 w49 => fT v48 fun t50 =>
  S12 w49 ∧ (rqS Try.prog S12 (do eqGuard .add 9 (.tmp 88) (.tmp 90) (.string t47) (.string t50); binOp .add 9 (.string t47) (.string t50)) fun v51 => fT v51 fun t52 =>
  Q (.tuple #[(.string t52), (.int .i64 0)]) w49))) ∧ (rv Try.prog (convert 82 9 (.slice p6 p6n p6c)) w41 fun v53 w54 => fT v53 fun t55 =>
  S12 w54 ∧ (rv Try.prog (convert 82 9 (.slice (some a16) 1 1)) w54 fun v56 w57 => fT v56 fun t58 =>
  S12 w57 ∧ (rqS Try.prog S12 (do eqGuard .add 9 (.tmp 85) (.tmp 87) (.string t58) (.string t42); binOp .add 9 (.string t58) (.string t42)) fun v59 => fT v59 fun t60 =>
  rqS Try.prog S12 (do eqGuard .add 9 (.tmp 88) (.tmp 90) (.string t60) (.string t55); binOp .add 9 (.string t60) (.string t55)) fun v61 => fT v61 fun t62 =>
  Q (.tuple #[(.string t62), (.int .i64 0)]) w57))))) ∧ (rv Try.prog (convert 82 9 (.slice p6 p6n p6c)) w15 fun v63 w64 => fT v63 fun t65 =>
  S12 w64 ∧ ((rv Try.prog (convert 82 9 (.slice (some a16) 1 1)) w64 fun v66 w67 => fT v66 fun t68 =>
  S12 w67 ∧ (rv Try.prog (convert 82 9 (.slice l14 l14n l14c)) w67 fun v69 w70 => fT v69 fun t71 =>
  S12 w70 ∧ (rqS Try.prog S12 (do eqGuard .add 9 (.tmp 85) (.tmp 87) (.string t68) (.string t71); binOp .add 9 (.string t68) (.string t71)) fun v72 => fT v72 fun t73 =>
  rqS Try.prog S12 (do eqGuard .add 9 (.tmp 88) (.tmp 90) (.string t73) (.string t65); binOp .add 9 (.string t73) (.string t65)) fun v74 => fT v74 fun t75 =>
  Q (.tuple #[(.string t75), (.int .i64 0)]) w70))) ∧ (rv Try.prog (convert 82 9 (.slice l14 l14n l14c)) w64 fun v76 w77 => fT v76 fun t78 =>
  S12 w77 ∧ (rv Try.prog (convert 82 9 (.slice (some a16) 1 1)) w77 fun v79 w80 => fT v79 fun t81 =>
  S12 w80 ∧ (rqS Try.prog S12 (do eqGuard .add 9 (.tmp 85) (.tmp 87) (.string t81) (.string t78); binOp .add 9 (.string t81) (.string t78)) fun v82 => fT v82 fun t83 =>
  rqS Try.prog S12 (do eqGuard .add 9 (.tmp 88) (.tmp 90) (.string t83) (.string t65); binOp .add 9 (.string t83) (.string t65)) fun v84 => fT v84 fun t85 =>
  Q (.tuple #[(.string t85), (.int .i64 0)]) w80))))))) ∧ (rv Try.prog (convert 82 9 (.slice l14 l14n l14c)) (drew w) fun v86 w87 => fT v86 fun t88 =>
  S12 w87 ∧ ((al 5 #[(.int .u8 1)] w87 fun a90 w89 =>
  S12 w89 ∧ ((rv Try.prog (convert 82 9 (.slice (some a90) 1 1)) w89 fun v91 w92 => fT v91 fun t93 =>
  S12 w92 ∧ (rqS Try.prog S12 (do eqGuard .add 9 (.tmp 85) (.tmp 87) (.string t93) (.string t88); binOp .add 9 (.string t93) (.string t88)) fun v94 => fT v94 fun t95 =>
  rv Try.prog (convert 82 9 (.slice p6 p6n p6c)) w92 fun v96 w97 => fT v96 fun t98 =>
  S12 w97 ∧ (rqS Try.prog S12 (do eqGuard .add 9 (.tmp 88) (.tmp 90) (.string t95) (.string t98); binOp .add 9 (.string t95) (.string t98)) fun v99 => fT v99 fun t100 =>
  Q (.tuple #[(.string t100), (.int .i64 0)]) w97))) ∧ (rv Try.prog (convert 82 9 (.slice p6 p6n p6c)) w89 fun v101 w102 => fT v101 fun t103 =>
  S12 w102 ∧ (rv Try.prog (convert 82 9 (.slice (some a90) 1 1)) w102 fun v104 w105 => fT v104 fun t106 =>
  S12 w105 ∧ (rqS Try.prog S12 (do eqGuard .add 9 (.tmp 85) (.tmp 87) (.string t106) (.string t88); binOp .add 9 (.string t106) (.string t88)) fun v107 => fT v107 fun t108 =>
  rqS Try.prog S12 (do eqGuard .add 9 (.tmp 88) (.tmp 90) (.string t108) (.string t103); binOp .add 9 (.string t108) (.string t103)) fun v109 => fT v109 fun t110 =>
  Q (.tuple #[(.string t110), (.int .i64 0)]) w105))))) ∧ (rv Try.prog (convert 82 9 (.slice p6 p6n p6c)) w87 fun v111 w112 => fT v111 fun t113 =>
  S12 w112 ∧ (al 5 #[(.int .u8 1)] w112 fun a115 w114 =>
  S12 w114 ∧ (rv Try.prog (convert 82 9 (.slice (some a115) 1 1)) w114 fun v116 w117 => fT v116 fun t118 =>
  S12 w117 ∧ (rqS Try.prog S12 (do eqGuard .add 9 (.tmp 85) (.tmp 87) (.string t118) (.string t88); binOp .add 9 (.string t118) (.string t88)) fun v119 => fT v119 fun t120 =>
  rqS Try.prog S12 (do eqGuard .add 9 (.tmp 88) (.tmp 90) (.string t120) (.string t113); binOp .add 9 (.string t120) (.string t113)) fun v121 => fT v121 fun t122 =>
  Q (.tuple #[(.string t122), (.int .i64 0)]) w117)))))) ∧ (rv Try.prog (convert 82 9 (.slice p6 p6n p6c)) (drew w) fun v123 w124 => fT v123 fun t125 =>
  S12 w124 ∧ ((al 5 #[(.int .u8 1)] w124 fun a127 w126 =>
  S12 w126 ∧ ((rv Try.prog (convert 82 9 (.slice (some a127) 1 1)) w126 fun v128 w129 => fT v128 fun t130 =>
  S12 w129 ∧ (rv Try.prog (convert 82 9 (.slice l14 l14n l14c)) w129 fun v131 w132 => fT v131 fun t133 =>
  S12 w132 ∧ (rqS Try.prog S12 (do eqGuard .add 9 (.tmp 85) (.tmp 87) (.string t130) (.string t133); binOp .add 9 (.string t130) (.string t133)) fun v134 => fT v134 fun t135 =>
  rqS Try.prog S12 (do eqGuard .add 9 (.tmp 88) (.tmp 90) (.string t135) (.string t125); binOp .add 9 (.string t135) (.string t125)) fun v136 => fT v136 fun t137 =>
  Q (.tuple #[(.string t137), (.int .i64 0)]) w132))) ∧ (rv Try.prog (convert 82 9 (.slice l14 l14n l14c)) w126 fun v138 w139 => fT v138 fun t140 =>
  S12 w139 ∧ (rv Try.prog (convert 82 9 (.slice (some a127) 1 1)) w139 fun v141 w142 => fT v141 fun t143 =>
  S12 w142 ∧ (rqS Try.prog S12 (do eqGuard .add 9 (.tmp 85) (.tmp 87) (.string t143) (.string t140); binOp .add 9 (.string t143) (.string t140)) fun v144 => fT v144 fun t145 =>
  rqS Try.prog S12 (do eqGuard .add 9 (.tmp 88) (.tmp 90) (.string t145) (.string t125); binOp .add 9 (.string t145) (.string t125)) fun v146 => fT v146 fun t147 =>
  Q (.tuple #[(.string t147), (.int .i64 0)]) w142))))) ∧ (rv Try.prog (convert 82 9 (.slice l14 l14n l14c)) w124 fun v148 w149 => fT v148 fun t150 =>
  S12 w149 ∧ (al 5 #[(.int .u8 1)] w149 fun a152 w151 =>
  S12 w151 ∧ (rv Try.prog (convert 82 9 (.slice (some a152) 1 1)) w151 fun v153 w154 => fT v153 fun t155 =>
  S12 w154 ∧ (rqS Try.prog S12 (do eqGuard .add 9 (.tmp 85) (.tmp 87) (.string t155) (.string t150); binOp .add 9 (.string t155) (.string t150)) fun v156 => fT v156 fun t157 =>
  rqS Try.prog S12 (do eqGuard .add 9 (.tmp 88) (.tmp 90) (.string t157) (.string t125); binOp .add 9 (.string t157) (.string t125)) fun v158 => fT v158 fun t159 =>
  Q (.tuple #[(.string t159), (.int .i64 0)]) w154))))))))
def W.pagezip_Compress_k19 (p0 : ByteArray) (p4 : Addr) (p5 : Addr) (p6 : Option Addr) (p6n : Nat) (p6c : Nat) (p8 : Int) (p13 : Int) (next162 : ((Option Addr × Nat × Nat) × Int × Unit) → World → Prop) (w : World) (Q : Value → World → Prop) : Prop :=
  CallE Try.prog 106 #[(.pointer (some p4)), (.int .u32 p8)] w fun v181 w182 => v181 = .tuple #[] ∧
  next162 ((p6, p6n, p6c), ((IntKind.wrap .i64 (p13 + 1)) : Int), ()) w182
def W.pagezip_Compress (page_ : ByteArray) (w : World) (Q : Value → World → Prop) : Prop :=
  br ((((page_.size : Nat) : Int) : Int) != 256) (Q (.tuple #[(.string ⟨#[]⟩), (.int .i64 1)]) w) (al 170 (zeroT Try.prog 170).cells w fun a2 w1 =>
  al 171 (zeroT Try.prog 171).cells w1 fun a4 w3 =>
  LoopW (S := (Option Addr × Nat × Nat) × Int × Unit) (fun s160 w161 next162 =>
  br (decide ((s160.2.1 : Int) < 64)) (rq Try.prog (Instr.sliceAt 9 (.string page_) (some (.int .i64 (IntKind.wrap .i64 (4 * s160.2.1)))) none none) w161 fun v163 => fT v163 fun t164 =>
  CallE Try.prog 103 #[(.string t164)] w161 fun v165 w166 => fI .u32 v165 fun x167 =>
  CallE Try.prog 104 #[(.pointer (some a2)), (.int .u32 x167)] w166 fun v168 w169 => fI .i64 v168 fun x170 =>
  dr w169 fun w171 =>
  rq Try.prog (Instr.indexAt 171 (.pointer (some a4)) (.int .i64 (IntKind.wrap .i64 (Int.tdiv s160.2.1 4)))) w171 fun v172 => fA v172 fun a173 =>
  ld Try.prog 5 a173 w171 fun v174 => fI .u8 v174 fun x175 =>
  rq Try.prog (do eqGuard .shl 3 (.tmp 27) (.tmp 30) (.int .i64 x170) (.int .i64 (IntKind.wrap .i64 (2 * (Int.tmod s160.2.1 4)))); binOp .shl 3 (.int .i64 x170) (.int .i64 (IntKind.wrap .i64 (2 * (Int.tmod s160.2.1 4))))) w171 fun v176 => fI .i64 v176 fun x177 =>
  rq Try.prog (Instr.indexAt 171 (.pointer (some a4)) (.int .i64 (IntKind.wrap .i64 (Int.tdiv s160.2.1 4)))) w171 fun v178 => fA v178 fun a179 =>
  st Try.prog 5 a179 (.int .u8 (bor .u8 x175 (IntKind.wrap .u8 x177))) w171 fun w180 =>
  br ((x170 : Int) == 1) (CallE Try.prog 105 #[(.int .u32 x167)] w180 fun v183 w184 => fI .i64 v183 fun x185 =>
  al 5 #[(.int .u8 (IntKind.wrap .u8 x185))] w184 fun a187 w186 =>
  rv Try.prog (Builtin.append_ #[82, 82] 82 #[(.slice s160.1.1 s160.1.2.1 s160.1.2.2), (.slice (some a187) 1 1)]) w186 fun v188 w189 => fS v188 fun l190 l190n l190c =>
  W.pagezip_Compress_k19 page_ a2 a4 l190 l190n l190c x167 s160.2.1 next162 w189 Q) (br ((x170 : Int) == 2) (CallE Try.prog 105 #[(.int .u32 x167)] w180 fun v191 w192 => fI .i64 v191 fun x193 =>
  al 5 #[(.int .u8 (IntKind.wrap .u8 x193)), (.int .u8 (IntKind.wrap .u8 x167)), (.int .u8 (IntKind.wrap .u8 (Int.fdiv x167 (2 ^ 8))))] w192 fun a195 w194 =>
  rv Try.prog (Builtin.append_ #[82, 82] 82 #[(.slice s160.1.1 s160.1.2.1 s160.1.2.2), (.slice (some a195) 3 3)]) w194 fun v196 w197 => fS v196 fun l198 l198n l198c =>
  W.pagezip_Compress_k19 page_ a2 a4 l198 l198n l198c x167 s160.2.1 next162 w197 Q) (br ((x170 : Int) == 3) (al 5 #[(.int .u8 (IntKind.wrap .u8 x167)), (.int .u8 (IntKind.wrap .u8 (Int.fdiv x167 (2 ^ 8)))), (.int .u8 (IntKind.wrap .u8 (Int.fdiv x167 (2 ^ 16)))), (.int .u8 (IntKind.wrap .u8 (Int.fdiv x167 (2 ^ 24))))] w180 fun a200 w199 =>
  rv Try.prog (Builtin.append_ #[82, 82] 82 #[(.slice s160.1.1 s160.1.2.1 s160.1.2.2), (.slice (some a200) 4 4)]) w199 fun v201 w202 => fS v201 fun l203 l203n l203c =>
  W.pagezip_Compress_k19 page_ a2 a4 l203 l203n l203c x167 s160.2.1 next162 w202 Q) (W.pagezip_Compress_k19 page_ a2 a4 s160.1.1 s160.1.2.1 s160.1.2.2 x167 s160.2.1 next162 w180 Q)))) (W.pagezip_Compress_k21 page_ a4 s160.1.1 s160.1.2.1 s160.1.2.2 w161 Q)) ((none, 0, 0), (0 : Int), ()) w3)
theorem E.pagezip_Compress (page_ : ByteArray) (w : World) (Q : Value → World → Prop) : ev Try.prog Try.f71.ntmps callable [(7, [(6, .slice none 0 0), (13, .int .i64 0)], [0, 4, 5])] [] (Try.f71.body.getD .skip) (enumE 0 [(.string page_)]) w (KQ Try.prog Try.f71.results.toList Q) = W.pagezip_Compress page_ w Q := by kernel_rfl
theorem C.pagezip_Compress (page_ : ByteArray) (w : World) (Q : Value → World → Prop) (h : W.pagezip_Compress page_ w Q) : CallE Try.prog 71 #[(.string page_)] w Q :=
  calls_of_ev mixed callable_ok (args := [(.string page_)]) Try.func71 rfl ((E.pagezip_Compress page_ w Q).symm ▸ h)

def W.image_appendNumber (b_ : Option Addr) (b_n : Nat) (b_c : Nat) (v_ : Int) (count_ : Int) (w : World) (Q : Value → World → Prop) : Prop :=
  LoopW (S := (Option Addr × Nat × Nat) × Int × Int × Unit) (fun s1 w2 next3 =>
  br (decide ((s1.2.2.1 : Int) < count_)) (al 5 #[(.int .u8 (IntKind.wrap .u8 s1.2.1))] w2 fun a5 w4 =>
  rv Try.prog (Builtin.append_ #[82, 82] 82 #[(.slice s1.1.1 s1.1.2.1 s1.1.2.2), (.slice (some a5) 1 1)]) w4 fun v6 w7 => fS v6 fun l8 l8n l8c =>
  next3 ((l8, l8n, l8c), ((Int.fdiv s1.2.1 (2 ^ 8)) : Int), ((IntKind.wrap .i64 (s1.2.2.1 + 1)) : Int), ()) w7) (Q (.slice s1.1.1 s1.1.2.1 s1.1.2.2) w2)) ((b_, b_n, b_c), (v_ : Int), (0 : Int), ()) w
theorem E.image_appendNumber (b_ : Option Addr) (b_n : Nat) (b_c : Nat) (v_ : Int) (count_ : Int) (w : World) (Q : Value → World → Prop) : ev Try.prog Try.f72.ntmps callable [(2, [(0, .slice none 0 0), (1, .int .u64 0), (8, .int .i64 0)], [7])] [] (Try.f72.body.getD .skip) (enumE 0 [(.slice b_ b_n b_c), (.int .u64 v_), (.int .i64 count_)]) w (KQ Try.prog Try.f72.results.toList Q) = W.image_appendNumber b_ b_n b_c v_ count_ w Q := by kernel_rfl
theorem C.image_appendNumber (b_ : Option Addr) (b_n : Nat) (b_c : Nat) (v_ : Int) (count_ : Int) (w : World) (Q : Value → World → Prop) (h : W.image_appendNumber b_ b_n b_c v_ count_ w Q) : CallE Try.prog 72 #[(.slice b_ b_n b_c), (.int .u64 v_), (.int .i64 count_)] w Q :=
  calls_of_ev mixed callable_ok (args := [(.slice b_ b_n b_c), (.int .u64 v_), (.int .i64 count_)]) Try.func72 rfl ((E.image_appendNumber b_ b_n b_c v_ count_ w Q).symm ▸ h)

def W.image_Checksum_k14 (p0 : ByteArray) (p3 : Addr) (w : World) (Q : Value → World → Prop) : Prop :=
  LoopW (S := Int × Int × Unit) (fun s3 w4 next5 =>
  br (decide ((s3.2.1 : Int) < ((p0.size : Nat) : Int))) (rq Try.prog (Instr.index 9 (.string p0) (.int .i64 s3.2.1)) w4 fun v6 => fI .u8 v6 fun x7 =>
  rq Try.prog (Instr.indexAt 169 (.pointer (some p3)) (.int .u32 (band .u32 (bxor .u32 s3.1 (IntKind.wrap .u32 x7)) 15))) w4 fun v8 => fA v8 fun a9 =>
  ld Try.prog 119 a9 w4 fun v10 => fI .u32 v10 fun x11 =>
  rq Try.prog (Instr.indexAt 169 (.pointer (some p3)) (.int .u32 (band .u32 (bxor .u32 (Int.fdiv (bxor .u32 s3.1 (IntKind.wrap .u32 x7)) (2 ^ 4)) x11) 15))) w4 fun v12 => fA v12 fun a13 =>
  ld Try.prog 119 a13 w4 fun v14 => fI .u32 v14 fun x15 =>
  next5 (((bxor .u32 (Int.fdiv (bxor .u32 (Int.fdiv (bxor .u32 s3.1 (IntKind.wrap .u32 x7)) (2 ^ 4)) x11) (2 ^ 4)) x15) : Int), ((IntKind.wrap .i64 (s3.2.1 + 1)) : Int), ()) w4) (Q (.int .u32 (bxor .u32 (IntKind.max .u32) s3.1)) w4)) ((4294967295 : Int), (0 : Int), ()) w
def W.image_Checksum (s_ : ByteArray) (w : World) (Q : Value → World → Prop) : Prop :=
  al 169 (zeroT Try.prog 169).cells w fun a2 w1 =>
  LoopW (S := Int × Unit) (fun s16 w17 next18 =>
  br (decide ((s16.1 : Int) < 16)) (LoopW (S := Int × Int × Unit) (fun s19 w20 next21 =>
  br (decide ((s19.2.1 : Int) < 4)) (br (((band .u32 s19.1 1) : Int) != 0) (next21 (((bxor .u32 (Int.fdiv s19.1 (2 ^ 1)) 3988292384) : Int), ((IntKind.wrap .i64 (s19.2.1 + 1)) : Int), ()) w20) (next21 (((Int.fdiv s19.1 (2 ^ 1)) : Int), ((IntKind.wrap .i64 (s19.2.1 + 1)) : Int), ()) w20)) (rq Try.prog (Instr.indexAt 169 (.pointer (some a2)) (.int .i64 s16.1)) w20 fun v22 => fA v22 fun a23 =>
  st Try.prog 119 a23 (.int .u32 s19.1) w20 fun w24 =>
  next18 (((IntKind.wrap .i64 (s16.1 + 1)) : Int), ()) w24)) (((IntKind.wrap .u32 s16.1) : Int), (0 : Int), ()) w17) (W.image_Checksum_k14 s_ a2 w17 Q)) ((0 : Int), ()) w1
theorem E.image_Checksum (s_ : ByteArray) (w : World) (Q : Value → World → Prop) : ev Try.prog Try.f73.ntmps callable [(16, [(6, .int .u32 0), (7, .int .i64 0)], [0, 3]), (3, [(8, .int .i64 0)], [0, 3]), (7, [(5, .int .u32 0), (13, .int .i64 0)], [0, 3, 4, 8])] [] (Try.f73.body.getD .skip) (enumE 0 [(.string s_)]) w (KQ Try.prog Try.f73.results.toList Q) = W.image_Checksum s_ w Q := by kernel_rfl
theorem C.image_Checksum (s_ : ByteArray) (w : World) (Q : Value → World → Prop) (h : W.image_Checksum s_ w Q) : CallE Try.prog 73 #[(.string s_)] w Q :=
  calls_of_ev mixed callable_ok (args := [(.string s_)]) Try.func73 rfl ((E.image_Checksum s_ w Q).symm ▸ h)

def W.image_EncodeHeader (h_ : Array Value) (w : World) (Q : Value → World → Prop) : Prop :=
  al 121 h_ w fun a2 w1 =>
  rv Try.prog (Instr.makeSlice 82 (.int .i64 0) (.int .i64 64)) w1 fun v3 w4 => fS v3 fun l5 l5n l5c =>
  rv Try.prog (Builtin.append_ #[82, 9] 82 #[(.slice l5 l5n l5c), (.string ⟨#[72,73,66,49]⟩)]) w4 fun v6 w7 => fS v6 fun l8 l8n l8c =>
  ld Try.prog 32 (a2.add 0) w7 fun v9 => fI .u64 v9 fun x10 =>
  CallE Try.prog 72 #[(.slice l8 l8n l8c), (.int .u64 x10), (.int .i64 8)] w7 fun v11 w12 => fS v11 fun l13 l13n l13c =>
  rq Try.prog (Instr.sliceAt 31 (.pointer (some (a2.add 1))) none none none) w12 fun v14 => fS v14 fun l15 l15n l15c =>
  rv Try.prog (Builtin.append_ #[82, 82] 82 #[(.slice l13 l13n l13c), (.slice l15 l15n l15c)]) w12 fun v16 w17 => fS v16 fun l18 l18n l18c =>
  ld Try.prog 119 (a2.add 33) w17 fun v19 => fI .u32 v19 fun x20 =>
  CallE Try.prog 72 #[(.slice l18 l18n l18c), (.int .u64 (IntKind.wrap .u64 x20)), (.int .i64 4)] w17 fun v21 w22 => fS v21 fun l23 l23n l23c =>
  ld Try.prog 119 (a2.add 34) w22 fun v24 => fI .u32 v24 fun x25 =>
  CallE Try.prog 72 #[(.slice l23 l23n l23c), (.int .u64 (IntKind.wrap .u64 x25)), (.int .i64 4)] w22 fun v26 w27 => fS v26 fun l28 l28n l28c =>
  rv Try.prog (convert 82 9 (.slice l28 l28n l28c)) w27 fun v29 w30 => fT v29 fun t31 =>
  CallE Try.prog 73 #[(.string t31)] w30 fun v32 w33 => fI .u32 v32 fun x34 =>
  CallE Try.prog 72 #[(.slice l28 l28n l28c), (.int .u64 (IntKind.wrap .u64 x34)), (.int .i64 4)] w33 fun v35 w36 => fS v35 fun l37 l37n l37c =>
  CallE Try.prog 72 #[(.slice l37 l37n l37c), (.int .u64 0), (.int .i64 8)] w36 fun v38 w39 => fS v38 fun l40 l40n l40c =>
  rv Try.prog (convert 82 9 (.slice l40 l40n l40c)) w39 fun v41 w42 => fT v41 fun t43 =>
  Q (.string t43) w42
theorem E.image_EncodeHeader (h_ : Array Value) (w : World) (Q : Value → World → Prop) : ev Try.prog Try.f74.ntmps callable [] [] (Try.f74.body.getD .skip) (enumE 0 [(.agg h_)]) w (KQ Try.prog Try.f74.results.toList Q) = W.image_EncodeHeader h_ w Q := by kernel_rfl
theorem C.image_EncodeHeader (h_ : Array Value) (w : World) (Q : Value → World → Prop) (h : W.image_EncodeHeader h_ w Q) : CallE Try.prog 74 #[(.agg h_)] w Q :=
  calls_of_ev mixed callable_ok (args := [(.agg h_)]) Try.func74 rfl ((E.image_EncodeHeader h_ w Q).symm ▸ h)

def W.hibernate_Freezer_timely (f_ : Addr) (now_ : Int) (w : World) (Q : Value → World → Prop) : Prop :=
  ld Try.prog 32 (f_.add 1) w fun v1 => fI .u64 v1 fun x2 =>
  br (decide ((now_ : Int) ≥ x2)) (Q (.bool (decide ((now_ : Int) ≤ 1152921504606846976))) w) (Q (.bool false) w)
theorem E.hibernate_Freezer_timely (f_ : Addr) (now_ : Int) (w : World) (Q : Value → World → Prop) : ev Try.prog Try.f75.ntmps callable [] [] (Try.f75.body.getD .skip) (enumE 0 [(.pointer (some f_)), (.int .u64 now_)]) w (KQ Try.prog Try.f75.results.toList Q) = W.hibernate_Freezer_timely f_ now_ w Q := by kernel_rfl
theorem C.hibernate_Freezer_timely (f_ : Addr) (now_ : Int) (w : World) (Q : Value → World → Prop) (h : W.hibernate_Freezer_timely f_ now_ w Q) : CallE Try.prog 75 #[(.pointer (some f_)), (.int .u64 now_)] w Q :=
  calls_of_ev mixed callable_ok (args := [(.pointer (some f_)), (.int .u64 now_)]) Try.func75 rfl ((E.hibernate_Freezer_timely f_ now_ w Q).symm ▸ h)

def W.ref35_Freezer_bad (f_ : Addr) (now_ : Int) (later_ : Int) (w : World) (Q : Value → World → Prop) : Prop :=
  br (decide ((later_ : Int) < now_)) (Q (.bool true) w) (br (decide ((later_ : Int) > 1152921504606846976)) (Q (.bool true) w) (ld Try.prog 32 (f_.add 3) w fun v1 => fI .u64 v1 fun x2 =>
  br (decide ((now_ : Int) < x2)) (Q (.bool true) w) (Q (.bool (decide ((now_ : Int) > 1152921504606846976))) w)))
theorem E.ref35_Freezer_bad (f_ : Addr) (now_ : Int) (later_ : Int) (w : World) (Q : Value → World → Prop) : ev Try.prog Try.f76.ntmps callable [] [] (Try.f76.body.getD .skip) (enumE 0 [(.pointer (some f_)), (.int .u64 now_), (.int .u64 later_)]) w (KQ Try.prog Try.f76.results.toList Q) = W.ref35_Freezer_bad f_ now_ later_ w Q := by kernel_rfl
theorem C.ref35_Freezer_bad (f_ : Addr) (now_ : Int) (later_ : Int) (w : World) (Q : Value → World → Prop) (h : W.ref35_Freezer_bad f_ now_ later_ w Q) : CallE Try.prog 76 #[(.pointer (some f_)), (.int .u64 now_), (.int .u64 later_)] w Q :=
  calls_of_ev mixed callable_ok (args := [(.pointer (some f_)), (.int .u64 now_), (.int .u64 later_)]) Try.func76 rfl ((E.ref35_Freezer_bad f_ now_ later_ w Q).symm ▸ h)

def W.hibernate_Freezer_known (f_ : Addr) (process_ : Int) (w : World) (Q : Value → World → Prop) : Prop :=
  br (decide ((process_ : Int) ≥ 0)) (ld Try.prog 67 (f_.add 3) w fun v1 => fS v1 fun l2 l2n l2c =>
  Q (.bool (decide ((process_ : Int) < ((l2n : Nat) : Int)))) w) (Q (.bool false) w)
theorem E.hibernate_Freezer_known (f_ : Addr) (process_ : Int) (w : World) (Q : Value → World → Prop) : ev Try.prog Try.f77.ntmps callable [] [] (Try.f77.body.getD .skip) (enumE 0 [(.pointer (some f_)), (.int .i64 process_)]) w (KQ Try.prog Try.f77.results.toList Q) = W.hibernate_Freezer_known f_ process_ w Q := by kernel_rfl
theorem C.hibernate_Freezer_known (f_ : Addr) (process_ : Int) (w : World) (Q : Value → World → Prop) (h : W.hibernate_Freezer_known f_ process_ w Q) : CallE Try.prog 77 #[(.pointer (some f_)), (.int .i64 process_)] w Q :=
  calls_of_ev mixed callable_ok (args := [(.pointer (some f_)), (.int .i64 process_)]) Try.func77 rfl ((E.hibernate_Freezer_known f_ process_ w Q).symm ▸ h)

def W.blockdev_Disk_lose_k6 (p0 : Addr) (w : World) (Q : Value → World → Prop) : Prop :=
  st Try.prog 112 (p0.add 2) (.slice none 0 0) w fun w1 =>
  dr w1 fun w2 =>
  ld Try.prog 49 (p0.add 1) w2 fun v3 => fS v3 fun l4 l4n l4c =>
  ld Try.prog 49 (p0.add 0) w2 fun v5 => fS v5 fun l6 l6n l6c =>
  rv Try.prog (Builtin.copy_ #[49, 49] 3 #[(.slice l4 l4n l4c), (.slice l6 l6n l6c)]) w2 fun v7 w8 => fI .i64 v7 fun x9 =>
  st Try.prog 4 (p0.add 3) (.bool true) w8 fun w10 =>
  CallE Try.prog 79 #[(.pointer (some p0))] w10 fun v11 w12 => v11 = .tuple #[] ∧
  Q (.tuple #[]) w12
def W.blockdev_Disk_lose_k4 (p0 : Addr) (p1 : Option Addr) (p1n : Nat) (p1c : Nat) (p5 : Addr) (p9 : Option Addr) (p9n : Nat) (p9c : Nat) (p10 : Int) (p11 : Int) (p25 : Bool) (next17 : (Int × Unit) → World → Prop) (w : World) (Q : Value → World → Prop) : Prop :=
  br p25 (dr w fun w25 =>
  ld Try.prog 49 (p0.add 0) w25 fun v26 => fS v26 fun l27 l27n l27c =>
  ld Try.prog 3 (p5.add 0) w25 fun v28 => fI .i64 v28 fun x29 =>
  ld Try.prog 9 (p5.add 1) w25 fun v30 => fT v30 fun t31 =>
  rq Try.prog (Instr.indexAt 49 (.slice l27 l27n l27c) (.int .i64 x29)) w25 fun v32 => fA v32 fun a33 =>
  st Try.prog 9 a33 (.string t31) w25 fun w34 =>
  next17 (((IntKind.wrap .i64 (p11 + 1)) : Int), ()) w34) (next17 (((IntKind.wrap .i64 (p11 + 1)) : Int), ()) w)
def W.blockdev_Disk_lose (d_ : Addr) (keep_ : Option Addr) (keep_n : Nat) (keep_c : Nat) (w : World) (Q : Value → World → Prop) : Prop :=
  ld Try.prog 112 (d_.add 2) w fun v13 => fS v13 fun l14 l14n l14c =>
  LoopW (S := Int × Unit) (fun s15 w16 next17 =>
  br (decide ((s15.1 : Int) < ((l14n : Nat) : Int))) (rq Try.prog (Instr.indexAt 112 (.slice l14 l14n l14c) (.int .i64 s15.1)) w16 fun v18 => fA v18 fun a19 =>
  ld Try.prog 164 a19 w16 fun v20 => fG v20 fun g21 =>
  al 164 (zeroT Try.prog 164).cells w16 fun a23 w22 =>
  st Try.prog 164 a23 (.agg g21) w22 fun w24 =>
  br (decide ((s15.1 : Int) < ((keep_n : Nat) : Int))) (rq Try.prog (Instr.indexAt 78 (.slice keep_ keep_n keep_c) (.int .i64 s15.1)) w24 fun v35 => fA v35 fun a36 =>
  ld Try.prog 4 a36 w24 fun v37 => fB v37 fun b38 =>
  W.blockdev_Disk_lose_k4 d_ keep_ keep_n keep_c a23 l14 l14n l14c ((l14n : Nat) : Int) s15.1 b38 next17 w24 Q) (W.blockdev_Disk_lose_k4 d_ keep_ keep_n keep_c a23 l14 l14n l14c ((l14n : Nat) : Int) s15.1 false next17 w24 Q)) (W.blockdev_Disk_lose_k6 d_ w16 Q)) ((0 : Int), ()) w
theorem E.blockdev_Disk_lose (d_ : Addr) (keep_ : Option Addr) (keep_n : Nat) (keep_c : Nat) (w : World) (Q : Value → World → Prop) : ev Try.prog Try.f78.ntmps callable [(1, [(11, .int .i64 0)], [0, 1, 9, 10])] [] (Try.f78.body.getD .skip) (enumE 0 [(.pointer (some d_)), (.slice keep_ keep_n keep_c)]) w (KQ Try.prog Try.f78.results.toList Q) = W.blockdev_Disk_lose d_ keep_ keep_n keep_c w Q := by kernel_rfl
theorem C.blockdev_Disk_lose (d_ : Addr) (keep_ : Option Addr) (keep_n : Nat) (keep_c : Nat) (w : World) (Q : Value → World → Prop) (h : W.blockdev_Disk_lose d_ keep_ keep_n keep_c w Q) : CallE Try.prog 78 #[(.pointer (some d_)), (.slice keep_ keep_n keep_c)] w Q :=
  calls_of_ev mixed callable_ok (args := [(.pointer (some d_)), (.slice keep_ keep_n keep_c)]) Try.func78 rfl ((E.blockdev_Disk_lose d_ keep_ keep_n keep_c w Q).symm ▸ h)

def W.blockdev_Disk_removePlan (d_ : Addr) (w : World) (Q : Value → World → Prop) : Prop :=
  st Try.prog 4 (d_.add 4) (.bool false) w fun w1 =>
  st Try.prog 3 (d_.add 5) (.int .i64 0) w1 fun w2 =>
  st Try.prog 78 (d_.add 6) (.slice none 0 0) w2 fun w3 =>
  Q (.tuple #[]) w3
theorem E.blockdev_Disk_removePlan (d_ : Addr) (w : World) (Q : Value → World → Prop) : ev Try.prog Try.f79.ntmps callable [] [] (Try.f79.body.getD .skip) (enumE 0 [(.pointer (some d_))]) w (KQ Try.prog Try.f79.results.toList Q) = W.blockdev_Disk_removePlan d_ w Q := by kernel_rfl
theorem C.blockdev_Disk_removePlan (d_ : Addr) (w : World) (Q : Value → World → Prop) (h : W.blockdev_Disk_removePlan d_ w Q) : CallE Try.prog 79 #[(.pointer (some d_))] w Q :=
  calls_of_ev mixed callable_ok (args := [(.pointer (some d_))]) Try.func79 rfl ((E.blockdev_Disk_removePlan d_ w Q).symm ▸ h)

def W.slices_Clone___bool_bool_ (s_ : Option Addr) (s_n : Nat) (s_c : Nat) (w : World) (Q : Value → World → Prop) : Prop :=
  rq Try.prog (do eqGuard .eql 78 (.tmp 3) (.const (.slice none 0 0)) (.slice s_ s_n s_c) (.slice none 0 0); binOp .eql 78 (.slice s_ s_n s_c) (.slice none 0 0)) w fun v1 => fB v1 fun b2 =>
  br b2 (Q (.slice none 0 0) w) (al 4 #[] w fun a4 w3 =>
  rv Try.prog (Builtin.append_ #[78, 78] 78 #[(.slice (some a4) 0 0), (.slice s_ s_n s_c)]) w3 fun v5 w6 => fS v5 fun l7 l7n l7c =>
  Q (.slice l7 l7n l7c) w6)
theorem E.slices_Clone___bool_bool_ (s_ : Option Addr) (s_n : Nat) (s_c : Nat) (w : World) (Q : Value → World → Prop) : ev Try.prog Try.f80.ntmps callable [] [] (Try.f80.body.getD .skip) (enumE 0 [(.slice s_ s_n s_c)]) w (KQ Try.prog Try.f80.results.toList Q) = W.slices_Clone___bool_bool_ s_ s_n s_c w Q := by kernel_rfl
theorem C.slices_Clone___bool_bool_ (s_ : Option Addr) (s_n : Nat) (s_c : Nat) (w : World) (Q : Value → World → Prop) (h : W.slices_Clone___bool_bool_ s_ s_n s_c w Q) : CallE Try.prog 80 #[(.slice s_ s_n s_c)] w Q :=
  calls_of_ev mixed callable_ok (args := [(.slice s_ s_n s_c)]) Try.func80 rfl ((E.slices_Clone___bool_bool_ s_ s_n s_c w Q).symm ▸ h)

def W.ref34_Encode_k16 (p4 : ByteArray) (p10 : Option Addr) (p10n : Nat) (p10c : Nat) (w : World) (Q : Value → World → Prop) : Prop :=
  LoopW (S := (Option Addr × Nat × Nat) × Int × Unit) (fun s12 w13 next14 =>
  br (decide ((s12.2.1 : Int) < ((p4.size : Nat) : Int))) (rq Try.prog (Instr.sliceAt 9 (.string p4) (some (.int .i64 s12.2.1)) (some (.int .i64 (IntKind.wrap .i64 (s12.2.1 + 64)))) none) w13 fun v15 => fT v15 fun t16 =>
  al 9 #[(.string t16)] w13 fun a18 w17 =>
  rv Try.prog (Builtin.append_ #[49, 49] 49 #[(.slice s12.1.1 s12.1.2.1 s12.1.2.2), (.slice (some a18) 1 1)]) w17 fun v19 w20 => fS v19 fun l21 l21n l21c =>
  next14 ((l21, l21n, l21c), ((IntKind.wrap .i64 (s12.2.1 + 64)) : Int), ()) w20) (Q (.tuple #[(.slice s12.1.1 s12.1.2.1 s12.1.2.2), (.int .i64 0)]) w13)) ((p10, p10n, p10c), (0 : Int), ()) w
def W.ref34_Encode_k13 (p4 : ByteArray) (p9 : Addr) (w : World) (Q : Value → World → Prop) : Prop :=
  ld Try.prog 121 p9 w fun v5 => fG v5 fun g6 =>
  CallE Try.prog 110 #[(.agg g6)] w fun v7 w8 => fT v7 fun t9 =>
  al 9 #[(.string t9)] w8 fun a11 w10 =>
  LoopW (S := ByteArray × Unit) (fun s22 w23 next24 =>
  br (((Int.tmod ((s22.1.size : Nat) : Int) 64) : Int) != 0) (rq Try.prog (do eqGuard .add 9 (.tmp 94) (.const (.string ⟨#[0]⟩)) (.string s22.1) (.string ⟨#[0]⟩); binOp .add 9 (.string s22.1) (.string ⟨#[0]⟩)) w23 fun v25 => fT v25 fun t26 =>
  next24 (t26, ()) w23) (W.ref34_Encode_k16 s22.1 (some a11) 1 1 w23 Q)) (p4, ()) w10
def W.ref34_Encode_k12 (p1 : Addr) (p4 : ByteArray) (w : World) (Q : Value → World → Prop) : Prop :=
  drawE fun S27 => S27 (drew w) ∧ (ldS Try.prog S27 32 (p1.add 32) fun v28 => fI .u64 v28 fun x29 =>
  ldS Try.prog S27 31 (p1.add 0) fun v30 => fG v30 fun g31 =>
  (CallE Try.prog 109 #[(.string p4)] (drew w) fun v32 w33 => fI .u32 v32 fun x34 =>
  S27 w33 ∧ (rqS Try.prog S27 (Instr.build 121 #[(0, (.int .u64 x29)), (1, (.agg g31)), (2, (.int .u32 (IntKind.wrap .u32 ((p4.size : Nat) : Int)))), (3, (.int .u32 x34))]) fun v35 => fG v35 fun g36 =>
  al 121 (zeroT Try.prog 121).cells w33 fun a38 w37 =>
  S27 w37 ∧ (st Try.prog 121 a38 (.agg g36) w37 fun w39 =>
  S27 w39 ∧ (W.ref34_Encode_k13 p4 a38 w39 Q)))) ∧ (al 121 (zeroT Try.prog 121).cells (drew w) fun a41 w40 =>
  S27 w40 ∧ (CallE Try.prog 109 #[(.string p4)] w40 fun v42 w43 => fI .u32 v42 fun x44 =>
  S27 w43 ∧ (rqS Try.prog S27 (Instr.build 121 #[(0, (.int .u64 x29)), (1, (.agg g31)), (2, (.int .u32 (IntKind.wrap .u32 ((p4.size : Nat) : Int)))), (3, (.int .u32 x44))]) fun v45 => fG v45 fun g46 =>
  st Try.prog 121 a41 (.agg g46) w43 fun w47 =>
  S27 w47 ∧ (W.ref34_Encode_k13 p4 a41 w47 Q)))))
def W.ref34_Encode_k10 (p1 : Addr) (p4 : ByteArray) (p5 : Int) (p6 : Addr) (next50 : (ByteArray × Int × Unit) → World → Prop) (w : World) (Q : Value → World → Prop) : Prop :=
  ld Try.prog 9 (p6.add 1) w fun v62 => fT v62 fun t63 =>
  CallE Try.prog 107 #[(.string t63)] w fun v64 w65 => ∃ (t66 : ByteArray) (x67 : Int), v64 = .tuple #[(.string t66), (.int .i64 x67)] ∧
  ld Try.prog 3 (p6.add 0) w65 fun v68 => fI .i64 v68 fun x69 =>
  CallE Try.prog 108 #[(.int .u64 (IntKind.wrap .u64 x69)), (.int .i64 4)] w65 fun v70 w71 => fT v70 fun t72 =>
  rq Try.prog (do eqGuard .add 9 (.tmp 64) (.tmp 68) (.string p4) (.string t72); binOp .add 9 (.string p4) (.string t72)) w71 fun v73 => fT v73 fun t74 =>
  CallE Try.prog 108 #[(.int .u64 (IntKind.wrap .u64 ((t66.size : Nat) : Int))), (.int .i64 2)] w71 fun v75 w76 => fT v75 fun t77 =>
  rq Try.prog (do eqGuard .add 9 (.tmp 69) (.tmp 73) (.string t74) (.string t77); binOp .add 9 (.string t74) (.string t77)) w76 fun v78 => fT v78 fun t79 =>
  rq Try.prog (do eqGuard .add 9 (.tmp 74) (.tmp 75) (.string t79) (.string t66); binOp .add 9 (.string t79) (.string t66)) w76 fun v80 => fT v80 fun t81 =>
  next50 (t81, ((IntKind.wrap .i64 (p5 + 1)) : Int), ()) w76
def W.ref34_Encode (i_ : Array Value) (w : World) (Q : Value → World → Prop) : Prop :=
  al 41 i_ w fun a2 w1 =>
  ld Try.prog 39 (a2.add 33) w1 fun v3 => fS v3 fun l4 l4n l4c =>
  br (decide ((((l4n : Nat) : Int) : Int) > 512)) (Q (.tuple #[(.slice none 0 0), (.int .i64 1)]) w1) (LoopW (S := ByteArray × Int × Unit) (fun s48 w49 next50 =>
  ld Try.prog 39 (a2.add 33) w49 fun v51 => fS v51 fun l52 l52n l52c =>
  br (decide ((s48.2.1 : Int) < ((l52n : Nat) : Int))) (ld Try.prog 39 (a2.add 33) w49 fun v53 => fS v53 fun l54 l54n l54c =>
  rq Try.prog (Instr.indexAt 39 (.slice l54 l54n l54c) (.int .i64 s48.2.1)) w49 fun v55 => fA v55 fun a56 =>
  ld Try.prog 85 a56 w49 fun v57 => fG v57 fun g58 =>
  al 85 (zeroT Try.prog 85).cells w49 fun a60 w59 =>
  st Try.prog 85 a60 (.agg g58) w59 fun w61 =>
  dr w61 fun w82 =>
  ld Try.prog 9 (a60.add 1) w82 fun v83 => fT v83 fun t84 =>
  br ((((t84.size : Nat) : Int) : Int) != 256) (Q (.tuple #[(.slice none 0 0), (.int .i64 1)]) w82) (ld Try.prog 3 (a60.add 0) w82 fun v85 => fI .i64 v85 fun x86 =>
  br (decide ((x86 : Int) < 0)) (Q (.tuple #[(.slice none 0 0), (.int .i64 1)]) w82) (ld Try.prog 3 (a60.add 0) w82 fun v87 => fI .i64 v87 fun x88 =>
  br (decide ((x88 : Int) > 2147483647)) (Q (.tuple #[(.slice none 0 0), (.int .i64 1)]) w82) (br (decide ((s48.2.1 : Int) > 0)) (ld Try.prog 3 (a60.add 0) w82 fun v89 => fI .i64 v89 fun x90 =>
  ld Try.prog 39 (a2.add 33) w82 fun v91 => fS v91 fun l92 l92n l92c =>
  rq Try.prog (Instr.indexAt 39 (.slice l92 l92n l92c) (.int .i64 (IntKind.wrap .i64 (s48.2.1 - 1)))) w82 fun v93 => fA v93 fun a94 =>
  ld Try.prog 3 (a94.add 0) w82 fun v95 => fI .i64 v95 fun x96 =>
  br (decide ((x90 : Int) ≤ x96)) (Q (.tuple #[(.slice none 0 0), (.int .i64 1)]) w82) (W.ref34_Encode_k10 a2 s48.1 s48.2.1 a60 next50 w82 Q)) (W.ref34_Encode_k10 a2 s48.1 s48.2.1 a60 next50 w82 Q))))) (W.ref34_Encode_k12 a2 s48.1 w49 Q)) (⟨#[]⟩, (0 : Int), ()) w1)
theorem E.ref34_Encode (i_ : Array Value) (w : World) (Q : Value → World → Prop) : ev Try.prog Try.f81.ntmps callable [(17, [(10, .slice none 0 0), (11, .int .i64 0)], [4]), (14, [(4, .string ⟨#[]⟩)], [10]), (5, [(4, .string ⟨#[]⟩), (5, .int .i64 0)], [1])] [] (Try.f81.body.getD .skip) (enumE 0 [(.agg i_)]) w (KQ Try.prog Try.f81.results.toList Q) = W.ref34_Encode i_ w Q := by kernel_rfl
theorem C.ref34_Encode (i_ : Array Value) (w : World) (Q : Value → World → Prop) (h : W.ref34_Encode i_ w Q) : CallE Try.prog 81 #[(.agg i_)] w Q :=
  calls_of_ev mixed callable_ok (args := [(.agg i_)]) Try.func81 rfl ((E.ref34_Encode i_ w Q).symm ▸ h)

def W.ref32_Disk_Size (d_ : Addr) (w : World) (Q : Value → World → Prop) : Prop :=
  ld Try.prog 49 (d_.add 0) w fun v1 => fS v1 fun l2 l2n l2c =>
  Q (.int .i64 ((l2n : Nat) : Int)) w
theorem E.ref32_Disk_Size (d_ : Addr) (w : World) (Q : Value → World → Prop) : ev Try.prog Try.f82.ntmps callable [] [] (Try.f82.body.getD .skip) (enumE 0 [(.pointer (some d_))]) w (KQ Try.prog Try.f82.results.toList Q) = W.ref32_Disk_Size d_ w Q := by kernel_rfl
theorem C.ref32_Disk_Size (d_ : Addr) (w : World) (Q : Value → World → Prop) (h : W.ref32_Disk_Size d_ w Q) : CallE Try.prog 82 #[(.pointer (some d_))] w Q :=
  calls_of_ev mixed callable_ok (args := [(.pointer (some d_))]) Try.func82 rfl ((E.ref32_Disk_Size d_ w Q).symm ▸ h)

def W.ref32_Disk_Write_k10 (p0 : Addr) (p1 : Int) (p2 : ByteArray) (w : World) (Q : Value → World → Prop) : Prop :=
  ld Try.prog 140 (p0.add 1) w fun v11 => fS v11 fun l12 l12n l12c =>
  al 176 #[(.int .i64 p1), (.string p2)] w fun a14 w13 =>
  rv Try.prog (Builtin.append_ #[140, 140] 140 #[(.slice l12 l12n l12c), (.slice (some a14) 1 1)]) w13 fun v15 w16 => fS v15 fun l17 l17n l17c =>
  st Try.prog 140 (p0.add 1) (.slice l17 l17n l17c) w16 fun w18 =>
  Q (.int .i64 0) w18
def W.ref32_Disk_Write (d_ : Addr) (sector_ : Int) (data_ : ByteArray) (w : World) (Q : Value → World → Prop) : Prop :=
  br (decide ((sector_ : Int) < 0)) (Q (.int .i64 1) w) (ld Try.prog 49 (d_.add 0) w fun v1 => fS v1 fun l2 l2n l2c =>
  br (decide ((sector_ : Int) ≥ ((l2n : Nat) : Int))) (Q (.int .i64 1) w) (br ((((data_.size : Nat) : Int) : Int) != 64) (Q (.int .i64 1) w) (ld Try.prog 4 (d_.add 2) w fun v3 => fB v3 fun b4 =>
  br b4 (Q (.int .i64 16) w) (ld Try.prog 3 (d_.add 3) w fun v5 => fI .i64 v5 fun x6 =>
  br ((x6 : Int) == 0) (ld Try.prog 78 (d_.add 4) w fun v7 => fS v7 fun l8 l8n l8c =>
  CallE Try.prog 88 #[(.pointer (some d_)), (.slice l8 l8n l8c)] w fun v9 w10 => v9 = .tuple #[] ∧
  Q (.int .i64 16) w10) (ld Try.prog 3 (d_.add 3) w fun v19 => fI .i64 v19 fun x20 =>
  br (decide ((x20 : Int) > 0)) (ld Try.prog 3 (d_.add 3) w fun v21 => fI .i64 v21 fun x22 =>
  st Try.prog 3 (d_.add 3) (.int .i64 (IntKind.wrap .i64 (x22 - 1))) w fun w23 =>
  W.ref32_Disk_Write_k10 d_ sector_ data_ w23 Q) (W.ref32_Disk_Write_k10 d_ sector_ data_ w Q))))))
theorem E.ref32_Disk_Write (d_ : Addr) (sector_ : Int) (data_ : ByteArray) (w : World) (Q : Value → World → Prop) : ev Try.prog Try.f83.ntmps callable [] [] (Try.f83.body.getD .skip) (enumE 0 [(.pointer (some d_)), (.int .i64 sector_), (.string data_)]) w (KQ Try.prog Try.f83.results.toList Q) = W.ref32_Disk_Write d_ sector_ data_ w Q := by kernel_rfl
theorem C.ref32_Disk_Write (d_ : Addr) (sector_ : Int) (data_ : ByteArray) (w : World) (Q : Value → World → Prop) (h : W.ref32_Disk_Write d_ sector_ data_ w Q) : CallE Try.prog 83 #[(.pointer (some d_)), (.int .i64 sector_), (.string data_)] w Q :=
  calls_of_ev mixed callable_ok (args := [(.pointer (some d_)), (.int .i64 sector_), (.string data_)]) Try.func83 rfl ((E.ref32_Disk_Write d_ sector_ data_ w Q).symm ▸ h)

def W.ref32_Disk_Flush (d_ : Addr) (w : World) (Q : Value → World → Prop) : Prop :=
  ld Try.prog 4 (d_.add 2) w fun v1 => fB v1 fun b2 =>
  br b2 (Q (.int .i64 16) w) (LoopW (S := Int × Unit) (fun s3 w4 next5 =>
  ld Try.prog 140 (d_.add 1) w4 fun v6 => fS v6 fun l7 l7n l7c =>
  br (decide ((s3.1 : Int) < ((l7n : Nat) : Int))) (dr w4 fun w8 =>
  ld Try.prog 49 (d_.add 0) w8 fun v9 => fS v9 fun l10 l10n l10c =>
  ld Try.prog 140 (d_.add 1) w8 fun v11 => fS v11 fun l12 l12n l12c =>
  rq Try.prog (Instr.indexAt 140 (.slice l12 l12n l12c) (.int .i64 s3.1)) w8 fun v13 => fA v13 fun a14 =>
  ld Try.prog 3 (a14.add 0) w8 fun v15 => fI .i64 v15 fun x16 =>
  ld Try.prog 140 (d_.add 1) w8 fun v17 => fS v17 fun l18 l18n l18c =>
  rq Try.prog (Instr.indexAt 140 (.slice l18 l18n l18c) (.int .i64 s3.1)) w8 fun v19 => fA v19 fun a20 =>
  ld Try.prog 9 (a20.add 1) w8 fun v21 => fT v21 fun t22 =>
  rq Try.prog (Instr.indexAt 49 (.slice l10 l10n l10c) (.int .i64 x16)) w8 fun v23 => fA v23 fun a24 =>
  st Try.prog 9 a24 (.string t22) w8 fun w25 =>
  next5 (((IntKind.wrap .i64 (s3.1 + 1)) : Int), ()) w25) (st Try.prog 140 (d_.add 1) (.slice none 0 0) w4 fun w26 =>
  Q (.int .i64 0) w26)) ((0 : Int), ()) w)
theorem E.ref32_Disk_Flush (d_ : Addr) (w : World) (Q : Value → World → Prop) : ev Try.prog Try.f84.ntmps callable [(4, [(3, .int .i64 0)], [0])] [] (Try.f84.body.getD .skip) (enumE 0 [(.pointer (some d_))]) w (KQ Try.prog Try.f84.results.toList Q) = W.ref32_Disk_Flush d_ w Q := by kernel_rfl
theorem C.ref32_Disk_Flush (d_ : Addr) (w : World) (Q : Value → World → Prop) (h : W.ref32_Disk_Flush d_ w Q) : CallE Try.prog 84 #[(.pointer (some d_))] w Q :=
  calls_of_ev mixed callable_ok (args := [(.pointer (some d_))]) Try.func84 rfl ((E.ref32_Disk_Flush d_ w Q).symm ▸ h)

def W.ref32_Disk_Read_k10 (p0 : Addr) (p1 : Int) (w : World) (Q : Value → World → Prop) : Prop :=
  ld Try.prog 49 (p0.add 0) w fun v5 => fS v5 fun l6 l6n l6c =>
  rq Try.prog (Instr.indexAt 49 (.slice l6 l6n l6c) (.int .i64 p1)) w fun v7 => fA v7 fun a8 =>
  ld Try.prog 9 a8 w fun v9 => fT v9 fun t10 =>
  Q (.tuple #[(.string t10), (.int .i64 0)]) w
def W.ref32_Disk_Read (d_ : Addr) (sector_ : Int) (w : World) (Q : Value → World → Prop) : Prop :=
  br (decide ((sector_ : Int) < 0)) (Q (.tuple #[(.string ⟨#[]⟩), (.int .i64 1)]) w) (ld Try.prog 49 (d_.add 0) w fun v1 => fS v1 fun l2 l2n l2c =>
  br (decide ((sector_ : Int) ≥ ((l2n : Nat) : Int))) (Q (.tuple #[(.string ⟨#[]⟩), (.int .i64 1)]) w) (ld Try.prog 4 (d_.add 2) w fun v3 => fB v3 fun b4 =>
  br b4 (Q (.tuple #[(.string ⟨#[]⟩), (.int .i64 16)]) w) (ld Try.prog 140 (d_.add 1) w fun v11 => fS v11 fun l12 l12n l12c =>
  LoopW (S := Int × Unit) (fun s13 w14 next15 =>
  br (decide ((s13.1 : Int) ≥ 0)) (ld Try.prog 140 (d_.add 1) w14 fun v16 => fS v16 fun l17 l17n l17c =>
  rq Try.prog (Instr.indexAt 140 (.slice l17 l17n l17c) (.int .i64 s13.1)) w14 fun v18 => fA v18 fun a19 =>
  ld Try.prog 3 (a19.add 0) w14 fun v20 => fI .i64 v20 fun x21 =>
  br ((x21 : Int) == sector_) (ld Try.prog 140 (d_.add 1) w14 fun v22 => fS v22 fun l23 l23n l23c =>
  rq Try.prog (Instr.indexAt 140 (.slice l23 l23n l23c) (.int .i64 s13.1)) w14 fun v24 => fA v24 fun a25 =>
  ld Try.prog 9 (a25.add 1) w14 fun v26 => fT v26 fun t27 =>
  Q (.tuple #[(.string t27), (.int .i64 0)]) w14) (next15 (((IntKind.wrap .i64 (s13.1 - 1)) : Int), ()) w14)) (W.ref32_Disk_Read_k10 d_ sector_ w14 Q)) (((IntKind.wrap .i64 (((l12n : Nat) : Int) - 1)) : Int), ()) w)))
theorem E.ref32_Disk_Read (d_ : Addr) (sector_ : Int) (w : World) (Q : Value → World → Prop) : ev Try.prog Try.f85.ntmps callable [(6, [(6, .int .i64 0)], [0, 1])] [] (Try.f85.body.getD .skip) (enumE 0 [(.pointer (some d_)), (.int .i64 sector_)]) w (KQ Try.prog Try.f85.results.toList Q) = W.ref32_Disk_Read d_ sector_ w Q := by kernel_rfl
theorem C.ref32_Disk_Read (d_ : Addr) (sector_ : Int) (w : World) (Q : Value → World → Prop) (h : W.ref32_Disk_Read d_ sector_ w Q) : CallE Try.prog 85 #[(.pointer (some d_)), (.int .i64 sector_)] w Q :=
  calls_of_ev mixed callable_ok (args := [(.pointer (some d_)), (.int .i64 sector_)]) Try.func85 rfl ((E.ref32_Disk_Read d_ sector_ w Q).symm ▸ h)

def W.ref34_DecodeHeader_k6 (p0 : ByteArray) (p2 : Addr) (p4 : Addr) (w : World) (Q : Value → World → Prop) : Prop :=
  LoopW (S := Int × Unit) (fun s41 w42 next43 =>
  br (decide ((s41.1 : Int) < 32)) (rq Try.prog (Instr.index 9 (.string p0) (.int .i64 (IntKind.wrap .i64 (12 + s41.1)))) w42 fun v44 => fI .u8 v44 fun x45 =>
  rq Try.prog (Instr.indexAt 31 (.pointer (some (p4.add 1))) (.int .i64 s41.1)) w42 fun v46 => fA v46 fun a47 =>
  st Try.prog 5 a47 (.int .u8 x45) w42 fun w48 =>
  next43 (((IntKind.wrap .i64 (s41.1 + 1)) : Int), ()) w48) (ld Try.prog 121 p4 w42 fun v49 => fG v49 fun g50 =>
  st Try.prog 121 p2 (.agg g50) w42 fun w51 =>
  ld Try.prog 121 p2 w51 fun v52 => fG v52 fun g53 =>
  Q (.tuple #[(.agg g53), (.int .i64 0)]) w51)) ((0 : Int), ()) w
def W.ref34_DecodeHeader (s_ : ByteArray) (w : World) (Q : Value → World → Prop) : Prop :=
  al 121 (zeroT Try.prog 121).cells w fun a2 w1 =>
  drawE fun S3 => S3 (drew w1) ∧ (br ((((s_.size : Nat) : Int) : Int) != 64) (S3 (drew w1) ∧ (S3 (drew w1) ∧ (st Try.prog 121 a2 (.agg #[(.int .u64 0), (.int .u8 0), (.int .u8 0), (.int .u8 0), (.int .u8 0), (.int .u8 0), (.int .u8 0), (.int .u8 0), (.int .u8 0), (.int .u8 0), (.int .u8 0), (.int .u8 0), (.int .u8 0), (.int .u8 0), (.int .u8 0), (.int .u8 0), (.int .u8 0), (.int .u8 0), (.int .u8 0), (.int .u8 0), (.int .u8 0), (.int .u8 0), (.int .u8 0), (.int .u8 0), (.int .u8 0), (.int .u8 0), (.int .u8 0), (.int .u8 0), (.int .u8 0), (.int .u8 0), (.int .u8 0), (.int .u8 0), (.int .u8 0), (.int .u32 0), (.int .u32 0)]) (drew w1) fun w4 =>
  ld Try.prog 121 a2 w4 fun v5 => fG v5 fun g6 =>
  Q (.tuple #[(.agg g6), (.int .i64 3)]) w4))) (rqS Try.prog S3 (Instr.sliceAt 9 (.string s_) none (some (.int .i64 4)) none) fun v7 => fT v7 fun t8 =>
  rqS Try.prog S3 (do eqGuard .neq 9 (.tmp 11) (.const (.string ⟨#[72,73,66,49]⟩)) (.string t8) (.string ⟨#[72,73,66,49]⟩); binOp .neq 9 (.string t8) (.string ⟨#[72,73,66,49]⟩)) fun v9 => fB v9 fun b10 =>
  br b10 (S3 (drew w1) ∧ (S3 (drew w1) ∧ (st Try.prog 121 a2 (.agg #[(.int .u64 0), (.int .u8 0), (.int .u8 0), (.int .u8 0), (.int .u8 0), (.int .u8 0), (.int .u8 0), (.int .u8 0), (.int .u8 0), (.int .u8 0), (.int .u8 0), (.int .u8 0), (.int .u8 0), (.int .u8 0), (.int .u8 0), (.int .u8 0), (.int .u8 0), (.int .u8 0), (.int .u8 0), (.int .u8 0), (.int .u8 0), (.int .u8 0), (.int .u8 0), (.int .u8 0), (.int .u8 0), (.int .u8 0), (.int .u8 0), (.int .u8 0), (.int .u8 0), (.int .u8 0), (.int .u8 0), (.int .u8 0), (.int .u8 0), (.int .u32 0), (.int .u32 0)]) (drew w1) fun w11 =>
  ld Try.prog 121 a2 w11 fun v12 => fG v12 fun g13 =>
  Q (.tuple #[(.agg g13), (.int .i64 3)]) w11))) (rqS Try.prog S3 (Instr.sliceAt 9 (.string s_) (some (.int .i64 56)) none none) fun v14 => fT v14 fun t15 =>
  rv Try.prog (Instr.makeSlice 82 (.int .i64 8) (.int .i64 8)) (drew w1) fun v16 w17 => fS v16 fun l18 l18n l18c =>
  S3 w17 ∧ (rv Try.prog (convert 82 9 (.slice l18 l18n l18c)) w17 fun v19 w20 => fT v19 fun t21 =>
  S3 w20 ∧ (rqS Try.prog S3 (do eqGuard .neq 9 (.tmp 16) (.tmp 18) (.string t15) (.string t21); binOp .neq 9 (.string t15) (.string t21)) fun v22 => fB v22 fun b23 =>
  br b23 (st Try.prog 121 a2 (.agg #[(.int .u64 0), (.int .u8 0), (.int .u8 0), (.int .u8 0), (.int .u8 0), (.int .u8 0), (.int .u8 0), (.int .u8 0), (.int .u8 0), (.int .u8 0), (.int .u8 0), (.int .u8 0), (.int .u8 0), (.int .u8 0), (.int .u8 0), (.int .u8 0), (.int .u8 0), (.int .u8 0), (.int .u8 0), (.int .u8 0), (.int .u8 0), (.int .u8 0), (.int .u8 0), (.int .u8 0), (.int .u8 0), (.int .u8 0), (.int .u8 0), (.int .u8 0), (.int .u8 0), (.int .u8 0), (.int .u8 0), (.int .u8 0), (.int .u8 0), (.int .u32 0), (.int .u32 0)]) w20 fun w24 =>
  ld Try.prog 121 a2 w24 fun v25 => fG v25 fun g26 =>
  Q (.tuple #[(.agg g26), (.int .i64 3)]) w24) (drawE fun S27 => S27 (drew w20) ∧ (rqS Try.prog S27 (Instr.sliceAt 9 (.string s_) (some (.int .i64 52)) (some (.int .i64 56)) none) fun v28 => fT v28 fun t29 =>
  rqS Try.prog S27 (Instr.sliceAt 9 (.string s_) none (some (.int .i64 52)) none) fun v30 => fT v30 fun t31 =>
  CallE Try.prog 111 #[(.string t29)] (drew w20) fun v32 w33 => fI .u64 v32 fun x34 =>
  S27 w33 ∧ (CallE Try.prog 109 #[(.string t31)] w33 fun v35 w36 => fI .u32 v35 fun x37 =>
  S27 w36 ∧ (br ((x34 : Int) != (IntKind.wrap .u64 x37)) (st Try.prog 121 a2 (.agg #[(.int .u64 0), (.int .u8 0), (.int .u8 0), (.int .u8 0), (.int .u8 0), (.int .u8 0), (.int .u8 0), (.int .u8 0), (.int .u8 0), (.int .u8 0), (.int .u8 0), (.int .u8 0), (.int .u8 0), (.int .u8 0), (.int .u8 0), (.int .u8 0), (.int .u8 0), (.int .u8 0), (.int .u8 0), (.int .u8 0), (.int .u8 0), (.int .u8 0), (.int .u8 0), (.int .u8 0), (.int .u8 0), (.int .u8 0), (.int .u8 0), (.int .u8 0), (.int .u8 0), (.int .u8 0), (.int .u8 0), (.int .u8 0), (.int .u8 0), (.int .u32 0), (.int .u32 0)]) w36 fun w38 =>
  ld Try.prog 121 a2 w38 fun v39 => fG v39 fun g40 =>
  Q (.tuple #[(.agg g40), (.int .i64 5)]) w38) (drawE fun S54 => S54 (drew w36) ∧ (rqS Try.prog S54 (Instr.sliceAt 9 (.string s_) (some (.int .i64 4)) (some (.int .i64 12)) none) fun v55 => fT v55 fun t56 =>
  rqS Try.prog S54 (Instr.sliceAt 9 (.string s_) (some (.int .i64 44)) (some (.int .i64 48)) none) fun v57 => fT v57 fun t58 =>
  rqS Try.prog S54 (Instr.sliceAt 9 (.string s_) (some (.int .i64 48)) (some (.int .i64 52)) none) fun v59 => fT v59 fun t60 =>
  (CallE Try.prog 111 #[(.string t56)] (drew w36) fun v61 w62 => fI .u64 v61 fun x63 =>
  S54 w62 ∧ ((CallE Try.prog 111 #[(.string t58)] w62 fun v64 w65 => fI .u64 v64 fun x66 =>
  S54 w65 ∧ ((CallE Try.prog 111 #[(.string t60)] w65 fun v67 w68 => fI .u64 v67 fun x69 =>
  S54 w68 ∧ (al 121 (zeroT Try.prog 121).cells w68 fun a71 w70 =>
  S54 w70 ∧ (st Try.prog 121 a71 (.agg #[(.int .u64 x63), (.int .u8 0), (.int .u8 0), (.int .u8 0), (.int .u8 0), (.int .u8 0), (.int .u8 0), (.int .u8 0), (.int .u8 0), (.int .u8 0), (.int .u8 0), (.int .u8 0), (.int .u8 0), (.int .u8 0), (.int .u8 0), (.int .u8 0), (.int .u8 0), (.int .u8 0), (.int .u8 0), (.int .u8 0), (.int .u8 0), (.int .u8 0), (.int .u8 0), (.int .u8 0), (.int .u8 0), (.int .u8 0), (.int .u8 0), (.int .u8 0), (.int .u8 0), (.int .u8 0), (.int .u8 0), (.int .u8 0), (.int .u8 0), (.int .u32 (IntKind.wrap .u32 x66)), (.int .u32 (IntKind.wrap .u32 x69))]) w70 fun w72 =>
  S54 w72 ∧ (W.ref34_DecodeHeader_k6 s_ a2 a71 w72 Q)))) ∧ (al 121 (zeroT Try.prog 121).cells w65 fun a74 w73 =>
  S54 w73 ∧ (CallE Try.prog 111 #[(.string t60)] w73 fun v75 w76 => fI .u64 v75 fun x77 =>
  S54 w76 ∧ (st Try.prog 121 a74 (.agg #[(.int .u64 x63), (.int .u8 0), (.int .u8 0), (.int .u8 0), (.int .u8 0), (.int .u8 0), (.int .u8 0), (.int .u8 0), (.int .u8 0), (.int .u8 0), (.int .u8 0), (.int .u8 0), (.int .u8 0), (.int .u8 0), (.int .u8 0), (.int .u8 0), (.int .u8 0), (.int .u8 0), (.int .u8 0), (.int .u8 0), (.int .u8 0), (.int .u8 0), (.int .u8 0), (.int .u8 0), (.int .u8 0), (.int .u8 0), (.int .u8 0), (.int .u8 0), (.int .u8 0), (.int .u8 0), (.int .u8 0), (.int .u8 0), (.int .u8 0), (.int .u32 (IntKind.wrap .u32 x66)), (.int .u32 (IntKind.wrap .u32 x77))]) w76 fun w78 =>
  S54 w78 ∧ (W.ref34_DecodeHeader_k6 s_ a2 a74 w78 Q)))))) ∧ (al 121 (zeroT Try.prog 121).cells w62 fun a80 w79 =>
  S54 w79 ∧ (CallE Try.prog 111 #[(.string t58)] w79 fun v81 w82 => fI .u64 v81 fun x83 =>
  S54 w82 ∧ (CallE Try.prog 111 #[(.string t60)] w82 fun v84 w85 => fI .u64 v84 fun x86 =>
  S54 w85 ∧ (st Try.prog 121 a80 (.agg #[(.int .u64 x63), (.int .u8 0), (.int .u8 0), (.int .u8 0), (.int .u8 0), (.int .u8 0), (.int .u8 0), (.int .u8 0), (.int .u8 0), (.int .u8 0), (.int .u8 0), (.int .u8 0), (.int .u8 0), (.int .u8 0), (.int .u8 0), (.int .u8 0), (.int .u8 0), (.int .u8 0), (.int .u8 0), (.int .u8 0), (.int .u8 0), (.int .u8 0), (.int .u8 0), (.int .u8 0), (.int .u8 0), (.int .u8 0), (.int .u8 0), (.int .u8 0), (.int .u8 0), (.int .u8 0), (.int .u8 0), (.int .u8 0), (.int .u8 0), (.int .u32 (IntKind.wrap .u32 x83)), (.int .u32 (IntKind.wrap .u32 x86))]) w85 fun w87 =>
  S54 w87 ∧ (W.ref34_DecodeHeader_k6 s_ a2 a80 w87 Q))))))) ∧ (al 121 (zeroT Try.prog 121).cells (drew w36) fun a89 w88 =>
  S54 w88 ∧ (CallE Try.prog 111 #[(.string t56)] w88 fun v90 w91 => fI .u64 v90 fun x92 =>
  S54 w91 ∧ (CallE Try.prog 111 #[(.string t58)] w91 fun v93 w94 => fI .u64 v93 fun x95 =>
  S54 w94 ∧ (CallE Try.prog 111 #[(.string t60)] w94 fun v96 w97 => fI .u64 v96 fun x98 =>
  S54 w97 ∧ (st Try.prog 121 a89 (.agg #[(.int .u64 x92), (.int .u8 0), (.int .u8 0), (.int .u8 0), (.int .u8 0), (.int .u8 0), (.int .u8 0), (.int .u8 0), (.int .u8 0), (.int .u8 0), (.int .u8 0), (.int .u8 0), (.int .u8 0), (.int .u8 0), (.int .u8 0), (.int .u8 0), (.int .u8 0), (.int .u8 0), (.int .u8 0), (.int .u8 0), (.int .u8 0), (.int .u8 0), (.int .u8 0), (.int .u8 0), (.int .u8 0), (.int .u8 0), (.int .u8 0), (.int .u8 0), (.int .u8 0), (.int .u8 0), (.int .u8 0), (.int .u8 0), (.int .u8 0), (.int .u32 (IntKind.wrap .u32 x95)), (.int .u32 (IntKind.wrap .u32 x98))]) w97 fun w99 =>
  S54 w99 ∧ (W.ref34_DecodeHeader_k6 s_ a2 a89 w99 Q)))))))))))))))))
theorem E.ref34_DecodeHeader (s_ : ByteArray) (w : World) (Q : Value → World → Prop) : ev Try.prog Try.f86.ntmps callable [(7, [(5, .int .i64 0)], [0, 2, 4])] [] (Try.f86.body.getD .skip) (enumE 0 [(.string s_)]) w (KQ Try.prog Try.f86.results.toList Q) = W.ref34_DecodeHeader s_ w Q := by kernel_rfl
theorem C.ref34_DecodeHeader (s_ : ByteArray) (w : World) (Q : Value → World → Prop) (h : W.ref34_DecodeHeader s_ w Q) : CallE Try.prog 86 #[(.string s_)] w Q :=
  calls_of_ev mixed callable_ok (args := [(.string s_)]) Try.func86 rfl ((E.ref34_DecodeHeader s_ w Q).symm ▸ h)

def W.ref34_Decode_k18 (p2 : Addr) (p5 : Addr) (p7 : Option Addr) (p7n : Nat) (p7c : Nat) (w : World) (Q : Value → World → Prop) : Prop :=
  ld Try.prog 119 (p5.add 33) w fun v25 => fI .u32 v25 fun x26 =>
  rq Try.prog (Instr.sliceAt 82 (.slice p7 p7n p7c) none (some (.int .u32 x26)) none) w fun v27 => fS v27 fun l28 l28n l28c =>
  rv Try.prog (convert 82 9 (.slice l28 l28n l28c)) w fun v29 w30 => fT v29 fun t31 =>
  drawE fun S32 => S32 (drew w30) ∧ (ldS Try.prog S32 119 (p5.add 34) fun v33 => fI .u32 v33 fun x34 =>
  CallE Try.prog 109 #[(.string t31)] (drew w30) fun v35 w36 => fI .u32 v35 fun x37 =>
  S32 w36 ∧ (br ((x37 : Int) != x34) (st Try.prog 41 p2 (.agg #[(.int .u8 0), (.int .u8 0), (.int .u8 0), (.int .u8 0), (.int .u8 0), (.int .u8 0), (.int .u8 0), (.int .u8 0), (.int .u8 0), (.int .u8 0), (.int .u8 0), (.int .u8 0), (.int .u8 0), (.int .u8 0), (.int .u8 0), (.int .u8 0), (.int .u8 0), (.int .u8 0), (.int .u8 0), (.int .u8 0), (.int .u8 0), (.int .u8 0), (.int .u8 0), (.int .u8 0), (.int .u8 0), (.int .u8 0), (.int .u8 0), (.int .u8 0), (.int .u8 0), (.int .u8 0), (.int .u8 0), (.int .u8 0), (.int .u64 0), (.slice none 0 0)]) w36 fun w38 =>
  ld Try.prog 41 p2 w38 fun v39 => fG v39 fun g40 =>
  Q (.tuple #[(.agg g40), (.int .i64 5)]) w38) (CallE Try.prog 112 #[(.string t31)] w36 fun v41 w42 => ∃ (l43 : Option Addr) (l43n : Nat) (l43c : Nat) (b44 : Bool), v41 = .tuple #[(.slice l43 l43n l43c), (.bool b44)] ∧
  br (!b44) (st Try.prog 41 p2 (.agg #[(.int .u8 0), (.int .u8 0), (.int .u8 0), (.int .u8 0), (.int .u8 0), (.int .u8 0), (.int .u8 0), (.int .u8 0), (.int .u8 0), (.int .u8 0), (.int .u8 0), (.int .u8 0), (.int .u8 0), (.int .u8 0), (.int .u8 0), (.int .u8 0), (.int .u8 0), (.int .u8 0), (.int .u8 0), (.int .u8 0), (.int .u8 0), (.int .u8 0), (.int .u8 0), (.int .u8 0), (.int .u8 0), (.int .u8 0), (.int .u8 0), (.int .u8 0), (.int .u8 0), (.int .u8 0), (.int .u8 0), (.int .u8 0), (.int .u64 0), (.slice none 0 0)]) w42 fun w45 =>
  ld Try.prog 41 p2 w45 fun v46 => fG v46 fun g47 =>
  Q (.tuple #[(.agg g47), (.int .i64 3)]) w45) (ld Try.prog 31 (p5.add 1) w42 fun v48 => fG v48 fun g49 =>
  ld Try.prog 32 (p5.add 0) w42 fun v50 => fI .u64 v50 fun x51 =>
  rq Try.prog (Instr.build 41 #[(0, (.agg g49)), (1, (.int .u64 x51)), (2, (.slice l43 l43n l43c))]) w42 fun v52 => fG v52 fun g53 =>
  st Try.prog 41 p2 (.agg g53) w42 fun w54 =>
  ld Try.prog 41 p2 w54 fun v55 => fG v55 fun g56 =>
  Q (.tuple #[(.agg g56), (.int .i64 0)]) w54))))
def W.ref34_Decode_k8 (p0 : Option Addr) (p0n : Nat) (p0c : Nat) (p2 : Addr) (w : World) (Q : Value → World → Prop) : Prop :=
  rq Try.prog (Instr.indexAt 49 (.slice p0 p0n p0c) (.int .i64 0)) w fun v6 => fA v6 fun a7 =>
  ld Try.prog 9 a7 w fun v8 => fT v8 fun t9 =>
  CallE Try.prog 86 #[(.string t9)] w fun v10 w11 => ∃ (g12 : Array Value) (x13 : Int), v10 = .tuple #[(.agg g12), (.int .i64 x13)] ∧
  al 121 (zeroT Try.prog 121).cells w11 fun a15 w14 =>
  st Try.prog 121 a15 (.agg g12) w14 fun w16 =>
  br ((x13 : Int) != 0) (st Try.prog 41 p2 (.agg #[(.int .u8 0), (.int .u8 0), (.int .u8 0), (.int .u8 0), (.int .u8 0), (.int .u8 0), (.int .u8 0), (.int .u8 0), (.int .u8 0), (.int .u8 0), (.int .u8 0), (.int .u8 0), (.int .u8 0), (.int .u8 0), (.int .u8 0), (.int .u8 0), (.int .u8 0), (.int .u8 0), (.int .u8 0), (.int .u8 0), (.int .u8 0), (.int .u8 0), (.int .u8 0), (.int .u8 0), (.int .u8 0), (.int .u8 0), (.int .u8 0), (.int .u8 0), (.int .u8 0), (.int .u8 0), (.int .u8 0), (.int .u8 0), (.int .u64 0), (.slice none 0 0)]) w16 fun w17 =>
  ld Try.prog 41 p2 w17 fun v18 => fG v18 fun g19 =>
  Q (.tuple #[(.agg g19), (.int .i64 x13)]) w17) (ld Try.prog 119 (a15.add 33) w16 fun v20 => fI .u32 v20 fun x21 =>
  br (decide (((IntKind.wrap .u64 x21) : Int) > (IntKind.wrap .u64 ((IntKind.wrap .u64 (IntKind.wrap .i64 (((p0n : Nat) : Int) - 1))) * 64)))) (st Try.prog 41 p2 (.agg #[(.int .u8 0), (.int .u8 0), (.int .u8 0), (.int .u8 0), (.int .u8 0), (.int .u8 0), (.int .u8 0), (.int .u8 0), (.int .u8 0), (.int .u8 0), (.int .u8 0), (.int .u8 0), (.int .u8 0), (.int .u8 0), (.int .u8 0), (.int .u8 0), (.int .u8 0), (.int .u8 0), (.int .u8 0), (.int .u8 0), (.int .u8 0), (.int .u8 0), (.int .u8 0), (.int .u8 0), (.int .u8 0), (.int .u8 0), (.int .u8 0), (.int .u8 0), (.int .u8 0), (.int .u8 0), (.int .u8 0), (.int .u8 0), (.int .u64 0), (.slice none 0 0)]) w16 fun w22 =>
  ld Try.prog 41 p2 w22 fun v23 => fG v23 fun g24 =>
  Q (.tuple #[(.agg g24), (.int .i64 4)]) w22) (LoopW (S := (Option Addr × Nat × Nat) × Int × Unit) (fun s57 w58 next59 =>
  br (decide ((s57.2.1 : Int) < ((p0n : Nat) : Int))) (ld Try.prog 119 (a15.add 33) w58 fun v60 => fI .u32 v60 fun x61 =>
  br (decide ((((s57.1.2.1 : Nat) : Int) : Int) < (IntKind.wrap .i64 x61))) (rq Try.prog (Instr.indexAt 49 (.slice p0 p0n p0c) (.int .i64 s57.2.1)) w58 fun v62 => fA v62 fun a63 =>
  ld Try.prog 9 a63 w58 fun v64 => fT v64 fun t65 =>
  rv Try.prog (Builtin.append_ #[82, 9] 82 #[(.slice s57.1.1 s57.1.2.1 s57.1.2.2), (.string t65)]) w58 fun v66 w67 => fS v66 fun l68 l68n l68c =>
  next59 ((l68, l68n, l68c), ((IntKind.wrap .i64 (s57.2.1 + 1)) : Int), ()) w67) (W.ref34_Decode_k18 p2 a15 s57.1.1 s57.1.2.1 s57.1.2.2 w58 Q)) (W.ref34_Decode_k18 p2 a15 s57.1.1 s57.1.2.1 s57.1.2.2 w58 Q)) ((none, 0, 0), (1 : Int), ()) w16))
def W.ref34_Decode (sectors_ : Option Addr) (sectors_n : Nat) (sectors_c : Nat) (w : World) (Q : Value → World → Prop) : Prop :=
  al 41 (zeroT Try.prog 41).cells w fun a2 w1 =>
  br ((((sectors_n : Nat) : Int) : Int) == 0) (st Try.prog 41 a2 (.agg #[(.int .u8 0), (.int .u8 0), (.int .u8 0), (.int .u8 0), (.int .u8 0), (.int .u8 0), (.int .u8 0), (.int .u8 0), (.int .u8 0), (.int .u8 0), (.int .u8 0), (.int .u8 0), (.int .u8 0), (.int .u8 0), (.int .u8 0), (.int .u8 0), (.int .u8 0), (.int .u8 0), (.int .u8 0), (.int .u8 0), (.int .u8 0), (.int .u8 0), (.int .u8 0), (.int .u8 0), (.int .u8 0), (.int .u8 0), (.int .u8 0), (.int .u8 0), (.int .u8 0), (.int .u8 0), (.int .u8 0), (.int .u8 0), (.int .u64 0), (.slice none 0 0)]) w1 fun w3 =>
  ld Try.prog 41 a2 w3 fun v4 => fG v4 fun g5 =>
  Q (.tuple #[(.agg g5), (.int .i64 3)]) w3) (LoopW (S := Int × Unit) (fun s69 w70 next71 =>
  br (decide ((s69.1 : Int) < ((sectors_n : Nat) : Int))) (rq Try.prog (Instr.indexAt 49 (.slice sectors_ sectors_n sectors_c) (.int .i64 s69.1)) w70 fun v72 => fA v72 fun a73 =>
  ld Try.prog 9 a73 w70 fun v74 => fT v74 fun t75 =>
  br ((((t75.size : Nat) : Int) : Int) != 64) (st Try.prog 41 a2 (.agg #[(.int .u8 0), (.int .u8 0), (.int .u8 0), (.int .u8 0), (.int .u8 0), (.int .u8 0), (.int .u8 0), (.int .u8 0), (.int .u8 0), (.int .u8 0), (.int .u8 0), (.int .u8 0), (.int .u8 0), (.int .u8 0), (.int .u8 0), (.int .u8 0), (.int .u8 0), (.int .u8 0), (.int .u8 0), (.int .u8 0), (.int .u8 0), (.int .u8 0), (.int .u8 0), (.int .u8 0), (.int .u8 0), (.int .u8 0), (.int .u8 0), (.int .u8 0), (.int .u8 0), (.int .u8 0), (.int .u8 0), (.int .u8 0), (.int .u64 0), (.slice none 0 0)]) w70 fun w76 =>
  ld Try.prog 41 a2 w76 fun v77 => fG v77 fun g78 =>
  Q (.tuple #[(.agg g78), (.int .i64 3)]) w76) (next71 (((IntKind.wrap .i64 (s69.1 + 1)) : Int), ()) w70)) (W.ref34_Decode_k8 sectors_ sectors_n sectors_c a2 w70 Q)) ((0 : Int), ()) w1)
theorem E.ref34_Decode (sectors_ : Option Addr) (sectors_n : Nat) (sectors_c : Nat) (w : World) (Q : Value → World → Prop) : ev Try.prog Try.f87.ntmps callable [(15, [(7, .slice none 0 0), (8, .int .i64 0)], [0, 2, 5]), (4, [(4, .int .i64 0)], [0, 2])] [] (Try.f87.body.getD .skip) (enumE 0 [(.slice sectors_ sectors_n sectors_c)]) w (KQ Try.prog Try.f87.results.toList Q) = W.ref34_Decode sectors_ sectors_n sectors_c w Q := by kernel_rfl
theorem C.ref34_Decode (sectors_ : Option Addr) (sectors_n : Nat) (sectors_c : Nat) (w : World) (Q : Value → World → Prop) (h : W.ref34_Decode sectors_ sectors_n sectors_c w Q) : CallE Try.prog 87 #[(.slice sectors_ sectors_n sectors_c)] w Q :=
  calls_of_ev mixed callable_ok (args := [(.slice sectors_ sectors_n sectors_c)]) Try.func87 rfl ((E.ref34_Decode sectors_ sectors_n sectors_c w Q).symm ▸ h)

def W.ref32_Disk_lose_k5 (p0 : Addr) (w : World) (Q : Value → World → Prop) : Prop :=
  st Try.prog 140 (p0.add 1) (.slice none 0 0) w fun w1 =>
  st Try.prog 4 (p0.add 2) (.bool true) w1 fun w2 =>
  st Try.prog 3 (p0.add 3) (.int .i64 (-1)) w2 fun w3 =>
  st Try.prog 78 (p0.add 4) (.slice none 0 0) w3 fun w4 =>
  Q (.tuple #[]) w4
def W.ref32_Disk_lose_k4 (p0 : Addr) (p1 : Option Addr) (p1n : Nat) (p1c : Nat) (p4 : Int) (p23 : Bool) (next7 : (Int × Unit) → World → Prop) (w : World) (Q : Value → World → Prop) : Prop :=
  br p23 (dr w fun w10 =>
  ld Try.prog 49 (p0.add 0) w10 fun v11 => fS v11 fun l12 l12n l12c =>
  ld Try.prog 140 (p0.add 1) w10 fun v13 => fS v13 fun l14 l14n l14c =>
  rq Try.prog (Instr.indexAt 140 (.slice l14 l14n l14c) (.int .i64 p4)) w10 fun v15 => fA v15 fun a16 =>
  ld Try.prog 3 (a16.add 0) w10 fun v17 => fI .i64 v17 fun x18 =>
  ld Try.prog 140 (p0.add 1) w10 fun v19 => fS v19 fun l20 l20n l20c =>
  rq Try.prog (Instr.indexAt 140 (.slice l20 l20n l20c) (.int .i64 p4)) w10 fun v21 => fA v21 fun a22 =>
  ld Try.prog 9 (a22.add 1) w10 fun v23 => fT v23 fun t24 =>
  rq Try.prog (Instr.indexAt 49 (.slice l12 l12n l12c) (.int .i64 x18)) w10 fun v25 => fA v25 fun a26 =>
  st Try.prog 9 a26 (.string t24) w10 fun w27 =>
  next7 (((IntKind.wrap .i64 (p4 + 1)) : Int), ()) w27) (next7 (((IntKind.wrap .i64 (p4 + 1)) : Int), ()) w)
def W.ref32_Disk_lose (d_ : Addr) (keep_ : Option Addr) (keep_n : Nat) (keep_c : Nat) (w : World) (Q : Value → World → Prop) : Prop :=
  LoopW (S := Int × Unit) (fun s5 w6 next7 =>
  ld Try.prog 140 (d_.add 1) w6 fun v8 => fS v8 fun l9 l9n l9c =>
  br (decide ((s5.1 : Int) < ((l9n : Nat) : Int))) (br (decide ((s5.1 : Int) < ((keep_n : Nat) : Int))) (rq Try.prog (Instr.indexAt 78 (.slice keep_ keep_n keep_c) (.int .i64 s5.1)) w6 fun v28 => fA v28 fun a29 =>
  ld Try.prog 4 a29 w6 fun v30 => fB v30 fun b31 =>
  W.ref32_Disk_lose_k4 d_ keep_ keep_n keep_c s5.1 b31 next7 w6 Q) (W.ref32_Disk_lose_k4 d_ keep_ keep_n keep_c s5.1 false next7 w6 Q)) (W.ref32_Disk_lose_k5 d_ w6 Q)) ((0 : Int), ()) w
theorem E.ref32_Disk_lose (d_ : Addr) (keep_ : Option Addr) (keep_n : Nat) (keep_c : Nat) (w : World) (Q : Value → World → Prop) : ev Try.prog Try.f88.ntmps callable [(1, [(4, .int .i64 0)], [0, 1])] [] (Try.f88.body.getD .skip) (enumE 0 [(.pointer (some d_)), (.slice keep_ keep_n keep_c)]) w (KQ Try.prog Try.f88.results.toList Q) = W.ref32_Disk_lose d_ keep_ keep_n keep_c w Q := by kernel_rfl
theorem C.ref32_Disk_lose (d_ : Addr) (keep_ : Option Addr) (keep_n : Nat) (keep_c : Nat) (w : World) (Q : Value → World → Prop) (h : W.ref32_Disk_lose d_ keep_ keep_n keep_c w Q) : CallE Try.prog 88 #[(.pointer (some d_)), (.slice keep_ keep_n keep_c)] w Q :=
  calls_of_ev mixed callable_ok (args := [(.pointer (some d_)), (.slice keep_ keep_n keep_c)]) Try.func88 rfl ((E.ref32_Disk_lose d_ keep_ keep_n keep_c w Q).symm ▸ h)

def W.wakeup_Sources_permitted (s_ : Addr) (now_ : Int) (w : World) (Q : Value → World → Prop) : Prop :=
  ld Try.prog 32 (s_.add 102) w fun v1 => fI .u64 v1 fun x2 =>
  br (decide ((now_ : Int) ≥ x2)) (Q (.bool (decide ((now_ : Int) ≤ 1152921504606846976))) w) (Q (.bool false) w)
theorem E.wakeup_Sources_permitted (s_ : Addr) (now_ : Int) (w : World) (Q : Value → World → Prop) : ev Try.prog Try.f89.ntmps callable [] [] (Try.f89.body.getD .skip) (enumE 0 [(.pointer (some s_)), (.int .u64 now_)]) w (KQ Try.prog Try.f89.results.toList Q) = W.wakeup_Sources_permitted s_ now_ w Q := by kernel_rfl
theorem C.wakeup_Sources_permitted (s_ : Addr) (now_ : Int) (w : World) (Q : Value → World → Prop) (h : W.wakeup_Sources_permitted s_ now_ w Q) : CallE Try.prog 89 #[(.pointer (some s_)), (.int .u64 now_)] w Q :=
  calls_of_ev mixed callable_ok (args := [(.pointer (some s_)), (.int .u64 now_)]) Try.func89 rfl ((E.wakeup_Sources_permitted s_ now_ w Q).symm ▸ h)

def W.wakeup_Sources_advance_k9 (p0 : Addr) (p50 : Bool) (w : World) (Q : Value → World → Prop) : Prop :=
  br p50 (st Try.prog 4 (p0.add 97) (.bool false) w fun w2 =>
  st Try.prog 32 (p0.add 98) (.int .u64 0) w2 fun w3 =>
  ld Try.prog 3 (p0.add 99) w3 fun v4 => fI .i64 v4 fun x5 =>
  st Try.prog 3 (p0.add 99) (.int .i64 (IntKind.wrap .i64 (x5 + 1))) w3 fun w6 =>
  Q (.tuple #[]) w6) (Q (.tuple #[]) w)
def W.wakeup_Sources_advance_k8 (p0 : Addr) (p1 : Int) (w : World) (Q : Value → World → Prop) : Prop :=
  ld Try.prog 4 (p0.add 97) w fun v7 => fB v7 fun b8 =>
  br b8 (ld Try.prog 32 (p0.add 98) w fun v9 => fI .u64 v9 fun x10 =>
  W.wakeup_Sources_advance_k9 p0 (decide ((x10 : Int) ≤ p1)) w Q) (W.wakeup_Sources_advance_k9 p0 false w Q)
def W.wakeup_Sources_advance_k6 (p0 : Addr) (p1 : Int) (p4 : Int) (p13 : Int) (p14 : Int) (p34 : Bool) (next15 : (Int × Unit) → World → Prop) (w : World) (Q : Value → World → Prop) : Prop :=
  br p34 (CallE Try.prog 113 #[(.pointer (some p0)), (.int .i64 p4)] w fun v23 w24 => v23 = .tuple #[] ∧
  next15 (((IntKind.wrap .i64 (p14 + 1)) : Int), ()) w24) (next15 (((IntKind.wrap .i64 (p14 + 1)) : Int), ()) w)
def W.wakeup_Sources_advance (s_ : Addr) (now_ : Int) (w : World) (Q : Value → World → Prop) : Prop :=
  st Try.prog 32 (s_.add 102) (.int .u64 now_) w fun w1 =>
  ld Try.prog 3 (s_.add 96) w1 fun v11 => fI .i64 v11 fun x12 =>
  LoopW (S := Int × Unit) (fun s13 w14 next15 =>
  br (decide ((s13.1 : Int) < x12)) (rq Try.prog (Instr.indexAt 145 (.pointer (some (s_.add 0))) (.int .i64 s13.1)) w14 fun v16 => fA v16 fun a17 =>
  ld Try.prog 144 a17 w14 fun v18 => fG v18 fun g19 =>
  al 144 (zeroT Try.prog 144).cells w14 fun a21 w20 =>
  st Try.prog 144 a21 (.agg g19) w20 fun w22 =>
  ld Try.prog 4 (a21.add 0) w22 fun v25 => fB v25 fun b26 =>
  br b26 (ld Try.prog 4 (a21.add 1) w22 fun v27 => fB v27 fun b28 =>
  br b28 (ld Try.prog 32 (a21.add 2) w22 fun v29 => fI .u64 v29 fun x30 =>
  W.wakeup_Sources_advance_k6 s_ now_ s13.1 x12 s13.1 (decide ((x30 : Int) ≤ now_)) next15 w22 Q) (W.wakeup_Sources_advance_k6 s_ now_ s13.1 x12 s13.1 false next15 w22 Q)) (W.wakeup_Sources_advance_k6 s_ now_ s13.1 x12 s13.1 false next15 w22 Q)) (W.wakeup_Sources_advance_k8 s_ now_ w14 Q)) ((0 : Int), ()) w1
theorem E.wakeup_Sources_advance (s_ : Addr) (now_ : Int) (w : World) (Q : Value → World → Prop) : ev Try.prog Try.f90.ntmps callable [(2, [(14, .int .i64 0)], [0, 1, 13])] [] (Try.f90.body.getD .skip) (enumE 0 [(.pointer (some s_)), (.int .u64 now_)]) w (KQ Try.prog Try.f90.results.toList Q) = W.wakeup_Sources_advance s_ now_ w Q := by kernel_rfl
theorem C.wakeup_Sources_advance (s_ : Addr) (now_ : Int) (w : World) (Q : Value → World → Prop) (h : W.wakeup_Sources_advance s_ now_ w Q) : CallE Try.prog 90 #[(.pointer (some s_)), (.int .u64 now_)] w Q :=
  calls_of_ev mixed callable_ok (args := [(.pointer (some s_)), (.int .u64 now_)]) Try.func90 rfl ((E.wakeup_Sources_advance s_ now_ w Q).symm ▸ h)

def W.wakeup_Sources_Counts (s_ : Addr) (w : World) (Q : Value → World → Prop) : Prop :=
  ld Try.prog 145 (s_.add 0) w fun v1 => fG v1 fun g2 =>
  LoopW (S := Int × Int × Unit) (fun s3 w4 next5 =>
  br (decide ((s3.2.1 : Int) < 32)) (rq Try.prog (Instr.index 145 (.agg g2) (.int .i64 s3.2.1)) w4 fun v6 => fG v6 fun g7 =>
  al 144 (zeroT Try.prog 144).cells w4 fun a9 w8 =>
  st Try.prog 144 a9 (.agg g7) w8 fun w10 =>
  ld Try.prog 4 (a9.add 0) w10 fun v11 => fB v11 fun b12 =>
  br b12 (next5 (((IntKind.wrap .i64 (s3.1 + 1)) : Int), ((IntKind.wrap .i64 (s3.2.1 + 1)) : Int), ()) w10) (next5 ((s3.1 : Int), ((IntKind.wrap .i64 (s3.2.1 + 1)) : Int), ()) w10)) (ld Try.prog 3 (s_.add 99) w4 fun v13 => fI .i64 v13 fun x14 =>
  Q (.tuple #[(.int .i64 x14), (.int .i64 s3.1)]) w4)) ((0 : Int), (0 : Int), ()) w
theorem E.wakeup_Sources_Counts (s_ : Addr) (w : World) (Q : Value → World → Prop) : ev Try.prog Try.f91.ntmps callable [(3, [(4, .int .i64 0), (11, .int .i64 0)], [0, 10])] [] (Try.f91.body.getD .skip) (enumE 0 [(.pointer (some s_))]) w (KQ Try.prog Try.f91.results.toList Q) = W.wakeup_Sources_Counts s_ w Q := by kernel_rfl
theorem C.wakeup_Sources_Counts (s_ : Addr) (w : World) (Q : Value → World → Prop) (h : W.wakeup_Sources_Counts s_ w Q) : CallE Try.prog 91 #[(.pointer (some s_))] w Q :=
  calls_of_ev mixed callable_ok (args := [(.pointer (some s_))]) Try.func91 rfl ((E.wakeup_Sources_Counts s_ w Q).symm ▸ h)

def W.wakeup_Sources_exists (s_ : Addr) (source_ : Int) (w : World) (Q : Value → World → Prop) : Prop :=
  br (decide ((source_ : Int) ≥ 0)) (ld Try.prog 3 (s_.add 96) w fun v1 => fI .i64 v1 fun x2 =>
  Q (.bool (decide ((source_ : Int) < x2))) w) (Q (.bool false) w)
theorem E.wakeup_Sources_exists (s_ : Addr) (source_ : Int) (w : World) (Q : Value → World → Prop) : ev Try.prog Try.f92.ntmps callable [] [] (Try.f92.body.getD .skip) (enumE 0 [(.pointer (some s_)), (.int .i64 source_)]) w (KQ Try.prog Try.f92.results.toList Q) = W.wakeup_Sources_exists s_ source_ w Q := by kernel_rfl
theorem C.wakeup_Sources_exists (s_ : Addr) (source_ : Int) (w : World) (Q : Value → World → Prop) (h : W.wakeup_Sources_exists s_ source_ w Q) : CallE Try.prog 92 #[(.pointer (some s_)), (.int .i64 source_)] w Q :=
  calls_of_ev mixed callable_ok (args := [(.pointer (some s_)), (.int .i64 source_)]) Try.func92 rfl ((E.wakeup_Sources_exists s_ source_ w Q).symm ▸ h)

def W.wakeup_Sources_release (s_ : Addr) (source_ : Int) (w : World) (Q : Value → World → Prop) : Prop :=
  rq Try.prog (Instr.indexAt 145 (.pointer (some (s_.add 0))) (.int .i64 source_)) w fun v1 => fA v1 fun a2 =>
  st Try.prog 4 (a2.add 1) (.bool false) w fun w3 =>
  rq Try.prog (Instr.indexAt 145 (.pointer (some (s_.add 0))) (.int .i64 source_)) w3 fun v4 => fA v4 fun a5 =>
  st Try.prog 32 (a5.add 2) (.int .u64 0) w3 fun w6 =>
  Q (.tuple #[]) w6
theorem E.wakeup_Sources_release (s_ : Addr) (source_ : Int) (w : World) (Q : Value → World → Prop) : ev Try.prog Try.f93.ntmps callable [] [] (Try.f93.body.getD .skip) (enumE 0 [(.pointer (some s_)), (.int .i64 source_)]) w (KQ Try.prog Try.f93.results.toList Q) = W.wakeup_Sources_release s_ source_ w Q := by kernel_rfl
theorem C.wakeup_Sources_release (s_ : Addr) (source_ : Int) (w : World) (Q : Value → World → Prop) (h : W.wakeup_Sources_release s_ source_ w Q) : CallE Try.prog 93 #[(.pointer (some s_)), (.int .i64 source_)] w Q :=
  calls_of_ev mixed callable_ok (args := [(.pointer (some s_)), (.int .i64 source_)]) Try.func93 rfl ((E.wakeup_Sources_release s_ source_ w Q).symm ▸ h)

def W.strings_HasPrefix (s_ : ByteArray) (prefix_ : ByteArray) (w : World) (Q : Value → World → Prop) : Prop :=
  CallE Try.prog 116 #[(.string s_), (.string prefix_)] w fun v1 w2 => fB v1 fun b3 =>
  Q (.bool b3) w2
theorem E.strings_HasPrefix (s_ : ByteArray) (prefix_ : ByteArray) (w : World) (Q : Value → World → Prop) : ev Try.prog Try.f95.ntmps callable [] [] (Try.f95.body.getD .skip) (enumE 0 [(.string s_), (.string prefix_)]) w (KQ Try.prog Try.f95.results.toList Q) = W.strings_HasPrefix s_ prefix_ w Q := by kernel_rfl
theorem C.strings_HasPrefix (s_ : ByteArray) (prefix_ : ByteArray) (w : World) (Q : Value → World → Prop) (h : W.strings_HasPrefix s_ prefix_ w Q) : CallE Try.prog 95 #[(.string s_), (.string prefix_)] w Q :=
  calls_of_ev mixed callable_ok (args := [(.string s_), (.string prefix_)]) Try.func95 rfl ((E.strings_HasPrefix s_ prefix_ w Q).symm ▸ h)

def W.strings_Builder_WriteString (b_ : Addr) (s_ : ByteArray) (w : World) (Q : Value → World → Prop) : Prop :=
  CallE Try.prog 117 #[(.pointer (some b_))] w fun v1 w2 => v1 = .tuple #[] ∧
  ld Try.prog 82 (b_.add 1) w2 fun v3 => fS v3 fun l4 l4n l4c =>
  rv Try.prog (Builtin.append_ #[82, 9] 82 #[(.slice l4 l4n l4c), (.string s_)]) w2 fun v5 w6 => fS v5 fun l7 l7n l7c =>
  st Try.prog 82 (b_.add 1) (.slice l7 l7n l7c) w6 fun w8 =>
  Q (.tuple #[(.int .i64 ((s_.size : Nat) : Int)), .nilIface]) w8
theorem E.strings_Builder_WriteString (b_ : Addr) (s_ : ByteArray) (w : World) (Q : Value → World → Prop) : ev Try.prog Try.f97.ntmps callable [] [] (Try.f97.body.getD .skip) (enumE 0 [(.pointer (some b_)), (.string s_)]) w (KQ Try.prog Try.f97.results.toList Q) = W.strings_Builder_WriteString b_ s_ w Q := by kernel_rfl
theorem C.strings_Builder_WriteString (b_ : Addr) (s_ : ByteArray) (w : World) (Q : Value → World → Prop) (h : W.strings_Builder_WriteString b_ s_ w Q) : CallE Try.prog 97 #[(.pointer (some b_)), (.string s_)] w Q :=
  calls_of_ev mixed callable_ok (args := [(.pointer (some b_)), (.string s_)]) Try.func97 rfl ((E.strings_Builder_WriteString b_ s_ w Q).symm ▸ h)

def W.strings_Builder_String (b_ : Addr) (w : World) (Q : Value → World → Prop) : Prop :=
  drawE fun S1 => S1 (drew w) ∧ (ldS Try.prog S1 82 (b_.add 1) fun v2 => fS v2 fun l3 l3n l3c =>
  ldS Try.prog S1 82 (b_.add 1) fun v4 => fS v4 fun l5 l5n l5c =>
  rv Try.prog (Builtin.unsafeSliceData_ #[82] 181 #[(.slice l3 l3n l3c)]) (drew w) fun v6 w7 => fP v6 fun p8 =>
  S1 w7 ∧ (rv Try.prog (Builtin.unsafeString_ #[181, 3] 9 #[(.pointer p8), (.int .i64 ((l5n : Nat) : Int))]) w7 fun v9 w10 => fT v9 fun t11 =>
  S1 w10 ∧ (Q (.string t11) w10)))
theorem E.strings_Builder_String (b_ : Addr) (w : World) (Q : Value → World → Prop) : ev Try.prog Try.f99.ntmps callable [] [] (Try.f99.body.getD .skip) (enumE 0 [(.pointer (some b_))]) w (KQ Try.prog Try.f99.results.toList Q) = W.strings_Builder_String b_ w Q := by kernel_rfl
theorem C.strings_Builder_String (b_ : Addr) (w : World) (Q : Value → World → Prop) (h : W.strings_Builder_String b_ w Q) : CallE Try.prog 99 #[(.pointer (some b_))] w Q :=
  calls_of_ev mixed callable_ok (args := [(.pointer (some b_))]) Try.func99 rfl ((E.strings_Builder_String b_ w Q).symm ▸ h)

def W.image_number (s_ : ByteArray) (w : World) (Q : Value → World → Prop) : Prop :=
  LoopW (S := Int × Int × Unit) (fun s1 w2 next3 =>
  br (decide ((s1.2.1 : Int) ≥ 0)) (rq Try.prog (Instr.index 9 (.string s_) (.int .i64 s1.2.1)) w2 fun v4 => fI .u8 v4 fun x5 =>
  next3 (((bor .u64 (IntKind.wrap .u64 (s1.1 * 2 ^ 8)) (IntKind.wrap .u64 x5)) : Int), ((IntKind.wrap .i64 (s1.2.1 - 1)) : Int), ()) w2) (Q (.int .u64 s1.1) w2)) ((0 : Int), ((IntKind.wrap .i64 (((s_.size : Nat) : Int) - 1)) : Int), ()) w
theorem E.image_number (s_ : ByteArray) (w : World) (Q : Value → World → Prop) : ev Try.prog Try.f100.ntmps callable [(3, [(3, .int .u64 0), (4, .int .i64 0)], [0])] [] (Try.f100.body.getD .skip) (enumE 0 [(.string s_)]) w (KQ Try.prog Try.f100.results.toList Q) = W.image_number s_ w Q := by kernel_rfl
theorem C.image_number (s_ : ByteArray) (w : World) (Q : Value → World → Prop) (h : W.image_number s_ w Q) : CallE Try.prog 100 #[(.string s_)] w Q :=
  calls_of_ev mixed callable_ok (args := [(.string s_)]) Try.func100 rfl ((E.image_number s_ w Q).symm ▸ h)

def W.image_decodeBody_k15 (p4 : Option Addr) (p4n : Nat) (p4c : Nat) (w : World) (Q : Value → World → Prop) : Prop :=
  CallE Try.prog 70 #[(.slice p4 p4n p4c)] w fun v1 w2 => fB v1 fun b3 =>
  Q (.tuple #[(.slice p4 p4n p4c), (.bool b3)]) w2
def W.image_decodeBody (body_ : ByteArray) (w : World) (Q : Value → World → Prop) : Prop :=
  LoopW (S := ByteArray × (Option Addr × Nat × Nat) × Unit) (fun s4 w5 next6 =>
  br (decide ((((s4.1.size : Nat) : Int) : Int) > 0)) (br (decide ((((s4.1.size : Nat) : Int) : Int) < 6)) (Q (.tuple #[(.slice none 0 0), (.bool false)]) w5) (br ((((s4.2.1.2.1 : Nat) : Int) : Int) == 512) (Q (.tuple #[(.slice none 0 0), (.bool false)]) w5) (rq Try.prog (Instr.sliceAt 9 (.string s4.1) none (some (.int .i64 4)) none) w5 fun v7 => fT v7 fun t8 =>
  CallE Try.prog 100 #[(.string t8)] w5 fun v9 w10 => fI .u64 v9 fun x11 =>
  rq Try.prog (Instr.sliceAt 9 (.string s4.1) (some (.int .i64 4)) (some (.int .i64 6)) none) w10 fun v12 => fT v12 fun t13 =>
  CallE Try.prog 100 #[(.string t13)] w10 fun v14 w15 => fI .u64 v14 fun x16 =>
  rq Try.prog (Instr.sliceAt 9 (.string s4.1) (some (.int .i64 6)) none none) w15 fun v17 => fT v17 fun t18 =>
  br (decide ((x11 : Int) > 2147483647)) (Q (.tuple #[(.slice none 0 0), (.bool false)]) w15) (br (decide (((IntKind.wrap .i64 x16) : Int) > ((t18.size : Nat) : Int))) (Q (.tuple #[(.slice none 0 0), (.bool false)]) w15) (rq Try.prog (Instr.sliceAt 9 (.string t18) none (some (.int .i64 (IntKind.wrap .i64 x16))) none) w15 fun v19 => fT v19 fun t20 =>
  CallE Try.prog 119 #[(.string t20)] w15 fun v21 w22 => ∃ (t23 : ByteArray) (x24 : Int), v21 = .tuple #[(.string t23), (.int .i64 x24)] ∧
  br ((x24 : Int) != 0) (Q (.tuple #[(.slice none 0 0), (.bool false)]) w22) (rq Try.prog (Instr.sliceAt 9 (.string t18) (some (.int .i64 (IntKind.wrap .i64 x16))) none none) w22 fun v25 => fT v25 fun t26 =>
  al 85 #[(.int .i64 (IntKind.wrap .i64 x11)), (.string t23)] w22 fun a28 w27 =>
  rv Try.prog (Builtin.append_ #[39, 39] 39 #[(.slice s4.2.1.1 s4.2.1.2.1 s4.2.1.2.2), (.slice (some a28) 1 1)]) w27 fun v29 w30 => fS v29 fun l31 l31n l31c =>
  next6 (t26, (l31, l31n, l31c), ()) w30)))))) (W.image_decodeBody_k15 s4.2.1.1 s4.2.1.2.1 s4.2.1.2.2 w5 Q)) (body_, (none, 0, 0), ()) w
theorem E.image_decodeBody (body_ : ByteArray) (w : World) (Q : Value → World → Prop) : ev Try.prog Try.f102.ntmps callable [(2, [(0, .string ⟨#[]⟩), (4, .slice none 0 0)], [])] [] (Try.f102.body.getD .skip) (enumE 0 [(.string body_)]) w (KQ Try.prog Try.f102.results.toList Q) = W.image_decodeBody body_ w Q := by kernel_rfl
theorem C.image_decodeBody (body_ : ByteArray) (w : World) (Q : Value → World → Prop) (h : W.image_decodeBody body_ w Q) : CallE Try.prog 102 #[(.string body_)] w Q :=
  calls_of_ev mixed callable_ok (args := [(.string body_)]) Try.func102 rfl ((E.image_decodeBody body_ w Q).symm ▸ h)

def W.pagezip_wordAt (s_ : ByteArray) (w : World) (Q : Value → World → Prop) : Prop :=
  dr w fun w1 =>
  rq Try.prog (Instr.index 9 (.string s_) (.int .i64 0)) w1 fun v2 => fI .u8 v2 fun x3 =>
  rq Try.prog (Instr.index 9 (.string s_) (.int .i64 1)) w1 fun v4 => fI .u8 v4 fun x5 =>
  rq Try.prog (Instr.index 9 (.string s_) (.int .i64 2)) w1 fun v6 => fI .u8 v6 fun x7 =>
  rq Try.prog (Instr.index 9 (.string s_) (.int .i64 3)) w1 fun v8 => fI .u8 v8 fun x9 =>
  Q (.int .u32 (bor .u32 (bor .u32 (bor .u32 (IntKind.wrap .u32 x3) (IntKind.wrap .u32 ((IntKind.wrap .u32 x5) * 2 ^ 8))) (IntKind.wrap .u32 ((IntKind.wrap .u32 x7) * 2 ^ 16))) (IntKind.wrap .u32 ((IntKind.wrap .u32 x9) * 2 ^ 24)))) w1
theorem E.pagezip_wordAt (s_ : ByteArray) (w : World) (Q : Value → World → Prop) : ev Try.prog Try.f103.ntmps callable [] [] (Try.f103.body.getD .skip) (enumE 0 [(.string s_)]) w (KQ Try.prog Try.f103.results.toList Q) = W.pagezip_wordAt s_ w Q := by kernel_rfl
theorem C.pagezip_wordAt (s_ : ByteArray) (w : World) (Q : Value → World → Prop) (h : W.pagezip_wordAt s_ w Q) : CallE Try.prog 103 #[(.string s_)] w Q :=
  calls_of_ev mixed callable_ok (args := [(.string s_)]) Try.func103 rfl ((E.pagezip_wordAt s_ w Q).symm ▸ h)

def W.pagezip_dictionary_tag (d_ : Addr) (w_ : Int) (w : World) (Q : Value → World → Prop) : Prop :=
  drawE fun S1 => S1 (drew w) ∧ (CallE Try.prog 105 #[(.int .u32 w_)] (drew w) fun v2 w3 => fI .i64 v2 fun x4 =>
  S1 w3 ∧ (rqS Try.prog S1 (Instr.indexAt 170 (.pointer (some d_)) (.int .i64 x4)) fun v5 => fA v5 fun a6 =>
  ldS Try.prog S1 119 a6 fun v7 => fI .u32 v7 fun x8 =>
  br ((w_ : Int) == 0) (Q (.int .i64 0) w3) (br ((w_ : Int) == x8) (Q (.int .i64 1) w3) (br (((Int.fdiv w_ (2 ^ 16)) : Int) == (Int.fdiv x8 (2 ^ 16))) (Q (.int .i64 2) w3) (Q (.int .i64 3) w3)))))
theorem E.pagezip_dictionary_tag (d_ : Addr) (w_ : Int) (w : World) (Q : Value → World → Prop) : ev Try.prog Try.f104.ntmps callable [] [] (Try.f104.body.getD .skip) (enumE 0 [(.pointer (some d_)), (.int .u32 w_)]) w (KQ Try.prog Try.f104.results.toList Q) = W.pagezip_dictionary_tag d_ w_ w Q := by kernel_rfl
theorem C.pagezip_dictionary_tag (d_ : Addr) (w_ : Int) (w : World) (Q : Value → World → Prop) (h : W.pagezip_dictionary_tag d_ w_ w Q) : CallE Try.prog 104 #[(.pointer (some d_)), (.int .u32 w_)] w Q :=
  calls_of_ev mixed callable_ok (args := [(.pointer (some d_)), (.int .u32 w_)]) Try.func104 rfl ((E.pagezip_dictionary_tag d_ w_ w Q).symm ▸ h)

def W.pagezip_slotOf (w_ : Int) (w : World) (Q : Value → World → Prop) : Prop :=
  Q (.int .i64 (Int.tmod (IntKind.wrap .i64 (Int.fdiv w_ (2 ^ 16))) 16)) w
theorem E.pagezip_slotOf (w_ : Int) (w : World) (Q : Value → World → Prop) : ev Try.prog Try.f105.ntmps callable [] [] (Try.f105.body.getD .skip) (enumE 0 [(.int .u32 w_)]) w (KQ Try.prog Try.f105.results.toList Q) = W.pagezip_slotOf w_ w Q := by kernel_rfl
theorem C.pagezip_slotOf (w_ : Int) (w : World) (Q : Value → World → Prop) (h : W.pagezip_slotOf w_ w Q) : CallE Try.prog 105 #[(.int .u32 w_)] w Q :=
  calls_of_ev mixed callable_ok (args := [(.int .u32 w_)]) Try.func105 rfl ((E.pagezip_slotOf w_ w Q).symm ▸ h)

def W.pagezip_dictionary_learn (d_ : Addr) (w_ : Int) (w : World) (Q : Value → World → Prop) : Prop :=
  br ((w_ : Int) != 0) (drawE fun S1 => S1 (drew w) ∧ (CallE Try.prog 105 #[(.int .u32 w_)] (drew w) fun v2 w3 => fI .i64 v2 fun x4 =>
  S1 w3 ∧ (rqS Try.prog S1 (Instr.indexAt 170 (.pointer (some d_)) (.int .i64 x4)) fun v5 => fA v5 fun a6 =>
  st Try.prog 119 a6 (.int .u32 w_) w3 fun w7 =>
  S1 w7 ∧ (Q (.tuple #[]) w7)))) (Q (.tuple #[]) w)
theorem E.pagezip_dictionary_learn (d_ : Addr) (w_ : Int) (w : World) (Q : Value → World → Prop) : ev Try.prog Try.f106.ntmps callable [] [] (Try.f106.body.getD .skip) (enumE 0 [(.pointer (some d_)), (.int .u32 w_)]) w (KQ Try.prog Try.f106.results.toList Q) = W.pagezip_dictionary_learn d_ w_ w Q := by kernel_rfl
theorem C.pagezip_dictionary_learn (d_ : Addr) (w_ : Int) (w : World) (Q : Value → World → Prop) (h : W.pagezip_dictionary_learn d_ w_ w Q) : CallE Try.prog 106 #[(.pointer (some d_)), (.int .u32 w_)] w Q :=
  calls_of_ev mixed callable_ok (args := [(.pointer (some d_)), (.int .u32 w_)]) Try.func106 rfl ((E.pagezip_dictionary_learn d_ w_ w Q).symm ▸ h)

def W.ref33_Compress_k22 (p0 : ByteArray) (p5 : Option Addr) (p5n : Nat) (p5c : Nat) (p6 : Option Addr) (p6n : Nat) (p6c : Nat) (w : World) (Q : Value → World → Prop) : Prop :=
  br (decide (((IntKind.wrap .i64 (17 + ((p6n : Nat) : Int))) : Int) > 256)) (rq Try.prog (do eqGuard .add 9 (.const (.string ⟨#[0]⟩)) (.tmp 119) (.string ⟨#[0]⟩) (.string p0); binOp .add 9 (.string ⟨#[0]⟩) (.string p0)) w fun v6 => fT v6 fun t7 =>
  Q (.tuple #[(.string t7), (.int .i64 0)]) w) (rv Try.prog (convert 82 9 (.slice p5 p5n p5c)) w fun v8 w9 => fT v8 fun t10 =>
  rq Try.prog (do eqGuard .add 9 (.const (.string ⟨#[1]⟩)) (.tmp 122) (.string ⟨#[1]⟩) (.string t10); binOp .add 9 (.string ⟨#[1]⟩) (.string t10)) w9 fun v11 => fT v11 fun t12 =>
  rv Try.prog (convert 82 9 (.slice p6 p6n p6c)) w9 fun v13 w14 => fT v13 fun t15 =>
  rq Try.prog (do eqGuard .add 9 (.tmp 123) (.tmp 125) (.string t12) (.string t15); binOp .add 9 (.string t12) (.string t15)) w14 fun v16 => fT v16 fun t17 =>
  Q (.tuple #[(.string t17), (.int .i64 0)]) w14)
def W.ref33_Compress_k20 (p0 : ByteArray) (p4 : Addr) (p5 : Option Addr) (p5n : Nat) (p5c : Nat) (p6 : Option Addr) (p6n : Nat) (p6c : Nat) (p7 : Int) (p8 : Int) (p9 : Int) (p10 : Int) (next20 : ((Option Addr × Nat × Nat) × Int × Unit) → World → Prop) (w : World) (Q : Value → World → Prop) : Prop :=
  rq Try.prog (Instr.indexAt 82 (.slice p5 p5n p5c) (.int .i64 (IntKind.wrap .i64 (Int.tdiv p7 4)))) w fun v30 => fA v30 fun a31 =>
  ld Try.prog 5 a31 w fun v32 => fI .u8 v32 fun x33 =>
  rq Try.prog (do eqGuard .shl 5 (.tmp 104) (.tmp 108) (.int .u8 p10) (.int .u64 (IntKind.wrap .u64 (IntKind.wrap .i64 (2 * (Int.tmod p7 4))))); binOp .shl 5 (.int .u8 p10) (.int .u64 (IntKind.wrap .u64 (IntKind.wrap .i64 (2 * (Int.tmod p7 4)))))) w fun v34 => fI .u8 v34 fun x35 =>
  rq Try.prog (Instr.indexAt 82 (.slice p5 p5n p5c) (.int .i64 (IntKind.wrap .i64 (Int.tdiv p7 4)))) w fun v36 => fA v36 fun a37 =>
  st Try.prog 5 a37 (.int .u8 (IntKind.wrap .u8 (x33 + x35))) w fun w38 =>
  rq Try.prog (Instr.indexAt 169 (.pointer (some p4)) (.int .u32 p9)) w38 fun v39 => fA v39 fun a40 =>
  st Try.prog 119 a40 (.int .u32 p8) w38 fun w41 =>
  next20 ((p6, p6n, p6c), ((IntKind.wrap .i64 (p7 + 1)) : Int), ()) w41
def W.ref33_Compress (page_ : ByteArray) (w : World) (Q : Value → World → Prop) : Prop :=
  br ((((page_.size : Nat) : Int) : Int) != 256) (Q (.tuple #[(.string ⟨#[]⟩), (.int .i64 1)]) w) (al 169 (zeroT Try.prog 169).cells w fun a2 w1 =>
  rv Try.prog (Instr.makeSlice 82 (.int .i64 16) (.int .i64 16)) w1 fun v3 w4 => fS v3 fun l5 l5n l5c =>
  LoopW (S := (Option Addr × Nat × Nat) × Int × Unit) (fun s18 w19 next20 =>
  br (decide ((s18.2.1 : Int) < 64)) (dr w19 fun w21 =>
  rq Try.prog (Instr.index 9 (.string page_) (.int .i64 (IntKind.wrap .i64 (4 * s18.2.1)))) w21 fun v22 => fI .u8 v22 fun x23 =>
  rq Try.prog (Instr.index 9 (.string page_) (.int .i64 (IntKind.wrap .i64 ((IntKind.wrap .i64 (4 * s18.2.1)) + 1)))) w21 fun v24 => fI .u8 v24 fun x25 =>
  rq Try.prog (Instr.index 9 (.string page_) (.int .i64 (IntKind.wrap .i64 ((IntKind.wrap .i64 (4 * s18.2.1)) + 2)))) w21 fun v26 => fI .u8 v26 fun x27 =>
  rq Try.prog (Instr.index 9 (.string page_) (.int .i64 (IntKind.wrap .i64 ((IntKind.wrap .i64 (4 * s18.2.1)) + 3)))) w21 fun v28 => fI .u8 v28 fun x29 =>
  br (((IntKind.wrap .u32 ((IntKind.wrap .u32 ((IntKind.wrap .u32 ((IntKind.wrap .u32 x23) + (IntKind.wrap .u32 ((IntKind.wrap .u32 x25) * 2 ^ 8)))) + (IntKind.wrap .u32 ((IntKind.wrap .u32 x27) * 2 ^ 16)))) + (IntKind.wrap .u32 ((IntKind.wrap .u32 x29) * 2 ^ 24)))) : Int) == 0) (next20 ((s18.1.1, s18.1.2.1, s18.1.2.2), ((IntKind.wrap .i64 (s18.2.1 + 1)) : Int), ()) w21) (rq Try.prog (Instr.indexAt 169 (.pointer (some a2)) (.int .u32 (Int.tmod (Int.fdiv (IntKind.wrap .u32 ((IntKind.wrap .u32 ((IntKind.wrap .u32 ((IntKind.wrap .u32 x23) + (IntKind.wrap .u32 ((IntKind.wrap .u32 x25) * 2 ^ 8)))) + (IntKind.wrap .u32 ((IntKind.wrap .u32 x27) * 2 ^ 16)))) + (IntKind.wrap .u32 ((IntKind.wrap .u32 x29) * 2 ^ 24)))) (2 ^ 16)) 16))) w21 fun v42 => fA v42 fun a43 =>
  ld Try.prog 119 a43 w21 fun v44 => fI .u32 v44 fun x45 =>
  br ((x45 : Int) == (IntKind.wrap .u32 ((IntKind.wrap .u32 ((IntKind.wrap .u32 ((IntKind.wrap .u32 x23) + (IntKind.wrap .u32 ((IntKind.wrap .u32 x25) * 2 ^ 8)))) + (IntKind.wrap .u32 ((IntKind.wrap .u32 x27) * 2 ^ 16)))) + (IntKind.wrap .u32 ((IntKind.wrap .u32 x29) * 2 ^ 24))))) (al 5 #[(.int .u8 (IntKind.wrap .u8 (Int.tmod (Int.fdiv (IntKind.wrap .u32 ((IntKind.wrap .u32 ((IntKind.wrap .u32 ((IntKind.wrap .u32 x23) + (IntKind.wrap .u32 ((IntKind.wrap .u32 x25) * 2 ^ 8)))) + (IntKind.wrap .u32 ((IntKind.wrap .u32 x27) * 2 ^ 16)))) + (IntKind.wrap .u32 ((IntKind.wrap .u32 x29) * 2 ^ 24)))) (2 ^ 16)) 16)))] w21 fun a47 w46 =>
  rv Try.prog (Builtin.append_ #[82, 82] 82 #[(.slice s18.1.1 s18.1.2.1 s18.1.2.2), (.slice (some a47) 1 1)]) w46 fun v48 w49 => fS v48 fun l50 l50n l50c =>
  W.ref33_Compress_k20 page_ a2 l5 l5n l5c l50 l50n l50c s18.2.1 (IntKind.wrap .u32 ((IntKind.wrap .u32 ((IntKind.wrap .u32 ((IntKind.wrap .u32 x23) + (IntKind.wrap .u32 ((IntKind.wrap .u32 x25) * 2 ^ 8)))) + (IntKind.wrap .u32 ((IntKind.wrap .u32 x27) * 2 ^ 16)))) + (IntKind.wrap .u32 ((IntKind.wrap .u32 x29) * 2 ^ 24)))) (Int.tmod (Int.fdiv (IntKind.wrap .u32 ((IntKind.wrap .u32 ((IntKind.wrap .u32 ((IntKind.wrap .u32 x23) + (IntKind.wrap .u32 ((IntKind.wrap .u32 x25) * 2 ^ 8)))) + (IntKind.wrap .u32 ((IntKind.wrap .u32 x27) * 2 ^ 16)))) + (IntKind.wrap .u32 ((IntKind.wrap .u32 x29) * 2 ^ 24)))) (2 ^ 16)) 16) 1 next20 w49 Q) (rq Try.prog (Instr.indexAt 169 (.pointer (some a2)) (.int .u32 (Int.tmod (Int.fdiv (IntKind.wrap .u32 ((IntKind.wrap .u32 ((IntKind.wrap .u32 ((IntKind.wrap .u32 x23) + (IntKind.wrap .u32 ((IntKind.wrap .u32 x25) * 2 ^ 8)))) + (IntKind.wrap .u32 ((IntKind.wrap .u32 x27) * 2 ^ 16)))) + (IntKind.wrap .u32 ((IntKind.wrap .u32 x29) * 2 ^ 24)))) (2 ^ 16)) 16))) w21 fun v51 => fA v51 fun a52 =>
  ld Try.prog 119 a52 w21 fun v53 => fI .u32 v53 fun x54 =>
  br (((Int.fdiv x54 (2 ^ 16)) : Int) == (Int.fdiv (IntKind.wrap .u32 ((IntKind.wrap .u32 ((IntKind.wrap .u32 ((IntKind.wrap .u32 x23) + (IntKind.wrap .u32 ((IntKind.wrap .u32 x25) * 2 ^ 8)))) + (IntKind.wrap .u32 ((IntKind.wrap .u32 x27) * 2 ^ 16)))) + (IntKind.wrap .u32 ((IntKind.wrap .u32 x29) * 2 ^ 24)))) (2 ^ 16))) (al 5 #[(.int .u8 (IntKind.wrap .u8 (Int.tmod (Int.fdiv (IntKind.wrap .u32 ((IntKind.wrap .u32 ((IntKind.wrap .u32 ((IntKind.wrap .u32 x23) + (IntKind.wrap .u32 ((IntKind.wrap .u32 x25) * 2 ^ 8)))) + (IntKind.wrap .u32 ((IntKind.wrap .u32 x27) * 2 ^ 16)))) + (IntKind.wrap .u32 ((IntKind.wrap .u32 x29) * 2 ^ 24)))) (2 ^ 16)) 16))), (.int .u8 (IntKind.wrap .u8 (IntKind.wrap .u32 ((IntKind.wrap .u32 ((IntKind.wrap .u32 ((IntKind.wrap .u32 x23) + (IntKind.wrap .u32 ((IntKind.wrap .u32 x25) * 2 ^ 8)))) + (IntKind.wrap .u32 ((IntKind.wrap .u32 x27) * 2 ^ 16)))) + (IntKind.wrap .u32 ((IntKind.wrap .u32 x29) * 2 ^ 24)))))), (.int .u8 (IntKind.wrap .u8 (Int.fdiv (IntKind.wrap .u32 ((IntKind.wrap .u32 ((IntKind.wrap .u32 ((IntKind.wrap .u32 x23) + (IntKind.wrap .u32 ((IntKind.wrap .u32 x25) * 2 ^ 8)))) + (IntKind.wrap .u32 ((IntKind.wrap .u32 x27) * 2 ^ 16)))) + (IntKind.wrap .u32 ((IntKind.wrap .u32 x29) * 2 ^ 24)))) (2 ^ 8))))] w21 fun a56 w55 =>
  rv Try.prog (Builtin.append_ #[82, 82] 82 #[(.slice s18.1.1 s18.1.2.1 s18.1.2.2), (.slice (some a56) 3 3)]) w55 fun v57 w58 => fS v57 fun l59 l59n l59c =>
  W.ref33_Compress_k20 page_ a2 l5 l5n l5c l59 l59n l59c s18.2.1 (IntKind.wrap .u32 ((IntKind.wrap .u32 ((IntKind.wrap .u32 ((IntKind.wrap .u32 x23) + (IntKind.wrap .u32 ((IntKind.wrap .u32 x25) * 2 ^ 8)))) + (IntKind.wrap .u32 ((IntKind.wrap .u32 x27) * 2 ^ 16)))) + (IntKind.wrap .u32 ((IntKind.wrap .u32 x29) * 2 ^ 24)))) (Int.tmod (Int.fdiv (IntKind.wrap .u32 ((IntKind.wrap .u32 ((IntKind.wrap .u32 ((IntKind.wrap .u32 x23) + (IntKind.wrap .u32 ((IntKind.wrap .u32 x25) * 2 ^ 8)))) + (IntKind.wrap .u32 ((IntKind.wrap .u32 x27) * 2 ^ 16)))) + (IntKind.wrap .u32 ((IntKind.wrap .u32 x29) * 2 ^ 24)))) (2 ^ 16)) 16) 2 next20 w58 Q) (al 5 #[(.int .u8 (IntKind.wrap .u8 (IntKind.wrap .u32 ((IntKind.wrap .u32 ((IntKind.wrap .u32 ((IntKind.wrap .u32 x23) + (IntKind.wrap .u32 ((IntKind.wrap .u32 x25) * 2 ^ 8)))) + (IntKind.wrap .u32 ((IntKind.wrap .u32 x27) * 2 ^ 16)))) + (IntKind.wrap .u32 ((IntKind.wrap .u32 x29) * 2 ^ 24)))))), (.int .u8 (IntKind.wrap .u8 (Int.fdiv (IntKind.wrap .u32 ((IntKind.wrap .u32 ((IntKind.wrap .u32 ((IntKind.wrap .u32 x23) + (IntKind.wrap .u32 ((IntKind.wrap .u32 x25) * 2 ^ 8)))) + (IntKind.wrap .u32 ((IntKind.wrap .u32 x27) * 2 ^ 16)))) + (IntKind.wrap .u32 ((IntKind.wrap .u32 x29) * 2 ^ 24)))) (2 ^ 8)))), (.int .u8 (IntKind.wrap .u8 (Int.fdiv (IntKind.wrap .u32 ((IntKind.wrap .u32 ((IntKind.wrap .u32 ((IntKind.wrap .u32 x23) + (IntKind.wrap .u32 ((IntKind.wrap .u32 x25) * 2 ^ 8)))) + (IntKind.wrap .u32 ((IntKind.wrap .u32 x27) * 2 ^ 16)))) + (IntKind.wrap .u32 ((IntKind.wrap .u32 x29) * 2 ^ 24)))) (2 ^ 16)))), (.int .u8 (IntKind.wrap .u8 (Int.fdiv (IntKind.wrap .u32 ((IntKind.wrap .u32 ((IntKind.wrap .u32 ((IntKind.wrap .u32 x23) + (IntKind.wrap .u32 ((IntKind.wrap .u32 x25) * 2 ^ 8)))) + (IntKind.wrap .u32 ((IntKind.wrap .u32 x27) * 2 ^ 16)))) + (IntKind.wrap .u32 ((IntKind.wrap .u32 x29) * 2 ^ 24)))) (2 ^ 24))))] w21 fun a61 w60 =>
  rv Try.prog (Builtin.append_ #[82, 82] 82 #[(.slice s18.1.1 s18.1.2.1 s18.1.2.2), (.slice (some a61) 4 4)]) w60 fun v62 w63 => fS v62 fun l64 l64n l64c =>
  W.ref33_Compress_k20 page_ a2 l5 l5n l5c l64 l64n l64c s18.2.1 (IntKind.wrap .u32 ((IntKind.wrap .u32 ((IntKind.wrap .u32 ((IntKind.wrap .u32 x23) + (IntKind.wrap .u32 ((IntKind.wrap .u32 x25) * 2 ^ 8)))) + (IntKind.wrap .u32 ((IntKind.wrap .u32 x27) * 2 ^ 16)))) + (IntKind.wrap .u32 ((IntKind.wrap .u32 x29) * 2 ^ 24)))) (Int.tmod (Int.fdiv (IntKind.wrap .u32 ((IntKind.wrap .u32 ((IntKind.wrap .u32 ((IntKind.wrap .u32 x23) + (IntKind.wrap .u32 ((IntKind.wrap .u32 x25) * 2 ^ 8)))) + (IntKind.wrap .u32 ((IntKind.wrap .u32 x27) * 2 ^ 16)))) + (IntKind.wrap .u32 ((IntKind.wrap .u32 x29) * 2 ^ 24)))) (2 ^ 16)) 16) 3 next20 w63 Q)))) (W.ref33_Compress_k22 page_ l5 l5n l5c s18.1.1 s18.1.2.1 s18.1.2.2 w19 Q)) ((none, 0, 0), (0 : Int), ()) w4)
theorem E.ref33_Compress (page_ : ByteArray) (w : World) (Q : Value → World → Prop) : ev Try.prog Try.f107.ntmps callable [(7, [(6, .slice none 0 0), (7, .int .i64 0)], [0, 4, 5])] [] (Try.f107.body.getD .skip) (enumE 0 [(.string page_)]) w (KQ Try.prog Try.f107.results.toList Q) = W.ref33_Compress page_ w Q := by kernel_rfl
theorem C.ref33_Compress (page_ : ByteArray) (w : World) (Q : Value → World → Prop) (h : W.ref33_Compress page_ w Q) : CallE Try.prog 107 #[(.string page_)] w Q :=
  calls_of_ev mixed callable_ok (args := [(.string page_)]) Try.func107 rfl ((E.ref33_Compress page_ w Q).symm ▸ h)

def W.ref34_little_k6 (p5 : Option Addr) (p5n : Nat) (p5c : Nat) (w : World) (Q : Value → World → Prop) : Prop :=
  rv Try.prog (convert 82 9 (.slice p5 p5n p5c)) w fun v1 w2 => fT v1 fun t3 =>
  Q (.string t3) w2
def W.ref34_little (v_ : Int) (n_ : Int) (w : World) (Q : Value → World → Prop) : Prop :=
  LoopW (S := (Option Addr × Nat × Nat) × Int × Unit) (fun s4 w5 next6 =>
  br (decide ((s4.2.1 : Int) < n_)) (rq Try.prog (do eqGuard .shr 32 (.tmp 13) (.tmp 16) (.int .u64 v_) (.int .u64 (IntKind.wrap .u64 (IntKind.wrap .i64 (8 * s4.2.1)))); binOp .shr 32 (.int .u64 v_) (.int .u64 (IntKind.wrap .u64 (IntKind.wrap .i64 (8 * s4.2.1))))) w5 fun v7 => fI .u64 v7 fun x8 =>
  al 5 #[(.int .u8 (IntKind.wrap .u8 x8))] w5 fun a10 w9 =>
  rv Try.prog (Builtin.append_ #[82, 82] 82 #[(.slice s4.1.1 s4.1.2.1 s4.1.2.2), (.slice (some a10) 1 1)]) w9 fun v11 w12 => fS v11 fun l13 l13n l13c =>
  next6 ((l13, l13n, l13c), ((IntKind.wrap .i64 (s4.2.1 + 1)) : Int), ()) w12) (W.ref34_little_k6 s4.1.1 s4.1.2.1 s4.1.2.2 w5 Q)) ((none, 0, 0), (0 : Int), ()) w
theorem E.ref34_little (v_ : Int) (n_ : Int) (w : World) (Q : Value → World → Prop) : ev Try.prog Try.f108.ntmps callable [(3, [(5, .slice none 0 0), (6, .int .i64 0)], [0, 1])] [] (Try.f108.body.getD .skip) (enumE 0 [(.int .u64 v_), (.int .i64 n_)]) w (KQ Try.prog Try.f108.results.toList Q) = W.ref34_little v_ n_ w Q := by kernel_rfl
theorem C.ref34_little (v_ : Int) (n_ : Int) (w : World) (Q : Value → World → Prop) (h : W.ref34_little v_ n_ w Q) : CallE Try.prog 108 #[(.int .u64 v_), (.int .i64 n_)] w Q :=
  calls_of_ev mixed callable_ok (args := [(.int .u64 v_), (.int .i64 n_)]) Try.func108 rfl ((E.ref34_little v_ n_ w Q).symm ▸ h)

def W.ref34_Checksum (s_ : ByteArray) (w : World) (Q : Value → World → Prop) : Prop :=
  LoopW (S := Int × Int × Unit) (fun s1 w2 next3 =>
  br (decide ((s1.2.1 : Int) < ((s_.size : Nat) : Int))) (rq Try.prog (Instr.index 9 (.string s_) (.int .i64 s1.2.1)) w2 fun v4 => fI .u8 v4 fun x5 =>
  LoopW (S := Int × Int × Unit) (fun s6 w7 next8 =>
  br (decide ((s6.2.1 : Int) < 8)) (br (((band .u32 s6.1 1) : Int) == 1) (next8 (((bxor .u32 (Int.fdiv s6.1 (2 ^ 1)) 3988292384) : Int), ((IntKind.wrap .i64 (s6.2.1 + 1)) : Int), ()) w7) (next8 (((Int.fdiv s6.1 (2 ^ 1)) : Int), ((IntKind.wrap .i64 (s6.2.1 + 1)) : Int), ()) w7)) (next3 ((s6.1 : Int), ((IntKind.wrap .i64 (s1.2.1 + 1)) : Int), ()) w7)) (((bxor .u32 s1.1 (IntKind.wrap .u32 x5)) : Int), (0 : Int), ()) w2) (Q (.int .u32 (bxor .u32 (IntKind.max .u32) s1.1)) w2)) ((4294967295 : Int), (0 : Int), ()) w
theorem E.ref34_Checksum (s_ : ByteArray) (w : World) (Q : Value → World → Prop) : ev Try.prog Try.f109.ntmps callable [(3, [(3, .int .u32 0), (4, .int .i64 0)], [0]), (7, [(3, .int .u32 0), (5, .int .i64 0)], [0, 4])] [] (Try.f109.body.getD .skip) (enumE 0 [(.string s_)]) w (KQ Try.prog Try.f109.results.toList Q) = W.ref34_Checksum s_ w Q := by kernel_rfl
theorem C.ref34_Checksum (s_ : ByteArray) (w : World) (Q : Value → World → Prop) (h : W.ref34_Checksum s_ w Q) : CallE Try.prog 109 #[(.string s_)] w Q :=
  calls_of_ev mixed callable_ok (args := [(.string s_)]) Try.func109 rfl ((E.ref34_Checksum s_ w Q).symm ▸ h)

def W.ref34_EncodeHeader_k2 (p3 : ByteArray) (w : World) (Q : Value → World → Prop) : Prop :=
  drawE fun S3 => S3 (drew w) ∧ ((CallE Try.prog 109 #[(.string p3)] (drew w) fun v4 w5 => fI .u32 v4 fun x6 =>
  S3 w5 ∧ ((CallE Try.prog 108 #[(.int .u64 (IntKind.wrap .u64 x6)), (.int .i64 4)] w5 fun v7 w8 => fT v7 fun t9 =>
  S3 w8 ∧ (rqS Try.prog S3 (do eqGuard .add 9 (.tmp 22) (.tmp 26) (.string p3) (.string t9); binOp .add 9 (.string p3) (.string t9)) fun v10 => fT v10 fun t11 =>
  rv Try.prog (Instr.makeSlice 82 (.int .i64 8) (.int .i64 8)) w8 fun v12 w13 => fS v12 fun l14 l14n l14c =>
  S3 w13 ∧ (rv Try.prog (convert 82 9 (.slice l14 l14n l14c)) w13 fun v15 w16 => fT v15 fun t17 =>
  S3 w16 ∧ (rqS Try.prog S3 (do eqGuard .add 9 (.tmp 27) (.tmp 29) (.string t11) (.string t17); binOp .add 9 (.string t11) (.string t17)) fun v18 => fT v18 fun t19 =>
  Q (.string t19) w16)))) ∧ (rv Try.prog (Instr.makeSlice 82 (.int .i64 8) (.int .i64 8)) w5 fun v20 w21 => fS v20 fun l22 l22n l22c =>
  S3 w21 ∧ ((CallE Try.prog 108 #[(.int .u64 (IntKind.wrap .u64 x6)), (.int .i64 4)] w21 fun v23 w24 => fT v23 fun t25 =>
  S3 w24 ∧ (rqS Try.prog S3 (do eqGuard .add 9 (.tmp 22) (.tmp 26) (.string p3) (.string t25); binOp .add 9 (.string p3) (.string t25)) fun v26 => fT v26 fun t27 =>
  rv Try.prog (convert 82 9 (.slice l22 l22n l22c)) w24 fun v28 w29 => fT v28 fun t30 =>
  S3 w29 ∧ (rqS Try.prog S3 (do eqGuard .add 9 (.tmp 27) (.tmp 29) (.string t27) (.string t30); binOp .add 9 (.string t27) (.string t30)) fun v31 => fT v31 fun t32 =>
  Q (.string t32) w29))) ∧ (rv Try.prog (convert 82 9 (.slice l22 l22n l22c)) w21 fun v33 w34 => fT v33 fun t35 =>
  S3 w34 ∧ (CallE Try.prog 108 #[(.int .u64 (IntKind.wrap .u64 x6)), (.int .i64 4)] w34 fun v36 w37 => fT v36 fun t38 =>
  S3 w37 ∧ (rqS Try.prog S3 (do eqGuard .add 9 (.tmp 22) (.tmp 26) (.string p3) (.string t38); binOp .add 9 (.string p3) (.string t38)) fun v39 => fT v39 fun t40 =>
  rqS Try.prog S3 (do eqGuard .add 9 (.tmp 27) (.tmp 29) (.string t40) (.string t35); binOp .add 9 (.string t40) (.string t35)) fun v41 => fT v41 fun t42 =>
  Q (.string t42) w37))))))) ∧ (rv Try.prog (Instr.makeSlice 82 (.int .i64 8) (.int .i64 8)) (drew w) fun v43 w44 => fS v43 fun l45 l45n l45c =>
  S3 w44 ∧ ((CallE Try.prog 109 #[(.string p3)] w44 fun v46 w47 => fI .u32 v46 fun x48 =>
  S3 w47 ∧ ((CallE Try.prog 108 #[(.int .u64 (IntKind.wrap .u64 x48)), (.int .i64 4)] w47 fun v49 w50 => fT v49 fun t51 =>
  S3 w50 ∧ (rqS Try.prog S3 (do eqGuard .add 9 (.tmp 22) (.tmp 26) (.string p3) (.string t51); binOp .add 9 (.string p3) (.string t51)) fun v52 => fT v52 fun t53 =>
  rv Try.prog (convert 82 9 (.slice l45 l45n l45c)) w50 fun v54 w55 => fT v54 fun t56 =>
  S3 w55 ∧ (rqS Try.prog S3 (do eqGuard .add 9 (.tmp 27) (.tmp 29) (.string t53) (.string t56); binOp .add 9 (.string t53) (.string t56)) fun v57 => fT v57 fun t58 =>
  Q (.string t58) w55))) ∧ (rv Try.prog (convert 82 9 (.slice l45 l45n l45c)) w47 fun v59 w60 => fT v59 fun t61 =>
  S3 w60 ∧ (CallE Try.prog 108 #[(.int .u64 (IntKind.wrap .u64 x48)), (.int .i64 4)] w60 fun v62 w63 => fT v62 fun t64 =>
  S3 w63 ∧ (rqS Try.prog S3 (do eqGuard .add 9 (.tmp 22) (.tmp 26) (.string p3) (.string t64); binOp .add 9 (.string p3) (.string t64)) fun v65 => fT v65 fun t66 =>
  rqS Try.prog S3 (do eqGuard .add 9 (.tmp 27) (.tmp 29) (.string t66) (.string t61); binOp .add 9 (.string t66) (.string t61)) fun v67 => fT v67 fun t68 =>
  Q (.string t68) w63))))) ∧ (rv Try.prog (convert 82 9 (.slice l45 l45n l45c)) w44 fun v69 w70 => fT v69 fun t71 =>
  S3 w70 ∧ (CallE Try.prog 109 #[(.string p3)] w70 fun v72 w73 => fI .u32 v72 fun x74 =>
  S3 w73 ∧ (CallE Try.prog 108 #[(.int .u64 (IntKind.wrap .u64 x74)), (.int .i64 4)] w73 fun v75 w76 => fT v75 fun t77 =>
  S3 w76 ∧ (rqS Try.prog S3 (do eqGuard .add 9 (.tmp 22) (.tmp 26) (.string p3) (.string t77); binOp .add 9 (.string p3) (.string t77)) fun v78 => fT v78 fun t79 =>
  rqS Try.prog S3 (do eqGuard .add 9 (.tmp 27) (.tmp 29) (.string t79) (.string t71); binOp .add 9 (.string t79) (.string t71)) fun v80 => fT v80 fun t81 =>
  Q (.string t81) w76)))))))
def W.ref34_EncodeHeader (h_ : Array Value) (w : World) (Q : Value → World → Prop) : Prop :=
  al 121 h_ w fun a2 w1 =>
  drawE fun S82 => S82 (drew w1) ∧ (ldS Try.prog S82 32 (a2.add 0) fun v83 => fI .u64 v83 fun x84 =>
  rqS Try.prog S82 (Instr.sliceAt 31 (.pointer (some (a2.add 1))) none none none) fun v85 => fS v85 fun l86 l86n l86c =>
  ldS Try.prog S82 119 (a2.add 33) fun v87 => fI .u32 v87 fun x88 =>
  ldS Try.prog S82 119 (a2.add 34) fun v89 => fI .u32 v89 fun x90 =>
  (CallE Try.prog 108 #[(.int .u64 x84), (.int .i64 8)] (drew w1) fun v91 w92 => fT v91 fun t93 =>
  S82 w92 ∧ (rqS Try.prog S82 (do eqGuard .add 9 (.const (.string ⟨#[72,73,66,49]⟩)) (.tmp 6) (.string ⟨#[72,73,66,49]⟩) (.string t93); binOp .add 9 (.string ⟨#[72,73,66,49]⟩) (.string t93)) fun v94 => fT v94 fun t95 =>
  (rv Try.prog (convert 82 9 (.slice l86 l86n l86c)) w92 fun v96 w97 => fT v96 fun t98 =>
  S82 w97 ∧ (rqS Try.prog S82 (do eqGuard .add 9 (.tmp 7) (.tmp 10) (.string t95) (.string t98); binOp .add 9 (.string t95) (.string t98)) fun v99 => fT v99 fun t100 =>
  CallE Try.prog 108 #[(.int .u64 (IntKind.wrap .u64 x88)), (.int .i64 4)] w97 fun v101 w102 => fT v101 fun t103 =>
  S82 w102 ∧ (rqS Try.prog S82 (do eqGuard .add 9 (.tmp 11) (.tmp 15) (.string t100) (.string t103); binOp .add 9 (.string t100) (.string t103)) fun v104 => fT v104 fun t105 =>
  CallE Try.prog 108 #[(.int .u64 (IntKind.wrap .u64 x90)), (.int .i64 4)] w102 fun v106 w107 => fT v106 fun t108 =>
  S82 w107 ∧ (rqS Try.prog S82 (do eqGuard .add 9 (.tmp 16) (.tmp 20) (.string t105) (.string t108); binOp .add 9 (.string t105) (.string t108)) fun v109 => fT v109 fun t110 =>
  W.ref34_EncodeHeader_k2 t110 w107 Q)))) ∧ (CallE Try.prog 108 #[(.int .u64 (IntKind.wrap .u64 x88)), (.int .i64 4)] w92 fun v111 w112 => fT v111 fun t113 =>
  S82 w112 ∧ ((rv Try.prog (convert 82 9 (.slice l86 l86n l86c)) w112 fun v114 w115 => fT v114 fun t116 =>
  S82 w115 ∧ (rqS Try.prog S82 (do eqGuard .add 9 (.tmp 7) (.tmp 10) (.string t95) (.string t116); binOp .add 9 (.string t95) (.string t116)) fun v117 => fT v117 fun t118 =>
  rqS Try.prog S82 (do eqGuard .add 9 (.tmp 11) (.tmp 15) (.string t118) (.string t113); binOp .add 9 (.string t118) (.string t113)) fun v119 => fT v119 fun t120 =>
  CallE Try.prog 108 #[(.int .u64 (IntKind.wrap .u64 x90)), (.int .i64 4)] w115 fun v121 w122 => fT v121 fun t123 =>
  S82 w122 ∧ (rqS Try.prog S82 (do eqGuard .add 9 (.tmp 16) (.tmp 20) (.string t120) (.string t123); binOp .add 9 (.string t120) (.string t123)) fun v124 => fT v124 fun t125 =>
  W.ref34_EncodeHeader_k2 t125 w122 Q))) ∧ (CallE Try.prog 108 #[(.int .u64 (IntKind.wrap .u64 x90)), (.int .i64 4)] w112 fun v126 w127 => fT v126 fun t128 =>
  S82 w127 ∧ (rv Try.prog (convert 82 9 (.slice l86 l86n l86c)) w127 fun v129 w130 => fT v129 fun t131 =>
  S82 w130 ∧ (rqS Try.prog S82 (do eqGuard .add 9 (.tmp 7) (.tmp 10) (.string t95) (.string t131); binOp .add 9 (.string t95) (.string t131)) fun v132 => fT v132 fun t133 =>
  rqS Try.prog S82 (do eqGuard .add 9 (.tmp 11) (.tmp 15) (.string t133) (.string t113); binOp .add 9 (.string t133) (.string t113)) fun v134 => fT v134 fun t135 =>
  rqS Try.prog S82 (do eqGuard .add 9 (.tmp 16) (.tmp 20) (.string t135) (.string t128); binOp .add 9 (.string t135) (.string t128)) fun v136 => fT v136 fun t137 =>
  W.ref34_EncodeHeader_k2 t137 w130 Q))))))) ∧ (rv Try.prog (convert 82 9 (.slice l86 l86n l86c)) (drew w1) fun v138 w139 => fT v138 fun t140 =>
  S82 w139 ∧ (CallE Try.prog 108 #[(.int .u64 x84), (.int .i64 8)] w139 fun v141 w142 => fT v141 fun t143 =>
  S82 w142 ∧ (rqS Try.prog S82 (do eqGuard .add 9 (.const (.string ⟨#[72,73,66,49]⟩)) (.tmp 6) (.string ⟨#[72,73,66,49]⟩) (.string t143); binOp .add 9 (.string ⟨#[72,73,66,49]⟩) (.string t143)) fun v144 => fT v144 fun t145 =>
  rqS Try.prog S82 (do eqGuard .add 9 (.tmp 7) (.tmp 10) (.string t145) (.string t140); binOp .add 9 (.string t145) (.string t140)) fun v146 => fT v146 fun t147 =>
  CallE Try.prog 108 #[(.int .u64 (IntKind.wrap .u64 x88)), (.int .i64 4)] w142 fun v148 w149 => fT v148 fun t150 =>
  S82 w149 ∧ (rqS Try.prog S82 (do eqGuard .add 9 (.tmp 11) (.tmp 15) (.string t147) (.string t150); binOp .add 9 (.string t147) (.string t150)) fun v151 => fT v151 fun t152 =>
  CallE Try.prog 108 #[(.int .u64 (IntKind.wrap .u64 x90)), (.int .i64 4)] w149 fun v153 w154 => fT v153 fun t155 =>
  S82 w154 ∧ (rqS Try.prog S82 (do eqGuard .add 9 (.tmp 16) (.tmp 20) (.string t152) (.string t155); binOp .add 9 (.string t152) (.string t155)) fun v156 => fT v156 fun t157 =>
  W.ref34_EncodeHeader_k2 t157 w154 Q))))))
theorem E.ref34_EncodeHeader (h_ : Array Value) (w : World) (Q : Value → World → Prop) : ev Try.prog Try.f110.ntmps callable [] [] (Try.f110.body.getD .skip) (enumE 0 [(.agg h_)]) w (KQ Try.prog Try.f110.results.toList Q) = W.ref34_EncodeHeader h_ w Q := by kernel_rfl
theorem C.ref34_EncodeHeader (h_ : Array Value) (w : World) (Q : Value → World → Prop) (h : W.ref34_EncodeHeader h_ w Q) : CallE Try.prog 110 #[(.agg h_)] w Q :=
  calls_of_ev mixed callable_ok (args := [(.agg h_)]) Try.func110 rfl ((E.ref34_EncodeHeader h_ w Q).symm ▸ h)

def W.ref34_value (s_ : ByteArray) (w : World) (Q : Value → World → Prop) : Prop :=
  LoopW (S := Int × Int × Unit) (fun s1 w2 next3 =>
  br (decide ((s1.2.1 : Int) < ((s_.size : Nat) : Int))) (rq Try.prog (Instr.index 9 (.string s_) (.int .i64 s1.2.1)) w2 fun v4 => fI .u8 v4 fun x5 =>
  rq Try.prog (do eqGuard .shl 32 (.tmp 15) (.tmp 18) (.int .u64 (IntKind.wrap .u64 x5)) (.int .u64 (IntKind.wrap .u64 (IntKind.wrap .i64 (8 * s1.2.1)))); binOp .shl 32 (.int .u64 (IntKind.wrap .u64 x5)) (.int .u64 (IntKind.wrap .u64 (IntKind.wrap .i64 (8 * s1.2.1))))) w2 fun v6 => fI .u64 v6 fun x7 =>
  next3 (((IntKind.wrap .u64 (s1.1 + x7)) : Int), ((IntKind.wrap .i64 (s1.2.1 + 1)) : Int), ()) w2) (Q (.int .u64 s1.1) w2)) ((0 : Int), (0 : Int), ()) w
theorem E.ref34_value (s_ : ByteArray) (w : World) (Q : Value → World → Prop) : ev Try.prog Try.f111.ntmps callable [(3, [(3, .int .u64 0), (4, .int .i64 0)], [0])] [] (Try.f111.body.getD .skip) (enumE 0 [(.string s_)]) w (KQ Try.prog Try.f111.results.toList Q) = W.ref34_value s_ w Q := by kernel_rfl
theorem C.ref34_value (s_ : ByteArray) (w : World) (Q : Value → World → Prop) (h : W.ref34_value s_ w Q) : CallE Try.prog 111 #[(.string s_)] w Q :=
  calls_of_ev mixed callable_ok (args := [(.string s_)]) Try.func111 rfl ((E.ref34_value s_ w Q).symm ▸ h)

def W.ref34_pages_k8 (p0 : ByteArray) (p4 : Option Addr) (p4n : Nat) (p4c : Nat) (p5 : Int) (p6 : Int) (next3 : (ByteArray × (Option Addr × Nat × Nat) × Unit) → World → Prop) (w : World) (Q : Value → World → Prop) : Prop :=
  rq Try.prog (Instr.sliceAt 9 (.string p0) (some (.int .i64 6)) (some (.int .i64 (IntKind.wrap .i64 (6 + p6)))) none) w fun v15 => fT v15 fun t16 =>
  CallE Try.prog 120 #[(.string t16)] w fun v17 w18 => ∃ (t19 : ByteArray) (x20 : Int), v17 = .tuple #[(.string t19), (.int .i64 x20)] ∧
  br ((x20 : Int) != 0) (Q (.tuple #[(.slice none 0 0), (.bool false)]) w18) (al 85 #[(.int .i64 (IntKind.wrap .i64 p5)), (.string t19)] w18 fun a22 w21 =>
  rv Try.prog (Builtin.append_ #[39, 39] 39 #[(.slice p4 p4n p4c), (.slice (some a22) 1 1)]) w21 fun v23 w24 => fS v23 fun l25 l25n l25c =>
  rq Try.prog (Instr.sliceAt 9 (.string p0) (some (.int .i64 (IntKind.wrap .i64 (6 + p6)))) none none) w24 fun v26 => fT v26 fun t27 =>
  next3 (t27, (l25, l25n, l25c), ()) w24)
def W.ref34_pages (body_ : ByteArray) (w : World) (Q : Value → World → Prop) : Prop :=
  LoopW (S := ByteArray × (Option Addr × Nat × Nat) × Unit) (fun s1 w2 next3 =>
  br (decide ((((s1.1.size : Nat) : Int) : Int) > 0)) (br (decide ((((s1.1.size : Nat) : Int) : Int) < 6)) (Q (.tuple #[(.slice none 0 0), (.bool false)]) w2) (drawE fun S4 => S4 (drew w2) ∧ (rqS Try.prog S4 (Instr.sliceAt 9 (.string s1.1) none (some (.int .i64 4)) none) fun v5 => fT v5 fun t6 =>
  rqS Try.prog S4 (Instr.sliceAt 9 (.string s1.1) (some (.int .i64 4)) (some (.int .i64 6)) none) fun v7 => fT v7 fun t8 =>
  CallE Try.prog 111 #[(.string t6)] (drew w2) fun v9 w10 => fI .u64 v9 fun x11 =>
  S4 w10 ∧ (CallE Try.prog 111 #[(.string t8)] w10 fun v12 w13 => fI .u64 v12 fun x14 =>
  S4 w13 ∧ (br (decide ((x11 : Int) > 2147483647)) (Q (.tuple #[(.slice none 0 0), (.bool false)]) w13) (br (decide (((IntKind.wrap .i64 (((s1.1.size : Nat) : Int) - 6)) : Int) < (IntKind.wrap .i64 x14))) (Q (.tuple #[(.slice none 0 0), (.bool false)]) w13) (br ((((s1.2.1.2.1 : Nat) : Int) : Int) == 512) (Q (.tuple #[(.slice none 0 0), (.bool false)]) w13) (br (decide ((((s1.2.1.2.1 : Nat) : Int) : Int) > 0)) (rq Try.prog (Instr.indexAt 39 (.slice s1.2.1.1 s1.2.1.2.1 s1.2.1.2.2) (.int .i64 (IntKind.wrap .i64 (((s1.2.1.2.1 : Nat) : Int) - 1)))) w13 fun v28 => fA v28 fun a29 =>
  ld Try.prog 3 (a29.add 0) w13 fun v30 => fI .i64 v30 fun x31 =>
  br (decide (((IntKind.wrap .i64 x11) : Int) ≤ x31)) (Q (.tuple #[(.slice none 0 0), (.bool false)]) w13) (W.ref34_pages_k8 s1.1 s1.2.1.1 s1.2.1.2.1 s1.2.1.2.2 x11 (IntKind.wrap .i64 x14) next3 w13 Q)) (W.ref34_pages_k8 s1.1 s1.2.1.1 s1.2.1.2.1 s1.2.1.2.2 x11 (IntKind.wrap .i64 x14) next3 w13 Q))))))))) (Q (.tuple #[(.slice s1.2.1.1 s1.2.1.2.1 s1.2.1.2.2), (.bool true)]) w2)) (body_, (none, 0, 0), ()) w
theorem E.ref34_pages (body_ : ByteArray) (w : World) (Q : Value → World → Prop) : ev Try.prog Try.f112.ntmps callable [(2, [(0, .string ⟨#[]⟩), (4, .slice none 0 0)], [])] [] (Try.f112.body.getD .skip) (enumE 0 [(.string body_)]) w (KQ Try.prog Try.f112.results.toList Q) = W.ref34_pages body_ w Q := by kernel_rfl
theorem C.ref34_pages (body_ : ByteArray) (w : World) (Q : Value → World → Prop) (h : W.ref34_pages body_ w Q) : CallE Try.prog 112 #[(.string body_)] w Q :=
  calls_of_ev mixed callable_ok (args := [(.string body_)]) Try.func112 rfl ((E.ref34_pages body_ w Q).symm ▸ h)
end Go.Proofs.Ytpinpccamfhofaa
