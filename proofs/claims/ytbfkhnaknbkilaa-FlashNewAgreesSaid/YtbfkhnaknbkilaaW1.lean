/- The conditions of the functions of this translation, written out by a program; each is an equation that the kernel checks. No condition. -/
import Derived.Test.YtbfkhnaknbkilaaEng
import Derived.Test.YtbfkhnaknbkilaaChecked
import Derived.Test.YtbfkhnaknbkilaaW0
set_option maxRecDepth 100000
set_option linter.unusedVariables false
namespace Go.Proofs.Ytbfkhnaknbkilaa
open Go Go.Ev Go.Proofs
def W.law40_FlashNewAgrees (s__0 : Int) (s__1 : Int) (s__2 : Int) (data_ : ByteArray) (w : World) (Q : Value → World → Prop) : Prop :=
  al 23 (#[(.int .i64 s__0), (.int .i64 s__1), (.int .i64 s__2)]) w fun a2 w1 =>
  ld Try.prog 23 a2 w1 fun v3 => fG v3 fun g4 =>
  CallE Try.prog 8 #[(.agg g4)] w1 fun v5 w6 => ∃ (p7 : Option Addr) (x8 : Int), v5 = .tuple #[(.pointer p7), (.int .i64 x8)] ∧
  ld Try.prog 23 a2 w6 fun v9 => fG v9 fun g10 =>
  CallE Try.prog 9 #[(.agg g10)] w6 fun v11 w12 => ∃ (p13 : Option Addr) (x14 : Int), v11 = .tuple #[(.pointer p13), (.int .i64 x14)] ∧
  ld Try.prog 23 a2 w12 fun v15 => fG v15 fun g16 =>
  CallE Try.prog 10 #[(.agg g16)] w12 fun v17 w18 => fG v17 fun g19 =>
  al 23 (zeroT Try.prog 23).cells w18 fun a21 w20 =>
  st Try.prog 23 a21 (.agg g19) w20 fun w22 =>
  ld Try.prog 23 a21 w22 fun v23 => fG v23 fun g24 =>
  CallE Try.prog 8 #[(.agg g24)] w22 fun v25 w26 => ∃ (p27 : Option Addr) (x28 : Int), v25 = .tuple #[(.pointer p27), (.int .i64 x28)] ∧
  drawE fun S29 => S29 (drew w26) ∧ (br ((x8 : Int) != x14) (S29 (drew w26) ∧ (Q (.bool false) (drew w26))) (rqS Try.prog S29 (do eqGuard .eql 24 (.tmp 34) (.const (.pointer none)) (.pointer p7) (.pointer none); binOp .eql 24 (.pointer p7) (.pointer none)) fun v30 => fB v30 fun b31 =>
  br (!(b31 == ((x8 : Int) != 0))) (S29 (drew w26) ∧ (Q (.bool false) (drew w26))) (br ((x28 : Int) != 0) (S29 (drew w26) ∧ (Q (.bool false) (drew w26))) (rqS Try.prog S29 (do eqGuard .eql 24 (.tmp 45) (.const (.pointer none)) (.pointer p27) (.pointer none); binOp .eql 24 (.pointer p27) (.pointer none)) fun v32 => fB v32 fun b33 =>
  br b33 (S29 (drew w26) ∧ (Q (.bool false) (drew w26))) (ldS Try.prog S29 23 a21 fun v34 => fG v34 fun g35 =>
  CallE Try.prog 11 #[(.pointer p27)] (drew w26) fun v36 w37 => fG v36 fun g38 =>
  S29 w37 ∧ (rqS Try.prog S29 (do eqGuard .neq 23 (.tmp 50) (.tmp 51) (.agg g38) (.agg g35); binOp .neq 23 (.agg g38) (.agg g35)) fun v39 => fB v39 fun b40 =>
  br b40 (Q (.bool false) w37) (CallE Try.prog 12 #[(.pointer p27), (.int .i64 0), (.int .i64 0), (.string data_)] w37 fun v41 w42 => fI .i64 v41 fun x43 =>
  br (((x43 : Int) == 0) == ((((data_.size : Nat) : Int) : Int) == 64)) (br ((x43 : Int) == 0) (CallE Try.prog 13 #[] w42 fun v44 w45 => fB v44 fun b46 =>
  Q (.bool b46) w45) (br ((x43 : Int) == 1) (CallE Try.prog 13 #[] w42 fun v47 w48 => fB v47 fun b49 =>
  Q (.bool b49) w48) (Q (.bool false) w42))) (Q (.bool false) w42))))))))
theorem E.law40_FlashNewAgrees (s__0 : Int) (s__1 : Int) (s__2 : Int) (data_ : ByteArray) (w : World) (Q : Value → World → Prop) : ev Try.prog Try.f3.ntmps callable [] [] (Try.f3.body.getD .skip) (enumE 0 [(.agg #[(.int .i64 s__0), (.int .i64 s__1), (.int .i64 s__2)]), (.string data_)]) w (KQ Try.prog Try.f3.results.toList Q) = W.law40_FlashNewAgrees s__0 s__1 s__2 data_ w Q := by kernel_rfl
theorem C.law40_FlashNewAgrees (s__0 : Int) (s__1 : Int) (s__2 : Int) (data_ : ByteArray) (w : World) (Q : Value → World → Prop) (h : W.law40_FlashNewAgrees s__0 s__1 s__2 data_ w Q) : CallE Try.prog 3 #[(.agg #[(.int .i64 s__0), (.int .i64 s__1), (.int .i64 s__2)]), (.string data_)] w Q :=
  calls_of_ev mixed callable_ok (args := [(.agg #[(.int .i64 s__0), (.int .i64 s__1), (.int .i64 s__2)]), (.string data_)]) Try.func3 rfl ((E.law40_FlashNewAgrees s__0 s__1 s__2 data_ w Q).symm ▸ h)

def W.law40_FlashProgramClears_k35 (p18 : ByteArray) (p20 : ByteArray) (p22 : Int) (p23 : ByteArray) (p25 : Bool) (w : World) (Q : Value → World → Prop) : Prop :=
  br (!p25) (br ((p22 : Int) == 9) (rq Try.prog (do eqGuard .eql 9 (.tmp 173) (.tmp 174) (.string p23) (.string p18); binOp .eql 9 (.string p23) (.string p18)) w fun v52 => fB v52 fun b53 =>
  br b53 (CallE Try.prog 13 #[] w fun v54 w55 => fB v54 fun b56 =>
  Q (.bool b56) w55) (Q (.bool false) w)) (Q (.bool false) w)) (br ((p22 : Int) == 0) (rq Try.prog (do eqGuard .eql 9 (.tmp 183) (.tmp 184) (.string p23) (.string p20); binOp .eql 9 (.string p23) (.string p20)) w fun v57 => fB v57 fun b58 =>
  br b58 (CallE Try.prog 13 #[] w fun v59 w60 => fB v59 fun b61 =>
  Q (.bool b61) w60) (Q (.bool false) w)) (Q (.bool false) w))
def W.law40_FlashProgramClears_k31 (p7 : Addr) (p8 : Option Addr) (p10 : Int) (p11 : Int) (p18 : ByteArray) (p20 : ByteArray) (p21 : ByteArray) (p22 : Int) (p23 : ByteArray) (p25 : Bool) (w : World) (Q : Value → World → Prop) : Prop :=
  ld Try.prog 3 (p7.add 1) w fun v62 => fI .i64 v62 fun x63 =>
  br (decide ((x63 : Int) > 1)) (ld Try.prog 3 (p7.add 1) w fun v64 => fI .i64 v64 fun x65 =>
  rq Try.prog (do eqGuard .rem 3 (.tmp 158) (.tmp 160) (.int .i64 (IntKind.wrap .i64 (p11 + 1))) (.int .i64 x65); binOp .rem 3 (.int .i64 (IntKind.wrap .i64 (p11 + 1))) (.int .i64 x65)) w fun v66 => fI .i64 v66 fun x67 =>
  CallE Try.prog 16 #[(.pointer p8), (.int .i64 p10), (.int .i64 x67)] w fun v68 w69 => ∃ (t70 : ByteArray) (x71 : Int), v68 = .tuple #[(.string t70), (.int .i64 x71)] ∧
  rq Try.prog (do eqGuard .neq 9 (.tmp 165) (.tmp 166) (.string t70) (.string p21); binOp .neq 9 (.string t70) (.string p21)) w69 fun v72 => fB v72 fun b73 =>
  br b73 (Q (.bool false) w69) (W.law40_FlashProgramClears_k35 p18 p20 p22 p23 p25 w69 Q)) (W.law40_FlashProgramClears_k35 p18 p20 p22 p23 p25 w Q)
def W.law40_FlashProgramClears_k22 (p7 : Addr) (p8 : Option Addr) (p10 : Int) (p11 : Int) (p18 : ByteArray) (p19 : Int) (p20 : ByteArray) (p21 : ByteArray) (w : World) (Q : Value → World → Prop) : Prop :=
  CallE Try.prog 12 #[(.pointer p8), (.int .i64 p10), (.int .i64 p11), (.string p20)] w fun v45 w46 => fI .i64 v45 fun x47 =>
  CallE Try.prog 16 #[(.pointer p8), (.int .i64 p10), (.int .i64 p11)] w46 fun v48 w49 => ∃ (t50 : ByteArray) (x51 : Int), v48 = .tuple #[(.string t50), (.int .i64 x51)] ∧
  br ((p19 : Int) != 0) (Q (.bool false) w49) (br ((x51 : Int) != 0) (Q (.bool false) w49) (br ((((p18.size : Nat) : Int) : Int) != 64) (Q (.bool false) w49) (LoopW (S := Bool × Int × Unit) (fun s74 w75 next76 =>
  br (decide ((s74.2.1 : Int) < ((p18.size : Nat) : Int))) (dr w75 fun w77 =>
  br s74.1 (rq Try.prog (Instr.index 9 (.string p20) (.int .i64 s74.2.1)) w77 fun v78 => fI .u8 v78 fun x79 =>
  rq Try.prog (Instr.index 9 (.string p18) (.int .i64 s74.2.1)) w77 fun v80 => fI .u8 v80 fun x81 =>
  next76 ((((bandNot .u8 x79 x81) : Int) == 0), ((IntKind.wrap .i64 (s74.2.1 + 1)) : Int), ()) w77) (next76 (false, ((IntKind.wrap .i64 (s74.2.1 + 1)) : Int), ()) w77)) (W.law40_FlashProgramClears_k31 p7 p8 p10 p11 p18 p20 p21 x47 t50 s74.1 w75 Q)) (true, (0 : Int), ()) w49)))
def W.law40_FlashProgramClears_k17 (p5 : Addr) (p7 : Addr) (p8 : Option Addr) (p10 : Int) (p11 : Int) (w : World) (Q : Value → World → Prop) : Prop :=
  CallE Try.prog 16 #[(.pointer p8), (.int .i64 p10), (.int .i64 p11)] w fun v33 w34 => ∃ (t35 : ByteArray) (x36 : Int), v33 = .tuple #[(.string t35), (.int .i64 x36)] ∧
  ld Try.prog 39 p5 w34 fun v37 => fG v37 fun g38 =>
  CallE Try.prog 18 #[(.agg g38), (.string t35)] w34 fun v39 w40 => fT v39 fun t41 =>
  CallE Try.prog 19 #[(.int .u8 1)] w40 fun v42 w43 => fT v42 fun t44 =>
  ld Try.prog 3 (p7.add 1) w43 fun v82 => fI .i64 v82 fun x83 =>
  br (decide ((x83 : Int) > 1)) (ld Try.prog 3 (p7.add 1) w43 fun v84 => fI .i64 v84 fun x85 =>
  rq Try.prog (do eqGuard .rem 3 (.tmp 104) (.tmp 106) (.int .i64 (IntKind.wrap .i64 (p11 + 1))) (.int .i64 x85); binOp .rem 3 (.int .i64 (IntKind.wrap .i64 (p11 + 1))) (.int .i64 x85)) w43 fun v86 => fI .i64 v86 fun x87 =>
  CallE Try.prog 16 #[(.pointer p8), (.int .i64 p10), (.int .i64 x87)] w43 fun v88 w89 => ∃ (t90 : ByteArray) (x91 : Int), v88 = .tuple #[(.string t90), (.int .i64 x91)] ∧
  W.law40_FlashProgramClears_k22 p7 p8 p10 p11 t35 x36 t41 t90 w89 Q) (W.law40_FlashProgramClears_k22 p7 p8 p10 p11 t35 x36 t41 t44 w43 Q)
def W.law40_FlashProgramClears (raw__0 : Int) (raw__1 : Int) (raw__2 : Int) (l_ : Option Addr) (l_n : Nat) (l_c : Nat) (c__0 : Int) (c__1 : Int) (c__2 : Int) (c__3 : Int) (c__4 : Int) (c__5 : Bool) (c__6 : Bool) (w : World) (Q : Value → World → Prop) : Prop :=
  al 23 (#[(.int .i64 raw__0), (.int .i64 raw__1), (.int .i64 raw__2)]) w fun a2 w1 =>
  al 39 (#[(.int .i64 c__0), (.int .i64 c__1), (.int .i64 c__2), (.int .u64 c__3), (.int .u64 c__4), (.bool c__5), (.bool c__6)]) w1 fun a4 w3 =>
  br (decide ((((l_n : Nat) : Int) : Int) > 20)) (CallE Try.prog 13 #[] w3 fun v5 w6 => fB v5 fun b7 =>
  Q (.bool b7) w6) (ld Try.prog 23 a2 w3 fun v8 => fG v8 fun g9 =>
  CallE Try.prog 10 #[(.agg g9)] w3 fun v10 w11 => fG v10 fun g12 =>
  al 23 (zeroT Try.prog 23).cells w11 fun a14 w13 =>
  st Try.prog 23 a14 (.agg g12) w13 fun w15 =>
  ld Try.prog 23 a14 w15 fun v16 => fG v16 fun g17 =>
  CallE Try.prog 8 #[(.agg g17)] w15 fun v18 w19 => ∃ (p20 : Option Addr) (x21 : Int), v18 = .tuple #[(.pointer p20), (.int .i64 x21)] ∧
  br ((x21 : Int) != 0) (Q (.bool false) w19) (rq Try.prog (do eqGuard .eql 24 (.tmp 43) (.const (.pointer none)) (.pointer p20) (.pointer none); binOp .eql 24 (.pointer p20) (.pointer none)) w19 fun v22 => fB v22 fun b23 =>
  br b23 (Q (.bool false) w19) (st Try.prog 4 (a4.add 6) (.bool false) w19 fun w24 =>
  ld Try.prog 39 a4 w24 fun v25 => fG v25 fun g26 =>
  ld Try.prog 23 a14 w24 fun v27 => fG v27 fun g28 =>
  CallE Try.prog 14 #[(.agg g26), (.agg g28)] w24 fun v29 w30 => ∃ (x31 : Int) (x32 : Int), v29 = .tuple #[(.int .i64 x31), (.int .i64 x32)] ∧
  LoopW (S := Int × Unit) (fun s92 w93 next94 =>
  br (decide ((s92.1 : Int) < ((l_n : Nat) : Int))) (rq Try.prog (Instr.indexAt 36 (.slice l_ l_n l_c) (.int .i64 s92.1)) w93 fun v95 => fA v95 fun a96 =>
  ld Try.prog 39 a96 w93 fun v97 => fG v97 fun g98 =>
  al 39 (zeroT Try.prog 39).cells w93 fun a100 w99 =>
  st Try.prog 39 a100 (.agg g98) w99 fun w101 =>
  ld Try.prog 3 (a100.add 0) w101 fun v102 => fI .i64 v102 fun x103 =>
  CallE Try.prog 15 #[(.int .i64 x103), (.int .i64 7)] w101 fun v104 w105 => fI .i64 v104 fun x106 =>
  st Try.prog 4 (a100.add 6) (.bool false) w105 fun w107 =>
  st Try.prog 3 (a100.add 0) (.int .i64 x106) w107 fun w108 =>
  ld Try.prog 39 a100 w108 fun v109 => fG v109 fun g110 =>
  ld Try.prog 23 a14 w108 fun v111 => fG v111 fun g112 =>
  CallE Try.prog 14 #[(.agg g110), (.agg g112)] w108 fun v113 w114 => ∃ (x115 : Int) (x116 : Int), v113 = .tuple #[(.int .i64 x115), (.int .i64 x116)] ∧
  CallE Try.prog 16 #[(.pointer p20), (.int .i64 x115), (.int .i64 x116)] w114 fun v117 w118 => ∃ (t119 : ByteArray) (x120 : Int), v117 = .tuple #[(.string t119), (.int .i64 x120)] ∧
  ld Try.prog 39 a100 w118 fun v121 => fG v121 fun g122 =>
  ld Try.prog 23 a14 w118 fun v123 => fG v123 fun g124 =>
  CallE Try.prog 17 #[(.pointer p20), (.agg g122), (.agg g124), (.string t119)] w118 fun v125 w126 => ∃ (t127 : ByteArray) (x128 : Int), v125 = .tuple #[(.string t127), (.int .i64 x128)] ∧
  next94 (((IntKind.wrap .i64 (s92.1 + 1)) : Int), ()) w126) (W.law40_FlashProgramClears_k17 a4 a14 p20 x31 x32 w93 Q)) ((0 : Int), ()) w30)))
theorem E.law40_FlashProgramClears (raw__0 : Int) (raw__1 : Int) (raw__2 : Int) (l_ : Option Addr) (l_n : Nat) (l_c : Nat) (c__0 : Int) (c__1 : Int) (c__2 : Int) (c__3 : Int) (c__4 : Int) (c__5 : Bool) (c__6 : Bool) (w : World) (Q : Value → World → Prop) : ev Try.prog Try.f4.ntmps callable [(28, [(25, .bool false), (26, .int .i64 0)], [7, 8, 10, 11, 18, 20, 21, 22, 23]), (10, [(12, .int .i64 0)], [1, 5, 7, 8, 10, 11])] [] (Try.f4.body.getD .skip) (enumE 0 [(.agg #[(.int .i64 raw__0), (.int .i64 raw__1), (.int .i64 raw__2)]), (.slice l_ l_n l_c), (.agg #[(.int .i64 c__0), (.int .i64 c__1), (.int .i64 c__2), (.int .u64 c__3), (.int .u64 c__4), (.bool c__5), (.bool c__6)])]) w (KQ Try.prog Try.f4.results.toList Q) = W.law40_FlashProgramClears raw__0 raw__1 raw__2 l_ l_n l_c c__0 c__1 c__2 c__3 c__4 c__5 c__6 w Q := by kernel_rfl
theorem C.law40_FlashProgramClears (raw__0 : Int) (raw__1 : Int) (raw__2 : Int) (l_ : Option Addr) (l_n : Nat) (l_c : Nat) (c__0 : Int) (c__1 : Int) (c__2 : Int) (c__3 : Int) (c__4 : Int) (c__5 : Bool) (c__6 : Bool) (w : World) (Q : Value → World → Prop) (h : W.law40_FlashProgramClears raw__0 raw__1 raw__2 l_ l_n l_c c__0 c__1 c__2 c__3 c__4 c__5 c__6 w Q) : CallE Try.prog 4 #[(.agg #[(.int .i64 raw__0), (.int .i64 raw__1), (.int .i64 raw__2)]), (.slice l_ l_n l_c), (.agg #[(.int .i64 c__0), (.int .i64 c__1), (.int .i64 c__2), (.int .u64 c__3), (.int .u64 c__4), (.bool c__5), (.bool c__6)])] w Q :=
  calls_of_ev mixed callable_ok (args := [(.agg #[(.int .i64 raw__0), (.int .i64 raw__1), (.int .i64 raw__2)]), (.slice l_ l_n l_c), (.agg #[(.int .i64 c__0), (.int .i64 c__1), (.int .i64 c__2), (.int .u64 c__3), (.int .u64 c__4), (.bool c__5), (.bool c__6)])]) Try.func4 rfl ((E.law40_FlashProgramClears raw__0 raw__1 raw__2 l_ l_n l_c c__0 c__1 c__2 c__3 c__4 c__5 c__6 w Q).symm ▸ h)

def W.law40_FlashInterruption_k39 (w : World) (Q : Value → World → Prop) : Prop :=
  CallE Try.prog 13 #[] w fun v71 w72 => fB v71 fun b73 =>
  Q (.bool b73) w72
def W.law40_FlashInterruption_k27 (p6 : Addr) (p10 : Option Addr) (p18 : Int) (p19 : Int) (p20 : ByteArray) (p22 : ByteArray) (p23 : Int) (p24 : Int) (w : World) (Q : Value → World → Prop) : Prop :=
  CallE Try.prog 16 #[(.pointer p10), (.int .i64 p18), (.int .i64 p19)] w fun v51 w52 => ∃ (t53 : ByteArray) (x54 : Int), v51 = .tuple #[(.string t53), (.int .i64 x54)] ∧
  br ((p24 : Int) != 16) (Q (.bool false) w52) (br ((x54 : Int) != 16) (Q (.bool false) w52) (CallE Try.prog 23 #[(.pointer p10)] w52 fun v55 w56 => fI .i64 v55 fun x57 =>
  br ((x57 : Int) != 9) (Q (.bool false) w56) (CallE Try.prog 24 #[(.pointer p10)] w56 fun v58 w59 => fI .i64 v58 fun x60 =>
  br ((x60 : Int) != 0) (Q (.bool false) w59) (CallE Try.prog 20 #[(.pointer p10), (.int .i64 p18)] w59 fun v61 w62 => fI .i64 v61 fun x63 =>
  br ((x63 : Int) != p23) (Q (.bool false) w62) (CallE Try.prog 16 #[(.pointer p10), (.int .i64 p18), (.int .i64 p19)] w62 fun v64 w65 => ∃ (t66 : ByteArray) (x67 : Int), v64 = .tuple #[(.string t66), (.int .i64 x67)] ∧
  br ((x67 : Int) != 0) (Q (.bool false) w65) (CallE Try.prog 25 #[(.string t66), (.string p20), (.string p22)] w65 fun v68 w69 => fB v68 fun b70 =>
  br (!b70) (Q (.bool false) w69) (LoopW (S := Int × Unit) (fun s74 w75 next76 =>
  br (decide ((s74.1 : Int) < ((t66.size : Nat) : Int))) (ld Try.prog 37 (p6.add 4) w75 fun v77 => fI .u64 v77 fun x78 =>
  rq Try.prog (do eqGuard .shr 37 (.tmp 172) (.tmp 176) (.int .u64 x78) (.int .u64 (IntKind.wrap .u64 (IntKind.wrap .i64 (8 * (Int.tmod s74.1 8))))); binOp .shr 37 (.int .u64 x78) (.int .u64 (IntKind.wrap .u64 (IntKind.wrap .i64 (8 * (Int.tmod s74.1 8)))))) w75 fun v79 => fI .u64 v79 fun x80 =>
  dr w75 fun w81 =>
  rq Try.prog (Instr.index 9 (.string t66) (.int .i64 s74.1)) w81 fun v82 => fI .u8 v82 fun x83 =>
  rq Try.prog (Instr.index 9 (.string p20) (.int .i64 s74.1)) w81 fun v84 => fI .u8 v84 fun x85 =>
  rq Try.prog (Instr.index 9 (.string p22) (.int .i64 s74.1)) w81 fun v86 => fI .u8 v86 fun x87 =>
  br ((x83 : Int) != (bor .u8 (bandNot .u8 x85 (IntKind.wrap .u8 x80)) (band .u8 x87 (IntKind.wrap .u8 x80)))) (Q (.bool false) w81) (next76 (((IntKind.wrap .i64 (s74.1 + 1)) : Int), ()) w81)) (W.law40_FlashInterruption_k39  w75 Q)) ((0 : Int), ()) w69)))))))
def W.law40_FlashInterruption_k16 (p3 : Bool) (p6 : Addr) (p9 : Addr) (p10 : Option Addr) (w : World) (Q : Value → World → Prop) : Prop :=
  st Try.prog 4 (p6.add 6) (.bool false) w fun w25 =>
  st Try.prog 4 (p6.add 5) (.bool true) w25 fun w26 =>
  ld Try.prog 39 p6 w26 fun v27 => fG v27 fun g28 =>
  ld Try.prog 23 p9 w26 fun v29 => fG v29 fun g30 =>
  CallE Try.prog 14 #[(.agg g28), (.agg g30)] w26 fun v31 w32 => ∃ (x33 : Int) (x34 : Int), v31 = .tuple #[(.int .i64 x33), (.int .i64 x34)] ∧
  CallE Try.prog 16 #[(.pointer p10), (.int .i64 x33), (.int .i64 x34)] w32 fun v35 w36 => ∃ (t37 : ByteArray) (x38 : Int), v35 = .tuple #[(.string t37), (.int .i64 x38)] ∧
  ld Try.prog 39 p6 w36 fun v39 => fG v39 fun g40 =>
  CallE Try.prog 18 #[(.agg g40), (.string t37)] w36 fun v41 w42 => fT v41 fun t43 =>
  CallE Try.prog 20 #[(.pointer p10), (.int .i64 x33)] w42 fun v44 w45 => fI .i64 v44 fun x46 =>
  ld Try.prog 37 (p6.add 4) w45 fun v47 => fI .u64 v47 fun x48 =>
  CallE Try.prog 21 #[(.pointer p10), (.int .i64 0), (.int .u64 x48)] w45 fun v49 w50 => v49 = .tuple #[] ∧
  br p3 (CallE Try.prog 19 #[(.int .u8 255)] w50 fun v88 w89 => fT v88 fun t90 =>
  CallE Try.prog 22 #[(.pointer p10), (.int .i64 x33)] w89 fun v91 w92 => fI .i64 v91 fun x93 =>
  W.law40_FlashInterruption_k27 p6 p10 x33 x34 t37 t90 (IntKind.wrap .i64 (x46 + 1)) x93 w92 Q) (CallE Try.prog 12 #[(.pointer p10), (.int .i64 x33), (.int .i64 x34), (.string t43)] w50 fun v94 w95 => fI .i64 v94 fun x96 =>
  W.law40_FlashInterruption_k27 p6 p10 x33 x34 t37 t43 x46 x96 w95 Q)
def W.law40_FlashInterruption (raw__0 : Int) (raw__1 : Int) (raw__2 : Int) (l_ : Option Addr) (l_n : Nat) (l_c : Nat) (c__0 : Int) (c__1 : Int) (c__2 : Int) (c__3 : Int) (c__4 : Int) (c__5 : Bool) (c__6 : Bool) (erase_ : Bool) (w : World) (Q : Value → World → Prop) : Prop :=
  al 23 (#[(.int .i64 raw__0), (.int .i64 raw__1), (.int .i64 raw__2)]) w fun a2 w1 =>
  al 39 (#[(.int .i64 c__0), (.int .i64 c__1), (.int .i64 c__2), (.int .u64 c__3), (.int .u64 c__4), (.bool c__5), (.bool c__6)]) w1 fun a4 w3 =>
  br (decide ((((l_n : Nat) : Int) : Int) > 20)) (CallE Try.prog 13 #[] w3 fun v5 w6 => fB v5 fun b7 =>
  Q (.bool b7) w6) (ld Try.prog 23 a2 w3 fun v8 => fG v8 fun g9 =>
  CallE Try.prog 10 #[(.agg g9)] w3 fun v10 w11 => fG v10 fun g12 =>
  al 23 (zeroT Try.prog 23).cells w11 fun a14 w13 =>
  st Try.prog 23 a14 (.agg g12) w13 fun w15 =>
  st Try.prog 3 (a14.add 2) (.int .i64 30) w15 fun w16 =>
  ld Try.prog 23 a14 w16 fun v17 => fG v17 fun g18 =>
  CallE Try.prog 8 #[(.agg g18)] w16 fun v19 w20 => ∃ (p21 : Option Addr) (x22 : Int), v19 = .tuple #[(.pointer p21), (.int .i64 x22)] ∧
  br ((x22 : Int) != 0) (Q (.bool false) w20) (rq Try.prog (do eqGuard .eql 24 (.tmp 46) (.const (.pointer none)) (.pointer p21) (.pointer none); binOp .eql 24 (.pointer p21) (.pointer none)) w20 fun v23 => fB v23 fun b24 =>
  br b24 (Q (.bool false) w20) (LoopW (S := Int × Unit) (fun s97 w98 next99 =>
  br (decide ((s97.1 : Int) < ((l_n : Nat) : Int))) (rq Try.prog (Instr.indexAt 36 (.slice l_ l_n l_c) (.int .i64 s97.1)) w98 fun v100 => fA v100 fun a101 =>
  ld Try.prog 39 a101 w98 fun v102 => fG v102 fun g103 =>
  al 39 (zeroT Try.prog 39).cells w98 fun a105 w104 =>
  st Try.prog 39 a105 (.agg g103) w104 fun w106 =>
  ld Try.prog 3 (a105.add 0) w106 fun v107 => fI .i64 v107 fun x108 =>
  CallE Try.prog 15 #[(.int .i64 x108), (.int .i64 6)] w106 fun v109 w110 => fI .i64 v109 fun x111 =>
  st Try.prog 4 (a105.add 6) (.bool false) w110 fun w112 =>
  st Try.prog 3 (a105.add 0) (.int .i64 x111) w112 fun w113 =>
  ld Try.prog 39 a105 w113 fun v114 => fG v114 fun g115 =>
  ld Try.prog 23 a14 w113 fun v116 => fG v116 fun g117 =>
  CallE Try.prog 14 #[(.agg g115), (.agg g117)] w113 fun v118 w119 => ∃ (x120 : Int) (x121 : Int), v118 = .tuple #[(.int .i64 x120), (.int .i64 x121)] ∧
  CallE Try.prog 16 #[(.pointer p21), (.int .i64 x120), (.int .i64 x121)] w119 fun v122 w123 => ∃ (t124 : ByteArray) (x125 : Int), v122 = .tuple #[(.string t124), (.int .i64 x125)] ∧
  ld Try.prog 39 a105 w123 fun v126 => fG v126 fun g127 =>
  ld Try.prog 23 a14 w123 fun v128 => fG v128 fun g129 =>
  CallE Try.prog 17 #[(.pointer p21), (.agg g127), (.agg g129), (.string t124)] w123 fun v130 w131 => ∃ (t132 : ByteArray) (x133 : Int), v130 = .tuple #[(.string t132), (.int .i64 x133)] ∧
  next99 (((IntKind.wrap .i64 (s97.1 + 1)) : Int), ()) w131) (W.law40_FlashInterruption_k16 erase_ a4 a14 p21 w98 Q)) ((0 : Int), ()) w20)))
theorem E.law40_FlashInterruption (raw__0 : Int) (raw__1 : Int) (raw__2 : Int) (l_ : Option Addr) (l_n : Nat) (l_c : Nat) (c__0 : Int) (c__1 : Int) (c__2 : Int) (c__3 : Int) (c__4 : Int) (c__5 : Bool) (c__6 : Bool) (erase_ : Bool) (w : World) (Q : Value → World → Prop) : ev Try.prog Try.f5.ntmps callable [(34, [(29, .int .i64 0)], [6, 20, 22, 27]), (9, [(12, .int .i64 0)], [1, 3, 6, 9, 10])] [] (Try.f5.body.getD .skip) (enumE 0 [(.agg #[(.int .i64 raw__0), (.int .i64 raw__1), (.int .i64 raw__2)]), (.slice l_ l_n l_c), (.agg #[(.int .i64 c__0), (.int .i64 c__1), (.int .i64 c__2), (.int .u64 c__3), (.int .u64 c__4), (.bool c__5), (.bool c__6)]), (.bool erase_)]) w (KQ Try.prog Try.f5.results.toList Q) = W.law40_FlashInterruption raw__0 raw__1 raw__2 l_ l_n l_c c__0 c__1 c__2 c__3 c__4 c__5 c__6 erase_ w Q := by kernel_rfl
theorem C.law40_FlashInterruption (raw__0 : Int) (raw__1 : Int) (raw__2 : Int) (l_ : Option Addr) (l_n : Nat) (l_c : Nat) (c__0 : Int) (c__1 : Int) (c__2 : Int) (c__3 : Int) (c__4 : Int) (c__5 : Bool) (c__6 : Bool) (erase_ : Bool) (w : World) (Q : Value → World → Prop) (h : W.law40_FlashInterruption raw__0 raw__1 raw__2 l_ l_n l_c c__0 c__1 c__2 c__3 c__4 c__5 c__6 erase_ w Q) : CallE Try.prog 5 #[(.agg #[(.int .i64 raw__0), (.int .i64 raw__1), (.int .i64 raw__2)]), (.slice l_ l_n l_c), (.agg #[(.int .i64 c__0), (.int .i64 c__1), (.int .i64 c__2), (.int .u64 c__3), (.int .u64 c__4), (.bool c__5), (.bool c__6)]), (.bool erase_)] w Q :=
  calls_of_ev mixed callable_ok (args := [(.agg #[(.int .i64 raw__0), (.int .i64 raw__1), (.int .i64 raw__2)]), (.slice l_ l_n l_c), (.agg #[(.int .i64 c__0), (.int .i64 c__1), (.int .i64 c__2), (.int .u64 c__3), (.int .u64 c__4), (.bool c__5), (.bool c__6)]), (.bool erase_)]) Try.func5 rfl ((E.law40_FlashInterruption raw__0 raw__1 raw__2 l_ l_n l_c c__0 c__1 c__2 c__3 c__4 c__5 c__6 erase_ w Q).symm ▸ h)

def W.law40_FlashWear_k26 (w : World) (Q : Value → World → Prop) : Prop :=
  CallE Try.prog 13 #[] w fun v27 w28 => fB v27 fun b29 =>
  Q (.bool b29) w28
def W.law40_FlashWear_k24 (p1 : Option Addr) (p1n : Nat) (p1c : Nat) (p5 : Addr) (p6 : Option Addr) (p8 : Option Addr) (p8n : Nat) (p8c : Nat) (p9 : Int) (p11 : Int) (next32 : (Int × Unit) → World → Prop) (w : World) (Q : Value → World → Prop) : Prop :=
  drawE fun S67 => S67 (drew w) ∧ (rqS Try.prog S67 (Instr.indexAt 56 (.slice p8 p8n p8c) (.int .i64 p11)) fun v68 => fA v68 fun a69 =>
  ldS Try.prog S67 3 a69 fun v70 => fI .i64 v70 fun x71 =>
  CallE Try.prog 20 #[(.pointer p6), (.int .i64 p11)] (drew w) fun v72 w73 => fI .i64 v72 fun x74 =>
  S67 w73 ∧ (br ((x74 : Int) != x71) (Q (.bool false) w73) (next32 (((IntKind.wrap .i64 (p9 + 1)) : Int), ()) w73)))
def W.law40_FlashWear_k19 (p1 : Option Addr) (p1n : Nat) (p1c : Nat) (p5 : Addr) (p6 : Option Addr) (p8 : Option Addr) (p8n : Nat) (p8c : Nat) (p9 : Int) (p11 : Int) (p12 : Int) (p16 : Int) (next32 : (Int × Unit) → World → Prop) (w : World) (Q : Value → World → Prop) : Prop :=
  br ((p16 : Int) == 0) (rq Try.prog (Instr.indexAt 56 (.slice p8 p8n p8c) (.int .i64 p11)) w fun v77 => fA v77 fun a78 =>
  ld Try.prog 3 a78 w fun v79 => fI .i64 v79 fun x80 =>
  rq Try.prog (Instr.indexAt 56 (.slice p8 p8n p8c) (.int .i64 p11)) w fun v81 => fA v81 fun a82 =>
  st Try.prog 3 a82 (.int .i64 (IntKind.wrap .i64 (x80 + 1))) w fun w83 =>
  CallE Try.prog 16 #[(.pointer p6), (.int .i64 p11), (.int .i64 p12)] w83 fun v84 w85 => ∃ (t86 : ByteArray) (x87 : Int), v84 = .tuple #[(.string t86), (.int .i64 x87)] ∧
  br ((x87 : Int) != 0) (Q (.bool false) w85) (CallE Try.prog 19 #[(.int .u8 255)] w85 fun v88 w89 => fT v88 fun t90 =>
  rq Try.prog (do eqGuard .neq 9 (.tmp 114) (.tmp 115) (.string t86) (.string t90); binOp .neq 9 (.string t86) (.string t90)) w89 fun v91 => fB v91 fun b92 =>
  br b92 (Q (.bool false) w89) (W.law40_FlashWear_k24 p1 p1n p1c p5 p6 p8 p8n p8c p9 p11 next32 w89 Q))) (W.law40_FlashWear_k24 p1 p1n p1c p5 p6 p8 p8n p8c p9 p11 next32 w Q)
def W.law40_FlashWear (raw__0 : Int) (raw__1 : Int) (raw__2 : Int) (l_ : Option Addr) (l_n : Nat) (l_c : Nat) (w : World) (Q : Value → World → Prop) : Prop :=
  al 23 (#[(.int .i64 raw__0), (.int .i64 raw__1), (.int .i64 raw__2)]) w fun a2 w1 =>
  br (decide ((((l_n : Nat) : Int) : Int) > 60)) (CallE Try.prog 13 #[] w1 fun v3 w4 => fB v3 fun b5 =>
  Q (.bool b5) w4) (ld Try.prog 23 a2 w1 fun v6 => fG v6 fun g7 =>
  CallE Try.prog 10 #[(.agg g7)] w1 fun v8 w9 => fG v8 fun g10 =>
  al 23 (zeroT Try.prog 23).cells w9 fun a12 w11 =>
  st Try.prog 23 a12 (.agg g10) w11 fun w13 =>
  ld Try.prog 23 a12 w13 fun v14 => fG v14 fun g15 =>
  CallE Try.prog 8 #[(.agg g15)] w13 fun v16 w17 => ∃ (p18 : Option Addr) (x19 : Int), v16 = .tuple #[(.pointer p18), (.int .i64 x19)] ∧
  br ((x19 : Int) != 0) (Q (.bool false) w17) (rq Try.prog (do eqGuard .eql 24 (.tmp 33) (.const (.pointer none)) (.pointer p18) (.pointer none); binOp .eql 24 (.pointer p18) (.pointer none)) w17 fun v20 => fB v20 fun b21 =>
  br b21 (Q (.bool false) w17) (ld Try.prog 3 (a12.add 0) w17 fun v22 => fI .i64 v22 fun x23 =>
  rv Try.prog (Instr.makeSlice 56 (.int .i64 x23) (.int .i64 x23)) w17 fun v24 w25 => fS v24 fun l26 l26n l26c =>
  LoopW (S := Int × Unit) (fun s30 w31 next32 =>
  br (decide ((s30.1 : Int) < ((l_n : Nat) : Int))) (rq Try.prog (Instr.indexAt 36 (.slice l_ l_n l_c) (.int .i64 s30.1)) w31 fun v33 => fA v33 fun a34 =>
  ld Try.prog 39 a34 w31 fun v35 => fG v35 fun g36 =>
  al 39 (zeroT Try.prog 39).cells w31 fun a38 w37 =>
  st Try.prog 39 a38 (.agg g36) w37 fun w39 =>
  ld Try.prog 3 (a38.add 0) w39 fun v40 => fI .i64 v40 fun x41 =>
  CallE Try.prog 15 #[(.int .i64 x41), (.int .i64 7)] w39 fun v42 w43 => fI .i64 v42 fun x44 =>
  st Try.prog 4 (a38.add 6) (.bool false) w43 fun w45 =>
  st Try.prog 3 (a38.add 0) (.int .i64 x44) w45 fun w46 =>
  ld Try.prog 39 a38 w46 fun v47 => fG v47 fun g48 =>
  ld Try.prog 23 a12 w46 fun v49 => fG v49 fun g50 =>
  CallE Try.prog 14 #[(.agg g48), (.agg g50)] w46 fun v51 w52 => ∃ (x53 : Int) (x54 : Int), v51 = .tuple #[(.int .i64 x53), (.int .i64 x54)] ∧
  CallE Try.prog 16 #[(.pointer p18), (.int .i64 x53), (.int .i64 x54)] w52 fun v55 w56 => ∃ (t57 : ByteArray) (x58 : Int), v55 = .tuple #[(.string t57), (.int .i64 x58)] ∧
  ld Try.prog 39 a38 w56 fun v59 => fG v59 fun g60 =>
  ld Try.prog 23 a12 w56 fun v61 => fG v61 fun g62 =>
  CallE Try.prog 17 #[(.pointer p18), (.agg g60), (.agg g62), (.string t57)] w56 fun v63 w64 => ∃ (t65 : ByteArray) (x66 : Int), v63 = .tuple #[(.string t65), (.int .i64 x66)] ∧
  ld Try.prog 3 (a38.add 0) w64 fun v75 => fI .i64 v75 fun x76 =>
  br (decide ((x76 : Int) ≥ 5)) (dr w64 fun w93 =>
  rq Try.prog (Instr.indexAt 56 (.slice l26 l26n l26c) (.int .i64 x53)) w93 fun v94 => fA v94 fun a95 =>
  ld Try.prog 3 a95 w93 fun v96 => fI .i64 v96 fun x97 =>
  ld Try.prog 3 (a12.add 2) w93 fun v98 => fI .i64 v98 fun x99 =>
  br (!(((x66 : Int) == 0) == (decide ((x97 : Int) < x99)))) (Q (.bool false) w93) (br ((x66 : Int) != 0) (br ((x66 : Int) != 15) (Q (.bool false) w93) (W.law40_FlashWear_k19 l_ l_n l_c a12 p18 l26 l26n l26c s30.1 x53 x54 x66 next32 w93 Q)) (W.law40_FlashWear_k19 l_ l_n l_c a12 p18 l26 l26n l26c s30.1 x53 x54 x66 next32 w93 Q))) (W.law40_FlashWear_k24 l_ l_n l_c a12 p18 l26 l26n l26c s30.1 x53 next32 w64 Q)) (W.law40_FlashWear_k26  w31 Q)) ((0 : Int), ()) w25)))
theorem E.law40_FlashWear (raw__0 : Int) (raw__1 : Int) (raw__2 : Int) (l_ : Option Addr) (l_n : Nat) (l_c : Nat) (w : World) (Q : Value → World → Prop) : ev Try.prog Try.f6.ntmps callable [(9, [(9, .int .i64 0)], [1, 5, 6, 8])] [] (Try.f6.body.getD .skip) (enumE 0 [(.agg #[(.int .i64 raw__0), (.int .i64 raw__1), (.int .i64 raw__2)]), (.slice l_ l_n l_c)]) w (KQ Try.prog Try.f6.results.toList Q) = W.law40_FlashWear raw__0 raw__1 raw__2 l_ l_n l_c w Q := by kernel_rfl
theorem C.law40_FlashWear (raw__0 : Int) (raw__1 : Int) (raw__2 : Int) (l_ : Option Addr) (l_n : Nat) (l_c : Nat) (w : World) (Q : Value → World → Prop) (h : W.law40_FlashWear raw__0 raw__1 raw__2 l_ l_n l_c w Q) : CallE Try.prog 6 #[(.agg #[(.int .i64 raw__0), (.int .i64 raw__1), (.int .i64 raw__2)]), (.slice l_ l_n l_c)] w Q :=
  calls_of_ev mixed callable_ok (args := [(.agg #[(.int .i64 raw__0), (.int .i64 raw__1), (.int .i64 raw__2)]), (.slice l_ l_n l_c)]) Try.func6 rfl ((E.law40_FlashWear raw__0 raw__1 raw__2 l_ l_n l_c w Q).symm ▸ h)

def W.law40_FlashRetry_k31 (p10 : Option Addr) (p18 : Int) (p19 : Int) (p22 : ByteArray) (p24 : Int) (w : World) (Q : Value → World → Prop) : Prop :=
  CallE Try.prog 16 #[(.pointer p10), (.int .i64 p18), (.int .i64 p19)] w fun v51 w52 => ∃ (t53 : ByteArray) (x54 : Int), v51 = .tuple #[(.string t53), (.int .i64 x54)] ∧
  br ((p24 : Int) == 0) (br ((x54 : Int) == 0) (rq Try.prog (do eqGuard .eql 9 (.tmp 140) (.tmp 141) (.string t53) (.string p22); binOp .eql 9 (.string t53) (.string p22)) w52 fun v55 => fB v55 fun b56 =>
  br b56 (CallE Try.prog 13 #[] w52 fun v57 w58 => fB v57 fun b59 =>
  Q (.bool b59) w58) (Q (.bool false) w52)) (Q (.bool false) w52)) (Q (.bool false) w52)
def W.law40_FlashRetry_k25 (p3 : Bool) (p10 : Option Addr) (p18 : Int) (p19 : Int) (p22 : ByteArray) (p23 : Int) (w : World) (Q : Value → World → Prop) : Prop :=
  br ((p23 : Int) != 16) (Q (.bool false) w) (CallE Try.prog 24 #[(.pointer p10)] w fun v48 w49 => fI .i64 v48 fun x50 =>
  br ((x50 : Int) != 0) (Q (.bool false) w49) (br p3 (CallE Try.prog 19 #[(.int .u8 255)] w49 fun v60 w61 => fT v60 fun t62 =>
  CallE Try.prog 22 #[(.pointer p10), (.int .i64 p18)] w61 fun v63 w64 => fI .i64 v63 fun x65 =>
  W.law40_FlashRetry_k31 p10 p18 p19 t62 x65 w64 Q) (CallE Try.prog 12 #[(.pointer p10), (.int .i64 p18), (.int .i64 p19), (.string p22)] w49 fun v66 w67 => fI .i64 v66 fun x68 =>
  W.law40_FlashRetry_k31 p10 p18 p19 p22 x68 w67 Q)))
def W.law40_FlashRetry_k16 (p3 : Bool) (p6 : Addr) (p9 : Addr) (p10 : Option Addr) (w : World) (Q : Value → World → Prop) : Prop :=
  st Try.prog 4 (p6.add 6) (.bool false) w fun w25 =>
  st Try.prog 4 (p6.add 5) (.bool true) w25 fun w26 =>
  ld Try.prog 39 p6 w26 fun v27 => fG v27 fun g28 =>
  ld Try.prog 23 p9 w26 fun v29 => fG v29 fun g30 =>
  CallE Try.prog 14 #[(.agg g28), (.agg g30)] w26 fun v31 w32 => ∃ (x33 : Int) (x34 : Int), v31 = .tuple #[(.int .i64 x33), (.int .i64 x34)] ∧
  CallE Try.prog 16 #[(.pointer p10), (.int .i64 x33), (.int .i64 x34)] w32 fun v35 w36 => ∃ (t37 : ByteArray) (x38 : Int), v35 = .tuple #[(.string t37), (.int .i64 x38)] ∧
  ld Try.prog 39 p6 w36 fun v39 => fG v39 fun g40 =>
  CallE Try.prog 18 #[(.agg g40), (.string t37)] w36 fun v41 w42 => fT v41 fun t43 =>
  ld Try.prog 37 (p6.add 4) w42 fun v44 => fI .u64 v44 fun x45 =>
  CallE Try.prog 21 #[(.pointer p10), (.int .i64 0), (.int .u64 x45)] w42 fun v46 w47 => v46 = .tuple #[] ∧
  br p3 (CallE Try.prog 22 #[(.pointer p10), (.int .i64 x33)] w47 fun v69 w70 => fI .i64 v69 fun x71 =>
  W.law40_FlashRetry_k25 p3 p10 x33 x34 t43 x71 w70 Q) (CallE Try.prog 12 #[(.pointer p10), (.int .i64 x33), (.int .i64 x34), (.string t43)] w47 fun v72 w73 => fI .i64 v72 fun x74 =>
  W.law40_FlashRetry_k25 p3 p10 x33 x34 t43 x74 w73 Q)
def W.law40_FlashRetry (raw__0 : Int) (raw__1 : Int) (raw__2 : Int) (l_ : Option Addr) (l_n : Nat) (l_c : Nat) (c__0 : Int) (c__1 : Int) (c__2 : Int) (c__3 : Int) (c__4 : Int) (c__5 : Bool) (c__6 : Bool) (erase_ : Bool) (w : World) (Q : Value → World → Prop) : Prop :=
  al 23 (#[(.int .i64 raw__0), (.int .i64 raw__1), (.int .i64 raw__2)]) w fun a2 w1 =>
  al 39 (#[(.int .i64 c__0), (.int .i64 c__1), (.int .i64 c__2), (.int .u64 c__3), (.int .u64 c__4), (.bool c__5), (.bool c__6)]) w1 fun a4 w3 =>
  br (decide ((((l_n : Nat) : Int) : Int) > 20)) (CallE Try.prog 13 #[] w3 fun v5 w6 => fB v5 fun b7 =>
  Q (.bool b7) w6) (ld Try.prog 23 a2 w3 fun v8 => fG v8 fun g9 =>
  CallE Try.prog 10 #[(.agg g9)] w3 fun v10 w11 => fG v10 fun g12 =>
  al 23 (zeroT Try.prog 23).cells w11 fun a14 w13 =>
  st Try.prog 23 a14 (.agg g12) w13 fun w15 =>
  st Try.prog 3 (a14.add 2) (.int .i64 40) w15 fun w16 =>
  ld Try.prog 23 a14 w16 fun v17 => fG v17 fun g18 =>
  CallE Try.prog 8 #[(.agg g18)] w16 fun v19 w20 => ∃ (p21 : Option Addr) (x22 : Int), v19 = .tuple #[(.pointer p21), (.int .i64 x22)] ∧
  br ((x22 : Int) != 0) (Q (.bool false) w20) (rq Try.prog (do eqGuard .eql 24 (.tmp 42) (.const (.pointer none)) (.pointer p21) (.pointer none); binOp .eql 24 (.pointer p21) (.pointer none)) w20 fun v23 => fB v23 fun b24 =>
  br b24 (Q (.bool false) w20) (LoopW (S := Int × Unit) (fun s75 w76 next77 =>
  br (decide ((s75.1 : Int) < ((l_n : Nat) : Int))) (rq Try.prog (Instr.indexAt 36 (.slice l_ l_n l_c) (.int .i64 s75.1)) w76 fun v78 => fA v78 fun a79 =>
  ld Try.prog 39 a79 w76 fun v80 => fG v80 fun g81 =>
  al 39 (zeroT Try.prog 39).cells w76 fun a83 w82 =>
  st Try.prog 39 a83 (.agg g81) w82 fun w84 =>
  ld Try.prog 3 (a83.add 0) w84 fun v85 => fI .i64 v85 fun x86 =>
  CallE Try.prog 15 #[(.int .i64 x86), (.int .i64 7)] w84 fun v87 w88 => fI .i64 v87 fun x89 =>
  st Try.prog 4 (a83.add 6) (.bool false) w88 fun w90 =>
  st Try.prog 3 (a83.add 0) (.int .i64 x89) w90 fun w91 =>
  ld Try.prog 39 a83 w91 fun v92 => fG v92 fun g93 =>
  ld Try.prog 23 a14 w91 fun v94 => fG v94 fun g95 =>
  CallE Try.prog 14 #[(.agg g93), (.agg g95)] w91 fun v96 w97 => ∃ (x98 : Int) (x99 : Int), v96 = .tuple #[(.int .i64 x98), (.int .i64 x99)] ∧
  CallE Try.prog 16 #[(.pointer p21), (.int .i64 x98), (.int .i64 x99)] w97 fun v100 w101 => ∃ (t102 : ByteArray) (x103 : Int), v100 = .tuple #[(.string t102), (.int .i64 x103)] ∧
  ld Try.prog 39 a83 w101 fun v104 => fG v104 fun g105 =>
  ld Try.prog 23 a14 w101 fun v106 => fG v106 fun g107 =>
  CallE Try.prog 17 #[(.pointer p21), (.agg g105), (.agg g107), (.string t102)] w101 fun v108 w109 => ∃ (t110 : ByteArray) (x111 : Int), v108 = .tuple #[(.string t110), (.int .i64 x111)] ∧
  next77 (((IntKind.wrap .i64 (s75.1 + 1)) : Int), ()) w109) (W.law40_FlashRetry_k16 erase_ a4 a14 p21 w76 Q)) ((0 : Int), ()) w20)))
theorem E.law40_FlashRetry (raw__0 : Int) (raw__1 : Int) (raw__2 : Int) (l_ : Option Addr) (l_n : Nat) (l_c : Nat) (c__0 : Int) (c__1 : Int) (c__2 : Int) (c__3 : Int) (c__4 : Int) (c__5 : Bool) (c__6 : Bool) (erase_ : Bool) (w : World) (Q : Value → World → Prop) : ev Try.prog Try.f7.ntmps callable [(9, [(12, .int .i64 0)], [1, 3, 6, 9, 10])] [] (Try.f7.body.getD .skip) (enumE 0 [(.agg #[(.int .i64 raw__0), (.int .i64 raw__1), (.int .i64 raw__2)]), (.slice l_ l_n l_c), (.agg #[(.int .i64 c__0), (.int .i64 c__1), (.int .i64 c__2), (.int .u64 c__3), (.int .u64 c__4), (.bool c__5), (.bool c__6)]), (.bool erase_)]) w (KQ Try.prog Try.f7.results.toList Q) = W.law40_FlashRetry raw__0 raw__1 raw__2 l_ l_n l_c c__0 c__1 c__2 c__3 c__4 c__5 c__6 erase_ w Q := by kernel_rfl
theorem C.law40_FlashRetry (raw__0 : Int) (raw__1 : Int) (raw__2 : Int) (l_ : Option Addr) (l_n : Nat) (l_c : Nat) (c__0 : Int) (c__1 : Int) (c__2 : Int) (c__3 : Int) (c__4 : Int) (c__5 : Bool) (c__6 : Bool) (erase_ : Bool) (w : World) (Q : Value → World → Prop) (h : W.law40_FlashRetry raw__0 raw__1 raw__2 l_ l_n l_c c__0 c__1 c__2 c__3 c__4 c__5 c__6 erase_ w Q) : CallE Try.prog 7 #[(.agg #[(.int .i64 raw__0), (.int .i64 raw__1), (.int .i64 raw__2)]), (.slice l_ l_n l_c), (.agg #[(.int .i64 c__0), (.int .i64 c__1), (.int .i64 c__2), (.int .u64 c__3), (.int .u64 c__4), (.bool c__5), (.bool c__6)]), (.bool erase_)] w Q :=
  calls_of_ev mixed callable_ok (args := [(.agg #[(.int .i64 raw__0), (.int .i64 raw__1), (.int .i64 raw__2)]), (.slice l_ l_n l_c), (.agg #[(.int .i64 c__0), (.int .i64 c__1), (.int .i64 c__2), (.int .u64 c__3), (.int .u64 c__4), (.bool c__5), (.bool c__6)]), (.bool erase_)]) Try.func7 rfl ((E.law40_FlashRetry raw__0 raw__1 raw__2 l_ l_n l_c c__0 c__1 c__2 c__3 c__4 c__5 c__6 erase_ w Q).symm ▸ h)

def W.flash_New (shape__0 : Int) (shape__1 : Int) (shape__2 : Int) (w : World) (Q : Value → World → Prop) : Prop :=
  al 23 (#[(.int .i64 shape__0), (.int .i64 shape__1), (.int .i64 shape__2)]) w fun a2 w1 =>
  ld Try.prog 3 (a2.add 0) w1 fun v3 => fI .i64 v3 fun x4 =>
  br (decide ((x4 : Int) < 1)) (Q (.tuple #[(.pointer none), (.int .i64 1)]) w1) (ld Try.prog 3 (a2.add 0) w1 fun v5 => fI .i64 v5 fun x6 =>
  br (decide ((x6 : Int) > 32)) (Q (.tuple #[(.pointer none), (.int .i64 1)]) w1) (ld Try.prog 3 (a2.add 1) w1 fun v7 => fI .i64 v7 fun x8 =>
  br (decide ((x8 : Int) < 1)) (Q (.tuple #[(.pointer none), (.int .i64 1)]) w1) (ld Try.prog 3 (a2.add 1) w1 fun v9 => fI .i64 v9 fun x10 =>
  br (decide ((x10 : Int) > 32)) (Q (.tuple #[(.pointer none), (.int .i64 1)]) w1) (ld Try.prog 3 (a2.add 2) w1 fun v11 => fI .i64 v11 fun x12 =>
  br (decide ((x12 : Int) < 0)) (Q (.tuple #[(.pointer none), (.int .i64 1)]) w1) (ld Try.prog 3 (a2.add 2) w1 fun v13 => fI .i64 v13 fun x14 =>
  br (decide ((x14 : Int) > 1048576)) (Q (.tuple #[(.pointer none), (.int .i64 1)]) w1) (drawE fun S15 => S15 (drew w1) ∧ (ldS Try.prog S15 23 a2 fun v16 => fG v16 fun g17 =>
  ldS Try.prog S15 3 (a2.add 0) fun v18 => fI .i64 v18 fun x19 =>
  rv Try.prog (Instr.makeSlice 58 (.int .i64 x19) (.int .i64 x19)) (drew w1) fun v20 w21 => fS v20 fun l22 l22n l22c =>
  S15 w21 ∧ (rqS Try.prog S15 (Instr.build 60 #[(0, (.agg g17)), (1, (.slice l22 l22n l22c))]) fun v23 => fG v23 fun g24 =>
  al 60 g24 w21 fun a26 w25 =>
  S15 w25 ∧ (CallE Try.prog 26 #[(.string ⟨#[255]⟩), (.int .i64 64)] w25 fun v27 w28 => fT v27 fun t29 =>
  ld Try.prog 58 (a26.add 3) w28 fun v30 => fS v30 fun l31 l31n l31c =>
  LoopW (S := Int × Unit) (fun s32 w33 next34 =>
  br (decide ((s32.1 : Int) < ((l31n : Nat) : Int))) (drawE fun S35 => S35 (drew w33) ∧ (ldS Try.prog S35 58 (a26.add 3) fun v36 => fS v36 fun l37 l37n l37c =>
  ldS Try.prog S35 3 (a2.add 1) fun v38 => fI .i64 v38 fun x39 =>
  al 9 #[(.string t29)] (drew w33) fun a41 w40 =>
  S35 w40 ∧ (CallE Try.prog 27 #[(.slice (some a41) 1 1), (.int .i64 x39)] w40 fun v42 w43 => fS v42 fun l44 l44n l44c =>
  S35 w43 ∧ (rqS Try.prog S35 (Instr.indexAt 58 (.slice l37 l37n l37c) (.int .i64 s32.1)) fun v45 => fA v45 fun a46 =>
  st Try.prog 62 (a46.add 0) (.slice l44 l44n l44c) w43 fun w47 =>
  S35 w47 ∧ (next34 (((IntKind.wrap .i64 (s32.1 + 1)) : Int), ()) w47))))) (Q (.tuple #[(.pointer (some a26)), (.int .i64 0)]) w33)) ((0 : Int), ()) w28)))))))))
theorem E.flash_New (shape__0 : Int) (shape__1 : Int) (shape__2 : Int) (w : World) (Q : Value → World → Prop) : ev Try.prog Try.f8.ntmps callable [(8, [(45, .int .i64 0)], [1, 4, 5, 44])] [] (Try.f8.body.getD .skip) (enumE 0 [(.agg #[(.int .i64 shape__0), (.int .i64 shape__1), (.int .i64 shape__2)])]) w (KQ Try.prog Try.f8.results.toList Q) = W.flash_New shape__0 shape__1 shape__2 w Q := by kernel_rfl
theorem C.flash_New (shape__0 : Int) (shape__1 : Int) (shape__2 : Int) (w : World) (Q : Value → World → Prop) (h : W.flash_New shape__0 shape__1 shape__2 w Q) : CallE Try.prog 8 #[(.agg #[(.int .i64 shape__0), (.int .i64 shape__1), (.int .i64 shape__2)])] w Q :=
  calls_of_ev mixed callable_ok (args := [(.agg #[(.int .i64 shape__0), (.int .i64 shape__1), (.int .i64 shape__2)])]) Try.func8 rfl ((E.flash_New shape__0 shape__1 shape__2 w Q).symm ▸ h)

def W.ref40_New_k12 (p1 : Addr) (p4 : Addr) (p5 : Int) (p6 : Option Addr) (p6n : Nat) (p6c : Nat) (next29 : (Int × Unit) → World → Prop) (w : World) (Q : Value → World → Prop) : Prop :=
  ld Try.prog 66 (p4.add 3) w fun v32 => fS v32 fun l33 l33n l33c =>
  al 62 #[(.slice p6 p6n p6c)] w fun a35 w34 =>
  rv Try.prog (Builtin.append_ #[66, 66] 66 #[(.slice l33 l33n l33c), (.slice (some a35) 1 1)]) w34 fun v36 w37 => fS v36 fun l38 l38n l38c =>
  st Try.prog 66 (p4.add 3) (.slice l38 l38n l38c) w37 fun w39 =>
  next29 (((IntKind.wrap .i64 (p5 + 1)) : Int), ()) w39
def W.ref40_New (shape__0 : Int) (shape__1 : Int) (shape__2 : Int) (w : World) (Q : Value → World → Prop) : Prop :=
  al 23 (#[(.int .i64 shape__0), (.int .i64 shape__1), (.int .i64 shape__2)]) w fun a2 w1 =>
  ld Try.prog 3 (a2.add 0) w1 fun v3 => fI .i64 v3 fun x4 =>
  br (decide ((x4 : Int) < 1)) (Q (.tuple #[(.pointer none), (.int .i64 1)]) w1) (ld Try.prog 3 (a2.add 0) w1 fun v5 => fI .i64 v5 fun x6 =>
  br (decide ((x6 : Int) > 32)) (Q (.tuple #[(.pointer none), (.int .i64 1)]) w1) (ld Try.prog 3 (a2.add 1) w1 fun v7 => fI .i64 v7 fun x8 =>
  br (decide ((x8 : Int) < 1)) (Q (.tuple #[(.pointer none), (.int .i64 1)]) w1) (ld Try.prog 3 (a2.add 1) w1 fun v9 => fI .i64 v9 fun x10 =>
  br (decide ((x10 : Int) > 32)) (Q (.tuple #[(.pointer none), (.int .i64 1)]) w1) (ld Try.prog 3 (a2.add 2) w1 fun v11 => fI .i64 v11 fun x12 =>
  br (decide ((x12 : Int) < 0)) (Q (.tuple #[(.pointer none), (.int .i64 1)]) w1) (ld Try.prog 3 (a2.add 2) w1 fun v13 => fI .i64 v13 fun x14 =>
  br (decide ((x14 : Int) > 1048576)) (Q (.tuple #[(.pointer none), (.int .i64 1)]) w1) (drawE fun S15 => S15 (drew w1) ∧ (ldS Try.prog S15 23 a2 fun v16 => fG v16 fun g17 =>
  ldS Try.prog S15 3 (a2.add 0) fun v18 => fI .i64 v18 fun x19 =>
  rv Try.prog (Instr.makeSlice 56 (.int .i64 x19) (.int .i64 x19)) (drew w1) fun v20 w21 => fS v20 fun l22 l22n l22c =>
  S15 w21 ∧ (rqS Try.prog S15 (Instr.build 68 #[(0, (.agg g17)), (2, (.slice l22 l22n l22c)), (4, (.int .i64 (-1)))]) fun v23 => fG v23 fun g24 =>
  al 68 g24 w21 fun a26 w25 =>
  S15 w25 ∧ (LoopW (S := Int × Unit) (fun s27 w28 next29 =>
  ld Try.prog 3 (a2.add 0) w28 fun v30 => fI .i64 v30 fun x31 =>
  br (decide ((s27.1 : Int) < x31)) (LoopW (S := (Option Addr × Nat × Nat) × Int × Unit) (fun s40 w41 next42 =>
  ld Try.prog 3 (a2.add 1) w41 fun v43 => fI .i64 v43 fun x44 =>
  br (decide ((s40.2.1 : Int) < x44)) (CallE Try.prog 28 #[] w41 fun v45 w46 => fT v45 fun t47 =>
  al 9 #[(.string t47)] w46 fun a49 w48 =>
  rv Try.prog (Builtin.append_ #[62, 62] 62 #[(.slice s40.1.1 s40.1.2.1 s40.1.2.2), (.slice (some a49) 1 1)]) w48 fun v50 w51 => fS v50 fun l52 l52n l52c =>
  next42 ((l52, l52n, l52c), ((IntKind.wrap .i64 (s40.2.1 + 1)) : Int), ()) w51) (W.ref40_New_k12 a2 a26 s27.1 s40.1.1 s40.1.2.1 s40.1.2.2 next29 w41 Q)) ((none, 0, 0), (0 : Int), ()) w28) (Q (.tuple #[(.pointer (some a26)), (.int .i64 0)]) w28)) ((0 : Int), ()) w25)))))))))
theorem E.ref40_New (shape__0 : Int) (shape__1 : Int) (shape__2 : Int) (w : World) (Q : Value → World → Prop) : ev Try.prog Try.f9.ntmps callable [(5, [(5, .int .i64 0)], [1, 4]), (9, [(6, .slice none 0 0), (7, .int .i64 0)], [1, 4, 5])] [] (Try.f9.body.getD .skip) (enumE 0 [(.agg #[(.int .i64 shape__0), (.int .i64 shape__1), (.int .i64 shape__2)])]) w (KQ Try.prog Try.f9.results.toList Q) = W.ref40_New shape__0 shape__1 shape__2 w Q := by kernel_rfl
theorem C.ref40_New (shape__0 : Int) (shape__1 : Int) (shape__2 : Int) (w : World) (Q : Value → World → Prop) (h : W.ref40_New shape__0 shape__1 shape__2 w Q) : CallE Try.prog 9 #[(.agg #[(.int .i64 shape__0), (.int .i64 shape__1), (.int .i64 shape__2)])] w Q :=
  calls_of_ev mixed callable_ok (args := [(.agg #[(.int .i64 shape__0), (.int .i64 shape__1), (.int .i64 shape__2)])]) Try.func9 rfl ((E.ref40_New shape__0 shape__1 shape__2 w Q).symm ▸ h)

def W.law40_shape (s__0 : Int) (s__1 : Int) (s__2 : Int) (w : World) (Q : Value → World → Prop) : Prop :=
  al 23 (#[(.int .i64 s__0), (.int .i64 s__1), (.int .i64 s__2)]) w fun a2 w1 =>
  al 23 (zeroT Try.prog 23).cells w1 fun a4 w3 =>
  drawE fun S5 => S5 (drew w3) ∧ (ldS Try.prog S5 3 (a2.add 0) fun v6 => fI .i64 v6 fun x7 =>
  ldS Try.prog S5 3 (a2.add 1) fun v8 => fI .i64 v8 fun x9 =>
  ldS Try.prog S5 3 (a2.add 2) fun v10 => fI .i64 v10 fun x11 =>
  CallE Try.prog 15 #[(.int .i64 x7), (.int .i64 3)] (drew w3) fun v12 w13 => fI .i64 v12 fun x14 =>
  S5 w13 ∧ (CallE Try.prog 15 #[(.int .i64 x9), (.int .i64 3)] w13 fun v15 w16 => fI .i64 v15 fun x17 =>
  S5 w16 ∧ (CallE Try.prog 15 #[(.int .i64 x11), (.int .i64 6)] w16 fun v18 w19 => fI .i64 v18 fun x20 =>
  S5 w19 ∧ (st Try.prog 23 a4 (.agg #[(.int .i64 (IntKind.wrap .i64 (1 + x14))), (.int .i64 (IntKind.wrap .i64 (1 + x17))), (.int .i64 x20)]) w19 fun w21 =>
  S5 w21 ∧ (ld Try.prog 23 a4 w21 fun v22 => fG v22 fun g23 =>
  Q (.agg g23) w21)))))
theorem E.law40_shape (s__0 : Int) (s__1 : Int) (s__2 : Int) (w : World) (Q : Value → World → Prop) : ev Try.prog Try.f10.ntmps callable [] [] (Try.f10.body.getD .skip) (enumE 0 [(.agg #[(.int .i64 s__0), (.int .i64 s__1), (.int .i64 s__2)])]) w (KQ Try.prog Try.f10.results.toList Q) = W.law40_shape s__0 s__1 s__2 w Q := by kernel_rfl
theorem C.law40_shape (s__0 : Int) (s__1 : Int) (s__2 : Int) (w : World) (Q : Value → World → Prop) (h : W.law40_shape s__0 s__1 s__2 w Q) : CallE Try.prog 10 #[(.agg #[(.int .i64 s__0), (.int .i64 s__1), (.int .i64 s__2)])] w Q :=
  calls_of_ev mixed callable_ok (args := [(.agg #[(.int .i64 s__0), (.int .i64 s__1), (.int .i64 s__2)])]) Try.func10 rfl ((E.law40_shape s__0 s__1 s__2 w Q).symm ▸ h)

def W.flash_Flash_Shape (f_ : Addr) (w : World) (Q : Value → World → Prop) : Prop :=
  al 23 (zeroT Try.prog 23).cells w fun a2 w1 =>
  ld Try.prog 23 (f_.add 0) w1 fun v3 => fG v3 fun g4 =>
  st Try.prog 23 a2 (.agg g4) w1 fun w5 =>
  ld Try.prog 23 a2 w5 fun v6 => fG v6 fun g7 =>
  Q (.agg g7) w5
theorem E.flash_Flash_Shape (f_ : Addr) (w : World) (Q : Value → World → Prop) : ev Try.prog Try.f11.ntmps callable [] [] (Try.f11.body.getD .skip) (enumE 0 [(.pointer (some f_))]) w (KQ Try.prog Try.f11.results.toList Q) = W.flash_Flash_Shape f_ w Q := by kernel_rfl
theorem C.flash_Flash_Shape (f_ : Addr) (w : World) (Q : Value → World → Prop) (h : W.flash_Flash_Shape f_ w Q) : CallE Try.prog 11 #[(.pointer (some f_))] w Q :=
  calls_of_ev mixed callable_ok (args := [(.pointer (some f_))]) Try.func11 rfl ((E.flash_Flash_Shape f_ w Q).symm ▸ h)

def W.flash_Flash_Program_k21 (p0 : Addr) (p1 : Int) (p2 : Int) (p11 : Option Addr) (p11n : Nat) (p11c : Nat) (w : World) (Q : Value → World → Prop) : Prop :=
  drawE fun S31 => S31 (drew w) ∧ (ldS Try.prog S31 58 (p0.add 3) fun v32 => fS v32 fun l33 l33n l33c =>
  rqS Try.prog S31 (Instr.indexAt 58 (.slice l33 l33n l33c) (.int .i64 p1)) fun v34 => fA v34 fun a35 =>
  ldS Try.prog S31 62 (a35.add 0) fun v36 => fS v36 fun l37 l37n l37c =>
  rv Try.prog (convert 71 9 (.slice p11 p11n p11c)) (drew w) fun v38 w39 => fT v38 fun t40 =>
  S31 w39 ∧ (rqS Try.prog S31 (Instr.indexAt 62 (.slice l37 l37n l37c) (.int .i64 p2)) fun v41 => fA v41 fun a42 =>
  st Try.prog 9 a42 (.string t40) w39 fun w43 =>
  S31 w43 ∧ (Q (.int .i64 16) w43)))
def W.flash_Flash_Program_k12 (p0 : Addr) (p1 : Int) (p2 : Int) (p3 : ByteArray) (p9 : ByteArray) (w : World) (Q : Value → World → Prop) : Prop :=
  CallE Try.prog 30 #[(.pointer (some p0))] w fun v16 w17 => fB v16 fun b18 =>
  br (!b18) (ld Try.prog 58 (p0.add 3) w17 fun v19 => fS v19 fun l20 l20n l20c =>
  rq Try.prog (Instr.indexAt 58 (.slice l20 l20n l20c) (.int .i64 p1)) w17 fun v21 => fA v21 fun a22 =>
  ld Try.prog 62 (a22.add 0) w17 fun v23 => fS v23 fun l24 l24n l24c =>
  rq Try.prog (Instr.indexAt 62 (.slice l24 l24n l24c) (.int .i64 p2)) w17 fun v25 => fA v25 fun a26 =>
  st Try.prog 9 a26 (.string p3) w17 fun w27 =>
  Q (.int .i64 0) w27) (rv Try.prog (convert 9 71 (.string p9)) w17 fun v28 w29 => fS v28 fun l30 l30n l30c =>
  LoopW (S := Int × Unit) (fun s44 w45 next46 =>
  br (decide ((s44.1 : Int) < ((l30n : Nat) : Int))) (drawE fun S47 => S47 (drew w45) ∧ (rqS Try.prog S47 (Instr.indexAt 71 (.slice l30 l30n l30c) (.int .i64 s44.1)) fun v48 => fA v48 fun a49 =>
  rqS Try.prog S47 (Instr.index 9 (.string p9) (.int .i64 s44.1)) fun v50 => fI .u8 v50 fun x51 =>
  rqS Try.prog S47 (Instr.index 9 (.string p3) (.int .i64 s44.1)) fun v52 => fI .u8 v52 fun x53 =>
  (ld Try.prog 5 a49 (drew w45) fun v54 => fI .u8 v54 fun x55 =>
  S47 (drew w45) ∧ (ld Try.prog 37 (p0.add 7) (drew w45) fun v56 => fI .u64 v56 fun x57 =>
  S47 (drew w45) ∧ (CallE Try.prog 31 #[(.int .u64 x57), (.int .i64 s44.1)] (drew w45) fun v58 w59 => fI .u8 v58 fun x60 =>
  S47 w59 ∧ (rqS Try.prog S47 (Instr.indexAt 71 (.slice l30 l30n l30c) (.int .i64 s44.1)) fun v61 => fA v61 fun a62 =>
  st Try.prog 5 a62 (.int .u8 (bandNot .u8 x55 (band .u8 (bandNot .u8 x51 x53) x60))) w59 fun w63 =>
  S47 w63 ∧ (next46 (((IntKind.wrap .i64 (s44.1 + 1)) : Int), ()) w63))))) ∧ (ld Try.prog 37 (p0.add 7) (drew w45) fun v64 => fI .u64 v64 fun x65 =>
  S47 (drew w45) ∧ ((ld Try.prog 5 a49 (drew w45) fun v66 => fI .u8 v66 fun x67 =>
  S47 (drew w45) ∧ (CallE Try.prog 31 #[(.int .u64 x65), (.int .i64 s44.1)] (drew w45) fun v68 w69 => fI .u8 v68 fun x70 =>
  S47 w69 ∧ (rqS Try.prog S47 (Instr.indexAt 71 (.slice l30 l30n l30c) (.int .i64 s44.1)) fun v71 => fA v71 fun a72 =>
  st Try.prog 5 a72 (.int .u8 (bandNot .u8 x67 (band .u8 (bandNot .u8 x51 x53) x70))) w69 fun w73 =>
  S47 w73 ∧ (next46 (((IntKind.wrap .i64 (s44.1 + 1)) : Int), ()) w73)))) ∧ (CallE Try.prog 31 #[(.int .u64 x65), (.int .i64 s44.1)] (drew w45) fun v74 w75 => fI .u8 v74 fun x76 =>
  S47 w75 ∧ (ld Try.prog 5 a49 w75 fun v77 => fI .u8 v77 fun x78 =>
  S47 w75 ∧ (rqS Try.prog S47 (Instr.indexAt 71 (.slice l30 l30n l30c) (.int .i64 s44.1)) fun v79 => fA v79 fun a80 =>
  st Try.prog 5 a80 (.int .u8 (bandNot .u8 x78 (band .u8 (bandNot .u8 x51 x53) x76))) w75 fun w81 =>
  S47 w81 ∧ (next46 (((IntKind.wrap .i64 (s44.1 + 1)) : Int), ()) w81)))))))) (W.flash_Flash_Program_k21 p0 p1 p2 l30 l30n l30c w45 Q)) ((0 : Int), ()) w29)
def W.flash_Flash_Program (f_ : Addr) (block_ : Int) (page_ : Int) (data_ : ByteArray) (w : World) (Q : Value → World → Prop) : Prop :=
  CallE Try.prog 29 #[(.pointer (some f_)), (.int .i64 block_), (.int .i64 page_)] w fun v1 w2 => fB v1 fun b3 =>
  br (!b3) (Q (.int .i64 1) w2) (br ((((data_.size : Nat) : Int) : Int) != 64) (Q (.int .i64 1) w2) (ld Try.prog 4 (f_.add 4) w2 fun v4 => fB v4 fun b5 =>
  br b5 (Q (.int .i64 16) w2) (ld Try.prog 58 (f_.add 3) w2 fun v6 => fS v6 fun l7 l7n l7c =>
  rq Try.prog (Instr.indexAt 58 (.slice l7 l7n l7c) (.int .i64 block_)) w2 fun v8 => fA v8 fun a9 =>
  ld Try.prog 62 (a9.add 0) w2 fun v10 => fS v10 fun l11 l11n l11c =>
  rq Try.prog (Instr.indexAt 62 (.slice l11 l11n l11c) (.int .i64 page_)) w2 fun v12 => fA v12 fun a13 =>
  ld Try.prog 9 a13 w2 fun v14 => fT v14 fun t15 =>
  LoopW (S := Int × Unit) (fun s82 w83 next84 =>
  br (decide ((s82.1 : Int) < ((data_.size : Nat) : Int))) (dr w83 fun w85 =>
  rq Try.prog (Instr.index 9 (.string data_) (.int .i64 s82.1)) w85 fun v86 => fI .u8 v86 fun x87 =>
  rq Try.prog (Instr.index 9 (.string t15) (.int .i64 s82.1)) w85 fun v88 => fI .u8 v88 fun x89 =>
  br (((bandNot .u8 x87 x89) : Int) != 0) (Q (.int .i64 9) w85) (next84 (((IntKind.wrap .i64 (s82.1 + 1)) : Int), ()) w85)) (W.flash_Flash_Program_k12 f_ block_ page_ data_ t15 w83 Q)) ((0 : Int), ()) w2)))
theorem E.flash_Flash_Program (f_ : Addr) (block_ : Int) (page_ : Int) (data_ : ByteArray) (w : World) (Q : Value → World → Prop) : ev Try.prog Try.f12.ntmps callable [(17, [(70, .int .i64 0)], [0, 1, 2, 3, 9, 11, 69]), (1000019, [], [0]), (7, [(40, .int .i64 0)], [0, 1, 2, 3, 9, 39])] [] (Try.f12.body.getD .skip) (enumE 0 [(.pointer (some f_)), (.int .i64 block_), (.int .i64 page_), (.string data_)]) w (KQ Try.prog Try.f12.results.toList Q) = W.flash_Flash_Program f_ block_ page_ data_ w Q := by kernel_rfl
theorem C.flash_Flash_Program (f_ : Addr) (block_ : Int) (page_ : Int) (data_ : ByteArray) (w : World) (Q : Value → World → Prop) (h : W.flash_Flash_Program f_ block_ page_ data_ w Q) : CallE Try.prog 12 #[(.pointer (some f_)), (.int .i64 block_), (.int .i64 page_), (.string data_)] w Q :=
  calls_of_ev mixed callable_ok (args := [(.pointer (some f_)), (.int .i64 block_), (.int .i64 page_), (.string data_)]) Try.func12 rfl ((E.flash_Flash_Program f_ block_ page_ data_ w Q).symm ▸ h)

def W.law40_awake (w : World) (Q : Value → World → Prop) : Prop :=
  CallE Try.prog 8 #[(.agg #[(.int .i64 1), (.int .i64 1), (.int .i64 3)])] w fun v1 w2 => ∃ (p3 : Option Addr) (x4 : Int), v1 = .tuple #[(.pointer p3), (.int .i64 x4)] ∧
  br ((x4 : Int) != 0) (Q (.bool false) w2) (rq Try.prog (do eqGuard .eql 24 (.tmp 17) (.const (.pointer none)) (.pointer p3) (.pointer none); binOp .eql 24 (.pointer p3) (.pointer none)) w2 fun v5 => fB v5 fun b6 =>
  br b6 (Q (.bool false) w2) (CallE Try.prog 19 #[(.int .u8 15)] w2 fun v7 w8 => fT v7 fun t9 =>
  CallE Try.prog 12 #[(.pointer p3), (.int .i64 0), (.int .i64 0), (.string t9)] w8 fun v10 w11 => fI .i64 v10 fun x12 =>
  br ((x12 : Int) != 0) (Q (.bool false) w11) (CallE Try.prog 19 #[(.int .u8 7)] w11 fun v13 w14 => fT v13 fun t15 =>
  CallE Try.prog 12 #[(.pointer p3), (.int .i64 0), (.int .i64 0), (.string t15)] w14 fun v16 w17 => fI .i64 v16 fun x18 =>
  br ((x18 : Int) != 0) (Q (.bool false) w17) (CallE Try.prog 19 #[(.int .u8 8)] w17 fun v19 w20 => fT v19 fun t21 =>
  CallE Try.prog 12 #[(.pointer p3), (.int .i64 0), (.int .i64 0), (.string t21)] w20 fun v22 w23 => fI .i64 v22 fun x24 =>
  br ((x24 : Int) != 9) (Q (.bool false) w23) (CallE Try.prog 22 #[(.pointer p3), (.int .i64 0)] w23 fun v25 w26 => fI .i64 v25 fun x27 =>
  br ((x27 : Int) != 0) (Q (.bool false) w26) (CallE Try.prog 21 #[(.pointer p3), (.int .i64 0), (.int .u64 1)] w26 fun v28 w29 => v28 = .tuple #[] ∧
  CallE Try.prog 19 #[(.int .u8 0)] w29 fun v30 w31 => fT v30 fun t32 =>
  CallE Try.prog 12 #[(.pointer p3), (.int .i64 0), (.int .i64 0), (.string t32)] w31 fun v33 w34 => fI .i64 v33 fun x35 =>
  CallE Try.prog 16 #[(.pointer p3), (.int .i64 0), (.int .i64 0)] w34 fun v36 w37 => ∃ (t38 : ByteArray) (x39 : Int), v36 = .tuple #[(.string t38), (.int .i64 x39)] ∧
  CallE Try.prog 24 #[(.pointer p3)] w37 fun v40 w41 => fI .i64 v40 fun x42 =>
  CallE Try.prog 16 #[(.pointer p3), (.int .i64 0), (.int .i64 0)] w41 fun v43 w44 => ∃ (t45 : ByteArray) (x46 : Int), v43 = .tuple #[(.string t45), (.int .i64 x46)] ∧
  br ((x35 : Int) == 16) (br ((x39 : Int) == 16) (br ((x42 : Int) == 0) (br ((x46 : Int) == 0) (br ((((t45.size : Nat) : Int) : Int) == 64) (rq Try.prog (Instr.index 9 (.string t45) (.int .i64 0)) w44 fun v47 => fI .u8 v47 fun x48 =>
  br ((x48 : Int) == 254) (rq Try.prog (Instr.index 9 (.string t45) (.int .i64 1)) w44 fun v49 => fI .u8 v49 fun x50 =>
  br ((x50 : Int) == 255) (rq Try.prog (Instr.index 9 (.string t45) (.int .i64 8)) w44 fun v51 => fI .u8 v51 fun x52 =>
  br ((x52 : Int) == 254) (CallE Try.prog 20 #[(.pointer p3), (.int .i64 0)] w44 fun v53 w54 => fI .i64 v53 fun x55 =>
  Q (.bool ((x55 : Int) == 1)) w54) (Q (.bool false) w44)) (Q (.bool false) w44)) (Q (.bool false) w44)) (Q (.bool false) w44)) (Q (.bool false) w44)) (Q (.bool false) w44)) (Q (.bool false) w44)) (Q (.bool false) w44)))))))
theorem E.law40_awake (w : World) (Q : Value → World → Prop) : ev Try.prog Try.f13.ntmps callable [] [] (Try.f13.body.getD .skip) (enumE 0 []) w (KQ Try.prog Try.f13.results.toList Q) = W.law40_awake w Q := by kernel_rfl
theorem C.law40_awake (w : World) (Q : Value → World → Prop) (h : W.law40_awake w Q) : CallE Try.prog 13 #[] w Q :=
  calls_of_ev mixed callable_ok (args := []) Try.func13 rfl ((E.law40_awake w Q).symm ▸ h)

def W.law40_Call_at (c__0 : Int) (c__1 : Int) (c__2 : Int) (c__3 : Int) (c__4 : Int) (c__5 : Bool) (c__6 : Bool) (s__0 : Int) (s__1 : Int) (s__2 : Int) (w : World) (Q : Value → World → Prop) : Prop :=
  al 39 (#[(.int .i64 c__0), (.int .i64 c__1), (.int .i64 c__2), (.int .u64 c__3), (.int .u64 c__4), (.bool c__5), (.bool c__6)]) w fun a2 w1 =>
  al 23 (#[(.int .i64 s__0), (.int .i64 s__1), (.int .i64 s__2)]) w1 fun a4 w3 =>
  ld Try.prog 4 (a2.add 6) w3 fun v5 => fB v5 fun b6 =>
  br b6 (dr w3 fun w7 =>
  ld Try.prog 3 (a2.add 1) w7 fun v8 => fI .i64 v8 fun x9 =>
  ld Try.prog 3 (a2.add 2) w7 fun v10 => fI .i64 v10 fun x11 =>
  Q (.tuple #[(.int .i64 x9), (.int .i64 x11)]) w7) (drawE fun S12 => S12 (drew w3) ∧ (ldS Try.prog S12 3 (a2.add 1) fun v13 => fI .i64 v13 fun x14 =>
  ldS Try.prog S12 3 (a4.add 0) fun v15 => fI .i64 v15 fun x16 =>
  ldS Try.prog S12 3 (a2.add 2) fun v17 => fI .i64 v17 fun x18 =>
  ldS Try.prog S12 3 (a4.add 1) fun v19 => fI .i64 v19 fun x20 =>
  CallE Try.prog 15 #[(.int .i64 x14), (.int .i64 x16)] (drew w3) fun v21 w22 => fI .i64 v21 fun x23 =>
  S12 w22 ∧ (CallE Try.prog 15 #[(.int .i64 x18), (.int .i64 x20)] w22 fun v24 w25 => fI .i64 v24 fun x26 =>
  S12 w25 ∧ (Q (.tuple #[(.int .i64 x23), (.int .i64 x26)]) w25))))
theorem E.law40_Call_at (c__0 : Int) (c__1 : Int) (c__2 : Int) (c__3 : Int) (c__4 : Int) (c__5 : Bool) (c__6 : Bool) (s__0 : Int) (s__1 : Int) (s__2 : Int) (w : World) (Q : Value → World → Prop) : ev Try.prog Try.f14.ntmps callable [] [] (Try.f14.body.getD .skip) (enumE 0 [(.agg #[(.int .i64 c__0), (.int .i64 c__1), (.int .i64 c__2), (.int .u64 c__3), (.int .u64 c__4), (.bool c__5), (.bool c__6)]), (.agg #[(.int .i64 s__0), (.int .i64 s__1), (.int .i64 s__2)])]) w (KQ Try.prog Try.f14.results.toList Q) = W.law40_Call_at c__0 c__1 c__2 c__3 c__4 c__5 c__6 s__0 s__1 s__2 w Q := by kernel_rfl
theorem C.law40_Call_at (c__0 : Int) (c__1 : Int) (c__2 : Int) (c__3 : Int) (c__4 : Int) (c__5 : Bool) (c__6 : Bool) (s__0 : Int) (s__1 : Int) (s__2 : Int) (w : World) (Q : Value → World → Prop) (h : W.law40_Call_at c__0 c__1 c__2 c__3 c__4 c__5 c__6 s__0 s__1 s__2 w Q) : CallE Try.prog 14 #[(.agg #[(.int .i64 c__0), (.int .i64 c__1), (.int .i64 c__2), (.int .u64 c__3), (.int .u64 c__4), (.bool c__5), (.bool c__6)]), (.agg #[(.int .i64 s__0), (.int .i64 s__1), (.int .i64 s__2)])] w Q :=
  calls_of_ev mixed callable_ok (args := [(.agg #[(.int .i64 c__0), (.int .i64 c__1), (.int .i64 c__2), (.int .u64 c__3), (.int .u64 c__4), (.bool c__5), (.bool c__6)]), (.agg #[(.int .i64 s__0), (.int .i64 s__1), (.int .i64 s__2)])]) Try.func14 rfl ((E.law40_Call_at c__0 c__1 c__2 c__3 c__4 c__5 c__6 s__0 s__1 s__2 w Q).symm ▸ h)

def W.help_Mod (v_ : Int) (n_ : Int) (w : World) (Q : Value → World → Prop) : Prop :=
  rq Try.prog (do eqGuard .rem 54 (.tmp 6) (.tmp 8) (.int .u64 (IntKind.wrap .u64 v_)) (.int .u64 (IntKind.wrap .u64 n_)); binOp .rem 54 (.int .u64 (IntKind.wrap .u64 v_)) (.int .u64 (IntKind.wrap .u64 n_))) w fun v1 => fI .u64 v1 fun x2 =>
  Q (.int .i64 (IntKind.wrap .i64 x2)) w
theorem E.help_Mod (v_ : Int) (n_ : Int) (w : World) (Q : Value → World → Prop) : ev Try.prog Try.f15.ntmps callable [] [] (Try.f15.body.getD .skip) (enumE 0 [(.int .i64 v_), (.int .i64 n_)]) w (KQ Try.prog Try.f15.results.toList Q) = W.help_Mod v_ n_ w Q := by kernel_rfl
theorem C.help_Mod (v_ : Int) (n_ : Int) (w : World) (Q : Value → World → Prop) (h : W.help_Mod v_ n_ w Q) : CallE Try.prog 15 #[(.int .i64 v_), (.int .i64 n_)] w Q :=
  calls_of_ev mixed callable_ok (args := [(.int .i64 v_), (.int .i64 n_)]) Try.func15 rfl ((E.help_Mod v_ n_ w Q).symm ▸ h)

def W.flash_Flash_Read (f_ : Addr) (block_ : Int) (page_ : Int) (w : World) (Q : Value → World → Prop) : Prop :=
  CallE Try.prog 29 #[(.pointer (some f_)), (.int .i64 block_), (.int .i64 page_)] w fun v1 w2 => fB v1 fun b3 =>
  br (!b3) (Q (.tuple #[(.string ⟨#[]⟩), (.int .i64 1)]) w2) (ld Try.prog 4 (f_.add 4) w2 fun v4 => fB v4 fun b5 =>
  br b5 (Q (.tuple #[(.string ⟨#[]⟩), (.int .i64 16)]) w2) (ld Try.prog 58 (f_.add 3) w2 fun v6 => fS v6 fun l7 l7n l7c =>
  rq Try.prog (Instr.indexAt 58 (.slice l7 l7n l7c) (.int .i64 block_)) w2 fun v8 => fA v8 fun a9 =>
  ld Try.prog 62 (a9.add 0) w2 fun v10 => fS v10 fun l11 l11n l11c =>
  rq Try.prog (Instr.indexAt 62 (.slice l11 l11n l11c) (.int .i64 page_)) w2 fun v12 => fA v12 fun a13 =>
  ld Try.prog 9 a13 w2 fun v14 => fT v14 fun t15 =>
  Q (.tuple #[(.string t15), (.int .i64 0)]) w2))
theorem E.flash_Flash_Read (f_ : Addr) (block_ : Int) (page_ : Int) (w : World) (Q : Value → World → Prop) : ev Try.prog Try.f16.ntmps callable [] [] (Try.f16.body.getD .skip) (enumE 0 [(.pointer (some f_)), (.int .i64 block_), (.int .i64 page_)]) w (KQ Try.prog Try.f16.results.toList Q) = W.flash_Flash_Read f_ block_ page_ w Q := by kernel_rfl
theorem C.flash_Flash_Read (f_ : Addr) (block_ : Int) (page_ : Int) (w : World) (Q : Value → World → Prop) (h : W.flash_Flash_Read f_ block_ page_ w Q) : CallE Try.prog 16 #[(.pointer (some f_)), (.int .i64 block_), (.int .i64 page_)] w Q :=
  calls_of_ev mixed callable_ok (args := [(.pointer (some f_)), (.int .i64 block_), (.int .i64 page_)]) Try.func16 rfl ((E.flash_Flash_Read f_ block_ page_ w Q).symm ▸ h)

def W.law40_do_k13 (p0 : Addr) (p5 : Addr) (p10 : Int) (p20 : Int) (p43 : Bool) (w : World) (Q : Value → World → Prop) : Prop :=
  br p43 (CallE Try.prog 22 #[(.pointer (some p0)), (.int .i64 p10)] w fun v30 w31 => fI .i64 v30 fun x32 =>
  Q (.tuple #[(.string ⟨#[]⟩), (.int .i64 x32)]) w31) (br ((p20 : Int) == 7) (ld Try.prog 37 (p5.add 3) w fun v33 => fI .u64 v33 fun x34 =>
  ld Try.prog 37 (p5.add 4) w fun v35 => fI .u64 v35 fun x36 =>
  CallE Try.prog 21 #[(.pointer (some p0)), (.int .i64 (IntKind.wrap .i64 ((IntKind.wrap .i64 (Int.tmod x34 6)) - 1))), (.int .u64 x36)] w fun v37 w38 => v37 = .tuple #[] ∧
  Q (.tuple #[(.string ⟨#[]⟩), (.int .i64 0)]) w38) (br ((p20 : Int) == 8) (CallE Try.prog 23 #[(.pointer (some p0))] w fun v39 w40 => fI .i64 v39 fun x41 =>
  Q (.tuple #[(.string ⟨#[]⟩), (.int .i64 x41)]) w40) (CallE Try.prog 24 #[(.pointer (some p0))] w fun v42 w43 => fI .i64 v42 fun x44 =>
  Q (.tuple #[(.string ⟨#[]⟩), (.int .i64 x44)]) w43)))
def W.law40_do_k8 (p0 : Addr) (p3 : ByteArray) (p5 : Addr) (p10 : Int) (p11 : Int) (p20 : Int) (p23 : Bool) (w : World) (Q : Value → World → Prop) : Prop :=
  br p23 (ld Try.prog 39 p5 w fun v18 => fG v18 fun g19 =>
  CallE Try.prog 18 #[(.agg g19), (.string p3)] w fun v20 w21 => fT v20 fun t22 =>
  CallE Try.prog 12 #[(.pointer (some p0)), (.int .i64 p10), (.int .i64 p11), (.string t22)] w21 fun v23 w24 => fI .i64 v23 fun x25 =>
  Q (.tuple #[(.string ⟨#[]⟩), (.int .i64 x25)]) w24) (br ((p20 : Int) == 4) (CallE Try.prog 16 #[(.pointer (some p0)), (.int .i64 p10), (.int .i64 p11)] w fun v26 w27 => ∃ (t28 : ByteArray) (x29 : Int), v26 = .tuple #[(.string t28), (.int .i64 x29)] ∧
  Q (.tuple #[(.string t28), (.int .i64 x29)]) w27) (br ((p20 : Int) == 5) (W.law40_do_k13 p0 p5 p10 p20 true w Q) (W.law40_do_k13 p0 p5 p10 p20 ((p20 : Int) == 6) w Q)))
def W.law40_do (f_ : Addr) (c__0 : Int) (c__1 : Int) (c__2 : Int) (c__3 : Int) (c__4 : Int) (c__5 : Bool) (c__6 : Bool) (s__0 : Int) (s__1 : Int) (s__2 : Int) (was_ : ByteArray) (w : World) (Q : Value → World → Prop) : Prop :=
  al 39 (#[(.int .i64 c__0), (.int .i64 c__1), (.int .i64 c__2), (.int .u64 c__3), (.int .u64 c__4), (.bool c__5), (.bool c__6)]) w fun a2 w1 =>
  al 23 (#[(.int .i64 s__0), (.int .i64 s__1), (.int .i64 s__2)]) w1 fun a4 w3 =>
  ld Try.prog 39 a2 w3 fun v5 => fG v5 fun g6 =>
  ld Try.prog 23 a4 w3 fun v7 => fG v7 fun g8 =>
  CallE Try.prog 14 #[(.agg g6), (.agg g8)] w3 fun v9 w10 => ∃ (x11 : Int) (x12 : Int), v9 = .tuple #[(.int .i64 x11), (.int .i64 x12)] ∧
  ld Try.prog 3 (a2.add 0) w10 fun v13 => fI .i64 v13 fun x14 =>
  CallE Try.prog 15 #[(.int .i64 x14), (.int .i64 10)] w10 fun v15 w16 => fI .i64 v15 fun x17 =>
  br ((x17 : Int) == 0) (W.law40_do_k8 f_ was_ a2 x11 x12 x17 true w16 Q) (br ((x17 : Int) == 1) (W.law40_do_k8 f_ was_ a2 x11 x12 x17 true w16 Q) (br ((x17 : Int) == 2) (W.law40_do_k8 f_ was_ a2 x11 x12 x17 true w16 Q) (W.law40_do_k8 f_ was_ a2 x11 x12 x17 ((x17 : Int) == 3) w16 Q)))
theorem E.law40_do (f_ : Addr) (c__0 : Int) (c__1 : Int) (c__2 : Int) (c__3 : Int) (c__4 : Int) (c__5 : Bool) (c__6 : Bool) (s__0 : Int) (s__1 : Int) (s__2 : Int) (was_ : ByteArray) (w : World) (Q : Value → World → Prop) : ev Try.prog Try.f17.ntmps callable [] [] (Try.f17.body.getD .skip) (enumE 0 [(.pointer (some f_)), (.agg #[(.int .i64 c__0), (.int .i64 c__1), (.int .i64 c__2), (.int .u64 c__3), (.int .u64 c__4), (.bool c__5), (.bool c__6)]), (.agg #[(.int .i64 s__0), (.int .i64 s__1), (.int .i64 s__2)]), (.string was_)]) w (KQ Try.prog Try.f17.results.toList Q) = W.law40_do f_ c__0 c__1 c__2 c__3 c__4 c__5 c__6 s__0 s__1 s__2 was_ w Q := by kernel_rfl
theorem C.law40_do (f_ : Addr) (c__0 : Int) (c__1 : Int) (c__2 : Int) (c__3 : Int) (c__4 : Int) (c__5 : Bool) (c__6 : Bool) (s__0 : Int) (s__1 : Int) (s__2 : Int) (was_ : ByteArray) (w : World) (Q : Value → World → Prop) (h : W.law40_do f_ c__0 c__1 c__2 c__3 c__4 c__5 c__6 s__0 s__1 s__2 was_ w Q) : CallE Try.prog 17 #[(.pointer (some f_)), (.agg #[(.int .i64 c__0), (.int .i64 c__1), (.int .i64 c__2), (.int .u64 c__3), (.int .u64 c__4), (.bool c__5), (.bool c__6)]), (.agg #[(.int .i64 s__0), (.int .i64 s__1), (.int .i64 s__2)]), (.string was_)] w Q :=
  calls_of_ev mixed callable_ok (args := [(.pointer (some f_)), (.agg #[(.int .i64 c__0), (.int .i64 c__1), (.int .i64 c__2), (.int .u64 c__3), (.int .u64 c__4), (.bool c__5), (.bool c__6)]), (.agg #[(.int .i64 s__0), (.int .i64 s__1), (.int .i64 s__2)]), (.string was_)]) Try.func17 rfl ((E.law40_do f_ c__0 c__1 c__2 c__3 c__4 c__5 c__6 s__0 s__1 s__2 was_ w Q).symm ▸ h)

def W.law40_Call_data_k8 (p5 : Option Addr) (p5n : Nat) (p5c : Nat) (w : World) (Q : Value → World → Prop) : Prop :=
  rv Try.prog (convert 71 9 (.slice p5 p5n p5c)) w fun v6 w7 => fT v6 fun t8 =>
  Q (.string t8) w7
def W.law40_Call_data_k7 (p1 : ByteArray) (p2 : Addr) (p5 : Option Addr) (p5n : Nat) (p5c : Nat) (p6 : Int) (p35 : Bool) (next11 : (Int × Unit) → World → Prop) (w : World) (Q : Value → World → Prop) : Prop :=
  br p35 (dr w fun w19 =>
  rq Try.prog (Instr.indexAt 71 (.slice p5 p5n p5c) (.int .i64 p6)) w19 fun v20 => fA v20 fun a21 =>
  ld Try.prog 5 a21 w19 fun v22 => fI .u8 v22 fun x23 =>
  rq Try.prog (Instr.index 9 (.string p1) (.int .i64 p6)) w19 fun v24 => fI .u8 v24 fun x25 =>
  rq Try.prog (Instr.indexAt 71 (.slice p5 p5n p5c) (.int .i64 p6)) w19 fun v26 => fA v26 fun a27 =>
  st Try.prog 5 a27 (.int .u8 (band .u8 x23 x25)) w19 fun w28 =>
  next11 (((IntKind.wrap .i64 (p6 + 1)) : Int), ()) w28) (next11 (((IntKind.wrap .i64 (p6 + 1)) : Int), ()) w)
def W.law40_Call_data (c__0 : Int) (c__1 : Int) (c__2 : Int) (c__3 : Int) (c__4 : Int) (c__5 : Bool) (c__6 : Bool) (was_ : ByteArray) (w : World) (Q : Value → World → Prop) : Prop :=
  al 39 (#[(.int .i64 c__0), (.int .i64 c__1), (.int .i64 c__2), (.int .u64 c__3), (.int .u64 c__4), (.bool c__5), (.bool c__6)]) w fun a2 w1 =>
  rv Try.prog (Instr.makeSlice 71 (.int .i64 64) (.int .i64 64)) w1 fun v3 w4 => fS v3 fun l5 l5n l5c =>
  LoopW (S := Int × Unit) (fun s9 w10 next11 =>
  br (decide ((s9.1 : Int) < ((l5n : Nat) : Int))) (ld Try.prog 37 (a2.add 3) w10 fun v12 => fI .u64 v12 fun x13 =>
  rq Try.prog (do eqGuard .shr 37 (.tmp 17) (.tmp 24) (.int .u64 x13) (.int .u64 (IntKind.wrap .u64 (IntKind.wrap .i64 (8 * (Int.tmod (IntKind.wrap .i64 (s9.1 + (IntKind.wrap .i64 (Int.tdiv s9.1 8)))) 8))))); binOp .shr 37 (.int .u64 x13) (.int .u64 (IntKind.wrap .u64 (IntKind.wrap .i64 (8 * (Int.tmod (IntKind.wrap .i64 (s9.1 + (IntKind.wrap .i64 (Int.tdiv s9.1 8)))) 8)))))) w10 fun v14 => fI .u64 v14 fun x15 =>
  rq Try.prog (Instr.indexAt 71 (.slice l5 l5n l5c) (.int .i64 s9.1)) w10 fun v16 => fA v16 fun a17 =>
  st Try.prog 5 a17 (.int .u8 (IntKind.wrap .u8 x15)) w10 fun w18 =>
  ld Try.prog 4 (a2.add 5) w18 fun v29 => fB v29 fun b30 =>
  br b30 (W.law40_Call_data_k7 was_ a2 l5 l5n l5c s9.1 (decide ((s9.1 : Int) < ((was_.size : Nat) : Int))) next11 w18 Q) (W.law40_Call_data_k7 was_ a2 l5 l5n l5c s9.1 false next11 w18 Q)) (W.law40_Call_data_k8 l5 l5n l5c w10 Q)) ((0 : Int), ()) w4
theorem E.law40_Call_data (c__0 : Int) (c__1 : Int) (c__2 : Int) (c__3 : Int) (c__4 : Int) (c__5 : Bool) (c__6 : Bool) (was_ : ByteArray) (w : World) (Q : Value → World → Prop) : ev Try.prog Try.f18.ntmps callable [(3, [(6, .int .i64 0)], [1, 2, 5])] [] (Try.f18.body.getD .skip) (enumE 0 [(.agg #[(.int .i64 c__0), (.int .i64 c__1), (.int .i64 c__2), (.int .u64 c__3), (.int .u64 c__4), (.bool c__5), (.bool c__6)]), (.string was_)]) w (KQ Try.prog Try.f18.results.toList Q) = W.law40_Call_data c__0 c__1 c__2 c__3 c__4 c__5 c__6 was_ w Q := by kernel_rfl
theorem C.law40_Call_data (c__0 : Int) (c__1 : Int) (c__2 : Int) (c__3 : Int) (c__4 : Int) (c__5 : Bool) (c__6 : Bool) (was_ : ByteArray) (w : World) (Q : Value → World → Prop) (h : W.law40_Call_data c__0 c__1 c__2 c__3 c__4 c__5 c__6 was_ w Q) : CallE Try.prog 18 #[(.agg #[(.int .i64 c__0), (.int .i64 c__1), (.int .i64 c__2), (.int .u64 c__3), (.int .u64 c__4), (.bool c__5), (.bool c__6)]), (.string was_)] w Q :=
  calls_of_ev mixed callable_ok (args := [(.agg #[(.int .i64 c__0), (.int .i64 c__1), (.int .i64 c__2), (.int .u64 c__3), (.int .u64 c__4), (.bool c__5), (.bool c__6)]), (.string was_)]) Try.func18 rfl ((E.law40_Call_data c__0 c__1 c__2 c__3 c__4 c__5 c__6 was_ w Q).symm ▸ h)

def W.law40_Fill_k6 (p3 : Option Addr) (p3n : Nat) (p3c : Nat) (w : World) (Q : Value → World → Prop) : Prop :=
  rv Try.prog (convert 71 9 (.slice p3 p3n p3c)) w fun v4 w5 => fT v4 fun t6 =>
  Q (.string t6) w5
def W.law40_Fill (c_ : Int) (w : World) (Q : Value → World → Prop) : Prop :=
  rv Try.prog (Instr.makeSlice 71 (.int .i64 64) (.int .i64 64)) w fun v1 w2 => fS v1 fun l3 l3n l3c =>
  LoopW (S := Int × Unit) (fun s7 w8 next9 =>
  br (decide ((s7.1 : Int) < ((l3n : Nat) : Int))) (rq Try.prog (Instr.indexAt 71 (.slice l3 l3n l3c) (.int .i64 s7.1)) w8 fun v10 => fA v10 fun a11 =>
  st Try.prog 5 a11 (.int .u8 c_) w8 fun w12 =>
  next9 (((IntKind.wrap .i64 (s7.1 + 1)) : Int), ()) w12) (W.law40_Fill_k6 l3 l3n l3c w8 Q)) ((0 : Int), ()) w2
theorem E.law40_Fill (c_ : Int) (w : World) (Q : Value → World → Prop) : ev Try.prog Try.f19.ntmps callable [(3, [(4, .int .i64 0)], [0, 3])] [] (Try.f19.body.getD .skip) (enumE 0 [(.int .u8 c_)]) w (KQ Try.prog Try.f19.results.toList Q) = W.law40_Fill c_ w Q := by kernel_rfl
theorem C.law40_Fill (c_ : Int) (w : World) (Q : Value → World → Prop) (h : W.law40_Fill c_ w Q) : CallE Try.prog 19 #[(.int .u8 c_)] w Q :=
  calls_of_ev mixed callable_ok (args := [(.int .u8 c_)]) Try.func19 rfl ((E.law40_Fill c_ w Q).symm ▸ h)

def W.flash_Flash_Erases (f_ : Addr) (block_ : Int) (w : World) (Q : Value → World → Prop) : Prop :=
  CallE Try.prog 32 #[(.pointer (some f_)), (.int .i64 block_)] w fun v1 w2 => fB v1 fun b3 =>
  br (!b3) (Q (.int .i64 0) w2) (ld Try.prog 58 (f_.add 3) w2 fun v4 => fS v4 fun l5 l5n l5c =>
  rq Try.prog (Instr.indexAt 58 (.slice l5 l5n l5c) (.int .i64 block_)) w2 fun v6 => fA v6 fun a7 =>
  ld Try.prog 3 (a7.add 1) w2 fun v8 => fI .i64 v8 fun x9 =>
  Q (.int .i64 x9) w2)
theorem E.flash_Flash_Erases (f_ : Addr) (block_ : Int) (w : World) (Q : Value → World → Prop) : ev Try.prog Try.f20.ntmps callable [] [] (Try.f20.body.getD .skip) (enumE 0 [(.pointer (some f_)), (.int .i64 block_)]) w (KQ Try.prog Try.f20.results.toList Q) = W.flash_Flash_Erases f_ block_ w Q := by kernel_rfl
theorem C.flash_Flash_Erases (f_ : Addr) (block_ : Int) (w : World) (Q : Value → World → Prop) (h : W.flash_Flash_Erases f_ block_ w Q) : CallE Try.prog 20 #[(.pointer (some f_)), (.int .i64 block_)] w Q :=
  calls_of_ev mixed callable_ok (args := [(.pointer (some f_)), (.int .i64 block_)]) Try.func20 rfl ((E.flash_Flash_Erases f_ block_ w Q).symm ▸ h)

def W.flash_Flash_CutAfter (f_ : Addr) (operations_ : Int) (torn_ : Int) (w : World) (Q : Value → World → Prop) : Prop :=
  st Try.prog 4 (f_.add 5) (.bool (decide ((operations_ : Int) ≥ 0))) w fun w1 =>
  st Try.prog 3 (f_.add 6) (.int .i64 operations_) w1 fun w2 =>
  st Try.prog 37 (f_.add 7) (.int .u64 torn_) w2 fun w3 =>
  Q (.tuple #[]) w3
theorem E.flash_Flash_CutAfter (f_ : Addr) (operations_ : Int) (torn_ : Int) (w : World) (Q : Value → World → Prop) : ev Try.prog Try.f21.ntmps callable [] [] (Try.f21.body.getD .skip) (enumE 0 [(.pointer (some f_)), (.int .i64 operations_), (.int .u64 torn_)]) w (KQ Try.prog Try.f21.results.toList Q) = W.flash_Flash_CutAfter f_ operations_ torn_ w Q := by kernel_rfl
theorem C.flash_Flash_CutAfter (f_ : Addr) (operations_ : Int) (torn_ : Int) (w : World) (Q : Value → World → Prop) (h : W.flash_Flash_CutAfter f_ operations_ torn_ w Q) : CallE Try.prog 21 #[(.pointer (some f_)), (.int .i64 operations_), (.int .u64 torn_)] w Q :=
  calls_of_ev mixed callable_ok (args := [(.pointer (some f_)), (.int .i64 operations_), (.int .u64 torn_)]) Try.func21 rfl ((E.flash_Flash_CutAfter f_ operations_ torn_ w Q).symm ▸ h)

def W.flash_Flash_Erase_k21 (p5 : Addr) (p6 : Int) (p7 : Int) (p8 : Int) (p10 : Option Addr) (p10n : Nat) (p10c : Nat) (p52 : Option Addr) (p52n : Nat) (p52c : Nat) (p53 : Int) (p54 : Int) (next22 : (Int × Unit) → World → Prop) (w : World) (Q : Value → World → Prop) : Prop :=
  drawE fun S30 => S30 (drew w) ∧ (ldS Try.prog S30 62 (p5.add 0) fun v31 => fS v31 fun l32 l32n l32c =>
  rv Try.prog (convert 71 9 (.slice p10 p10n p10c)) (drew w) fun v33 w34 => fT v33 fun t35 =>
  S30 w34 ∧ (rqS Try.prog S30 (Instr.indexAt 62 (.slice l32 l32n l32c) (.int .i64 p8)) fun v36 => fA v36 fun a37 =>
  st Try.prog 9 a37 (.string t35) w34 fun w38 =>
  S30 w38 ∧ (next22 (((IntKind.wrap .i64 (p54 + 1)) : Int), ()) w38)))
def W.flash_Flash_Erase_k12 (p5 : Addr) (p6 : Int) (p7 : Int) (w : World) (Q : Value → World → Prop) : Prop :=
  ld Try.prog 62 (p5.add 0) w fun v18 => fS v18 fun l19 l19n l19c =>
  LoopW (S := Int × Unit) (fun s20 w21 next22 =>
  br (decide ((s20.1 : Int) < ((l19n : Nat) : Int))) (rq Try.prog (Instr.indexAt 62 (.slice l19 l19n l19c) (.int .i64 s20.1)) w21 fun v23 => fA v23 fun a24 =>
  ld Try.prog 9 a24 w21 fun v25 => fT v25 fun t26 =>
  rv Try.prog (convert 9 71 (.string t26)) w21 fun v27 w28 => fS v27 fun l29 l29n l29c =>
  LoopW (S := Int × Unit) (fun s39 w40 next41 =>
  br (decide ((s39.1 : Int) < ((l29n : Nat) : Int))) (drawE fun S42 => S42 (drew w40) ∧ (rqS Try.prog S42 (Instr.indexAt 71 (.slice l29 l29n l29c) (.int .i64 s39.1)) fun v43 => fA v43 fun a44 =>
  (ld Try.prog 5 a44 (drew w40) fun v45 => fI .u8 v45 fun x46 =>
  S42 (drew w40) ∧ (CallE Try.prog 31 #[(.int .u64 p7), (.int .i64 s39.1)] (drew w40) fun v47 w48 => fI .u8 v47 fun x49 =>
  S42 w48 ∧ (rqS Try.prog S42 (Instr.indexAt 71 (.slice l29 l29n l29c) (.int .i64 s39.1)) fun v50 => fA v50 fun a51 =>
  st Try.prog 5 a51 (.int .u8 (bor .u8 x46 x49)) w48 fun w52 =>
  S42 w52 ∧ (next41 (((IntKind.wrap .i64 (s39.1 + 1)) : Int), ()) w52)))) ∧ (CallE Try.prog 31 #[(.int .u64 p7), (.int .i64 s39.1)] (drew w40) fun v53 w54 => fI .u8 v53 fun x55 =>
  S42 w54 ∧ (ld Try.prog 5 a44 w54 fun v56 => fI .u8 v56 fun x57 =>
  S42 w54 ∧ (rqS Try.prog S42 (Instr.indexAt 71 (.slice l29 l29n l29c) (.int .i64 s39.1)) fun v58 => fA v58 fun a59 =>
  st Try.prog 5 a59 (.int .u8 (bor .u8 x57 x55)) w54 fun w60 =>
  S42 w60 ∧ (next41 (((IntKind.wrap .i64 (s39.1 + 1)) : Int), ()) w60)))))) (W.flash_Flash_Erase_k21 p5 p6 p7 s20.1 l29 l29n l29c l19 l19n l19c ((l19n : Nat) : Int) s20.1 next22 w40 Q)) ((0 : Int), ()) w28) (Q (.int .i64 p6) w21)) ((0 : Int), ()) w
def W.flash_Flash_Erase (f_ : Addr) (block_ : Int) (w : World) (Q : Value → World → Prop) : Prop :=
  CallE Try.prog 32 #[(.pointer (some f_)), (.int .i64 block_)] w fun v1 w2 => fB v1 fun b3 =>
  br (!b3) (Q (.int .i64 1) w2) (ld Try.prog 4 (f_.add 4) w2 fun v4 => fB v4 fun b5 =>
  br b5 (Q (.int .i64 16) w2) (ld Try.prog 58 (f_.add 3) w2 fun v6 => fS v6 fun l7 l7n l7c =>
  rq Try.prog (Instr.indexAt 58 (.slice l7 l7n l7c) (.int .i64 block_)) w2 fun v8 => fA v8 fun a9 =>
  dr w2 fun w10 =>
  ld Try.prog 3 (a9.add 1) w10 fun v11 => fI .i64 v11 fun x12 =>
  ld Try.prog 3 ((f_.add 0).add 2) w10 fun v13 => fI .i64 v13 fun x14 =>
  br (decide ((x12 : Int) ≥ x14)) (Q (.int .i64 15) w10) (ld Try.prog 3 (a9.add 1) w10 fun v15 => fI .i64 v15 fun x16 =>
  st Try.prog 3 (a9.add 1) (.int .i64 (IntKind.wrap .i64 (x16 + 1))) w10 fun w17 =>
  CallE Try.prog 30 #[(.pointer (some f_))] w17 fun v61 w62 => fB v61 fun b63 =>
  br b63 (dr w62 fun w64 =>
  ld Try.prog 37 (f_.add 7) w64 fun v65 => fI .u64 v65 fun x66 =>
  W.flash_Flash_Erase_k12 a9 16 x66 w64 Q) (W.flash_Flash_Erase_k12 a9 0 18446744073709551615 w62 Q))))
theorem E.flash_Flash_Erase (f_ : Addr) (block_ : Int) (w : World) (Q : Value → World → Prop) : ev Try.prog Try.f22.ntmps callable [(13, [(54, .int .i64 0)], [5, 6, 7, 52, 53]), (17, [(63, .int .i64 0)], [5, 6, 7, 8, 10, 52, 53, 54, 62]), (1000019, [], [0])] [] (Try.f22.body.getD .skip) (enumE 0 [(.pointer (some f_)), (.int .i64 block_)]) w (KQ Try.prog Try.f22.results.toList Q) = W.flash_Flash_Erase f_ block_ w Q := by kernel_rfl
theorem C.flash_Flash_Erase (f_ : Addr) (block_ : Int) (w : World) (Q : Value → World → Prop) (h : W.flash_Flash_Erase f_ block_ w Q) : CallE Try.prog 22 #[(.pointer (some f_)), (.int .i64 block_)] w Q :=
  calls_of_ev mixed callable_ok (args := [(.pointer (some f_)), (.int .i64 block_)]) Try.func22 rfl ((E.flash_Flash_Erase f_ block_ w Q).symm ▸ h)

def W.flash_Flash_PowerOff (f_ : Addr) (w : World) (Q : Value → World → Prop) : Prop :=
  ld Try.prog 4 (f_.add 4) w fun v1 => fB v1 fun b2 =>
  br b2 (Q (.int .i64 9) w) (CallE Try.prog 33 #[(.pointer (some f_))] w fun v3 w4 => v3 = .tuple #[] ∧
  Q (.int .i64 0) w4)
theorem E.flash_Flash_PowerOff (f_ : Addr) (w : World) (Q : Value → World → Prop) : ev Try.prog Try.f23.ntmps callable [] [] (Try.f23.body.getD .skip) (enumE 0 [(.pointer (some f_))]) w (KQ Try.prog Try.f23.results.toList Q) = W.flash_Flash_PowerOff f_ w Q := by kernel_rfl
theorem C.flash_Flash_PowerOff (f_ : Addr) (w : World) (Q : Value → World → Prop) (h : W.flash_Flash_PowerOff f_ w Q) : CallE Try.prog 23 #[(.pointer (some f_))] w Q :=
  calls_of_ev mixed callable_ok (args := [(.pointer (some f_))]) Try.func23 rfl ((E.flash_Flash_PowerOff f_ w Q).symm ▸ h)

def W.flash_Flash_PowerOn (f_ : Addr) (w : World) (Q : Value → World → Prop) : Prop :=
  ld Try.prog 4 (f_.add 4) w fun v1 => fB v1 fun b2 =>
  br (!b2) (Q (.int .i64 9) w) (st Try.prog 4 (f_.add 4) (.bool false) w fun w3 =>
  Q (.int .i64 0) w3)
theorem E.flash_Flash_PowerOn (f_ : Addr) (w : World) (Q : Value → World → Prop) : ev Try.prog Try.f24.ntmps callable [] [] (Try.f24.body.getD .skip) (enumE 0 [(.pointer (some f_))]) w (KQ Try.prog Try.f24.results.toList Q) = W.flash_Flash_PowerOn f_ w Q := by kernel_rfl
theorem C.flash_Flash_PowerOn (f_ : Addr) (w : World) (Q : Value → World → Prop) (h : W.flash_Flash_PowerOn f_ w Q) : CallE Try.prog 24 #[(.pointer (some f_))] w Q :=
  calls_of_ev mixed callable_ok (args := [(.pointer (some f_))]) Try.func24 rfl ((E.flash_Flash_PowerOn f_ w Q).symm ▸ h)

def W.law40_within (x_ : ByteArray) (a_ : ByteArray) (b_ : ByteArray) (w : World) (Q : Value → World → Prop) : Prop :=
  br ((((x_.size : Nat) : Int) : Int) != ((a_.size : Nat) : Int)) (Q (.bool false) w) (br ((((x_.size : Nat) : Int) : Int) != ((b_.size : Nat) : Int)) (Q (.bool false) w) (LoopW (S := Int × Unit) (fun s1 w2 next3 =>
  br (decide ((s1.1 : Int) < ((x_.size : Nat) : Int))) (dr w2 fun w4 =>
  rq Try.prog (Instr.index 9 (.string a_) (.int .i64 s1.1)) w4 fun v5 => fI .u8 v5 fun x6 =>
  rq Try.prog (Instr.index 9 (.string b_) (.int .i64 s1.1)) w4 fun v7 => fI .u8 v7 fun x8 =>
  rq Try.prog (Instr.index 9 (.string x_) (.int .i64 s1.1)) w4 fun v9 => fI .u8 v9 fun x10 =>
  br (((bandNot .u8 (band .u8 x6 x8) x10) : Int) != 0) (Q (.bool false) w4) (rq Try.prog (Instr.index 9 (.string x_) (.int .i64 s1.1)) w4 fun v11 => fI .u8 v11 fun x12 =>
  rq Try.prog (Instr.index 9 (.string a_) (.int .i64 s1.1)) w4 fun v13 => fI .u8 v13 fun x14 =>
  rq Try.prog (Instr.index 9 (.string b_) (.int .i64 s1.1)) w4 fun v15 => fI .u8 v15 fun x16 =>
  br (((bandNot .u8 x12 (bor .u8 x14 x16)) : Int) != 0) (Q (.bool false) w4) (next3 (((IntKind.wrap .i64 (s1.1 + 1)) : Int), ()) w4))) (Q (.bool true) w2)) ((0 : Int), ()) w))
theorem E.law40_within (x_ : ByteArray) (a_ : ByteArray) (b_ : ByteArray) (w : World) (Q : Value → World → Prop) : ev Try.prog Try.f25.ntmps callable [(4, [(7, .int .i64 0)], [0, 1, 2])] [] (Try.f25.body.getD .skip) (enumE 0 [(.string x_), (.string a_), (.string b_)]) w (KQ Try.prog Try.f25.results.toList Q) = W.law40_within x_ a_ b_ w Q := by kernel_rfl
theorem C.law40_within (x_ : ByteArray) (a_ : ByteArray) (b_ : ByteArray) (w : World) (Q : Value → World → Prop) (h : W.law40_within x_ a_ b_ w Q) : CallE Try.prog 25 #[(.string x_), (.string a_), (.string b_)] w Q :=
  calls_of_ev mixed callable_ok (args := [(.string x_), (.string a_), (.string b_)]) Try.func25 rfl ((E.law40_within x_ a_ b_ w Q).symm ▸ h)

def W.slices_Repeat___string_string__k6 (p0 : Option Addr) (p0n : Nat) (p0c : Nat) (p6 : Int) (w : World) (Q : Value → World → Prop) : Prop :=
  rv Try.prog (Instr.makeSlice 62 (.int .i64 (IntKind.wrap .i64 p6)) (.int .i64 (IntKind.wrap .i64 p6))) w fun v5 w6 => fS v5 fun l7 l7n l7c =>
  rv Try.prog (Builtin.copy_ #[62, 62] 3 #[(.slice l7 l7n l7c), (.slice p0 p0n p0c)]) w6 fun v8 w9 => fI .i64 v8 fun x10 =>
  LoopW (S := Int × Unit) (fun s11 w12 next13 =>
  br (decide ((s11.1 : Int) < ((l7n : Nat) : Int))) (drawE fun S14 => S14 (drew w12) ∧ (rqS Try.prog S14 (Instr.sliceAt 62 (.slice l7 l7n l7c) (some (.int .i64 s11.1)) none none) fun v15 => fS v15 fun l16 l16n l16c =>
  rqS Try.prog S14 (Instr.sliceAt 62 (.slice l7 l7n l7c) none (some (.int .i64 s11.1)) none) fun v17 => fS v17 fun l18 l18n l18c =>
  rv Try.prog (Builtin.copy_ #[62, 62] 3 #[(.slice l16 l16n l16c), (.slice l18 l18n l18c)]) (drew w12) fun v19 w20 => fI .i64 v19 fun x21 =>
  S14 w20 ∧ (next13 (((IntKind.wrap .i64 (s11.1 + x21)) : Int), ()) w20))) (Q (.slice l7 l7n l7c) w12)) ((x10 : Int), ()) w9
def W.slices_Repeat___string_string__k5 (p0 : Option Addr) (p0n : Nat) (p0c : Nat) (p6 : Int) (p26 : Bool) (w : World) (Q : Value → World → Prop) : Prop :=
  br p26 (rv Try.prog (stuck "") w fun v22 w23 => fV v22 fun v24 =>
  rv Try.prog (stuck "") w23 fun v25 w26 => v25 = .tuple #[] ∧
  W.slices_Repeat___string_string__k6 p0 p0n p0c p6 w26 Q) (W.slices_Repeat___string_string__k6 p0 p0n p0c p6 w Q)
def W.slices_Repeat___string_string__k3 (p0 : Option Addr) (p0n : Nat) (p0c : Nat) (p1 : Int) (w : World) (Q : Value → World → Prop) : Prop :=
  CallE Try.prog 34 #[(.int .u64 (IntKind.wrap .u64 ((p0n : Nat) : Int))), (.int .u64 (IntKind.wrap .u64 p1))] w fun v1 w2 => ∃ (x3 : Int) (x4 : Int), v1 = .tuple #[(.int .u64 x3), (.int .u64 x4)] ∧
  br (decide ((x3 : Int) > 0)) (W.slices_Repeat___string_string__k5 p0 p0n p0c x4 true w2 Q) (W.slices_Repeat___string_string__k5 p0 p0n p0c x4 (decide ((x4 : Int) > 9223372036854775807)) w2 Q)
def W.slices_Repeat___string_string_ (x_ : Option Addr) (x_n : Nat) (x_c : Nat) (count_ : Int) (w : World) (Q : Value → World → Prop) : Prop :=
  br (decide ((count_ : Int) < 0)) (rv Try.prog (stuck "") w fun v27 w28 => fV v27 fun v29 =>
  rv Try.prog (stuck "") w28 fun v30 w31 => v30 = .tuple #[] ∧
  W.slices_Repeat___string_string__k3 x_ x_n x_c count_ w31 Q) (W.slices_Repeat___string_string__k3 x_ x_n x_c count_ w Q)
theorem E.slices_Repeat___string_string_ (x_ : Option Addr) (x_n : Nat) (x_c : Nat) (count_ : Int) (w : World) (Q : Value → World → Prop) : ev Try.prog Try.f27.ntmps callable [(8, [(8, .int .i64 0)], [7])] [] (Try.f27.body.getD .skip) (enumE 0 [(.slice x_ x_n x_c), (.int .i64 count_)]) w (KQ Try.prog Try.f27.results.toList Q) = W.slices_Repeat___string_string_ x_ x_n x_c count_ w Q := by kernel_rfl
theorem C.slices_Repeat___string_string_ (x_ : Option Addr) (x_n : Nat) (x_c : Nat) (count_ : Int) (w : World) (Q : Value → World → Prop) (h : W.slices_Repeat___string_string_ x_ x_n x_c count_ w Q) : CallE Try.prog 27 #[(.slice x_ x_n x_c), (.int .i64 count_)] w Q :=
  calls_of_ev mixed callable_ok (args := [(.slice x_ x_n x_c), (.int .i64 count_)]) Try.func27 rfl ((E.slices_Repeat___string_string_ x_ x_n x_c count_ w Q).symm ▸ h)

def W.ref40_erased_k6 (p1 : Option Addr) (p1n : Nat) (p1c : Nat) (w : World) (Q : Value → World → Prop) : Prop :=
  rv Try.prog (convert 71 9 (.slice p1 p1n p1c)) w fun v4 w5 => fT v4 fun t6 =>
  Q (.string t6) w5
def W.ref40_erased (w : World) (Q : Value → World → Prop) : Prop :=
  rv Try.prog (Instr.makeSlice 71 (.int .i64 64) (.int .i64 64)) w fun v1 w2 => fS v1 fun l3 l3n l3c =>
  LoopW (S := Int × Unit) (fun s7 w8 next9 =>
  br (decide ((s7.1 : Int) < ((l3n : Nat) : Int))) (rq Try.prog (Instr.indexAt 71 (.slice l3 l3n l3c) (.int .i64 s7.1)) w8 fun v10 => fA v10 fun a11 =>
  st Try.prog 5 a11 (.int .u8 255) w8 fun w12 =>
  next9 (((IntKind.wrap .i64 (s7.1 + 1)) : Int), ()) w12) (W.ref40_erased_k6 l3 l3n l3c w8 Q)) ((0 : Int), ()) w2
theorem E.ref40_erased (w : World) (Q : Value → World → Prop) : ev Try.prog Try.f28.ntmps callable [(3, [(2, .int .i64 0)], [1])] [] (Try.f28.body.getD .skip) (enumE 0 []) w (KQ Try.prog Try.f28.results.toList Q) = W.ref40_erased w Q := by kernel_rfl
theorem C.ref40_erased (w : World) (Q : Value → World → Prop) (h : W.ref40_erased w Q) : CallE Try.prog 28 #[] w Q :=
  calls_of_ev mixed callable_ok (args := []) Try.func28 rfl ((E.ref40_erased w Q).symm ▸ h)

def W.flash_Flash_isPage (f_ : Addr) (block_ : Int) (page_ : Int) (w : World) (Q : Value → World → Prop) : Prop :=
  CallE Try.prog 32 #[(.pointer (some f_)), (.int .i64 block_)] w fun v1 w2 => fB v1 fun b3 =>
  br b3 (br (decide ((page_ : Int) ≥ 0)) (ld Try.prog 3 ((f_.add 0).add 1) w2 fun v4 => fI .i64 v4 fun x5 =>
  Q (.bool (decide ((page_ : Int) < x5))) w2) (Q (.bool false) w2)) (Q (.bool false) w2)
theorem E.flash_Flash_isPage (f_ : Addr) (block_ : Int) (page_ : Int) (w : World) (Q : Value → World → Prop) : ev Try.prog Try.f29.ntmps callable [] [] (Try.f29.body.getD .skip) (enumE 0 [(.pointer (some f_)), (.int .i64 block_), (.int .i64 page_)]) w (KQ Try.prog Try.f29.results.toList Q) = W.flash_Flash_isPage f_ block_ page_ w Q := by kernel_rfl
theorem C.flash_Flash_isPage (f_ : Addr) (block_ : Int) (page_ : Int) (w : World) (Q : Value → World → Prop) (h : W.flash_Flash_isPage f_ block_ page_ w Q) : CallE Try.prog 29 #[(.pointer (some f_)), (.int .i64 block_), (.int .i64 page_)] w Q :=
  calls_of_ev mixed callable_ok (args := [(.pointer (some f_)), (.int .i64 block_), (.int .i64 page_)]) Try.func29 rfl ((E.flash_Flash_isPage f_ block_ page_ w Q).symm ▸ h)

def W.flash_Flash_interrupted (f_ : Addr) (w : World) (Q : Value → World → Prop) : Prop :=
  ld Try.prog 4 (f_.add 5) w fun v1 => fB v1 fun b2 =>
  br (!b2) (Q (.bool false) w) (ld Try.prog 3 (f_.add 6) w fun v3 => fI .i64 v3 fun x4 =>
  br (decide ((x4 : Int) > 0)) (ld Try.prog 3 (f_.add 6) w fun v5 => fI .i64 v5 fun x6 =>
  st Try.prog 3 (f_.add 6) (.int .i64 (IntKind.wrap .i64 (x6 - 1))) w fun w7 =>
  Q (.bool false) w7) (CallE Try.prog 33 #[(.pointer (some f_))] w fun v8 w9 => v8 = .tuple #[] ∧
  Q (.bool true) w9))
theorem E.flash_Flash_interrupted (f_ : Addr) (w : World) (Q : Value → World → Prop) : ev Try.prog Try.f30.ntmps callable [] [] (Try.f30.body.getD .skip) (enumE 0 [(.pointer (some f_))]) w (KQ Try.prog Try.f30.results.toList Q) = W.flash_Flash_interrupted f_ w Q := by kernel_rfl
theorem C.flash_Flash_interrupted (f_ : Addr) (w : World) (Q : Value → World → Prop) (h : W.flash_Flash_interrupted f_ w Q) : CallE Try.prog 30 #[(.pointer (some f_))] w Q :=
  calls_of_ev mixed callable_ok (args := [(.pointer (some f_))]) Try.func30 rfl ((E.flash_Flash_interrupted f_ w Q).symm ▸ h)

def W.flash_selected (torn_ : Int) (i_ : Int) (w : World) (Q : Value → World → Prop) : Prop :=
  rq Try.prog (do eqGuard .shr 37 (.tmp 5) (.tmp 8) (.int .u64 torn_) (.int .i64 (IntKind.wrap .i64 (8 * (Int.tmod i_ 8)))); binOp .shr 37 (.int .u64 torn_) (.int .i64 (IntKind.wrap .i64 (8 * (Int.tmod i_ 8))))) w fun v1 => fI .u64 v1 fun x2 =>
  Q (.int .u8 (IntKind.wrap .u8 x2)) w
theorem E.flash_selected (torn_ : Int) (i_ : Int) (w : World) (Q : Value → World → Prop) : ev Try.prog Try.f31.ntmps callable [] [] (Try.f31.body.getD .skip) (enumE 0 [(.int .u64 torn_), (.int .i64 i_)]) w (KQ Try.prog Try.f31.results.toList Q) = W.flash_selected torn_ i_ w Q := by kernel_rfl
theorem C.flash_selected (torn_ : Int) (i_ : Int) (w : World) (Q : Value → World → Prop) (h : W.flash_selected torn_ i_ w Q) : CallE Try.prog 31 #[(.int .u64 torn_), (.int .i64 i_)] w Q :=
  calls_of_ev mixed callable_ok (args := [(.int .u64 torn_), (.int .i64 i_)]) Try.func31 rfl ((E.flash_selected torn_ i_ w Q).symm ▸ h)

def W.flash_Flash_isBlock (f_ : Addr) (block_ : Int) (w : World) (Q : Value → World → Prop) : Prop :=
  br (decide ((block_ : Int) ≥ 0)) (ld Try.prog 3 ((f_.add 0).add 0) w fun v1 => fI .i64 v1 fun x2 =>
  Q (.bool (decide ((block_ : Int) < x2))) w) (Q (.bool false) w)
theorem E.flash_Flash_isBlock (f_ : Addr) (block_ : Int) (w : World) (Q : Value → World → Prop) : ev Try.prog Try.f32.ntmps callable [] [] (Try.f32.body.getD .skip) (enumE 0 [(.pointer (some f_)), (.int .i64 block_)]) w (KQ Try.prog Try.f32.results.toList Q) = W.flash_Flash_isBlock f_ block_ w Q := by kernel_rfl
theorem C.flash_Flash_isBlock (f_ : Addr) (block_ : Int) (w : World) (Q : Value → World → Prop) (h : W.flash_Flash_isBlock f_ block_ w Q) : CallE Try.prog 32 #[(.pointer (some f_)), (.int .i64 block_)] w Q :=
  calls_of_ev mixed callable_ok (args := [(.pointer (some f_)), (.int .i64 block_)]) Try.func32 rfl ((E.flash_Flash_isBlock f_ block_ w Q).symm ▸ h)

def W.flash_Flash_lose (f_ : Addr) (w : World) (Q : Value → World → Prop) : Prop :=
  st Try.prog 4 (f_.add 4) (.bool true) w fun w1 =>
  st Try.prog 4 (f_.add 5) (.bool false) w1 fun w2 =>
  Q (.tuple #[]) w2
theorem E.flash_Flash_lose (f_ : Addr) (w : World) (Q : Value → World → Prop) : ev Try.prog Try.f33.ntmps callable [] [] (Try.f33.body.getD .skip) (enumE 0 [(.pointer (some f_))]) w (KQ Try.prog Try.f33.results.toList Q) = W.flash_Flash_lose f_ w Q := by kernel_rfl
theorem C.flash_Flash_lose (f_ : Addr) (w : World) (Q : Value → World → Prop) (h : W.flash_Flash_lose f_ w Q) : CallE Try.prog 33 #[(.pointer (some f_))] w Q :=
  calls_of_ev mixed callable_ok (args := [(.pointer (some f_))]) Try.func33 rfl ((E.flash_Flash_lose f_ w Q).symm ▸ h)

def W.strings_HasPrefix (s_ : ByteArray) (prefix_ : ByteArray) (w : World) (Q : Value → World → Prop) : Prop :=
  CallE Try.prog 42 #[(.string s_), (.string prefix_)] w fun v1 w2 => fB v1 fun b3 =>
  Q (.bool b3) w2
theorem E.strings_HasPrefix (s_ : ByteArray) (prefix_ : ByteArray) (w : World) (Q : Value → World → Prop) : ev Try.prog Try.f35.ntmps callable [] [] (Try.f35.body.getD .skip) (enumE 0 [(.string s_), (.string prefix_)]) w (KQ Try.prog Try.f35.results.toList Q) = W.strings_HasPrefix s_ prefix_ w Q := by kernel_rfl
theorem C.strings_HasPrefix (s_ : ByteArray) (prefix_ : ByteArray) (w : World) (Q : Value → World → Prop) (h : W.strings_HasPrefix s_ prefix_ w Q) : CallE Try.prog 35 #[(.string s_), (.string prefix_)] w Q :=
  calls_of_ev mixed callable_ok (args := [(.string s_), (.string prefix_)]) Try.func35 rfl ((E.strings_HasPrefix s_ prefix_ w Q).symm ▸ h)

def W.strings_Builder_WriteString (b_ : Addr) (s_ : ByteArray) (w : World) (Q : Value → World → Prop) : Prop :=
  CallE Try.prog 43 #[(.pointer (some b_))] w fun v1 w2 => v1 = .tuple #[] ∧
  ld Try.prog 71 (b_.add 1) w2 fun v3 => fS v3 fun l4 l4n l4c =>
  rv Try.prog (Builtin.append_ #[71, 9] 71 #[(.slice l4 l4n l4c), (.string s_)]) w2 fun v5 w6 => fS v5 fun l7 l7n l7c =>
  st Try.prog 71 (b_.add 1) (.slice l7 l7n l7c) w6 fun w8 =>
  Q (.tuple #[(.int .i64 ((s_.size : Nat) : Int)), .nilIface]) w8
theorem E.strings_Builder_WriteString (b_ : Addr) (s_ : ByteArray) (w : World) (Q : Value → World → Prop) : ev Try.prog Try.f37.ntmps callable [] [] (Try.f37.body.getD .skip) (enumE 0 [(.pointer (some b_)), (.string s_)]) w (KQ Try.prog Try.f37.results.toList Q) = W.strings_Builder_WriteString b_ s_ w Q := by kernel_rfl
theorem C.strings_Builder_WriteString (b_ : Addr) (s_ : ByteArray) (w : World) (Q : Value → World → Prop) (h : W.strings_Builder_WriteString b_ s_ w Q) : CallE Try.prog 37 #[(.pointer (some b_)), (.string s_)] w Q :=
  calls_of_ev mixed callable_ok (args := [(.pointer (some b_)), (.string s_)]) Try.func37 rfl ((E.strings_Builder_WriteString b_ s_ w Q).symm ▸ h)

def W.strings_Builder_String (b_ : Addr) (w : World) (Q : Value → World → Prop) : Prop :=
  drawE fun S1 => S1 (drew w) ∧ (ldS Try.prog S1 71 (b_.add 1) fun v2 => fS v2 fun l3 l3n l3c =>
  ldS Try.prog S1 71 (b_.add 1) fun v4 => fS v4 fun l5 l5n l5c =>
  rv Try.prog (Builtin.unsafeSliceData_ #[71] 92 #[(.slice l3 l3n l3c)]) (drew w) fun v6 w7 => fP v6 fun p8 =>
  S1 w7 ∧ (rv Try.prog (Builtin.unsafeString_ #[92, 3] 9 #[(.pointer p8), (.int .i64 ((l5n : Nat) : Int))]) w7 fun v9 w10 => fT v9 fun t11 =>
  S1 w10 ∧ (Q (.string t11) w10)))
theorem E.strings_Builder_String (b_ : Addr) (w : World) (Q : Value → World → Prop) : ev Try.prog Try.f39.ntmps callable [] [] (Try.f39.body.getD .skip) (enumE 0 [(.pointer (some b_))]) w (KQ Try.prog Try.f39.results.toList Q) = W.strings_Builder_String b_ w Q := by kernel_rfl
theorem C.strings_Builder_String (b_ : Addr) (w : World) (Q : Value → World → Prop) (h : W.strings_Builder_String b_ w Q) : CallE Try.prog 39 #[(.pointer (some b_))] w Q :=
  calls_of_ev mixed callable_ok (args := [(.pointer (some b_))]) Try.func39 rfl ((E.strings_Builder_String b_ w Q).symm ▸ h)

def W.internal_stringslite_HasPrefix (s_ : ByteArray) (prefix_ : ByteArray) (w : World) (Q : Value → World → Prop) : Prop :=
  br (decide ((((s_.size : Nat) : Int) : Int) ≥ ((prefix_.size : Nat) : Int))) (rq Try.prog (Instr.sliceAt 9 (.string s_) none (some (.int .i64 ((prefix_.size : Nat) : Int))) none) w fun v1 => fT v1 fun t2 =>
  rq Try.prog (do eqGuard .eql 9 (.tmp 14) (.tmp 15) (.string t2) (.string prefix_); binOp .eql 9 (.string t2) (.string prefix_)) w fun v3 => fB v3 fun b4 =>
  Q (.bool b4) w) (Q (.bool false) w)
theorem E.internal_stringslite_HasPrefix (s_ : ByteArray) (prefix_ : ByteArray) (w : World) (Q : Value → World → Prop) : ev Try.prog Try.f42.ntmps callable [] [] (Try.f42.body.getD .skip) (enumE 0 [(.string s_), (.string prefix_)]) w (KQ Try.prog Try.f42.results.toList Q) = W.internal_stringslite_HasPrefix s_ prefix_ w Q := by kernel_rfl
theorem C.internal_stringslite_HasPrefix (s_ : ByteArray) (prefix_ : ByteArray) (w : World) (Q : Value → World → Prop) (h : W.internal_stringslite_HasPrefix s_ prefix_ w Q) : CallE Try.prog 42 #[(.string s_), (.string prefix_)] w Q :=
  calls_of_ev mixed callable_ok (args := [(.string s_), (.string prefix_)]) Try.func42 rfl ((E.internal_stringslite_HasPrefix s_ prefix_ w Q).symm ▸ h)

def W.strings_Builder_copyCheck (b_ : Addr) (w : World) (Q : Value → World → Prop) : Prop :=
  ld Try.prog 78 (b_.add 0) w fun v1 => fP v1 fun p2 =>
  rq Try.prog (do eqGuard .eql 78 (.tmp 5) (.const (.pointer none)) (.pointer p2) (.pointer none); binOp .eql 78 (.pointer p2) (.pointer none)) w fun v3 => fB v3 fun b4 =>
  br b4 (rv Try.prog (convert 78 93 (.pointer (some b_))) w fun v5 w6 => fP v5 fun p7 =>
  rv Try.prog (convert 93 78 (.pointer p7)) w6 fun v8 w9 => fP v8 fun p10 =>
  st Try.prog 78 (b_.add 0) (.pointer p10) w9 fun w11 =>
  Q (.tuple #[]) w11) (ld Try.prog 78 (b_.add 0) w fun v12 => fP v12 fun p13 =>
  rq Try.prog (do eqGuard .neq 78 (.tmp 17) (.tmp 18) (.pointer p13) (.pointer (some b_)); binOp .neq 78 (.pointer p13) (.pointer (some b_))) w fun v14 => fB v14 fun b15 =>
  br b15 (False) (Q (.tuple #[]) w))
theorem E.strings_Builder_copyCheck (b_ : Addr) (w : World) (Q : Value → World → Prop) : ev Try.prog Try.f43.ntmps callable [] [] (Try.f43.body.getD .skip) (enumE 0 [(.pointer (some b_))]) w (KQ Try.prog Try.f43.results.toList Q) = W.strings_Builder_copyCheck b_ w Q := by kernel_rfl
theorem C.strings_Builder_copyCheck (b_ : Addr) (w : World) (Q : Value → World → Prop) (h : W.strings_Builder_copyCheck b_ w Q) : CallE Try.prog 43 #[(.pointer (some b_))] w Q :=
  calls_of_ev mixed callable_ok (args := [(.pointer (some b_))]) Try.func43 rfl ((E.strings_Builder_copyCheck b_ w Q).symm ▸ h)
end Go.Proofs.Ytbfkhnaknbkilaa
