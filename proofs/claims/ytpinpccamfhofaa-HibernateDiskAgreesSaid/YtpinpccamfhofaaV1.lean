/- The conditions of the functions of this translation, written out by a program; each is an equation that the kernel checks. No condition. -/
import Derived.Test.YtpinpccamfhofaaGA
import Derived.Test.YtpinpccamfhofaaChecked
import Derived.Test.YtpinpccamfhofaaW0
set_option linter.unusedVariables false
set_option linter.unusedSimpArgs false
set_option maxRecDepth 100000
set_option linter.unusedVariables false
namespace Go.Proofs.Ytpinpccamfhofaa
open Go Go.Ev Go.Proofs
def W.law35_HibernateSelectAgrees_k12 (p0 : Option Addr) (p0n : Nat) (p0c : Nat) (p3 : Option Addr) (p3n : Nat) (p3c : Nat) (p4 : Int) (w : World) (Q : Value → World → Prop) : Prop :=
  br ((p4 : Int) == ((p3n : Nat) : Int)) (CallE Try.prog 17 #[(.slice p0 p0n p0c)] w fun v7 w8 => fS v7 fun l9 l9n l9c =>
  CallE Try.prog 16 #[(.slice p3 p3n p3c), (.slice l9 l9n l9c)] w8 fun v10 w11 => fB v10 fun b12 =>
  br b12 (CallE Try.prog 14 #[] w11 fun v13 w14 => fB v13 fun b15 =>
  Q (.bool b15) w14) (Q (.bool false) w11)) (Q (.bool false) w)
def W.law35_HibernateSelectAgrees_k9 (p0 : Option Addr) (p0n : Nat) (p0c : Nat) (p3 : Option Addr) (p3n : Nat) (p3c : Nat) (p4 : Int) (p5 : Int) (p38 : Bool) (next18 : (Int × Int × Unit) → World → Prop) (w : World) (Q : Value → World → Prop) : Prop :=
  br p38 (br (decide ((p4 : Int) ≥ ((p3n : Nat) : Int))) (Q (.bool false) w) (rq Try.prog (Instr.indexAt 24 (.slice p3 p3n p3c) (.int .i64 p4)) w fun v19 => fA v19 fun a20 =>
  ld Try.prog 3 a20 w fun v21 => fI .i64 v21 fun x22 =>
  br ((x22 : Int) != p5) (Q (.bool false) w) (next18 (((IntKind.wrap .i64 (p4 + 1)) : Int), ((IntKind.wrap .i64 (p5 + 1)) : Int), ()) w))) (next18 ((p4 : Int), ((IntKind.wrap .i64 (p5 + 1)) : Int), ()) w)
def W.law35_HibernateSelectAgrees (pages_ : Option Addr) (pages_n : Nat) (pages_c : Nat) (w : World) (Q : Value → World → Prop) : Prop :=
  br (decide ((((pages_n : Nat) : Int) : Int) > 100)) (CallE Try.prog 14 #[] w fun v1 w2 => fB v1 fun b3 =>
  Q (.bool b3) w2) (CallE Try.prog 15 #[(.slice pages_ pages_n pages_c)] w fun v4 w5 => fS v4 fun l6 l6n l6c =>
  LoopW (S := Int × Int × Unit) (fun s16 w17 next18 =>
  br (decide ((s16.2.1 : Int) < ((pages_n : Nat) : Int))) (rq Try.prog (Instr.indexAt 22 (.slice pages_ pages_n pages_c) (.int .i64 s16.2.1)) w17 fun v23 => fA v23 fun a24 =>
  ld Try.prog 4 (a24.add 0) w17 fun v25 => fB v25 fun b26 =>
  br b26 (rq Try.prog (Instr.indexAt 22 (.slice pages_ pages_n pages_c) (.int .i64 s16.2.1)) w17 fun v27 => fA v27 fun a28 =>
  ld Try.prog 4 (a28.add 1) w17 fun v29 => fB v29 fun b30 =>
  br (!b30) (rq Try.prog (Instr.indexAt 22 (.slice pages_ pages_n pages_c) (.int .i64 s16.2.1)) w17 fun v31 => fA v31 fun a32 =>
  ld Try.prog 4 (a32.add 2) w17 fun v33 => fB v33 fun b34 =>
  W.law35_HibernateSelectAgrees_k9 pages_ pages_n pages_c l6 l6n l6c s16.1 s16.2.1 (!b34) next18 w17 Q) (W.law35_HibernateSelectAgrees_k9 pages_ pages_n pages_c l6 l6n l6c s16.1 s16.2.1 false next18 w17 Q)) (W.law35_HibernateSelectAgrees_k9 pages_ pages_n pages_c l6 l6n l6c s16.1 s16.2.1 false next18 w17 Q)) (W.law35_HibernateSelectAgrees_k12 pages_ pages_n pages_c l6 l6n l6c s16.1 w17 Q)) ((0 : Int), (0 : Int), ()) w5)
theorem E.law35_HibernateSelectAgrees (pages_ : Option Addr) (pages_n : Nat) (pages_c : Nat) (w : World) (Q : Value → World → Prop) : ev Try.prog Try.f3.ntmps callable [(6, [(4, .int .i64 0), (5, .int .i64 0)], [0, 3])] [] (Try.f3.body.getD .skip) (enumE 0 [(.slice pages_ pages_n pages_c)]) w (KQ Try.prog Try.f3.results.toList Q) = W.law35_HibernateSelectAgrees pages_ pages_n pages_c w Q := by kernel_rfl
theorem C.law35_HibernateSelectAgrees (pages_ : Option Addr) (pages_n : Nat) (pages_c : Nat) (w : World) (Q : Value → World → Prop) (h : W.law35_HibernateSelectAgrees pages_ pages_n pages_c w Q) : CallE Try.prog 3 #[(.slice pages_ pages_n pages_c)] w Q :=
  calls_of_ev mixed callable_ok (args := [(.slice pages_ pages_n pages_c)]) Try.func3 rfl ((E.law35_HibernateSelectAgrees pages_ pages_n pages_c w Q).symm ▸ h)

def W.law35_HibernateSaveLoad_k12 (p4 : Addr) (p9 : Option Addr) (p11 : Addr) (p12 : Int) (w : World) (Q : Value → World → Prop) : Prop :=
  ld Try.prog 31 p4 w fun v30 => fG v30 fun g31 =>
  CallE Try.prog 22 #[(.pointer p9), (.agg g31)] w fun v32 w33 => ∃ (g34 : Array Value) (x35 : Int), v32 = .tuple #[(.agg g34), (.int .i64 x35)] ∧
  al 41 (zeroT Try.prog 41).cells w33 fun a37 w36 =>
  st Try.prog 41 a37 (.agg g34) w36 fun w38 =>
  ld Try.prog 31 p4 w38 fun v39 => fG v39 fun g40 =>
  CallE Try.prog 22 #[(.pointer p9), (.agg g40)] w38 fun v41 w42 => ∃ (g43 : Array Value) (x44 : Int), v41 = .tuple #[(.agg g43), (.int .i64 x44)] ∧
  al 41 (zeroT Try.prog 41).cells w42 fun a46 w45 =>
  st Try.prog 41 a46 (.agg g43) w45 fun w47 =>
  br ((p12 : Int) == 0) (br ((x35 : Int) == 0) (br ((x44 : Int) == 6) (ld Try.prog 41 a37 w47 fun v48 => fG v48 fun g49 =>
  ld Try.prog 41 p11 w47 fun v50 => fG v50 fun g51 =>
  CallE Try.prog 23 #[(.agg g49), (.agg g51)] w47 fun v52 w53 => fB v52 fun b54 =>
  br b54 (CallE Try.prog 14 #[] w53 fun v55 w56 => fB v55 fun b57 =>
  Q (.bool b57) w56) (Q (.bool false) w53)) (Q (.bool false) w47)) (Q (.bool false) w47)) (Q (.bool false) w47)
def W.law35_HibernateSaveLoad (board_ : Array Value) (other_ : Array Value) (generation_ : Int) (l_ : Option Addr) (l_n : Nat) (l_c : Nat) (w : World) (Q : Value → World → Prop) : Prop :=
  al 31 board_ w fun a2 w1 =>
  al 31 other_ w1 fun a4 w3 =>
  CallE Try.prog 18 #[(.slice l_ l_n l_c)] w3 fun v5 w6 => fB v5 fun b7 =>
  br b7 (CallE Try.prog 14 #[] w6 fun v8 w9 => fB v8 fun b10 =>
  Q (.bool b10) w9) (CallE Try.prog 19 #[(.int .i64 40)] w6 fun v11 w12 => ∃ (p13 : Option Addr) (x14 : Int), v11 = .tuple #[(.pointer p13), (.int .i64 x14)] ∧
  br ((x14 : Int) != 0) (Q (.bool false) w12) (rq Try.prog (do eqGuard .eql 35 (.tmp 29) (.const (.pointer none)) (.pointer p13) (.pointer none); binOp .eql 35 (.pointer p13) (.pointer none)) w12 fun v15 => fB v15 fun b16 =>
  br b16 (Q (.bool false) w12) (ld Try.prog 31 a2 w12 fun v17 => fG v17 fun g18 =>
  CallE Try.prog 20 #[(.agg g18), (.int .u64 generation_), (.slice l_ l_n l_c)] w12 fun v19 w20 => fG v19 fun g21 =>
  al 41 (zeroT Try.prog 41).cells w20 fun a23 w22 =>
  st Try.prog 41 a23 (.agg g21) w22 fun w24 =>
  ld Try.prog 41 a23 w24 fun v25 => fG v25 fun g26 =>
  CallE Try.prog 21 #[(.pointer p13), (.agg g26)] w24 fun v27 w28 => fI .i64 v27 fun x29 =>
  ld Try.prog 31 a4 w28 fun v58 => fG v58 fun g59 =>
  ld Try.prog 31 a2 w28 fun v60 => fG v60 fun g61 =>
  rq Try.prog (do eqGuard .neq 31 (.tmp 39) (.tmp 40) (.agg g59) (.agg g61); binOp .neq 31 (.agg g59) (.agg g61)) w28 fun v62 => fB v62 fun b63 =>
  br b63 (ld Try.prog 31 a4 w28 fun v64 => fG v64 fun g65 =>
  CallE Try.prog 22 #[(.pointer p13), (.agg g65)] w28 fun v66 w67 => ∃ (g68 : Array Value) (x69 : Int), v66 = .tuple #[(.agg g68), (.int .i64 x69)] ∧
  al 41 (zeroT Try.prog 41).cells w67 fun a71 w70 =>
  st Try.prog 41 a71 (.agg g68) w70 fun w72 =>
  br ((x69 : Int) != 21) (Q (.bool false) w72) (W.law35_HibernateSaveLoad_k12 a2 p13 a23 x29 w72 Q)) (W.law35_HibernateSaveLoad_k12 a2 p13 a23 x29 w28 Q))))
theorem E.law35_HibernateSaveLoad (board_ : Array Value) (other_ : Array Value) (generation_ : Int) (l_ : Option Addr) (l_n : Nat) (l_c : Nat) (w : World) (Q : Value → World → Prop) : ev Try.prog Try.f4.ntmps callable [] [] (Try.f4.body.getD .skip) (enumE 0 [(.agg board_), (.agg other_), (.int .u64 generation_), (.slice l_ l_n l_c)]) w (KQ Try.prog Try.f4.results.toList Q) = W.law35_HibernateSaveLoad board_ other_ generation_ l_ l_n l_c w Q := by kernel_rfl
theorem C.law35_HibernateSaveLoad (board_ : Array Value) (other_ : Array Value) (generation_ : Int) (l_ : Option Addr) (l_n : Nat) (l_c : Nat) (w : World) (Q : Value → World → Prop) (h : W.law35_HibernateSaveLoad board_ other_ generation_ l_ l_n l_c w Q) : CallE Try.prog 4 #[(.agg board_), (.agg other_), (.int .u64 generation_), (.slice l_ l_n l_c)] w Q :=
  calls_of_ev mixed callable_ok (args := [(.agg board_), (.agg other_), (.int .u64 generation_), (.slice l_ l_n l_c)]) Try.func4 rfl ((E.law35_HibernateSaveLoad board_ other_ generation_ l_ l_n l_c w Q).symm ▸ h)

def W.law35_HibernateRefuses (l_ : Option Addr) (l_n : Nat) (l_c : Nat) (sectors_ : Int) (w : World) (Q : Value → World → Prop) : Prop :=
  CallE Try.prog 18 #[(.slice l_ l_n l_c)] w fun v1 w2 => fB v1 fun b3 =>
  br b3 (CallE Try.prog 14 #[] w2 fun v4 w5 => fB v4 fun b6 =>
  Q (.bool b6) w5) (CallE Try.prog 24 #[(.int .i64 sectors_), (.int .i64 20)] w2 fun v7 w8 => fI .i64 v7 fun x9 =>
  CallE Try.prog 19 #[(.int .i64 (IntKind.wrap .i64 (1 + x9)))] w8 fun v10 w11 => ∃ (p12 : Option Addr) (x13 : Int), v10 = .tuple #[(.pointer p12), (.int .i64 x13)] ∧
  br ((x13 : Int) != 0) (Q (.bool false) w11) (rq Try.prog (do eqGuard .eql 35 (.tmp 30) (.const (.pointer none)) (.pointer p12) (.pointer none); binOp .eql 35 (.pointer p12) (.pointer none)) w11 fun v14 => fB v14 fun b15 =>
  br b15 (Q (.bool false) w11) (CallE Try.prog 20 #[(.agg #[(.int .u8 4), (.int .u8 0), (.int .u8 0), (.int .u8 0), (.int .u8 0), (.int .u8 0), (.int .u8 0), (.int .u8 0), (.int .u8 0), (.int .u8 0), (.int .u8 0), (.int .u8 0), (.int .u8 0), (.int .u8 0), (.int .u8 0), (.int .u8 0), (.int .u8 0), (.int .u8 0), (.int .u8 0), (.int .u8 0), (.int .u8 0), (.int .u8 0), (.int .u8 0), (.int .u8 0), (.int .u8 0), (.int .u8 0), (.int .u8 0), (.int .u8 0), (.int .u8 0), (.int .u8 0), (.int .u8 0), (.int .u8 0)]), (.int .u64 8), (.slice l_ l_n l_c)] w11 fun v16 w17 => fG v16 fun g18 =>
  al 41 (zeroT Try.prog 41).cells w17 fun a20 w19 =>
  st Try.prog 41 a20 (.agg g18) w19 fun w21 =>
  ld Try.prog 41 a20 w21 fun v22 => fG v22 fun g23 =>
  CallE Try.prog 25 #[(.agg g23)] w21 fun v24 w25 => ∃ (l26 : Option Addr) (l26n : Nat) (l26c : Nat) (x27 : Int), v24 = .tuple #[(.slice l26 l26n l26c), (.int .i64 x27)] ∧
  CallE Try.prog 26 #[(.pointer p12)] w25 fun v28 w29 => fS v28 fun l30 l30n l30c =>
  ld Try.prog 41 a20 w29 fun v31 => fG v31 fun g32 =>
  CallE Try.prog 21 #[(.pointer p12), (.agg g32)] w29 fun v33 w34 => fI .i64 v33 fun x35 =>
  br ((x27 : Int) != 0) (Q (.bool false) w34) (br (!(((x35 : Int) == 8) == (decide ((((l26n : Nat) : Int) : Int) > (IntKind.wrap .i64 (1 + x9)))))) (Q (.bool false) w34) (br ((x35 : Int) == 8) (CallE Try.prog 26 #[(.pointer p12)] w34 fun v36 w37 => fS v36 fun l38 l38n l38c =>
  CallE Try.prog 27 #[(.slice l38 l38n l38c), (.slice l30 l30n l30c)] w37 fun v39 w40 => fB v39 fun b41 =>
  br b41 (CallE Try.prog 28 #[(.pointer p12)] w40 fun v42 w43 => fI .i64 v42 fun x44 =>
  br ((x44 : Int) == 0) (CallE Try.prog 14 #[] w43 fun v45 w46 => fB v45 fun b47 =>
  Q (.bool b47) w46) (Q (.bool false) w43)) (Q (.bool false) w40)) (CallE Try.prog 26 #[(.pointer p12)] w34 fun v48 w49 => fS v48 fun l50 l50n l50c =>
  CallE Try.prog 22 #[(.pointer p12), (.agg #[(.int .u8 5), (.int .u8 0), (.int .u8 0), (.int .u8 0), (.int .u8 0), (.int .u8 0), (.int .u8 0), (.int .u8 0), (.int .u8 0), (.int .u8 0), (.int .u8 0), (.int .u8 0), (.int .u8 0), (.int .u8 0), (.int .u8 0), (.int .u8 0), (.int .u8 0), (.int .u8 0), (.int .u8 0), (.int .u8 0), (.int .u8 0), (.int .u8 0), (.int .u8 0), (.int .u8 0), (.int .u8 0), (.int .u8 0), (.int .u8 0), (.int .u8 0), (.int .u8 0), (.int .u8 0), (.int .u8 0), (.int .u8 0)])] w49 fun v51 w52 => ∃ (g53 : Array Value) (x54 : Int), v51 = .tuple #[(.agg g53), (.int .i64 x54)] ∧
  al 41 (zeroT Try.prog 41).cells w52 fun a56 w55 =>
  st Try.prog 41 a56 (.agg g53) w55 fun w57 =>
  br ((x35 : Int) == 0) (br ((x54 : Int) == 21) (CallE Try.prog 26 #[(.pointer p12)] w57 fun v58 w59 => fS v58 fun l60 l60n l60c =>
  CallE Try.prog 27 #[(.slice l60 l60n l60c), (.slice l50 l50n l50c)] w59 fun v61 w62 => fB v61 fun b63 =>
  br b63 (CallE Try.prog 14 #[] w62 fun v64 w65 => fB v64 fun b66 =>
  Q (.bool b66) w65) (Q (.bool false) w62)) (Q (.bool false) w57)) (Q (.bool false) w57)))))))
theorem E.law35_HibernateRefuses (l_ : Option Addr) (l_n : Nat) (l_c : Nat) (sectors_ : Int) (w : World) (Q : Value → World → Prop) : ev Try.prog Try.f5.ntmps callable [] [] (Try.f5.body.getD .skip) (enumE 0 [(.slice l_ l_n l_c), (.int .i64 sectors_)]) w (KQ Try.prog Try.f5.results.toList Q) = W.law35_HibernateRefuses l_ l_n l_c sectors_ w Q := by kernel_rfl
theorem C.law35_HibernateRefuses (l_ : Option Addr) (l_n : Nat) (l_c : Nat) (sectors_ : Int) (w : World) (Q : Value → World → Prop) (h : W.law35_HibernateRefuses l_ l_n l_c sectors_ w Q) : CallE Try.prog 5 #[(.slice l_ l_n l_c), (.int .i64 sectors_)] w Q :=
  calls_of_ev mixed callable_ok (args := [(.slice l_ l_n l_c), (.int .i64 sectors_)]) Try.func5 rfl ((E.law35_HibernateRefuses l_ l_n l_c sectors_ w Q).symm ▸ h)

def W.law35_HibernateFreezerAgrees_k32 (w : World) (Q : Value → World → Prop) : Prop :=
  CallE Try.prog 14 #[] w fun v25 w26 => fB v25 fun b27 =>
  Q (.bool b27) w26
def W.law35_HibernateFreezerAgrees_k25 (p1 : Option Addr) (p1n : Nat) (p1c : Nat) (p9 : Int) (p10 : Option Addr) (p12 : Option Addr) (p14 : Int) (p18 : Int) (p19 : Int) (p20 : Bool) (p21 : Bool) (next30 : (Int × Unit) → World → Prop) (w : World) (Q : Value → World → Prop) : Prop :=
  br ((p18 : Int) != p19) (Q (.bool false) w) (br (!(p20 == p21)) (Q (.bool false) w) (LoopW (S := Int × Unit) (fun s44 w45 next46 =>
  br (decide ((s44.1 : Int) ≤ p9)) (CallE Try.prog 40 #[(.pointer p10), (.int .i64 s44.1)] w45 fun v47 w48 => fB v47 fun b49 =>
  CallE Try.prog 41 #[(.pointer p12), (.int .i64 s44.1)] w48 fun v50 w51 => fB v50 fun b52 =>
  br (!(b49 == b52)) (Q (.bool false) w51) (next46 (((IntKind.wrap .i64 (s44.1 + 1)) : Int), ()) w51)) (next30 (((IntKind.wrap .i64 (p14 + 1)) : Int), ()) w45)) (((-1) : Int), ()) w))
def W.law35_HibernateFreezerAgrees (processes_ : Int) (l_ : Option Addr) (l_n : Nat) (l_c : Nat) (w : World) (Q : Value → World → Prop) : Prop :=
  br (decide ((((l_n : Nat) : Int) : Int) > 50)) (CallE Try.prog 14 #[] w fun v1 w2 => fB v1 fun b3 =>
  Q (.bool b3) w2) (CallE Try.prog 29 #[(.int .i64 processes_)] w fun v4 w5 => ∃ (p6 : Option Addr) (x7 : Int), v4 = .tuple #[(.pointer p6), (.int .i64 x7)] ∧
  CallE Try.prog 30 #[(.int .i64 processes_)] w5 fun v8 w9 => ∃ (p10 : Option Addr) (x11 : Int), v8 = .tuple #[(.pointer p10), (.int .i64 x11)] ∧
  CallE Try.prog 24 #[(.int .i64 processes_), (.int .i64 6)] w9 fun v12 w13 => fI .i64 v12 fun x14 =>
  CallE Try.prog 29 #[(.int .i64 x14)] w13 fun v15 w16 => ∃ (p17 : Option Addr) (x18 : Int), v15 = .tuple #[(.pointer p17), (.int .i64 x18)] ∧
  CallE Try.prog 30 #[(.int .i64 x14)] w16 fun v19 w20 => ∃ (p21 : Option Addr) (x22 : Int), v19 = .tuple #[(.pointer p21), (.int .i64 x22)] ∧
  br ((x7 : Int) != x11) (Q (.bool false) w20) (br ((x18 : Int) != x22) (Q (.bool false) w20) (br ((x18 : Int) != 0) (Q (.bool false) w20) (rq Try.prog (do eqGuard .eql 57 (.tmp 62) (.const (.pointer none)) (.pointer p17) (.pointer none); binOp .eql 57 (.pointer p17) (.pointer none)) w20 fun v23 => fB v23 fun b24 =>
  br b24 (Q (.bool false) w20) (LoopW (S := Int × Unit) (fun s28 w29 next30 =>
  br (decide ((s28.1 : Int) < ((l_n : Nat) : Int))) (drawE fun S31 => S31 (drew w29) ∧ (rqS Try.prog S31 (Instr.indexAt 56 (.slice l_ l_n l_c) (.int .i64 s28.1)) fun v32 => fA v32 fun a33 =>
  ldS Try.prog S31 65 a33 fun v34 => fG v34 fun g35 =>
  nn p21 fun a36 =>
  ldS Try.prog S31 32 (a36.add 3) fun v37 => fI .u64 v37 fun x38 =>
  CallE Try.prog 31 #[(.agg g35), (.int .i64 x14), (.int .u64 x38)] (drew w29) fun v39 w40 => ∃ (x41 : Int) (x42 : Int) (x43 : Int), v39 = .tuple #[(.int .i64 x41), (.int .u64 x42), (.int .u64 x43)] ∧
  S31 w40 ∧ (rq Try.prog (Instr.indexAt 56 (.slice l_ l_n l_c) (.int .i64 s28.1)) w40 fun v53 => fA v53 fun a54 =>
  ld Try.prog 3 (a54.add 0) w40 fun v55 => fI .i64 v55 fun x56 =>
  CallE Try.prog 24 #[(.int .i64 x56), (.int .i64 6)] w40 fun v57 w58 => fI .i64 v57 fun x59 =>
  br ((x59 : Int) == 3) (CallE Try.prog 32 #[(.pointer p17), (.int .u64 x42), (.int .u64 x43)] w58 fun v60 w61 => fI .i64 v60 fun x62 =>
  CallE Try.prog 33 #[(.pointer p21), (.int .u64 x42), (.int .u64 x43)] w61 fun v63 w64 => fI .i64 v63 fun x65 =>
  W.law35_HibernateFreezerAgrees_k25 l_ l_n l_c x14 p17 p21 s28.1 x62 x65 false false next30 w64 Q) (br ((x59 : Int) == 4) (CallE Try.prog 34 #[(.pointer p17), (.int .u64 x42)] w58 fun v66 w67 => ∃ (b68 : Bool) (x69 : Int), v66 = .tuple #[(.bool b68), (.int .i64 x69)] ∧
  CallE Try.prog 35 #[(.pointer p21), (.int .u64 x42)] w67 fun v70 w71 => ∃ (b72 : Bool) (x73 : Int), v70 = .tuple #[(.bool b72), (.int .i64 x73)] ∧
  W.law35_HibernateFreezerAgrees_k25 l_ l_n l_c x14 p17 p21 s28.1 x69 x73 b68 b72 next30 w71 Q) (br ((x59 : Int) == 5) (CallE Try.prog 36 #[(.pointer p17), (.int .u64 x42)] w58 fun v74 w75 => fI .i64 v74 fun x76 =>
  CallE Try.prog 37 #[(.pointer p21), (.int .u64 x42)] w75 fun v77 w78 => fI .i64 v77 fun x79 =>
  W.law35_HibernateFreezerAgrees_k25 l_ l_n l_c x14 p17 p21 s28.1 x76 x79 false false next30 w78 Q) (CallE Try.prog 38 #[(.pointer p17), (.int .i64 x41), (.int .u64 x43), (.int .u64 x42)] w58 fun v80 w81 => fI .i64 v80 fun x82 =>
  CallE Try.prog 39 #[(.pointer p21), (.int .i64 x41), (.int .u64 x43), (.int .u64 x42)] w81 fun v83 w84 => fI .i64 v83 fun x85 =>
  W.law35_HibernateFreezerAgrees_k25 l_ l_n l_c x14 p17 p21 s28.1 x82 x85 false false next30 w84 Q)))))) (W.law35_HibernateFreezerAgrees_k32  w29 Q)) ((0 : Int), ()) w20)))))
theorem E.law35_HibernateFreezerAgrees (processes_ : Int) (l_ : Option Addr) (l_n : Nat) (l_c : Nat) (w : World) (Q : Value → World → Prop) : ev Try.prog Try.f6.ntmps callable [(11, [(14, .int .i64 0)], [1, 9, 10, 12]), (28, [(22, .int .i64 0)], [1, 9, 10, 12, 14])] [] (Try.f6.body.getD .skip) (enumE 0 [(.int .i64 processes_), (.slice l_ l_n l_c)]) w (KQ Try.prog Try.f6.results.toList Q) = W.law35_HibernateFreezerAgrees processes_ l_ l_n l_c w Q := by kernel_rfl
theorem C.law35_HibernateFreezerAgrees (processes_ : Int) (l_ : Option Addr) (l_n : Nat) (l_c : Nat) (w : World) (Q : Value → World → Prop) (h : W.law35_HibernateFreezerAgrees processes_ l_ l_n l_c w Q) : CallE Try.prog 6 #[(.int .i64 processes_), (.slice l_ l_n l_c)] w Q :=
  calls_of_ev mixed callable_ok (args := [(.int .i64 processes_), (.slice l_ l_n l_c)]) Try.func6 rfl ((E.law35_HibernateFreezerAgrees processes_ l_ l_n l_c w Q).symm ▸ h)

def W.law35_HibernateFreezesAllOrNone_k26 (p7 : Option Addr) (p11 : Bool) (w : World) (Q : Value → World → Prop) : Prop :=
  CallE Try.prog 36 #[(.pointer p7), (.int .u64 100)] w fun v13 w14 => fI .i64 v13 fun x15 =>
  br (((x15 : Int) == 0) == p11) (CallE Try.prog 14 #[] w14 fun v16 w17 => fB v16 fun b18 =>
  Q (.bool b18) w17) (Q (.bool false) w14)
def W.law35_HibernateFreezesAllOrNone_k21 (p0 : Option Addr) (p0n : Nat) (p0c : Nat) (p7 : Option Addr) (p11 : Bool) (w : World) (Q : Value → World → Prop) : Prop :=
  LoopW (S := Int × Unit) (fun s19 w20 next21 =>
  br (decide ((s19.1 : Int) < ((p0n : Nat) : Int))) (CallE Try.prog 40 #[(.pointer p7), (.int .i64 s19.1)] w20 fun v22 w23 => fB v22 fun b24 =>
  br (!(b24 == p11)) (Q (.bool false) w23) (next21 (((IntKind.wrap .i64 (s19.1 + 1)) : Int), ()) w23)) (W.law35_HibernateFreezesAllOrNone_k26 p7 p11 w20 Q)) ((0 : Int), ()) w
def W.law35_HibernateFreezesAllOrNone_k19 (p0 : Option Addr) (p0n : Nat) (p0c : Nat) (p7 : Option Addr) (p11 : Bool) (p13 : Int) (p14 : Bool) (w : World) (Q : Value → World → Prop) : Prop :=
  br (!(p14 == p11)) (Q (.bool false) w) (br (!(((p13 : Int) == 0) == p11)) (Q (.bool false) w) (br (!p11) (br ((p13 : Int) != 14) (Q (.bool false) w) (W.law35_HibernateFreezesAllOrNone_k21 p0 p0n p0c p7 p11 w Q)) (W.law35_HibernateFreezesAllOrNone_k21 p0 p0n p0c p7 p11 w Q)))
def W.law35_HibernateFreezesAllOrNone_k15 (p0 : Option Addr) (p0n : Nat) (p0c : Nat) (p7 : Option Addr) (p9 : Int) (p10 : Int) (p11 : Bool) (w : World) (Q : Value → World → Prop) : Prop :=
  CallE Try.prog 32 #[(.pointer p7), (.int .u64 p9), (.int .u64 p10)] w fun v10 w11 => fI .i64 v10 fun x12 =>
  br ((x12 : Int) == 0) (CallE Try.prog 34 #[(.pointer p7), (.int .u64 100)] w11 fun v25 w26 => ∃ (b27 : Bool) (x28 : Int), v25 = .tuple #[(.bool b27), (.int .i64 x28)] ∧
  W.law35_HibernateFreezesAllOrNone_k19 p0 p0n p0c p7 p11 x28 b27 w26 Q) (W.law35_HibernateFreezesAllOrNone_k19 p0 p0n p0c p7 p11 x12 false w11 Q)
def W.law35_HibernateFreezesAllOrNone (ends_ : Option Addr) (ends_n : Nat) (ends_c : Nat) (start_ : Int) (wait_ : Int) (w : World) (Q : Value → World → Prop) : Prop :=
  br (decide ((((ends_n : Nat) : Int) : Int) > 20)) (CallE Try.prog 14 #[] w fun v1 w2 => fB v1 fun b3 =>
  Q (.bool b3) w2) (CallE Try.prog 29 #[(.int .i64 ((ends_n : Nat) : Int))] w fun v4 w5 => ∃ (p6 : Option Addr) (x7 : Int), v4 = .tuple #[(.pointer p6), (.int .i64 x7)] ∧
  br ((x7 : Int) != 0) (Q (.bool false) w5) (rq Try.prog (do eqGuard .eql 57 (.tmp 29) (.const (.pointer none)) (.pointer p6) (.pointer none); binOp .eql 57 (.pointer p6) (.pointer none)) w5 fun v8 => fB v8 fun b9 =>
  br b9 (Q (.bool false) w5) (LoopW (S := Bool × Int × Unit) (fun s29 w30 next31 =>
  br (decide ((s29.2.1 : Int) < ((ends_n : Nat) : Int))) (rq Try.prog (Instr.indexAt 67 (.slice ends_ ends_n ends_c) (.int .i64 s29.2.1)) w30 fun v32 => fA v32 fun a33 =>
  ld Try.prog 32 a33 w30 fun v34 => fI .u64 v34 fun x35 =>
  CallE Try.prog 38 #[(.pointer p6), (.int .i64 s29.2.1), (.int .u64 (Int.tmod x35 60)), (.int .u64 0)] w30 fun v36 w37 => fI .i64 v36 fun x38 =>
  br ((x38 : Int) != 0) (Q (.bool false) w37) (br s29.1 (rq Try.prog (Instr.indexAt 67 (.slice ends_ ends_n ends_c) (.int .i64 s29.2.1)) w37 fun v39 => fA v39 fun a40 =>
  ld Try.prog 32 a40 w37 fun v41 => fI .u64 v41 fun x42 =>
  next31 ((decide (((Int.tmod x42 60) : Int) ≤ (IntKind.wrap .u64 ((Int.tmod start_ 30) + (Int.tmod wait_ 30))))), ((IntKind.wrap .i64 (s29.2.1 + 1)) : Int), ()) w37) (next31 (false, ((IntKind.wrap .i64 (s29.2.1 + 1)) : Int), ()) w37))) (W.law35_HibernateFreezesAllOrNone_k15 ends_ ends_n ends_c p6 (Int.tmod start_ 30) (IntKind.wrap .u64 ((Int.tmod start_ 30) + (Int.tmod wait_ 30))) s29.1 w30 Q)) (true, (0 : Int), ()) w5)))
theorem E.law35_HibernateFreezesAllOrNone (ends_ : Option Addr) (ends_n : Nat) (ends_c : Nat) (start_ : Int) (wait_ : Int) (w : World) (Q : Value → World → Prop) : ev Try.prog Try.f7.ntmps callable [(22, [(15, .int .i64 0)], [0, 7, 11]), (10, [(11, .bool false), (12, .int .i64 0)], [0, 7, 9, 10])] [] (Try.f7.body.getD .skip) (enumE 0 [(.slice ends_ ends_n ends_c), (.int .u64 start_), (.int .u64 wait_)]) w (KQ Try.prog Try.f7.results.toList Q) = W.law35_HibernateFreezesAllOrNone ends_ ends_n ends_c start_ wait_ w Q := by kernel_rfl
theorem C.law35_HibernateFreezesAllOrNone (ends_ : Option Addr) (ends_n : Nat) (ends_c : Nat) (start_ : Int) (wait_ : Int) (w : World) (Q : Value → World → Prop) (h : W.law35_HibernateFreezesAllOrNone ends_ ends_n ends_c start_ wait_ w Q) : CallE Try.prog 7 #[(.slice ends_ ends_n ends_c), (.int .u64 start_), (.int .u64 wait_)] w Q :=
  calls_of_ev mixed callable_ok (args := [(.slice ends_ ends_n ends_c), (.int .u64 start_), (.int .u64 wait_)]) Try.func7 rfl ((E.law35_HibernateFreezesAllOrNone ends_ ends_n ends_c start_ wait_ w Q).symm ▸ h)

def W.law35_HibernateRestoresMemory_k51 (w : World) (Q : Value → World → Prop) : Prop :=
  CallE Try.prog 14 #[] w fun v43 w44 => fB v43 fun b45 =>
  Q (.bool b45) w44
def W.law35_HibernateRestoresMemory_k46 (p9 : Option Addr) (p9n : Nat) (p9c : Nat) (p10 : Option Addr) (p10n : Nat) (p10c : Nat) (p20 : Option Addr) (p20n : Nat) (p20c : Nat) (w : World) (Q : Value → World → Prop) : Prop :=
  LoopW (S := Int × Unit) (fun s46 w47 next48 =>
  br (decide ((s46.1 : Int) < ((p9n : Nat) : Int))) (dr w47 fun w49 =>
  rq Try.prog (Instr.indexAt 22 (.slice p10 p10n p10c) (.int .i64 s46.1)) w49 fun v50 => fA v50 fun a51 =>
  ld Try.prog 4 (a51.add 0) w49 fun v52 => fB v52 fun b53 =>
  br b53 (rq Try.prog (Instr.indexAt 22 (.slice p10 p10n p10c) (.int .i64 s46.1)) w49 fun v54 => fA v54 fun a55 =>
  ld Try.prog 4 (a55.add 1) w49 fun v56 => fB v56 fun b57 =>
  br (!b57) (rq Try.prog (Instr.indexAt 49 (.slice p20 p20n p20c) (.int .i64 s46.1)) w49 fun v58 => fA v58 fun a59 =>
  ld Try.prog 9 a59 w49 fun v60 => fT v60 fun t61 =>
  rq Try.prog (Instr.indexAt 49 (.slice p9 p9n p9c) (.int .i64 s46.1)) w49 fun v62 => fA v62 fun a63 =>
  ld Try.prog 9 a63 w49 fun v64 => fT v64 fun t65 =>
  rq Try.prog (do eqGuard .neq 9 (.tmp 247) (.tmp 251) (.string t61) (.string t65); binOp .neq 9 (.string t61) (.string t65)) w49 fun v66 => fB v66 fun b67 =>
  br b67 (Q (.bool false) w49) (next48 (((IntKind.wrap .i64 (s46.1 + 1)) : Int), ()) w49)) (next48 (((IntKind.wrap .i64 (s46.1 + 1)) : Int), ()) w49)) (next48 (((IntKind.wrap .i64 (s46.1 + 1)) : Int), ()) w49)) (W.law35_HibernateRestoresMemory_k51  w47 Q)) ((0 : Int), ()) w
def W.law35_HibernateRestoresMemory_k40 (p9 : Option Addr) (p9n : Nat) (p9c : Nat) (p10 : Option Addr) (p10n : Nat) (p10c : Nat) (p18 : Addr) (p20 : Option Addr) (p20n : Nat) (p20c : Nat) (w : World) (Q : Value → World → Prop) : Prop :=
  LoopW (S := Int × Unit) (fun s68 w69 next70 =>
  ld Try.prog 39 (p18.add 33) w69 fun v71 => fS v71 fun l72 l72n l72c =>
  br (decide ((s68.1 : Int) < ((l72n : Nat) : Int))) (ld Try.prog 39 (p18.add 33) w69 fun v73 => fS v73 fun l74 l74n l74c =>
  rq Try.prog (Instr.indexAt 39 (.slice l74 l74n l74c) (.int .i64 s68.1)) w69 fun v75 => fA v75 fun a76 =>
  ld Try.prog 3 (a76.add 0) w69 fun v77 => fI .i64 v77 fun x78 =>
  br (decide ((x78 : Int) < 0)) (Q (.bool false) w69) (ld Try.prog 39 (p18.add 33) w69 fun v79 => fS v79 fun l80 l80n l80c =>
  rq Try.prog (Instr.indexAt 39 (.slice l80 l80n l80c) (.int .i64 s68.1)) w69 fun v81 => fA v81 fun a82 =>
  ld Try.prog 3 (a82.add 0) w69 fun v83 => fI .i64 v83 fun x84 =>
  br (decide ((x84 : Int) ≥ ((p20n : Nat) : Int))) (Q (.bool false) w69) (dr w69 fun w85 =>
  ld Try.prog 39 (p18.add 33) w85 fun v86 => fS v86 fun l87 l87n l87c =>
  rq Try.prog (Instr.indexAt 39 (.slice l87 l87n l87c) (.int .i64 s68.1)) w85 fun v88 => fA v88 fun a89 =>
  ld Try.prog 3 (a89.add 0) w85 fun v90 => fI .i64 v90 fun x91 =>
  ld Try.prog 39 (p18.add 33) w85 fun v92 => fS v92 fun l93 l93n l93c =>
  rq Try.prog (Instr.indexAt 39 (.slice l93 l93n l93c) (.int .i64 s68.1)) w85 fun v94 => fA v94 fun a95 =>
  ld Try.prog 9 (a95.add 1) w85 fun v96 => fT v96 fun t97 =>
  rq Try.prog (Instr.indexAt 49 (.slice p20 p20n p20c) (.int .i64 x91)) w85 fun v98 => fA v98 fun a99 =>
  st Try.prog 9 a99 (.string t97) w85 fun w100 =>
  next70 (((IntKind.wrap .i64 (s68.1 + 1)) : Int), ()) w100))) (W.law35_HibernateRestoresMemory_k46 p9 p9n p9c p10 p10n p10c p20 p20n p20c w69 Q)) ((0 : Int), ()) w
def W.law35_HibernateRestoresMemory_k30 (p8 : ByteArray) (p9 : Option Addr) (p9n : Nat) (p9c : Nat) (p10 : Option Addr) (p10n : Nat) (p10c : Nat) (p13 : Option Addr) (p15 : Addr) (w : World) (Q : Value → World → Prop) : Prop :=
  ld Try.prog 41 p15 w fun v22 => fG v22 fun g23 =>
  CallE Try.prog 21 #[(.pointer p13), (.agg g23)] w fun v24 w25 => fI .i64 v24 fun x26 =>
  br ((x26 : Int) != 0) (Q (.bool false) w25) (CallE Try.prog 43 #[(.pointer p13), (.slice none 0 0)] w25 fun v27 w28 => fI .i64 v27 fun x29 =>
  br ((x29 : Int) != 0) (Q (.bool false) w28) (CallE Try.prog 44 #[(.pointer p13)] w28 fun v30 w31 => fI .i64 v30 fun x32 =>
  br ((x32 : Int) != 0) (Q (.bool false) w31) (CallE Try.prog 22 #[(.pointer p13), (.agg #[(.int .u8 0), (.int .u8 0), (.int .u8 0), (.int .u8 0), (.int .u8 0), (.int .u8 0), (.int .u8 0), (.int .u8 0), (.int .u8 0), (.int .u8 0), (.int .u8 0), (.int .u8 0), (.int .u8 0), (.int .u8 0), (.int .u8 0), (.int .u8 0), (.int .u8 0), (.int .u8 0), (.int .u8 0), (.int .u8 0), (.int .u8 0), (.int .u8 0), (.int .u8 0), (.int .u8 0), (.int .u8 0), (.int .u8 0), (.int .u8 0), (.int .u8 0), (.int .u8 0), (.int .u8 0), (.int .u8 0), (.int .u8 0)])] w31 fun v33 w34 => ∃ (g35 : Array Value) (x36 : Int), v33 = .tuple #[(.agg g35), (.int .i64 x36)] ∧
  al 41 (zeroT Try.prog 41).cells w34 fun a38 w37 =>
  st Try.prog 41 a38 (.agg g35) w37 fun w39 =>
  br ((x36 : Int) != 0) (Q (.bool false) w39) (rv Try.prog (Instr.makeSlice 49 (.int .i64 ((p9n : Nat) : Int)) (.int .i64 ((p9n : Nat) : Int))) w39 fun v40 w41 => fS v40 fun l42 l42n l42c =>
  LoopW (S := Int × Unit) (fun s101 w102 next103 =>
  br (decide ((s101.1 : Int) < ((l42n : Nat) : Int))) (rq Try.prog (Instr.indexAt 49 (.slice l42 l42n l42c) (.int .i64 s101.1)) w102 fun v104 => fA v104 fun a105 =>
  st Try.prog 9 a105 (.string p8) w102 fun w106 =>
  next103 (((IntKind.wrap .i64 (s101.1 + 1)) : Int), ()) w106) (W.law35_HibernateRestoresMemory_k40 p9 p9n p9c p10 p10n p10c a38 l42 l42n l42c w102 Q)) ((0 : Int), ()) w41))))
def W.law35_HibernateRestoresMemory_k19 (p8 : ByteArray) (p9 : Option Addr) (p9n : Nat) (p9c : Nat) (p10 : Option Addr) (p10n : Nat) (p10c : Nat) (w : World) (Q : Value → World → Prop) : Prop :=
  CallE Try.prog 19 #[(.int .i64 60)] w fun v10 w11 => ∃ (p12 : Option Addr) (x13 : Int), v10 = .tuple #[(.pointer p12), (.int .i64 x13)] ∧
  br ((x13 : Int) != 0) (Q (.bool false) w11) (rq Try.prog (do eqGuard .eql 35 (.tmp 107) (.const (.pointer none)) (.pointer p12) (.pointer none); binOp .eql 35 (.pointer p12) (.pointer none)) w11 fun v14 => fB v14 fun b15 =>
  br b15 (Q (.bool false) w11) (al 41 (zeroT Try.prog 41).cells w11 fun a17 w16 =>
  st Try.prog 41 a17 (.agg #[(.int .u8 0), (.int .u8 0), (.int .u8 0), (.int .u8 0), (.int .u8 0), (.int .u8 0), (.int .u8 0), (.int .u8 0), (.int .u8 0), (.int .u8 0), (.int .u8 0), (.int .u8 0), (.int .u8 0), (.int .u8 0), (.int .u8 0), (.int .u8 0), (.int .u8 0), (.int .u8 0), (.int .u8 0), (.int .u8 0), (.int .u8 0), (.int .u8 0), (.int .u8 0), (.int .u8 0), (.int .u8 0), (.int .u8 0), (.int .u8 0), (.int .u8 0), (.int .u8 0), (.int .u8 0), (.int .u8 0), (.int .u8 0), (.int .u64 1), (.slice none 0 0)]) w16 fun w18 =>
  CallE Try.prog 15 #[(.slice p10 p10n p10c)] w18 fun v19 w20 => fS v19 fun l21 l21n l21c =>
  LoopW (S := Int × Unit) (fun s107 w108 next109 =>
  br (decide ((s107.1 : Int) < ((l21n : Nat) : Int))) (rq Try.prog (Instr.indexAt 24 (.slice l21 l21n l21c) (.int .i64 s107.1)) w108 fun v110 => fA v110 fun a111 =>
  ld Try.prog 3 a111 w108 fun v112 => fI .i64 v112 fun x113 =>
  br (decide ((x113 : Int) < 0)) (Q (.bool false) w108) (rq Try.prog (Instr.indexAt 24 (.slice l21 l21n l21c) (.int .i64 s107.1)) w108 fun v114 => fA v114 fun a115 =>
  ld Try.prog 3 a115 w108 fun v116 => fI .i64 v116 fun x117 =>
  br (decide ((x117 : Int) ≥ ((p9n : Nat) : Int))) (Q (.bool false) w108) (drawE fun S118 => S118 (drew w108) ∧ (rqS Try.prog S118 (Instr.indexAt 24 (.slice l21 l21n l21c) (.int .i64 s107.1)) fun v119 => fA v119 fun a120 =>
  rqS Try.prog S118 (Instr.indexAt 24 (.slice l21 l21n l21c) (.int .i64 s107.1)) fun v121 => fA v121 fun a122 =>
  (ld Try.prog 39 (a17.add 33) (drew w108) fun v123 => fS v123 fun l124 l124n l124c =>
  S118 (drew w108) ∧ ((ld Try.prog 3 a120 (drew w108) fun v125 => fI .i64 v125 fun x126 =>
  S118 (drew w108) ∧ (ld Try.prog 3 a122 (drew w108) fun v127 => fI .i64 v127 fun x128 =>
  S118 (drew w108) ∧ (rqS Try.prog S118 (Instr.indexAt 49 (.slice p9 p9n p9c) (.int .i64 x128)) fun v129 => fA v129 fun a130 =>
  ld Try.prog 9 a130 (drew w108) fun v131 => fT v131 fun t132 =>
  S118 (drew w108) ∧ (al 85 #[(.int .i64 x126), (.string t132)] (drew w108) fun a134 w133 =>
  S118 w133 ∧ (rv Try.prog (Builtin.append_ #[39, 39] 39 #[(.slice l124 l124n l124c), (.slice (some a134) 1 1)]) w133 fun v135 w136 => fS v135 fun l137 l137n l137c =>
  S118 w136 ∧ (st Try.prog 39 (a17.add 33) (.slice l137 l137n l137c) w136 fun w138 =>
  S118 w138 ∧ (next109 (((IntKind.wrap .i64 (s107.1 + 1)) : Int), ()) w138))))))) ∧ (ld Try.prog 3 a122 (drew w108) fun v139 => fI .i64 v139 fun x140 =>
  S118 (drew w108) ∧ (rqS Try.prog S118 (Instr.indexAt 49 (.slice p9 p9n p9c) (.int .i64 x140)) fun v141 => fA v141 fun a142 =>
  (ld Try.prog 3 a120 (drew w108) fun v143 => fI .i64 v143 fun x144 =>
  S118 (drew w108) ∧ (ld Try.prog 9 a142 (drew w108) fun v145 => fT v145 fun t146 =>
  S118 (drew w108) ∧ (al 85 #[(.int .i64 x144), (.string t146)] (drew w108) fun a148 w147 =>
  S118 w147 ∧ (rv Try.prog (Builtin.append_ #[39, 39] 39 #[(.slice l124 l124n l124c), (.slice (some a148) 1 1)]) w147 fun v149 w150 => fS v149 fun l151 l151n l151c =>
  S118 w150 ∧ (st Try.prog 39 (a17.add 33) (.slice l151 l151n l151c) w150 fun w152 =>
  S118 w152 ∧ (next109 (((IntKind.wrap .i64 (s107.1 + 1)) : Int), ()) w152)))))) ∧ (ld Try.prog 9 a142 (drew w108) fun v153 => fT v153 fun t154 =>
  S118 (drew w108) ∧ (ld Try.prog 3 a120 (drew w108) fun v155 => fI .i64 v155 fun x156 =>
  S118 (drew w108) ∧ (al 85 #[(.int .i64 x156), (.string t154)] (drew w108) fun a158 w157 =>
  S118 w157 ∧ (rv Try.prog (Builtin.append_ #[39, 39] 39 #[(.slice l124 l124n l124c), (.slice (some a158) 1 1)]) w157 fun v159 w160 => fS v159 fun l161 l161n l161c =>
  S118 w160 ∧ (st Try.prog 39 (a17.add 33) (.slice l161 l161n l161c) w160 fun w162 =>
  S118 w162 ∧ (next109 (((IntKind.wrap .i64 (s107.1 + 1)) : Int), ()) w162)))))))))) ∧ (ld Try.prog 3 a120 (drew w108) fun v163 => fI .i64 v163 fun x164 =>
  S118 (drew w108) ∧ ((ld Try.prog 39 (a17.add 33) (drew w108) fun v165 => fS v165 fun l166 l166n l166c =>
  S118 (drew w108) ∧ (ld Try.prog 3 a122 (drew w108) fun v167 => fI .i64 v167 fun x168 =>
  S118 (drew w108) ∧ (rqS Try.prog S118 (Instr.indexAt 49 (.slice p9 p9n p9c) (.int .i64 x168)) fun v169 => fA v169 fun a170 =>
  ld Try.prog 9 a170 (drew w108) fun v171 => fT v171 fun t172 =>
  S118 (drew w108) ∧ (al 85 #[(.int .i64 x164), (.string t172)] (drew w108) fun a174 w173 =>
  S118 w173 ∧ (rv Try.prog (Builtin.append_ #[39, 39] 39 #[(.slice l166 l166n l166c), (.slice (some a174) 1 1)]) w173 fun v175 w176 => fS v175 fun l177 l177n l177c =>
  S118 w176 ∧ (st Try.prog 39 (a17.add 33) (.slice l177 l177n l177c) w176 fun w178 =>
  S118 w178 ∧ (next109 (((IntKind.wrap .i64 (s107.1 + 1)) : Int), ()) w178))))))) ∧ (ld Try.prog 3 a122 (drew w108) fun v179 => fI .i64 v179 fun x180 =>
  S118 (drew w108) ∧ (rqS Try.prog S118 (Instr.indexAt 49 (.slice p9 p9n p9c) (.int .i64 x180)) fun v181 => fA v181 fun a182 =>
  (ld Try.prog 39 (a17.add 33) (drew w108) fun v183 => fS v183 fun l184 l184n l184c =>
  S118 (drew w108) ∧ (ld Try.prog 9 a182 (drew w108) fun v185 => fT v185 fun t186 =>
  S118 (drew w108) ∧ (al 85 #[(.int .i64 x164), (.string t186)] (drew w108) fun a188 w187 =>
  S118 w187 ∧ (rv Try.prog (Builtin.append_ #[39, 39] 39 #[(.slice l184 l184n l184c), (.slice (some a188) 1 1)]) w187 fun v189 w190 => fS v189 fun l191 l191n l191c =>
  S118 w190 ∧ (st Try.prog 39 (a17.add 33) (.slice l191 l191n l191c) w190 fun w192 =>
  S118 w192 ∧ (next109 (((IntKind.wrap .i64 (s107.1 + 1)) : Int), ()) w192)))))) ∧ (ld Try.prog 9 a182 (drew w108) fun v193 => fT v193 fun t194 =>
  S118 (drew w108) ∧ ((ld Try.prog 39 (a17.add 33) (drew w108) fun v195 => fS v195 fun l196 l196n l196c =>
  S118 (drew w108) ∧ (al 85 #[(.int .i64 x164), (.string t194)] (drew w108) fun a198 w197 =>
  S118 w197 ∧ (rv Try.prog (Builtin.append_ #[39, 39] 39 #[(.slice l196 l196n l196c), (.slice (some a198) 1 1)]) w197 fun v199 w200 => fS v199 fun l201 l201n l201c =>
  S118 w200 ∧ (st Try.prog 39 (a17.add 33) (.slice l201 l201n l201c) w200 fun w202 =>
  S118 w202 ∧ (next109 (((IntKind.wrap .i64 (s107.1 + 1)) : Int), ()) w202))))) ∧ (al 85 #[(.int .i64 x164), (.string t194)] (drew w108) fun a204 w203 =>
  S118 w203 ∧ (ld Try.prog 39 (a17.add 33) w203 fun v205 => fS v205 fun l206 l206n l206c =>
  S118 w203 ∧ (rv Try.prog (Builtin.append_ #[39, 39] 39 #[(.slice l206 l206n l206c), (.slice (some a204) 1 1)]) w203 fun v207 w208 => fS v207 fun l209 l209n l209c =>
  S118 w208 ∧ (st Try.prog 39 (a17.add 33) (.slice l209 l209n l209c) w208 fun w210 =>
  S118 w210 ∧ (next109 (((IntKind.wrap .i64 (s107.1 + 1)) : Int), ()) w210))))))))))) ∧ (ld Try.prog 3 a122 (drew w108) fun v211 => fI .i64 v211 fun x212 =>
  S118 (drew w108) ∧ (rqS Try.prog S118 (Instr.indexAt 49 (.slice p9 p9n p9c) (.int .i64 x212)) fun v213 => fA v213 fun a214 =>
  (ld Try.prog 39 (a17.add 33) (drew w108) fun v215 => fS v215 fun l216 l216n l216c =>
  S118 (drew w108) ∧ ((ld Try.prog 3 a120 (drew w108) fun v217 => fI .i64 v217 fun x218 =>
  S118 (drew w108) ∧ (ld Try.prog 9 a214 (drew w108) fun v219 => fT v219 fun t220 =>
  S118 (drew w108) ∧ (al 85 #[(.int .i64 x218), (.string t220)] (drew w108) fun a222 w221 =>
  S118 w221 ∧ (rv Try.prog (Builtin.append_ #[39, 39] 39 #[(.slice l216 l216n l216c), (.slice (some a222) 1 1)]) w221 fun v223 w224 => fS v223 fun l225 l225n l225c =>
  S118 w224 ∧ (st Try.prog 39 (a17.add 33) (.slice l225 l225n l225c) w224 fun w226 =>
  S118 w226 ∧ (next109 (((IntKind.wrap .i64 (s107.1 + 1)) : Int), ()) w226)))))) ∧ (ld Try.prog 9 a214 (drew w108) fun v227 => fT v227 fun t228 =>
  S118 (drew w108) ∧ (ld Try.prog 3 a120 (drew w108) fun v229 => fI .i64 v229 fun x230 =>
  S118 (drew w108) ∧ (al 85 #[(.int .i64 x230), (.string t228)] (drew w108) fun a232 w231 =>
  S118 w231 ∧ (rv Try.prog (Builtin.append_ #[39, 39] 39 #[(.slice l216 l216n l216c), (.slice (some a232) 1 1)]) w231 fun v233 w234 => fS v233 fun l235 l235n l235c =>
  S118 w234 ∧ (st Try.prog 39 (a17.add 33) (.slice l235 l235n l235c) w234 fun w236 =>
  S118 w236 ∧ (next109 (((IntKind.wrap .i64 (s107.1 + 1)) : Int), ()) w236)))))))) ∧ (ld Try.prog 3 a120 (drew w108) fun v237 => fI .i64 v237 fun x238 =>
  S118 (drew w108) ∧ ((ld Try.prog 39 (a17.add 33) (drew w108) fun v239 => fS v239 fun l240 l240n l240c =>
  S118 (drew w108) ∧ (ld Try.prog 9 a214 (drew w108) fun v241 => fT v241 fun t242 =>
  S118 (drew w108) ∧ (al 85 #[(.int .i64 x238), (.string t242)] (drew w108) fun a244 w243 =>
  S118 w243 ∧ (rv Try.prog (Builtin.append_ #[39, 39] 39 #[(.slice l240 l240n l240c), (.slice (some a244) 1 1)]) w243 fun v245 w246 => fS v245 fun l247 l247n l247c =>
  S118 w246 ∧ (st Try.prog 39 (a17.add 33) (.slice l247 l247n l247c) w246 fun w248 =>
  S118 w248 ∧ (next109 (((IntKind.wrap .i64 (s107.1 + 1)) : Int), ()) w248)))))) ∧ (ld Try.prog 9 a214 (drew w108) fun v249 => fT v249 fun t250 =>
  S118 (drew w108) ∧ ((ld Try.prog 39 (a17.add 33) (drew w108) fun v251 => fS v251 fun l252 l252n l252c =>
  S118 (drew w108) ∧ (al 85 #[(.int .i64 x238), (.string t250)] (drew w108) fun a254 w253 =>
  S118 w253 ∧ (rv Try.prog (Builtin.append_ #[39, 39] 39 #[(.slice l252 l252n l252c), (.slice (some a254) 1 1)]) w253 fun v255 w256 => fS v255 fun l257 l257n l257c =>
  S118 w256 ∧ (st Try.prog 39 (a17.add 33) (.slice l257 l257n l257c) w256 fun w258 =>
  S118 w258 ∧ (next109 (((IntKind.wrap .i64 (s107.1 + 1)) : Int), ()) w258))))) ∧ (al 85 #[(.int .i64 x238), (.string t250)] (drew w108) fun a260 w259 =>
  S118 w259 ∧ (ld Try.prog 39 (a17.add 33) w259 fun v261 => fS v261 fun l262 l262n l262c =>
  S118 w259 ∧ (rv Try.prog (Builtin.append_ #[39, 39] 39 #[(.slice l262 l262n l262c), (.slice (some a260) 1 1)]) w259 fun v263 w264 => fS v263 fun l265 l265n l265c =>
  S118 w264 ∧ (st Try.prog 39 (a17.add 33) (.slice l265 l265n l265c) w264 fun w266 =>
  S118 w266 ∧ (next109 (((IntKind.wrap .i64 (s107.1 + 1)) : Int), ()) w266))))))))) ∧ (ld Try.prog 9 a214 (drew w108) fun v267 => fT v267 fun t268 =>
  S118 (drew w108) ∧ ((ld Try.prog 39 (a17.add 33) (drew w108) fun v269 => fS v269 fun l270 l270n l270c =>
  S118 (drew w108) ∧ (ld Try.prog 3 a120 (drew w108) fun v271 => fI .i64 v271 fun x272 =>
  S118 (drew w108) ∧ (al 85 #[(.int .i64 x272), (.string t268)] (drew w108) fun a274 w273 =>
  S118 w273 ∧ (rv Try.prog (Builtin.append_ #[39, 39] 39 #[(.slice l270 l270n l270c), (.slice (some a274) 1 1)]) w273 fun v275 w276 => fS v275 fun l277 l277n l277c =>
  S118 w276 ∧ (st Try.prog 39 (a17.add 33) (.slice l277 l277n l277c) w276 fun w278 =>
  S118 w278 ∧ (next109 (((IntKind.wrap .i64 (s107.1 + 1)) : Int), ()) w278)))))) ∧ (ld Try.prog 3 a120 (drew w108) fun v279 => fI .i64 v279 fun x280 =>
  S118 (drew w108) ∧ ((ld Try.prog 39 (a17.add 33) (drew w108) fun v281 => fS v281 fun l282 l282n l282c =>
  S118 (drew w108) ∧ (al 85 #[(.int .i64 x280), (.string t268)] (drew w108) fun a284 w283 =>
  S118 w283 ∧ (rv Try.prog (Builtin.append_ #[39, 39] 39 #[(.slice l282 l282n l282c), (.slice (some a284) 1 1)]) w283 fun v285 w286 => fS v285 fun l287 l287n l287c =>
  S118 w286 ∧ (st Try.prog 39 (a17.add 33) (.slice l287 l287n l287c) w286 fun w288 =>
  S118 w288 ∧ (next109 (((IntKind.wrap .i64 (s107.1 + 1)) : Int), ()) w288))))) ∧ (al 85 #[(.int .i64 x280), (.string t268)] (drew w108) fun a290 w289 =>
  S118 w289 ∧ (ld Try.prog 39 (a17.add 33) w289 fun v291 => fS v291 fun l292 l292n l292c =>
  S118 w289 ∧ (rv Try.prog (Builtin.append_ #[39, 39] 39 #[(.slice l292 l292n l292c), (.slice (some a290) 1 1)]) w289 fun v293 w294 => fS v293 fun l295 l295n l295c =>
  S118 w294 ∧ (st Try.prog 39 (a17.add 33) (.slice l295 l295n l295c) w294 fun w296 =>
  S118 w296 ∧ (next109 (((IntKind.wrap .i64 (s107.1 + 1)) : Int), ()) w296))))))))))))))) (W.law35_HibernateRestoresMemory_k30 p8 p9 p9n p9c p10 p10n p10c p12 a17 w108 Q)) ((0 : Int), ()) w20))
def W.law35_HibernateRestoresMemory_k17 (p0 : Option Addr) (p0n : Nat) (p0c : Nat) (p1 : Option Addr) (p1n : Nat) (p1c : Nat) (p2 : Option Addr) (p2n : Nat) (p2c : Nat) (p8 : ByteArray) (p9 : Option Addr) (p9n : Nat) (p9c : Nat) (p10 : Option Addr) (p10n : Nat) (p10c : Nat) (p11 : Int) (p12 : ByteArray) (next299 : ((Option Addr × Nat × Nat) × (Option Addr × Nat × Nat) × Int × Unit) → World → Prop) (w : World) (Q : Value → World → Prop) : Prop :=
  al 9 #[(.string p12)] w fun a313 w312 =>
  rv Try.prog (Builtin.append_ #[49, 49] 49 #[(.slice p9 p9n p9c), (.slice (some a313) 1 1)]) w312 fun v314 w315 => fS v314 fun l316 l316n l316c =>
  drawE fun S317 => S317 (drew w315) ∧ (br (decide ((p11 : Int) ≥ ((p1n : Nat) : Int))) (br (decide ((p11 : Int) < ((p2n : Nat) : Int))) (rqS Try.prog S317 (Instr.indexAt 78 (.slice p2 p2n p2c) (.int .i64 p11)) fun v318 => fA v318 fun a319 =>
  ldS Try.prog S317 4 a319 fun v320 => fB v320 fun b321 =>
  rqS Try.prog S317 (do eqGuard .eql 9 (.tmp 94) (.tmp 95) (.string p12) (.string p8); binOp .eql 9 (.string p12) (.string p8)) fun v322 => fB v322 fun b323 =>
  al 27 #[(.bool true), (.bool b321), (.bool b323)] (drew w315) fun a325 w324 =>
  S317 w324 ∧ (rv Try.prog (Builtin.append_ #[22, 22] 22 #[(.slice p10 p10n p10c), (.slice (some a325) 1 1)]) w324 fun v326 w327 => fS v326 fun l328 l328n l328c =>
  S317 w327 ∧ (next299 ((l316, l316n, l316c), (l328, l328n, l328c), ((IntKind.wrap .i64 (p11 + 1)) : Int), ()) w327))) (rqS Try.prog S317 (do eqGuard .eql 9 (.tmp 94) (.tmp 95) (.string p12) (.string p8); binOp .eql 9 (.string p12) (.string p8)) fun v329 => fB v329 fun b330 =>
  al 27 #[(.bool true), (.bool false), (.bool b330)] (drew w315) fun a332 w331 =>
  S317 w331 ∧ (rv Try.prog (Builtin.append_ #[22, 22] 22 #[(.slice p10 p10n p10c), (.slice (some a332) 1 1)]) w331 fun v333 w334 => fS v333 fun l335 l335n l335c =>
  S317 w334 ∧ (next299 ((l316, l316n, l316c), (l335, l335n, l335c), ((IntKind.wrap .i64 (p11 + 1)) : Int), ()) w334)))) (rqS Try.prog S317 (Instr.indexAt 78 (.slice p1 p1n p1c) (.int .i64 p11)) fun v336 => fA v336 fun a337 =>
  ldS Try.prog S317 4 a337 fun v338 => fB v338 fun b339 =>
  br (decide ((p11 : Int) < ((p2n : Nat) : Int))) (rqS Try.prog S317 (Instr.indexAt 78 (.slice p2 p2n p2c) (.int .i64 p11)) fun v340 => fA v340 fun a341 =>
  ldS Try.prog S317 4 a341 fun v342 => fB v342 fun b343 =>
  rqS Try.prog S317 (do eqGuard .eql 9 (.tmp 94) (.tmp 95) (.string p12) (.string p8); binOp .eql 9 (.string p12) (.string p8)) fun v344 => fB v344 fun b345 =>
  al 27 #[(.bool b339), (.bool b343), (.bool b345)] (drew w315) fun a347 w346 =>
  S317 w346 ∧ (rv Try.prog (Builtin.append_ #[22, 22] 22 #[(.slice p10 p10n p10c), (.slice (some a347) 1 1)]) w346 fun v348 w349 => fS v348 fun l350 l350n l350c =>
  S317 w349 ∧ (next299 ((l316, l316n, l316c), (l350, l350n, l350c), ((IntKind.wrap .i64 (p11 + 1)) : Int), ()) w349))) (rqS Try.prog S317 (do eqGuard .eql 9 (.tmp 94) (.tmp 95) (.string p12) (.string p8); binOp .eql 9 (.string p12) (.string p8)) fun v351 => fB v351 fun b352 =>
  al 27 #[(.bool b339), (.bool false), (.bool b352)] (drew w315) fun a354 w353 =>
  S317 w353 ∧ (rv Try.prog (Builtin.append_ #[22, 22] 22 #[(.slice p10 p10n p10c), (.slice (some a354) 1 1)]) w353 fun v355 w356 => fS v355 fun l357 l357n l357c =>
  S317 w356 ∧ (next299 ((l316, l316n, l316c), (l357, l357n, l357c), ((IntKind.wrap .i64 (p11 + 1)) : Int), ()) w356)))))
def W.law35_HibernateRestoresMemory_k6 (p0 : Option Addr) (p0n : Nat) (p0c : Nat) (p1 : Option Addr) (p1n : Nat) (p1c : Nat) (p2 : Option Addr) (p2n : Nat) (p2c : Nat) (w : World) (Q : Value → World → Prop) : Prop :=
  br (decide ((((p0n : Nat) : Int) : Int) > 8)) (CallE Try.prog 14 #[] w fun v1 w2 => fB v1 fun b3 =>
  Q (.bool b3) w2) (rv Try.prog (Instr.makeSlice 82 (.int .i64 256) (.int .i64 256)) w fun v4 w5 => fS v4 fun l6 l6n l6c =>
  rv Try.prog (convert 82 9 (.slice l6 l6n l6c)) w5 fun v7 w8 => fT v7 fun t9 =>
  LoopW (S := (Option Addr × Nat × Nat) × (Option Addr × Nat × Nat) × Int × Unit) (fun s297 w298 next299 =>
  br (decide ((s297.2.2.1 : Int) < ((p0n : Nat) : Int))) (dr w298 fun w300 =>
  rq Try.prog (Instr.indexAt 33 (.slice p0 p0n p0c) (.int .i64 s297.2.2.1)) w300 fun v301 => fA v301 fun a302 =>
  ld Try.prog 79 (a302.add 1) w300 fun v303 => fS v303 fun l304 l304n l304c =>
  rq Try.prog (Instr.indexAt 33 (.slice p0 p0n p0c) (.int .i64 s297.2.2.1)) w300 fun v305 => fA v305 fun a306 =>
  ld Try.prog 5 (a306.add 2) w300 fun v307 => fI .u8 v307 fun x308 =>
  CallE Try.prog 42 #[(.slice l304 l304n l304c), (.int .u8 x308)] w300 fun v309 w310 => fT v309 fun t311 =>
  rq Try.prog (Instr.indexAt 33 (.slice p0 p0n p0c) (.int .i64 s297.2.2.1)) w310 fun v358 => fA v358 fun a359 =>
  ld Try.prog 3 (a359.add 0) w310 fun v360 => fI .i64 v360 fun x361 =>
  br (((Int.tmod x361 4) : Int) == 0) (W.law35_HibernateRestoresMemory_k17 p0 p0n p0c p1 p1n p1c p2 p2n p2c t9 s297.1.1 s297.1.2.1 s297.1.2.2 s297.2.1.1 s297.2.1.2.1 s297.2.1.2.2 s297.2.2.1 t9 next299 w310 Q) (W.law35_HibernateRestoresMemory_k17 p0 p0n p0c p1 p1n p1c p2 p2n p2c t9 s297.1.1 s297.1.2.1 s297.1.2.2 s297.2.1.1 s297.2.1.2.1 s297.2.1.2.2 s297.2.2.1 t311 next299 w310 Q)) (W.law35_HibernateRestoresMemory_k19 t9 s297.1.1 s297.1.2.1 s297.1.2.2 s297.2.1.1 s297.2.1.2.1 s297.2.1.2.2 w298 Q)) ((none, 0, 0), (none, 0, 0), (0 : Int), ()) w8)
def W.law35_HibernateRestoresMemory (l_ : Option Addr) (l_n : Nat) (l_c : Nat) (used_ : Option Addr) (used_n : Nat) (used_c : Nat) (noSave_ : Option Addr) (noSave_n : Nat) (noSave_c : Nat) (w : World) (Q : Value → World → Prop) : Prop :=
  LoopW (S := Int × Unit) (fun s362 w363 next364 =>
  br (decide ((s362.1 : Int) < ((l_n : Nat) : Int))) (rq Try.prog (Instr.indexAt 33 (.slice l_ l_n l_c) (.int .i64 s362.1)) w363 fun v365 => fA v365 fun a366 =>
  ld Try.prog 79 (a366.add 1) w363 fun v367 => fS v367 fun l368 l368n l368c =>
  br (decide ((((l368n : Nat) : Int) : Int) > 64)) (CallE Try.prog 14 #[] w363 fun v369 w370 => fB v369 fun b371 =>
  Q (.bool b371) w370) (next364 (((IntKind.wrap .i64 (s362.1 + 1)) : Int), ()) w363)) (W.law35_HibernateRestoresMemory_k6 l_ l_n l_c used_ used_n used_c noSave_ noSave_n noSave_c w363 Q)) ((0 : Int), ()) w
theorem E.law35_HibernateRestoresMemory (l_ : Option Addr) (l_n : Nat) (l_c : Nat) (used_ : Option Addr) (used_n : Nat) (used_c : Nat) (noSave_ : Option Addr) (noSave_n : Nat) (noSave_c : Nat) (w : World) (Q : Value → World → Prop) : ev Try.prog Try.f8.ntmps callable [(47, [(23, .int .i64 0)], [9, 10, 20]), (41, [(22, .int .i64 0)], [9, 10, 18, 20]), (37, [(21, .int .i64 0)], [8, 9, 10, 18, 20]), (25, [(17, .int .i64 0)], [8, 9, 10, 13, 15, 16]), (1000029, [], [0]), (12, [(9, .slice none 0 0), (10, .slice none 0 0), (11, .int .i64 0)], [0, 1, 2, 8]), (2, [(7, .int .i64 0)], [0, 1, 2])] [] (Try.f8.body.getD .skip) (enumE 0 [(.slice l_ l_n l_c), (.slice used_ used_n used_c), (.slice noSave_ noSave_n noSave_c)]) w (KQ Try.prog Try.f8.results.toList Q) = W.law35_HibernateRestoresMemory l_ l_n l_c used_ used_n used_c noSave_ noSave_n noSave_c w Q := by kernel_rfl
theorem C.law35_HibernateRestoresMemory (l_ : Option Addr) (l_n : Nat) (l_c : Nat) (used_ : Option Addr) (used_n : Nat) (used_c : Nat) (noSave_ : Option Addr) (noSave_n : Nat) (noSave_c : Nat) (w : World) (Q : Value → World → Prop) (h : W.law35_HibernateRestoresMemory l_ l_n l_c used_ used_n used_c noSave_ noSave_n noSave_c w Q) : CallE Try.prog 8 #[(.slice l_ l_n l_c), (.slice used_ used_n used_c), (.slice noSave_ noSave_n noSave_c)] w Q :=
  calls_of_ev mixed callable_ok (args := [(.slice l_ l_n l_c), (.slice used_ used_n used_c), (.slice noSave_ noSave_n noSave_c)]) Try.func8 rfl ((E.law35_HibernateRestoresMemory l_ l_n l_c used_ used_n used_c noSave_ noSave_n noSave_c w Q).symm ▸ h)

def W.law35_HibernateIsInvisible_k31 (p1 : Option Addr) (p1n : Nat) (p1c : Nat) (p9 : Option Addr) (p9n : Nat) (p9c : Nat) (p10 : Option Addr) (p10n : Nat) (p10c : Nat) (p12 : Int) (w : World) (Q : Value → World → Prop) : Prop :=
  rq Try.prog (Instr.sliceAt 89 (.slice p1 p1n p1c) (some (.int .i64 p12)) none none) w fun v44 => fS v44 fun l45 l45n l45c =>
  CallE Try.prog 45 #[(.slice p10 p10n p10c), (.slice l45 l45n l45c)] w fun v46 w47 => v46 = .tuple #[] ∧
  CallE Try.prog 27 #[(.slice p9 p9n p9c), (.slice p10 p10n p10c)] w47 fun v48 w49 => fB v48 fun b50 =>
  br b50 (CallE Try.prog 14 #[] w49 fun v51 w52 => fB v51 fun b53 =>
  Q (.bool b53) w52) (Q (.bool false) w49)
def W.law35_HibernateIsInvisible_k20 (p1 : Option Addr) (p1n : Nat) (p1c : Nat) (p3 : Option Addr) (p3n : Nat) (p3c : Nat) (p9 : Option Addr) (p9n : Nat) (p9c : Nat) (p10 : Option Addr) (p10n : Nat) (p10c : Nat) (p12 : Int) (p13 : Option Addr) (p15 : Addr) (w : World) (Q : Value → World → Prop) : Prop :=
  ld Try.prog 41 p15 w fun v24 => fG v24 fun g25 =>
  CallE Try.prog 21 #[(.pointer p13), (.agg g25)] w fun v26 w27 => fI .i64 v26 fun x28 =>
  br ((x28 : Int) != 0) (Q (.bool false) w27) (CallE Try.prog 43 #[(.pointer p13), (.slice p3 p3n p3c)] w27 fun v29 w30 => fI .i64 v29 fun x31 =>
  br ((x31 : Int) != 0) (Q (.bool false) w30) (CallE Try.prog 44 #[(.pointer p13)] w30 fun v32 w33 => fI .i64 v32 fun x34 =>
  br ((x34 : Int) != 0) (Q (.bool false) w33) (CallE Try.prog 22 #[(.pointer p13), (.agg #[(.int .u8 1), (.int .u8 0), (.int .u8 0), (.int .u8 0), (.int .u8 0), (.int .u8 0), (.int .u8 0), (.int .u8 0), (.int .u8 0), (.int .u8 0), (.int .u8 0), (.int .u8 0), (.int .u8 0), (.int .u8 0), (.int .u8 0), (.int .u8 0), (.int .u8 0), (.int .u8 0), (.int .u8 0), (.int .u8 0), (.int .u8 0), (.int .u8 0), (.int .u8 0), (.int .u8 0), (.int .u8 0), (.int .u8 0), (.int .u8 0), (.int .u8 0), (.int .u8 0), (.int .u8 0), (.int .u8 0), (.int .u8 0)])] w33 fun v35 w36 => ∃ (g37 : Array Value) (x38 : Int), v35 = .tuple #[(.agg g37), (.int .i64 x38)] ∧
  al 41 (zeroT Try.prog 41).cells w36 fun a40 w39 =>
  st Try.prog 41 a40 (.agg g37) w39 fun w41 =>
  br ((x38 : Int) != 0) (Q (.bool false) w41) (ld Try.prog 39 (a40.add 33) w41 fun v42 => fS v42 fun l43 l43n l43c =>
  br ((((l43n : Nat) : Int) : Int) != ((p10n : Nat) : Int)) (Q (.bool false) w41) (LoopW (S := Int × Unit) (fun s54 w55 next56 =>
  br (decide ((s54.1 : Int) < ((p10n : Nat) : Int))) (ld Try.prog 39 (a40.add 33) w55 fun v57 => fS v57 fun l58 l58n l58c =>
  rq Try.prog (Instr.indexAt 39 (.slice l58 l58n l58c) (.int .i64 s54.1)) w55 fun v59 => fA v59 fun a60 =>
  ld Try.prog 3 (a60.add 0) w55 fun v61 => fI .i64 v61 fun x62 =>
  br ((x62 : Int) != s54.1) (Q (.bool false) w55) (ld Try.prog 39 (a40.add 33) w55 fun v63 => fS v63 fun l64 l64n l64c =>
  rq Try.prog (Instr.indexAt 39 (.slice l64 l64n l64c) (.int .i64 s54.1)) w55 fun v65 => fA v65 fun a66 =>
  ld Try.prog 9 (a66.add 1) w55 fun v67 => fT v67 fun t68 =>
  br ((((t68.size : Nat) : Int) : Int) != 256) (Q (.bool false) w55) (ld Try.prog 39 (a40.add 33) w55 fun v69 => fS v69 fun l70 l70n l70c =>
  rq Try.prog (Instr.indexAt 39 (.slice l70 l70n l70c) (.int .i64 s54.1)) w55 fun v71 => fA v71 fun a72 =>
  ld Try.prog 9 (a72.add 1) w55 fun v73 => fT v73 fun t74 =>
  rq Try.prog (Instr.indexAt 49 (.slice p10 p10n p10c) (.int .i64 s54.1)) w55 fun v75 => fA v75 fun a76 =>
  st Try.prog 9 a76 (.string t74) w55 fun w77 =>
  next56 (((IntKind.wrap .i64 (s54.1 + 1)) : Int), ()) w77))) (W.law35_HibernateIsInvisible_k31 p1 p1n p1c p9 p9n p9c p10 p10n p10c p12 w55 Q)) ((0 : Int), ()) w41)))))
def W.law35_HibernateIsInvisible_k9 (p1 : Option Addr) (p1n : Nat) (p1c : Nat) (p2 : Int) (p3 : Option Addr) (p3n : Nat) (p3c : Nat) (p9 : Option Addr) (p9n : Nat) (p9c : Nat) (p10 : Option Addr) (p10n : Nat) (p10c : Nat) (w : World) (Q : Value → World → Prop) : Prop :=
  CallE Try.prog 24 #[(.int .i64 p2), (.int .i64 (IntKind.wrap .i64 (((p1n : Nat) : Int) + 1)))] w fun v4 w5 => fI .i64 v4 fun x6 =>
  CallE Try.prog 45 #[(.slice p9 p9n p9c), (.slice p1 p1n p1c)] w5 fun v7 w8 => v7 = .tuple #[] ∧
  rq Try.prog (Instr.sliceAt 89 (.slice p1 p1n p1c) none (some (.int .i64 x6)) none) w8 fun v9 => fS v9 fun l10 l10n l10c =>
  CallE Try.prog 45 #[(.slice p10 p10n p10c), (.slice l10 l10n l10c)] w8 fun v11 w12 => v11 = .tuple #[] ∧
  CallE Try.prog 19 #[(.int .i64 60)] w12 fun v13 w14 => ∃ (p15 : Option Addr) (x16 : Int), v13 = .tuple #[(.pointer p15), (.int .i64 x16)] ∧
  br ((x16 : Int) != 0) (Q (.bool false) w14) (rq Try.prog (do eqGuard .eql 35 (.tmp 80) (.const (.pointer none)) (.pointer p15) (.pointer none); binOp .eql 35 (.pointer p15) (.pointer none)) w14 fun v17 => fB v17 fun b18 =>
  br b18 (Q (.bool false) w14) (rq Try.prog (Instr.build 41 #[(0, (.agg #[(.int .u8 1), (.int .u8 0), (.int .u8 0), (.int .u8 0), (.int .u8 0), (.int .u8 0), (.int .u8 0), (.int .u8 0), (.int .u8 0), (.int .u8 0), (.int .u8 0), (.int .u8 0), (.int .u8 0), (.int .u8 0), (.int .u8 0), (.int .u8 0), (.int .u8 0), (.int .u8 0), (.int .u8 0), (.int .u8 0), (.int .u8 0), (.int .u8 0), (.int .u8 0), (.int .u8 0), (.int .u8 0), (.int .u8 0), (.int .u8 0), (.int .u8 0), (.int .u8 0), (.int .u8 0), (.int .u8 0), (.int .u8 0)])), (1, (.int .u64 1))]) w14 fun v19 => fG v19 fun g20 =>
  al 41 (zeroT Try.prog 41).cells w14 fun a22 w21 =>
  st Try.prog 41 a22 (.agg g20) w21 fun w23 =>
  LoopW (S := Int × Unit) (fun s78 w79 next80 =>
  br (decide ((s78.1 : Int) < ((p10n : Nat) : Int))) (drawE fun S81 => S81 (drew w79) ∧ (rqS Try.prog S81 (Instr.indexAt 49 (.slice p10 p10n p10c) (.int .i64 s78.1)) fun v82 => fA v82 fun a83 =>
  (ld Try.prog 39 (a22.add 33) (drew w79) fun v84 => fS v84 fun l85 l85n l85c =>
  S81 (drew w79) ∧ (ld Try.prog 9 a83 (drew w79) fun v86 => fT v86 fun t87 =>
  S81 (drew w79) ∧ (al 85 #[(.int .i64 s78.1), (.string t87)] (drew w79) fun a89 w88 =>
  S81 w88 ∧ (rv Try.prog (Builtin.append_ #[39, 39] 39 #[(.slice l85 l85n l85c), (.slice (some a89) 1 1)]) w88 fun v90 w91 => fS v90 fun l92 l92n l92c =>
  S81 w91 ∧ (st Try.prog 39 (a22.add 33) (.slice l92 l92n l92c) w91 fun w93 =>
  S81 w93 ∧ (next80 (((IntKind.wrap .i64 (s78.1 + 1)) : Int), ()) w93)))))) ∧ (ld Try.prog 9 a83 (drew w79) fun v94 => fT v94 fun t95 =>
  S81 (drew w79) ∧ ((ld Try.prog 39 (a22.add 33) (drew w79) fun v96 => fS v96 fun l97 l97n l97c =>
  S81 (drew w79) ∧ (al 85 #[(.int .i64 s78.1), (.string t95)] (drew w79) fun a99 w98 =>
  S81 w98 ∧ (rv Try.prog (Builtin.append_ #[39, 39] 39 #[(.slice l97 l97n l97c), (.slice (some a99) 1 1)]) w98 fun v100 w101 => fS v100 fun l102 l102n l102c =>
  S81 w101 ∧ (st Try.prog 39 (a22.add 33) (.slice l102 l102n l102c) w101 fun w103 =>
  S81 w103 ∧ (next80 (((IntKind.wrap .i64 (s78.1 + 1)) : Int), ()) w103))))) ∧ (al 85 #[(.int .i64 s78.1), (.string t95)] (drew w79) fun a105 w104 =>
  S81 w104 ∧ (ld Try.prog 39 (a22.add 33) w104 fun v106 => fS v106 fun l107 l107n l107c =>
  S81 w104 ∧ (rv Try.prog (Builtin.append_ #[39, 39] 39 #[(.slice l107 l107n l107c), (.slice (some a105) 1 1)]) w104 fun v108 w109 => fS v108 fun l110 l110n l110c =>
  S81 w109 ∧ (st Try.prog 39 (a22.add 33) (.slice l110 l110n l110c) w109 fun w111 =>
  S81 w111 ∧ (next80 (((IntKind.wrap .i64 (s78.1 + 1)) : Int), ()) w111))))))))) (W.law35_HibernateIsInvisible_k20 p1 p1n p1c p3 p3n p3c p9 p9n p9c p10 p10n p10c x6 p15 a22 w79 Q)) ((0 : Int), ()) w23))
def W.law35_HibernateIsInvisible_k2 (p0 : Option Addr) (p0n : Nat) (p0c : Nat) (p1 : Option Addr) (p1n : Nat) (p1c : Nat) (p2 : Int) (p3 : Option Addr) (p3n : Nat) (p3c : Nat) (p31 : Bool) (w : World) (Q : Value → World → Prop) : Prop :=
  br p31 (CallE Try.prog 14 #[] w fun v1 w2 => fB v1 fun b3 =>
  Q (.bool b3) w2) (LoopW (S := (Option Addr × Nat × Nat) × (Option Addr × Nat × Nat) × Int × Unit) (fun s112 w113 next114 =>
  br (decide ((s112.2.2.1 : Int) < ((p0n : Nat) : Int))) (drawE fun S115 => S115 (drew w113) ∧ (rqS Try.prog S115 (Instr.indexAt 33 (.slice p0 p0n p0c) (.int .i64 s112.2.2.1)) fun v116 => fA v116 fun a117 =>
  ldS Try.prog S115 79 (a117.add 1) fun v118 => fS v118 fun l119 l119n l119c =>
  rqS Try.prog S115 (Instr.indexAt 33 (.slice p0 p0n p0c) (.int .i64 s112.2.2.1)) fun v120 => fA v120 fun a121 =>
  ldS Try.prog S115 5 (a121.add 2) fun v122 => fI .u8 v122 fun x123 =>
  CallE Try.prog 42 #[(.slice l119 l119n l119c), (.int .u8 x123)] (drew w113) fun v124 w125 => fT v124 fun t126 =>
  S115 w125 ∧ (al 9 #[(.string t126)] w125 fun a128 w127 =>
  S115 w127 ∧ (rv Try.prog (Builtin.append_ #[49, 49] 49 #[(.slice s112.1.1 s112.1.2.1 s112.1.2.2), (.slice (some a128) 1 1)]) w127 fun v129 w130 => fS v129 fun l131 l131n l131c =>
  S115 w130 ∧ (rq Try.prog (Instr.indexAt 49 (.slice l131 l131n l131c) (.int .i64 s112.2.2.1)) w130 fun v132 => fA v132 fun a133 =>
  ld Try.prog 9 a133 w130 fun v134 => fT v134 fun t135 =>
  al 9 #[(.string t135)] w130 fun a137 w136 =>
  rv Try.prog (Builtin.append_ #[49, 49] 49 #[(.slice s112.2.1.1 s112.2.1.2.1 s112.2.1.2.2), (.slice (some a137) 1 1)]) w136 fun v138 w139 => fS v138 fun l140 l140n l140c =>
  next114 ((l131, l131n, l131c), (l140, l140n, l140c), ((IntKind.wrap .i64 (s112.2.2.1 + 1)) : Int), ()) w139))))) (W.law35_HibernateIsInvisible_k9 p1 p1n p1c p2 p3 p3n p3c s112.1.1 s112.1.2.1 s112.1.2.2 s112.2.1.1 s112.2.1.2.1 s112.2.1.2.2 w113 Q)) ((none, 0, 0), (none, 0, 0), (0 : Int), ()) w)
def W.law35_HibernateIsInvisible (raw_ : Option Addr) (raw_n : Nat) (raw_c : Nat) (l_ : Option Addr) (l_n : Nat) (l_c : Nat) (cut_ : Int) (keep_ : Option Addr) (keep_n : Nat) (keep_c : Nat) (w : World) (Q : Value → World → Prop) : Prop :=
  CallE Try.prog 18 #[(.slice raw_ raw_n raw_c)] w fun v141 w142 => fB v141 fun b143 =>
  br b143 (W.law35_HibernateIsInvisible_k2 raw_ raw_n raw_c l_ l_n l_c cut_ keep_ keep_n keep_c true w142 Q) (br ((((raw_n : Nat) : Int) : Int) == 0) (W.law35_HibernateIsInvisible_k2 raw_ raw_n raw_c l_ l_n l_c cut_ keep_ keep_n keep_c true w142 Q) (W.law35_HibernateIsInvisible_k2 raw_ raw_n raw_c l_ l_n l_c cut_ keep_ keep_n keep_c (decide ((((l_n : Nat) : Int) : Int) > 40)) w142 Q))
theorem E.law35_HibernateIsInvisible (raw_ : Option Addr) (raw_n : Nat) (raw_c : Nat) (l_ : Option Addr) (l_n : Nat) (l_c : Nat) (cut_ : Int) (keep_ : Option Addr) (keep_n : Nat) (keep_c : Nat) (w : World) (Q : Value → World → Prop) : ev Try.prog Try.f9.ntmps callable [(26, [(19, .int .i64 0)], [1, 9, 10, 12, 17]), (17, [(16, .int .i64 0)], [1, 3, 9, 10, 12, 13, 15]), (1000019, [], [0]), (5, [(9, .slice none 0 0), (10, .slice none 0 0), (11, .int .i64 0)], [0, 1, 2, 3])] [] (Try.f9.body.getD .skip) (enumE 0 [(.slice raw_ raw_n raw_c), (.slice l_ l_n l_c), (.int .i64 cut_), (.slice keep_ keep_n keep_c)]) w (KQ Try.prog Try.f9.results.toList Q) = W.law35_HibernateIsInvisible raw_ raw_n raw_c l_ l_n l_c cut_ keep_ keep_n keep_c w Q := by kernel_rfl
theorem C.law35_HibernateIsInvisible (raw_ : Option Addr) (raw_n : Nat) (raw_c : Nat) (l_ : Option Addr) (l_n : Nat) (l_c : Nat) (cut_ : Int) (keep_ : Option Addr) (keep_n : Nat) (keep_c : Nat) (w : World) (Q : Value → World → Prop) (h : W.law35_HibernateIsInvisible raw_ raw_n raw_c l_ l_n l_c cut_ keep_ keep_n keep_c w Q) : CallE Try.prog 9 #[(.slice raw_ raw_n raw_c), (.slice l_ l_n l_c), (.int .i64 cut_), (.slice keep_ keep_n keep_c)] w Q :=
  calls_of_ev mixed callable_ok (args := [(.slice raw_ raw_n raw_c), (.slice l_ l_n l_c), (.int .i64 cut_), (.slice keep_ keep_n keep_c)]) Try.func9 rfl ((E.law35_HibernateIsInvisible raw_ raw_n raw_c l_ l_n l_c cut_ keep_ keep_n keep_c w Q).symm ▸ h)

def W.law35_HibernateSaveIsAtomic_k16 (p2 : Bool) (p11 : Option Addr) (p13 : Addr) (p14 : Addr) (p15 : Int) (w : World) (Q : Value → World → Prop) : Prop :=
  CallE Try.prog 46 #[(.pointer p11), (.int .i64 (-1)), (.slice none 0 0)] w fun v32 w33 => v32 = .tuple #[] ∧
  CallE Try.prog 22 #[(.pointer p11), (.agg #[(.int .u8 9), (.int .u8 0), (.int .u8 0), (.int .u8 0), (.int .u8 0), (.int .u8 0), (.int .u8 0), (.int .u8 0), (.int .u8 0), (.int .u8 0), (.int .u8 0), (.int .u8 0), (.int .u8 0), (.int .u8 0), (.int .u8 0), (.int .u8 0), (.int .u8 0), (.int .u8 0), (.int .u8 0), (.int .u8 0), (.int .u8 0), (.int .u8 0), (.int .u8 0), (.int .u8 0), (.int .u8 0), (.int .u8 0), (.int .u8 0), (.int .u8 0), (.int .u8 0), (.int .u8 0), (.int .u8 0), (.int .u8 0)])] w33 fun v34 w35 => ∃ (g36 : Array Value) (x37 : Int), v34 = .tuple #[(.agg g36), (.int .i64 x37)] ∧
  al 41 (zeroT Try.prog 41).cells w35 fun a39 w38 =>
  st Try.prog 41 a39 (.agg g36) w38 fun w40 =>
  br ((p15 : Int) == 0) (br ((x37 : Int) == 0) (ld Try.prog 41 a39 w40 fun v41 => fG v41 fun g42 =>
  ld Try.prog 41 p14 w40 fun v43 => fG v43 fun g44 =>
  CallE Try.prog 23 #[(.agg g42), (.agg g44)] w40 fun v45 w46 => fB v45 fun b47 =>
  br b47 (CallE Try.prog 14 #[] w46 fun v48 w49 => fB v48 fun b50 =>
  Q (.bool b50) w49) (Q (.bool false) w46)) (Q (.bool false) w40)) (br ((x37 : Int) == 0) (ld Try.prog 41 a39 w40 fun v51 => fG v51 fun g52 =>
  ld Try.prog 41 p14 w40 fun v53 => fG v53 fun g54 =>
  CallE Try.prog 23 #[(.agg g52), (.agg g54)] w40 fun v55 w56 => fB v55 fun b57 =>
  br b57 (CallE Try.prog 14 #[] w56 fun v58 w59 => fB v58 fun b60 =>
  Q (.bool b60) w59) (br p2 (ld Try.prog 41 a39 w56 fun v61 => fG v61 fun g62 =>
  ld Try.prog 41 p13 w56 fun v63 => fG v63 fun g64 =>
  CallE Try.prog 23 #[(.agg g62), (.agg g64)] w56 fun v65 w66 => fB v65 fun b67 =>
  br b67 (CallE Try.prog 14 #[] w66 fun v68 w69 => fB v68 fun b70 =>
  Q (.bool b70) w69) (Q (.bool false) w66)) (Q (.bool false) w56))) (br ((x37 : Int) == 6) (CallE Try.prog 14 #[] w40 fun v71 w72 => fB v71 fun b73 =>
  Q (.bool b73) w72) (Q (.bool false) w40)))
def W.law35_HibernateSaveIsAtomic_k9 (p2 : Bool) (p3 : Int) (p4 : Option Addr) (p4n : Nat) (p4c : Nat) (p11 : Option Addr) (p13 : Addr) (p14 : Addr) (w : World) (Q : Value → World → Prop) : Prop :=
  CallE Try.prog 24 #[(.int .i64 p3), (.int .i64 35)] w fun v22 w23 => fI .i64 v22 fun x24 =>
  CallE Try.prog 46 #[(.pointer p11), (.int .i64 x24), (.slice p4 p4n p4c)] w23 fun v25 w26 => v25 = .tuple #[] ∧
  ld Try.prog 41 p14 w26 fun v27 => fG v27 fun g28 =>
  CallE Try.prog 21 #[(.pointer p11), (.agg g28)] w26 fun v29 w30 => fI .i64 v29 fun x31 =>
  br ((x31 : Int) == 16) (CallE Try.prog 44 #[(.pointer p11)] w30 fun v74 w75 => fI .i64 v74 fun x76 =>
  br ((x76 : Int) != 0) (Q (.bool false) w75) (W.law35_HibernateSaveIsAtomic_k16 p2 p11 p13 p14 x31 w75 Q)) (br ((x31 : Int) != 0) (Q (.bool false) w30) (W.law35_HibernateSaveIsAtomic_k16 p2 p11 p13 p14 x31 w30 Q))
def W.law35_HibernateSaveIsAtomic_k2 (p0 : Option Addr) (p0n : Nat) (p0c : Nat) (p1 : Option Addr) (p1n : Nat) (p1c : Nat) (p2 : Bool) (p3 : Int) (p4 : Option Addr) (p4n : Nat) (p4c : Nat) (p23 : Bool) (w : World) (Q : Value → World → Prop) : Prop :=
  br p23 (CallE Try.prog 14 #[] w fun v1 w2 => fB v1 fun b3 =>
  Q (.bool b3) w2) (CallE Try.prog 19 #[(.int .i64 40)] w fun v4 w5 => ∃ (p6 : Option Addr) (x7 : Int), v4 = .tuple #[(.pointer p6), (.int .i64 x7)] ∧
  br ((x7 : Int) != 0) (Q (.bool false) w5) (rq Try.prog (do eqGuard .eql 35 (.tmp 32) (.const (.pointer none)) (.pointer p6) (.pointer none); binOp .eql 35 (.pointer p6) (.pointer none)) w5 fun v8 => fB v8 fun b9 =>
  br b9 (Q (.bool false) w5) (CallE Try.prog 20 #[(.agg #[(.int .u8 9), (.int .u8 0), (.int .u8 0), (.int .u8 0), (.int .u8 0), (.int .u8 0), (.int .u8 0), (.int .u8 0), (.int .u8 0), (.int .u8 0), (.int .u8 0), (.int .u8 0), (.int .u8 0), (.int .u8 0), (.int .u8 0), (.int .u8 0), (.int .u8 0), (.int .u8 0), (.int .u8 0), (.int .u8 0), (.int .u8 0), (.int .u8 0), (.int .u8 0), (.int .u8 0), (.int .u8 0), (.int .u8 0), (.int .u8 0), (.int .u8 0), (.int .u8 0), (.int .u8 0), (.int .u8 0), (.int .u8 0)]), (.int .u64 1), (.slice p0 p0n p0c)] w5 fun v10 w11 => fG v10 fun g12 =>
  CallE Try.prog 20 #[(.agg #[(.int .u8 9), (.int .u8 0), (.int .u8 0), (.int .u8 0), (.int .u8 0), (.int .u8 0), (.int .u8 0), (.int .u8 0), (.int .u8 0), (.int .u8 0), (.int .u8 0), (.int .u8 0), (.int .u8 0), (.int .u8 0), (.int .u8 0), (.int .u8 0), (.int .u8 0), (.int .u8 0), (.int .u8 0), (.int .u8 0), (.int .u8 0), (.int .u8 0), (.int .u8 0), (.int .u8 0), (.int .u8 0), (.int .u8 0), (.int .u8 0), (.int .u8 0), (.int .u8 0), (.int .u8 0), (.int .u8 0), (.int .u8 0)]), (.int .u64 2), (.slice p1 p1n p1c)] w11 fun v13 w14 => fG v13 fun g15 =>
  al 41 (zeroT Try.prog 41).cells w14 fun a17 w16 =>
  al 41 (zeroT Try.prog 41).cells w16 fun a19 w18 =>
  st Try.prog 41 a17 (.agg g12) w18 fun w20 =>
  st Try.prog 41 a19 (.agg g15) w20 fun w21 =>
  br p2 (ld Try.prog 41 a17 w21 fun v77 => fG v77 fun g78 =>
  CallE Try.prog 21 #[(.pointer p6), (.agg g78)] w21 fun v79 w80 => fI .i64 v79 fun x81 =>
  br ((x81 : Int) != 0) (Q (.bool false) w80) (W.law35_HibernateSaveIsAtomic_k9 p2 p3 p4 p4n p4c p6 a17 a19 w80 Q)) (W.law35_HibernateSaveIsAtomic_k9 p2 p3 p4 p4n p4c p6 a17 a19 w21 Q))))
def W.law35_HibernateSaveIsAtomic (l_ : Option Addr) (l_n : Nat) (l_c : Nat) (m_ : Option Addr) (m_n : Nat) (m_c : Nat) (old_ : Bool) (cut_ : Int) (keep_ : Option Addr) (keep_n : Nat) (keep_c : Nat) (w : World) (Q : Value → World → Prop) : Prop :=
  CallE Try.prog 18 #[(.slice l_ l_n l_c)] w fun v82 w83 => fB v82 fun b84 =>
  br b84 (W.law35_HibernateSaveIsAtomic_k2 l_ l_n l_c m_ m_n m_c old_ cut_ keep_ keep_n keep_c true w83 Q) (CallE Try.prog 18 #[(.slice m_ m_n m_c)] w83 fun v85 w86 => fB v85 fun b87 =>
  W.law35_HibernateSaveIsAtomic_k2 l_ l_n l_c m_ m_n m_c old_ cut_ keep_ keep_n keep_c b87 w86 Q)
theorem E.law35_HibernateSaveIsAtomic (l_ : Option Addr) (l_n : Nat) (l_c : Nat) (m_ : Option Addr) (m_n : Nat) (m_c : Nat) (old_ : Bool) (cut_ : Int) (keep_ : Option Addr) (keep_n : Nat) (keep_c : Nat) (w : World) (Q : Value → World → Prop) : ev Try.prog Try.f10.ntmps callable [] [] (Try.f10.body.getD .skip) (enumE 0 [(.slice l_ l_n l_c), (.slice m_ m_n m_c), (.bool old_), (.int .i64 cut_), (.slice keep_ keep_n keep_c)]) w (KQ Try.prog Try.f10.results.toList Q) = W.law35_HibernateSaveIsAtomic l_ l_n l_c m_ m_n m_c old_ cut_ keep_ keep_n keep_c w Q := by kernel_rfl
theorem C.law35_HibernateSaveIsAtomic (l_ : Option Addr) (l_n : Nat) (l_c : Nat) (m_ : Option Addr) (m_n : Nat) (m_c : Nat) (old_ : Bool) (cut_ : Int) (keep_ : Option Addr) (keep_n : Nat) (keep_c : Nat) (w : World) (Q : Value → World → Prop) (h : W.law35_HibernateSaveIsAtomic l_ l_n l_c m_ m_n m_c old_ cut_ keep_ keep_n keep_c w Q) : CallE Try.prog 10 #[(.slice l_ l_n l_c), (.slice m_ m_n m_c), (.bool old_), (.int .i64 cut_), (.slice keep_ keep_n keep_c)] w Q :=
  calls_of_ev mixed callable_ok (args := [(.slice l_ l_n l_c), (.slice m_ m_n m_c), (.bool old_), (.int .i64 cut_), (.slice keep_ keep_n keep_c)]) Try.func10 rfl ((E.law35_HibernateSaveIsAtomic l_ l_n l_c m_ m_n m_c old_ cut_ keep_ keep_n keep_c w Q).symm ▸ h)

def W.law35_HibernateLoadIsAtomic (l_ : Option Addr) (l_n : Nat) (l_c : Nat) (keep_ : Option Addr) (keep_n : Nat) (keep_c : Nat) (w : World) (Q : Value → World → Prop) : Prop :=
  CallE Try.prog 18 #[(.slice l_ l_n l_c)] w fun v1 w2 => fB v1 fun b3 =>
  br b3 (CallE Try.prog 14 #[] w2 fun v4 w5 => fB v4 fun b6 =>
  Q (.bool b6) w5) (CallE Try.prog 19 #[(.int .i64 40)] w2 fun v7 w8 => ∃ (p9 : Option Addr) (x10 : Int), v7 = .tuple #[(.pointer p9), (.int .i64 x10)] ∧
  br ((x10 : Int) != 0) (Q (.bool false) w8) (rq Try.prog (do eqGuard .eql 35 (.tmp 22) (.const (.pointer none)) (.pointer p9) (.pointer none); binOp .eql 35 (.pointer p9) (.pointer none)) w8 fun v11 => fB v11 fun b12 =>
  br b12 (Q (.bool false) w8) (CallE Try.prog 20 #[(.agg #[(.int .u8 4), (.int .u8 0), (.int .u8 0), (.int .u8 0), (.int .u8 0), (.int .u8 0), (.int .u8 0), (.int .u8 0), (.int .u8 0), (.int .u8 0), (.int .u8 0), (.int .u8 0), (.int .u8 0), (.int .u8 0), (.int .u8 0), (.int .u8 0), (.int .u8 0), (.int .u8 0), (.int .u8 0), (.int .u8 0), (.int .u8 0), (.int .u8 0), (.int .u8 0), (.int .u8 0), (.int .u8 0), (.int .u8 0), (.int .u8 0), (.int .u8 0), (.int .u8 0), (.int .u8 0), (.int .u8 0), (.int .u8 0)]), (.int .u64 8), (.slice l_ l_n l_c)] w8 fun v13 w14 => fG v13 fun g15 =>
  al 41 (zeroT Try.prog 41).cells w14 fun a17 w16 =>
  st Try.prog 41 a17 (.agg g15) w16 fun w18 =>
  ld Try.prog 41 a17 w18 fun v19 => fG v19 fun g20 =>
  CallE Try.prog 21 #[(.pointer p9), (.agg g20)] w18 fun v21 w22 => fI .i64 v21 fun x23 =>
  br ((x23 : Int) != 0) (Q (.bool false) w22) (CallE Try.prog 46 #[(.pointer p9), (.int .i64 0), (.slice keep_ keep_n keep_c)] w22 fun v24 w25 => v24 = .tuple #[] ∧
  CallE Try.prog 22 #[(.pointer p9), (.agg #[(.int .u8 4), (.int .u8 0), (.int .u8 0), (.int .u8 0), (.int .u8 0), (.int .u8 0), (.int .u8 0), (.int .u8 0), (.int .u8 0), (.int .u8 0), (.int .u8 0), (.int .u8 0), (.int .u8 0), (.int .u8 0), (.int .u8 0), (.int .u8 0), (.int .u8 0), (.int .u8 0), (.int .u8 0), (.int .u8 0), (.int .u8 0), (.int .u8 0), (.int .u8 0), (.int .u8 0), (.int .u8 0), (.int .u8 0), (.int .u8 0), (.int .u8 0), (.int .u8 0), (.int .u8 0), (.int .u8 0), (.int .u8 0)])] w25 fun v26 w27 => ∃ (g28 : Array Value) (x29 : Int), v26 = .tuple #[(.agg g28), (.int .i64 x29)] ∧
  al 41 (zeroT Try.prog 41).cells w27 fun a31 w30 =>
  st Try.prog 41 a31 (.agg g28) w30 fun w32 =>
  br ((x29 : Int) != 16) (Q (.bool false) w32) (ld Try.prog 41 a31 w32 fun v33 => fG v33 fun g34 =>
  CallE Try.prog 23 #[(.agg g34), (.agg #[(.int .u8 0), (.int .u8 0), (.int .u8 0), (.int .u8 0), (.int .u8 0), (.int .u8 0), (.int .u8 0), (.int .u8 0), (.int .u8 0), (.int .u8 0), (.int .u8 0), (.int .u8 0), (.int .u8 0), (.int .u8 0), (.int .u8 0), (.int .u8 0), (.int .u8 0), (.int .u8 0), (.int .u8 0), (.int .u8 0), (.int .u8 0), (.int .u8 0), (.int .u8 0), (.int .u8 0), (.int .u8 0), (.int .u8 0), (.int .u8 0), (.int .u8 0), (.int .u8 0), (.int .u8 0), (.int .u8 0), (.int .u8 0), (.int .u64 0), (.slice none 0 0)])] w32 fun v35 w36 => fB v35 fun b37 =>
  br (!b37) (Q (.bool false) w36) (CallE Try.prog 44 #[(.pointer p9)] w36 fun v38 w39 => fI .i64 v38 fun x40 =>
  br ((x40 : Int) != 0) (Q (.bool false) w39) (CallE Try.prog 22 #[(.pointer p9), (.agg #[(.int .u8 4), (.int .u8 0), (.int .u8 0), (.int .u8 0), (.int .u8 0), (.int .u8 0), (.int .u8 0), (.int .u8 0), (.int .u8 0), (.int .u8 0), (.int .u8 0), (.int .u8 0), (.int .u8 0), (.int .u8 0), (.int .u8 0), (.int .u8 0), (.int .u8 0), (.int .u8 0), (.int .u8 0), (.int .u8 0), (.int .u8 0), (.int .u8 0), (.int .u8 0), (.int .u8 0), (.int .u8 0), (.int .u8 0), (.int .u8 0), (.int .u8 0), (.int .u8 0), (.int .u8 0), (.int .u8 0), (.int .u8 0)])] w39 fun v41 w42 => ∃ (g43 : Array Value) (x44 : Int), v41 = .tuple #[(.agg g43), (.int .i64 x44)] ∧
  al 41 (zeroT Try.prog 41).cells w42 fun a46 w45 =>
  st Try.prog 41 a46 (.agg g43) w45 fun w47 =>
  br ((x44 : Int) == 0) (ld Try.prog 41 a46 w47 fun v48 => fG v48 fun g49 =>
  ld Try.prog 41 a17 w47 fun v50 => fG v50 fun g51 =>
  CallE Try.prog 23 #[(.agg g49), (.agg g51)] w47 fun v52 w53 => fB v52 fun b54 =>
  br b54 (CallE Try.prog 14 #[] w53 fun v55 w56 => fB v55 fun b57 =>
  Q (.bool b57) w56) (Q (.bool false) w53)) (Q (.bool false) w47))))))))
theorem E.law35_HibernateLoadIsAtomic (l_ : Option Addr) (l_n : Nat) (l_c : Nat) (keep_ : Option Addr) (keep_n : Nat) (keep_c : Nat) (w : World) (Q : Value → World → Prop) : ev Try.prog Try.f11.ntmps callable [] [] (Try.f11.body.getD .skip) (enumE 0 [(.slice l_ l_n l_c), (.slice keep_ keep_n keep_c)]) w (KQ Try.prog Try.f11.results.toList Q) = W.law35_HibernateLoadIsAtomic l_ l_n l_c keep_ keep_n keep_c w Q := by kernel_rfl
theorem C.law35_HibernateLoadIsAtomic (l_ : Option Addr) (l_n : Nat) (l_c : Nat) (keep_ : Option Addr) (keep_n : Nat) (keep_c : Nat) (w : World) (Q : Value → World → Prop) (h : W.law35_HibernateLoadIsAtomic l_ l_n l_c keep_ keep_n keep_c w Q) : CallE Try.prog 11 #[(.slice l_ l_n l_c), (.slice keep_ keep_n keep_c)] w Q :=
  calls_of_ev mixed callable_ok (args := [(.slice l_ l_n l_c), (.slice keep_ keep_n keep_c)]) Try.func11 rfl ((E.law35_HibernateLoadIsAtomic l_ l_n l_c keep_ keep_n keep_c w Q).symm ▸ h)

def W.law35_HibernateDiskAgrees_k35 (w : World) (Q : Value → World → Prop) : Prop :=
  CallE Try.prog 14 #[] w fun v17 w18 => fB v17 fun b19 =>
  Q (.bool b19) w18
def W.law35_HibernateDiskAgrees_k33 (p1 : Option Addr) (p1n : Nat) (p1c : Nat) (p6 : Option Addr) (p8 : Option Addr) (p10 : Int) (p12 : Int) (p13 : Int) (p14 : Addr) (p15 : Addr) (next22 : (Int × Unit) → World → Prop) (w : World) (Q : Value → World → Prop) : Prop :=
  br ((p12 : Int) != p13) (Q (.bool false) w) (ld Try.prog 41 p14 w fun v47 => fG v47 fun g48 =>
  ld Try.prog 41 p15 w fun v49 => fG v49 fun g50 =>
  CallE Try.prog 23 #[(.agg g48), (.agg g50)] w fun v51 w52 => fB v51 fun b53 =>
  br (!b53) (Q (.bool false) w52) (CallE Try.prog 26 #[(.pointer p6)] w52 fun v54 w55 => fS v54 fun l56 l56n l56c =>
  CallE Try.prog 55 #[(.pointer p8)] w55 fun v57 w58 => fS v57 fun l59 l59n l59c =>
  CallE Try.prog 27 #[(.slice l56 l56n l56c), (.slice l59 l59n l59c)] w58 fun v60 w61 => fB v60 fun b62 =>
  br (!b62) (Q (.bool false) w61) (next22 (((IntKind.wrap .i64 (p10 + 1)) : Int), ()) w61)))
def W.law35_HibernateDiskAgrees_k21 (p1 : Option Addr) (p1n : Nat) (p1c : Nat) (p6 : Option Addr) (p8 : Option Addr) (p10 : Int) (p11 : Addr) (p12 : Int) (p13 : Int) (p14 : Addr) (p15 : Addr) (p16 : Addr) (p65 : Int) (p70 : Bool) (next22 : (Int × Unit) → World → Prop) (w : World) (Q : Value → World → Prop) : Prop :=
  br p70 (ld Try.prog 31 p16 w fun v68 => fG v68 fun g69 =>
  ld Try.prog 32 (p11.add 2) w fun v70 => fI .u64 v70 fun x71 =>
  ld Try.prog 33 (p11.add 1) w fun v72 => fS v72 fun l73 l73n l73c =>
  CallE Try.prog 20 #[(.agg g69), (.int .u64 x71), (.slice l73 l73n l73c)] w fun v74 w75 => fG v74 fun g76 =>
  al 41 (zeroT Try.prog 41).cells w75 fun a78 w77 =>
  st Try.prog 41 a78 (.agg g76) w77 fun w79 =>
  drawE fun S80 => S80 (drew w79) ∧ (ldS Try.prog S80 41 a78 fun v81 => fG v81 fun g82 =>
  ldS Try.prog S80 41 a78 fun v83 => fG v83 fun g84 =>
  CallE Try.prog 21 #[(.pointer p6), (.agg g82)] (drew w79) fun v85 w86 => fI .i64 v85 fun x87 =>
  S80 w86 ∧ (CallE Try.prog 48 #[(.pointer p8), (.agg g84)] w86 fun v88 w89 => fI .i64 v88 fun x90 =>
  S80 w89 ∧ (W.law35_HibernateDiskAgrees_k33 p1 p1n p1c p6 p8 p10 x87 x90 p14 p15 next22 w89 Q)))) (br ((p65 : Int) == 2) (ld Try.prog 31 p16 w fun v91 => fG v91 fun g92 =>
  CallE Try.prog 22 #[(.pointer p6), (.agg g92)] w fun v93 w94 => ∃ (g95 : Array Value) (x96 : Int), v93 = .tuple #[(.agg g95), (.int .i64 x96)] ∧
  st Try.prog 41 p14 (.agg g95) w94 fun w97 =>
  ld Try.prog 31 p16 w97 fun v98 => fG v98 fun g99 =>
  CallE Try.prog 49 #[(.pointer p8), (.agg g99)] w97 fun v100 w101 => ∃ (g102 : Array Value) (x103 : Int), v100 = .tuple #[(.agg g102), (.int .i64 x103)] ∧
  st Try.prog 41 p15 (.agg g102) w101 fun w104 =>
  W.law35_HibernateDiskAgrees_k33 p1 p1n p1c p6 p8 p10 x96 x103 p14 p15 next22 w104 Q) (br ((p65 : Int) == 3) (CallE Try.prog 50 #[(.pointer p6)] w fun v105 w106 => fI .i64 v105 fun x107 =>
  CallE Try.prog 51 #[(.pointer p8)] w106 fun v108 w109 => fI .i64 v108 fun x110 =>
  W.law35_HibernateDiskAgrees_k33 p1 p1n p1c p6 p8 p10 x107 x110 p14 p15 next22 w109 Q) (br ((p65 : Int) == 4) (drawE fun S111 => S111 (drew w) ∧ (ldS Try.prog S111 3 (p11.add 4) fun v112 => fI .i64 v112 fun x113 =>
  ldS Try.prog S111 78 (p11.add 5) fun v114 => fS v114 fun l115 l115n l115c =>
  CallE Try.prog 24 #[(.int .i64 x113), (.int .i64 12)] (drew w) fun v116 w117 => fI .i64 v116 fun x118 =>
  S111 w117 ∧ (CallE Try.prog 46 #[(.pointer p6), (.int .i64 x118), (.slice l115 l115n l115c)] w117 fun v119 w120 => v119 = .tuple #[] ∧
  S111 w120 ∧ (drawE fun S121 => S121 (drew w120) ∧ (ldS Try.prog S121 3 (p11.add 4) fun v122 => fI .i64 v122 fun x123 =>
  ldS Try.prog S121 78 (p11.add 5) fun v124 => fS v124 fun l125 l125n l125c =>
  CallE Try.prog 24 #[(.int .i64 x123), (.int .i64 12)] (drew w120) fun v126 w127 => fI .i64 v126 fun x128 =>
  S121 w127 ∧ (CallE Try.prog 52 #[(.pointer p8), (.int .i64 x128), (.slice l125 l125n l125c)] w127 fun v129 w130 => v129 = .tuple #[] ∧
  S121 w130 ∧ (W.law35_HibernateDiskAgrees_k33 p1 p1n p1c p6 p8 p10 p12 p13 p14 p15 next22 w130 Q))))))) (br ((p65 : Int) == 5) (drawE fun S131 => S131 (drew w) ∧ (ldS Try.prog S131 78 (p11.add 5) fun v132 => fS v132 fun l133 l133n l133c =>
  ldS Try.prog S131 78 (p11.add 5) fun v134 => fS v134 fun l135 l135n l135c =>
  CallE Try.prog 43 #[(.pointer p6), (.slice l133 l133n l133c)] (drew w) fun v136 w137 => fI .i64 v136 fun x138 =>
  S131 w137 ∧ (CallE Try.prog 53 #[(.pointer p8), (.slice l135 l135n l135c)] w137 fun v139 w140 => fI .i64 v139 fun x141 =>
  S131 w140 ∧ (W.law35_HibernateDiskAgrees_k33 p1 p1n p1c p6 p8 p10 x138 x141 p14 p15 next22 w140 Q)))) (CallE Try.prog 44 #[(.pointer p6)] w fun v142 w143 => fI .i64 v142 fun x144 =>
  CallE Try.prog 54 #[(.pointer p8)] w143 fun v145 w146 => fI .i64 v145 fun x147 =>
  W.law35_HibernateDiskAgrees_k33 p1 p1n p1c p6 p8 p10 x144 x147 p14 p15 next22 w146 Q)))))
def W.law35_HibernateDiskAgrees (sectors_ : Int) (l_ : Option Addr) (l_n : Nat) (l_c : Nat) (w : World) (Q : Value → World → Prop) : Prop :=
  br (decide ((((l_n : Nat) : Int) : Int) > 12)) (CallE Try.prog 14 #[] w fun v1 w2 => fB v1 fun b3 =>
  Q (.bool b3) w2) (CallE Try.prog 24 #[(.int .i64 sectors_), (.int .i64 30)] w fun v4 w5 => fI .i64 v4 fun x6 =>
  CallE Try.prog 19 #[(.int .i64 (IntKind.wrap .i64 (1 + x6)))] w5 fun v7 w8 => ∃ (p9 : Option Addr) (x10 : Int), v7 = .tuple #[(.pointer p9), (.int .i64 x10)] ∧
  CallE Try.prog 47 #[(.int .i64 (IntKind.wrap .i64 (1 + x6)))] w8 fun v11 w12 => ∃ (p13 : Option Addr) (x14 : Int), v11 = .tuple #[(.pointer p13), (.int .i64 x14)] ∧
  br ((x10 : Int) != 0) (Q (.bool false) w12) (br ((x14 : Int) != 0) (Q (.bool false) w12) (rq Try.prog (do eqGuard .eql 35 (.tmp 42) (.const (.pointer none)) (.pointer p9) (.pointer none); binOp .eql 35 (.pointer p9) (.pointer none)) w12 fun v15 => fB v15 fun b16 =>
  br b16 (Q (.bool false) w12) (LoopW (S := Int × Unit) (fun s20 w21 next22 =>
  br (decide ((s20.1 : Int) < ((l_n : Nat) : Int))) (rq Try.prog (Instr.indexAt 95 (.slice l_ l_n l_c) (.int .i64 s20.1)) w21 fun v23 => fA v23 fun a24 =>
  ld Try.prog 100 a24 w21 fun v25 => fG v25 fun g26 =>
  al 100 (zeroT Try.prog 100).cells w21 fun a28 w27 =>
  st Try.prog 100 a28 (.agg g26) w27 fun w29 =>
  ld Try.prog 33 (a28.add 1) w29 fun v30 => fS v30 fun l31 l31n l31c =>
  CallE Try.prog 18 #[(.slice l31 l31n l31c)] w29 fun v32 w33 => fB v32 fun b34 =>
  br b34 (CallE Try.prog 14 #[] w33 fun v35 w36 => fB v35 fun b37 =>
  Q (.bool b37) w36) (al 41 (zeroT Try.prog 41).cells w33 fun a39 w38 =>
  al 41 (zeroT Try.prog 41).cells w38 fun a41 w40 =>
  ld Try.prog 5 (a28.add 3) w40 fun v42 => fI .u8 v42 fun x43 =>
  al 31 (zeroT Try.prog 31).cells w40 fun a45 w44 =>
  st Try.prog 31 a45 (.agg #[(.int .u8 (Int.tmod x43 2)), (.int .u8 0), (.int .u8 0), (.int .u8 0), (.int .u8 0), (.int .u8 0), (.int .u8 0), (.int .u8 0), (.int .u8 0), (.int .u8 0), (.int .u8 0), (.int .u8 0), (.int .u8 0), (.int .u8 0), (.int .u8 0), (.int .u8 0), (.int .u8 0), (.int .u8 0), (.int .u8 0), (.int .u8 0), (.int .u8 0), (.int .u8 0), (.int .u8 0), (.int .u8 0), (.int .u8 0), (.int .u8 0), (.int .u8 0), (.int .u8 0), (.int .u8 0), (.int .u8 0), (.int .u8 0), (.int .u8 0)]) w44 fun w46 =>
  ld Try.prog 3 (a28.add 0) w46 fun v63 => fI .i64 v63 fun x64 =>
  CallE Try.prog 24 #[(.int .i64 x64), (.int .i64 7)] w46 fun v65 w66 => fI .i64 v65 fun x67 =>
  br ((x67 : Int) == 0) (W.law35_HibernateDiskAgrees_k21 l_ l_n l_c p9 p13 s20.1 a28 0 0 a39 a41 a45 x67 true next22 w66 Q) (W.law35_HibernateDiskAgrees_k21 l_ l_n l_c p9 p13 s20.1 a28 0 0 a39 a41 a45 x67 ((x67 : Int) == 1) next22 w66 Q))) (W.law35_HibernateDiskAgrees_k35  w21 Q)) ((0 : Int), ()) w12))))
theorem E.law35_HibernateDiskAgrees (sectors_ : Int) (l_ : Option Addr) (l_n : Nat) (l_c : Nat) (w : World) (Q : Value → World → Prop) : ev Try.prog Try.f12.ntmps callable [(9, [(10, .int .i64 0)], [1, 6, 8])] [] (Try.f12.body.getD .skip) (enumE 0 [(.int .i64 sectors_), (.slice l_ l_n l_c)]) w (KQ Try.prog Try.f12.results.toList Q) = W.law35_HibernateDiskAgrees sectors_ l_ l_n l_c w Q := by kernel_rfl
theorem C.law35_HibernateDiskAgrees (sectors_ : Int) (l_ : Option Addr) (l_n : Nat) (l_c : Nat) (w : World) (Q : Value → World → Prop) (h : W.law35_HibernateDiskAgrees sectors_ l_ l_n l_c w Q) : CallE Try.prog 12 #[(.int .i64 sectors_), (.slice l_ l_n l_c)] w Q :=
  calls_of_ev mixed callable_ok (args := [(.int .i64 sectors_), (.slice l_ l_n l_c)]) Try.func12 rfl ((E.law35_HibernateDiskAgrees sectors_ l_ l_n l_c w Q).symm ▸ h)

def W.law35_HibernateEventAbortsFreezing_k23 (p0 : Option Addr) (p0n : Nat) (p0c : Nat) (p7 : Option Addr) (p8 : Int) (p9 : Option Addr) (p11 : Int) (p12 : Int) (p13 : Int) (p15 : Int) (p16 : Bool) (p17 : Int) (next24 : (Int × Unit) → World → Prop) (w : World) (Q : Value → World → Prop) : Prop :=
  br ((p17 : Int) == 14) (br ((p15 : Int) == p12) (br (decide ((p11 : Int) > p12)) (br (decide ((p13 : Int) ≥ p15)) (CallE Try.prog 59 #[(.pointer p7), (.int .i64 ((p0n : Nat) : Int))] w fun v29 w30 => fB v29 fun b31 =>
  br b31 (CallE Try.prog 14 #[] w30 fun v32 w33 => fB v32 fun b34 =>
  Q (.bool b34) w33) (Q (.bool false) w30)) (Q (.bool false) w)) (Q (.bool false) w)) (Q (.bool false) w)) (br ((p17 : Int) != 0) (Q (.bool false) w) (br p16 (br ((p15 : Int) == p11) (br (decide ((p13 : Int) ≥ p15)) (CallE Try.prog 14 #[] w fun v35 w36 => fB v35 fun b37 =>
  Q (.bool b37) w36) (Q (.bool false) w)) (Q (.bool false) w)) (CallE Try.prog 60 #[(.pointer p9)] w fun v38 w39 => fB v38 fun b40 =>
  br b40 (br ((p15 : Int) == p13) (br (decide ((p11 : Int) > p15)) (CallE Try.prog 36 #[(.pointer p7), (.int .u64 p15)] w39 fun v41 w42 => fI .i64 v41 fun x43 =>
  br ((x43 : Int) == 0) (CallE Try.prog 59 #[(.pointer p7), (.int .i64 ((p0n : Nat) : Int))] w42 fun v44 w45 => fB v44 fun b46 =>
  br b46 (CallE Try.prog 14 #[] w45 fun v47 w48 => fB v47 fun b49 =>
  Q (.bool b49) w48) (Q (.bool false) w45)) (Q (.bool false) w42)) (Q (.bool false) w39)) (Q (.bool false) w39)) (next24 (((IntKind.wrap .u64 (p15 + 1)) : Int), ()) w39))))
def W.law35_HibernateEventAbortsFreezing_k20 (p0 : Option Addr) (p0n : Nat) (p0c : Nat) (p7 : Option Addr) (p8 : Int) (p9 : Option Addr) (p11 : Int) (p12 : Int) (p13 : Int) (p15 : Int) (next24 : (Int × Unit) → World → Prop) (w : World) (Q : Value → World → Prop) : Prop :=
  CallE Try.prog 34 #[(.pointer p7), (.int .u64 p15)] w fun v25 w26 => ∃ (b27 : Bool) (x28 : Int), v25 = .tuple #[(.bool b27), (.int .i64 x28)] ∧
  br ((p15 : Int) == 0) (br ((p8 : Int) != 0) (W.law35_HibernateEventAbortsFreezing_k23 p0 p0n p0c p7 p8 p9 p11 p12 p13 p15 b27 p8 next24 w26 Q) (W.law35_HibernateEventAbortsFreezing_k23 p0 p0n p0c p7 p8 p9 p11 p12 p13 p15 b27 x28 next24 w26 Q)) (W.law35_HibernateEventAbortsFreezing_k23 p0 p0n p0c p7 p8 p9 p11 p12 p13 p15 b27 x28 next24 w26 Q)
def W.law35_HibernateEventAbortsFreezing_k14 (p0 : Option Addr) (p0n : Nat) (p0c : Nat) (p7 : Option Addr) (p9 : Option Addr) (p11 : Int) (p12 : Int) (p13 : Int) (w : World) (Q : Value → World → Prop) : Prop :=
  CallE Try.prog 32 #[(.pointer p7), (.int .u64 0), (.int .u64 p12)] w fun v19 w20 => fI .i64 v19 fun x21 =>
  LoopW (S := Int × Unit) (fun s22 w23 next24 =>
  br (decide ((s22.1 : Int) ≤ p12)) (br ((s22.1 : Int) == p13) (CallE Try.prog 58 #[(.pointer p9), (.int .i64 0), (.int .u64 s22.1)] w23 fun v50 w51 => fI .i64 v50 fun x52 =>
  br ((x52 : Int) != 0) (Q (.bool false) w51) (W.law35_HibernateEventAbortsFreezing_k20 p0 p0n p0c p7 x21 p9 p11 p12 p13 s22.1 next24 w51 Q)) (W.law35_HibernateEventAbortsFreezing_k20 p0 p0n p0c p7 x21 p9 p11 p12 p13 s22.1 next24 w23 Q)) (Q (.bool false) w23)) ((0 : Int), ()) w20
def W.law35_HibernateEventAbortsFreezing (ends_ : Option Addr) (ends_n : Nat) (ends_c : Nat) (wait_ : Int) (at_ : Int) (w : World) (Q : Value → World → Prop) : Prop :=
  br (decide ((((ends_n : Nat) : Int) : Int) > 20)) (CallE Try.prog 14 #[] w fun v1 w2 => fB v1 fun b3 =>
  Q (.bool b3) w2) (CallE Try.prog 29 #[(.int .i64 ((ends_n : Nat) : Int))] w fun v4 w5 => ∃ (p6 : Option Addr) (x7 : Int), v4 = .tuple #[(.pointer p6), (.int .i64 x7)] ∧
  CallE Try.prog 56 #[(.int .i64 1)] w5 fun v8 w9 => ∃ (p10 : Option Addr) (x11 : Int), v8 = .tuple #[(.pointer p10), (.int .i64 x11)] ∧
  br ((x7 : Int) != 0) (Q (.bool false) w9) (br ((x11 : Int) != 0) (Q (.bool false) w9) (rq Try.prog (do eqGuard .eql 57 (.tmp 39) (.const (.pointer none)) (.pointer p6) (.pointer none); binOp .eql 57 (.pointer p6) (.pointer none)) w9 fun v12 => fB v12 fun b13 =>
  br b13 (Q (.bool false) w9) (rq Try.prog (do eqGuard .eql 106 (.tmp 43) (.const (.pointer none)) (.pointer p10) (.pointer none); binOp .eql 106 (.pointer p10) (.pointer none)) w9 fun v14 => fB v14 fun b15 =>
  br b15 (Q (.bool false) w9) (CallE Try.prog 57 #[(.pointer p10), (.int .i64 0), (.int .u64 0)] w9 fun v16 w17 => fI .i64 v16 fun x18 =>
  br ((x18 : Int) != 0) (Q (.bool false) w17) (LoopW (S := Int × Int × Unit) (fun s53 w54 next55 =>
  br (decide ((s53.2.1 : Int) < ((ends_n : Nat) : Int))) (rq Try.prog (Instr.indexAt 67 (.slice ends_ ends_n ends_c) (.int .i64 s53.2.1)) w54 fun v56 => fA v56 fun a57 =>
  ld Try.prog 32 a57 w54 fun v58 => fI .u64 v58 fun x59 =>
  CallE Try.prog 38 #[(.pointer p6), (.int .i64 s53.2.1), (.int .u64 (Int.tmod x59 50)), (.int .u64 0)] w54 fun v60 w61 => fI .i64 v60 fun x62 =>
  br ((x62 : Int) != 0) (Q (.bool false) w61) (rq Try.prog (Instr.indexAt 67 (.slice ends_ ends_n ends_c) (.int .i64 s53.2.1)) w61 fun v63 => fA v63 fun a64 =>
  ld Try.prog 32 a64 w61 fun v65 => fI .u64 v65 fun x66 =>
  next55 (((if (Int.tmod x66 50) > s53.1 then (Int.tmod x66 50) else s53.1) : Int), ((IntKind.wrap .i64 (s53.2.1 + 1)) : Int), ()) w61)) (W.law35_HibernateEventAbortsFreezing_k14 ends_ ends_n ends_c p6 p10 s53.1 (Int.tmod wait_ 40) (Int.tmod at_ 60) w54 Q)) ((0 : Int), (0 : Int), ()) w17))))))
theorem E.law35_HibernateEventAbortsFreezing (ends_ : Option Addr) (ends_n : Nat) (ends_c : Nat) (wait_ : Int) (at_ : Int) (w : World) (Q : Value → World → Prop) : ev Try.prog Try.f13.ntmps callable [(16, [(15, .int .u64 0)], [0, 7, 8, 9, 11, 12, 13]), (9, [(11, .int .u64 0), (14, .int .i64 0)], [0, 7, 9, 12, 13])] [] (Try.f13.body.getD .skip) (enumE 0 [(.slice ends_ ends_n ends_c), (.int .u64 wait_), (.int .u64 at_)]) w (KQ Try.prog Try.f13.results.toList Q) = W.law35_HibernateEventAbortsFreezing ends_ ends_n ends_c wait_ at_ w Q := by kernel_rfl
theorem C.law35_HibernateEventAbortsFreezing (ends_ : Option Addr) (ends_n : Nat) (ends_c : Nat) (wait_ : Int) (at_ : Int) (w : World) (Q : Value → World → Prop) (h : W.law35_HibernateEventAbortsFreezing ends_ ends_n ends_c wait_ at_ w Q) : CallE Try.prog 13 #[(.slice ends_ ends_n ends_c), (.int .u64 wait_), (.int .u64 at_)] w Q :=
  calls_of_ev mixed callable_ok (args := [(.slice ends_ ends_n ends_c), (.int .u64 wait_), (.int .u64 at_)]) Try.func13 rfl ((E.law35_HibernateEventAbortsFreezing ends_ ends_n ends_c wait_ at_ w Q).symm ▸ h)

def W.law35_awake (w : World) (Q : Value → World → Prop) : Prop :=
  CallE Try.prog 29 #[(.int .i64 2)] w fun v1 w2 => ∃ (p3 : Option Addr) (x4 : Int), v1 = .tuple #[(.pointer p3), (.int .i64 x4)] ∧
  CallE Try.prog 19 #[(.int .i64 4)] w2 fun v5 w6 => ∃ (p7 : Option Addr) (x8 : Int), v5 = .tuple #[(.pointer p7), (.int .i64 x8)] ∧
  br ((x4 : Int) != 0) (Q (.bool false) w6) (br ((x8 : Int) != 0) (Q (.bool false) w6) (rq Try.prog (do eqGuard .eql 57 (.tmp 27) (.const (.pointer none)) (.pointer p3) (.pointer none); binOp .eql 57 (.pointer p3) (.pointer none)) w6 fun v9 => fB v9 fun b10 =>
  br b10 (Q (.bool false) w6) (rq Try.prog (do eqGuard .eql 35 (.tmp 31) (.const (.pointer none)) (.pointer p7) (.pointer none); binOp .eql 35 (.pointer p7) (.pointer none)) w6 fun v11 => fB v11 fun b12 =>
  br b12 (Q (.bool false) w6) (CallE Try.prog 38 #[(.pointer p3), (.int .i64 1), (.int .u64 20), (.int .u64 5)] w6 fun v13 w14 => fI .i64 v13 fun x15 =>
  br ((x15 : Int) != 0) (Q (.bool false) w14) (CallE Try.prog 32 #[(.pointer p3), (.int .u64 10), (.int .u64 30)] w14 fun v16 w17 => fI .i64 v16 fun x18 =>
  br ((x18 : Int) != 0) (Q (.bool false) w17) (CallE Try.prog 40 #[(.pointer p3), (.int .i64 0)] w17 fun v19 w20 => fB v19 fun b21 =>
  br (!b21) (Q (.bool false) w20) (CallE Try.prog 40 #[(.pointer p3), (.int .i64 1)] w20 fun v22 w23 => fB v22 fun b24 =>
  br b24 (Q (.bool false) w23) (CallE Try.prog 34 #[(.pointer p3), (.int .u64 20)] w23 fun v25 w26 => ∃ (b27 : Bool) (x28 : Int), v25 = .tuple #[(.bool b27), (.int .i64 x28)] ∧
  CallE Try.prog 21 #[(.pointer p7), (.agg #[(.int .u8 0), (.int .u8 0), (.int .u8 0), (.int .u8 0), (.int .u8 0), (.int .u8 0), (.int .u8 0), (.int .u8 0), (.int .u8 0), (.int .u8 0), (.int .u8 0), (.int .u8 0), (.int .u8 0), (.int .u8 0), (.int .u8 0), (.int .u8 0), (.int .u8 0), (.int .u8 0), (.int .u8 0), (.int .u8 0), (.int .u8 0), (.int .u8 0), (.int .u8 0), (.int .u8 0), (.int .u8 0), (.int .u8 0), (.int .u8 0), (.int .u8 0), (.int .u8 0), (.int .u8 0), (.int .u8 0), (.int .u8 0), (.int .u64 3), (.slice none 0 0)])] w26 fun v29 w30 => fI .i64 v29 fun x31 =>
  CallE Try.prog 22 #[(.pointer p7), (.agg #[(.int .u8 0), (.int .u8 0), (.int .u8 0), (.int .u8 0), (.int .u8 0), (.int .u8 0), (.int .u8 0), (.int .u8 0), (.int .u8 0), (.int .u8 0), (.int .u8 0), (.int .u8 0), (.int .u8 0), (.int .u8 0), (.int .u8 0), (.int .u8 0), (.int .u8 0), (.int .u8 0), (.int .u8 0), (.int .u8 0), (.int .u8 0), (.int .u8 0), (.int .u8 0), (.int .u8 0), (.int .u8 0), (.int .u8 0), (.int .u8 0), (.int .u8 0), (.int .u8 0), (.int .u8 0), (.int .u8 0), (.int .u8 0)])] w30 fun v32 w33 => ∃ (g34 : Array Value) (x35 : Int), v32 = .tuple #[(.agg g34), (.int .i64 x35)] ∧
  al 41 (zeroT Try.prog 41).cells w33 fun a37 w36 =>
  st Try.prog 41 a37 (.agg g34) w36 fun w38 =>
  CallE Try.prog 22 #[(.pointer p7), (.agg #[(.int .u8 0), (.int .u8 0), (.int .u8 0), (.int .u8 0), (.int .u8 0), (.int .u8 0), (.int .u8 0), (.int .u8 0), (.int .u8 0), (.int .u8 0), (.int .u8 0), (.int .u8 0), (.int .u8 0), (.int .u8 0), (.int .u8 0), (.int .u8 0), (.int .u8 0), (.int .u8 0), (.int .u8 0), (.int .u8 0), (.int .u8 0), (.int .u8 0), (.int .u8 0), (.int .u8 0), (.int .u8 0), (.int .u8 0), (.int .u8 0), (.int .u8 0), (.int .u8 0), (.int .u8 0), (.int .u8 0), (.int .u8 0)])] w38 fun v39 w40 => ∃ (g41 : Array Value) (x42 : Int), v39 = .tuple #[(.agg g41), (.int .i64 x42)] ∧
  al 41 (zeroT Try.prog 41).cells w40 fun a44 w43 =>
  st Try.prog 41 a44 (.agg g41) w43 fun w45 =>
  br b27 (br ((x28 : Int) == 0) (br ((x31 : Int) == 0) (br ((x35 : Int) == 0) (ld Try.prog 32 (a37.add 32) w45 fun v46 => fI .u64 v46 fun x47 =>
  br ((x47 : Int) == 3) (br ((x42 : Int) == 6) (al 27 #[(.bool false), (.bool false), (.bool false), (.bool true), (.bool false), (.bool false), (.bool true), (.bool false), (.bool true)] w45 fun a49 w48 =>
  CallE Try.prog 15 #[(.slice (some a49) 3 3)] w48 fun v50 w51 => fS v50 fun l52 l52n l52c =>
  al 3 #[(.int .i64 1)] w51 fun a54 w53 =>
  CallE Try.prog 16 #[(.slice l52 l52n l52c), (.slice (some a54) 1 1)] w53 fun v55 w56 => fB v55 fun b57 =>
  Q (.bool b57) w56) (Q (.bool false) w45)) (Q (.bool false) w45)) (Q (.bool false) w45)) (Q (.bool false) w45)) (Q (.bool false) w45)) (Q (.bool false) w45)))))))))
theorem E.law35_awake (w : World) (Q : Value → World → Prop) : ev Try.prog Try.f14.ntmps callable [] [] (Try.f14.body.getD .skip) (enumE 0 []) w (KQ Try.prog Try.f14.results.toList Q) = W.law35_awake w Q := by kernel_rfl
theorem C.law35_awake (w : World) (Q : Value → World → Prop) (h : W.law35_awake w Q) : CallE Try.prog 14 #[] w Q :=
  calls_of_ev mixed callable_ok (args := []) Try.func14 rfl ((E.law35_awake w Q).symm ▸ h)

def W.hibernate_Select_k6 (p3 : Option Addr) (p3n : Nat) (p3c : Nat) (p4 : Int) (p6 : Option Addr) (p6n : Nat) (p6c : Nat) (p7 : Int) (p8 : Int) (p24 : Bool) (next3 : ((Option Addr × Nat × Nat) × Int × Unit) → World → Prop) (w : World) (Q : Value → World → Prop) : Prop :=
  br p24 (al 3 #[(.int .i64 p4)] w fun a12 w11 =>
  rv Try.prog (Builtin.append_ #[24, 24] 24 #[(.slice p3 p3n p3c), (.slice (some a12) 1 1)]) w11 fun v13 w14 => fS v13 fun l15 l15n l15c =>
  next3 ((l15, l15n, l15c), ((IntKind.wrap .i64 (p8 + 1)) : Int), ()) w14) (next3 ((p3, p3n, p3c), ((IntKind.wrap .i64 (p8 + 1)) : Int), ()) w)
def W.hibernate_Select (pages_ : Option Addr) (pages_n : Nat) (pages_c : Nat) (w : World) (Q : Value → World → Prop) : Prop :=
  LoopW (S := (Option Addr × Nat × Nat) × Int × Unit) (fun s1 w2 next3 =>
  br (decide ((s1.2.1 : Int) < ((pages_n : Nat) : Int))) (rq Try.prog (Instr.indexAt 22 (.slice pages_ pages_n pages_c) (.int .i64 s1.2.1)) w2 fun v4 => fA v4 fun a5 =>
  ld Try.prog 27 a5 w2 fun v6 => fG v6 fun g7 =>
  al 27 (zeroT Try.prog 27).cells w2 fun a9 w8 =>
  st Try.prog 27 a9 (.agg g7) w8 fun w10 =>
  ld Try.prog 4 (a9.add 0) w10 fun v16 => fB v16 fun b17 =>
  br b17 (ld Try.prog 4 (a9.add 1) w10 fun v18 => fB v18 fun b19 =>
  br (!b19) (ld Try.prog 4 (a9.add 2) w10 fun v20 => fB v20 fun b21 =>
  W.hibernate_Select_k6 s1.1.1 s1.1.2.1 s1.1.2.2 s1.2.1 pages_ pages_n pages_c ((pages_n : Nat) : Int) s1.2.1 (!b21) next3 w10 Q) (W.hibernate_Select_k6 s1.1.1 s1.1.2.1 s1.1.2.2 s1.2.1 pages_ pages_n pages_c ((pages_n : Nat) : Int) s1.2.1 false next3 w10 Q)) (W.hibernate_Select_k6 s1.1.1 s1.1.2.1 s1.1.2.2 s1.2.1 pages_ pages_n pages_c ((pages_n : Nat) : Int) s1.2.1 false next3 w10 Q)) (Q (.slice s1.1.1 s1.1.2.1 s1.1.2.2) w2)) ((none, 0, 0), (0 : Int), ()) w
theorem E.hibernate_Select (pages_ : Option Addr) (pages_n : Nat) (pages_c : Nat) (w : World) (Q : Value → World → Prop) : ev Try.prog Try.f15.ntmps callable [(3, [(3, .slice none 0 0), (8, .int .i64 0)], [6, 7])] [] (Try.f15.body.getD .skip) (enumE 0 [(.slice pages_ pages_n pages_c)]) w (KQ Try.prog Try.f15.results.toList Q) = W.hibernate_Select pages_ pages_n pages_c w Q := by kernel_rfl
theorem C.hibernate_Select (pages_ : Option Addr) (pages_n : Nat) (pages_c : Nat) (w : World) (Q : Value → World → Prop) (h : W.hibernate_Select pages_ pages_n pages_c w Q) : CallE Try.prog 15 #[(.slice pages_ pages_n pages_c)] w Q :=
  calls_of_ev mixed callable_ok (args := [(.slice pages_ pages_n pages_c)]) Try.func15 rfl ((E.hibernate_Select pages_ pages_n pages_c w Q).symm ▸ h)

def W.help_Equal_int_ (a_ : Option Addr) (a_n : Nat) (a_c : Nat) (b_ : Option Addr) (b_n : Nat) (b_c : Nat) (w : World) (Q : Value → World → Prop) : Prop :=
  br ((((a_n : Nat) : Int) : Int) != ((b_n : Nat) : Int)) (Q (.bool false) w) (LoopW (S := Int × Unit) (fun s1 w2 next3 =>
  br (decide ((s1.1 : Int) < ((a_n : Nat) : Int))) (dr w2 fun w4 =>
  rq Try.prog (Instr.indexAt 24 (.slice a_ a_n a_c) (.int .i64 s1.1)) w4 fun v5 => fA v5 fun a6 =>
  ld Try.prog 3 a6 w4 fun v7 => fI .i64 v7 fun x8 =>
  rq Try.prog (Instr.indexAt 24 (.slice b_ b_n b_c) (.int .i64 s1.1)) w4 fun v9 => fA v9 fun a10 =>
  ld Try.prog 3 a10 w4 fun v11 => fI .i64 v11 fun x12 =>
  br ((x8 : Int) != x12) (Q (.bool false) w4) (next3 (((IntKind.wrap .i64 (s1.1 + 1)) : Int), ()) w4)) (Q (.bool true) w2)) ((0 : Int), ()) w)
theorem E.help_Equal_int_ (a_ : Option Addr) (a_n : Nat) (a_c : Nat) (b_ : Option Addr) (b_n : Nat) (b_c : Nat) (w : World) (Q : Value → World → Prop) : ev Try.prog Try.f16.ntmps callable [(4, [(5, .int .i64 0)], [0, 1])] [] (Try.f16.body.getD .skip) (enumE 0 [(.slice a_ a_n a_c), (.slice b_ b_n b_c)]) w (KQ Try.prog Try.f16.results.toList Q) = W.help_Equal_int_ a_ a_n a_c b_ b_n b_c w Q := by kernel_rfl
theorem C.help_Equal_int_ (a_ : Option Addr) (a_n : Nat) (a_c : Nat) (b_ : Option Addr) (b_n : Nat) (b_c : Nat) (w : World) (Q : Value → World → Prop) (h : W.help_Equal_int_ a_ a_n a_c b_ b_n b_c w Q) : CallE Try.prog 16 #[(.slice a_ a_n a_c), (.slice b_ b_n b_c)] w Q :=
  calls_of_ev mixed callable_ok (args := [(.slice a_ a_n a_c), (.slice b_ b_n b_c)]) Try.func16 rfl ((E.help_Equal_int_ a_ a_n a_c b_ b_n b_c w Q).symm ▸ h)

def W.ref35_Select_k6 (p0 : Option Addr) (p0n : Nat) (p0c : Nat) (p3 : Option Addr) (p3n : Nat) (p3c : Nat) (p4 : Int) (p31 : Bool) (next3 : ((Option Addr × Nat × Nat) × Int × Unit) → World → Prop) (w : World) (Q : Value → World → Prop) : Prop :=
  br p31 (al 3 #[(.int .i64 p4)] w fun a5 w4 =>
  rv Try.prog (Builtin.append_ #[24, 24] 24 #[(.slice p3 p3n p3c), (.slice (some a5) 1 1)]) w4 fun v6 w7 => fS v6 fun l8 l8n l8c =>
  next3 ((l8, l8n, l8c), ((IntKind.wrap .i64 (p4 + 1)) : Int), ()) w7) (next3 ((p3, p3n, p3c), ((IntKind.wrap .i64 (p4 + 1)) : Int), ()) w)
def W.ref35_Select (pages_ : Option Addr) (pages_n : Nat) (pages_c : Nat) (w : World) (Q : Value → World → Prop) : Prop :=
  LoopW (S := (Option Addr × Nat × Nat) × Int × Unit) (fun s1 w2 next3 =>
  br (decide ((s1.2.1 : Int) < ((pages_n : Nat) : Int))) (rq Try.prog (Instr.indexAt 22 (.slice pages_ pages_n pages_c) (.int .i64 s1.2.1)) w2 fun v9 => fA v9 fun a10 =>
  ld Try.prog 4 (a10.add 0) w2 fun v11 => fB v11 fun b12 =>
  br b12 (rq Try.prog (Instr.indexAt 22 (.slice pages_ pages_n pages_c) (.int .i64 s1.2.1)) w2 fun v13 => fA v13 fun a14 =>
  ld Try.prog 4 (a14.add 1) w2 fun v15 => fB v15 fun b16 =>
  br (!b16) (rq Try.prog (Instr.indexAt 22 (.slice pages_ pages_n pages_c) (.int .i64 s1.2.1)) w2 fun v17 => fA v17 fun a18 =>
  ld Try.prog 4 (a18.add 2) w2 fun v19 => fB v19 fun b20 =>
  W.ref35_Select_k6 pages_ pages_n pages_c s1.1.1 s1.1.2.1 s1.1.2.2 s1.2.1 (!b20) next3 w2 Q) (W.ref35_Select_k6 pages_ pages_n pages_c s1.1.1 s1.1.2.1 s1.1.2.2 s1.2.1 false next3 w2 Q)) (W.ref35_Select_k6 pages_ pages_n pages_c s1.1.1 s1.1.2.1 s1.1.2.2 s1.2.1 false next3 w2 Q)) (Q (.slice s1.1.1 s1.1.2.1 s1.1.2.2) w2)) ((none, 0, 0), (0 : Int), ()) w
theorem E.ref35_Select (pages_ : Option Addr) (pages_n : Nat) (pages_c : Nat) (w : World) (Q : Value → World → Prop) : ev Try.prog Try.f17.ntmps callable [(3, [(3, .slice none 0 0), (4, .int .i64 0)], [0])] [] (Try.f17.body.getD .skip) (enumE 0 [(.slice pages_ pages_n pages_c)]) w (KQ Try.prog Try.f17.results.toList Q) = W.ref35_Select pages_ pages_n pages_c w Q := by kernel_rfl
theorem C.ref35_Select (pages_ : Option Addr) (pages_n : Nat) (pages_c : Nat) (w : World) (Q : Value → World → Prop) (h : W.ref35_Select pages_ pages_n pages_c w Q) : CallE Try.prog 17 #[(.slice pages_ pages_n pages_c)] w Q :=
  calls_of_ev mixed callable_ok (args := [(.slice pages_ pages_n pages_c)]) Try.func17 rfl ((E.ref35_Select pages_ pages_n pages_c w Q).symm ▸ h)

def W.law35_large (l_ : Option Addr) (l_n : Nat) (l_c : Nat) (w : World) (Q : Value → World → Prop) : Prop :=
  LoopW (S := Int × Unit) (fun s1 w2 next3 =>
  br (decide ((s1.1 : Int) < ((l_n : Nat) : Int))) (rq Try.prog (Instr.indexAt 33 (.slice l_ l_n l_c) (.int .i64 s1.1)) w2 fun v4 => fA v4 fun a5 =>
  ld Try.prog 79 (a5.add 1) w2 fun v6 => fS v6 fun l7 l7n l7c =>
  br (decide ((((l7n : Nat) : Int) : Int) > 64)) (Q (.bool true) w2) (next3 (((IntKind.wrap .i64 (s1.1 + 1)) : Int), ()) w2)) (Q (.bool (decide ((((l_n : Nat) : Int) : Int) > 6))) w2)) ((0 : Int), ()) w
theorem E.law35_large (l_ : Option Addr) (l_n : Nat) (l_c : Nat) (w : World) (Q : Value → World → Prop) : ev Try.prog Try.f18.ntmps callable [(2, [(3, .int .i64 0)], [0])] [] (Try.f18.body.getD .skip) (enumE 0 [(.slice l_ l_n l_c)]) w (KQ Try.prog Try.f18.results.toList Q) = W.law35_large l_ l_n l_c w Q := by kernel_rfl
theorem C.law35_large (l_ : Option Addr) (l_n : Nat) (l_c : Nat) (w : World) (Q : Value → World → Prop) (h : W.law35_large l_ l_n l_c w Q) : CallE Try.prog 18 #[(.slice l_ l_n l_c)] w Q :=
  calls_of_ev mixed callable_ok (args := [(.slice l_ l_n l_c)]) Try.func18 rfl ((E.law35_large l_ l_n l_c w Q).symm ▸ h)

def W.blockdev_New_k10 (p5 : Addr) (w : World) (Q : Value → World → Prop) : Prop :=
  ld Try.prog 49 (p5.add 0) w fun v9 => fS v9 fun l10 l10n l10c =>
  CallE Try.prog 62 #[(.slice l10 l10n l10c)] w fun v11 w12 => fS v11 fun l13 l13n l13c =>
  st Try.prog 49 (p5.add 1) (.slice l13 l13n l13c) w12 fun w14 =>
  Q (.tuple #[(.pointer (some p5)), (.int .i64 0)]) w14
def W.blockdev_New (sectors_ : Int) (w : World) (Q : Value → World → Prop) : Prop :=
  br (decide ((sectors_ : Int) < 1)) (Q (.tuple #[(.pointer none), (.int .i64 1)]) w) (br (decide ((sectors_ : Int) > 4096)) (Q (.tuple #[(.pointer none), (.int .i64 1)]) w) (CallE Try.prog 61 #[(.string ⟨#[0]⟩), (.int .i64 64)] w fun v1 w2 => fT v1 fun t3 =>
  rv Try.prog (Instr.makeSlice 49 (.int .i64 sectors_) (.int .i64 sectors_)) w2 fun v4 w5 => fS v4 fun l6 l6n l6c =>
  al 114 (#[(.slice l6 l6n l6c), (.slice none 0 0), (.slice none 0 0), (.bool false), (.bool false), (.int .i64 0), (.slice none 0 0)]) w5 fun a8 w7 =>
  ld Try.prog 49 (a8.add 0) w7 fun v15 => fS v15 fun l16 l16n l16c =>
  LoopW (S := Int × Unit) (fun s17 w18 next19 =>
  br (decide ((s17.1 : Int) < ((l16n : Nat) : Int))) (ld Try.prog 49 (a8.add 0) w18 fun v20 => fS v20 fun l21 l21n l21c =>
  rq Try.prog (Instr.indexAt 49 (.slice l21 l21n l21c) (.int .i64 s17.1)) w18 fun v22 => fA v22 fun a23 =>
  st Try.prog 9 a23 (.string t3) w18 fun w24 =>
  next19 (((IntKind.wrap .i64 (s17.1 + 1)) : Int), ()) w24) (W.blockdev_New_k10 a8 w18 Q)) ((0 : Int), ()) w7))
theorem E.blockdev_New (sectors_ : Int) (w : World) (Q : Value → World → Prop) : ev Try.prog Try.f19.ntmps callable [(6, [(23, .int .i64 0)], [4, 5, 22])] [] (Try.f19.body.getD .skip) (enumE 0 [(.int .i64 sectors_)]) w (KQ Try.prog Try.f19.results.toList Q) = W.blockdev_New sectors_ w Q := by kernel_rfl
theorem C.blockdev_New (sectors_ : Int) (w : World) (Q : Value → World → Prop) (h : W.blockdev_New sectors_ w Q) : CallE Try.prog 19 #[(.int .i64 sectors_)] w Q :=
  calls_of_ev mixed callable_ok (args := [(.int .i64 sectors_)]) Try.func19 rfl ((E.blockdev_New sectors_ w Q).symm ▸ h)

def W.law34_Some_k9 (p2 : Option Addr) (p2n : Nat) (p2c : Nat) (p6 : Addr) (p7 : Addr) (p8 : Int) (p9 : Int) (next14 : (Int × Int × Unit) → World → Prop) (w : World) (Q : Value → World → Prop) : Prop :=
  drawE fun S22 => S22 (drew w) ∧ (rqS Try.prog S22 (Instr.indexAt 33 (.slice p2 p2n p2c) (.int .i64 p9)) fun v23 => fA v23 fun a24 =>
  rqS Try.prog S22 (Instr.indexAt 33 (.slice p2 p2n p2c) (.int .i64 p9)) fun v25 => fA v25 fun a26 =>
  (ld Try.prog 39 (p7.add 33) (drew w) fun v27 => fS v27 fun l28 l28n l28c =>
  S22 (drew w) ∧ ((ld Try.prog 79 (a24.add 1) (drew w) fun v29 => fS v29 fun l30 l30n l30c =>
  S22 (drew w) ∧ (ld Try.prog 5 (a26.add 2) (drew w) fun v31 => fI .u8 v31 fun x32 =>
  S22 (drew w) ∧ (CallE Try.prog 42 #[(.slice l30 l30n l30c), (.int .u8 x32)] (drew w) fun v33 w34 => fT v33 fun t35 =>
  S22 w34 ∧ (al 85 #[(.int .i64 p8), (.string t35)] w34 fun a37 w36 =>
  S22 w36 ∧ (rv Try.prog (Builtin.append_ #[39, 39] 39 #[(.slice l28 l28n l28c), (.slice (some a37) 1 1)]) w36 fun v38 w39 => fS v38 fun l40 l40n l40c =>
  S22 w39 ∧ (st Try.prog 39 (p7.add 33) (.slice l40 l40n l40c) w39 fun w41 =>
  S22 w41 ∧ (next14 ((p8 : Int), ((IntKind.wrap .i64 (p9 + 1)) : Int), ()) w41))))))) ∧ (ld Try.prog 5 (a26.add 2) (drew w) fun v42 => fI .u8 v42 fun x43 =>
  S22 (drew w) ∧ (ld Try.prog 79 (a24.add 1) (drew w) fun v44 => fS v44 fun l45 l45n l45c =>
  S22 (drew w) ∧ (CallE Try.prog 42 #[(.slice l45 l45n l45c), (.int .u8 x43)] (drew w) fun v46 w47 => fT v46 fun t48 =>
  S22 w47 ∧ (al 85 #[(.int .i64 p8), (.string t48)] w47 fun a50 w49 =>
  S22 w49 ∧ (rv Try.prog (Builtin.append_ #[39, 39] 39 #[(.slice l28 l28n l28c), (.slice (some a50) 1 1)]) w49 fun v51 w52 => fS v51 fun l53 l53n l53c =>
  S22 w52 ∧ (st Try.prog 39 (p7.add 33) (.slice l53 l53n l53c) w52 fun w54 =>
  S22 w54 ∧ (next14 ((p8 : Int), ((IntKind.wrap .i64 (p9 + 1)) : Int), ()) w54))))))))) ∧ (ld Try.prog 79 (a24.add 1) (drew w) fun v55 => fS v55 fun l56 l56n l56c =>
  S22 (drew w) ∧ ((ld Try.prog 39 (p7.add 33) (drew w) fun v57 => fS v57 fun l58 l58n l58c =>
  S22 (drew w) ∧ (ld Try.prog 5 (a26.add 2) (drew w) fun v59 => fI .u8 v59 fun x60 =>
  S22 (drew w) ∧ (CallE Try.prog 42 #[(.slice l56 l56n l56c), (.int .u8 x60)] (drew w) fun v61 w62 => fT v61 fun t63 =>
  S22 w62 ∧ (al 85 #[(.int .i64 p8), (.string t63)] w62 fun a65 w64 =>
  S22 w64 ∧ (rv Try.prog (Builtin.append_ #[39, 39] 39 #[(.slice l58 l58n l58c), (.slice (some a65) 1 1)]) w64 fun v66 w67 => fS v66 fun l68 l68n l68c =>
  S22 w67 ∧ (st Try.prog 39 (p7.add 33) (.slice l68 l68n l68c) w67 fun w69 =>
  S22 w69 ∧ (next14 ((p8 : Int), ((IntKind.wrap .i64 (p9 + 1)) : Int), ()) w69))))))) ∧ (ld Try.prog 5 (a26.add 2) (drew w) fun v70 => fI .u8 v70 fun x71 =>
  S22 (drew w) ∧ ((ld Try.prog 39 (p7.add 33) (drew w) fun v72 => fS v72 fun l73 l73n l73c =>
  S22 (drew w) ∧ (CallE Try.prog 42 #[(.slice l56 l56n l56c), (.int .u8 x71)] (drew w) fun v74 w75 => fT v74 fun t76 =>
  S22 w75 ∧ (al 85 #[(.int .i64 p8), (.string t76)] w75 fun a78 w77 =>
  S22 w77 ∧ (rv Try.prog (Builtin.append_ #[39, 39] 39 #[(.slice l73 l73n l73c), (.slice (some a78) 1 1)]) w77 fun v79 w80 => fS v79 fun l81 l81n l81c =>
  S22 w80 ∧ (st Try.prog 39 (p7.add 33) (.slice l81 l81n l81c) w80 fun w82 =>
  S22 w82 ∧ (next14 ((p8 : Int), ((IntKind.wrap .i64 (p9 + 1)) : Int), ()) w82)))))) ∧ (CallE Try.prog 42 #[(.slice l56 l56n l56c), (.int .u8 x71)] (drew w) fun v83 w84 => fT v83 fun t85 =>
  S22 w84 ∧ ((ld Try.prog 39 (p7.add 33) w84 fun v86 => fS v86 fun l87 l87n l87c =>
  S22 w84 ∧ (al 85 #[(.int .i64 p8), (.string t85)] w84 fun a89 w88 =>
  S22 w88 ∧ (rv Try.prog (Builtin.append_ #[39, 39] 39 #[(.slice l87 l87n l87c), (.slice (some a89) 1 1)]) w88 fun v90 w91 => fS v90 fun l92 l92n l92c =>
  S22 w91 ∧ (st Try.prog 39 (p7.add 33) (.slice l92 l92n l92c) w91 fun w93 =>
  S22 w93 ∧ (next14 ((p8 : Int), ((IntKind.wrap .i64 (p9 + 1)) : Int), ()) w93))))) ∧ (al 85 #[(.int .i64 p8), (.string t85)] w84 fun a95 w94 =>
  S22 w94 ∧ (ld Try.prog 39 (p7.add 33) w94 fun v96 => fS v96 fun l97 l97n l97c =>
  S22 w94 ∧ (rv Try.prog (Builtin.append_ #[39, 39] 39 #[(.slice l97 l97n l97c), (.slice (some a95) 1 1)]) w94 fun v98 w99 => fS v98 fun l100 l100n l100c =>
  S22 w99 ∧ (st Try.prog 39 (p7.add 33) (.slice l100 l100n l100c) w99 fun w101 =>
  S22 w101 ∧ (next14 ((p8 : Int), ((IntKind.wrap .i64 (p9 + 1)) : Int), ()) w101))))))))))) ∧ (ld Try.prog 5 (a26.add 2) (drew w) fun v102 => fI .u8 v102 fun x103 =>
  S22 (drew w) ∧ ((ld Try.prog 39 (p7.add 33) (drew w) fun v104 => fS v104 fun l105 l105n l105c =>
  S22 (drew w) ∧ (ld Try.prog 79 (a24.add 1) (drew w) fun v106 => fS v106 fun l107 l107n l107c =>
  S22 (drew w) ∧ (CallE Try.prog 42 #[(.slice l107 l107n l107c), (.int .u8 x103)] (drew w) fun v108 w109 => fT v108 fun t110 =>
  S22 w109 ∧ (al 85 #[(.int .i64 p8), (.string t110)] w109 fun a112 w111 =>
  S22 w111 ∧ (rv Try.prog (Builtin.append_ #[39, 39] 39 #[(.slice l105 l105n l105c), (.slice (some a112) 1 1)]) w111 fun v113 w114 => fS v113 fun l115 l115n l115c =>
  S22 w114 ∧ (st Try.prog 39 (p7.add 33) (.slice l115 l115n l115c) w114 fun w116 =>
  S22 w116 ∧ (next14 ((p8 : Int), ((IntKind.wrap .i64 (p9 + 1)) : Int), ()) w116))))))) ∧ (ld Try.prog 79 (a24.add 1) (drew w) fun v117 => fS v117 fun l118 l118n l118c =>
  S22 (drew w) ∧ ((ld Try.prog 39 (p7.add 33) (drew w) fun v119 => fS v119 fun l120 l120n l120c =>
  S22 (drew w) ∧ (CallE Try.prog 42 #[(.slice l118 l118n l118c), (.int .u8 x103)] (drew w) fun v121 w122 => fT v121 fun t123 =>
  S22 w122 ∧ (al 85 #[(.int .i64 p8), (.string t123)] w122 fun a125 w124 =>
  S22 w124 ∧ (rv Try.prog (Builtin.append_ #[39, 39] 39 #[(.slice l120 l120n l120c), (.slice (some a125) 1 1)]) w124 fun v126 w127 => fS v126 fun l128 l128n l128c =>
  S22 w127 ∧ (st Try.prog 39 (p7.add 33) (.slice l128 l128n l128c) w127 fun w129 =>
  S22 w129 ∧ (next14 ((p8 : Int), ((IntKind.wrap .i64 (p9 + 1)) : Int), ()) w129)))))) ∧ (CallE Try.prog 42 #[(.slice l118 l118n l118c), (.int .u8 x103)] (drew w) fun v130 w131 => fT v130 fun t132 =>
  S22 w131 ∧ ((ld Try.prog 39 (p7.add 33) w131 fun v133 => fS v133 fun l134 l134n l134c =>
  S22 w131 ∧ (al 85 #[(.int .i64 p8), (.string t132)] w131 fun a136 w135 =>
  S22 w135 ∧ (rv Try.prog (Builtin.append_ #[39, 39] 39 #[(.slice l134 l134n l134c), (.slice (some a136) 1 1)]) w135 fun v137 w138 => fS v137 fun l139 l139n l139c =>
  S22 w138 ∧ (st Try.prog 39 (p7.add 33) (.slice l139 l139n l139c) w138 fun w140 =>
  S22 w140 ∧ (next14 ((p8 : Int), ((IntKind.wrap .i64 (p9 + 1)) : Int), ()) w140))))) ∧ (al 85 #[(.int .i64 p8), (.string t132)] w131 fun a142 w141 =>
  S22 w141 ∧ (ld Try.prog 39 (p7.add 33) w141 fun v143 => fS v143 fun l144 l144n l144c =>
  S22 w141 ∧ (rv Try.prog (Builtin.append_ #[39, 39] 39 #[(.slice l144 l144n l144c), (.slice (some a142) 1 1)]) w141 fun v145 w146 => fS v145 fun l147 l147n l147c =>
  S22 w146 ∧ (st Try.prog 39 (p7.add 33) (.slice l147 l147n l147c) w146 fun w148 =>
  S22 w148 ∧ (next14 ((p8 : Int), ((IntKind.wrap .i64 (p9 + 1)) : Int), ()) w148))))))))))))
def W.law34_Some (board_ : Array Value) (generation_ : Int) (l_ : Option Addr) (l_n : Nat) (l_c : Nat) (w : World) (Q : Value → World → Prop) : Prop :=
  al 31 board_ w fun a2 w1 =>
  al 41 (zeroT Try.prog 41).cells w1 fun a4 w3 =>
  ld Try.prog 31 a2 w3 fun v5 => fG v5 fun g6 =>
  rq Try.prog (Instr.build 41 #[(0, (.agg g6)), (1, (.int .u64 generation_))]) w3 fun v7 => fG v7 fun g8 =>
  al 41 (zeroT Try.prog 41).cells w3 fun a10 w9 =>
  st Try.prog 41 a10 (.agg g8) w9 fun w11 =>
  LoopW (S := Int × Int × Unit) (fun s12 w13 next14 =>
  br (decide ((s12.2.1 : Int) < ((l_n : Nat) : Int))) (br (decide ((s12.2.1 : Int) < 6)) (rq Try.prog (Instr.indexAt 33 (.slice l_ l_n l_c) (.int .i64 s12.2.1)) w13 fun v15 => fA v15 fun a16 =>
  ld Try.prog 3 (a16.add 0) w13 fun v17 => fI .i64 v17 fun x18 =>
  CallE Try.prog 24 #[(.int .i64 x18), (.int .i64 50)] w13 fun v19 w20 => fI .i64 v19 fun x21 =>
  br (decide ((s12.2.1 : Int) > 0)) (W.law34_Some_k9 l_ l_n l_c a4 a10 (IntKind.wrap .i64 ((IntKind.wrap .i64 (s12.1 + x21)) + 1)) s12.2.1 next14 w20 Q) (W.law34_Some_k9 l_ l_n l_c a4 a10 (IntKind.wrap .i64 (s12.1 + x21)) s12.2.1 next14 w20 Q)) (ld Try.prog 41 a10 w13 fun v149 => fG v149 fun g150 =>
  st Try.prog 41 a4 (.agg g150) w13 fun w151 =>
  ld Try.prog 41 a4 w151 fun v152 => fG v152 fun g153 =>
  Q (.agg g153) w151)) (ld Try.prog 41 a10 w13 fun v154 => fG v154 fun g155 =>
  st Try.prog 41 a4 (.agg g155) w13 fun w156 =>
  ld Try.prog 41 a4 w156 fun v157 => fG v157 fun g158 =>
  Q (.agg g158) w156)) ((0 : Int), (0 : Int), ()) w11
theorem E.law34_Some (board_ : Array Value) (generation_ : Int) (l_ : Option Addr) (l_n : Nat) (l_c : Nat) (w : World) (Q : Value → World → Prop) : ev Try.prog Try.f20.ntmps callable [(4, [(8, .int .i64 0), (9, .int .i64 0)], [2, 6, 7]), (1000009, [], [0])] [] (Try.f20.body.getD .skip) (enumE 0 [(.agg board_), (.int .u64 generation_), (.slice l_ l_n l_c)]) w (KQ Try.prog Try.f20.results.toList Q) = W.law34_Some board_ generation_ l_ l_n l_c w Q := by kernel_rfl
theorem C.law34_Some (board_ : Array Value) (generation_ : Int) (l_ : Option Addr) (l_n : Nat) (l_c : Nat) (w : World) (Q : Value → World → Prop) (h : W.law34_Some board_ generation_ l_ l_n l_c w Q) : CallE Try.prog 20 #[(.agg board_), (.int .u64 generation_), (.slice l_ l_n l_c)] w Q :=
  calls_of_ev mixed callable_ok (args := [(.agg board_), (.int .u64 generation_), (.slice l_ l_n l_c)]) Try.func20 rfl ((E.law34_Some board_ generation_ l_ l_n l_c w Q).symm ▸ h)

def W.hibernate_Save_k15 (p0 : Addr) (p5 : Option Addr) (p5n : Nat) (p5c : Nat) (w : World) (Q : Value → World → Prop) : Prop :=
  CallE Try.prog 65 #[(.pointer (some p0))] w fun v15 w16 => fI .i64 v15 fun x17 =>
  br ((x17 : Int) != 0) (Q (.int .i64 x17) w16) (rq Try.prog (Instr.indexAt 49 (.slice p5 p5n p5c) (.int .i64 0)) w16 fun v18 => fA v18 fun a19 =>
  ld Try.prog 9 a19 w16 fun v20 => fT v20 fun t21 =>
  CallE Try.prog 64 #[(.pointer (some p0)), (.int .i64 0), (.string t21)] w16 fun v22 w23 => fI .i64 v22 fun x24 =>
  br ((x24 : Int) != 0) (Q (.int .i64 x24) w23) (CallE Try.prog 65 #[(.pointer (some p0))] w23 fun v25 w26 => fI .i64 v25 fun x27 =>
  Q (.int .i64 x27) w26))
def W.hibernate_Save (d_ : Addr) (i_ : Array Value) (w : World) (Q : Value → World → Prop) : Prop :=
  al 41 i_ w fun a2 w1 =>
  ld Try.prog 41 a2 w1 fun v3 => fG v3 fun g4 =>
  CallE Try.prog 25 #[(.agg g4)] w1 fun v5 w6 => ∃ (l7 : Option Addr) (l7n : Nat) (l7c : Nat) (x8 : Int), v5 = .tuple #[(.slice l7 l7n l7c), (.int .i64 x8)] ∧
  br ((x8 : Int) != 0) (Q (.int .i64 x8) w6) (CallE Try.prog 63 #[(.pointer (some d_))] w6 fun v9 w10 => fI .i64 v9 fun x11 =>
  br (decide ((((l7n : Nat) : Int) : Int) > x11)) (Q (.int .i64 8) w10) (CallE Try.prog 50 #[(.pointer (some d_))] w10 fun v12 w13 => fI .i64 v12 fun x14 =>
  br ((x14 : Int) != 0) (Q (.int .i64 x14) w13) (LoopW (S := Int × Unit) (fun s28 w29 next30 =>
  br (decide ((s28.1 : Int) < ((l7n : Nat) : Int))) (rq Try.prog (Instr.indexAt 49 (.slice l7 l7n l7c) (.int .i64 s28.1)) w29 fun v31 => fA v31 fun a32 =>
  ld Try.prog 9 a32 w29 fun v33 => fT v33 fun t34 =>
  CallE Try.prog 64 #[(.pointer (some d_)), (.int .i64 s28.1), (.string t34)] w29 fun v35 w36 => fI .i64 v35 fun x37 =>
  br ((x37 : Int) != 0) (Q (.int .i64 x37) w36) (next30 (((IntKind.wrap .i64 (s28.1 + 1)) : Int), ()) w36)) (W.hibernate_Save_k15 d_ l7 l7n l7c w29 Q)) ((1 : Int), ()) w13)))
theorem E.hibernate_Save (d_ : Addr) (i_ : Array Value) (w : World) (Q : Value → World → Prop) : ev Try.prog Try.f21.ntmps callable [(10, [(8, .int .i64 0)], [0, 5])] [] (Try.f21.body.getD .skip) (enumE 0 [(.pointer (some d_)), (.agg i_)]) w (KQ Try.prog Try.f21.results.toList Q) = W.hibernate_Save d_ i_ w Q := by kernel_rfl
theorem C.hibernate_Save (d_ : Addr) (i_ : Array Value) (w : World) (Q : Value → World → Prop) (h : W.hibernate_Save d_ i_ w Q) : CallE Try.prog 21 #[(.pointer (some d_)), (.agg i_)] w Q :=
  calls_of_ev mixed callable_ok (args := [(.pointer (some d_)), (.agg i_)]) Try.func21 rfl ((E.hibernate_Save d_ i_ w Q).symm ▸ h)
end Go.Proofs.Ytpinpccamfhofaa
