/- The conditions of the functions of this translation, written out by a program; each is an equation that the kernel checks. No condition. -/
import Derived.Test.YtgnmbenhpjkbfaaEng
import Derived.Test.YtgnmbenhpjkbfaaChecked
import Derived.Test.YtgnmbenhpjkbfaaW0
set_option maxRecDepth 100000
set_option linter.unusedVariables false
namespace Go.Proofs.Ytgnmbenhpjkbfaa
open Go Go.Ev Go.Proofs
def W.law32_BlockdevArguments_k12 (p1 : Int) (p2 : ByteArray) (p11 : Option Addr) (p13 : Int) (w : World) (Q : Value → World → Prop) : Prop :=
  CallE Try.prog 12 #[(.pointer p11), (.int .i64 p1), (.string p2)] w fun v9 w10 => fI .i64 v9 fun x11 =>
  br ((x11 : Int) == p13) (CallE Try.prog 13 #[] w10 fun v12 w13 => fB v12 fun b14 =>
  Q (.bool b14) w13) (Q (.bool false) w10)
def W.law32_BlockdevArguments_k10 (p1 : Int) (p2 : ByteArray) (p11 : Option Addr) (p13 : Int) (w : World) (Q : Value → World → Prop) : Prop :=
  br (decide ((p1 : Int) < 0)) (W.law32_BlockdevArguments_k12 p1 p2 p11 1 w Q) (br (decide ((p1 : Int) > 2)) (W.law32_BlockdevArguments_k12 p1 p2 p11 1 w Q) (br ((((p2.size : Nat) : Int) : Int) != 64) (W.law32_BlockdevArguments_k12 p1 p2 p11 1 w Q) (W.law32_BlockdevArguments_k12 p1 p2 p11 p13 w Q)))
def W.law32_BlockdevArguments_k7 (p1 : Int) (p2 : ByteArray) (p3 : Bool) (p11 : Option Addr) (w : World) (Q : Value → World → Prop) : Prop :=
  br p3 (W.law32_BlockdevArguments_k10 p1 p2 p11 16 w Q) (W.law32_BlockdevArguments_k10 p1 p2 p11 0 w Q)
def W.law32_BlockdevArguments_k4 (p1 : Int) (p2 : ByteArray) (p3 : Bool) (w : World) (Q : Value → World → Prop) : Prop :=
  CallE Try.prog 10 #[(.int .i64 3)] w fun v5 w6 => ∃ (p7 : Option Addr) (x8 : Int), v5 = .tuple #[(.pointer p7), (.int .i64 x8)] ∧
  br ((x8 : Int) != 0) (Q (.bool false) w6) (rq Try.prog (do eqGuard .eql 22 (.tmp 47) (.const (.pointer none)) (.pointer p7) (.pointer none); binOp .eql 22 (.pointer p7) (.pointer none)) w6 fun v15 => fB v15 fun b16 =>
  br b16 (Q (.bool false) w6) (br p3 (CallE Try.prog 11 #[(.pointer p7), (.slice none 0 0)] w6 fun v17 w18 => fI .i64 v17 fun x19 =>
  br ((x19 : Int) != 0) (Q (.bool false) w18) (W.law32_BlockdevArguments_k7 p1 p2 p3 p7 w18 Q)) (W.law32_BlockdevArguments_k7 p1 p2 p3 p7 w6 Q)))
def W.law32_BlockdevArguments (n_ : Int) (at_ : Int) (data_ : ByteArray) (off_ : Bool) (w : World) (Q : Value → World → Prop) : Prop :=
  CallE Try.prog 10 #[(.int .i64 n_)] w fun v1 w2 => ∃ (p3 : Option Addr) (x4 : Int), v1 = .tuple #[(.pointer p3), (.int .i64 x4)] ∧
  br (decide ((n_ : Int) ≥ 1)) (br (!(((x4 : Int) == 0) == (decide ((n_ : Int) ≤ 4096)))) (Q (.bool false) w2) (br ((x4 : Int) != 0) (br ((x4 : Int) != 1) (Q (.bool false) w2) (rq Try.prog (do eqGuard .neq 22 (.tmp 35) (.const (.pointer none)) (.pointer p3) (.pointer none); binOp .neq 22 (.pointer p3) (.pointer none)) w2 fun v20 => fB v20 fun b21 =>
  br b21 (Q (.bool false) w2) (W.law32_BlockdevArguments_k4 at_ data_ off_ w2 Q))) (W.law32_BlockdevArguments_k4 at_ data_ off_ w2 Q))) (br (!(((x4 : Int) == 0) == false)) (Q (.bool false) w2) (br ((x4 : Int) != 0) (br ((x4 : Int) != 1) (Q (.bool false) w2) (rq Try.prog (do eqGuard .neq 22 (.tmp 35) (.const (.pointer none)) (.pointer p3) (.pointer none); binOp .neq 22 (.pointer p3) (.pointer none)) w2 fun v22 => fB v22 fun b23 =>
  br b23 (Q (.bool false) w2) (W.law32_BlockdevArguments_k4 at_ data_ off_ w2 Q))) (W.law32_BlockdevArguments_k4 at_ data_ off_ w2 Q)))
theorem E.law32_BlockdevArguments (n_ : Int) (at_ : Int) (data_ : ByteArray) (off_ : Bool) (w : World) (Q : Value → World → Prop) : ev Try.prog Try.f3.ntmps callable [] [] (Try.f3.body.getD .skip) (enumE 0 [(.int .i64 n_), (.int .i64 at_), (.string data_), (.bool off_)]) w (KQ Try.prog Try.f3.results.toList Q) = W.law32_BlockdevArguments n_ at_ data_ off_ w Q := by kernel_rfl
theorem C.law32_BlockdevArguments (n_ : Int) (at_ : Int) (data_ : ByteArray) (off_ : Bool) (w : World) (Q : Value → World → Prop) (h : W.law32_BlockdevArguments n_ at_ data_ off_ w Q) : CallE Try.prog 3 #[(.int .i64 n_), (.int .i64 at_), (.string data_), (.bool off_)] w Q :=
  calls_of_ev mixed callable_ok (args := [(.int .i64 n_), (.int .i64 at_), (.string data_), (.bool off_)]) Try.func3 rfl ((E.law32_BlockdevArguments n_ at_ data_ off_ w Q).symm ▸ h)

def W.law32_BlockdevContentsAreCopies_k22 (p5 : Option Addr) (p7 : Option Addr) (w : World) (Q : Value → World → Prop) : Prop :=
  CallE Try.prog 15 #[(.pointer p5)] w fun v25 w26 => fS v25 fun l27 l27n l27c =>
  CallE Try.prog 15 #[(.pointer p7)] w26 fun v28 w29 => fS v28 fun l30 l30n l30c =>
  CallE Try.prog 18 #[(.slice l27 l27n l27c), (.slice l30 l30n l30c)] w29 fun v31 w32 => fB v31 fun b33 =>
  br b33 (CallE Try.prog 13 #[] w32 fun v34 w35 => fB v34 fun b36 =>
  Q (.bool b36) w35) (Q (.bool false) w32)
def W.law32_BlockdevContentsAreCopies_k20 (p0 : Option Addr) (p0n : Nat) (p0c : Nat) (p5 : Option Addr) (p7 : Option Addr) (p11 : Int) (next39 : (Int × Unit) → World → Prop) (w : World) (Q : Value → World → Prop) : Prop :=
  drawE fun S40 => S40 (drew w) ∧ (rqS Try.prog S40 (Instr.indexAt 30 (.slice p0 p0n p0c) (.int .i64 p11)) fun v41 => fA v41 fun a42 =>
  ldS Try.prog S40 3 (a42.add 1) fun v43 => fI .i64 v43 fun x44 =>
  rqS Try.prog S40 (Instr.indexAt 30 (.slice p0 p0n p0c) (.int .i64 p11)) fun v45 => fA v45 fun a46 =>
  ldS Try.prog S40 3 (a46.add 2) fun v47 => fI .i64 v47 fun x48 =>
  rqS Try.prog S40 (Instr.indexAt 30 (.slice p0 p0n p0c) (.int .i64 p11)) fun v49 => fA v49 fun a50 =>
  ldS Try.prog S40 3 (a50.add 1) fun v51 => fI .i64 v51 fun x52 =>
  rqS Try.prog S40 (Instr.indexAt 30 (.slice p0 p0n p0c) (.int .i64 p11)) fun v53 => fA v53 fun a54 =>
  ldS Try.prog S40 3 (a54.add 2) fun v55 => fI .i64 v55 fun x56 =>
  CallE Try.prog 16 #[(.int .i64 x44), (.int .i64 3)] (drew w) fun v57 w58 => fI .i64 v57 fun x59 =>
  S40 w58 ∧ (CallE Try.prog 17 #[(.int .i64 x48)] w58 fun v60 w61 => fT v60 fun t62 =>
  S40 w61 ∧ (CallE Try.prog 12 #[(.pointer p5), (.int .i64 x59), (.string t62)] w61 fun v63 w64 => fI .i64 v63 fun x65 =>
  S40 w64 ∧ (CallE Try.prog 16 #[(.int .i64 x52), (.int .i64 3)] w64 fun v66 w67 => fI .i64 v66 fun x68 =>
  S40 w67 ∧ (CallE Try.prog 17 #[(.int .i64 x56)] w67 fun v69 w70 => fT v69 fun t71 =>
  S40 w70 ∧ (CallE Try.prog 12 #[(.pointer p7), (.int .i64 x68), (.string t71)] w70 fun v72 w73 => fI .i64 v72 fun x74 =>
  S40 w73 ∧ (br ((x65 : Int) != x74) (Q (.bool false) w73) (next39 (((IntKind.wrap .i64 (p11 + 1)) : Int), ()) w73))))))))
def W.law32_BlockdevContentsAreCopies_k14 (p0 : Option Addr) (p0n : Nat) (p0c : Nat) (p5 : Option Addr) (p7 : Option Addr) (w : World) (Q : Value → World → Prop) : Prop :=
  LoopW (S := Int × Unit) (fun s37 w38 next39 =>
  br (decide ((s37.1 : Int) < ((p0n : Nat) : Int))) (CallE Try.prog 15 #[(.pointer p5)] w38 fun v75 w76 => fS v75 fun l77 l77n l77c =>
  br ((((l77n : Nat) : Int) : Int) == 3) (rq Try.prog (Instr.indexAt 33 (.slice l77 l77n l77c) (.int .i64 (Int.tmod s37.1 3))) w76 fun v78 => fA v78 fun a79 =>
  st Try.prog 9 a79 (.string ⟨#[99,104,97,110,103,101,100]⟩) w76 fun w80 =>
  W.law32_BlockdevContentsAreCopies_k20 p0 p0n p0c p5 p7 s37.1 next39 w80 Q) (W.law32_BlockdevContentsAreCopies_k20 p0 p0n p0c p5 p7 s37.1 next39 w76 Q)) (W.law32_BlockdevContentsAreCopies_k22 p5 p7 w38 Q)) ((0 : Int), ()) w
def W.law32_BlockdevContentsAreCopies_k2 (p0 : Option Addr) (p0n : Nat) (p0c : Nat) (p1 : Option Addr) (p1n : Nat) (p1c : Nat) (p20 : Bool) (w : World) (Q : Value → World → Prop) : Prop :=
  br p20 (CallE Try.prog 13 #[] w fun v1 w2 => fB v1 fun b3 =>
  Q (.bool b3) w2) (CallE Try.prog 10 #[(.int .i64 3)] w fun v4 w5 => ∃ (p6 : Option Addr) (x7 : Int), v4 = .tuple #[(.pointer p6), (.int .i64 x7)] ∧
  CallE Try.prog 10 #[(.int .i64 3)] w5 fun v8 w9 => ∃ (p10 : Option Addr) (x11 : Int), v8 = .tuple #[(.pointer p10), (.int .i64 x11)] ∧
  br ((x7 : Int) != 0) (Q (.bool false) w9) (br ((x11 : Int) != 0) (Q (.bool false) w9) (rq Try.prog (do eqGuard .eql 22 (.tmp 37) (.const (.pointer none)) (.pointer p6) (.pointer none); binOp .eql 22 (.pointer p6) (.pointer none)) w9 fun v12 => fB v12 fun b13 =>
  br b13 (Q (.bool false) w9) (rq Try.prog (do eqGuard .eql 22 (.tmp 41) (.const (.pointer none)) (.pointer p10) (.pointer none); binOp .eql 22 (.pointer p10) (.pointer none)) w9 fun v14 => fB v14 fun b15 =>
  br b15 (Q (.bool false) w9) (al 4 #[] w9 fun a17 w16 =>
  rv Try.prog (Builtin.append_ #[31, 31] 31 #[(.slice (some a17) 0 0), (.slice p1 p1n p1c)]) w16 fun v18 w19 => fS v18 fun l20 l20n l20c =>
  CallE Try.prog 14 #[(.pointer p6), (.int .i64 (IntKind.wrap .i64 (((p0n : Nat) : Int) - 1))), (.slice l20 l20n l20c)] w19 fun v21 w22 => v21 = .tuple #[] ∧
  CallE Try.prog 14 #[(.pointer p10), (.int .i64 (IntKind.wrap .i64 (((p0n : Nat) : Int) - 1))), (.slice p1 p1n p1c)] w22 fun v23 w24 => v23 = .tuple #[] ∧
  LoopW (S := Int × Unit) (fun s81 w82 next83 =>
  br (decide ((s81.1 : Int) < ((l20n : Nat) : Int))) (rq Try.prog (Instr.indexAt 31 (.slice l20 l20n l20c) (.int .i64 s81.1)) w82 fun v84 => fA v84 fun a85 =>
  ld Try.prog 4 a85 w82 fun v86 => fB v86 fun b87 =>
  rq Try.prog (Instr.indexAt 31 (.slice l20 l20n l20c) (.int .i64 s81.1)) w82 fun v88 => fA v88 fun a89 =>
  st Try.prog 4 a89 (.bool (!b87)) w82 fun w90 =>
  next83 (((IntKind.wrap .i64 (s81.1 + 1)) : Int), ()) w90) (W.law32_BlockdevContentsAreCopies_k14 p0 p0n p0c p6 p10 w82 Q)) ((0 : Int), ()) w24)))))
def W.law32_BlockdevContentsAreCopies (l_ : Option Addr) (l_n : Nat) (l_c : Nat) (keep_ : Option Addr) (keep_n : Nat) (keep_c : Nat) (w : World) (Q : Value → World → Prop) : Prop :=
  br (decide ((((l_n : Nat) : Int) : Int) > 20)) (W.law32_BlockdevContentsAreCopies_k2 l_ l_n l_c keep_ keep_n keep_c true w Q) (W.law32_BlockdevContentsAreCopies_k2 l_ l_n l_c keep_ keep_n keep_c ((((l_n : Nat) : Int) : Int) == 0) w Q)
theorem E.law32_BlockdevContentsAreCopies (l_ : Option Addr) (l_n : Nat) (l_c : Nat) (keep_ : Option Addr) (keep_n : Nat) (keep_c : Nat) (w : World) (Q : Value → World → Prop) : ev Try.prog Try.f4.ntmps callable [(15, [(11, .int .i64 0)], [0, 5, 7]), (11, [(10, .int .i64 0)], [0, 5, 7, 9])] [] (Try.f4.body.getD .skip) (enumE 0 [(.slice l_ l_n l_c), (.slice keep_ keep_n keep_c)]) w (KQ Try.prog Try.f4.results.toList Q) = W.law32_BlockdevContentsAreCopies l_ l_n l_c keep_ keep_n keep_c w Q := by kernel_rfl
theorem C.law32_BlockdevContentsAreCopies (l_ : Option Addr) (l_n : Nat) (l_c : Nat) (keep_ : Option Addr) (keep_n : Nat) (keep_c : Nat) (w : World) (Q : Value → World → Prop) (h : W.law32_BlockdevContentsAreCopies l_ l_n l_c keep_ keep_n keep_c w Q) : CallE Try.prog 4 #[(.slice l_ l_n l_c), (.slice keep_ keep_n keep_c)] w Q :=
  calls_of_ev mixed callable_ok (args := [(.slice l_ l_n l_c), (.slice keep_ keep_n keep_c)]) Try.func4 rfl ((E.law32_BlockdevContentsAreCopies l_ l_n l_c keep_ keep_n keep_c w Q).symm ▸ h)

def W.law32_BlockdevReadsLastWrite_k30 (w : World) (Q : Value → World → Prop) : Prop :=
  CallE Try.prog 13 #[] w fun v16 w17 => fB v16 fun b18 =>
  Q (.bool b18) w17
def W.law32_BlockdevReadsLastWrite_k24 (p1 : Option Addr) (p1n : Nat) (p1c : Nat) (p5 : Int) (p6 : Option Addr) (p8 : Option Addr) (p8n : Nat) (p8c : Nat) (p10 : Int) (next21 : (Int × Unit) → World → Prop) (w : World) (Q : Value → World → Prop) : Prop :=
  LoopW (S := Int × Unit) (fun s34 w35 next36 =>
  br (decide ((s34.1 : Int) < p5)) (CallE Try.prog 21 #[(.pointer p6), (.int .i64 s34.1)] w35 fun v37 w38 => ∃ (t39 : ByteArray) (x40 : Int), v37 = .tuple #[(.string t39), (.int .i64 x40)] ∧
  br ((x40 : Int) != 0) (Q (.bool false) w38) (rq Try.prog (Instr.indexAt 33 (.slice p8 p8n p8c) (.int .i64 s34.1)) w38 fun v41 => fA v41 fun a42 =>
  ld Try.prog 9 a42 w38 fun v43 => fT v43 fun t44 =>
  rq Try.prog (do eqGuard .neq 9 (.tmp 110) (.tmp 114) (.string t39) (.string t44); binOp .neq 9 (.string t39) (.string t44)) w38 fun v45 => fB v45 fun b46 =>
  br b46 (Q (.bool false) w38) (next36 (((IntKind.wrap .i64 (s34.1 + 1)) : Int), ()) w38))) (next21 (((IntKind.wrap .i64 (p10 + 1)) : Int), ()) w35)) ((0 : Int), ()) w
def W.law32_BlockdevReadsLastWrite_k12 (p1 : Option Addr) (p1n : Nat) (p1c : Nat) (p5 : Int) (p6 : Option Addr) (p8 : Option Addr) (p8n : Nat) (p8c : Nat) (w : World) (Q : Value → World → Prop) : Prop :=
  LoopW (S := Int × Unit) (fun s19 w20 next21 =>
  br (decide ((s19.1 : Int) < ((p1n : Nat) : Int))) (rq Try.prog (Instr.indexAt 30 (.slice p1 p1n p1c) (.int .i64 s19.1)) w20 fun v22 => fA v22 fun a23 =>
  ld Try.prog 37 a23 w20 fun v24 => fG v24 fun g25 =>
  al 37 (zeroT Try.prog 37).cells w20 fun a27 w26 =>
  st Try.prog 37 a27 (.agg g25) w26 fun w28 =>
  ld Try.prog 3 (a27.add 1) w28 fun v29 => fI .i64 v29 fun x30 =>
  CallE Try.prog 16 #[(.int .i64 x30), (.int .i64 p5)] w28 fun v31 w32 => fI .i64 v31 fun x33 =>
  ld Try.prog 3 (a27.add 0) w32 fun v47 => fI .i64 v47 fun x48 =>
  CallE Try.prog 16 #[(.int .i64 x48), (.int .i64 10)] w32 fun v49 w50 => fI .i64 v49 fun x51 =>
  br ((x51 : Int) == 5) (CallE Try.prog 19 #[(.pointer p6)] w50 fun v52 w53 => fI .i64 v52 fun x54 =>
  br ((x54 : Int) != 0) (Q (.bool false) w53) (CallE Try.prog 20 #[(.pointer p6)] w53 fun v55 w56 => fI .i64 v55 fun x57 =>
  br ((x57 : Int) != 0) (Q (.bool false) w56) (CallE Try.prog 15 #[(.pointer p6)] w56 fun v58 w59 => fS v58 fun l60 l60n l60c =>
  CallE Try.prog 18 #[(.slice l60 l60n l60c), (.slice p8 p8n p8c)] w59 fun v61 w62 => fB v61 fun b63 =>
  br (!b63) (Q (.bool false) w62) (W.law32_BlockdevReadsLastWrite_k24 p1 p1n p1c p5 p6 p8 p8n p8c s19.1 next21 w62 Q)))) (ld Try.prog 3 (a27.add 0) w50 fun v64 => fI .i64 v64 fun x65 =>
  CallE Try.prog 16 #[(.int .i64 x65), (.int .i64 10)] w50 fun v66 w67 => fI .i64 v66 fun x68 =>
  br (decide ((x68 : Int) < 4)) (ld Try.prog 3 (a27.add 2) w67 fun v69 => fI .i64 v69 fun x70 =>
  CallE Try.prog 17 #[(.int .i64 x70)] w67 fun v71 w72 => fT v71 fun t73 =>
  CallE Try.prog 12 #[(.pointer p6), (.int .i64 x33), (.string t73)] w72 fun v74 w75 => fI .i64 v74 fun x76 =>
  br ((x76 : Int) != 0) (Q (.bool false) w75) (ld Try.prog 3 (a27.add 2) w75 fun v77 => fI .i64 v77 fun x78 =>
  CallE Try.prog 17 #[(.int .i64 x78)] w75 fun v79 w80 => fT v79 fun t81 =>
  rq Try.prog (Instr.indexAt 33 (.slice p8 p8n p8c) (.int .i64 x33)) w80 fun v82 => fA v82 fun a83 =>
  st Try.prog 9 a83 (.string t81) w80 fun w84 =>
  W.law32_BlockdevReadsLastWrite_k24 p1 p1n p1c p5 p6 p8 p8n p8c s19.1 next21 w84 Q)) (W.law32_BlockdevReadsLastWrite_k24 p1 p1n p1c p5 p6 p8 p8n p8c s19.1 next21 w67 Q))) (W.law32_BlockdevReadsLastWrite_k30  w20 Q)) ((0 : Int), ()) w
def W.law32_BlockdevReadsLastWrite (n_ : Int) (l_ : Option Addr) (l_n : Nat) (l_c : Nat) (w : World) (Q : Value → World → Prop) : Prop :=
  br (decide ((((l_n : Nat) : Int) : Int) > 60)) (CallE Try.prog 13 #[] w fun v1 w2 => fB v1 fun b3 =>
  Q (.bool b3) w2) (CallE Try.prog 16 #[(.int .i64 n_), (.int .i64 5)] w fun v4 w5 => fI .i64 v4 fun x6 =>
  CallE Try.prog 10 #[(.int .i64 (IntKind.wrap .i64 (1 + x6)))] w5 fun v7 w8 => ∃ (p9 : Option Addr) (x10 : Int), v7 = .tuple #[(.pointer p9), (.int .i64 x10)] ∧
  br ((x10 : Int) != 0) (Q (.bool false) w8) (rq Try.prog (do eqGuard .eql 22 (.tmp 31) (.const (.pointer none)) (.pointer p9) (.pointer none); binOp .eql 22 (.pointer p9) (.pointer none)) w8 fun v11 => fB v11 fun b12 =>
  br b12 (Q (.bool false) w8) (rv Try.prog (Instr.makeSlice 33 (.int .i64 (IntKind.wrap .i64 (1 + x6))) (.int .i64 (IntKind.wrap .i64 (1 + x6)))) w8 fun v13 w14 => fS v13 fun l15 l15n l15c =>
  LoopW (S := Int × Unit) (fun s85 w86 next87 =>
  br (decide ((s85.1 : Int) < (IntKind.wrap .i64 (1 + x6)))) (rv Try.prog (Instr.makeSlice 41 (.int .i64 64) (.int .i64 64)) w86 fun v88 w89 => fS v88 fun l90 l90n l90c =>
  rv Try.prog (convert 41 9 (.slice l90 l90n l90c)) w89 fun v91 w92 => fT v91 fun t93 =>
  rq Try.prog (Instr.indexAt 33 (.slice l15 l15n l15c) (.int .i64 s85.1)) w92 fun v94 => fA v94 fun a95 =>
  st Try.prog 9 a95 (.string t93) w92 fun w96 =>
  next87 (((IntKind.wrap .i64 (s85.1 + 1)) : Int), ()) w96) (W.law32_BlockdevReadsLastWrite_k12 l_ l_n l_c (IntKind.wrap .i64 (1 + x6)) p9 l15 l15n l15c w86 Q)) ((0 : Int), ()) w14)))
theorem E.law32_BlockdevReadsLastWrite (n_ : Int) (l_ : Option Addr) (l_n : Nat) (l_c : Nat) (w : World) (Q : Value → World → Prop) : ev Try.prog Try.f5.ntmps callable [(13, [(10, .int .i64 0)], [1, 5, 6, 8]), (25, [(13, .int .i64 0)], [1, 5, 6, 8, 10]), (9, [(9, .int .i64 0)], [1, 5, 6, 8])] [] (Try.f5.body.getD .skip) (enumE 0 [(.int .i64 n_), (.slice l_ l_n l_c)]) w (KQ Try.prog Try.f5.results.toList Q) = W.law32_BlockdevReadsLastWrite n_ l_ l_n l_c w Q := by kernel_rfl
theorem C.law32_BlockdevReadsLastWrite (n_ : Int) (l_ : Option Addr) (l_n : Nat) (l_c : Nat) (w : World) (Q : Value → World → Prop) (h : W.law32_BlockdevReadsLastWrite n_ l_ l_n l_c w Q) : CallE Try.prog 5 #[(.int .i64 n_), (.slice l_ l_n l_c)] w Q :=
  calls_of_ev mixed callable_ok (args := [(.int .i64 n_), (.slice l_ l_n l_c)]) Try.func5 rfl ((E.law32_BlockdevReadsLastWrite n_ l_ l_n l_c w Q).symm ▸ h)

def W.law32_BlockdevPowerLoss_k44 (w : World) (Q : Value → World → Prop) : Prop :=
  CallE Try.prog 13 #[] w fun v33 w34 => fB v33 fun b35 =>
  Q (.bool b35) w34
def W.law32_BlockdevPowerLoss_k41 (p2 : Option Addr) (p2n : Nat) (p2c : Nat) (p9 : Int) (p10 : Option Addr) (p13 : Option Addr) (p13n : Nat) (p13c : Nat) (p19 : Option Addr) (p19n : Nat) (p19c : Nat) (p20 : Int) (p21 : Bool) (next38 : (Int × Unit) → World → Prop) (w : World) (Q : Value → World → Prop) : Prop :=
  CallE Try.prog 21 #[(.pointer p10), (.int .i64 p20)] w fun v50 w51 => ∃ (t52 : ByteArray) (x53 : Int), v50 = .tuple #[(.string t52), (.int .i64 x53)] ∧
  br (!p21) (Q (.bool false) w51) (br ((x53 : Int) != 0) (Q (.bool false) w51) (rq Try.prog (Instr.indexAt 33 (.slice p19 p19n p19c) (.int .i64 p20)) w51 fun v54 => fA v54 fun a55 =>
  ld Try.prog 9 a55 w51 fun v56 => fT v56 fun t57 =>
  rq Try.prog (do eqGuard .neq 9 (.tmp 232) (.tmp 236) (.string t52) (.string t57); binOp .neq 9 (.string t52) (.string t57)) w51 fun v58 => fB v58 fun b59 =>
  br b59 (Q (.bool false) w51) (next38 (((IntKind.wrap .i64 (p20 + 1)) : Int), ()) w51)))
def W.law32_BlockdevPowerLoss_k33 (p2 : Option Addr) (p2n : Nat) (p2c : Nat) (p9 : Int) (p10 : Option Addr) (p13 : Option Addr) (p13n : Nat) (p13c : Nat) (p19 : Option Addr) (p19n : Nat) (p19c : Nat) (w : World) (Q : Value → World → Prop) : Prop :=
  LoopW (S := Int × Unit) (fun s36 w37 next38 =>
  br (decide ((s36.1 : Int) < p9)) (dr w37 fun w39 =>
  rq Try.prog (Instr.indexAt 33 (.slice p19 p19n p19c) (.int .i64 s36.1)) w39 fun v40 => fA v40 fun a41 =>
  ld Try.prog 9 a41 w39 fun v42 => fT v42 fun t43 =>
  rq Try.prog (Instr.indexAt 33 (.slice p13 p13n p13c) (.int .i64 s36.1)) w39 fun v44 => fA v44 fun a45 =>
  ld Try.prog 9 a45 w39 fun v46 => fT v46 fun t47 =>
  rq Try.prog (do eqGuard .eql 9 (.tmp 182) (.tmp 186) (.string t43) (.string t47); binOp .eql 9 (.string t43) (.string t47)) w39 fun v48 => fB v48 fun b49 =>
  LoopW (S := Bool × Int × Unit) (fun s60 w61 next62 =>
  br (decide ((s60.2.1 : Int) < ((p2n : Nat) : Int))) (drawE fun S63 => S63 (drew w61) ∧ (br s60.1 (S63 (drew w61) ∧ (S63 (drew w61) ∧ (next62 (true, ((IntKind.wrap .i64 (s60.2.1 + 1)) : Int), ()) (drew w61)))) (rqS Try.prog S63 (Instr.indexAt 30 (.slice p2 p2n p2c) (.int .i64 s60.2.1)) fun v64 => fA v64 fun a65 =>
  ldS Try.prog S63 3 (a65.add 1) fun v66 => fI .i64 v66 fun x67 =>
  CallE Try.prog 16 #[(.int .i64 x67), (.int .i64 p9)] (drew w61) fun v68 w69 => fI .i64 v68 fun x70 =>
  S63 w69 ∧ (br ((x70 : Int) == s36.1) (rqS Try.prog S63 (Instr.indexAt 33 (.slice p19 p19n p19c) (.int .i64 s36.1)) fun v71 => fA v71 fun a72 =>
  ldS Try.prog S63 9 a72 fun v73 => fT v73 fun t74 =>
  rqS Try.prog S63 (Instr.indexAt 30 (.slice p2 p2n p2c) (.int .i64 s60.2.1)) fun v75 => fA v75 fun a76 =>
  ldS Try.prog S63 3 (a76.add 2) fun v77 => fI .i64 v77 fun x78 =>
  CallE Try.prog 17 #[(.int .i64 x78)] w69 fun v79 w80 => fT v79 fun t81 =>
  S63 w80 ∧ (rqS Try.prog S63 (do eqGuard .eql 9 (.tmp 209) (.tmp 215) (.string t74) (.string t81); binOp .eql 9 (.string t74) (.string t81)) fun v82 => fB v82 fun b83 =>
  next62 (b83, ((IntKind.wrap .i64 (s60.2.1 + 1)) : Int), ()) w80)) (S63 w69 ∧ (next62 (false, ((IntKind.wrap .i64 (s60.2.1 + 1)) : Int), ()) w69)))))) (W.law32_BlockdevPowerLoss_k41 p2 p2n p2c p9 p10 p13 p13n p13c p19 p19n p19c s36.1 s60.1 next38 w61 Q)) (b49, (0 : Int), ()) w39) (W.law32_BlockdevPowerLoss_k44  w37 Q)) ((0 : Int), ()) w
def W.law32_BlockdevPowerLoss_k28 (p2 : Option Addr) (p2n : Nat) (p2c : Nat) (p3 : Option Addr) (p3n : Nat) (p3c : Nat) (p9 : Int) (p10 : Option Addr) (p13 : Option Addr) (p13n : Nat) (p13c : Nat) (p14 : Option Addr) (p14n : Nat) (p14c : Nat) (p15 : Bool) (p16 : Bool) (w : World) (Q : Value → World → Prop) : Prop :=
  CallE Try.prog 11 #[(.pointer p10), (.slice p3 p3n p3c)] w fun v24 w25 => fI .i64 v24 fun x26 =>
  br ((x26 : Int) != 0) (Q (.bool false) w25) (CallE Try.prog 22 #[(.pointer p10)] w25 fun v27 w28 => fI .i64 v27 fun x29 =>
  br ((x29 : Int) != 0) (Q (.bool false) w28) (CallE Try.prog 15 #[(.pointer p10)] w28 fun v30 w31 => fS v30 fun l32 l32n l32c =>
  br ((((l32n : Nat) : Int) : Int) != p9) (Q (.bool false) w31) (br p15 (CallE Try.prog 18 #[(.slice l32 l32n l32c), (.slice p14 p14n p14c)] w31 fun v84 w85 => fB v84 fun b86 =>
  br (!b86) (Q (.bool false) w85) (br p16 (CallE Try.prog 18 #[(.slice l32 l32n l32c), (.slice p13 p13n p13c)] w85 fun v87 w88 => fB v87 fun b89 =>
  br (!b89) (Q (.bool false) w88) (W.law32_BlockdevPowerLoss_k33 p2 p2n p2c p9 p10 p13 p13n p13c l32 l32n l32c w88 Q)) (W.law32_BlockdevPowerLoss_k33 p2 p2n p2c p9 p10 p13 p13n p13c l32 l32n l32c w85 Q))) (br p16 (CallE Try.prog 18 #[(.slice l32 l32n l32c), (.slice p13 p13n p13c)] w31 fun v90 w91 => fB v90 fun b92 =>
  br (!b92) (Q (.bool false) w91) (W.law32_BlockdevPowerLoss_k33 p2 p2n p2c p9 p10 p13 p13n p13c l32 l32n l32c w91 Q)) (W.law32_BlockdevPowerLoss_k33 p2 p2n p2c p9 p10 p13 p13n p13c l32 l32n l32c w31 Q)))))
def W.law32_BlockdevPowerLoss_k12 (p2 : Option Addr) (p2n : Nat) (p2c : Nat) (p3 : Option Addr) (p3n : Nat) (p3c : Nat) (p9 : Int) (p10 : Option Addr) (w : World) (Q : Value → World → Prop) : Prop :=
  CallE Try.prog 19 #[(.pointer p10)] w fun v13 w14 => fI .i64 v13 fun x15 =>
  br ((x15 : Int) != 0) (Q (.bool false) w14) (CallE Try.prog 15 #[(.pointer p10)] w14 fun v16 w17 => fS v16 fun l18 l18n l18c =>
  br ((((l18n : Nat) : Int) : Int) != p9) (Q (.bool false) w17) (al 9 #[] w17 fun a20 w19 =>
  rv Try.prog (Builtin.append_ #[33, 33] 33 #[(.slice (some a20) 0 0), (.slice l18 l18n l18c)]) w19 fun v21 w22 => fS v21 fun l23 l23n l23c =>
  LoopW (S := Bool × Bool × Int × Unit) (fun s93 w94 next95 =>
  br (decide ((s93.2.2.1 : Int) < ((p2n : Nat) : Int))) (rq Try.prog (Instr.indexAt 30 (.slice p2 p2n p2c) (.int .i64 s93.2.2.1)) w94 fun v96 => fA v96 fun a97 =>
  ld Try.prog 3 (a97.add 1) w94 fun v98 => fI .i64 v98 fun x99 =>
  CallE Try.prog 16 #[(.int .i64 x99), (.int .i64 p9)] w94 fun v100 w101 => fI .i64 v100 fun x102 =>
  rq Try.prog (Instr.indexAt 30 (.slice p2 p2n p2c) (.int .i64 s93.2.2.1)) w101 fun v103 => fA v103 fun a104 =>
  ld Try.prog 3 (a104.add 2) w101 fun v105 => fI .i64 v105 fun x106 =>
  CallE Try.prog 17 #[(.int .i64 x106)] w101 fun v107 w108 => fT v107 fun t109 =>
  CallE Try.prog 12 #[(.pointer p10), (.int .i64 x102), (.string t109)] w108 fun v110 w111 => fI .i64 v110 fun x112 =>
  br ((x112 : Int) != 0) (Q (.bool false) w111) (rq Try.prog (Instr.indexAt 30 (.slice p2 p2n p2c) (.int .i64 s93.2.2.1)) w111 fun v113 => fA v113 fun a114 =>
  ld Try.prog 3 (a114.add 2) w111 fun v115 => fI .i64 v115 fun x116 =>
  CallE Try.prog 17 #[(.int .i64 x116)] w111 fun v117 w118 => fT v117 fun t119 =>
  rq Try.prog (Instr.indexAt 33 (.slice l23 l23n l23c) (.int .i64 x102)) w118 fun v120 => fA v120 fun a121 =>
  st Try.prog 9 a121 (.string t119) w118 fun w122 =>
  br s93.1 (br (decide ((s93.2.2.1 : Int) < ((p3n : Nat) : Int))) (rq Try.prog (Instr.indexAt 31 (.slice p3 p3n p3c) (.int .i64 s93.2.2.1)) w122 fun v123 => fA v123 fun a124 =>
  ld Try.prog 4 a124 w122 fun v125 => fB v125 fun b126 =>
  br s93.2.1 (br (decide ((s93.2.2.1 : Int) ≥ ((p3n : Nat) : Int))) (next95 (b126, true, ((IntKind.wrap .i64 (s93.2.2.1 + 1)) : Int), ()) w122) (rq Try.prog (Instr.indexAt 31 (.slice p3 p3n p3c) (.int .i64 s93.2.2.1)) w122 fun v127 => fA v127 fun a128 =>
  ld Try.prog 4 a128 w122 fun v129 => fB v129 fun b130 =>
  next95 (b126, (!b130), ((IntKind.wrap .i64 (s93.2.2.1 + 1)) : Int), ()) w122)) (next95 (b126, false, ((IntKind.wrap .i64 (s93.2.2.1 + 1)) : Int), ()) w122)) (br s93.2.1 (br (decide ((s93.2.2.1 : Int) ≥ ((p3n : Nat) : Int))) (next95 (false, true, ((IntKind.wrap .i64 (s93.2.2.1 + 1)) : Int), ()) w122) (rq Try.prog (Instr.indexAt 31 (.slice p3 p3n p3c) (.int .i64 s93.2.2.1)) w122 fun v131 => fA v131 fun a132 =>
  ld Try.prog 4 a132 w122 fun v133 => fB v133 fun b134 =>
  next95 (false, (!b134), ((IntKind.wrap .i64 (s93.2.2.1 + 1)) : Int), ()) w122)) (next95 (false, false, ((IntKind.wrap .i64 (s93.2.2.1 + 1)) : Int), ()) w122))) (br s93.2.1 (br (decide ((s93.2.2.1 : Int) ≥ ((p3n : Nat) : Int))) (next95 (false, true, ((IntKind.wrap .i64 (s93.2.2.1 + 1)) : Int), ()) w122) (rq Try.prog (Instr.indexAt 31 (.slice p3 p3n p3c) (.int .i64 s93.2.2.1)) w122 fun v135 => fA v135 fun a136 =>
  ld Try.prog 4 a136 w122 fun v137 => fB v137 fun b138 =>
  next95 (false, (!b138), ((IntKind.wrap .i64 (s93.2.2.1 + 1)) : Int), ()) w122)) (next95 (false, false, ((IntKind.wrap .i64 (s93.2.2.1 + 1)) : Int), ()) w122)))) (W.law32_BlockdevPowerLoss_k28 p2 p2n p2c p3 p3n p3c p9 p10 l18 l18n l18c l23 l23n l23c s93.1 s93.2.1 w94 Q)) (true, true, (0 : Int), ()) w22))
def W.law32_BlockdevPowerLoss_k2 (p0 : Int) (p1 : Option Addr) (p1n : Nat) (p1c : Nat) (p2 : Option Addr) (p2n : Nat) (p2c : Nat) (p3 : Option Addr) (p3n : Nat) (p3c : Nat) (p32 : Bool) (w : World) (Q : Value → World → Prop) : Prop :=
  br p32 (CallE Try.prog 13 #[] w fun v1 w2 => fB v1 fun b3 =>
  Q (.bool b3) w2) (CallE Try.prog 16 #[(.int .i64 p0), (.int .i64 5)] w fun v4 w5 => fI .i64 v4 fun x6 =>
  CallE Try.prog 10 #[(.int .i64 (IntKind.wrap .i64 (1 + x6)))] w5 fun v7 w8 => ∃ (p9 : Option Addr) (x10 : Int), v7 = .tuple #[(.pointer p9), (.int .i64 x10)] ∧
  br ((x10 : Int) != 0) (Q (.bool false) w8) (rq Try.prog (do eqGuard .eql 22 (.tmp 45) (.const (.pointer none)) (.pointer p9) (.pointer none); binOp .eql 22 (.pointer p9) (.pointer none)) w8 fun v11 => fB v11 fun b12 =>
  br b12 (Q (.bool false) w8) (LoopW (S := Int × Unit) (fun s139 w140 next141 =>
  br (decide ((s139.1 : Int) < ((p1n : Nat) : Int))) (drawE fun S142 => S142 (drew w140) ∧ (rqS Try.prog S142 (Instr.indexAt 30 (.slice p1 p1n p1c) (.int .i64 s139.1)) fun v143 => fA v143 fun a144 =>
  ldS Try.prog S142 3 (a144.add 1) fun v145 => fI .i64 v145 fun x146 =>
  rqS Try.prog S142 (Instr.indexAt 30 (.slice p1 p1n p1c) (.int .i64 s139.1)) fun v147 => fA v147 fun a148 =>
  ldS Try.prog S142 3 (a148.add 2) fun v149 => fI .i64 v149 fun x150 =>
  CallE Try.prog 16 #[(.int .i64 x146), (.int .i64 (IntKind.wrap .i64 (1 + x6)))] (drew w140) fun v151 w152 => fI .i64 v151 fun x153 =>
  S142 w152 ∧ (CallE Try.prog 17 #[(.int .i64 x150)] w152 fun v154 w155 => fT v154 fun t156 =>
  S142 w155 ∧ (CallE Try.prog 12 #[(.pointer p9), (.int .i64 x153), (.string t156)] w155 fun v157 w158 => fI .i64 v157 fun x159 =>
  S142 w158 ∧ (br ((x159 : Int) != 0) (Q (.bool false) w158) (next141 (((IntKind.wrap .i64 (s139.1 + 1)) : Int), ()) w158)))))) (W.law32_BlockdevPowerLoss_k12 p2 p2n p2c p3 p3n p3c (IntKind.wrap .i64 (1 + x6)) p9 w140 Q)) ((0 : Int), ()) w8)))
def W.law32_BlockdevPowerLoss (n_ : Int) (before_ : Option Addr) (before_n : Nat) (before_c : Nat) (after_ : Option Addr) (after_n : Nat) (after_c : Nat) (keep_ : Option Addr) (keep_n : Nat) (keep_c : Nat) (w : World) (Q : Value → World → Prop) : Prop :=
  br (decide ((((before_n : Nat) : Int) : Int) > 40)) (W.law32_BlockdevPowerLoss_k2 n_ before_ before_n before_c after_ after_n after_c keep_ keep_n keep_c true w Q) (W.law32_BlockdevPowerLoss_k2 n_ before_ before_n before_c after_ after_n after_c keep_ keep_n keep_c (decide ((((after_n : Nat) : Int) : Int) > 40)) w Q)
theorem E.law32_BlockdevPowerLoss (n_ : Int) (before_ : Option Addr) (before_n : Nat) (before_c : Nat) (after_ : Option Addr) (after_n : Nat) (after_c : Nat) (keep_ : Option Addr) (keep_n : Nat) (keep_c : Nat) (w : World) (Q : Value → World → Prop) : ev Try.prog Try.f6.ntmps callable [(34, [(20, .int .i64 0)], [2, 9, 10, 13, 19]), (38, [(21, .bool false), (22, .int .i64 0)], [2, 9, 10, 13, 19, 20]), (20, [(15, .bool false), (16, .bool false), (17, .int .i64 0)], [2, 3, 9, 10, 13, 14]), (8, [(12, .int .i64 0)], [1, 2, 3, 9, 10])] [] (Try.f6.body.getD .skip) (enumE 0 [(.int .i64 n_), (.slice before_ before_n before_c), (.slice after_ after_n after_c), (.slice keep_ keep_n keep_c)]) w (KQ Try.prog Try.f6.results.toList Q) = W.law32_BlockdevPowerLoss n_ before_ before_n before_c after_ after_n after_c keep_ keep_n keep_c w Q := by kernel_rfl
theorem C.law32_BlockdevPowerLoss (n_ : Int) (before_ : Option Addr) (before_n : Nat) (before_c : Nat) (after_ : Option Addr) (after_n : Nat) (after_c : Nat) (keep_ : Option Addr) (keep_n : Nat) (keep_c : Nat) (w : World) (Q : Value → World → Prop) (h : W.law32_BlockdevPowerLoss n_ before_ before_n before_c after_ after_n after_c keep_ keep_n keep_c w Q) : CallE Try.prog 6 #[(.int .i64 n_), (.slice before_ before_n before_c), (.slice after_ after_n after_c), (.slice keep_ keep_n keep_c)] w Q :=
  calls_of_ev mixed callable_ok (args := [(.int .i64 n_), (.slice before_ before_n before_c), (.slice after_ after_n after_c), (.slice keep_ keep_n keep_c)]) Try.func6 rfl ((E.law32_BlockdevPowerLoss n_ before_ before_n before_c after_ after_n after_c keep_ keep_n keep_c w Q).symm ▸ h)

def W.law32_BlockdevKeepPrefix_k20 (p8 : Option Addr) (p10 : Option Addr) (p13 : Option Addr) (p13n : Nat) (p13c : Nat) (w : World) (Q : Value → World → Prop) : Prop :=
  CallE Try.prog 11 #[(.pointer p8), (.slice p13 p13n p13c)] w fun v25 w26 => fI .i64 v25 fun x27 =>
  br ((x27 : Int) == 0) (CallE Try.prog 19 #[(.pointer p10)] w26 fun v28 w29 => fI .i64 v28 fun x30 =>
  br ((x30 : Int) == 0) (CallE Try.prog 15 #[(.pointer p8)] w29 fun v31 w32 => fS v31 fun l33 l33n l33c =>
  CallE Try.prog 15 #[(.pointer p10)] w32 fun v34 w35 => fS v34 fun l36 l36n l36c =>
  CallE Try.prog 18 #[(.slice l33 l33n l33c), (.slice l36 l36n l36c)] w35 fun v37 w38 => fB v37 fun b39 =>
  br b39 (CallE Try.prog 13 #[] w38 fun v40 w41 => fB v40 fun b42 =>
  Q (.bool b42) w41) (Q (.bool false) w38)) (Q (.bool false) w29)) (Q (.bool false) w26)
def W.law32_BlockdevKeepPrefix (n_ : Int) (l_ : Option Addr) (l_n : Nat) (l_c : Nat) (k_ : Int) (w : World) (Q : Value → World → Prop) : Prop :=
  br (decide ((((l_n : Nat) : Int) : Int) > 40)) (CallE Try.prog 13 #[] w fun v1 w2 => fB v1 fun b3 =>
  Q (.bool b3) w2) (CallE Try.prog 16 #[(.int .i64 n_), (.int .i64 5)] w fun v4 w5 => fI .i64 v4 fun x6 =>
  CallE Try.prog 10 #[(.int .i64 (IntKind.wrap .i64 (1 + x6)))] w5 fun v7 w8 => ∃ (p9 : Option Addr) (x10 : Int), v7 = .tuple #[(.pointer p9), (.int .i64 x10)] ∧
  CallE Try.prog 10 #[(.int .i64 (IntKind.wrap .i64 (1 + x6)))] w8 fun v11 w12 => ∃ (p13 : Option Addr) (x14 : Int), v11 = .tuple #[(.pointer p13), (.int .i64 x14)] ∧
  br ((x10 : Int) != 0) (Q (.bool false) w12) (br ((x14 : Int) != 0) (Q (.bool false) w12) (rq Try.prog (do eqGuard .eql 22 (.tmp 40) (.const (.pointer none)) (.pointer p9) (.pointer none); binOp .eql 22 (.pointer p9) (.pointer none)) w12 fun v15 => fB v15 fun b16 =>
  br b16 (Q (.bool false) w12) (rq Try.prog (do eqGuard .eql 22 (.tmp 44) (.const (.pointer none)) (.pointer p13) (.pointer none); binOp .eql 22 (.pointer p13) (.pointer none)) w12 fun v17 => fB v17 fun b18 =>
  br b18 (Q (.bool false) w12) (CallE Try.prog 16 #[(.int .i64 k_), (.int .i64 (IntKind.wrap .i64 (((l_n : Nat) : Int) + 1)))] w12 fun v19 w20 => fI .i64 v19 fun x21 =>
  rv Try.prog (Instr.makeSlice 31 (.int .i64 x21) (.int .i64 x21)) w20 fun v22 w23 => fS v22 fun l24 l24n l24c =>
  LoopW (S := Int × Unit) (fun s43 w44 next45 =>
  br (decide ((s43.1 : Int) < ((l_n : Nat) : Int))) (rq Try.prog (Instr.indexAt 30 (.slice l_ l_n l_c) (.int .i64 s43.1)) w44 fun v46 => fA v46 fun a47 =>
  ld Try.prog 3 (a47.add 1) w44 fun v48 => fI .i64 v48 fun x49 =>
  CallE Try.prog 16 #[(.int .i64 x49), (.int .i64 (IntKind.wrap .i64 (1 + x6)))] w44 fun v50 w51 => fI .i64 v50 fun x52 =>
  rq Try.prog (Instr.indexAt 30 (.slice l_ l_n l_c) (.int .i64 s43.1)) w51 fun v53 => fA v53 fun a54 =>
  ld Try.prog 3 (a54.add 2) w51 fun v55 => fI .i64 v55 fun x56 =>
  CallE Try.prog 17 #[(.int .i64 x56)] w51 fun v57 w58 => fT v57 fun t59 =>
  CallE Try.prog 12 #[(.pointer p9), (.int .i64 x52), (.string t59)] w58 fun v60 w61 => fI .i64 v60 fun x62 =>
  br ((x62 : Int) != 0) (Q (.bool false) w61) (br (decide ((s43.1 : Int) < x21)) (rq Try.prog (Instr.indexAt 31 (.slice l24 l24n l24c) (.int .i64 s43.1)) w61 fun v63 => fA v63 fun a64 =>
  st Try.prog 4 a64 (.bool true) w61 fun w65 =>
  rq Try.prog (Instr.indexAt 30 (.slice l_ l_n l_c) (.int .i64 s43.1)) w65 fun v66 => fA v66 fun a67 =>
  ld Try.prog 3 (a67.add 2) w65 fun v68 => fI .i64 v68 fun x69 =>
  CallE Try.prog 17 #[(.int .i64 x69)] w65 fun v70 w71 => fT v70 fun t72 =>
  CallE Try.prog 12 #[(.pointer p13), (.int .i64 x52), (.string t72)] w71 fun v73 w74 => fI .i64 v73 fun x75 =>
  br ((x75 : Int) != 0) (Q (.bool false) w74) (next45 (((IntKind.wrap .i64 (s43.1 + 1)) : Int), ()) w74)) (next45 (((IntKind.wrap .i64 (s43.1 + 1)) : Int), ()) w61))) (W.law32_BlockdevKeepPrefix_k20 p9 p13 l24 l24n l24c w44 Q)) ((0 : Int), ()) w23)))))
theorem E.law32_BlockdevKeepPrefix (n_ : Int) (l_ : Option Addr) (l_n : Nat) (l_c : Nat) (k_ : Int) (w : World) (Q : Value → World → Prop) : ev Try.prog Try.f7.ntmps callable [(11, [(14, .int .i64 0)], [1, 7, 8, 10, 12, 13])] [] (Try.f7.body.getD .skip) (enumE 0 [(.int .i64 n_), (.slice l_ l_n l_c), (.int .i64 k_)]) w (KQ Try.prog Try.f7.results.toList Q) = W.law32_BlockdevKeepPrefix n_ l_ l_n l_c k_ w Q := by kernel_rfl
theorem C.law32_BlockdevKeepPrefix (n_ : Int) (l_ : Option Addr) (l_n : Nat) (l_c : Nat) (k_ : Int) (w : World) (Q : Value → World → Prop) (h : W.law32_BlockdevKeepPrefix n_ l_ l_n l_c k_ w Q) : CallE Try.prog 7 #[(.int .i64 n_), (.slice l_ l_n l_c), (.int .i64 k_)] w Q :=
  calls_of_ev mixed callable_ok (args := [(.int .i64 n_), (.slice l_ l_n l_c), (.int .i64 k_)]) Try.func7 rfl ((E.law32_BlockdevKeepPrefix n_ l_ l_n l_c k_ w Q).symm ▸ h)

def W.law32_BlockdevCallsAgree_k15 (w : World) (Q : Value → World → Prop) : Prop :=
  CallE Try.prog 13 #[] w fun v17 w18 => fB v17 fun b19 =>
  Q (.bool b19) w18
def W.law32_BlockdevCallsAgree (n_ : Int) (l_ : Option Addr) (l_n : Nat) (l_c : Nat) (w : World) (Q : Value → World → Prop) : Prop :=
  br (decide ((((l_n : Nat) : Int) : Int) > 60)) (CallE Try.prog 13 #[] w fun v1 w2 => fB v1 fun b3 =>
  Q (.bool b3) w2) (CallE Try.prog 16 #[(.int .i64 n_), (.int .i64 5)] w fun v4 w5 => fI .i64 v4 fun x6 =>
  CallE Try.prog 10 #[(.int .i64 (IntKind.wrap .i64 (1 + x6)))] w5 fun v7 w8 => ∃ (p9 : Option Addr) (x10 : Int), v7 = .tuple #[(.pointer p9), (.int .i64 x10)] ∧
  CallE Try.prog 23 #[(.int .i64 (IntKind.wrap .i64 (1 + x6)))] w8 fun v11 w12 => ∃ (p13 : Option Addr) (x14 : Int), v11 = .tuple #[(.pointer p13), (.int .i64 x14)] ∧
  br ((x10 : Int) != x14) (Q (.bool false) w12) (br ((x10 : Int) != 0) (Q (.bool false) w12) (rq Try.prog (do eqGuard .eql 22 (.tmp 40) (.const (.pointer none)) (.pointer p9) (.pointer none); binOp .eql 22 (.pointer p9) (.pointer none)) w12 fun v15 => fB v15 fun b16 =>
  br b16 (Q (.bool false) w12) (LoopW (S := Int × Unit) (fun s20 w21 next22 =>
  br (decide ((s20.1 : Int) < ((l_n : Nat) : Int))) (rq Try.prog (Instr.indexAt 30 (.slice l_ l_n l_c) (.int .i64 s20.1)) w21 fun v23 => fA v23 fun a24 =>
  ld Try.prog 37 a24 w21 fun v25 => fG v25 fun g26 =>
  CallE Try.prog 24 #[(.pointer p9), (.agg g26), (.int .i64 (IntKind.wrap .i64 (1 + x6)))] w21 fun v27 w28 => ∃ (t29 : ByteArray) (x30 : Int), v27 = .tuple #[(.string t29), (.int .i64 x30)] ∧
  rq Try.prog (Instr.indexAt 30 (.slice l_ l_n l_c) (.int .i64 s20.1)) w28 fun v31 => fA v31 fun a32 =>
  ld Try.prog 37 a32 w28 fun v33 => fG v33 fun g34 =>
  CallE Try.prog 25 #[(.pointer p13), (.agg g34), (.int .i64 (IntKind.wrap .i64 (1 + x6)))] w28 fun v35 w36 => ∃ (t37 : ByteArray) (x38 : Int), v35 = .tuple #[(.string t37), (.int .i64 x38)] ∧
  rq Try.prog (do eqGuard .neq 9 (.tmp 69) (.tmp 70) (.string t29) (.string t37); binOp .neq 9 (.string t29) (.string t37)) w36 fun v39 => fB v39 fun b40 =>
  br b40 (Q (.bool false) w36) (br ((x30 : Int) != x38) (Q (.bool false) w36) (CallE Try.prog 20 #[(.pointer p9)] w36 fun v41 w42 => fI .i64 v41 fun x43 =>
  CallE Try.prog 26 #[(.pointer p13)] w42 fun v44 w45 => fI .i64 v44 fun x46 =>
  br ((x43 : Int) != x46) (Q (.bool false) w45) (CallE Try.prog 27 #[(.pointer p9)] w45 fun v47 w48 => fI .i64 v47 fun x49 =>
  br ((x49 : Int) != (IntKind.wrap .i64 (1 + x6))) (Q (.bool false) w48) (CallE Try.prog 15 #[(.pointer p9)] w48 fun v50 w51 => fS v50 fun l52 l52n l52c =>
  CallE Try.prog 28 #[(.pointer p13)] w51 fun v53 w54 => fS v53 fun l55 l55n l55c =>
  CallE Try.prog 18 #[(.slice l52 l52n l52c), (.slice l55 l55n l55c)] w54 fun v56 w57 => fB v56 fun b58 =>
  br (!b58) (Q (.bool false) w57) (next22 (((IntKind.wrap .i64 (s20.1 + 1)) : Int), ()) w57)))))) (W.law32_BlockdevCallsAgree_k15  w21 Q)) ((0 : Int), ()) w12))))
theorem E.law32_BlockdevCallsAgree (n_ : Int) (l_ : Option Addr) (l_n : Nat) (l_c : Nat) (w : World) (Q : Value → World → Prop) : ev Try.prog Try.f8.ntmps callable [(9, [(10, .int .i64 0)], [1, 5, 6, 8])] [] (Try.f8.body.getD .skip) (enumE 0 [(.int .i64 n_), (.slice l_ l_n l_c)]) w (KQ Try.prog Try.f8.results.toList Q) = W.law32_BlockdevCallsAgree n_ l_ l_n l_c w Q := by kernel_rfl
theorem C.law32_BlockdevCallsAgree (n_ : Int) (l_ : Option Addr) (l_n : Nat) (l_c : Nat) (w : World) (Q : Value → World → Prop) (h : W.law32_BlockdevCallsAgree n_ l_ l_n l_c w Q) : CallE Try.prog 8 #[(.int .i64 n_), (.slice l_ l_n l_c)] w Q :=
  calls_of_ev mixed callable_ok (args := [(.int .i64 n_), (.slice l_ l_n l_c)]) Try.func8 rfl ((E.law32_BlockdevCallsAgree n_ l_ l_n l_c w Q).symm ▸ h)

def W.law32_BlockdevCutPosition_k26 (w : World) (Q : Value → World → Prop) : Prop :=
  CallE Try.prog 13 #[] w fun v39 w40 => fB v39 fun b41 =>
  Q (.bool b41) w40
def W.law32_BlockdevCutPosition_k17 (p1 : Option Addr) (p1n : Nat) (p1c : Nat) (p9 : Int) (p10 : Option Addr) (p12 : Int) (w : World) (Q : Value → World → Prop) : Prop :=
  br (decide ((((p1n : Nat) : Int) : Int) ≤ p12)) (CallE Try.prog 22 #[(.pointer p10)] w fun v18 w19 => fI .i64 v18 fun x20 =>
  br ((x20 : Int) == 9) (CallE Try.prog 20 #[(.pointer p10)] w19 fun v21 w22 => fI .i64 v21 fun x23 =>
  br ((x23 : Int) == ((p1n : Nat) : Int)) (CallE Try.prog 13 #[] w22 fun v24 w25 => fB v24 fun b26 =>
  Q (.bool b26) w25) (Q (.bool false) w22)) (Q (.bool false) w19)) (CallE Try.prog 19 #[(.pointer p10)] w fun v27 w28 => fI .i64 v27 fun x29 =>
  br ((x29 : Int) != 16) (Q (.bool false) w28) (CallE Try.prog 20 #[(.pointer p10)] w28 fun v30 w31 => fI .i64 v30 fun x32 =>
  br ((x32 : Int) != 0) (Q (.bool false) w31) (CallE Try.prog 11 #[(.pointer p10), (.slice none 0 0)] w31 fun v33 w34 => fI .i64 v33 fun x35 =>
  br ((x35 : Int) != 9) (Q (.bool false) w34) (CallE Try.prog 22 #[(.pointer p10)] w34 fun v36 w37 => fI .i64 v36 fun x38 =>
  br ((x38 : Int) != 0) (Q (.bool false) w37) (LoopW (S := Int × Unit) (fun s42 w43 next44 =>
  br (decide ((s42.1 : Int) < ((p1n : Nat) : Int))) (drawE fun S45 => S45 (drew w43) ∧ (rqS Try.prog S45 (Instr.indexAt 30 (.slice p1 p1n p1c) (.int .i64 s42.1)) fun v46 => fA v46 fun a47 =>
  ldS Try.prog S45 3 (a47.add 1) fun v48 => fI .i64 v48 fun x49 =>
  rqS Try.prog S45 (Instr.indexAt 30 (.slice p1 p1n p1c) (.int .i64 s42.1)) fun v50 => fA v50 fun a51 =>
  ldS Try.prog S45 3 (a51.add 2) fun v52 => fI .i64 v52 fun x53 =>
  CallE Try.prog 16 #[(.int .i64 x49), (.int .i64 p9)] (drew w43) fun v54 w55 => fI .i64 v54 fun x56 =>
  S45 w55 ∧ (CallE Try.prog 17 #[(.int .i64 x53)] w55 fun v57 w58 => fT v57 fun t59 =>
  S45 w58 ∧ (CallE Try.prog 12 #[(.pointer p10), (.int .i64 x56), (.string t59)] w58 fun v60 w61 => fI .i64 v60 fun x62 =>
  S45 w61 ∧ (br ((x62 : Int) != 0) (Q (.bool false) w61) (next44 (((IntKind.wrap .i64 (s42.1 + 1)) : Int), ()) w61)))))) (W.law32_BlockdevCutPosition_k26  w43 Q)) ((0 : Int), ()) w37)))))
def W.law32_BlockdevCutPosition_k15 (p1 : Option Addr) (p1n : Nat) (p1c : Nat) (p9 : Int) (p10 : Option Addr) (p12 : Int) (p13 : Int) (p14 : Int) (next65 : (Int × Unit) → World → Prop) (w : World) (Q : Value → World → Prop) : Prop :=
  drawE fun S66 => S66 (drew w) ∧ (rqS Try.prog S66 (Instr.indexAt 30 (.slice p1 p1n p1c) (.int .i64 p13)) fun v67 => fA v67 fun a68 =>
  ldS Try.prog S66 3 (a68.add 1) fun v69 => fI .i64 v69 fun x70 =>
  rqS Try.prog S66 (Instr.indexAt 30 (.slice p1 p1n p1c) (.int .i64 p13)) fun v71 => fA v71 fun a72 =>
  ldS Try.prog S66 3 (a72.add 2) fun v73 => fI .i64 v73 fun x74 =>
  CallE Try.prog 16 #[(.int .i64 x70), (.int .i64 p9)] (drew w) fun v75 w76 => fI .i64 v75 fun x77 =>
  S66 w76 ∧ (CallE Try.prog 17 #[(.int .i64 x74)] w76 fun v78 w79 => fT v78 fun t80 =>
  S66 w79 ∧ (CallE Try.prog 12 #[(.pointer p10), (.int .i64 x77), (.string t80)] w79 fun v81 w82 => fI .i64 v81 fun x83 =>
  S66 w82 ∧ (br ((x83 : Int) != p14) (Q (.bool false) w82) (next65 (((IntKind.wrap .i64 (p13 + 1)) : Int), ()) w82)))))
def W.law32_BlockdevCutPosition (n_ : Int) (l_ : Option Addr) (l_n : Nat) (l_c : Nat) (cut_ : Int) (keep_ : Option Addr) (keep_n : Nat) (keep_c : Nat) (w : World) (Q : Value → World → Prop) : Prop :=
  br (decide ((((l_n : Nat) : Int) : Int) > 30)) (CallE Try.prog 13 #[] w fun v1 w2 => fB v1 fun b3 =>
  Q (.bool b3) w2) (CallE Try.prog 16 #[(.int .i64 n_), (.int .i64 5)] w fun v4 w5 => fI .i64 v4 fun x6 =>
  CallE Try.prog 10 #[(.int .i64 (IntKind.wrap .i64 (1 + x6)))] w5 fun v7 w8 => ∃ (p9 : Option Addr) (x10 : Int), v7 = .tuple #[(.pointer p9), (.int .i64 x10)] ∧
  br ((x10 : Int) != 0) (Q (.bool false) w8) (rq Try.prog (do eqGuard .eql 22 (.tmp 31) (.const (.pointer none)) (.pointer p9) (.pointer none); binOp .eql 22 (.pointer p9) (.pointer none)) w8 fun v11 => fB v11 fun b12 =>
  br b12 (Q (.bool false) w8) (CallE Try.prog 16 #[(.int .i64 cut_), (.int .i64 20)] w8 fun v13 w14 => fI .i64 v13 fun x15 =>
  CallE Try.prog 14 #[(.pointer p9), (.int .i64 x15), (.slice keep_ keep_n keep_c)] w14 fun v16 w17 => v16 = .tuple #[] ∧
  LoopW (S := Int × Unit) (fun s63 w64 next65 =>
  br (decide ((s63.1 : Int) < ((l_n : Nat) : Int))) (br (decide ((s63.1 : Int) ≥ x15)) (W.law32_BlockdevCutPosition_k15 l_ l_n l_c (IntKind.wrap .i64 (1 + x6)) p9 x15 s63.1 16 next65 w64 Q) (W.law32_BlockdevCutPosition_k15 l_ l_n l_c (IntKind.wrap .i64 (1 + x6)) p9 x15 s63.1 0 next65 w64 Q)) (W.law32_BlockdevCutPosition_k17 l_ l_n l_c (IntKind.wrap .i64 (1 + x6)) p9 x15 w64 Q)) ((0 : Int), ()) w17)))
theorem E.law32_BlockdevCutPosition (n_ : Int) (l_ : Option Addr) (l_n : Nat) (l_c : Nat) (cut_ : Int) (keep_ : Option Addr) (keep_n : Nat) (keep_c : Nat) (w : World) (Q : Value → World → Prop) : ev Try.prog Try.f9.ntmps callable [(22, [(15, .int .i64 0)], [1, 9, 10]), (10, [(13, .int .i64 0)], [1, 9, 10, 12])] [] (Try.f9.body.getD .skip) (enumE 0 [(.int .i64 n_), (.slice l_ l_n l_c), (.int .i64 cut_), (.slice keep_ keep_n keep_c)]) w (KQ Try.prog Try.f9.results.toList Q) = W.law32_BlockdevCutPosition n_ l_ l_n l_c cut_ keep_ keep_n keep_c w Q := by kernel_rfl
theorem C.law32_BlockdevCutPosition (n_ : Int) (l_ : Option Addr) (l_n : Nat) (l_c : Nat) (cut_ : Int) (keep_ : Option Addr) (keep_n : Nat) (keep_c : Nat) (w : World) (Q : Value → World → Prop) (h : W.law32_BlockdevCutPosition n_ l_ l_n l_c cut_ keep_ keep_n keep_c w Q) : CallE Try.prog 9 #[(.int .i64 n_), (.slice l_ l_n l_c), (.int .i64 cut_), (.slice keep_ keep_n keep_c)] w Q :=
  calls_of_ev mixed callable_ok (args := [(.int .i64 n_), (.slice l_ l_n l_c), (.int .i64 cut_), (.slice keep_ keep_n keep_c)]) Try.func9 rfl ((E.law32_BlockdevCutPosition n_ l_ l_n l_c cut_ keep_ keep_n keep_c w Q).symm ▸ h)

def W.blockdev_New_k10 (p5 : Addr) (w : World) (Q : Value → World → Prop) : Prop :=
  ld Try.prog 33 (p5.add 0) w fun v9 => fS v9 fun l10 l10n l10c =>
  CallE Try.prog 30 #[(.slice l10 l10n l10c)] w fun v11 w12 => fS v11 fun l13 l13n l13c =>
  st Try.prog 33 (p5.add 1) (.slice l13 l13n l13c) w12 fun w14 =>
  Q (.tuple #[(.pointer (some p5)), (.int .i64 0)]) w14
def W.blockdev_New (sectors_ : Int) (w : World) (Q : Value → World → Prop) : Prop :=
  br (decide ((sectors_ : Int) < 1)) (Q (.tuple #[(.pointer none), (.int .i64 1)]) w) (br (decide ((sectors_ : Int) > 4096)) (Q (.tuple #[(.pointer none), (.int .i64 1)]) w) (CallE Try.prog 29 #[(.string ⟨#[0]⟩), (.int .i64 64)] w fun v1 w2 => fT v1 fun t3 =>
  rv Try.prog (Instr.makeSlice 33 (.int .i64 sectors_) (.int .i64 sectors_)) w2 fun v4 w5 => fS v4 fun l6 l6n l6c =>
  al 58 (#[(.slice l6 l6n l6c), (.slice none 0 0), (.slice none 0 0), (.bool false), (.bool false), (.int .i64 0), (.slice none 0 0)]) w5 fun a8 w7 =>
  ld Try.prog 33 (a8.add 0) w7 fun v15 => fS v15 fun l16 l16n l16c =>
  LoopW (S := Int × Unit) (fun s17 w18 next19 =>
  br (decide ((s17.1 : Int) < ((l16n : Nat) : Int))) (ld Try.prog 33 (a8.add 0) w18 fun v20 => fS v20 fun l21 l21n l21c =>
  rq Try.prog (Instr.indexAt 33 (.slice l21 l21n l21c) (.int .i64 s17.1)) w18 fun v22 => fA v22 fun a23 =>
  st Try.prog 9 a23 (.string t3) w18 fun w24 =>
  next19 (((IntKind.wrap .i64 (s17.1 + 1)) : Int), ()) w24) (W.blockdev_New_k10 a8 w18 Q)) ((0 : Int), ()) w7))
theorem E.blockdev_New (sectors_ : Int) (w : World) (Q : Value → World → Prop) : ev Try.prog Try.f10.ntmps callable [(6, [(23, .int .i64 0)], [4, 5, 22])] [] (Try.f10.body.getD .skip) (enumE 0 [(.int .i64 sectors_)]) w (KQ Try.prog Try.f10.results.toList Q) = W.blockdev_New sectors_ w Q := by kernel_rfl
theorem C.blockdev_New (sectors_ : Int) (w : World) (Q : Value → World → Prop) (h : W.blockdev_New sectors_ w Q) : CallE Try.prog 10 #[(.int .i64 sectors_)] w Q :=
  calls_of_ev mixed callable_ok (args := [(.int .i64 sectors_)]) Try.func10 rfl ((E.blockdev_New sectors_ w Q).symm ▸ h)

def W.blockdev_Disk_PowerOff (d_ : Addr) (keep_ : Option Addr) (keep_n : Nat) (keep_c : Nat) (w : World) (Q : Value → World → Prop) : Prop :=
  ld Try.prog 4 (d_.add 3) w fun v1 => fB v1 fun b2 =>
  br b2 (Q (.int .i64 9) w) (CallE Try.prog 31 #[(.pointer (some d_)), (.slice keep_ keep_n keep_c)] w fun v3 w4 => v3 = .tuple #[] ∧
  Q (.int .i64 0) w4)
theorem E.blockdev_Disk_PowerOff (d_ : Addr) (keep_ : Option Addr) (keep_n : Nat) (keep_c : Nat) (w : World) (Q : Value → World → Prop) : ev Try.prog Try.f11.ntmps callable [] [] (Try.f11.body.getD .skip) (enumE 0 [(.pointer (some d_)), (.slice keep_ keep_n keep_c)]) w (KQ Try.prog Try.f11.results.toList Q) = W.blockdev_Disk_PowerOff d_ keep_ keep_n keep_c w Q := by kernel_rfl
theorem C.blockdev_Disk_PowerOff (d_ : Addr) (keep_ : Option Addr) (keep_n : Nat) (keep_c : Nat) (w : World) (Q : Value → World → Prop) (h : W.blockdev_Disk_PowerOff d_ keep_ keep_n keep_c w Q) : CallE Try.prog 11 #[(.pointer (some d_)), (.slice keep_ keep_n keep_c)] w Q :=
  calls_of_ev mixed callable_ok (args := [(.pointer (some d_)), (.slice keep_ keep_n keep_c)]) Try.func11 rfl ((E.blockdev_Disk_PowerOff d_ keep_ keep_n keep_c w Q).symm ▸ h)

def W.blockdev_Disk_Write_k10 (p0 : Addr) (p1 : Int) (p2 : ByteArray) (w : World) (Q : Value → World → Prop) : Prop :=
  ld Try.prog 56 (p0.add 2) w fun v6 => fS v6 fun l7 l7n l7c =>
  al 62 #[(.int .i64 p1), (.string p2)] w fun a9 w8 =>
  rv Try.prog (Builtin.append_ #[56, 56] 56 #[(.slice l7 l7n l7c), (.slice (some a9) 1 1)]) w8 fun v10 w11 => fS v10 fun l12 l12n l12c =>
  st Try.prog 56 (p0.add 2) (.slice l12 l12n l12c) w11 fun w13 =>
  ld Try.prog 33 (p0.add 1) w13 fun v14 => fS v14 fun l15 l15n l15c =>
  rq Try.prog (Instr.indexAt 33 (.slice l15 l15n l15c) (.int .i64 p1)) w13 fun v16 => fA v16 fun a17 =>
  st Try.prog 9 a17 (.string p2) w13 fun w18 =>
  Q (.int .i64 0) w18
def W.blockdev_Disk_Write (d_ : Addr) (sector_ : Int) (data_ : ByteArray) (w : World) (Q : Value → World → Prop) : Prop :=
  br (decide ((sector_ : Int) < 0)) (Q (.int .i64 1) w) (CallE Try.prog 27 #[(.pointer (some d_))] w fun v1 w2 => fI .i64 v1 fun x3 =>
  br (decide ((sector_ : Int) ≥ x3)) (Q (.int .i64 1) w2) (br ((((data_.size : Nat) : Int) : Int) != 64) (Q (.int .i64 1) w2) (ld Try.prog 4 (d_.add 3) w2 fun v4 => fB v4 fun b5 =>
  br b5 (Q (.int .i64 16) w2) (ld Try.prog 4 (d_.add 4) w2 fun v19 => fB v19 fun b20 =>
  br b20 (ld Try.prog 3 (d_.add 5) w2 fun v21 => fI .i64 v21 fun x22 =>
  br ((x22 : Int) == 0) (ld Try.prog 31 (d_.add 6) w2 fun v23 => fS v23 fun l24 l24n l24c =>
  CallE Try.prog 31 #[(.pointer (some d_)), (.slice l24 l24n l24c)] w2 fun v25 w26 => v25 = .tuple #[] ∧
  Q (.int .i64 16) w26) (ld Try.prog 3 (d_.add 5) w2 fun v27 => fI .i64 v27 fun x28 =>
  st Try.prog 3 (d_.add 5) (.int .i64 (IntKind.wrap .i64 (x28 - 1))) w2 fun w29 =>
  W.blockdev_Disk_Write_k10 d_ sector_ data_ w29 Q)) (W.blockdev_Disk_Write_k10 d_ sector_ data_ w2 Q)))))
theorem E.blockdev_Disk_Write (d_ : Addr) (sector_ : Int) (data_ : ByteArray) (w : World) (Q : Value → World → Prop) : ev Try.prog Try.f12.ntmps callable [] [] (Try.f12.body.getD .skip) (enumE 0 [(.pointer (some d_)), (.int .i64 sector_), (.string data_)]) w (KQ Try.prog Try.f12.results.toList Q) = W.blockdev_Disk_Write d_ sector_ data_ w Q := by kernel_rfl
theorem C.blockdev_Disk_Write (d_ : Addr) (sector_ : Int) (data_ : ByteArray) (w : World) (Q : Value → World → Prop) (h : W.blockdev_Disk_Write d_ sector_ data_ w Q) : CallE Try.prog 12 #[(.pointer (some d_)), (.int .i64 sector_), (.string data_)] w Q :=
  calls_of_ev mixed callable_ok (args := [(.pointer (some d_)), (.int .i64 sector_), (.string data_)]) Try.func12 rfl ((E.blockdev_Disk_Write d_ sector_ data_ w Q).symm ▸ h)

def W.law32_awake (w : World) (Q : Value → World → Prop) : Prop :=
  CallE Try.prog 10 #[(.int .i64 2)] w fun v1 w2 => ∃ (p3 : Option Addr) (x4 : Int), v1 = .tuple #[(.pointer p3), (.int .i64 x4)] ∧
  br ((x4 : Int) != 0) (Q (.bool false) w2) (rq Try.prog (do eqGuard .eql 22 (.tmp 16) (.const (.pointer none)) (.pointer p3) (.pointer none); binOp .eql 22 (.pointer p3) (.pointer none)) w2 fun v5 => fB v5 fun b6 =>
  br b6 (Q (.bool false) w2) (CallE Try.prog 17 #[(.int .i64 1)] w2 fun v7 w8 => fT v7 fun t9 =>
  CallE Try.prog 12 #[(.pointer p3), (.int .i64 0), (.string t9)] w8 fun v10 w11 => fI .i64 v10 fun x12 =>
  br ((x12 : Int) != 0) (Q (.bool false) w11) (CallE Try.prog 17 #[(.int .i64 2)] w11 fun v13 w14 => fT v13 fun t15 =>
  CallE Try.prog 12 #[(.pointer p3), (.int .i64 0), (.string t15)] w14 fun v16 w17 => fI .i64 v16 fun x18 =>
  br ((x18 : Int) != 0) (Q (.bool false) w17) (CallE Try.prog 20 #[(.pointer p3)] w17 fun v19 w20 => fI .i64 v19 fun x21 =>
  br ((x21 : Int) != 2) (Q (.bool false) w20) (al 4 #[(.bool true), (.bool false)] w20 fun a23 w22 =>
  CallE Try.prog 11 #[(.pointer p3), (.slice (some a23) 2 2)] w22 fun v24 w25 => fI .i64 v24 fun x26 =>
  br ((x26 : Int) != 0) (Q (.bool false) w25) (CallE Try.prog 21 #[(.pointer p3), (.int .i64 0)] w25 fun v27 w28 => ∃ (t29 : ByteArray) (x30 : Int), v27 = .tuple #[(.string t29), (.int .i64 x30)] ∧
  CallE Try.prog 15 #[(.pointer p3)] w28 fun v31 w32 => fS v31 fun l33 l33n l33c =>
  CallE Try.prog 22 #[(.pointer p3)] w32 fun v34 w35 => fI .i64 v34 fun x36 =>
  CallE Try.prog 21 #[(.pointer p3), (.int .i64 0)] w35 fun v37 w38 => ∃ (t39 : ByteArray) (x40 : Int), v37 = .tuple #[(.string t39), (.int .i64 x40)] ∧
  drawE fun S41 => S41 (drew w38) ∧ (br ((x30 : Int) == 16) (br ((x36 : Int) == 0) (br ((x40 : Int) == 0) (CallE Try.prog 17 #[(.int .i64 1)] (drew w38) fun v42 w43 => fT v42 fun t44 =>
  S41 w43 ∧ (rqS Try.prog S41 (do eqGuard .eql 9 (.tmp 67) (.tmp 68) (.string t39) (.string t44); binOp .eql 9 (.string t39) (.string t44)) fun v45 => fB v45 fun b46 =>
  br b46 (br ((((l33n : Nat) : Int) : Int) == 2) (rqS Try.prog S41 (Instr.indexAt 33 (.slice l33 l33n l33c) (.int .i64 0)) fun v47 => fA v47 fun a48 =>
  ldS Try.prog S41 9 a48 fun v49 => fT v49 fun t50 =>
  CallE Try.prog 17 #[(.int .i64 1)] w43 fun v51 w52 => fT v51 fun t53 =>
  S41 w52 ∧ (rqS Try.prog S41 (do eqGuard .eql 9 (.tmp 79) (.tmp 80) (.string t50) (.string t53); binOp .eql 9 (.string t50) (.string t53)) fun v54 => fB v54 fun b55 =>
  br b55 (rqS Try.prog S41 (Instr.indexAt 33 (.slice l33 l33n l33c) (.int .i64 1)) fun v56 => fA v56 fun a57 =>
  ldS Try.prog S41 9 a57 fun v58 => fT v58 fun t59 =>
  rv Try.prog (Instr.makeSlice 41 (.int .i64 64) (.int .i64 64)) w52 fun v60 w61 => fS v60 fun l62 l62n l62c =>
  S41 w61 ∧ (rv Try.prog (convert 41 9 (.slice l62 l62n l62c)) w61 fun v63 w64 => fT v63 fun t65 =>
  S41 w64 ∧ (rqS Try.prog S41 (do eqGuard .eql 9 (.tmp 86) (.tmp 88) (.string t59) (.string t65); binOp .eql 9 (.string t59) (.string t65)) fun v66 => fB v66 fun b67 =>
  Q (.bool b67) w64))) (S41 w52 ∧ (S41 w52 ∧ (Q (.bool false) w52))))) (S41 w43 ∧ (S41 w43 ∧ (S41 w43 ∧ (Q (.bool false) w43))))) (S41 w43 ∧ (S41 w43 ∧ (S41 w43 ∧ (Q (.bool false) w43)))))) (S41 (drew w38) ∧ (S41 (drew w38) ∧ (S41 (drew w38) ∧ (S41 (drew w38) ∧ (Q (.bool false) (drew w38))))))) (S41 (drew w38) ∧ (S41 (drew w38) ∧ (S41 (drew w38) ∧ (S41 (drew w38) ∧ (Q (.bool false) (drew w38))))))) (S41 (drew w38) ∧ (S41 (drew w38) ∧ (S41 (drew w38) ∧ (S41 (drew w38) ∧ (Q (.bool false) (drew w38)))))))))))))
theorem E.law32_awake (w : World) (Q : Value → World → Prop) : ev Try.prog Try.f13.ntmps callable [] [] (Try.f13.body.getD .skip) (enumE 0 []) w (KQ Try.prog Try.f13.results.toList Q) = W.law32_awake w Q := by kernel_rfl
theorem C.law32_awake (w : World) (Q : Value → World → Prop) (h : W.law32_awake w Q) : CallE Try.prog 13 #[] w Q :=
  calls_of_ev mixed callable_ok (args := []) Try.func13 rfl ((E.law32_awake w Q).symm ▸ h)

def W.blockdev_Disk_CutAfter (d_ : Addr) (writes_ : Int) (keep_ : Option Addr) (keep_n : Nat) (keep_c : Nat) (w : World) (Q : Value → World → Prop) : Prop :=
  br (decide ((writes_ : Int) < 0)) (CallE Try.prog 32 #[(.pointer (some d_))] w fun v1 w2 => v1 = .tuple #[] ∧
  Q (.tuple #[]) w2) (st Try.prog 4 (d_.add 4) (.bool true) w fun w3 =>
  st Try.prog 3 (d_.add 5) (.int .i64 writes_) w3 fun w4 =>
  CallE Try.prog 33 #[(.slice keep_ keep_n keep_c)] w4 fun v5 w6 => fS v5 fun l7 l7n l7c =>
  st Try.prog 31 (d_.add 6) (.slice l7 l7n l7c) w6 fun w8 =>
  Q (.tuple #[]) w8)
theorem E.blockdev_Disk_CutAfter (d_ : Addr) (writes_ : Int) (keep_ : Option Addr) (keep_n : Nat) (keep_c : Nat) (w : World) (Q : Value → World → Prop) : ev Try.prog Try.f14.ntmps callable [] [] (Try.f14.body.getD .skip) (enumE 0 [(.pointer (some d_)), (.int .i64 writes_), (.slice keep_ keep_n keep_c)]) w (KQ Try.prog Try.f14.results.toList Q) = W.blockdev_Disk_CutAfter d_ writes_ keep_ keep_n keep_c w Q := by kernel_rfl
theorem C.blockdev_Disk_CutAfter (d_ : Addr) (writes_ : Int) (keep_ : Option Addr) (keep_n : Nat) (keep_c : Nat) (w : World) (Q : Value → World → Prop) (h : W.blockdev_Disk_CutAfter d_ writes_ keep_ keep_n keep_c w Q) : CallE Try.prog 14 #[(.pointer (some d_)), (.int .i64 writes_), (.slice keep_ keep_n keep_c)] w Q :=
  calls_of_ev mixed callable_ok (args := [(.pointer (some d_)), (.int .i64 writes_), (.slice keep_ keep_n keep_c)]) Try.func14 rfl ((E.blockdev_Disk_CutAfter d_ writes_ keep_ keep_n keep_c w Q).symm ▸ h)

def W.blockdev_Disk_Contents (d_ : Addr) (w : World) (Q : Value → World → Prop) : Prop :=
  ld Try.prog 33 (d_.add 0) w fun v1 => fS v1 fun l2 l2n l2c =>
  CallE Try.prog 30 #[(.slice l2 l2n l2c)] w fun v3 w4 => fS v3 fun l5 l5n l5c =>
  Q (.slice l5 l5n l5c) w4
theorem E.blockdev_Disk_Contents (d_ : Addr) (w : World) (Q : Value → World → Prop) : ev Try.prog Try.f15.ntmps callable [] [] (Try.f15.body.getD .skip) (enumE 0 [(.pointer (some d_))]) w (KQ Try.prog Try.f15.results.toList Q) = W.blockdev_Disk_Contents d_ w Q := by kernel_rfl
theorem C.blockdev_Disk_Contents (d_ : Addr) (w : World) (Q : Value → World → Prop) (h : W.blockdev_Disk_Contents d_ w Q) : CallE Try.prog 15 #[(.pointer (some d_))] w Q :=
  calls_of_ev mixed callable_ok (args := [(.pointer (some d_))]) Try.func15 rfl ((E.blockdev_Disk_Contents d_ w Q).symm ▸ h)

def W.help_Mod (v_ : Int) (n_ : Int) (w : World) (Q : Value → World → Prop) : Prop :=
  rq Try.prog (do eqGuard .rem 64 (.tmp 6) (.tmp 8) (.int .u64 (IntKind.wrap .u64 v_)) (.int .u64 (IntKind.wrap .u64 n_)); binOp .rem 64 (.int .u64 (IntKind.wrap .u64 v_)) (.int .u64 (IntKind.wrap .u64 n_))) w fun v1 => fI .u64 v1 fun x2 =>
  Q (.int .i64 (IntKind.wrap .i64 x2)) w
theorem E.help_Mod (v_ : Int) (n_ : Int) (w : World) (Q : Value → World → Prop) : ev Try.prog Try.f16.ntmps callable [] [] (Try.f16.body.getD .skip) (enumE 0 [(.int .i64 v_), (.int .i64 n_)]) w (KQ Try.prog Try.f16.results.toList Q) = W.help_Mod v_ n_ w Q := by kernel_rfl
theorem C.help_Mod (v_ : Int) (n_ : Int) (w : World) (Q : Value → World → Prop) (h : W.help_Mod v_ n_ w Q) : CallE Try.prog 16 #[(.int .i64 v_), (.int .i64 n_)] w Q :=
  calls_of_ev mixed callable_ok (args := [(.int .i64 v_), (.int .i64 n_)]) Try.func16 rfl ((E.help_Mod v_ n_ w Q).symm ▸ h)

def W.law32_sector_k6 (p3 : Option Addr) (p3n : Nat) (p3c : Nat) (w : World) (Q : Value → World → Prop) : Prop :=
  rq Try.prog (Instr.indexAt 41 (.slice p3 p3n p3c) (.int .i64 63)) w fun v4 => fA v4 fun a5 =>
  st Try.prog 5 a5 (.int .u8 1) w fun w6 =>
  rv Try.prog (convert 41 9 (.slice p3 p3n p3c)) w6 fun v7 w8 => fT v7 fun t9 =>
  Q (.string t9) w8
def W.law32_sector (k_ : Int) (w : World) (Q : Value → World → Prop) : Prop :=
  rv Try.prog (Instr.makeSlice 41 (.int .i64 64) (.int .i64 64)) w fun v1 w2 => fS v1 fun l3 l3n l3c =>
  LoopW (S := Int × Unit) (fun s10 w11 next12 =>
  br (decide ((s10.1 : Int) < 8)) (CallE Try.prog 16 #[(.int .i64 k_), (.int .i64 1099511627776)] w11 fun v13 w14 => fI .i64 v13 fun x15 =>
  rq Try.prog (do eqGuard .shr 3 (.tmp 13) (.tmp 16) (.int .i64 x15) (.int .u64 (IntKind.wrap .u64 (IntKind.wrap .i64 (8 * s10.1)))); binOp .shr 3 (.int .i64 x15) (.int .u64 (IntKind.wrap .u64 (IntKind.wrap .i64 (8 * s10.1))))) w14 fun v16 => fI .i64 v16 fun x17 =>
  rq Try.prog (Instr.indexAt 41 (.slice l3 l3n l3c) (.int .i64 s10.1)) w14 fun v18 => fA v18 fun a19 =>
  st Try.prog 5 a19 (.int .u8 (IntKind.wrap .u8 x17)) w14 fun w20 =>
  next12 (((IntKind.wrap .i64 (s10.1 + 1)) : Int), ()) w20) (W.law32_sector_k6 l3 l3n l3c w11 Q)) ((0 : Int), ()) w2
theorem E.law32_sector (k_ : Int) (w : World) (Q : Value → World → Prop) : ev Try.prog Try.f17.ntmps callable [(3, [(4, .int .i64 0)], [0, 3])] [] (Try.f17.body.getD .skip) (enumE 0 [(.int .i64 k_)]) w (KQ Try.prog Try.f17.results.toList Q) = W.law32_sector k_ w Q := by kernel_rfl
theorem C.law32_sector (k_ : Int) (w : World) (Q : Value → World → Prop) (h : W.law32_sector k_ w Q) : CallE Try.prog 17 #[(.int .i64 k_)] w Q :=
  calls_of_ev mixed callable_ok (args := [(.int .i64 k_)]) Try.func17 rfl ((E.law32_sector k_ w Q).symm ▸ h)

def W.help_Equal_string_ (a_ : Option Addr) (a_n : Nat) (a_c : Nat) (b_ : Option Addr) (b_n : Nat) (b_c : Nat) (w : World) (Q : Value → World → Prop) : Prop :=
  br ((((a_n : Nat) : Int) : Int) != ((b_n : Nat) : Int)) (Q (.bool false) w) (LoopW (S := Int × Unit) (fun s1 w2 next3 =>
  br (decide ((s1.1 : Int) < ((a_n : Nat) : Int))) (dr w2 fun w4 =>
  rq Try.prog (Instr.indexAt 33 (.slice a_ a_n a_c) (.int .i64 s1.1)) w4 fun v5 => fA v5 fun a6 =>
  ld Try.prog 9 a6 w4 fun v7 => fT v7 fun t8 =>
  rq Try.prog (Instr.indexAt 33 (.slice b_ b_n b_c) (.int .i64 s1.1)) w4 fun v9 => fA v9 fun a10 =>
  ld Try.prog 9 a10 w4 fun v11 => fT v11 fun t12 =>
  rq Try.prog (do eqGuard .neq 9 (.tmp 20) (.tmp 24) (.string t8) (.string t12); binOp .neq 9 (.string t8) (.string t12)) w4 fun v13 => fB v13 fun b14 =>
  br b14 (Q (.bool false) w4) (next3 (((IntKind.wrap .i64 (s1.1 + 1)) : Int), ()) w4)) (Q (.bool true) w2)) ((0 : Int), ()) w)
theorem E.help_Equal_string_ (a_ : Option Addr) (a_n : Nat) (a_c : Nat) (b_ : Option Addr) (b_n : Nat) (b_c : Nat) (w : World) (Q : Value → World → Prop) : ev Try.prog Try.f18.ntmps callable [(4, [(5, .int .i64 0)], [0, 1])] [] (Try.f18.body.getD .skip) (enumE 0 [(.slice a_ a_n a_c), (.slice b_ b_n b_c)]) w (KQ Try.prog Try.f18.results.toList Q) = W.help_Equal_string_ a_ a_n a_c b_ b_n b_c w Q := by kernel_rfl
theorem C.help_Equal_string_ (a_ : Option Addr) (a_n : Nat) (a_c : Nat) (b_ : Option Addr) (b_n : Nat) (b_c : Nat) (w : World) (Q : Value → World → Prop) (h : W.help_Equal_string_ a_ a_n a_c b_ b_n b_c w Q) : CallE Try.prog 18 #[(.slice a_ a_n a_c), (.slice b_ b_n b_c)] w Q :=
  calls_of_ev mixed callable_ok (args := [(.slice a_ a_n a_c), (.slice b_ b_n b_c)]) Try.func18 rfl ((E.help_Equal_string_ a_ a_n a_c b_ b_n b_c w Q).symm ▸ h)

def W.blockdev_Disk_Flush (d_ : Addr) (w : World) (Q : Value → World → Prop) : Prop :=
  ld Try.prog 4 (d_.add 3) w fun v1 => fB v1 fun b2 =>
  br b2 (Q (.int .i64 16) w) (ld Try.prog 56 (d_.add 2) w fun v3 => fS v3 fun l4 l4n l4c =>
  LoopW (S := Int × Unit) (fun s5 w6 next7 =>
  br (decide ((s5.1 : Int) < ((l4n : Nat) : Int))) (rq Try.prog (Instr.indexAt 56 (.slice l4 l4n l4c) (.int .i64 s5.1)) w6 fun v8 => fA v8 fun a9 =>
  ld Try.prog 62 a9 w6 fun v10 => fG v10 fun g11 =>
  al 62 (zeroT Try.prog 62).cells w6 fun a13 w12 =>
  st Try.prog 62 a13 (.agg g11) w12 fun w14 =>
  dr w14 fun w15 =>
  ld Try.prog 33 (d_.add 0) w15 fun v16 => fS v16 fun l17 l17n l17c =>
  ld Try.prog 3 (a13.add 0) w15 fun v18 => fI .i64 v18 fun x19 =>
  ld Try.prog 9 (a13.add 1) w15 fun v20 => fT v20 fun t21 =>
  rq Try.prog (Instr.indexAt 33 (.slice l17 l17n l17c) (.int .i64 x19)) w15 fun v22 => fA v22 fun a23 =>
  st Try.prog 9 a23 (.string t21) w15 fun w24 =>
  next7 (((IntKind.wrap .i64 (s5.1 + 1)) : Int), ()) w24) (st Try.prog 56 (d_.add 2) (.slice none 0 0) w6 fun w25 =>
  Q (.int .i64 0) w25)) ((0 : Int), ()) w)
theorem E.blockdev_Disk_Flush (d_ : Addr) (w : World) (Q : Value → World → Prop) : ev Try.prog Try.f19.ntmps callable [(4, [(14, .int .i64 0)], [0, 12, 13])] [] (Try.f19.body.getD .skip) (enumE 0 [(.pointer (some d_))]) w (KQ Try.prog Try.f19.results.toList Q) = W.blockdev_Disk_Flush d_ w Q := by kernel_rfl
theorem C.blockdev_Disk_Flush (d_ : Addr) (w : World) (Q : Value → World → Prop) (h : W.blockdev_Disk_Flush d_ w Q) : CallE Try.prog 19 #[(.pointer (some d_))] w Q :=
  calls_of_ev mixed callable_ok (args := [(.pointer (some d_))]) Try.func19 rfl ((E.blockdev_Disk_Flush d_ w Q).symm ▸ h)

def W.blockdev_Disk_Pending (d_ : Addr) (w : World) (Q : Value → World → Prop) : Prop :=
  ld Try.prog 56 (d_.add 2) w fun v1 => fS v1 fun l2 l2n l2c =>
  Q (.int .i64 ((l2n : Nat) : Int)) w
theorem E.blockdev_Disk_Pending (d_ : Addr) (w : World) (Q : Value → World → Prop) : ev Try.prog Try.f20.ntmps callable [] [] (Try.f20.body.getD .skip) (enumE 0 [(.pointer (some d_))]) w (KQ Try.prog Try.f20.results.toList Q) = W.blockdev_Disk_Pending d_ w Q := by kernel_rfl
theorem C.blockdev_Disk_Pending (d_ : Addr) (w : World) (Q : Value → World → Prop) (h : W.blockdev_Disk_Pending d_ w Q) : CallE Try.prog 20 #[(.pointer (some d_))] w Q :=
  calls_of_ev mixed callable_ok (args := [(.pointer (some d_))]) Try.func20 rfl ((E.blockdev_Disk_Pending d_ w Q).symm ▸ h)

def W.blockdev_Disk_Read (d_ : Addr) (sector_ : Int) (w : World) (Q : Value → World → Prop) : Prop :=
  br (decide ((sector_ : Int) < 0)) (Q (.tuple #[(.string ⟨#[]⟩), (.int .i64 1)]) w) (CallE Try.prog 27 #[(.pointer (some d_))] w fun v1 w2 => fI .i64 v1 fun x3 =>
  br (decide ((sector_ : Int) ≥ x3)) (Q (.tuple #[(.string ⟨#[]⟩), (.int .i64 1)]) w2) (ld Try.prog 4 (d_.add 3) w2 fun v4 => fB v4 fun b5 =>
  br b5 (Q (.tuple #[(.string ⟨#[]⟩), (.int .i64 16)]) w2) (ld Try.prog 33 (d_.add 1) w2 fun v6 => fS v6 fun l7 l7n l7c =>
  rq Try.prog (Instr.indexAt 33 (.slice l7 l7n l7c) (.int .i64 sector_)) w2 fun v8 => fA v8 fun a9 =>
  ld Try.prog 9 a9 w2 fun v10 => fT v10 fun t11 =>
  Q (.tuple #[(.string t11), (.int .i64 0)]) w2)))
theorem E.blockdev_Disk_Read (d_ : Addr) (sector_ : Int) (w : World) (Q : Value → World → Prop) : ev Try.prog Try.f21.ntmps callable [] [] (Try.f21.body.getD .skip) (enumE 0 [(.pointer (some d_)), (.int .i64 sector_)]) w (KQ Try.prog Try.f21.results.toList Q) = W.blockdev_Disk_Read d_ sector_ w Q := by kernel_rfl
theorem C.blockdev_Disk_Read (d_ : Addr) (sector_ : Int) (w : World) (Q : Value → World → Prop) (h : W.blockdev_Disk_Read d_ sector_ w Q) : CallE Try.prog 21 #[(.pointer (some d_)), (.int .i64 sector_)] w Q :=
  calls_of_ev mixed callable_ok (args := [(.pointer (some d_)), (.int .i64 sector_)]) Try.func21 rfl ((E.blockdev_Disk_Read d_ sector_ w Q).symm ▸ h)

def W.blockdev_Disk_PowerOn (d_ : Addr) (w : World) (Q : Value → World → Prop) : Prop :=
  ld Try.prog 4 (d_.add 3) w fun v1 => fB v1 fun b2 =>
  br (!b2) (Q (.int .i64 9) w) (st Try.prog 4 (d_.add 3) (.bool false) w fun w3 =>
  Q (.int .i64 0) w3)
theorem E.blockdev_Disk_PowerOn (d_ : Addr) (w : World) (Q : Value → World → Prop) : ev Try.prog Try.f22.ntmps callable [] [] (Try.f22.body.getD .skip) (enumE 0 [(.pointer (some d_))]) w (KQ Try.prog Try.f22.results.toList Q) = W.blockdev_Disk_PowerOn d_ w Q := by kernel_rfl
theorem C.blockdev_Disk_PowerOn (d_ : Addr) (w : World) (Q : Value → World → Prop) (h : W.blockdev_Disk_PowerOn d_ w Q) : CallE Try.prog 22 #[(.pointer (some d_))] w Q :=
  calls_of_ev mixed callable_ok (args := [(.pointer (some d_))]) Try.func22 rfl ((E.blockdev_Disk_PowerOn d_ w Q).symm ▸ h)

def W.ref32_New (sectors_ : Int) (w : World) (Q : Value → World → Prop) : Prop :=
  br (decide ((sectors_ : Int) < 1)) (Q (.tuple #[(.pointer none), (.int .i64 1)]) w) (br (decide ((sectors_ : Int) > 4096)) (Q (.tuple #[(.pointer none), (.int .i64 1)]) w) (al 67 (#[(.slice none 0 0), (.slice none 0 0), (.bool false), (.int .i64 (-1)), (.slice none 0 0)]) w fun a2 w1 =>
  LoopW (S := Int × Unit) (fun s3 w4 next5 =>
  br (decide ((s3.1 : Int) < sectors_)) (drawE fun S6 => S6 (drew w4) ∧ ((ld Try.prog 33 (a2.add 0) (drew w4) fun v7 => fS v7 fun l8 l8n l8c =>
  S6 (drew w4) ∧ (rv Try.prog (Instr.makeSlice 41 (.int .i64 64) (.int .i64 64)) (drew w4) fun v9 w10 => fS v9 fun l11 l11n l11c =>
  S6 w10 ∧ (rv Try.prog (convert 41 9 (.slice l11 l11n l11c)) w10 fun v12 w13 => fT v12 fun t14 =>
  S6 w13 ∧ (al 9 #[(.string t14)] w13 fun a16 w15 =>
  S6 w15 ∧ (rv Try.prog (Builtin.append_ #[33, 33] 33 #[(.slice l8 l8n l8c), (.slice (some a16) 1 1)]) w15 fun v17 w18 => fS v17 fun l19 l19n l19c =>
  S6 w18 ∧ (st Try.prog 33 (a2.add 0) (.slice l19 l19n l19c) w18 fun w20 =>
  S6 w20 ∧ (next5 (((IntKind.wrap .i64 (s3.1 + 1)) : Int), ()) w20))))))) ∧ (rv Try.prog (Instr.makeSlice 41 (.int .i64 64) (.int .i64 64)) (drew w4) fun v21 w22 => fS v21 fun l23 l23n l23c =>
  S6 w22 ∧ ((ld Try.prog 33 (a2.add 0) w22 fun v24 => fS v24 fun l25 l25n l25c =>
  S6 w22 ∧ (rv Try.prog (convert 41 9 (.slice l23 l23n l23c)) w22 fun v26 w27 => fT v26 fun t28 =>
  S6 w27 ∧ (al 9 #[(.string t28)] w27 fun a30 w29 =>
  S6 w29 ∧ (rv Try.prog (Builtin.append_ #[33, 33] 33 #[(.slice l25 l25n l25c), (.slice (some a30) 1 1)]) w29 fun v31 w32 => fS v31 fun l33 l33n l33c =>
  S6 w32 ∧ (st Try.prog 33 (a2.add 0) (.slice l33 l33n l33c) w32 fun w34 =>
  S6 w34 ∧ (next5 (((IntKind.wrap .i64 (s3.1 + 1)) : Int), ()) w34)))))) ∧ (rv Try.prog (convert 41 9 (.slice l23 l23n l23c)) w22 fun v35 w36 => fT v35 fun t37 =>
  S6 w36 ∧ ((ld Try.prog 33 (a2.add 0) w36 fun v38 => fS v38 fun l39 l39n l39c =>
  S6 w36 ∧ (al 9 #[(.string t37)] w36 fun a41 w40 =>
  S6 w40 ∧ (rv Try.prog (Builtin.append_ #[33, 33] 33 #[(.slice l39 l39n l39c), (.slice (some a41) 1 1)]) w40 fun v42 w43 => fS v42 fun l44 l44n l44c =>
  S6 w43 ∧ (st Try.prog 33 (a2.add 0) (.slice l44 l44n l44c) w43 fun w45 =>
  S6 w45 ∧ (next5 (((IntKind.wrap .i64 (s3.1 + 1)) : Int), ()) w45))))) ∧ (al 9 #[(.string t37)] w36 fun a47 w46 =>
  S6 w46 ∧ (ld Try.prog 33 (a2.add 0) w46 fun v48 => fS v48 fun l49 l49n l49c =>
  S6 w46 ∧ (rv Try.prog (Builtin.append_ #[33, 33] 33 #[(.slice l49 l49n l49c), (.slice (some a47) 1 1)]) w46 fun v50 w51 => fS v50 fun l52 l52n l52c =>
  S6 w51 ∧ (st Try.prog 33 (a2.add 0) (.slice l52 l52n l52c) w51 fun w53 =>
  S6 w53 ∧ (next5 (((IntKind.wrap .i64 (s3.1 + 1)) : Int), ()) w53))))))))))) (Q (.tuple #[(.pointer (some a2)), (.int .i64 0)]) w4)) ((0 : Int), ()) w1))
theorem E.ref32_New (sectors_ : Int) (w : World) (Q : Value → World → Prop) : ev Try.prog Try.f23.ntmps callable [(5, [(5, .int .i64 0)], [0, 4]), (1000007, [], [0])] [] (Try.f23.body.getD .skip) (enumE 0 [(.int .i64 sectors_)]) w (KQ Try.prog Try.f23.results.toList Q) = W.ref32_New sectors_ w Q := by kernel_rfl
theorem C.ref32_New (sectors_ : Int) (w : World) (Q : Value → World → Prop) (h : W.ref32_New sectors_ w Q) : CallE Try.prog 23 #[(.int .i64 sectors_)] w Q :=
  calls_of_ev mixed callable_ok (args := [(.int .i64 sectors_)]) Try.func23 rfl ((E.ref32_New sectors_ w Q).symm ▸ h)

def W.law32_do_k10 (p0 : Addr) (p4 : Addr) (p8 : Int) (p19 : Int) (p22 : Bool) (w : World) (Q : Value → World → Prop) : Prop :=
  br p22 (ld Try.prog 3 (p4.add 2) w fun v13 => fI .i64 v13 fun x14 =>
  CallE Try.prog 17 #[(.int .i64 x14)] w fun v15 w16 => fT v15 fun t17 =>
  CallE Try.prog 12 #[(.pointer (some p0)), (.int .i64 p8), (.string t17)] w16 fun v18 w19 => fI .i64 v18 fun x20 =>
  Q (.tuple #[(.string ⟨#[]⟩), (.int .i64 x20)]) w19) (br ((p19 : Int) == 4) (CallE Try.prog 21 #[(.pointer (some p0)), (.int .i64 p8)] w fun v21 w22 => ∃ (t23 : ByteArray) (x24 : Int), v21 = .tuple #[(.string t23), (.int .i64 x24)] ∧
  Q (.tuple #[(.string t23), (.int .i64 x24)]) w22) (br ((p19 : Int) == 5) (CallE Try.prog 19 #[(.pointer (some p0))] w fun v25 w26 => fI .i64 v25 fun x27 =>
  Q (.tuple #[(.string ⟨#[]⟩), (.int .i64 x27)]) w26) (br ((p19 : Int) == 6) (drawE fun S28 => S28 (drew w) ∧ (ldS Try.prog S28 3 (p4.add 2) fun v29 => fI .i64 v29 fun x30 =>
  ldS Try.prog S28 31 (p4.add 3) fun v31 => fS v31 fun l32 l32n l32c =>
  CallE Try.prog 16 #[(.int .i64 x30), (.int .i64 6)] (drew w) fun v33 w34 => fI .i64 v33 fun x35 =>
  S28 w34 ∧ (CallE Try.prog 14 #[(.pointer (some p0)), (.int .i64 (IntKind.wrap .i64 (x35 - 1))), (.slice l32 l32n l32c)] w34 fun v36 w37 => v36 = .tuple #[] ∧
  S28 w37 ∧ (Q (.tuple #[(.string ⟨#[]⟩), (.int .i64 0)]) w37)))) (br ((p19 : Int) == 7) (ld Try.prog 31 (p4.add 3) w fun v38 => fS v38 fun l39 l39n l39c =>
  CallE Try.prog 11 #[(.pointer (some p0)), (.slice l39 l39n l39c)] w fun v40 w41 => fI .i64 v40 fun x42 =>
  Q (.tuple #[(.string ⟨#[]⟩), (.int .i64 x42)]) w41) (CallE Try.prog 22 #[(.pointer (some p0))] w fun v43 w44 => fI .i64 v43 fun x45 =>
  Q (.tuple #[(.string ⟨#[]⟩), (.int .i64 x45)]) w44)))))
def W.law32_do_k4 (p0 : Addr) (p4 : Addr) (p8 : Int) (w : World) (Q : Value → World → Prop) : Prop :=
  ld Try.prog 3 (p4.add 0) w fun v8 => fI .i64 v8 fun x9 =>
  CallE Try.prog 16 #[(.int .i64 x9), (.int .i64 10)] w fun v10 w11 => fI .i64 v10 fun x12 =>
  br ((x12 : Int) == 0) (W.law32_do_k10 p0 p4 p8 x12 true w11 Q) (br ((x12 : Int) == 1) (W.law32_do_k10 p0 p4 p8 x12 true w11 Q) (br ((x12 : Int) == 2) (W.law32_do_k10 p0 p4 p8 x12 true w11 Q) (W.law32_do_k10 p0 p4 p8 x12 ((x12 : Int) == 3) w11 Q)))
def W.law32_do (d_ : Addr) (c__0 : Int) (c__1 : Int) (c__2 : Int) (c__3 : Option Addr) (c__3n : Nat) (c__3c : Nat) (c__4 : Bool) (n_ : Int) (w : World) (Q : Value → World → Prop) : Prop :=
  al 37 (#[(.int .i64 c__0), (.int .i64 c__1), (.int .i64 c__2), (.slice c__3 c__3n c__3c), (.bool c__4)]) w fun a2 w1 =>
  ld Try.prog 3 (a2.add 1) w1 fun v3 => fI .i64 v3 fun x4 =>
  CallE Try.prog 16 #[(.int .i64 x4), (.int .i64 n_)] w1 fun v5 w6 => fI .i64 v5 fun x7 =>
  ld Try.prog 4 (a2.add 4) w6 fun v46 => fB v46 fun b47 =>
  br b47 (ld Try.prog 3 (a2.add 1) w6 fun v48 => fI .i64 v48 fun x49 =>
  W.law32_do_k4 d_ a2 x49 w6 Q) (W.law32_do_k4 d_ a2 x7 w6 Q)
theorem E.law32_do (d_ : Addr) (c__0 : Int) (c__1 : Int) (c__2 : Int) (c__3 : Option Addr) (c__3n : Nat) (c__3c : Nat) (c__4 : Bool) (n_ : Int) (w : World) (Q : Value → World → Prop) : ev Try.prog Try.f24.ntmps callable [] [] (Try.f24.body.getD .skip) (enumE 0 [(.pointer (some d_)), (.agg #[(.int .i64 c__0), (.int .i64 c__1), (.int .i64 c__2), (.slice c__3 c__3n c__3c), (.bool c__4)]), (.int .i64 n_)]) w (KQ Try.prog Try.f24.results.toList Q) = W.law32_do d_ c__0 c__1 c__2 c__3 c__3n c__3c c__4 n_ w Q := by kernel_rfl
theorem C.law32_do (d_ : Addr) (c__0 : Int) (c__1 : Int) (c__2 : Int) (c__3 : Option Addr) (c__3n : Nat) (c__3c : Nat) (c__4 : Bool) (n_ : Int) (w : World) (Q : Value → World → Prop) (h : W.law32_do d_ c__0 c__1 c__2 c__3 c__3n c__3c c__4 n_ w Q) : CallE Try.prog 24 #[(.pointer (some d_)), (.agg #[(.int .i64 c__0), (.int .i64 c__1), (.int .i64 c__2), (.slice c__3 c__3n c__3c), (.bool c__4)]), (.int .i64 n_)] w Q :=
  calls_of_ev mixed callable_ok (args := [(.pointer (some d_)), (.agg #[(.int .i64 c__0), (.int .i64 c__1), (.int .i64 c__2), (.slice c__3 c__3n c__3c), (.bool c__4)]), (.int .i64 n_)]) Try.func24 rfl ((E.law32_do d_ c__0 c__1 c__2 c__3 c__3n c__3c c__4 n_ w Q).symm ▸ h)

def W.law32_want_k10 (p0 : Addr) (p4 : Addr) (p8 : Int) (p19 : Int) (p22 : Bool) (w : World) (Q : Value → World → Prop) : Prop :=
  br p22 (ld Try.prog 3 (p4.add 2) w fun v13 => fI .i64 v13 fun x14 =>
  CallE Try.prog 17 #[(.int .i64 x14)] w fun v15 w16 => fT v15 fun t17 =>
  CallE Try.prog 34 #[(.pointer (some p0)), (.int .i64 p8), (.string t17)] w16 fun v18 w19 => fI .i64 v18 fun x20 =>
  Q (.tuple #[(.string ⟨#[]⟩), (.int .i64 x20)]) w19) (br ((p19 : Int) == 4) (CallE Try.prog 35 #[(.pointer (some p0)), (.int .i64 p8)] w fun v21 w22 => ∃ (t23 : ByteArray) (x24 : Int), v21 = .tuple #[(.string t23), (.int .i64 x24)] ∧
  Q (.tuple #[(.string t23), (.int .i64 x24)]) w22) (br ((p19 : Int) == 5) (CallE Try.prog 36 #[(.pointer (some p0))] w fun v25 w26 => fI .i64 v25 fun x27 =>
  Q (.tuple #[(.string ⟨#[]⟩), (.int .i64 x27)]) w26) (br ((p19 : Int) == 6) (drawE fun S28 => S28 (drew w) ∧ (ldS Try.prog S28 3 (p4.add 2) fun v29 => fI .i64 v29 fun x30 =>
  ldS Try.prog S28 31 (p4.add 3) fun v31 => fS v31 fun l32 l32n l32c =>
  CallE Try.prog 16 #[(.int .i64 x30), (.int .i64 6)] (drew w) fun v33 w34 => fI .i64 v33 fun x35 =>
  S28 w34 ∧ (CallE Try.prog 37 #[(.pointer (some p0)), (.int .i64 (IntKind.wrap .i64 (x35 - 1))), (.slice l32 l32n l32c)] w34 fun v36 w37 => v36 = .tuple #[] ∧
  S28 w37 ∧ (Q (.tuple #[(.string ⟨#[]⟩), (.int .i64 0)]) w37)))) (br ((p19 : Int) == 7) (ld Try.prog 31 (p4.add 3) w fun v38 => fS v38 fun l39 l39n l39c =>
  CallE Try.prog 38 #[(.pointer (some p0)), (.slice l39 l39n l39c)] w fun v40 w41 => fI .i64 v40 fun x42 =>
  Q (.tuple #[(.string ⟨#[]⟩), (.int .i64 x42)]) w41) (CallE Try.prog 39 #[(.pointer (some p0))] w fun v43 w44 => fI .i64 v43 fun x45 =>
  Q (.tuple #[(.string ⟨#[]⟩), (.int .i64 x45)]) w44)))))
def W.law32_want_k4 (p0 : Addr) (p4 : Addr) (p8 : Int) (w : World) (Q : Value → World → Prop) : Prop :=
  ld Try.prog 3 (p4.add 0) w fun v8 => fI .i64 v8 fun x9 =>
  CallE Try.prog 16 #[(.int .i64 x9), (.int .i64 10)] w fun v10 w11 => fI .i64 v10 fun x12 =>
  br ((x12 : Int) == 0) (W.law32_want_k10 p0 p4 p8 x12 true w11 Q) (br ((x12 : Int) == 1) (W.law32_want_k10 p0 p4 p8 x12 true w11 Q) (br ((x12 : Int) == 2) (W.law32_want_k10 p0 p4 p8 x12 true w11 Q) (W.law32_want_k10 p0 p4 p8 x12 ((x12 : Int) == 3) w11 Q)))
def W.law32_want (d_ : Addr) (c__0 : Int) (c__1 : Int) (c__2 : Int) (c__3 : Option Addr) (c__3n : Nat) (c__3c : Nat) (c__4 : Bool) (n_ : Int) (w : World) (Q : Value → World → Prop) : Prop :=
  al 37 (#[(.int .i64 c__0), (.int .i64 c__1), (.int .i64 c__2), (.slice c__3 c__3n c__3c), (.bool c__4)]) w fun a2 w1 =>
  ld Try.prog 3 (a2.add 1) w1 fun v3 => fI .i64 v3 fun x4 =>
  CallE Try.prog 16 #[(.int .i64 x4), (.int .i64 n_)] w1 fun v5 w6 => fI .i64 v5 fun x7 =>
  ld Try.prog 4 (a2.add 4) w6 fun v46 => fB v46 fun b47 =>
  br b47 (ld Try.prog 3 (a2.add 1) w6 fun v48 => fI .i64 v48 fun x49 =>
  W.law32_want_k4 d_ a2 x49 w6 Q) (W.law32_want_k4 d_ a2 x7 w6 Q)
theorem E.law32_want (d_ : Addr) (c__0 : Int) (c__1 : Int) (c__2 : Int) (c__3 : Option Addr) (c__3n : Nat) (c__3c : Nat) (c__4 : Bool) (n_ : Int) (w : World) (Q : Value → World → Prop) : ev Try.prog Try.f25.ntmps callable [] [] (Try.f25.body.getD .skip) (enumE 0 [(.pointer (some d_)), (.agg #[(.int .i64 c__0), (.int .i64 c__1), (.int .i64 c__2), (.slice c__3 c__3n c__3c), (.bool c__4)]), (.int .i64 n_)]) w (KQ Try.prog Try.f25.results.toList Q) = W.law32_want d_ c__0 c__1 c__2 c__3 c__3n c__3c c__4 n_ w Q := by kernel_rfl
theorem C.law32_want (d_ : Addr) (c__0 : Int) (c__1 : Int) (c__2 : Int) (c__3 : Option Addr) (c__3n : Nat) (c__3c : Nat) (c__4 : Bool) (n_ : Int) (w : World) (Q : Value → World → Prop) (h : W.law32_want d_ c__0 c__1 c__2 c__3 c__3n c__3c c__4 n_ w Q) : CallE Try.prog 25 #[(.pointer (some d_)), (.agg #[(.int .i64 c__0), (.int .i64 c__1), (.int .i64 c__2), (.slice c__3 c__3n c__3c), (.bool c__4)]), (.int .i64 n_)] w Q :=
  calls_of_ev mixed callable_ok (args := [(.pointer (some d_)), (.agg #[(.int .i64 c__0), (.int .i64 c__1), (.int .i64 c__2), (.slice c__3 c__3n c__3c), (.bool c__4)]), (.int .i64 n_)]) Try.func25 rfl ((E.law32_want d_ c__0 c__1 c__2 c__3 c__3n c__3c c__4 n_ w Q).symm ▸ h)

def W.ref32_Disk_Pending (d_ : Addr) (w : World) (Q : Value → World → Prop) : Prop :=
  ld Try.prog 65 (d_.add 1) w fun v1 => fS v1 fun l2 l2n l2c =>
  Q (.int .i64 ((l2n : Nat) : Int)) w
theorem E.ref32_Disk_Pending (d_ : Addr) (w : World) (Q : Value → World → Prop) : ev Try.prog Try.f26.ntmps callable [] [] (Try.f26.body.getD .skip) (enumE 0 [(.pointer (some d_))]) w (KQ Try.prog Try.f26.results.toList Q) = W.ref32_Disk_Pending d_ w Q := by kernel_rfl
theorem C.ref32_Disk_Pending (d_ : Addr) (w : World) (Q : Value → World → Prop) (h : W.ref32_Disk_Pending d_ w Q) : CallE Try.prog 26 #[(.pointer (some d_))] w Q :=
  calls_of_ev mixed callable_ok (args := [(.pointer (some d_))]) Try.func26 rfl ((E.ref32_Disk_Pending d_ w Q).symm ▸ h)

def W.blockdev_Disk_Size (d_ : Addr) (w : World) (Q : Value → World → Prop) : Prop :=
  ld Try.prog 33 (d_.add 0) w fun v1 => fS v1 fun l2 l2n l2c =>
  Q (.int .i64 ((l2n : Nat) : Int)) w
theorem E.blockdev_Disk_Size (d_ : Addr) (w : World) (Q : Value → World → Prop) : ev Try.prog Try.f27.ntmps callable [] [] (Try.f27.body.getD .skip) (enumE 0 [(.pointer (some d_))]) w (KQ Try.prog Try.f27.results.toList Q) = W.blockdev_Disk_Size d_ w Q := by kernel_rfl
theorem C.blockdev_Disk_Size (d_ : Addr) (w : World) (Q : Value → World → Prop) (h : W.blockdev_Disk_Size d_ w Q) : CallE Try.prog 27 #[(.pointer (some d_))] w Q :=
  calls_of_ev mixed callable_ok (args := [(.pointer (some d_))]) Try.func27 rfl ((E.blockdev_Disk_Size d_ w Q).symm ▸ h)

def W.ref32_Disk_Contents (d_ : Addr) (w : World) (Q : Value → World → Prop) : Prop :=
  al 9 #[] w fun a2 w1 =>
  ld Try.prog 33 (d_.add 0) w1 fun v3 => fS v3 fun l4 l4n l4c =>
  rv Try.prog (Builtin.append_ #[33, 33] 33 #[(.slice (some a2) 0 0), (.slice l4 l4n l4c)]) w1 fun v5 w6 => fS v5 fun l7 l7n l7c =>
  Q (.slice l7 l7n l7c) w6
theorem E.ref32_Disk_Contents (d_ : Addr) (w : World) (Q : Value → World → Prop) : ev Try.prog Try.f28.ntmps callable [] [] (Try.f28.body.getD .skip) (enumE 0 [(.pointer (some d_))]) w (KQ Try.prog Try.f28.results.toList Q) = W.ref32_Disk_Contents d_ w Q := by kernel_rfl
theorem C.ref32_Disk_Contents (d_ : Addr) (w : World) (Q : Value → World → Prop) (h : W.ref32_Disk_Contents d_ w Q) : CallE Try.prog 28 #[(.pointer (some d_))] w Q :=
  calls_of_ev mixed callable_ok (args := [(.pointer (some d_))]) Try.func28 rfl ((E.ref32_Disk_Contents d_ w Q).symm ▸ h)

def W.slices_Clone___string_string_ (s_ : Option Addr) (s_n : Nat) (s_c : Nat) (w : World) (Q : Value → World → Prop) : Prop :=
  rq Try.prog (do eqGuard .eql 33 (.tmp 3) (.const (.slice none 0 0)) (.slice s_ s_n s_c) (.slice none 0 0); binOp .eql 33 (.slice s_ s_n s_c) (.slice none 0 0)) w fun v1 => fB v1 fun b2 =>
  br b2 (Q (.slice none 0 0) w) (al 9 #[] w fun a4 w3 =>
  rv Try.prog (Builtin.append_ #[33, 33] 33 #[(.slice (some a4) 0 0), (.slice s_ s_n s_c)]) w3 fun v5 w6 => fS v5 fun l7 l7n l7c =>
  Q (.slice l7 l7n l7c) w6)
theorem E.slices_Clone___string_string_ (s_ : Option Addr) (s_n : Nat) (s_c : Nat) (w : World) (Q : Value → World → Prop) : ev Try.prog Try.f30.ntmps callable [] [] (Try.f30.body.getD .skip) (enumE 0 [(.slice s_ s_n s_c)]) w (KQ Try.prog Try.f30.results.toList Q) = W.slices_Clone___string_string_ s_ s_n s_c w Q := by kernel_rfl
theorem C.slices_Clone___string_string_ (s_ : Option Addr) (s_n : Nat) (s_c : Nat) (w : World) (Q : Value → World → Prop) (h : W.slices_Clone___string_string_ s_ s_n s_c w Q) : CallE Try.prog 30 #[(.slice s_ s_n s_c)] w Q :=
  calls_of_ev mixed callable_ok (args := [(.slice s_ s_n s_c)]) Try.func30 rfl ((E.slices_Clone___string_string_ s_ s_n s_c w Q).symm ▸ h)

def W.blockdev_Disk_lose_k6 (p0 : Addr) (w : World) (Q : Value → World → Prop) : Prop :=
  st Try.prog 56 (p0.add 2) (.slice none 0 0) w fun w1 =>
  dr w1 fun w2 =>
  ld Try.prog 33 (p0.add 1) w2 fun v3 => fS v3 fun l4 l4n l4c =>
  ld Try.prog 33 (p0.add 0) w2 fun v5 => fS v5 fun l6 l6n l6c =>
  rv Try.prog (Builtin.copy_ #[33, 33] 3 #[(.slice l4 l4n l4c), (.slice l6 l6n l6c)]) w2 fun v7 w8 => fI .i64 v7 fun x9 =>
  st Try.prog 4 (p0.add 3) (.bool true) w8 fun w10 =>
  CallE Try.prog 32 #[(.pointer (some p0))] w10 fun v11 w12 => v11 = .tuple #[] ∧
  Q (.tuple #[]) w12
def W.blockdev_Disk_lose_k4 (p0 : Addr) (p1 : Option Addr) (p1n : Nat) (p1c : Nat) (p5 : Addr) (p9 : Option Addr) (p9n : Nat) (p9c : Nat) (p10 : Int) (p11 : Int) (p25 : Bool) (next17 : (Int × Unit) → World → Prop) (w : World) (Q : Value → World → Prop) : Prop :=
  br p25 (dr w fun w25 =>
  ld Try.prog 33 (p0.add 0) w25 fun v26 => fS v26 fun l27 l27n l27c =>
  ld Try.prog 3 (p5.add 0) w25 fun v28 => fI .i64 v28 fun x29 =>
  ld Try.prog 9 (p5.add 1) w25 fun v30 => fT v30 fun t31 =>
  rq Try.prog (Instr.indexAt 33 (.slice l27 l27n l27c) (.int .i64 x29)) w25 fun v32 => fA v32 fun a33 =>
  st Try.prog 9 a33 (.string t31) w25 fun w34 =>
  next17 (((IntKind.wrap .i64 (p11 + 1)) : Int), ()) w34) (next17 (((IntKind.wrap .i64 (p11 + 1)) : Int), ()) w)
def W.blockdev_Disk_lose (d_ : Addr) (keep_ : Option Addr) (keep_n : Nat) (keep_c : Nat) (w : World) (Q : Value → World → Prop) : Prop :=
  ld Try.prog 56 (d_.add 2) w fun v13 => fS v13 fun l14 l14n l14c =>
  LoopW (S := Int × Unit) (fun s15 w16 next17 =>
  br (decide ((s15.1 : Int) < ((l14n : Nat) : Int))) (rq Try.prog (Instr.indexAt 56 (.slice l14 l14n l14c) (.int .i64 s15.1)) w16 fun v18 => fA v18 fun a19 =>
  ld Try.prog 62 a19 w16 fun v20 => fG v20 fun g21 =>
  al 62 (zeroT Try.prog 62).cells w16 fun a23 w22 =>
  st Try.prog 62 a23 (.agg g21) w22 fun w24 =>
  br (decide ((s15.1 : Int) < ((keep_n : Nat) : Int))) (rq Try.prog (Instr.indexAt 31 (.slice keep_ keep_n keep_c) (.int .i64 s15.1)) w24 fun v35 => fA v35 fun a36 =>
  ld Try.prog 4 a36 w24 fun v37 => fB v37 fun b38 =>
  W.blockdev_Disk_lose_k4 d_ keep_ keep_n keep_c a23 l14 l14n l14c ((l14n : Nat) : Int) s15.1 b38 next17 w24 Q) (W.blockdev_Disk_lose_k4 d_ keep_ keep_n keep_c a23 l14 l14n l14c ((l14n : Nat) : Int) s15.1 false next17 w24 Q)) (W.blockdev_Disk_lose_k6 d_ w16 Q)) ((0 : Int), ()) w
theorem E.blockdev_Disk_lose (d_ : Addr) (keep_ : Option Addr) (keep_n : Nat) (keep_c : Nat) (w : World) (Q : Value → World → Prop) : ev Try.prog Try.f31.ntmps callable [(1, [(11, .int .i64 0)], [0, 1, 9, 10])] [] (Try.f31.body.getD .skip) (enumE 0 [(.pointer (some d_)), (.slice keep_ keep_n keep_c)]) w (KQ Try.prog Try.f31.results.toList Q) = W.blockdev_Disk_lose d_ keep_ keep_n keep_c w Q := by kernel_rfl
theorem C.blockdev_Disk_lose (d_ : Addr) (keep_ : Option Addr) (keep_n : Nat) (keep_c : Nat) (w : World) (Q : Value → World → Prop) (h : W.blockdev_Disk_lose d_ keep_ keep_n keep_c w Q) : CallE Try.prog 31 #[(.pointer (some d_)), (.slice keep_ keep_n keep_c)] w Q :=
  calls_of_ev mixed callable_ok (args := [(.pointer (some d_)), (.slice keep_ keep_n keep_c)]) Try.func31 rfl ((E.blockdev_Disk_lose d_ keep_ keep_n keep_c w Q).symm ▸ h)

def W.blockdev_Disk_removePlan (d_ : Addr) (w : World) (Q : Value → World → Prop) : Prop :=
  st Try.prog 4 (d_.add 4) (.bool false) w fun w1 =>
  st Try.prog 3 (d_.add 5) (.int .i64 0) w1 fun w2 =>
  st Try.prog 31 (d_.add 6) (.slice none 0 0) w2 fun w3 =>
  Q (.tuple #[]) w3
theorem E.blockdev_Disk_removePlan (d_ : Addr) (w : World) (Q : Value → World → Prop) : ev Try.prog Try.f32.ntmps callable [] [] (Try.f32.body.getD .skip) (enumE 0 [(.pointer (some d_))]) w (KQ Try.prog Try.f32.results.toList Q) = W.blockdev_Disk_removePlan d_ w Q := by kernel_rfl
theorem C.blockdev_Disk_removePlan (d_ : Addr) (w : World) (Q : Value → World → Prop) (h : W.blockdev_Disk_removePlan d_ w Q) : CallE Try.prog 32 #[(.pointer (some d_))] w Q :=
  calls_of_ev mixed callable_ok (args := [(.pointer (some d_))]) Try.func32 rfl ((E.blockdev_Disk_removePlan d_ w Q).symm ▸ h)

def W.slices_Clone___bool_bool_ (s_ : Option Addr) (s_n : Nat) (s_c : Nat) (w : World) (Q : Value → World → Prop) : Prop :=
  rq Try.prog (do eqGuard .eql 31 (.tmp 3) (.const (.slice none 0 0)) (.slice s_ s_n s_c) (.slice none 0 0); binOp .eql 31 (.slice s_ s_n s_c) (.slice none 0 0)) w fun v1 => fB v1 fun b2 =>
  br b2 (Q (.slice none 0 0) w) (al 4 #[] w fun a4 w3 =>
  rv Try.prog (Builtin.append_ #[31, 31] 31 #[(.slice (some a4) 0 0), (.slice s_ s_n s_c)]) w3 fun v5 w6 => fS v5 fun l7 l7n l7c =>
  Q (.slice l7 l7n l7c) w6)
theorem E.slices_Clone___bool_bool_ (s_ : Option Addr) (s_n : Nat) (s_c : Nat) (w : World) (Q : Value → World → Prop) : ev Try.prog Try.f33.ntmps callable [] [] (Try.f33.body.getD .skip) (enumE 0 [(.slice s_ s_n s_c)]) w (KQ Try.prog Try.f33.results.toList Q) = W.slices_Clone___bool_bool_ s_ s_n s_c w Q := by kernel_rfl
theorem C.slices_Clone___bool_bool_ (s_ : Option Addr) (s_n : Nat) (s_c : Nat) (w : World) (Q : Value → World → Prop) (h : W.slices_Clone___bool_bool_ s_ s_n s_c w Q) : CallE Try.prog 33 #[(.slice s_ s_n s_c)] w Q :=
  calls_of_ev mixed callable_ok (args := [(.slice s_ s_n s_c)]) Try.func33 rfl ((E.slices_Clone___bool_bool_ s_ s_n s_c w Q).symm ▸ h)

def W.ref32_Disk_Write_k10 (p0 : Addr) (p1 : Int) (p2 : ByteArray) (w : World) (Q : Value → World → Prop) : Prop :=
  ld Try.prog 65 (p0.add 1) w fun v11 => fS v11 fun l12 l12n l12c =>
  al 81 #[(.int .i64 p1), (.string p2)] w fun a14 w13 =>
  rv Try.prog (Builtin.append_ #[65, 65] 65 #[(.slice l12 l12n l12c), (.slice (some a14) 1 1)]) w13 fun v15 w16 => fS v15 fun l17 l17n l17c =>
  st Try.prog 65 (p0.add 1) (.slice l17 l17n l17c) w16 fun w18 =>
  Q (.int .i64 0) w18
def W.ref32_Disk_Write (d_ : Addr) (sector_ : Int) (data_ : ByteArray) (w : World) (Q : Value → World → Prop) : Prop :=
  br (decide ((sector_ : Int) < 0)) (Q (.int .i64 1) w) (ld Try.prog 33 (d_.add 0) w fun v1 => fS v1 fun l2 l2n l2c =>
  br (decide ((sector_ : Int) ≥ ((l2n : Nat) : Int))) (Q (.int .i64 1) w) (br ((((data_.size : Nat) : Int) : Int) != 64) (Q (.int .i64 1) w) (ld Try.prog 4 (d_.add 2) w fun v3 => fB v3 fun b4 =>
  br b4 (Q (.int .i64 16) w) (ld Try.prog 3 (d_.add 3) w fun v5 => fI .i64 v5 fun x6 =>
  br ((x6 : Int) == 0) (ld Try.prog 31 (d_.add 4) w fun v7 => fS v7 fun l8 l8n l8c =>
  CallE Try.prog 46 #[(.pointer (some d_)), (.slice l8 l8n l8c)] w fun v9 w10 => v9 = .tuple #[] ∧
  Q (.int .i64 16) w10) (ld Try.prog 3 (d_.add 3) w fun v19 => fI .i64 v19 fun x20 =>
  br (decide ((x20 : Int) > 0)) (ld Try.prog 3 (d_.add 3) w fun v21 => fI .i64 v21 fun x22 =>
  st Try.prog 3 (d_.add 3) (.int .i64 (IntKind.wrap .i64 (x22 - 1))) w fun w23 =>
  W.ref32_Disk_Write_k10 d_ sector_ data_ w23 Q) (W.ref32_Disk_Write_k10 d_ sector_ data_ w Q))))))
theorem E.ref32_Disk_Write (d_ : Addr) (sector_ : Int) (data_ : ByteArray) (w : World) (Q : Value → World → Prop) : ev Try.prog Try.f34.ntmps callable [] [] (Try.f34.body.getD .skip) (enumE 0 [(.pointer (some d_)), (.int .i64 sector_), (.string data_)]) w (KQ Try.prog Try.f34.results.toList Q) = W.ref32_Disk_Write d_ sector_ data_ w Q := by kernel_rfl
theorem C.ref32_Disk_Write (d_ : Addr) (sector_ : Int) (data_ : ByteArray) (w : World) (Q : Value → World → Prop) (h : W.ref32_Disk_Write d_ sector_ data_ w Q) : CallE Try.prog 34 #[(.pointer (some d_)), (.int .i64 sector_), (.string data_)] w Q :=
  calls_of_ev mixed callable_ok (args := [(.pointer (some d_)), (.int .i64 sector_), (.string data_)]) Try.func34 rfl ((E.ref32_Disk_Write d_ sector_ data_ w Q).symm ▸ h)

def W.ref32_Disk_Read_k10 (p0 : Addr) (p1 : Int) (w : World) (Q : Value → World → Prop) : Prop :=
  ld Try.prog 33 (p0.add 0) w fun v5 => fS v5 fun l6 l6n l6c =>
  rq Try.prog (Instr.indexAt 33 (.slice l6 l6n l6c) (.int .i64 p1)) w fun v7 => fA v7 fun a8 =>
  ld Try.prog 9 a8 w fun v9 => fT v9 fun t10 =>
  Q (.tuple #[(.string t10), (.int .i64 0)]) w
def W.ref32_Disk_Read (d_ : Addr) (sector_ : Int) (w : World) (Q : Value → World → Prop) : Prop :=
  br (decide ((sector_ : Int) < 0)) (Q (.tuple #[(.string ⟨#[]⟩), (.int .i64 1)]) w) (ld Try.prog 33 (d_.add 0) w fun v1 => fS v1 fun l2 l2n l2c =>
  br (decide ((sector_ : Int) ≥ ((l2n : Nat) : Int))) (Q (.tuple #[(.string ⟨#[]⟩), (.int .i64 1)]) w) (ld Try.prog 4 (d_.add 2) w fun v3 => fB v3 fun b4 =>
  br b4 (Q (.tuple #[(.string ⟨#[]⟩), (.int .i64 16)]) w) (ld Try.prog 65 (d_.add 1) w fun v11 => fS v11 fun l12 l12n l12c =>
  LoopW (S := Int × Unit) (fun s13 w14 next15 =>
  br (decide ((s13.1 : Int) ≥ 0)) (ld Try.prog 65 (d_.add 1) w14 fun v16 => fS v16 fun l17 l17n l17c =>
  rq Try.prog (Instr.indexAt 65 (.slice l17 l17n l17c) (.int .i64 s13.1)) w14 fun v18 => fA v18 fun a19 =>
  ld Try.prog 3 (a19.add 0) w14 fun v20 => fI .i64 v20 fun x21 =>
  br ((x21 : Int) == sector_) (ld Try.prog 65 (d_.add 1) w14 fun v22 => fS v22 fun l23 l23n l23c =>
  rq Try.prog (Instr.indexAt 65 (.slice l23 l23n l23c) (.int .i64 s13.1)) w14 fun v24 => fA v24 fun a25 =>
  ld Try.prog 9 (a25.add 1) w14 fun v26 => fT v26 fun t27 =>
  Q (.tuple #[(.string t27), (.int .i64 0)]) w14) (next15 (((IntKind.wrap .i64 (s13.1 - 1)) : Int), ()) w14)) (W.ref32_Disk_Read_k10 d_ sector_ w14 Q)) (((IntKind.wrap .i64 (((l12n : Nat) : Int) - 1)) : Int), ()) w)))
theorem E.ref32_Disk_Read (d_ : Addr) (sector_ : Int) (w : World) (Q : Value → World → Prop) : ev Try.prog Try.f35.ntmps callable [(6, [(6, .int .i64 0)], [0, 1])] [] (Try.f35.body.getD .skip) (enumE 0 [(.pointer (some d_)), (.int .i64 sector_)]) w (KQ Try.prog Try.f35.results.toList Q) = W.ref32_Disk_Read d_ sector_ w Q := by kernel_rfl
theorem C.ref32_Disk_Read (d_ : Addr) (sector_ : Int) (w : World) (Q : Value → World → Prop) (h : W.ref32_Disk_Read d_ sector_ w Q) : CallE Try.prog 35 #[(.pointer (some d_)), (.int .i64 sector_)] w Q :=
  calls_of_ev mixed callable_ok (args := [(.pointer (some d_)), (.int .i64 sector_)]) Try.func35 rfl ((E.ref32_Disk_Read d_ sector_ w Q).symm ▸ h)

def W.ref32_Disk_Flush (d_ : Addr) (w : World) (Q : Value → World → Prop) : Prop :=
  ld Try.prog 4 (d_.add 2) w fun v1 => fB v1 fun b2 =>
  br b2 (Q (.int .i64 16) w) (LoopW (S := Int × Unit) (fun s3 w4 next5 =>
  ld Try.prog 65 (d_.add 1) w4 fun v6 => fS v6 fun l7 l7n l7c =>
  br (decide ((s3.1 : Int) < ((l7n : Nat) : Int))) (dr w4 fun w8 =>
  ld Try.prog 33 (d_.add 0) w8 fun v9 => fS v9 fun l10 l10n l10c =>
  ld Try.prog 65 (d_.add 1) w8 fun v11 => fS v11 fun l12 l12n l12c =>
  rq Try.prog (Instr.indexAt 65 (.slice l12 l12n l12c) (.int .i64 s3.1)) w8 fun v13 => fA v13 fun a14 =>
  ld Try.prog 3 (a14.add 0) w8 fun v15 => fI .i64 v15 fun x16 =>
  ld Try.prog 65 (d_.add 1) w8 fun v17 => fS v17 fun l18 l18n l18c =>
  rq Try.prog (Instr.indexAt 65 (.slice l18 l18n l18c) (.int .i64 s3.1)) w8 fun v19 => fA v19 fun a20 =>
  ld Try.prog 9 (a20.add 1) w8 fun v21 => fT v21 fun t22 =>
  rq Try.prog (Instr.indexAt 33 (.slice l10 l10n l10c) (.int .i64 x16)) w8 fun v23 => fA v23 fun a24 =>
  st Try.prog 9 a24 (.string t22) w8 fun w25 =>
  next5 (((IntKind.wrap .i64 (s3.1 + 1)) : Int), ()) w25) (st Try.prog 65 (d_.add 1) (.slice none 0 0) w4 fun w26 =>
  Q (.int .i64 0) w26)) ((0 : Int), ()) w)
theorem E.ref32_Disk_Flush (d_ : Addr) (w : World) (Q : Value → World → Prop) : ev Try.prog Try.f36.ntmps callable [(4, [(3, .int .i64 0)], [0])] [] (Try.f36.body.getD .skip) (enumE 0 [(.pointer (some d_))]) w (KQ Try.prog Try.f36.results.toList Q) = W.ref32_Disk_Flush d_ w Q := by kernel_rfl
theorem C.ref32_Disk_Flush (d_ : Addr) (w : World) (Q : Value → World → Prop) (h : W.ref32_Disk_Flush d_ w Q) : CallE Try.prog 36 #[(.pointer (some d_))] w Q :=
  calls_of_ev mixed callable_ok (args := [(.pointer (some d_))]) Try.func36 rfl ((E.ref32_Disk_Flush d_ w Q).symm ▸ h)

def W.ref32_Disk_CutAfter (d_ : Addr) (writes_ : Int) (keep_ : Option Addr) (keep_n : Nat) (keep_c : Nat) (w : World) (Q : Value → World → Prop) : Prop :=
  al 4 #[] w fun a2 w1 =>
  rv Try.prog (Builtin.append_ #[31, 31] 31 #[(.slice (some a2) 0 0), (.slice keep_ keep_n keep_c)]) w1 fun v3 w4 => fS v3 fun l5 l5n l5c =>
  st Try.prog 3 (d_.add 3) (.int .i64 (if (-1) > writes_ then (-1) else writes_)) w4 fun w6 =>
  st Try.prog 31 (d_.add 4) (.slice l5 l5n l5c) w6 fun w7 =>
  Q (.tuple #[]) w7
theorem E.ref32_Disk_CutAfter (d_ : Addr) (writes_ : Int) (keep_ : Option Addr) (keep_n : Nat) (keep_c : Nat) (w : World) (Q : Value → World → Prop) : ev Try.prog Try.f37.ntmps callable [] [] (Try.f37.body.getD .skip) (enumE 0 [(.pointer (some d_)), (.int .i64 writes_), (.slice keep_ keep_n keep_c)]) w (KQ Try.prog Try.f37.results.toList Q) = W.ref32_Disk_CutAfter d_ writes_ keep_ keep_n keep_c w Q := by kernel_rfl
theorem C.ref32_Disk_CutAfter (d_ : Addr) (writes_ : Int) (keep_ : Option Addr) (keep_n : Nat) (keep_c : Nat) (w : World) (Q : Value → World → Prop) (h : W.ref32_Disk_CutAfter d_ writes_ keep_ keep_n keep_c w Q) : CallE Try.prog 37 #[(.pointer (some d_)), (.int .i64 writes_), (.slice keep_ keep_n keep_c)] w Q :=
  calls_of_ev mixed callable_ok (args := [(.pointer (some d_)), (.int .i64 writes_), (.slice keep_ keep_n keep_c)]) Try.func37 rfl ((E.ref32_Disk_CutAfter d_ writes_ keep_ keep_n keep_c w Q).symm ▸ h)

def W.ref32_Disk_PowerOff (d_ : Addr) (keep_ : Option Addr) (keep_n : Nat) (keep_c : Nat) (w : World) (Q : Value → World → Prop) : Prop :=
  ld Try.prog 4 (d_.add 2) w fun v1 => fB v1 fun b2 =>
  br b2 (Q (.int .i64 9) w) (CallE Try.prog 46 #[(.pointer (some d_)), (.slice keep_ keep_n keep_c)] w fun v3 w4 => v3 = .tuple #[] ∧
  Q (.int .i64 0) w4)
theorem E.ref32_Disk_PowerOff (d_ : Addr) (keep_ : Option Addr) (keep_n : Nat) (keep_c : Nat) (w : World) (Q : Value → World → Prop) : ev Try.prog Try.f38.ntmps callable [] [] (Try.f38.body.getD .skip) (enumE 0 [(.pointer (some d_)), (.slice keep_ keep_n keep_c)]) w (KQ Try.prog Try.f38.results.toList Q) = W.ref32_Disk_PowerOff d_ keep_ keep_n keep_c w Q := by kernel_rfl
theorem C.ref32_Disk_PowerOff (d_ : Addr) (keep_ : Option Addr) (keep_n : Nat) (keep_c : Nat) (w : World) (Q : Value → World → Prop) (h : W.ref32_Disk_PowerOff d_ keep_ keep_n keep_c w Q) : CallE Try.prog 38 #[(.pointer (some d_)), (.slice keep_ keep_n keep_c)] w Q :=
  calls_of_ev mixed callable_ok (args := [(.pointer (some d_)), (.slice keep_ keep_n keep_c)]) Try.func38 rfl ((E.ref32_Disk_PowerOff d_ keep_ keep_n keep_c w Q).symm ▸ h)

def W.ref32_Disk_PowerOn (d_ : Addr) (w : World) (Q : Value → World → Prop) : Prop :=
  ld Try.prog 4 (d_.add 2) w fun v1 => fB v1 fun b2 =>
  br (!b2) (Q (.int .i64 9) w) (st Try.prog 4 (d_.add 2) (.bool false) w fun w3 =>
  Q (.int .i64 0) w3)
theorem E.ref32_Disk_PowerOn (d_ : Addr) (w : World) (Q : Value → World → Prop) : ev Try.prog Try.f39.ntmps callable [] [] (Try.f39.body.getD .skip) (enumE 0 [(.pointer (some d_))]) w (KQ Try.prog Try.f39.results.toList Q) = W.ref32_Disk_PowerOn d_ w Q := by kernel_rfl
theorem C.ref32_Disk_PowerOn (d_ : Addr) (w : World) (Q : Value → World → Prop) (h : W.ref32_Disk_PowerOn d_ w Q) : CallE Try.prog 39 #[(.pointer (some d_))] w Q :=
  calls_of_ev mixed callable_ok (args := [(.pointer (some d_))]) Try.func39 rfl ((E.ref32_Disk_PowerOn d_ w Q).symm ▸ h)

def W.strings_HasPrefix (s_ : ByteArray) (prefix_ : ByteArray) (w : World) (Q : Value → World → Prop) : Prop :=
  CallE Try.prog 49 #[(.string s_), (.string prefix_)] w fun v1 w2 => fB v1 fun b3 =>
  Q (.bool b3) w2
theorem E.strings_HasPrefix (s_ : ByteArray) (prefix_ : ByteArray) (w : World) (Q : Value → World → Prop) : ev Try.prog Try.f41.ntmps callable [] [] (Try.f41.body.getD .skip) (enumE 0 [(.string s_), (.string prefix_)]) w (KQ Try.prog Try.f41.results.toList Q) = W.strings_HasPrefix s_ prefix_ w Q := by kernel_rfl
theorem C.strings_HasPrefix (s_ : ByteArray) (prefix_ : ByteArray) (w : World) (Q : Value → World → Prop) (h : W.strings_HasPrefix s_ prefix_ w Q) : CallE Try.prog 41 #[(.string s_), (.string prefix_)] w Q :=
  calls_of_ev mixed callable_ok (args := [(.string s_), (.string prefix_)]) Try.func41 rfl ((E.strings_HasPrefix s_ prefix_ w Q).symm ▸ h)

def W.strings_Builder_WriteString (b_ : Addr) (s_ : ByteArray) (w : World) (Q : Value → World → Prop) : Prop :=
  CallE Try.prog 50 #[(.pointer (some b_))] w fun v1 w2 => v1 = .tuple #[] ∧
  ld Try.prog 41 (b_.add 1) w2 fun v3 => fS v3 fun l4 l4n l4c =>
  rv Try.prog (Builtin.append_ #[41, 9] 41 #[(.slice l4 l4n l4c), (.string s_)]) w2 fun v5 w6 => fS v5 fun l7 l7n l7c =>
  st Try.prog 41 (b_.add 1) (.slice l7 l7n l7c) w6 fun w8 =>
  Q (.tuple #[(.int .i64 ((s_.size : Nat) : Int)), .nilIface]) w8
theorem E.strings_Builder_WriteString (b_ : Addr) (s_ : ByteArray) (w : World) (Q : Value → World → Prop) : ev Try.prog Try.f43.ntmps callable [] [] (Try.f43.body.getD .skip) (enumE 0 [(.pointer (some b_)), (.string s_)]) w (KQ Try.prog Try.f43.results.toList Q) = W.strings_Builder_WriteString b_ s_ w Q := by kernel_rfl
theorem C.strings_Builder_WriteString (b_ : Addr) (s_ : ByteArray) (w : World) (Q : Value → World → Prop) (h : W.strings_Builder_WriteString b_ s_ w Q) : CallE Try.prog 43 #[(.pointer (some b_)), (.string s_)] w Q :=
  calls_of_ev mixed callable_ok (args := [(.pointer (some b_)), (.string s_)]) Try.func43 rfl ((E.strings_Builder_WriteString b_ s_ w Q).symm ▸ h)

def W.strings_Builder_String (b_ : Addr) (w : World) (Q : Value → World → Prop) : Prop :=
  drawE fun S1 => S1 (drew w) ∧ (ldS Try.prog S1 41 (b_.add 1) fun v2 => fS v2 fun l3 l3n l3c =>
  ldS Try.prog S1 41 (b_.add 1) fun v4 => fS v4 fun l5 l5n l5c =>
  rv Try.prog (Builtin.unsafeSliceData_ #[41] 88 #[(.slice l3 l3n l3c)]) (drew w) fun v6 w7 => fP v6 fun p8 =>
  S1 w7 ∧ (rv Try.prog (Builtin.unsafeString_ #[88, 3] 9 #[(.pointer p8), (.int .i64 ((l5n : Nat) : Int))]) w7 fun v9 w10 => fT v9 fun t11 =>
  S1 w10 ∧ (Q (.string t11) w10)))
theorem E.strings_Builder_String (b_ : Addr) (w : World) (Q : Value → World → Prop) : ev Try.prog Try.f45.ntmps callable [] [] (Try.f45.body.getD .skip) (enumE 0 [(.pointer (some b_))]) w (KQ Try.prog Try.f45.results.toList Q) = W.strings_Builder_String b_ w Q := by kernel_rfl
theorem C.strings_Builder_String (b_ : Addr) (w : World) (Q : Value → World → Prop) (h : W.strings_Builder_String b_ w Q) : CallE Try.prog 45 #[(.pointer (some b_))] w Q :=
  calls_of_ev mixed callable_ok (args := [(.pointer (some b_))]) Try.func45 rfl ((E.strings_Builder_String b_ w Q).symm ▸ h)

def W.ref32_Disk_lose_k5 (p0 : Addr) (w : World) (Q : Value → World → Prop) : Prop :=
  st Try.prog 65 (p0.add 1) (.slice none 0 0) w fun w1 =>
  st Try.prog 4 (p0.add 2) (.bool true) w1 fun w2 =>
  st Try.prog 3 (p0.add 3) (.int .i64 (-1)) w2 fun w3 =>
  st Try.prog 31 (p0.add 4) (.slice none 0 0) w3 fun w4 =>
  Q (.tuple #[]) w4
def W.ref32_Disk_lose_k4 (p0 : Addr) (p1 : Option Addr) (p1n : Nat) (p1c : Nat) (p4 : Int) (p23 : Bool) (next7 : (Int × Unit) → World → Prop) (w : World) (Q : Value → World → Prop) : Prop :=
  br p23 (dr w fun w10 =>
  ld Try.prog 33 (p0.add 0) w10 fun v11 => fS v11 fun l12 l12n l12c =>
  ld Try.prog 65 (p0.add 1) w10 fun v13 => fS v13 fun l14 l14n l14c =>
  rq Try.prog (Instr.indexAt 65 (.slice l14 l14n l14c) (.int .i64 p4)) w10 fun v15 => fA v15 fun a16 =>
  ld Try.prog 3 (a16.add 0) w10 fun v17 => fI .i64 v17 fun x18 =>
  ld Try.prog 65 (p0.add 1) w10 fun v19 => fS v19 fun l20 l20n l20c =>
  rq Try.prog (Instr.indexAt 65 (.slice l20 l20n l20c) (.int .i64 p4)) w10 fun v21 => fA v21 fun a22 =>
  ld Try.prog 9 (a22.add 1) w10 fun v23 => fT v23 fun t24 =>
  rq Try.prog (Instr.indexAt 33 (.slice l12 l12n l12c) (.int .i64 x18)) w10 fun v25 => fA v25 fun a26 =>
  st Try.prog 9 a26 (.string t24) w10 fun w27 =>
  next7 (((IntKind.wrap .i64 (p4 + 1)) : Int), ()) w27) (next7 (((IntKind.wrap .i64 (p4 + 1)) : Int), ()) w)
def W.ref32_Disk_lose (d_ : Addr) (keep_ : Option Addr) (keep_n : Nat) (keep_c : Nat) (w : World) (Q : Value → World → Prop) : Prop :=
  LoopW (S := Int × Unit) (fun s5 w6 next7 =>
  ld Try.prog 65 (d_.add 1) w6 fun v8 => fS v8 fun l9 l9n l9c =>
  br (decide ((s5.1 : Int) < ((l9n : Nat) : Int))) (br (decide ((s5.1 : Int) < ((keep_n : Nat) : Int))) (rq Try.prog (Instr.indexAt 31 (.slice keep_ keep_n keep_c) (.int .i64 s5.1)) w6 fun v28 => fA v28 fun a29 =>
  ld Try.prog 4 a29 w6 fun v30 => fB v30 fun b31 =>
  W.ref32_Disk_lose_k4 d_ keep_ keep_n keep_c s5.1 b31 next7 w6 Q) (W.ref32_Disk_lose_k4 d_ keep_ keep_n keep_c s5.1 false next7 w6 Q)) (W.ref32_Disk_lose_k5 d_ w6 Q)) ((0 : Int), ()) w
theorem E.ref32_Disk_lose (d_ : Addr) (keep_ : Option Addr) (keep_n : Nat) (keep_c : Nat) (w : World) (Q : Value → World → Prop) : ev Try.prog Try.f46.ntmps callable [(1, [(4, .int .i64 0)], [0, 1])] [] (Try.f46.body.getD .skip) (enumE 0 [(.pointer (some d_)), (.slice keep_ keep_n keep_c)]) w (KQ Try.prog Try.f46.results.toList Q) = W.ref32_Disk_lose d_ keep_ keep_n keep_c w Q := by kernel_rfl
theorem C.ref32_Disk_lose (d_ : Addr) (keep_ : Option Addr) (keep_n : Nat) (keep_c : Nat) (w : World) (Q : Value → World → Prop) (h : W.ref32_Disk_lose d_ keep_ keep_n keep_c w Q) : CallE Try.prog 46 #[(.pointer (some d_)), (.slice keep_ keep_n keep_c)] w Q :=
  calls_of_ev mixed callable_ok (args := [(.pointer (some d_)), (.slice keep_ keep_n keep_c)]) Try.func46 rfl ((E.ref32_Disk_lose d_ keep_ keep_n keep_c w Q).symm ▸ h)

def W.internal_stringslite_HasPrefix (s_ : ByteArray) (prefix_ : ByteArray) (w : World) (Q : Value → World → Prop) : Prop :=
  br (decide ((((s_.size : Nat) : Int) : Int) ≥ ((prefix_.size : Nat) : Int))) (rq Try.prog (Instr.sliceAt 9 (.string s_) none (some (.int .i64 ((prefix_.size : Nat) : Int))) none) w fun v1 => fT v1 fun t2 =>
  rq Try.prog (do eqGuard .eql 9 (.tmp 14) (.tmp 15) (.string t2) (.string prefix_); binOp .eql 9 (.string t2) (.string prefix_)) w fun v3 => fB v3 fun b4 =>
  Q (.bool b4) w) (Q (.bool false) w)
theorem E.internal_stringslite_HasPrefix (s_ : ByteArray) (prefix_ : ByteArray) (w : World) (Q : Value → World → Prop) : ev Try.prog Try.f49.ntmps callable [] [] (Try.f49.body.getD .skip) (enumE 0 [(.string s_), (.string prefix_)]) w (KQ Try.prog Try.f49.results.toList Q) = W.internal_stringslite_HasPrefix s_ prefix_ w Q := by kernel_rfl
theorem C.internal_stringslite_HasPrefix (s_ : ByteArray) (prefix_ : ByteArray) (w : World) (Q : Value → World → Prop) (h : W.internal_stringslite_HasPrefix s_ prefix_ w Q) : CallE Try.prog 49 #[(.string s_), (.string prefix_)] w Q :=
  calls_of_ev mixed callable_ok (args := [(.string s_), (.string prefix_)]) Try.func49 rfl ((E.internal_stringslite_HasPrefix s_ prefix_ w Q).symm ▸ h)

def W.strings_Builder_copyCheck (b_ : Addr) (w : World) (Q : Value → World → Prop) : Prop :=
  ld Try.prog 71 (b_.add 0) w fun v1 => fP v1 fun p2 =>
  rq Try.prog (do eqGuard .eql 71 (.tmp 5) (.const (.pointer none)) (.pointer p2) (.pointer none); binOp .eql 71 (.pointer p2) (.pointer none)) w fun v3 => fB v3 fun b4 =>
  br b4 (rv Try.prog (convert 71 89 (.pointer (some b_))) w fun v5 w6 => fP v5 fun p7 =>
  rv Try.prog (convert 89 71 (.pointer p7)) w6 fun v8 w9 => fP v8 fun p10 =>
  st Try.prog 71 (b_.add 0) (.pointer p10) w9 fun w11 =>
  Q (.tuple #[]) w11) (ld Try.prog 71 (b_.add 0) w fun v12 => fP v12 fun p13 =>
  rq Try.prog (do eqGuard .neq 71 (.tmp 17) (.tmp 18) (.pointer p13) (.pointer (some b_)); binOp .neq 71 (.pointer p13) (.pointer (some b_))) w fun v14 => fB v14 fun b15 =>
  br b15 (False) (Q (.tuple #[]) w))
theorem E.strings_Builder_copyCheck (b_ : Addr) (w : World) (Q : Value → World → Prop) : ev Try.prog Try.f50.ntmps callable [] [] (Try.f50.body.getD .skip) (enumE 0 [(.pointer (some b_))]) w (KQ Try.prog Try.f50.results.toList Q) = W.strings_Builder_copyCheck b_ w Q := by kernel_rfl
theorem C.strings_Builder_copyCheck (b_ : Addr) (w : World) (Q : Value → World → Prop) (h : W.strings_Builder_copyCheck b_ w Q) : CallE Try.prog 50 #[(.pointer (some b_))] w Q :=
  calls_of_ev mixed callable_ok (args := [(.pointer (some b_))]) Try.func50 rfl ((E.strings_Builder_copyCheck b_ w Q).symm ▸ h)
end Go.Proofs.Ytgnmbenhpjkbfaa
