/- The conditions of the functions of this translation, written out by a program; each is an equation that the kernel checks. No condition. -/
import Derived.Test.YtpinpccamfhofaaGA
import Derived.Test.YtpinpccamfhofaaChecked
import Derived.Test.YtpinpccamfhofaaW0
set_option linter.unusedVariables false
set_option linter.unusedSimpArgs false
set_option maxRecDepth 100000
set_option linter.unusedVariables false
namespace Go.Proofs.Ytpinpccamfhofaa
open Go Go.Ev Go.Proofs
def W.hibernate_Load_k16 (p0 : Addr) (p3 : Addr) (p4 : Addr) (p10 : Option Addr) (p10n : Nat) (p10c : Nat) (w : World) (Q : Value → World → Prop) : Prop :=
  CallE Try.prog 68 #[(.slice p10 p10n p10c)] w fun v28 w29 => ∃ (g30 : Array Value) (x31 : Int), v28 = .tuple #[(.agg g30), (.int .i64 x31)] ∧
  al 41 (zeroT Try.prog 41).cells w29 fun a33 w32 =>
  st Try.prog 41 a33 (.agg g30) w32 fun w34 =>
  br ((x31 : Int) != 0) (st Try.prog 41 p4 (.agg #[(.int .u8 0), (.int .u8 0), (.int .u8 0), (.int .u8 0), (.int .u8 0), (.int .u8 0), (.int .u8 0), (.int .u8 0), (.int .u8 0), (.int .u8 0), (.int .u8 0), (.int .u8 0), (.int .u8 0), (.int .u8 0), (.int .u8 0), (.int .u8 0), (.int .u8 0), (.int .u8 0), (.int .u8 0), (.int .u8 0), (.int .u8 0), (.int .u8 0), (.int .u8 0), (.int .u8 0), (.int .u8 0), (.int .u8 0), (.int .u8 0), (.int .u8 0), (.int .u8 0), (.int .u8 0), (.int .u8 0), (.int .u8 0), (.int .u64 0), (.slice none 0 0)]) w34 fun w35 =>
  ld Try.prog 41 p4 w35 fun v36 => fG v36 fun g37 =>
  Q (.tuple #[(.agg g37), (.int .i64 x31)]) w35) (ld Try.prog 31 (a33.add 0) w34 fun v38 => fG v38 fun g39 =>
  ld Try.prog 31 p3 w34 fun v40 => fG v40 fun g41 =>
  rq Try.prog (do eqGuard .neq 31 (.tmp 66) (.tmp 67) (.agg g39) (.agg g41); binOp .neq 31 (.agg g39) (.agg g41)) w34 fun v42 => fB v42 fun b43 =>
  br b43 (st Try.prog 41 p4 (.agg #[(.int .u8 0), (.int .u8 0), (.int .u8 0), (.int .u8 0), (.int .u8 0), (.int .u8 0), (.int .u8 0), (.int .u8 0), (.int .u8 0), (.int .u8 0), (.int .u8 0), (.int .u8 0), (.int .u8 0), (.int .u8 0), (.int .u8 0), (.int .u8 0), (.int .u8 0), (.int .u8 0), (.int .u8 0), (.int .u8 0), (.int .u8 0), (.int .u8 0), (.int .u8 0), (.int .u8 0), (.int .u8 0), (.int .u8 0), (.int .u8 0), (.int .u8 0), (.int .u8 0), (.int .u8 0), (.int .u8 0), (.int .u8 0), (.int .u64 0), (.slice none 0 0)]) w34 fun w44 =>
  ld Try.prog 41 p4 w44 fun v45 => fG v45 fun g46 =>
  Q (.tuple #[(.agg g46), (.int .i64 21)]) w44) (CallE Try.prog 50 #[(.pointer (some p0))] w34 fun v47 w48 => fI .i64 v47 fun x49 =>
  br ((x49 : Int) != 0) (st Try.prog 41 p4 (.agg #[(.int .u8 0), (.int .u8 0), (.int .u8 0), (.int .u8 0), (.int .u8 0), (.int .u8 0), (.int .u8 0), (.int .u8 0), (.int .u8 0), (.int .u8 0), (.int .u8 0), (.int .u8 0), (.int .u8 0), (.int .u8 0), (.int .u8 0), (.int .u8 0), (.int .u8 0), (.int .u8 0), (.int .u8 0), (.int .u8 0), (.int .u8 0), (.int .u8 0), (.int .u8 0), (.int .u8 0), (.int .u8 0), (.int .u8 0), (.int .u8 0), (.int .u8 0), (.int .u8 0), (.int .u8 0), (.int .u8 0), (.int .u8 0), (.int .u64 0), (.slice none 0 0)]) w48 fun w50 =>
  ld Try.prog 41 p4 w50 fun v51 => fG v51 fun g52 =>
  Q (.tuple #[(.agg g52), (.int .i64 x49)]) w50) (ld Try.prog 41 a33 w48 fun v53 => fG v53 fun g54 =>
  st Try.prog 41 p4 (.agg g54) w48 fun w55 =>
  ld Try.prog 41 p4 w55 fun v56 => fG v56 fun g57 =>
  Q (.tuple #[(.agg g57), (.int .i64 0)]) w55)))
def W.hibernate_Load (d_ : Addr) (board_ : Array Value) (w : World) (Q : Value → World → Prop) : Prop :=
  al 31 board_ w fun a2 w1 =>
  al 41 (zeroT Try.prog 41).cells w1 fun a4 w3 =>
  CallE Try.prog 66 #[(.pointer (some d_)), (.int .i64 0)] w3 fun v5 w6 => ∃ (t7 : ByteArray) (x8 : Int), v5 = .tuple #[(.string t7), (.int .i64 x8)] ∧
  br ((x8 : Int) != 0) (st Try.prog 41 a4 (.agg #[(.int .u8 0), (.int .u8 0), (.int .u8 0), (.int .u8 0), (.int .u8 0), (.int .u8 0), (.int .u8 0), (.int .u8 0), (.int .u8 0), (.int .u8 0), (.int .u8 0), (.int .u8 0), (.int .u8 0), (.int .u8 0), (.int .u8 0), (.int .u8 0), (.int .u8 0), (.int .u8 0), (.int .u8 0), (.int .u8 0), (.int .u8 0), (.int .u8 0), (.int .u8 0), (.int .u8 0), (.int .u8 0), (.int .u8 0), (.int .u8 0), (.int .u8 0), (.int .u8 0), (.int .u8 0), (.int .u8 0), (.int .u8 0), (.int .u64 0), (.slice none 0 0)]) w6 fun w9 =>
  ld Try.prog 41 a4 w9 fun v10 => fG v10 fun g11 =>
  Q (.tuple #[(.agg g11), (.int .i64 x8)]) w9) (CallE Try.prog 67 #[(.string t7)] w6 fun v12 w13 => ∃ (g14 : Array Value) (x15 : Int), v12 = .tuple #[(.agg g14), (.int .i64 x15)] ∧
  al 121 (zeroT Try.prog 121).cells w13 fun a17 w16 =>
  st Try.prog 121 a17 (.agg g14) w16 fun w18 =>
  br ((x15 : Int) != 0) (st Try.prog 41 a4 (.agg #[(.int .u8 0), (.int .u8 0), (.int .u8 0), (.int .u8 0), (.int .u8 0), (.int .u8 0), (.int .u8 0), (.int .u8 0), (.int .u8 0), (.int .u8 0), (.int .u8 0), (.int .u8 0), (.int .u8 0), (.int .u8 0), (.int .u8 0), (.int .u8 0), (.int .u8 0), (.int .u8 0), (.int .u8 0), (.int .u8 0), (.int .u8 0), (.int .u8 0), (.int .u8 0), (.int .u8 0), (.int .u8 0), (.int .u8 0), (.int .u8 0), (.int .u8 0), (.int .u8 0), (.int .u8 0), (.int .u8 0), (.int .u8 0), (.int .u64 0), (.slice none 0 0)]) w18 fun w19 =>
  ld Try.prog 41 a4 w19 fun v20 => fG v20 fun g21 =>
  Q (.tuple #[(.agg g21), (.int .i64 6)]) w19) (CallE Try.prog 63 #[(.pointer (some d_))] w18 fun v22 w23 => fI .i64 v22 fun x24 =>
  rv Try.prog (Instr.makeSlice 49 (.int .i64 0) (.int .i64 x24)) w23 fun v25 w26 => fS v25 fun l27 l27n l27c =>
  CallE Try.prog 63 #[(.pointer (some d_))] w26 fun v58 w59 => fI .i64 v58 fun x60 =>
  LoopW (S := (Option Addr × Nat × Nat) × Int × Unit) (fun s61 w62 next63 =>
  br (decide ((s61.2.1 : Int) < x60)) (CallE Try.prog 66 #[(.pointer (some d_)), (.int .i64 s61.2.1)] w62 fun v64 w65 => ∃ (t66 : ByteArray) (x67 : Int), v64 = .tuple #[(.string t66), (.int .i64 x67)] ∧
  br ((x67 : Int) != 0) (st Try.prog 41 a4 (.agg #[(.int .u8 0), (.int .u8 0), (.int .u8 0), (.int .u8 0), (.int .u8 0), (.int .u8 0), (.int .u8 0), (.int .u8 0), (.int .u8 0), (.int .u8 0), (.int .u8 0), (.int .u8 0), (.int .u8 0), (.int .u8 0), (.int .u8 0), (.int .u8 0), (.int .u8 0), (.int .u8 0), (.int .u8 0), (.int .u8 0), (.int .u8 0), (.int .u8 0), (.int .u8 0), (.int .u8 0), (.int .u8 0), (.int .u8 0), (.int .u8 0), (.int .u8 0), (.int .u8 0), (.int .u8 0), (.int .u8 0), (.int .u8 0), (.int .u64 0), (.slice none 0 0)]) w65 fun w68 =>
  ld Try.prog 41 a4 w68 fun v69 => fG v69 fun g70 =>
  Q (.tuple #[(.agg g70), (.int .i64 x67)]) w68) (al 9 #[(.string t66)] w65 fun a72 w71 =>
  rv Try.prog (Builtin.append_ #[49, 49] 49 #[(.slice s61.1.1 s61.1.2.1 s61.1.2.2), (.slice (some a72) 1 1)]) w71 fun v73 w74 => fS v73 fun l75 l75n l75c =>
  next63 ((l75, l75n, l75c), ((IntKind.wrap .i64 (s61.2.1 + 1)) : Int), ()) w74)) (W.hibernate_Load_k16 d_ a2 a4 s61.1.1 s61.1.2.1 s61.1.2.2 w62 Q)) ((l27, l27n, l27c), (0 : Int), ()) w59))
theorem E.hibernate_Load (d_ : Addr) (board_ : Array Value) (w : World) (Q : Value → World → Prop) : ev Try.prog Try.f22.ntmps callable [(9, [(10, .slice none 0 0), (38, .int .i64 0)], [0, 3, 4, 37])] [] (Try.f22.body.getD .skip) (enumE 0 [(.pointer (some d_)), (.agg board_)]) w (KQ Try.prog Try.f22.results.toList Q) = W.hibernate_Load d_ board_ w Q := by kernel_rfl
theorem C.hibernate_Load (d_ : Addr) (board_ : Array Value) (w : World) (Q : Value → World → Prop) (h : W.hibernate_Load d_ board_ w Q) : CallE Try.prog 22 #[(.pointer (some d_)), (.agg board_)] w Q :=
  calls_of_ev mixed callable_ok (args := [(.pointer (some d_)), (.agg board_)]) Try.func22 rfl ((E.hibernate_Load d_ board_ w Q).symm ▸ h)

def W.law34_Equal (a_ : Array Value) (b_ : Array Value) (w : World) (Q : Value → World → Prop) : Prop :=
  al 41 a_ w fun a2 w1 =>
  al 41 b_ w1 fun a4 w3 =>
  ld Try.prog 31 (a2.add 0) w3 fun v5 => fG v5 fun g6 =>
  ld Try.prog 31 (a4.add 0) w3 fun v7 => fG v7 fun g8 =>
  rq Try.prog (do eqGuard .eql 31 (.tmp 6) (.tmp 8) (.agg g6) (.agg g8); binOp .eql 31 (.agg g6) (.agg g8)) w3 fun v9 => fB v9 fun b10 =>
  br b10 (ld Try.prog 32 (a2.add 32) w3 fun v11 => fI .u64 v11 fun x12 =>
  ld Try.prog 32 (a4.add 32) w3 fun v13 => fI .u64 v13 fun x14 =>
  br ((x12 : Int) == x14) (ld Try.prog 39 (a2.add 33) w3 fun v15 => fS v15 fun l16 l16n l16c =>
  ld Try.prog 39 (a4.add 33) w3 fun v17 => fS v17 fun l18 l18n l18c =>
  CallE Try.prog 69 #[(.slice l16 l16n l16c), (.slice l18 l18n l18c)] w3 fun v19 w20 => fB v19 fun b21 =>
  Q (.bool b21) w20) (Q (.bool false) w3)) (Q (.bool false) w3)
theorem E.law34_Equal (a_ : Array Value) (b_ : Array Value) (w : World) (Q : Value → World → Prop) : ev Try.prog Try.f23.ntmps callable [] [] (Try.f23.body.getD .skip) (enumE 0 [(.agg a_), (.agg b_)]) w (KQ Try.prog Try.f23.results.toList Q) = W.law34_Equal a_ b_ w Q := by kernel_rfl
theorem C.law34_Equal (a_ : Array Value) (b_ : Array Value) (w : World) (Q : Value → World → Prop) (h : W.law34_Equal a_ b_ w Q) : CallE Try.prog 23 #[(.agg a_), (.agg b_)] w Q :=
  calls_of_ev mixed callable_ok (args := [(.agg a_), (.agg b_)]) Try.func23 rfl ((E.law34_Equal a_ b_ w Q).symm ▸ h)

def W.help_Mod (v_ : Int) (n_ : Int) (w : World) (Q : Value → World → Prop) : Prop :=
  rq Try.prog (do eqGuard .rem 126 (.tmp 6) (.tmp 8) (.int .u64 (IntKind.wrap .u64 v_)) (.int .u64 (IntKind.wrap .u64 n_)); binOp .rem 126 (.int .u64 (IntKind.wrap .u64 v_)) (.int .u64 (IntKind.wrap .u64 n_))) w fun v1 => fI .u64 v1 fun x2 =>
  Q (.int .i64 (IntKind.wrap .i64 x2)) w
theorem E.help_Mod (v_ : Int) (n_ : Int) (w : World) (Q : Value → World → Prop) : ev Try.prog Try.f24.ntmps callable [] [] (Try.f24.body.getD .skip) (enumE 0 [(.int .i64 v_), (.int .i64 n_)]) w (KQ Try.prog Try.f24.results.toList Q) = W.help_Mod v_ n_ w Q := by kernel_rfl
theorem C.help_Mod (v_ : Int) (n_ : Int) (w : World) (Q : Value → World → Prop) (h : W.help_Mod v_ n_ w Q) : CallE Try.prog 24 #[(.int .i64 v_), (.int .i64 n_)] w Q :=
  calls_of_ev mixed callable_ok (args := [(.int .i64 v_), (.int .i64 n_)]) Try.func24 rfl ((E.help_Mod v_ n_ w Q).symm ▸ h)

def W.image_Encode_k20 (p4 : Option Addr) (p4n : Nat) (p4c : Nat) (p10 : Option Addr) (p10n : Nat) (p10c : Nat) (w : World) (Q : Value → World → Prop) : Prop :=
  LoopW (S := (Option Addr × Nat × Nat) × Int × Unit) (fun s15 w16 next17 =>
  br (decide ((s15.2.1 : Int) < ((p4n : Nat) : Int))) (rq Try.prog (Instr.sliceAt 82 (.slice p4 p4n p4c) (some (.int .i64 s15.2.1)) (some (.int .i64 (IntKind.wrap .i64 (s15.2.1 + 64)))) none) w16 fun v18 => fS v18 fun l19 l19n l19c =>
  rv Try.prog (convert 82 9 (.slice l19 l19n l19c)) w16 fun v20 w21 => fT v20 fun t22 =>
  al 9 #[(.string t22)] w21 fun a24 w23 =>
  rv Try.prog (Builtin.append_ #[49, 49] 49 #[(.slice s15.1.1 s15.1.2.1 s15.1.2.2), (.slice (some a24) 1 1)]) w23 fun v25 w26 => fS v25 fun l27 l27n l27c =>
  next17 ((l27, l27n, l27c), ((IntKind.wrap .i64 (s15.2.1 + 64)) : Int), ()) w26) (Q (.tuple #[(.slice s15.1.1 s15.1.2.1 s15.1.2.2), (.int .i64 0)]) w16)) ((p10, p10n, p10c), (0 : Int), ()) w
def W.image_Encode_k17 (p4 : Option Addr) (p4n : Nat) (p4c : Nat) (p9 : Addr) (w : World) (Q : Value → World → Prop) : Prop :=
  ld Try.prog 121 p9 w fun v8 => fG v8 fun g9 =>
  CallE Try.prog 74 #[(.agg g9)] w fun v10 w11 => fT v10 fun t12 =>
  al 9 #[(.string t12)] w11 fun a14 w13 =>
  LoopW (S := (Option Addr × Nat × Nat) × Unit) (fun s28 w29 next30 =>
  br (((Int.tmod ((s28.1.2.1 : Nat) : Int) 64) : Int) != 0) (al 5 #[(.int .u8 0)] w29 fun a32 w31 =>
  rv Try.prog (Builtin.append_ #[82, 82] 82 #[(.slice s28.1.1 s28.1.2.1 s28.1.2.2), (.slice (some a32) 1 1)]) w31 fun v33 w34 => fS v33 fun l35 l35n l35c =>
  next30 ((l35, l35n, l35c), ()) w34) (W.image_Encode_k20 s28.1.1 s28.1.2.1 s28.1.2.2 (some a14) 1 1 w29 Q)) ((p4, p4n, p4c), ()) w13
def W.image_Encode_k16 (p1 : Addr) (p4 : Option Addr) (p4n : Nat) (p4c : Nat) (w : World) (Q : Value → World → Prop) : Prop :=
  drawE fun S36 => S36 (drew w) ∧ (ldS Try.prog S36 32 (p1.add 32) fun v37 => fI .u64 v37 fun x38 =>
  ldS Try.prog S36 31 (p1.add 0) fun v39 => fG v39 fun g40 =>
  (rv Try.prog (convert 82 9 (.slice p4 p4n p4c)) (drew w) fun v41 w42 => fT v41 fun t43 =>
  S36 w42 ∧ ((CallE Try.prog 73 #[(.string t43)] w42 fun v44 w45 => fI .u32 v44 fun x46 =>
  S36 w45 ∧ (rqS Try.prog S36 (Instr.build 121 #[(0, (.int .u64 x38)), (1, (.agg g40)), (2, (.int .u32 (IntKind.wrap .u32 ((p4n : Nat) : Int)))), (3, (.int .u32 x46))]) fun v47 => fG v47 fun g48 =>
  al 121 (zeroT Try.prog 121).cells w45 fun a50 w49 =>
  S36 w49 ∧ (st Try.prog 121 a50 (.agg g48) w49 fun w51 =>
  S36 w51 ∧ (W.image_Encode_k17 p4 p4n p4c a50 w51 Q)))) ∧ (al 121 (zeroT Try.prog 121).cells w42 fun a53 w52 =>
  S36 w52 ∧ (CallE Try.prog 73 #[(.string t43)] w52 fun v54 w55 => fI .u32 v54 fun x56 =>
  S36 w55 ∧ (rqS Try.prog S36 (Instr.build 121 #[(0, (.int .u64 x38)), (1, (.agg g40)), (2, (.int .u32 (IntKind.wrap .u32 ((p4n : Nat) : Int)))), (3, (.int .u32 x56))]) fun v57 => fG v57 fun g58 =>
  st Try.prog 121 a53 (.agg g58) w55 fun w59 =>
  S36 w59 ∧ (W.image_Encode_k17 p4 p4n p4c a53 w59 Q)))))) ∧ (al 121 (zeroT Try.prog 121).cells (drew w) fun a61 w60 =>
  S36 w60 ∧ (rv Try.prog (convert 82 9 (.slice p4 p4n p4c)) w60 fun v62 w63 => fT v62 fun t64 =>
  S36 w63 ∧ (CallE Try.prog 73 #[(.string t64)] w63 fun v65 w66 => fI .u32 v65 fun x67 =>
  S36 w66 ∧ (rqS Try.prog S36 (Instr.build 121 #[(0, (.int .u64 x38)), (1, (.agg g40)), (2, (.int .u32 (IntKind.wrap .u32 ((p4n : Nat) : Int)))), (3, (.int .u32 x67))]) fun v68 => fG v68 fun g69 =>
  st Try.prog 121 a61 (.agg g69) w66 fun w70 =>
  S36 w70 ∧ (W.image_Encode_k17 p4 p4n p4c a61 w70 Q))))))
def W.image_Encode (i_ : Array Value) (w : World) (Q : Value → World → Prop) : Prop :=
  al 41 i_ w fun a2 w1 =>
  ld Try.prog 39 (a2.add 33) w1 fun v3 => fS v3 fun l4 l4n l4c =>
  CallE Try.prog 70 #[(.slice l4 l4n l4c)] w1 fun v5 w6 => fB v5 fun b7 =>
  br (!b7) (Q (.tuple #[(.slice none 0 0), (.int .i64 1)]) w6) (ld Try.prog 39 (a2.add 33) w6 fun v71 => fS v71 fun l72 l72n l72c =>
  LoopW (S := (Option Addr × Nat × Nat) × Int × Unit) (fun s73 w74 next75 =>
  br (decide ((s73.2.1 : Int) < ((l72n : Nat) : Int))) (rq Try.prog (Instr.indexAt 39 (.slice l72 l72n l72c) (.int .i64 s73.2.1)) w74 fun v76 => fA v76 fun a77 =>
  ld Try.prog 85 a77 w74 fun v78 => fG v78 fun g79 =>
  al 85 (zeroT Try.prog 85).cells w74 fun a81 w80 =>
  st Try.prog 85 a81 (.agg g79) w80 fun w82 =>
  ld Try.prog 9 (a81.add 1) w82 fun v83 => fT v83 fun t84 =>
  br ((((t84.size : Nat) : Int) : Int) != 256) (Q (.tuple #[(.slice none 0 0), (.int .i64 1)]) w82) (ld Try.prog 9 (a81.add 1) w82 fun v85 => fT v85 fun t86 =>
  CallE Try.prog 71 #[(.string t86)] w82 fun v87 w88 => ∃ (t89 : ByteArray) (x90 : Int), v87 = .tuple #[(.string t89), (.int .i64 x90)] ∧
  br ((x90 : Int) != 0) (Q (.tuple #[(.slice none 0 0), (.int .i64 1)]) w88) (ld Try.prog 3 (a81.add 0) w88 fun v91 => fI .i64 v91 fun x92 =>
  CallE Try.prog 72 #[(.slice s73.1.1 s73.1.2.1 s73.1.2.2), (.int .u64 (IntKind.wrap .u64 x92)), (.int .i64 4)] w88 fun v93 w94 => fS v93 fun l95 l95n l95c =>
  CallE Try.prog 72 #[(.slice l95 l95n l95c), (.int .u64 (IntKind.wrap .u64 ((t89.size : Nat) : Int))), (.int .i64 2)] w94 fun v96 w97 => fS v96 fun l98 l98n l98c =>
  rv Try.prog (Builtin.append_ #[82, 9] 82 #[(.slice l98 l98n l98c), (.string t89)]) w97 fun v99 w100 => fS v99 fun l101 l101n l101c =>
  next75 ((l101, l101n, l101c), ((IntKind.wrap .i64 (s73.2.1 + 1)) : Int), ()) w100))) (W.image_Encode_k16 a2 s73.1.1 s73.1.2.1 s73.1.2.2 w74 Q)) ((none, 0, 0), (0 : Int), ()) w6)
theorem E.image_Encode (i_ : Array Value) (w : World) (Q : Value → World → Prop) : ev Try.prog Try.f25.ntmps callable [(21, [(10, .slice none 0 0), (11, .int .i64 0)], [4]), (18, [(4, .slice none 0 0)], [10]), (5, [(4, .slice none 0 0), (19, .int .i64 0)], [1, 17, 18])] [] (Try.f25.body.getD .skip) (enumE 0 [(.agg i_)]) w (KQ Try.prog Try.f25.results.toList Q) = W.image_Encode i_ w Q := by kernel_rfl
theorem C.image_Encode (i_ : Array Value) (w : World) (Q : Value → World → Prop) (h : W.image_Encode i_ w Q) : CallE Try.prog 25 #[(.agg i_)] w Q :=
  calls_of_ev mixed callable_ok (args := [(.agg i_)]) Try.func25 rfl ((E.image_Encode i_ w Q).symm ▸ h)

def W.blockdev_Disk_Contents (d_ : Addr) (w : World) (Q : Value → World → Prop) : Prop :=
  ld Try.prog 49 (d_.add 0) w fun v1 => fS v1 fun l2 l2n l2c =>
  CallE Try.prog 62 #[(.slice l2 l2n l2c)] w fun v3 w4 => fS v3 fun l5 l5n l5c =>
  Q (.slice l5 l5n l5c) w4
theorem E.blockdev_Disk_Contents (d_ : Addr) (w : World) (Q : Value → World → Prop) : ev Try.prog Try.f26.ntmps callable [] [] (Try.f26.body.getD .skip) (enumE 0 [(.pointer (some d_))]) w (KQ Try.prog Try.f26.results.toList Q) = W.blockdev_Disk_Contents d_ w Q := by kernel_rfl
theorem C.blockdev_Disk_Contents (d_ : Addr) (w : World) (Q : Value → World → Prop) (h : W.blockdev_Disk_Contents d_ w Q) : CallE Try.prog 26 #[(.pointer (some d_))] w Q :=
  calls_of_ev mixed callable_ok (args := [(.pointer (some d_))]) Try.func26 rfl ((E.blockdev_Disk_Contents d_ w Q).symm ▸ h)

def W.help_Equal_string_ (a_ : Option Addr) (a_n : Nat) (a_c : Nat) (b_ : Option Addr) (b_n : Nat) (b_c : Nat) (w : World) (Q : Value → World → Prop) : Prop :=
  br ((((a_n : Nat) : Int) : Int) != ((b_n : Nat) : Int)) (Q (.bool false) w) (LoopW (S := Int × Unit) (fun s1 w2 next3 =>
  br (decide ((s1.1 : Int) < ((a_n : Nat) : Int))) (dr w2 fun w4 =>
  rq Try.prog (Instr.indexAt 49 (.slice a_ a_n a_c) (.int .i64 s1.1)) w4 fun v5 => fA v5 fun a6 =>
  ld Try.prog 9 a6 w4 fun v7 => fT v7 fun t8 =>
  rq Try.prog (Instr.indexAt 49 (.slice b_ b_n b_c) (.int .i64 s1.1)) w4 fun v9 => fA v9 fun a10 =>
  ld Try.prog 9 a10 w4 fun v11 => fT v11 fun t12 =>
  rq Try.prog (do eqGuard .neq 9 (.tmp 20) (.tmp 24) (.string t8) (.string t12); binOp .neq 9 (.string t8) (.string t12)) w4 fun v13 => fB v13 fun b14 =>
  br b14 (Q (.bool false) w4) (next3 (((IntKind.wrap .i64 (s1.1 + 1)) : Int), ()) w4)) (Q (.bool true) w2)) ((0 : Int), ()) w)
theorem E.help_Equal_string_ (a_ : Option Addr) (a_n : Nat) (a_c : Nat) (b_ : Option Addr) (b_n : Nat) (b_c : Nat) (w : World) (Q : Value → World → Prop) : ev Try.prog Try.f27.ntmps callable [(4, [(5, .int .i64 0)], [0, 1])] [] (Try.f27.body.getD .skip) (enumE 0 [(.slice a_ a_n a_c), (.slice b_ b_n b_c)]) w (KQ Try.prog Try.f27.results.toList Q) = W.help_Equal_string_ a_ a_n a_c b_ b_n b_c w Q := by kernel_rfl
theorem C.help_Equal_string_ (a_ : Option Addr) (a_n : Nat) (a_c : Nat) (b_ : Option Addr) (b_n : Nat) (b_c : Nat) (w : World) (Q : Value → World → Prop) (h : W.help_Equal_string_ a_ a_n a_c b_ b_n b_c w Q) : CallE Try.prog 27 #[(.slice a_ a_n a_c), (.slice b_ b_n b_c)] w Q :=
  calls_of_ev mixed callable_ok (args := [(.slice a_ a_n a_c), (.slice b_ b_n b_c)]) Try.func27 rfl ((E.help_Equal_string_ a_ a_n a_c b_ b_n b_c w Q).symm ▸ h)

def W.blockdev_Disk_Pending (d_ : Addr) (w : World) (Q : Value → World → Prop) : Prop :=
  ld Try.prog 112 (d_.add 2) w fun v1 => fS v1 fun l2 l2n l2c =>
  Q (.int .i64 ((l2n : Nat) : Int)) w
theorem E.blockdev_Disk_Pending (d_ : Addr) (w : World) (Q : Value → World → Prop) : ev Try.prog Try.f28.ntmps callable [] [] (Try.f28.body.getD .skip) (enumE 0 [(.pointer (some d_))]) w (KQ Try.prog Try.f28.results.toList Q) = W.blockdev_Disk_Pending d_ w Q := by kernel_rfl
theorem C.blockdev_Disk_Pending (d_ : Addr) (w : World) (Q : Value → World → Prop) (h : W.blockdev_Disk_Pending d_ w Q) : CallE Try.prog 28 #[(.pointer (some d_))] w Q :=
  calls_of_ev mixed callable_ok (args := [(.pointer (some d_))]) Try.func28 rfl ((E.blockdev_Disk_Pending d_ w Q).symm ▸ h)

def W.hibernate_NewFreezer (processes_ : Int) (w : World) (Q : Value → World → Prop) : Prop :=
  br (decide ((processes_ : Int) < 0)) (Q (.tuple #[(.pointer none), (.int .i64 1)]) w) (br (decide ((processes_ : Int) > 64)) (Q (.tuple #[(.pointer none), (.int .i64 1)]) w) (rv Try.prog (Instr.makeSlice 67 (.int .i64 processes_) (.int .i64 processes_)) w fun v1 w2 => fS v1 fun l3 l3n l3c =>
  al 133 (#[(.int .i64 0), (.int .u64 0), (.int .u64 0), (.slice l3 l3n l3c)]) w2 fun a5 w4 =>
  Q (.tuple #[(.pointer (some a5)), (.int .i64 0)]) w4))
theorem E.hibernate_NewFreezer (processes_ : Int) (w : World) (Q : Value → World → Prop) : ev Try.prog Try.f29.ntmps callable [] [] (Try.f29.body.getD .skip) (enumE 0 [(.int .i64 processes_)]) w (KQ Try.prog Try.f29.results.toList Q) = W.hibernate_NewFreezer processes_ w Q := by kernel_rfl
theorem C.hibernate_NewFreezer (processes_ : Int) (w : World) (Q : Value → World → Prop) (h : W.hibernate_NewFreezer processes_ w Q) : CallE Try.prog 29 #[(.int .i64 processes_)] w Q :=
  calls_of_ev mixed callable_ok (args := [(.int .i64 processes_)]) Try.func29 rfl ((E.hibernate_NewFreezer processes_ w Q).symm ▸ h)

def W.ref35_NewFreezer (processes_ : Int) (w : World) (Q : Value → World → Prop) : Prop :=
  br (decide ((processes_ : Int) < 0)) (Q (.tuple #[(.pointer none), (.int .i64 1)]) w) (br (decide ((processes_ : Int) > 64)) (Q (.tuple #[(.pointer none), (.int .i64 1)]) w) (rv Try.prog (Instr.makeSlice 67 (.int .i64 processes_) (.int .i64 processes_)) w fun v1 w2 => fS v1 fun l3 l3n l3c =>
  al 69 (#[(.slice l3 l3n l3c), (.int .i64 0), (.int .u64 0), (.int .u64 0)]) w2 fun a5 w4 =>
  Q (.tuple #[(.pointer (some a5)), (.int .i64 0)]) w4))
theorem E.ref35_NewFreezer (processes_ : Int) (w : World) (Q : Value → World → Prop) : ev Try.prog Try.f30.ntmps callable [] [] (Try.f30.body.getD .skip) (enumE 0 [(.int .i64 processes_)]) w (KQ Try.prog Try.f30.results.toList Q) = W.ref35_NewFreezer processes_ w Q := by kernel_rfl
theorem C.ref35_NewFreezer (processes_ : Int) (w : World) (Q : Value → World → Prop) (h : W.ref35_NewFreezer processes_ w Q) : CallE Try.prog 30 #[(.int .i64 processes_)] w Q :=
  calls_of_ev mixed callable_ok (args := [(.int .i64 processes_)]) Try.func30 rfl ((E.ref35_NewFreezer processes_ w Q).symm ▸ h)

def W.law35_Freeze_at_k2 (p1 : Int) (p2 : Int) (p3 : Addr) (p14 : Bool) (w : World) (Q : Value → World → Prop) : Prop :=
  br p14 (dr w fun w3 =>
  ld Try.prog 3 (p3.add 1) w3 fun v4 => fI .i64 v4 fun x5 =>
  ld Try.prog 32 (p3.add 2) w3 fun v6 => fI .u64 v6 fun x7 =>
  ld Try.prog 32 (p3.add 3) w3 fun v8 => fI .u64 v8 fun x9 =>
  Q (.tuple #[(.int .i64 x5), (.int .u64 x7), (.int .u64 x9)]) w3) (drawE fun S10 => S10 (drew w) ∧ (ldS Try.prog S10 3 (p3.add 1) fun v11 => fI .i64 v11 fun x12 =>
  ldS Try.prog S10 32 (p3.add 2) fun v13 => fI .u64 v13 fun x14 =>
  ldS Try.prog S10 32 (p3.add 2) fun v15 => fI .u64 v15 fun x16 =>
  ldS Try.prog S10 32 (p3.add 3) fun v17 => fI .u64 v17 fun x18 =>
  CallE Try.prog 24 #[(.int .i64 x12), (.int .i64 p1)] (drew w) fun v19 w20 => fI .i64 v19 fun x21 =>
  S10 w20 ∧ (Q (.tuple #[(.int .i64 x21), (.int .u64 (IntKind.wrap .u64 (p2 + (Int.tmod x14 8)))), (.int .u64 (IntKind.wrap .u64 ((IntKind.wrap .u64 (p2 + (Int.tmod x16 8))) + (Int.tmod x18 12))))]) w20)))
def W.law35_Freeze_at (c__0 : Int) (c__1 : Int) (c__2 : Int) (c__3 : Int) (c__4 : Bool) (n_ : Int) (now_ : Int) (w : World) (Q : Value → World → Prop) : Prop :=
  al 65 (#[(.int .i64 c__0), (.int .i64 c__1), (.int .u64 c__2), (.int .u64 c__3), (.bool c__4)]) w fun a2 w1 =>
  ld Try.prog 4 (a2.add 4) w1 fun v22 => fB v22 fun b23 =>
  br b23 (W.law35_Freeze_at_k2 n_ now_ a2 true w1 Q) (W.law35_Freeze_at_k2 n_ now_ a2 ((n_ : Int) == 0) w1 Q)
theorem E.law35_Freeze_at (c__0 : Int) (c__1 : Int) (c__2 : Int) (c__3 : Int) (c__4 : Bool) (n_ : Int) (now_ : Int) (w : World) (Q : Value → World → Prop) : ev Try.prog Try.f31.ntmps callable [] [] (Try.f31.body.getD .skip) (enumE 0 [(.agg #[(.int .i64 c__0), (.int .i64 c__1), (.int .u64 c__2), (.int .u64 c__3), (.bool c__4)]), (.int .i64 n_), (.int .u64 now_)]) w (KQ Try.prog Try.f31.results.toList Q) = W.law35_Freeze_at c__0 c__1 c__2 c__3 c__4 n_ now_ w Q := by kernel_rfl
theorem C.law35_Freeze_at (c__0 : Int) (c__1 : Int) (c__2 : Int) (c__3 : Int) (c__4 : Bool) (n_ : Int) (now_ : Int) (w : World) (Q : Value → World → Prop) (h : W.law35_Freeze_at c__0 c__1 c__2 c__3 c__4 n_ now_ w Q) : CallE Try.prog 31 #[(.agg #[(.int .i64 c__0), (.int .i64 c__1), (.int .u64 c__2), (.int .u64 c__3), (.bool c__4)]), (.int .i64 n_), (.int .u64 now_)] w Q :=
  calls_of_ev mixed callable_ok (args := [(.agg #[(.int .i64 c__0), (.int .i64 c__1), (.int .u64 c__2), (.int .u64 c__3), (.bool c__4)]), (.int .i64 n_), (.int .u64 now_)]) Try.func31 rfl ((E.law35_Freeze_at c__0 c__1 c__2 c__3 c__4 n_ now_ w Q).symm ▸ h)

def W.hibernate_Freezer_Freeze (f_ : Addr) (now_ : Int) (deadline_ : Int) (w : World) (Q : Value → World → Prop) : Prop :=
  br (decide ((deadline_ : Int) < now_)) (Q (.int .i64 1) w) (br (decide ((deadline_ : Int) > 1152921504606846976)) (Q (.int .i64 1) w) (CallE Try.prog 75 #[(.pointer (some f_)), (.int .u64 now_)] w fun v1 w2 => fB v1 fun b3 =>
  br (!b3) (Q (.int .i64 1) w2) (ld Try.prog 3 (f_.add 0) w2 fun v4 => fI .i64 v4 fun x5 =>
  br ((x5 : Int) != 0) (Q (.int .i64 9) w2) (st Try.prog 3 (f_.add 0) (.int .i64 1) w2 fun w6 =>
  st Try.prog 32 (f_.add 2) (.int .u64 deadline_) w6 fun w7 =>
  CallE Try.prog 34 #[(.pointer (some f_)), (.int .u64 now_)] w7 fun v8 w9 => ∃ (b10 : Bool) (x11 : Int), v8 = .tuple #[(.bool b10), (.int .i64 x11)] ∧
  Q (.int .i64 x11) w9))))
theorem E.hibernate_Freezer_Freeze (f_ : Addr) (now_ : Int) (deadline_ : Int) (w : World) (Q : Value → World → Prop) : ev Try.prog Try.f32.ntmps callable [] [] (Try.f32.body.getD .skip) (enumE 0 [(.pointer (some f_)), (.int .u64 now_), (.int .u64 deadline_)]) w (KQ Try.prog Try.f32.results.toList Q) = W.hibernate_Freezer_Freeze f_ now_ deadline_ w Q := by kernel_rfl
theorem C.hibernate_Freezer_Freeze (f_ : Addr) (now_ : Int) (deadline_ : Int) (w : World) (Q : Value → World → Prop) (h : W.hibernate_Freezer_Freeze f_ now_ deadline_ w Q) : CallE Try.prog 32 #[(.pointer (some f_)), (.int .u64 now_), (.int .u64 deadline_)] w Q :=
  calls_of_ev mixed callable_ok (args := [(.pointer (some f_)), (.int .u64 now_), (.int .u64 deadline_)]) Try.func32 rfl ((E.hibernate_Freezer_Freeze f_ now_ deadline_ w Q).symm ▸ h)

def W.ref35_Freezer_Freeze (f_ : Addr) (now_ : Int) (deadline_ : Int) (w : World) (Q : Value → World → Prop) : Prop :=
  CallE Try.prog 76 #[(.pointer (some f_)), (.int .u64 now_), (.int .u64 deadline_)] w fun v1 w2 => fB v1 fun b3 =>
  br b3 (Q (.int .i64 1) w2) (ld Try.prog 3 (f_.add 1) w2 fun v4 => fI .i64 v4 fun x5 =>
  br ((x5 : Int) != 0) (Q (.int .i64 9) w2) (st Try.prog 3 (f_.add 1) (.int .i64 1) w2 fun w6 =>
  st Try.prog 32 (f_.add 2) (.int .u64 deadline_) w6 fun w7 =>
  CallE Try.prog 35 #[(.pointer (some f_)), (.int .u64 now_)] w7 fun v8 w9 => ∃ (b10 : Bool) (x11 : Int), v8 = .tuple #[(.bool b10), (.int .i64 x11)] ∧
  Q (.int .i64 x11) w9))
theorem E.ref35_Freezer_Freeze (f_ : Addr) (now_ : Int) (deadline_ : Int) (w : World) (Q : Value → World → Prop) : ev Try.prog Try.f33.ntmps callable [] [] (Try.f33.body.getD .skip) (enumE 0 [(.pointer (some f_)), (.int .u64 now_), (.int .u64 deadline_)]) w (KQ Try.prog Try.f33.results.toList Q) = W.ref35_Freezer_Freeze f_ now_ deadline_ w Q := by kernel_rfl
theorem C.ref35_Freezer_Freeze (f_ : Addr) (now_ : Int) (deadline_ : Int) (w : World) (Q : Value → World → Prop) (h : W.ref35_Freezer_Freeze f_ now_ deadline_ w Q) : CallE Try.prog 33 #[(.pointer (some f_)), (.int .u64 now_), (.int .u64 deadline_)] w Q :=
  calls_of_ev mixed callable_ok (args := [(.pointer (some f_)), (.int .u64 now_), (.int .u64 deadline_)]) Try.func33 rfl ((E.ref35_Freezer_Freeze f_ now_ deadline_ w Q).symm ▸ h)

def W.hibernate_Freezer_Advance_k14 (p0 : Addr) (p1 : Int) (p7 : Bool) (w : World) (Q : Value → World → Prop) : Prop :=
  br p7 (st Try.prog 3 (p0.add 0) (.int .i64 2) w fun w11 =>
  ld Try.prog 3 (p0.add 0) w11 fun v12 => fI .i64 v12 fun x13 =>
  Q (.tuple #[(.bool ((x13 : Int) == 2)), (.int .i64 0)]) w11) (ld Try.prog 32 (p0.add 2) w fun v14 => fI .u64 v14 fun x15 =>
  br (decide ((p1 : Int) ≥ x15)) (st Try.prog 3 (p0.add 0) (.int .i64 0) w fun w16 =>
  Q (.tuple #[(.bool false), (.int .i64 14)]) w16) (ld Try.prog 3 (p0.add 0) w fun v17 => fI .i64 v17 fun x18 =>
  Q (.tuple #[(.bool ((x18 : Int) == 2)), (.int .i64 0)]) w))
def W.hibernate_Freezer_Advance (f_ : Addr) (now_ : Int) (w : World) (Q : Value → World → Prop) : Prop :=
  CallE Try.prog 75 #[(.pointer (some f_)), (.int .u64 now_)] w fun v1 w2 => fB v1 fun b3 =>
  br (!b3) (Q (.tuple #[(.bool false), (.int .i64 1)]) w2) (st Try.prog 32 (f_.add 1) (.int .u64 now_) w2 fun w4 =>
  ld Try.prog 3 (f_.add 0) w4 fun v5 => fI .i64 v5 fun x6 =>
  br ((x6 : Int) != 1) (ld Try.prog 3 (f_.add 0) w4 fun v7 => fI .i64 v7 fun x8 =>
  Q (.tuple #[(.bool ((x8 : Int) == 2)), (.int .i64 0)]) w4) (ld Try.prog 32 (f_.add 2) w4 fun v9 => fI .u64 v9 fun x10 =>
  ld Try.prog 67 (f_.add 3) w4 fun v19 => fS v19 fun l20 l20n l20c =>
  LoopW (S := Bool × Int × Unit) (fun s21 w22 next23 =>
  br (decide ((s21.2.1 : Int) < ((l20n : Nat) : Int))) (rq Try.prog (Instr.indexAt 67 (.slice l20 l20n l20c) (.int .i64 s21.2.1)) w22 fun v24 => fA v24 fun a25 =>
  ld Try.prog 32 a25 w22 fun v26 => fI .u64 v26 fun x27 =>
  br (decide ((x27 : Int) > (if x10 < now_ then x10 else now_))) (next23 (false, ((IntKind.wrap .i64 (s21.2.1 + 1)) : Int), ()) w22) (next23 (s21.1, ((IntKind.wrap .i64 (s21.2.1 + 1)) : Int), ()) w22)) (W.hibernate_Freezer_Advance_k14 f_ now_ s21.1 w22 Q)) (true, (0 : Int), ()) w4))
theorem E.hibernate_Freezer_Advance (f_ : Addr) (now_ : Int) (w : World) (Q : Value → World → Prop) : ev Try.prog Try.f34.ntmps callable [(9, [(7, .bool false), (39, .int .i64 0)], [0, 1, 6, 37, 38])] [] (Try.f34.body.getD .skip) (enumE 0 [(.pointer (some f_)), (.int .u64 now_)]) w (KQ Try.prog Try.f34.results.toList Q) = W.hibernate_Freezer_Advance f_ now_ w Q := by kernel_rfl
theorem C.hibernate_Freezer_Advance (f_ : Addr) (now_ : Int) (w : World) (Q : Value → World → Prop) (h : W.hibernate_Freezer_Advance f_ now_ w Q) : CallE Try.prog 34 #[(.pointer (some f_)), (.int .u64 now_)] w Q :=
  calls_of_ev mixed callable_ok (args := [(.pointer (some f_)), (.int .u64 now_)]) Try.func34 rfl ((E.hibernate_Freezer_Advance f_ now_ w Q).symm ▸ h)

def W.ref35_Freezer_Advance_k12 (p0 : Addr) (p1 : Int) (p7 : Bool) (w : World) (Q : Value → World → Prop) : Prop :=
  br p7 (st Try.prog 3 (p0.add 1) (.int .i64 2) w fun w11 =>
  Q (.tuple #[(.bool true), (.int .i64 0)]) w11) (ld Try.prog 32 (p0.add 2) w fun v12 => fI .u64 v12 fun x13 =>
  br (decide ((p1 : Int) ≥ x13)) (st Try.prog 3 (p0.add 1) (.int .i64 0) w fun w14 =>
  Q (.tuple #[(.bool false), (.int .i64 14)]) w14) (Q (.tuple #[(.bool false), (.int .i64 0)]) w))
def W.ref35_Freezer_Advance (f_ : Addr) (now_ : Int) (w : World) (Q : Value → World → Prop) : Prop :=
  CallE Try.prog 76 #[(.pointer (some f_)), (.int .u64 now_), (.int .u64 now_)] w fun v1 w2 => fB v1 fun b3 =>
  br b3 (Q (.tuple #[(.bool false), (.int .i64 1)]) w2) (st Try.prog 32 (f_.add 3) (.int .u64 now_) w2 fun w4 =>
  ld Try.prog 3 (f_.add 1) w4 fun v5 => fI .i64 v5 fun x6 =>
  br ((x6 : Int) != 1) (ld Try.prog 3 (f_.add 1) w4 fun v7 => fI .i64 v7 fun x8 =>
  Q (.tuple #[(.bool ((x8 : Int) == 2)), (.int .i64 0)]) w4) (ld Try.prog 32 (f_.add 2) w4 fun v9 => fI .u64 v9 fun x10 =>
  LoopW (S := Bool × Int × Unit) (fun s15 w16 next17 =>
  ld Try.prog 67 (f_.add 0) w16 fun v18 => fS v18 fun l19 l19n l19c =>
  br (decide ((s15.2.1 : Int) < ((l19n : Nat) : Int))) (br s15.1 (ld Try.prog 67 (f_.add 0) w16 fun v20 => fS v20 fun l21 l21n l21c =>
  rq Try.prog (Instr.indexAt 67 (.slice l21 l21n l21c) (.int .i64 s15.2.1)) w16 fun v22 => fA v22 fun a23 =>
  ld Try.prog 32 a23 w16 fun v24 => fI .u64 v24 fun x25 =>
  br ((x25 : Int) == 0) (next17 (true, ((IntKind.wrap .i64 (s15.2.1 + 1)) : Int), ()) w16) (ld Try.prog 67 (f_.add 0) w16 fun v26 => fS v26 fun l27 l27n l27c =>
  rq Try.prog (Instr.indexAt 67 (.slice l27 l27n l27c) (.int .i64 s15.2.1)) w16 fun v28 => fA v28 fun a29 =>
  ld Try.prog 32 a29 w16 fun v30 => fI .u64 v30 fun x31 =>
  next17 ((decide (((IntKind.wrap .u64 (x31 - 1)) : Int) ≤ (if x10 < now_ then x10 else now_))), ((IntKind.wrap .i64 (s15.2.1 + 1)) : Int), ()) w16)) (next17 (false, ((IntKind.wrap .i64 (s15.2.1 + 1)) : Int), ()) w16)) (W.ref35_Freezer_Advance_k12 f_ now_ s15.1 w16 Q)) (true, (0 : Int), ()) w4))
theorem E.ref35_Freezer_Advance (f_ : Addr) (now_ : Int) (w : World) (Q : Value → World → Prop) : ev Try.prog Try.f35.ntmps callable [(9, [(7, .bool false), (8, .int .i64 0)], [0, 1, 6])] [] (Try.f35.body.getD .skip) (enumE 0 [(.pointer (some f_)), (.int .u64 now_)]) w (KQ Try.prog Try.f35.results.toList Q) = W.ref35_Freezer_Advance f_ now_ w Q := by kernel_rfl
theorem C.ref35_Freezer_Advance (f_ : Addr) (now_ : Int) (w : World) (Q : Value → World → Prop) (h : W.ref35_Freezer_Advance f_ now_ w Q) : CallE Try.prog 35 #[(.pointer (some f_)), (.int .u64 now_)] w Q :=
  calls_of_ev mixed callable_ok (args := [(.pointer (some f_)), (.int .u64 now_)]) Try.func35 rfl ((E.ref35_Freezer_Advance f_ now_ w Q).symm ▸ h)

def W.hibernate_Freezer_Thaw (f_ : Addr) (now_ : Int) (w : World) (Q : Value → World → Prop) : Prop :=
  CallE Try.prog 75 #[(.pointer (some f_)), (.int .u64 now_)] w fun v1 w2 => fB v1 fun b3 =>
  br (!b3) (Q (.int .i64 1) w2) (ld Try.prog 3 (f_.add 0) w2 fun v4 => fI .i64 v4 fun x5 =>
  br ((x5 : Int) == 0) (Q (.int .i64 9) w2) (st Try.prog 32 (f_.add 1) (.int .u64 now_) w2 fun w6 =>
  st Try.prog 3 (f_.add 0) (.int .i64 0) w6 fun w7 =>
  Q (.int .i64 0) w7))
theorem E.hibernate_Freezer_Thaw (f_ : Addr) (now_ : Int) (w : World) (Q : Value → World → Prop) : ev Try.prog Try.f36.ntmps callable [] [] (Try.f36.body.getD .skip) (enumE 0 [(.pointer (some f_)), (.int .u64 now_)]) w (KQ Try.prog Try.f36.results.toList Q) = W.hibernate_Freezer_Thaw f_ now_ w Q := by kernel_rfl
theorem C.hibernate_Freezer_Thaw (f_ : Addr) (now_ : Int) (w : World) (Q : Value → World → Prop) (h : W.hibernate_Freezer_Thaw f_ now_ w Q) : CallE Try.prog 36 #[(.pointer (some f_)), (.int .u64 now_)] w Q :=
  calls_of_ev mixed callable_ok (args := [(.pointer (some f_)), (.int .u64 now_)]) Try.func36 rfl ((E.hibernate_Freezer_Thaw f_ now_ w Q).symm ▸ h)

def W.ref35_Freezer_Thaw (f_ : Addr) (now_ : Int) (w : World) (Q : Value → World → Prop) : Prop :=
  CallE Try.prog 76 #[(.pointer (some f_)), (.int .u64 now_), (.int .u64 now_)] w fun v1 w2 => fB v1 fun b3 =>
  br b3 (Q (.int .i64 1) w2) (ld Try.prog 3 (f_.add 1) w2 fun v4 => fI .i64 v4 fun x5 =>
  br ((x5 : Int) == 0) (Q (.int .i64 9) w2) (st Try.prog 32 (f_.add 3) (.int .u64 now_) w2 fun w6 =>
  st Try.prog 3 (f_.add 1) (.int .i64 0) w6 fun w7 =>
  Q (.int .i64 0) w7))
theorem E.ref35_Freezer_Thaw (f_ : Addr) (now_ : Int) (w : World) (Q : Value → World → Prop) : ev Try.prog Try.f37.ntmps callable [] [] (Try.f37.body.getD .skip) (enumE 0 [(.pointer (some f_)), (.int .u64 now_)]) w (KQ Try.prog Try.f37.results.toList Q) = W.ref35_Freezer_Thaw f_ now_ w Q := by kernel_rfl
theorem C.ref35_Freezer_Thaw (f_ : Addr) (now_ : Int) (w : World) (Q : Value → World → Prop) (h : W.ref35_Freezer_Thaw f_ now_ w Q) : CallE Try.prog 37 #[(.pointer (some f_)), (.int .u64 now_)] w Q :=
  calls_of_ev mixed callable_ok (args := [(.pointer (some f_)), (.int .u64 now_)]) Try.func37 rfl ((E.ref35_Freezer_Thaw f_ now_ w Q).symm ▸ h)

def W.hibernate_Freezer_Enter (f_ : Addr) (process_ : Int) (until_ : Int) (now_ : Int) (w : World) (Q : Value → World → Prop) : Prop :=
  CallE Try.prog 77 #[(.pointer (some f_)), (.int .i64 process_)] w fun v1 w2 => fB v1 fun b3 =>
  br (!b3) (Q (.int .i64 1) w2) (br (decide ((until_ : Int) < now_)) (Q (.int .i64 1) w2) (br (decide ((until_ : Int) > 1152921504606846976)) (Q (.int .i64 1) w2) (CallE Try.prog 75 #[(.pointer (some f_)), (.int .u64 now_)] w2 fun v4 w5 => fB v4 fun b6 =>
  br (!b6) (Q (.int .i64 1) w5) (ld Try.prog 3 (f_.add 0) w5 fun v7 => fI .i64 v7 fun x8 =>
  br ((x8 : Int) != 0) (Q (.int .i64 9) w5) (st Try.prog 32 (f_.add 1) (.int .u64 now_) w5 fun w9 =>
  dr w9 fun w10 =>
  ld Try.prog 67 (f_.add 3) w10 fun v11 => fS v11 fun l12 l12n l12c =>
  ld Try.prog 67 (f_.add 3) w10 fun v13 => fS v13 fun l14 l14n l14c =>
  rq Try.prog (Instr.indexAt 67 (.slice l14 l14n l14c) (.int .i64 process_)) w10 fun v15 => fA v15 fun a16 =>
  ld Try.prog 32 a16 w10 fun v17 => fI .u64 v17 fun x18 =>
  rq Try.prog (Instr.indexAt 67 (.slice l12 l12n l12c) (.int .i64 process_)) w10 fun v19 => fA v19 fun a20 =>
  st Try.prog 32 a20 (.int .u64 (if until_ > x18 then until_ else x18)) w10 fun w21 =>
  Q (.int .i64 0) w21)))))
theorem E.hibernate_Freezer_Enter (f_ : Addr) (process_ : Int) (until_ : Int) (now_ : Int) (w : World) (Q : Value → World → Prop) : ev Try.prog Try.f38.ntmps callable [] [] (Try.f38.body.getD .skip) (enumE 0 [(.pointer (some f_)), (.int .i64 process_), (.int .u64 until_), (.int .u64 now_)]) w (KQ Try.prog Try.f38.results.toList Q) = W.hibernate_Freezer_Enter f_ process_ until_ now_ w Q := by kernel_rfl
theorem C.hibernate_Freezer_Enter (f_ : Addr) (process_ : Int) (until_ : Int) (now_ : Int) (w : World) (Q : Value → World → Prop) (h : W.hibernate_Freezer_Enter f_ process_ until_ now_ w Q) : CallE Try.prog 38 #[(.pointer (some f_)), (.int .i64 process_), (.int .u64 until_), (.int .u64 now_)] w Q :=
  calls_of_ev mixed callable_ok (args := [(.pointer (some f_)), (.int .i64 process_), (.int .u64 until_), (.int .u64 now_)]) Try.func38 rfl ((E.hibernate_Freezer_Enter f_ process_ until_ now_ w Q).symm ▸ h)

def W.ref35_Freezer_Enter (f_ : Addr) (process_ : Int) (until_ : Int) (now_ : Int) (w : World) (Q : Value → World → Prop) : Prop :=
  br (decide ((process_ : Int) < 0)) (Q (.int .i64 1) w) (ld Try.prog 67 (f_.add 0) w fun v1 => fS v1 fun l2 l2n l2c =>
  br (decide ((process_ : Int) ≥ ((l2n : Nat) : Int))) (Q (.int .i64 1) w) (CallE Try.prog 76 #[(.pointer (some f_)), (.int .u64 now_), (.int .u64 until_)] w fun v3 w4 => fB v3 fun b5 =>
  br b5 (Q (.int .i64 1) w4) (ld Try.prog 3 (f_.add 1) w4 fun v6 => fI .i64 v6 fun x7 =>
  br ((x7 : Int) != 0) (Q (.int .i64 9) w4) (st Try.prog 32 (f_.add 3) (.int .u64 now_) w4 fun w8 =>
  ld Try.prog 67 (f_.add 0) w8 fun v9 => fS v9 fun l10 l10n l10c =>
  rq Try.prog (Instr.indexAt 67 (.slice l10 l10n l10c) (.int .i64 process_)) w8 fun v11 => fA v11 fun a12 =>
  ld Try.prog 32 a12 w8 fun v13 => fI .u64 v13 fun x14 =>
  br (decide (((IntKind.wrap .u64 (until_ + 1)) : Int) > x14)) (ld Try.prog 67 (f_.add 0) w8 fun v15 => fS v15 fun l16 l16n l16c =>
  rq Try.prog (Instr.indexAt 67 (.slice l16 l16n l16c) (.int .i64 process_)) w8 fun v17 => fA v17 fun a18 =>
  st Try.prog 32 a18 (.int .u64 (IntKind.wrap .u64 (until_ + 1))) w8 fun w19 =>
  Q (.int .i64 0) w19) (Q (.int .i64 0) w8)))))
theorem E.ref35_Freezer_Enter (f_ : Addr) (process_ : Int) (until_ : Int) (now_ : Int) (w : World) (Q : Value → World → Prop) : ev Try.prog Try.f39.ntmps callable [] [] (Try.f39.body.getD .skip) (enumE 0 [(.pointer (some f_)), (.int .i64 process_), (.int .u64 until_), (.int .u64 now_)]) w (KQ Try.prog Try.f39.results.toList Q) = W.ref35_Freezer_Enter f_ process_ until_ now_ w Q := by kernel_rfl
theorem C.ref35_Freezer_Enter (f_ : Addr) (process_ : Int) (until_ : Int) (now_ : Int) (w : World) (Q : Value → World → Prop) (h : W.ref35_Freezer_Enter f_ process_ until_ now_ w Q) : CallE Try.prog 39 #[(.pointer (some f_)), (.int .i64 process_), (.int .u64 until_), (.int .u64 now_)] w Q :=
  calls_of_ev mixed callable_ok (args := [(.pointer (some f_)), (.int .i64 process_), (.int .u64 until_), (.int .u64 now_)]) Try.func39 rfl ((E.ref35_Freezer_Enter f_ process_ until_ now_ w Q).symm ▸ h)

def W.hibernate_Freezer_Frozen (f_ : Addr) (process_ : Int) (w : World) (Q : Value → World → Prop) : Prop :=
  CallE Try.prog 77 #[(.pointer (some f_)), (.int .i64 process_)] w fun v1 w2 => fB v1 fun b3 =>
  br (!b3) (Q (.bool false) w2) (dr w2 fun w4 =>
  ld Try.prog 3 (f_.add 0) w4 fun v5 => fI .i64 v5 fun x6 =>
  br ((x6 : Int) == 2) (Q (.bool true) w4) (ld Try.prog 3 (f_.add 0) w4 fun v7 => fI .i64 v7 fun x8 =>
  br ((x8 : Int) == 1) (ld Try.prog 67 (f_.add 3) w4 fun v9 => fS v9 fun l10 l10n l10c =>
  rq Try.prog (Instr.indexAt 67 (.slice l10 l10n l10c) (.int .i64 process_)) w4 fun v11 => fA v11 fun a12 =>
  ld Try.prog 32 a12 w4 fun v13 => fI .u64 v13 fun x14 =>
  ld Try.prog 32 (f_.add 1) w4 fun v15 => fI .u64 v15 fun x16 =>
  Q (.bool (decide ((x14 : Int) ≤ x16))) w4) (Q (.bool false) w4)))
theorem E.hibernate_Freezer_Frozen (f_ : Addr) (process_ : Int) (w : World) (Q : Value → World → Prop) : ev Try.prog Try.f40.ntmps callable [] [] (Try.f40.body.getD .skip) (enumE 0 [(.pointer (some f_)), (.int .i64 process_)]) w (KQ Try.prog Try.f40.results.toList Q) = W.hibernate_Freezer_Frozen f_ process_ w Q := by kernel_rfl
theorem C.hibernate_Freezer_Frozen (f_ : Addr) (process_ : Int) (w : World) (Q : Value → World → Prop) (h : W.hibernate_Freezer_Frozen f_ process_ w Q) : CallE Try.prog 40 #[(.pointer (some f_)), (.int .i64 process_)] w Q :=
  calls_of_ev mixed callable_ok (args := [(.pointer (some f_)), (.int .i64 process_)]) Try.func40 rfl ((E.hibernate_Freezer_Frozen f_ process_ w Q).symm ▸ h)

def W.ref35_Freezer_Frozen (f_ : Addr) (process_ : Int) (w : World) (Q : Value → World → Prop) : Prop :=
  br (decide ((process_ : Int) < 0)) (Q (.bool false) w) (ld Try.prog 67 (f_.add 0) w fun v1 => fS v1 fun l2 l2n l2c =>
  br (decide ((process_ : Int) ≥ ((l2n : Nat) : Int))) (Q (.bool false) w) (dr w fun w3 =>
  ld Try.prog 3 (f_.add 1) w3 fun v4 => fI .i64 v4 fun x5 =>
  br ((x5 : Int) == 2) (Q (.bool true) w3) (ld Try.prog 3 (f_.add 1) w3 fun v6 => fI .i64 v6 fun x7 =>
  br ((x7 : Int) == 1) (ld Try.prog 67 (f_.add 0) w3 fun v8 => fS v8 fun l9 l9n l9c =>
  rq Try.prog (Instr.indexAt 67 (.slice l9 l9n l9c) (.int .i64 process_)) w3 fun v10 => fA v10 fun a11 =>
  ld Try.prog 32 a11 w3 fun v12 => fI .u64 v12 fun x13 =>
  br ((x13 : Int) == 0) (Q (.bool true) w3) (ld Try.prog 67 (f_.add 0) w3 fun v14 => fS v14 fun l15 l15n l15c =>
  rq Try.prog (Instr.indexAt 67 (.slice l15 l15n l15c) (.int .i64 process_)) w3 fun v16 => fA v16 fun a17 =>
  ld Try.prog 32 a17 w3 fun v18 => fI .u64 v18 fun x19 =>
  ld Try.prog 32 (f_.add 3) w3 fun v20 => fI .u64 v20 fun x21 =>
  Q (.bool (decide (((IntKind.wrap .u64 (x19 - 1)) : Int) ≤ x21))) w3)) (Q (.bool false) w3))))
theorem E.ref35_Freezer_Frozen (f_ : Addr) (process_ : Int) (w : World) (Q : Value → World → Prop) : ev Try.prog Try.f41.ntmps callable [] [] (Try.f41.body.getD .skip) (enumE 0 [(.pointer (some f_)), (.int .i64 process_)]) w (KQ Try.prog Try.f41.results.toList Q) = W.ref35_Freezer_Frozen f_ process_ w Q := by kernel_rfl
theorem C.ref35_Freezer_Frozen (f_ : Addr) (process_ : Int) (w : World) (Q : Value → World → Prop) (h : W.ref35_Freezer_Frozen f_ process_ w Q) : CallE Try.prog 41 #[(.pointer (some f_)), (.int .i64 process_)] w Q :=
  calls_of_ev mixed callable_ok (args := [(.pointer (some f_)), (.int .i64 process_)]) Try.func41 rfl ((E.ref35_Freezer_Frozen f_ process_ w Q).symm ▸ h)

def W.law33_Page_k22 (p5 : Option Addr) (p5n : Nat) (p5c : Nat) (w : World) (Q : Value → World → Prop) : Prop :=
  rv Try.prog (convert 82 9 (.slice p5 p5n p5c)) w fun v4 w5 => fT v4 fun t6 =>
  Q (.string t6) w5
def W.law33_Page_k18 (p0 : Option Addr) (p0n : Nat) (p0c : Nat) (p1 : Int) (p5 : Option Addr) (p5n : Nat) (p5c : Nat) (p6 : Int) (p8 : Int) (next9 : (Int × Unit) → World → Prop) (w : World) (Q : Value → World → Prop) : Prop :=
  LoopW (S := Int × Unit) (fun s10 w11 next12 =>
  br (decide ((s10.1 : Int) < 4)) (rq Try.prog (do eqGuard .shr 119 (.tmp 63) (.tmp 66) (.int .u32 p8) (.int .u64 (IntKind.wrap .u64 (IntKind.wrap .i64 (8 * s10.1)))); binOp .shr 119 (.int .u32 p8) (.int .u64 (IntKind.wrap .u64 (IntKind.wrap .i64 (8 * s10.1))))) w11 fun v13 => fI .u32 v13 fun x14 =>
  rq Try.prog (Instr.indexAt 82 (.slice p5 p5n p5c) (.int .i64 (IntKind.wrap .i64 ((IntKind.wrap .i64 (4 * p6)) + s10.1)))) w11 fun v15 => fA v15 fun a16 =>
  st Try.prog 5 a16 (.int .u8 (IntKind.wrap .u8 x14)) w11 fun w17 =>
  next12 (((IntKind.wrap .i64 (s10.1 + 1)) : Int), ()) w17) (next9 (((IntKind.wrap .i64 (p6 + 1)) : Int), ()) w11)) ((0 : Int), ()) w
def W.law33_Page_k11 (p0 : Option Addr) (p0n : Nat) (p0c : Nat) (p1 : Int) (p5 : Option Addr) (p5n : Nat) (p5c : Nat) (p6 : Int) (p8 : Int) (next9 : (Int × Unit) → World → Prop) (w : World) (Q : Value → World → Prop) : Prop :=
  br (((Int.tmod (IntKind.wrap .i64 ((IntKind.wrap .i64 p1) + p6)) 7) : Int) == 0) (W.law33_Page_k18 p0 p0n p0c p1 p5 p5n p5c p6 0 next9 w Q) (br (((Int.tmod (IntKind.wrap .i64 ((IntKind.wrap .i64 p1) + p6)) 7) : Int) == 1) (W.law33_Page_k18 p0 p0n p0c p1 p5 p5n p5c p6 (IntKind.wrap .u32 (p8 + (IntKind.wrap .u32 p6))) next9 w Q) (br (((Int.tmod (IntKind.wrap .i64 ((IntKind.wrap .i64 p1) + p6)) 7) : Int) == 2) (W.law33_Page_k18 p0 p0n p0c p1 p5 p5n p5c p6 (band .u32 p8 4294901775) next9 w Q) (W.law33_Page_k18 p0 p0n p0c p1 p5 p5n p5c p6 p8 next9 w Q)))
def W.law33_Page_k8 (p0 : Option Addr) (p0n : Nat) (p0c : Nat) (p1 : Int) (p5 : Option Addr) (p5n : Nat) (p5c : Nat) (p6 : Int) (p7 : Int) (next9 : (Int × Unit) → World → Prop) (w : World) (Q : Value → World → Prop) : Prop :=
  br (decide ((p7 : Int) < ((p0n : Nat) : Int))) (rq Try.prog (Instr.indexAt 79 (.slice p0 p0n p0c) (.int .i64 p7)) w fun v18 => fA v18 fun a19 =>
  ld Try.prog 119 a19 w fun v20 => fI .u32 v20 fun x21 =>
  W.law33_Page_k11 p0 p0n p0c p1 p5 p5n p5c p6 x21 next9 w Q) (W.law33_Page_k11 p0 p0n p0c p1 p5 p5n p5c p6 0 next9 w Q)
def W.law33_Page (words_ : Option Addr) (words_n : Nat) (words_c : Nat) (stride_ : Int) (w : World) (Q : Value → World → Prop) : Prop :=
  rv Try.prog (Instr.makeSlice 82 (.int .i64 256) (.int .i64 256)) w fun v1 w2 => fS v1 fun l3 l3n l3c =>
  LoopW (S := Int × Unit) (fun s7 w8 next9 =>
  br (decide ((s7.1 : Int) < 64)) (br (decide ((((words_n : Nat) : Int) : Int) > 0)) (br (decide (((Int.tmod stride_ 4) : Int) > 0)) (rq Try.prog (do eqGuard .rem 3 (.tmp 24) (.tmp 27) (.int .i64 s7.1) (.int .i64 (IntKind.wrap .i64 (1 + (IntKind.wrap .i64 stride_)))); binOp .rem 3 (.int .i64 s7.1) (.int .i64 (IntKind.wrap .i64 (1 + (IntKind.wrap .i64 stride_))))) w8 fun v22 => fI .i64 v22 fun x23 =>
  W.law33_Page_k8 words_ words_n words_c stride_ l3 l3n l3c s7.1 x23 next9 w8 Q) (W.law33_Page_k8 words_ words_n words_c stride_ l3 l3n l3c s7.1 s7.1 next9 w8 Q)) (W.law33_Page_k22 l3 l3n l3c w8 Q)) (W.law33_Page_k22 l3 l3n l3c w8 Q)) ((0 : Int), ()) w2
theorem E.law33_Page (words_ : Option Addr) (words_n : Nat) (words_c : Nat) (stride_ : Int) (w : World) (Q : Value → World → Prop) : ev Try.prog Try.f42.ntmps callable [(3, [(6, .int .i64 0)], [0, 1, 5]), (19, [(9, .int .i64 0)], [0, 1, 5, 6, 8])] [] (Try.f42.body.getD .skip) (enumE 0 [(.slice words_ words_n words_c), (.int .u8 stride_)]) w (KQ Try.prog Try.f42.results.toList Q) = W.law33_Page words_ words_n words_c stride_ w Q := by kernel_rfl
theorem C.law33_Page (words_ : Option Addr) (words_n : Nat) (words_c : Nat) (stride_ : Int) (w : World) (Q : Value → World → Prop) (h : W.law33_Page words_ words_n words_c stride_ w Q) : CallE Try.prog 42 #[(.slice words_ words_n words_c), (.int .u8 stride_)] w Q :=
  calls_of_ev mixed callable_ok (args := [(.slice words_ words_n words_c), (.int .u8 stride_)]) Try.func42 rfl ((E.law33_Page words_ words_n words_c stride_ w Q).symm ▸ h)

def W.blockdev_Disk_PowerOff (d_ : Addr) (keep_ : Option Addr) (keep_n : Nat) (keep_c : Nat) (w : World) (Q : Value → World → Prop) : Prop :=
  ld Try.prog 4 (d_.add 3) w fun v1 => fB v1 fun b2 =>
  br b2 (Q (.int .i64 9) w) (CallE Try.prog 78 #[(.pointer (some d_)), (.slice keep_ keep_n keep_c)] w fun v3 w4 => v3 = .tuple #[] ∧
  Q (.int .i64 0) w4)
theorem E.blockdev_Disk_PowerOff (d_ : Addr) (keep_ : Option Addr) (keep_n : Nat) (keep_c : Nat) (w : World) (Q : Value → World → Prop) : ev Try.prog Try.f43.ntmps callable [] [] (Try.f43.body.getD .skip) (enumE 0 [(.pointer (some d_)), (.slice keep_ keep_n keep_c)]) w (KQ Try.prog Try.f43.results.toList Q) = W.blockdev_Disk_PowerOff d_ keep_ keep_n keep_c w Q := by kernel_rfl
theorem C.blockdev_Disk_PowerOff (d_ : Addr) (keep_ : Option Addr) (keep_n : Nat) (keep_c : Nat) (w : World) (Q : Value → World → Prop) (h : W.blockdev_Disk_PowerOff d_ keep_ keep_n keep_c w Q) : CallE Try.prog 43 #[(.pointer (some d_)), (.slice keep_ keep_n keep_c)] w Q :=
  calls_of_ev mixed callable_ok (args := [(.pointer (some d_)), (.slice keep_ keep_n keep_c)]) Try.func43 rfl ((E.blockdev_Disk_PowerOff d_ keep_ keep_n keep_c w Q).symm ▸ h)

def W.blockdev_Disk_PowerOn (d_ : Addr) (w : World) (Q : Value → World → Prop) : Prop :=
  ld Try.prog 4 (d_.add 3) w fun v1 => fB v1 fun b2 =>
  br (!b2) (Q (.int .i64 9) w) (st Try.prog 4 (d_.add 3) (.bool false) w fun w3 =>
  Q (.int .i64 0) w3)
theorem E.blockdev_Disk_PowerOn (d_ : Addr) (w : World) (Q : Value → World → Prop) : ev Try.prog Try.f44.ntmps callable [] [] (Try.f44.body.getD .skip) (enumE 0 [(.pointer (some d_))]) w (KQ Try.prog Try.f44.results.toList Q) = W.blockdev_Disk_PowerOn d_ w Q := by kernel_rfl
theorem C.blockdev_Disk_PowerOn (d_ : Addr) (w : World) (Q : Value → World → Prop) (h : W.blockdev_Disk_PowerOn d_ w Q) : CallE Try.prog 44 #[(.pointer (some d_))] w Q :=
  calls_of_ev mixed callable_ok (args := [(.pointer (some d_))]) Try.func44 rfl ((E.blockdev_Disk_PowerOn d_ w Q).symm ▸ h)

def W.law35_run (memory_ : Option Addr) (memory_n : Nat) (memory_c : Nat) (l_ : Option Addr) (l_n : Nat) (l_c : Nat) (w : World) (Q : Value → World → Prop) : Prop :=
  LoopW (S := Int × Unit) (fun s1 w2 next3 =>
  br (decide ((s1.1 : Int) < ((l_n : Nat) : Int))) (drawE fun S4 => S4 (drew w2) ∧ (rqS Try.prog S4 (Instr.indexAt 89 (.slice l_ l_n l_c) (.int .i64 s1.1)) fun v5 => fA v5 fun a6 =>
  ldS Try.prog S4 3 (a6.add 0) fun v7 => fI .i64 v7 fun x8 =>
  rqS Try.prog S4 (Instr.indexAt 89 (.slice l_ l_n l_c) (.int .i64 s1.1)) fun v9 => fA v9 fun a10 =>
  ldS Try.prog S4 3 (a10.add 1) fun v11 => fI .i64 v11 fun x12 =>
  CallE Try.prog 24 #[(.int .i64 x8), (.int .i64 ((memory_n : Nat) : Int))] (drew w2) fun v13 w14 => fI .i64 v13 fun x15 =>
  S4 w14 ∧ (CallE Try.prog 24 #[(.int .i64 x12), (.int .i64 256)] w14 fun v16 w17 => fI .i64 v16 fun x18 =>
  S4 w17 ∧ (drawE fun S19 => S19 (drew w17) ∧ (rqS Try.prog S19 (Instr.indexAt 49 (.slice memory_ memory_n memory_c) (.int .i64 x15)) fun v20 => fA v20 fun a21 =>
  rqS Try.prog S19 (Instr.indexAt 89 (.slice l_ l_n l_c) (.int .i64 s1.1)) fun v22 => fA v22 fun a23 =>
  rqS Try.prog S19 (Instr.indexAt 49 (.slice memory_ memory_n memory_c) (.int .i64 x15)) fun v24 => fA v24 fun a25 =>
  (ld Try.prog 9 a21 (drew w17) fun v26 => fT v26 fun t27 =>
  S19 (drew w17) ∧ (rqS Try.prog S19 (Instr.sliceAt 9 (.string t27) none (some (.int .i64 x18)) none) fun v28 => fT v28 fun t29 =>
  (ld Try.prog 5 (a23.add 2) (drew w17) fun v30 => fI .u8 v30 fun x31 =>
  S19 (drew w17) ∧ ((al 5 #[(.int .u8 x31)] (drew w17) fun a33 w32 =>
  S19 w32 ∧ ((rv Try.prog (convert 82 9 (.slice (some a33) 1 1)) w32 fun v34 w35 => fT v34 fun t36 =>
  S19 w35 ∧ (rqS Try.prog S19 (do eqGuard .add 9 (.tmp 34) (.tmp 41) (.string t29) (.string t36); binOp .add 9 (.string t29) (.string t36)) fun v37 => fT v37 fun t38 =>
  ld Try.prog 9 a25 w35 fun v39 => fT v39 fun t40 =>
  S19 w35 ∧ (rqS Try.prog S19 (Instr.sliceAt 9 (.string t40) (some (.int .i64 (IntKind.wrap .i64 (x18 + 1)))) none none) fun v41 => fT v41 fun t42 =>
  rqS Try.prog S19 (do eqGuard .add 9 (.tmp 42) (.tmp 49) (.string t38) (.string t42); binOp .add 9 (.string t38) (.string t42)) fun v43 => fT v43 fun t44 =>
  rqS Try.prog S19 (Instr.indexAt 49 (.slice memory_ memory_n memory_c) (.int .i64 x15)) fun v45 => fA v45 fun a46 =>
  st Try.prog 9 a46 (.string t44) w35 fun w47 =>
  S19 w47 ∧ (next3 (((IntKind.wrap .i64 (s1.1 + 1)) : Int), ()) w47)))) ∧ (ld Try.prog 9 a25 w32 fun v48 => fT v48 fun t49 =>
  S19 w32 ∧ (rqS Try.prog S19 (Instr.sliceAt 9 (.string t49) (some (.int .i64 (IntKind.wrap .i64 (x18 + 1)))) none none) fun v50 => fT v50 fun t51 =>
  rv Try.prog (convert 82 9 (.slice (some a33) 1 1)) w32 fun v52 w53 => fT v52 fun t54 =>
  S19 w53 ∧ (rqS Try.prog S19 (do eqGuard .add 9 (.tmp 34) (.tmp 41) (.string t29) (.string t54); binOp .add 9 (.string t29) (.string t54)) fun v55 => fT v55 fun t56 =>
  rqS Try.prog S19 (do eqGuard .add 9 (.tmp 42) (.tmp 49) (.string t56) (.string t51); binOp .add 9 (.string t56) (.string t51)) fun v57 => fT v57 fun t58 =>
  rqS Try.prog S19 (Instr.indexAt 49 (.slice memory_ memory_n memory_c) (.int .i64 x15)) fun v59 => fA v59 fun a60 =>
  st Try.prog 9 a60 (.string t58) w53 fun w61 =>
  S19 w61 ∧ (next3 (((IntKind.wrap .i64 (s1.1 + 1)) : Int), ()) w61)))))) ∧ (ld Try.prog 9 a25 (drew w17) fun v62 => fT v62 fun t63 =>
  S19 (drew w17) ∧ (rqS Try.prog S19 (Instr.sliceAt 9 (.string t63) (some (.int .i64 (IntKind.wrap .i64 (x18 + 1)))) none none) fun v64 => fT v64 fun t65 =>
  al 5 #[(.int .u8 x31)] (drew w17) fun a67 w66 =>
  S19 w66 ∧ (rv Try.prog (convert 82 9 (.slice (some a67) 1 1)) w66 fun v68 w69 => fT v68 fun t70 =>
  S19 w69 ∧ (rqS Try.prog S19 (do eqGuard .add 9 (.tmp 34) (.tmp 41) (.string t29) (.string t70); binOp .add 9 (.string t29) (.string t70)) fun v71 => fT v71 fun t72 =>
  rqS Try.prog S19 (do eqGuard .add 9 (.tmp 42) (.tmp 49) (.string t72) (.string t65); binOp .add 9 (.string t72) (.string t65)) fun v73 => fT v73 fun t74 =>
  rqS Try.prog S19 (Instr.indexAt 49 (.slice memory_ memory_n memory_c) (.int .i64 x15)) fun v75 => fA v75 fun a76 =>
  st Try.prog 9 a76 (.string t74) w69 fun w77 =>
  S19 w77 ∧ (next3 (((IntKind.wrap .i64 (s1.1 + 1)) : Int), ()) w77))))))) ∧ (ld Try.prog 9 a25 (drew w17) fun v78 => fT v78 fun t79 =>
  S19 (drew w17) ∧ (rqS Try.prog S19 (Instr.sliceAt 9 (.string t79) (some (.int .i64 (IntKind.wrap .i64 (x18 + 1)))) none none) fun v80 => fT v80 fun t81 =>
  ld Try.prog 5 (a23.add 2) (drew w17) fun v82 => fI .u8 v82 fun x83 =>
  S19 (drew w17) ∧ (al 5 #[(.int .u8 x83)] (drew w17) fun a85 w84 =>
  S19 w84 ∧ (rv Try.prog (convert 82 9 (.slice (some a85) 1 1)) w84 fun v86 w87 => fT v86 fun t88 =>
  S19 w87 ∧ (rqS Try.prog S19 (do eqGuard .add 9 (.tmp 34) (.tmp 41) (.string t29) (.string t88); binOp .add 9 (.string t29) (.string t88)) fun v89 => fT v89 fun t90 =>
  rqS Try.prog S19 (do eqGuard .add 9 (.tmp 42) (.tmp 49) (.string t90) (.string t81); binOp .add 9 (.string t90) (.string t81)) fun v91 => fT v91 fun t92 =>
  rqS Try.prog S19 (Instr.indexAt 49 (.slice memory_ memory_n memory_c) (.int .i64 x15)) fun v93 => fA v93 fun a94 =>
  st Try.prog 9 a94 (.string t92) w87 fun w95 =>
  S19 w95 ∧ (next3 (((IntKind.wrap .i64 (s1.1 + 1)) : Int), ()) w95)))))))) ∧ (ld Try.prog 5 (a23.add 2) (drew w17) fun v96 => fI .u8 v96 fun x97 =>
  S19 (drew w17) ∧ ((ld Try.prog 9 a21 (drew w17) fun v98 => fT v98 fun t99 =>
  S19 (drew w17) ∧ (rqS Try.prog S19 (Instr.sliceAt 9 (.string t99) none (some (.int .i64 x18)) none) fun v100 => fT v100 fun t101 =>
  (al 5 #[(.int .u8 x97)] (drew w17) fun a103 w102 =>
  S19 w102 ∧ ((rv Try.prog (convert 82 9 (.slice (some a103) 1 1)) w102 fun v104 w105 => fT v104 fun t106 =>
  S19 w105 ∧ (rqS Try.prog S19 (do eqGuard .add 9 (.tmp 34) (.tmp 41) (.string t101) (.string t106); binOp .add 9 (.string t101) (.string t106)) fun v107 => fT v107 fun t108 =>
  ld Try.prog 9 a25 w105 fun v109 => fT v109 fun t110 =>
  S19 w105 ∧ (rqS Try.prog S19 (Instr.sliceAt 9 (.string t110) (some (.int .i64 (IntKind.wrap .i64 (x18 + 1)))) none none) fun v111 => fT v111 fun t112 =>
  rqS Try.prog S19 (do eqGuard .add 9 (.tmp 42) (.tmp 49) (.string t108) (.string t112); binOp .add 9 (.string t108) (.string t112)) fun v113 => fT v113 fun t114 =>
  rqS Try.prog S19 (Instr.indexAt 49 (.slice memory_ memory_n memory_c) (.int .i64 x15)) fun v115 => fA v115 fun a116 =>
  st Try.prog 9 a116 (.string t114) w105 fun w117 =>
  S19 w117 ∧ (next3 (((IntKind.wrap .i64 (s1.1 + 1)) : Int), ()) w117)))) ∧ (ld Try.prog 9 a25 w102 fun v118 => fT v118 fun t119 =>
  S19 w102 ∧ (rqS Try.prog S19 (Instr.sliceAt 9 (.string t119) (some (.int .i64 (IntKind.wrap .i64 (x18 + 1)))) none none) fun v120 => fT v120 fun t121 =>
  rv Try.prog (convert 82 9 (.slice (some a103) 1 1)) w102 fun v122 w123 => fT v122 fun t124 =>
  S19 w123 ∧ (rqS Try.prog S19 (do eqGuard .add 9 (.tmp 34) (.tmp 41) (.string t101) (.string t124); binOp .add 9 (.string t101) (.string t124)) fun v125 => fT v125 fun t126 =>
  rqS Try.prog S19 (do eqGuard .add 9 (.tmp 42) (.tmp 49) (.string t126) (.string t121); binOp .add 9 (.string t126) (.string t121)) fun v127 => fT v127 fun t128 =>
  rqS Try.prog S19 (Instr.indexAt 49 (.slice memory_ memory_n memory_c) (.int .i64 x15)) fun v129 => fA v129 fun a130 =>
  st Try.prog 9 a130 (.string t128) w123 fun w131 =>
  S19 w131 ∧ (next3 (((IntKind.wrap .i64 (s1.1 + 1)) : Int), ()) w131)))))) ∧ (ld Try.prog 9 a25 (drew w17) fun v132 => fT v132 fun t133 =>
  S19 (drew w17) ∧ (rqS Try.prog S19 (Instr.sliceAt 9 (.string t133) (some (.int .i64 (IntKind.wrap .i64 (x18 + 1)))) none none) fun v134 => fT v134 fun t135 =>
  al 5 #[(.int .u8 x97)] (drew w17) fun a137 w136 =>
  S19 w136 ∧ (rv Try.prog (convert 82 9 (.slice (some a137) 1 1)) w136 fun v138 w139 => fT v138 fun t140 =>
  S19 w139 ∧ (rqS Try.prog S19 (do eqGuard .add 9 (.tmp 34) (.tmp 41) (.string t101) (.string t140); binOp .add 9 (.string t101) (.string t140)) fun v141 => fT v141 fun t142 =>
  rqS Try.prog S19 (do eqGuard .add 9 (.tmp 42) (.tmp 49) (.string t142) (.string t135); binOp .add 9 (.string t142) (.string t135)) fun v143 => fT v143 fun t144 =>
  rqS Try.prog S19 (Instr.indexAt 49 (.slice memory_ memory_n memory_c) (.int .i64 x15)) fun v145 => fA v145 fun a146 =>
  st Try.prog 9 a146 (.string t144) w139 fun w147 =>
  S19 w147 ∧ (next3 (((IntKind.wrap .i64 (s1.1 + 1)) : Int), ()) w147))))))) ∧ (al 5 #[(.int .u8 x97)] (drew w17) fun a149 w148 =>
  S19 w148 ∧ ((ld Try.prog 9 a21 w148 fun v150 => fT v150 fun t151 =>
  S19 w148 ∧ (rqS Try.prog S19 (Instr.sliceAt 9 (.string t151) none (some (.int .i64 x18)) none) fun v152 => fT v152 fun t153 =>
  (rv Try.prog (convert 82 9 (.slice (some a149) 1 1)) w148 fun v154 w155 => fT v154 fun t156 =>
  S19 w155 ∧ (rqS Try.prog S19 (do eqGuard .add 9 (.tmp 34) (.tmp 41) (.string t153) (.string t156); binOp .add 9 (.string t153) (.string t156)) fun v157 => fT v157 fun t158 =>
  ld Try.prog 9 a25 w155 fun v159 => fT v159 fun t160 =>
  S19 w155 ∧ (rqS Try.prog S19 (Instr.sliceAt 9 (.string t160) (some (.int .i64 (IntKind.wrap .i64 (x18 + 1)))) none none) fun v161 => fT v161 fun t162 =>
  rqS Try.prog S19 (do eqGuard .add 9 (.tmp 42) (.tmp 49) (.string t158) (.string t162); binOp .add 9 (.string t158) (.string t162)) fun v163 => fT v163 fun t164 =>
  rqS Try.prog S19 (Instr.indexAt 49 (.slice memory_ memory_n memory_c) (.int .i64 x15)) fun v165 => fA v165 fun a166 =>
  st Try.prog 9 a166 (.string t164) w155 fun w167 =>
  S19 w167 ∧ (next3 (((IntKind.wrap .i64 (s1.1 + 1)) : Int), ()) w167)))) ∧ (ld Try.prog 9 a25 w148 fun v168 => fT v168 fun t169 =>
  S19 w148 ∧ (rqS Try.prog S19 (Instr.sliceAt 9 (.string t169) (some (.int .i64 (IntKind.wrap .i64 (x18 + 1)))) none none) fun v170 => fT v170 fun t171 =>
  rv Try.prog (convert 82 9 (.slice (some a149) 1 1)) w148 fun v172 w173 => fT v172 fun t174 =>
  S19 w173 ∧ (rqS Try.prog S19 (do eqGuard .add 9 (.tmp 34) (.tmp 41) (.string t153) (.string t174); binOp .add 9 (.string t153) (.string t174)) fun v175 => fT v175 fun t176 =>
  rqS Try.prog S19 (do eqGuard .add 9 (.tmp 42) (.tmp 49) (.string t176) (.string t171); binOp .add 9 (.string t176) (.string t171)) fun v177 => fT v177 fun t178 =>
  rqS Try.prog S19 (Instr.indexAt 49 (.slice memory_ memory_n memory_c) (.int .i64 x15)) fun v179 => fA v179 fun a180 =>
  st Try.prog 9 a180 (.string t178) w173 fun w181 =>
  S19 w181 ∧ (next3 (((IntKind.wrap .i64 (s1.1 + 1)) : Int), ()) w181)))))) ∧ (rv Try.prog (convert 82 9 (.slice (some a149) 1 1)) w148 fun v182 w183 => fT v182 fun t184 =>
  S19 w183 ∧ ((ld Try.prog 9 a21 w183 fun v185 => fT v185 fun t186 =>
  S19 w183 ∧ (rqS Try.prog S19 (Instr.sliceAt 9 (.string t186) none (some (.int .i64 x18)) none) fun v187 => fT v187 fun t188 =>
  rqS Try.prog S19 (do eqGuard .add 9 (.tmp 34) (.tmp 41) (.string t188) (.string t184); binOp .add 9 (.string t188) (.string t184)) fun v189 => fT v189 fun t190 =>
  ld Try.prog 9 a25 w183 fun v191 => fT v191 fun t192 =>
  S19 w183 ∧ (rqS Try.prog S19 (Instr.sliceAt 9 (.string t192) (some (.int .i64 (IntKind.wrap .i64 (x18 + 1)))) none none) fun v193 => fT v193 fun t194 =>
  rqS Try.prog S19 (do eqGuard .add 9 (.tmp 42) (.tmp 49) (.string t190) (.string t194); binOp .add 9 (.string t190) (.string t194)) fun v195 => fT v195 fun t196 =>
  rqS Try.prog S19 (Instr.indexAt 49 (.slice memory_ memory_n memory_c) (.int .i64 x15)) fun v197 => fA v197 fun a198 =>
  st Try.prog 9 a198 (.string t196) w183 fun w199 =>
  S19 w199 ∧ (next3 (((IntKind.wrap .i64 (s1.1 + 1)) : Int), ()) w199)))) ∧ (ld Try.prog 9 a25 w183 fun v200 => fT v200 fun t201 =>
  S19 w183 ∧ (rqS Try.prog S19 (Instr.sliceAt 9 (.string t201) (some (.int .i64 (IntKind.wrap .i64 (x18 + 1)))) none none) fun v202 => fT v202 fun t203 =>
  ld Try.prog 9 a21 w183 fun v204 => fT v204 fun t205 =>
  S19 w183 ∧ (rqS Try.prog S19 (Instr.sliceAt 9 (.string t205) none (some (.int .i64 x18)) none) fun v206 => fT v206 fun t207 =>
  rqS Try.prog S19 (do eqGuard .add 9 (.tmp 34) (.tmp 41) (.string t207) (.string t184); binOp .add 9 (.string t207) (.string t184)) fun v208 => fT v208 fun t209 =>
  rqS Try.prog S19 (do eqGuard .add 9 (.tmp 42) (.tmp 49) (.string t209) (.string t203); binOp .add 9 (.string t209) (.string t203)) fun v210 => fT v210 fun t211 =>
  rqS Try.prog S19 (Instr.indexAt 49 (.slice memory_ memory_n memory_c) (.int .i64 x15)) fun v212 => fA v212 fun a213 =>
  st Try.prog 9 a213 (.string t211) w183 fun w214 =>
  S19 w214 ∧ (next3 (((IntKind.wrap .i64 (s1.1 + 1)) : Int), ()) w214)))))) ∧ (ld Try.prog 9 a25 w148 fun v215 => fT v215 fun t216 =>
  S19 w148 ∧ (rqS Try.prog S19 (Instr.sliceAt 9 (.string t216) (some (.int .i64 (IntKind.wrap .i64 (x18 + 1)))) none none) fun v217 => fT v217 fun t218 =>
  (ld Try.prog 9 a21 w148 fun v219 => fT v219 fun t220 =>
  S19 w148 ∧ (rqS Try.prog S19 (Instr.sliceAt 9 (.string t220) none (some (.int .i64 x18)) none) fun v221 => fT v221 fun t222 =>
  rv Try.prog (convert 82 9 (.slice (some a149) 1 1)) w148 fun v223 w224 => fT v223 fun t225 =>
  S19 w224 ∧ (rqS Try.prog S19 (do eqGuard .add 9 (.tmp 34) (.tmp 41) (.string t222) (.string t225); binOp .add 9 (.string t222) (.string t225)) fun v226 => fT v226 fun t227 =>
  rqS Try.prog S19 (do eqGuard .add 9 (.tmp 42) (.tmp 49) (.string t227) (.string t218); binOp .add 9 (.string t227) (.string t218)) fun v228 => fT v228 fun t229 =>
  rqS Try.prog S19 (Instr.indexAt 49 (.slice memory_ memory_n memory_c) (.int .i64 x15)) fun v230 => fA v230 fun a231 =>
  st Try.prog 9 a231 (.string t229) w224 fun w232 =>
  S19 w232 ∧ (next3 (((IntKind.wrap .i64 (s1.1 + 1)) : Int), ()) w232)))) ∧ (rv Try.prog (convert 82 9 (.slice (some a149) 1 1)) w148 fun v233 w234 => fT v233 fun t235 =>
  S19 w234 ∧ (ld Try.prog 9 a21 w234 fun v236 => fT v236 fun t237 =>
  S19 w234 ∧ (rqS Try.prog S19 (Instr.sliceAt 9 (.string t237) none (some (.int .i64 x18)) none) fun v238 => fT v238 fun t239 =>
  rqS Try.prog S19 (do eqGuard .add 9 (.tmp 34) (.tmp 41) (.string t239) (.string t235); binOp .add 9 (.string t239) (.string t235)) fun v240 => fT v240 fun t241 =>
  rqS Try.prog S19 (do eqGuard .add 9 (.tmp 42) (.tmp 49) (.string t241) (.string t218); binOp .add 9 (.string t241) (.string t218)) fun v242 => fT v242 fun t243 =>
  rqS Try.prog S19 (Instr.indexAt 49 (.slice memory_ memory_n memory_c) (.int .i64 x15)) fun v244 => fA v244 fun a245 =>
  st Try.prog 9 a245 (.string t243) w234 fun w246 =>
  S19 w246 ∧ (next3 (((IntKind.wrap .i64 (s1.1 + 1)) : Int), ()) w246)))))))) ∧ (ld Try.prog 9 a25 (drew w17) fun v247 => fT v247 fun t248 =>
  S19 (drew w17) ∧ (rqS Try.prog S19 (Instr.sliceAt 9 (.string t248) (some (.int .i64 (IntKind.wrap .i64 (x18 + 1)))) none none) fun v249 => fT v249 fun t250 =>
  (ld Try.prog 9 a21 (drew w17) fun v251 => fT v251 fun t252 =>
  S19 (drew w17) ∧ (rqS Try.prog S19 (Instr.sliceAt 9 (.string t252) none (some (.int .i64 x18)) none) fun v253 => fT v253 fun t254 =>
  al 5 #[(.int .u8 x97)] (drew w17) fun a256 w255 =>
  S19 w255 ∧ (rv Try.prog (convert 82 9 (.slice (some a256) 1 1)) w255 fun v257 w258 => fT v257 fun t259 =>
  S19 w258 ∧ (rqS Try.prog S19 (do eqGuard .add 9 (.tmp 34) (.tmp 41) (.string t254) (.string t259); binOp .add 9 (.string t254) (.string t259)) fun v260 => fT v260 fun t261 =>
  rqS Try.prog S19 (do eqGuard .add 9 (.tmp 42) (.tmp 49) (.string t261) (.string t250); binOp .add 9 (.string t261) (.string t250)) fun v262 => fT v262 fun t263 =>
  rqS Try.prog S19 (Instr.indexAt 49 (.slice memory_ memory_n memory_c) (.int .i64 x15)) fun v264 => fA v264 fun a265 =>
  st Try.prog 9 a265 (.string t263) w258 fun w266 =>
  S19 w266 ∧ (next3 (((IntKind.wrap .i64 (s1.1 + 1)) : Int), ()) w266))))) ∧ (al 5 #[(.int .u8 x97)] (drew w17) fun a268 w267 =>
  S19 w267 ∧ ((ld Try.prog 9 a21 w267 fun v269 => fT v269 fun t270 =>
  S19 w267 ∧ (rqS Try.prog S19 (Instr.sliceAt 9 (.string t270) none (some (.int .i64 x18)) none) fun v271 => fT v271 fun t272 =>
  rv Try.prog (convert 82 9 (.slice (some a268) 1 1)) w267 fun v273 w274 => fT v273 fun t275 =>
  S19 w274 ∧ (rqS Try.prog S19 (do eqGuard .add 9 (.tmp 34) (.tmp 41) (.string t272) (.string t275); binOp .add 9 (.string t272) (.string t275)) fun v276 => fT v276 fun t277 =>
  rqS Try.prog S19 (do eqGuard .add 9 (.tmp 42) (.tmp 49) (.string t277) (.string t250); binOp .add 9 (.string t277) (.string t250)) fun v278 => fT v278 fun t279 =>
  rqS Try.prog S19 (Instr.indexAt 49 (.slice memory_ memory_n memory_c) (.int .i64 x15)) fun v280 => fA v280 fun a281 =>
  st Try.prog 9 a281 (.string t279) w274 fun w282 =>
  S19 w282 ∧ (next3 (((IntKind.wrap .i64 (s1.1 + 1)) : Int), ()) w282)))) ∧ (rv Try.prog (convert 82 9 (.slice (some a268) 1 1)) w267 fun v283 w284 => fT v283 fun t285 =>
  S19 w284 ∧ (ld Try.prog 9 a21 w284 fun v286 => fT v286 fun t287 =>
  S19 w284 ∧ (rqS Try.prog S19 (Instr.sliceAt 9 (.string t287) none (some (.int .i64 x18)) none) fun v288 => fT v288 fun t289 =>
  rqS Try.prog S19 (do eqGuard .add 9 (.tmp 34) (.tmp 41) (.string t289) (.string t285); binOp .add 9 (.string t289) (.string t285)) fun v290 => fT v290 fun t291 =>
  rqS Try.prog S19 (do eqGuard .add 9 (.tmp 42) (.tmp 49) (.string t291) (.string t250); binOp .add 9 (.string t291) (.string t250)) fun v292 => fT v292 fun t293 =>
  rqS Try.prog S19 (Instr.indexAt 49 (.slice memory_ memory_n memory_c) (.int .i64 x15)) fun v294 => fA v294 fun a295 =>
  st Try.prog 9 a295 (.string t293) w284 fun w296 =>
  S19 w296 ∧ (next3 (((IntKind.wrap .i64 (s1.1 + 1)) : Int), ()) w296)))))))))) ∧ (ld Try.prog 9 a25 (drew w17) fun v297 => fT v297 fun t298 =>
  S19 (drew w17) ∧ (rqS Try.prog S19 (Instr.sliceAt 9 (.string t298) (some (.int .i64 (IntKind.wrap .i64 (x18 + 1)))) none none) fun v299 => fT v299 fun t300 =>
  (ld Try.prog 9 a21 (drew w17) fun v301 => fT v301 fun t302 =>
  S19 (drew w17) ∧ (rqS Try.prog S19 (Instr.sliceAt 9 (.string t302) none (some (.int .i64 x18)) none) fun v303 => fT v303 fun t304 =>
  ld Try.prog 5 (a23.add 2) (drew w17) fun v305 => fI .u8 v305 fun x306 =>
  S19 (drew w17) ∧ (al 5 #[(.int .u8 x306)] (drew w17) fun a308 w307 =>
  S19 w307 ∧ (rv Try.prog (convert 82 9 (.slice (some a308) 1 1)) w307 fun v309 w310 => fT v309 fun t311 =>
  S19 w310 ∧ (rqS Try.prog S19 (do eqGuard .add 9 (.tmp 34) (.tmp 41) (.string t304) (.string t311); binOp .add 9 (.string t304) (.string t311)) fun v312 => fT v312 fun t313 =>
  rqS Try.prog S19 (do eqGuard .add 9 (.tmp 42) (.tmp 49) (.string t313) (.string t300); binOp .add 9 (.string t313) (.string t300)) fun v314 => fT v314 fun t315 =>
  rqS Try.prog S19 (Instr.indexAt 49 (.slice memory_ memory_n memory_c) (.int .i64 x15)) fun v316 => fA v316 fun a317 =>
  st Try.prog 9 a317 (.string t315) w310 fun w318 =>
  S19 w318 ∧ (next3 (((IntKind.wrap .i64 (s1.1 + 1)) : Int), ()) w318)))))) ∧ (ld Try.prog 5 (a23.add 2) (drew w17) fun v319 => fI .u8 v319 fun x320 =>
  S19 (drew w17) ∧ ((ld Try.prog 9 a21 (drew w17) fun v321 => fT v321 fun t322 =>
  S19 (drew w17) ∧ (rqS Try.prog S19 (Instr.sliceAt 9 (.string t322) none (some (.int .i64 x18)) none) fun v323 => fT v323 fun t324 =>
  al 5 #[(.int .u8 x320)] (drew w17) fun a326 w325 =>
  S19 w325 ∧ (rv Try.prog (convert 82 9 (.slice (some a326) 1 1)) w325 fun v327 w328 => fT v327 fun t329 =>
  S19 w328 ∧ (rqS Try.prog S19 (do eqGuard .add 9 (.tmp 34) (.tmp 41) (.string t324) (.string t329); binOp .add 9 (.string t324) (.string t329)) fun v330 => fT v330 fun t331 =>
  rqS Try.prog S19 (do eqGuard .add 9 (.tmp 42) (.tmp 49) (.string t331) (.string t300); binOp .add 9 (.string t331) (.string t300)) fun v332 => fT v332 fun t333 =>
  rqS Try.prog S19 (Instr.indexAt 49 (.slice memory_ memory_n memory_c) (.int .i64 x15)) fun v334 => fA v334 fun a335 =>
  st Try.prog 9 a335 (.string t333) w328 fun w336 =>
  S19 w336 ∧ (next3 (((IntKind.wrap .i64 (s1.1 + 1)) : Int), ()) w336))))) ∧ (al 5 #[(.int .u8 x320)] (drew w17) fun a338 w337 =>
  S19 w337 ∧ ((ld Try.prog 9 a21 w337 fun v339 => fT v339 fun t340 =>
  S19 w337 ∧ (rqS Try.prog S19 (Instr.sliceAt 9 (.string t340) none (some (.int .i64 x18)) none) fun v341 => fT v341 fun t342 =>
  rv Try.prog (convert 82 9 (.slice (some a338) 1 1)) w337 fun v343 w344 => fT v343 fun t345 =>
  S19 w344 ∧ (rqS Try.prog S19 (do eqGuard .add 9 (.tmp 34) (.tmp 41) (.string t342) (.string t345); binOp .add 9 (.string t342) (.string t345)) fun v346 => fT v346 fun t347 =>
  rqS Try.prog S19 (do eqGuard .add 9 (.tmp 42) (.tmp 49) (.string t347) (.string t300); binOp .add 9 (.string t347) (.string t300)) fun v348 => fT v348 fun t349 =>
  rqS Try.prog S19 (Instr.indexAt 49 (.slice memory_ memory_n memory_c) (.int .i64 x15)) fun v350 => fA v350 fun a351 =>
  st Try.prog 9 a351 (.string t349) w344 fun w352 =>
  S19 w352 ∧ (next3 (((IntKind.wrap .i64 (s1.1 + 1)) : Int), ()) w352)))) ∧ (rv Try.prog (convert 82 9 (.slice (some a338) 1 1)) w337 fun v353 w354 => fT v353 fun t355 =>
  S19 w354 ∧ (ld Try.prog 9 a21 w354 fun v356 => fT v356 fun t357 =>
  S19 w354 ∧ (rqS Try.prog S19 (Instr.sliceAt 9 (.string t357) none (some (.int .i64 x18)) none) fun v358 => fT v358 fun t359 =>
  rqS Try.prog S19 (do eqGuard .add 9 (.tmp 34) (.tmp 41) (.string t359) (.string t355); binOp .add 9 (.string t359) (.string t355)) fun v360 => fT v360 fun t361 =>
  rqS Try.prog S19 (do eqGuard .add 9 (.tmp 42) (.tmp 49) (.string t361) (.string t300); binOp .add 9 (.string t361) (.string t300)) fun v362 => fT v362 fun t363 =>
  rqS Try.prog S19 (Instr.indexAt 49 (.slice memory_ memory_n memory_c) (.int .i64 x15)) fun v364 => fA v364 fun a365 =>
  st Try.prog 9 a365 (.string t363) w354 fun w366 =>
  S19 w366 ∧ (next3 (((IntKind.wrap .i64 (s1.1 + 1)) : Int), ()) w366))))))))))))))) (Q (.tuple #[]) w2)) ((0 : Int), ()) w
theorem E.law35_run (memory_ : Option Addr) (memory_n : Nat) (memory_c : Nat) (l_ : Option Addr) (l_n : Nat) (l_c : Nat) (w : World) (Q : Value → World → Prop) : ev Try.prog Try.f45.ntmps callable [(1, [(4, .int .i64 0)], [0, 1]), (1000004, [], [0])] [] (Try.f45.body.getD .skip) (enumE 0 [(.slice memory_ memory_n memory_c), (.slice l_ l_n l_c)]) w (KQ Try.prog Try.f45.results.toList Q) = W.law35_run memory_ memory_n memory_c l_ l_n l_c w Q := by kernel_rfl
theorem C.law35_run (memory_ : Option Addr) (memory_n : Nat) (memory_c : Nat) (l_ : Option Addr) (l_n : Nat) (l_c : Nat) (w : World) (Q : Value → World → Prop) (h : W.law35_run memory_ memory_n memory_c l_ l_n l_c w Q) : CallE Try.prog 45 #[(.slice memory_ memory_n memory_c), (.slice l_ l_n l_c)] w Q :=
  calls_of_ev mixed callable_ok (args := [(.slice memory_ memory_n memory_c), (.slice l_ l_n l_c)]) Try.func45 rfl ((E.law35_run memory_ memory_n memory_c l_ l_n l_c w Q).symm ▸ h)

def W.blockdev_Disk_CutAfter (d_ : Addr) (writes_ : Int) (keep_ : Option Addr) (keep_n : Nat) (keep_c : Nat) (w : World) (Q : Value → World → Prop) : Prop :=
  br (decide ((writes_ : Int) < 0)) (CallE Try.prog 79 #[(.pointer (some d_))] w fun v1 w2 => v1 = .tuple #[] ∧
  Q (.tuple #[]) w2) (st Try.prog 4 (d_.add 4) (.bool true) w fun w3 =>
  st Try.prog 3 (d_.add 5) (.int .i64 writes_) w3 fun w4 =>
  CallE Try.prog 80 #[(.slice keep_ keep_n keep_c)] w4 fun v5 w6 => fS v5 fun l7 l7n l7c =>
  st Try.prog 78 (d_.add 6) (.slice l7 l7n l7c) w6 fun w8 =>
  Q (.tuple #[]) w8)
theorem E.blockdev_Disk_CutAfter (d_ : Addr) (writes_ : Int) (keep_ : Option Addr) (keep_n : Nat) (keep_c : Nat) (w : World) (Q : Value → World → Prop) : ev Try.prog Try.f46.ntmps callable [] [] (Try.f46.body.getD .skip) (enumE 0 [(.pointer (some d_)), (.int .i64 writes_), (.slice keep_ keep_n keep_c)]) w (KQ Try.prog Try.f46.results.toList Q) = W.blockdev_Disk_CutAfter d_ writes_ keep_ keep_n keep_c w Q := by kernel_rfl
theorem C.blockdev_Disk_CutAfter (d_ : Addr) (writes_ : Int) (keep_ : Option Addr) (keep_n : Nat) (keep_c : Nat) (w : World) (Q : Value → World → Prop) (h : W.blockdev_Disk_CutAfter d_ writes_ keep_ keep_n keep_c w Q) : CallE Try.prog 46 #[(.pointer (some d_)), (.int .i64 writes_), (.slice keep_ keep_n keep_c)] w Q :=
  calls_of_ev mixed callable_ok (args := [(.pointer (some d_)), (.int .i64 writes_), (.slice keep_ keep_n keep_c)]) Try.func46 rfl ((E.blockdev_Disk_CutAfter d_ writes_ keep_ keep_n keep_c w Q).symm ▸ h)

def W.ref32_New (sectors_ : Int) (w : World) (Q : Value → World → Prop) : Prop :=
  br (decide ((sectors_ : Int) < 1)) (Q (.tuple #[(.pointer none), (.int .i64 1)]) w) (br (decide ((sectors_ : Int) > 4096)) (Q (.tuple #[(.pointer none), (.int .i64 1)]) w) (al 142 (#[(.slice none 0 0), (.slice none 0 0), (.bool false), (.int .i64 (-1)), (.slice none 0 0)]) w fun a2 w1 =>
  LoopW (S := Int × Unit) (fun s3 w4 next5 =>
  br (decide ((s3.1 : Int) < sectors_)) (drawE fun S6 => S6 (drew w4) ∧ ((ld Try.prog 49 (a2.add 0) (drew w4) fun v7 => fS v7 fun l8 l8n l8c =>
  S6 (drew w4) ∧ (rv Try.prog (Instr.makeSlice 82 (.int .i64 64) (.int .i64 64)) (drew w4) fun v9 w10 => fS v9 fun l11 l11n l11c =>
  S6 w10 ∧ (rv Try.prog (convert 82 9 (.slice l11 l11n l11c)) w10 fun v12 w13 => fT v12 fun t14 =>
  S6 w13 ∧ (al 9 #[(.string t14)] w13 fun a16 w15 =>
  S6 w15 ∧ (rv Try.prog (Builtin.append_ #[49, 49] 49 #[(.slice l8 l8n l8c), (.slice (some a16) 1 1)]) w15 fun v17 w18 => fS v17 fun l19 l19n l19c =>
  S6 w18 ∧ (st Try.prog 49 (a2.add 0) (.slice l19 l19n l19c) w18 fun w20 =>
  S6 w20 ∧ (next5 (((IntKind.wrap .i64 (s3.1 + 1)) : Int), ()) w20))))))) ∧ (rv Try.prog (Instr.makeSlice 82 (.int .i64 64) (.int .i64 64)) (drew w4) fun v21 w22 => fS v21 fun l23 l23n l23c =>
  S6 w22 ∧ ((ld Try.prog 49 (a2.add 0) w22 fun v24 => fS v24 fun l25 l25n l25c =>
  S6 w22 ∧ (rv Try.prog (convert 82 9 (.slice l23 l23n l23c)) w22 fun v26 w27 => fT v26 fun t28 =>
  S6 w27 ∧ (al 9 #[(.string t28)] w27 fun a30 w29 =>
  S6 w29 ∧ (rv Try.prog (Builtin.append_ #[49, 49] 49 #[(.slice l25 l25n l25c), (.slice (some a30) 1 1)]) w29 fun v31 w32 => fS v31 fun l33 l33n l33c =>
  S6 w32 ∧ (st Try.prog 49 (a2.add 0) (.slice l33 l33n l33c) w32 fun w34 =>
  S6 w34 ∧ (next5 (((IntKind.wrap .i64 (s3.1 + 1)) : Int), ()) w34)))))) ∧ (rv Try.prog (convert 82 9 (.slice l23 l23n l23c)) w22 fun v35 w36 => fT v35 fun t37 =>
  S6 w36 ∧ ((ld Try.prog 49 (a2.add 0) w36 fun v38 => fS v38 fun l39 l39n l39c =>
  S6 w36 ∧ (al 9 #[(.string t37)] w36 fun a41 w40 =>
  S6 w40 ∧ (rv Try.prog (Builtin.append_ #[49, 49] 49 #[(.slice l39 l39n l39c), (.slice (some a41) 1 1)]) w40 fun v42 w43 => fS v42 fun l44 l44n l44c =>
  S6 w43 ∧ (st Try.prog 49 (a2.add 0) (.slice l44 l44n l44c) w43 fun w45 =>
  S6 w45 ∧ (next5 (((IntKind.wrap .i64 (s3.1 + 1)) : Int), ()) w45))))) ∧ (al 9 #[(.string t37)] w36 fun a47 w46 =>
  S6 w46 ∧ (ld Try.prog 49 (a2.add 0) w46 fun v48 => fS v48 fun l49 l49n l49c =>
  S6 w46 ∧ (rv Try.prog (Builtin.append_ #[49, 49] 49 #[(.slice l49 l49n l49c), (.slice (some a47) 1 1)]) w46 fun v50 w51 => fS v50 fun l52 l52n l52c =>
  S6 w51 ∧ (st Try.prog 49 (a2.add 0) (.slice l52 l52n l52c) w51 fun w53 =>
  S6 w53 ∧ (next5 (((IntKind.wrap .i64 (s3.1 + 1)) : Int), ()) w53))))))))))) (Q (.tuple #[(.pointer (some a2)), (.int .i64 0)]) w4)) ((0 : Int), ()) w1))
theorem E.ref32_New (sectors_ : Int) (w : World) (Q : Value → World → Prop) : ev Try.prog Try.f47.ntmps callable [(5, [(5, .int .i64 0)], [0, 4]), (1000007, [], [0])] [] (Try.f47.body.getD .skip) (enumE 0 [(.int .i64 sectors_)]) w (KQ Try.prog Try.f47.results.toList Q) = W.ref32_New sectors_ w Q := by kernel_rfl
theorem C.ref32_New (sectors_ : Int) (w : World) (Q : Value → World → Prop) (h : W.ref32_New sectors_ w Q) : CallE Try.prog 47 #[(.int .i64 sectors_)] w Q :=
  calls_of_ev mixed callable_ok (args := [(.int .i64 sectors_)]) Try.func47 rfl ((E.ref32_New sectors_ w Q).symm ▸ h)

def W.ref35_Save_k15 (p0 : Addr) (p5 : Option Addr) (p5n : Nat) (p5c : Nat) (w : World) (Q : Value → World → Prop) : Prop :=
  CallE Try.prog 84 #[(.pointer (some p0))] w fun v15 w16 => fI .i64 v15 fun x17 =>
  br ((x17 : Int) != 0) (Q (.int .i64 x17) w16) (rq Try.prog (Instr.indexAt 49 (.slice p5 p5n p5c) (.int .i64 0)) w16 fun v18 => fA v18 fun a19 =>
  ld Try.prog 9 a19 w16 fun v20 => fT v20 fun t21 =>
  CallE Try.prog 83 #[(.pointer (some p0)), (.int .i64 0), (.string t21)] w16 fun v22 w23 => fI .i64 v22 fun x24 =>
  br ((x24 : Int) != 0) (Q (.int .i64 x24) w23) (CallE Try.prog 84 #[(.pointer (some p0))] w23 fun v25 w26 => fI .i64 v25 fun x27 =>
  Q (.int .i64 x27) w26))
def W.ref35_Save (d_ : Addr) (i_ : Array Value) (w : World) (Q : Value → World → Prop) : Prop :=
  al 41 i_ w fun a2 w1 =>
  ld Try.prog 41 a2 w1 fun v3 => fG v3 fun g4 =>
  CallE Try.prog 81 #[(.agg g4)] w1 fun v5 w6 => ∃ (l7 : Option Addr) (l7n : Nat) (l7c : Nat) (x8 : Int), v5 = .tuple #[(.slice l7 l7n l7c), (.int .i64 x8)] ∧
  br ((x8 : Int) != 0) (Q (.int .i64 x8) w6) (CallE Try.prog 82 #[(.pointer (some d_))] w6 fun v9 w10 => fI .i64 v9 fun x11 =>
  br (decide ((((l7n : Nat) : Int) : Int) > x11)) (Q (.int .i64 8) w10) (CallE Try.prog 51 #[(.pointer (some d_))] w10 fun v12 w13 => fI .i64 v12 fun x14 =>
  br ((x14 : Int) != 0) (Q (.int .i64 x14) w13) (LoopW (S := Int × Unit) (fun s28 w29 next30 =>
  br (decide ((s28.1 : Int) < ((l7n : Nat) : Int))) (rq Try.prog (Instr.indexAt 49 (.slice l7 l7n l7c) (.int .i64 s28.1)) w29 fun v31 => fA v31 fun a32 =>
  ld Try.prog 9 a32 w29 fun v33 => fT v33 fun t34 =>
  CallE Try.prog 83 #[(.pointer (some d_)), (.int .i64 s28.1), (.string t34)] w29 fun v35 w36 => fI .i64 v35 fun x37 =>
  br ((x37 : Int) != 0) (Q (.int .i64 x37) w36) (next30 (((IntKind.wrap .i64 (s28.1 + 1)) : Int), ()) w36)) (W.ref35_Save_k15 d_ l7 l7n l7c w29 Q)) ((1 : Int), ()) w13)))
theorem E.ref35_Save (d_ : Addr) (i_ : Array Value) (w : World) (Q : Value → World → Prop) : ev Try.prog Try.f48.ntmps callable [(10, [(8, .int .i64 0)], [0, 5])] [] (Try.f48.body.getD .skip) (enumE 0 [(.pointer (some d_)), (.agg i_)]) w (KQ Try.prog Try.f48.results.toList Q) = W.ref35_Save d_ i_ w Q := by kernel_rfl
theorem C.ref35_Save (d_ : Addr) (i_ : Array Value) (w : World) (Q : Value → World → Prop) (h : W.ref35_Save d_ i_ w Q) : CallE Try.prog 48 #[(.pointer (some d_)), (.agg i_)] w Q :=
  calls_of_ev mixed callable_ok (args := [(.pointer (some d_)), (.agg i_)]) Try.func48 rfl ((E.ref35_Save d_ i_ w Q).symm ▸ h)

def W.ref35_Load_k9 (p0 : Addr) (p3 : Addr) (p4 : Addr) (p6 : Option Addr) (p6n : Nat) (p6c : Nat) (w : World) (Q : Value → World → Prop) : Prop :=
  rq Try.prog (Instr.indexAt 49 (.slice p6 p6n p6c) (.int .i64 0)) w fun v5 => fA v5 fun a6 =>
  ld Try.prog 9 a6 w fun v7 => fT v7 fun t8 =>
  CallE Try.prog 86 #[(.string t8)] w fun v9 w10 => ∃ (g11 : Array Value) (x12 : Int), v9 = .tuple #[(.agg g11), (.int .i64 x12)] ∧
  al 121 (zeroT Try.prog 121).cells w10 fun a14 w13 =>
  st Try.prog 121 a14 (.agg g11) w13 fun w15 =>
  br ((x12 : Int) != 0) (st Try.prog 41 p4 (.agg #[(.int .u8 0), (.int .u8 0), (.int .u8 0), (.int .u8 0), (.int .u8 0), (.int .u8 0), (.int .u8 0), (.int .u8 0), (.int .u8 0), (.int .u8 0), (.int .u8 0), (.int .u8 0), (.int .u8 0), (.int .u8 0), (.int .u8 0), (.int .u8 0), (.int .u8 0), (.int .u8 0), (.int .u8 0), (.int .u8 0), (.int .u8 0), (.int .u8 0), (.int .u8 0), (.int .u8 0), (.int .u8 0), (.int .u8 0), (.int .u8 0), (.int .u8 0), (.int .u8 0), (.int .u8 0), (.int .u8 0), (.int .u8 0), (.int .u64 0), (.slice none 0 0)]) w15 fun w16 =>
  ld Try.prog 41 p4 w16 fun v17 => fG v17 fun g18 =>
  Q (.tuple #[(.agg g18), (.int .i64 6)]) w16) (CallE Try.prog 87 #[(.slice p6 p6n p6c)] w15 fun v19 w20 => ∃ (g21 : Array Value) (x22 : Int), v19 = .tuple #[(.agg g21), (.int .i64 x22)] ∧
  al 41 (zeroT Try.prog 41).cells w20 fun a24 w23 =>
  st Try.prog 41 a24 (.agg g21) w23 fun w25 =>
  br ((x22 : Int) != 0) (st Try.prog 41 p4 (.agg #[(.int .u8 0), (.int .u8 0), (.int .u8 0), (.int .u8 0), (.int .u8 0), (.int .u8 0), (.int .u8 0), (.int .u8 0), (.int .u8 0), (.int .u8 0), (.int .u8 0), (.int .u8 0), (.int .u8 0), (.int .u8 0), (.int .u8 0), (.int .u8 0), (.int .u8 0), (.int .u8 0), (.int .u8 0), (.int .u8 0), (.int .u8 0), (.int .u8 0), (.int .u8 0), (.int .u8 0), (.int .u8 0), (.int .u8 0), (.int .u8 0), (.int .u8 0), (.int .u8 0), (.int .u8 0), (.int .u8 0), (.int .u8 0), (.int .u64 0), (.slice none 0 0)]) w25 fun w26 =>
  ld Try.prog 41 p4 w26 fun v27 => fG v27 fun g28 =>
  Q (.tuple #[(.agg g28), (.int .i64 x22)]) w26) (ld Try.prog 31 (a24.add 0) w25 fun v29 => fG v29 fun g30 =>
  ld Try.prog 31 p3 w25 fun v31 => fG v31 fun g32 =>
  rq Try.prog (do eqGuard .neq 31 (.tmp 55) (.tmp 56) (.agg g30) (.agg g32); binOp .neq 31 (.agg g30) (.agg g32)) w25 fun v33 => fB v33 fun b34 =>
  br b34 (st Try.prog 41 p4 (.agg #[(.int .u8 0), (.int .u8 0), (.int .u8 0), (.int .u8 0), (.int .u8 0), (.int .u8 0), (.int .u8 0), (.int .u8 0), (.int .u8 0), (.int .u8 0), (.int .u8 0), (.int .u8 0), (.int .u8 0), (.int .u8 0), (.int .u8 0), (.int .u8 0), (.int .u8 0), (.int .u8 0), (.int .u8 0), (.int .u8 0), (.int .u8 0), (.int .u8 0), (.int .u8 0), (.int .u8 0), (.int .u8 0), (.int .u8 0), (.int .u8 0), (.int .u8 0), (.int .u8 0), (.int .u8 0), (.int .u8 0), (.int .u8 0), (.int .u64 0), (.slice none 0 0)]) w25 fun w35 =>
  ld Try.prog 41 p4 w35 fun v36 => fG v36 fun g37 =>
  Q (.tuple #[(.agg g37), (.int .i64 21)]) w35) (CallE Try.prog 51 #[(.pointer (some p0))] w25 fun v38 w39 => fI .i64 v38 fun x40 =>
  br ((x40 : Int) != 0) (st Try.prog 41 p4 (.agg #[(.int .u8 0), (.int .u8 0), (.int .u8 0), (.int .u8 0), (.int .u8 0), (.int .u8 0), (.int .u8 0), (.int .u8 0), (.int .u8 0), (.int .u8 0), (.int .u8 0), (.int .u8 0), (.int .u8 0), (.int .u8 0), (.int .u8 0), (.int .u8 0), (.int .u8 0), (.int .u8 0), (.int .u8 0), (.int .u8 0), (.int .u8 0), (.int .u8 0), (.int .u8 0), (.int .u8 0), (.int .u8 0), (.int .u8 0), (.int .u8 0), (.int .u8 0), (.int .u8 0), (.int .u8 0), (.int .u8 0), (.int .u8 0), (.int .u64 0), (.slice none 0 0)]) w39 fun w41 =>
  ld Try.prog 41 p4 w41 fun v42 => fG v42 fun g43 =>
  Q (.tuple #[(.agg g43), (.int .i64 x40)]) w41) (ld Try.prog 41 a24 w39 fun v44 => fG v44 fun g45 =>
  st Try.prog 41 p4 (.agg g45) w39 fun w46 =>
  ld Try.prog 41 p4 w46 fun v47 => fG v47 fun g48 =>
  Q (.tuple #[(.agg g48), (.int .i64 0)]) w46))))
def W.ref35_Load (d_ : Addr) (board_ : Array Value) (w : World) (Q : Value → World → Prop) : Prop :=
  al 31 board_ w fun a2 w1 =>
  al 41 (zeroT Try.prog 41).cells w1 fun a4 w3 =>
  LoopW (S := (Option Addr × Nat × Nat) × Int × Unit) (fun s49 w50 next51 =>
  CallE Try.prog 82 #[(.pointer (some d_))] w50 fun v52 w53 => fI .i64 v52 fun x54 =>
  br (decide ((s49.2.1 : Int) < x54)) (CallE Try.prog 85 #[(.pointer (some d_)), (.int .i64 s49.2.1)] w53 fun v55 w56 => ∃ (t57 : ByteArray) (x58 : Int), v55 = .tuple #[(.string t57), (.int .i64 x58)] ∧
  br ((x58 : Int) != 0) (st Try.prog 41 a4 (.agg #[(.int .u8 0), (.int .u8 0), (.int .u8 0), (.int .u8 0), (.int .u8 0), (.int .u8 0), (.int .u8 0), (.int .u8 0), (.int .u8 0), (.int .u8 0), (.int .u8 0), (.int .u8 0), (.int .u8 0), (.int .u8 0), (.int .u8 0), (.int .u8 0), (.int .u8 0), (.int .u8 0), (.int .u8 0), (.int .u8 0), (.int .u8 0), (.int .u8 0), (.int .u8 0), (.int .u8 0), (.int .u8 0), (.int .u8 0), (.int .u8 0), (.int .u8 0), (.int .u8 0), (.int .u8 0), (.int .u8 0), (.int .u8 0), (.int .u64 0), (.slice none 0 0)]) w56 fun w59 =>
  ld Try.prog 41 a4 w59 fun v60 => fG v60 fun g61 =>
  Q (.tuple #[(.agg g61), (.int .i64 x58)]) w59) (al 9 #[(.string t57)] w56 fun a63 w62 =>
  rv Try.prog (Builtin.append_ #[49, 49] 49 #[(.slice s49.1.1 s49.1.2.1 s49.1.2.2), (.slice (some a63) 1 1)]) w62 fun v64 w65 => fS v64 fun l66 l66n l66c =>
  next51 ((l66, l66n, l66c), ((IntKind.wrap .i64 (s49.2.1 + 1)) : Int), ()) w65)) (W.ref35_Load_k9 d_ a2 a4 s49.1.1 s49.1.2.1 s49.1.2.2 w53 Q)) ((none, 0, 0), (0 : Int), ()) w3
theorem E.ref35_Load (d_ : Addr) (board_ : Array Value) (w : World) (Q : Value → World → Prop) : ev Try.prog Try.f49.ntmps callable [(3, [(6, .slice none 0 0), (7, .int .i64 0)], [0, 3, 4])] [] (Try.f49.body.getD .skip) (enumE 0 [(.pointer (some d_)), (.agg board_)]) w (KQ Try.prog Try.f49.results.toList Q) = W.ref35_Load d_ board_ w Q := by kernel_rfl
theorem C.ref35_Load (d_ : Addr) (board_ : Array Value) (w : World) (Q : Value → World → Prop) (h : W.ref35_Load d_ board_ w Q) : CallE Try.prog 49 #[(.pointer (some d_)), (.agg board_)] w Q :=
  calls_of_ev mixed callable_ok (args := [(.pointer (some d_)), (.agg board_)]) Try.func49 rfl ((E.ref35_Load d_ board_ w Q).symm ▸ h)

def W.hibernate_Discard (d_ : Addr) (w : World) (Q : Value → World → Prop) : Prop :=
  CallE Try.prog 61 #[(.string ⟨#[0]⟩), (.int .i64 64)] w fun v1 w2 => fT v1 fun t3 =>
  CallE Try.prog 64 #[(.pointer (some d_)), (.int .i64 0), (.string t3)] w2 fun v4 w5 => fI .i64 v4 fun x6 =>
  br ((x6 : Int) != 0) (Q (.int .i64 x6) w5) (CallE Try.prog 65 #[(.pointer (some d_))] w5 fun v7 w8 => fI .i64 v7 fun x9 =>
  Q (.int .i64 x9) w8)
theorem E.hibernate_Discard (d_ : Addr) (w : World) (Q : Value → World → Prop) : ev Try.prog Try.f50.ntmps callable [] [] (Try.f50.body.getD .skip) (enumE 0 [(.pointer (some d_))]) w (KQ Try.prog Try.f50.results.toList Q) = W.hibernate_Discard d_ w Q := by kernel_rfl
theorem C.hibernate_Discard (d_ : Addr) (w : World) (Q : Value → World → Prop) (h : W.hibernate_Discard d_ w Q) : CallE Try.prog 50 #[(.pointer (some d_))] w Q :=
  calls_of_ev mixed callable_ok (args := [(.pointer (some d_))]) Try.func50 rfl ((E.hibernate_Discard d_ w Q).symm ▸ h)

def W.ref35_Discard (d_ : Addr) (w : World) (Q : Value → World → Prop) : Prop :=
  rv Try.prog (Instr.makeSlice 82 (.int .i64 64) (.int .i64 64)) w fun v1 w2 => fS v1 fun l3 l3n l3c =>
  rv Try.prog (convert 82 9 (.slice l3 l3n l3c)) w2 fun v4 w5 => fT v4 fun t6 =>
  CallE Try.prog 83 #[(.pointer (some d_)), (.int .i64 0), (.string t6)] w5 fun v7 w8 => fI .i64 v7 fun x9 =>
  br ((x9 : Int) != 0) (Q (.int .i64 x9) w8) (CallE Try.prog 84 #[(.pointer (some d_))] w8 fun v10 w11 => fI .i64 v10 fun x12 =>
  Q (.int .i64 x12) w11)
theorem E.ref35_Discard (d_ : Addr) (w : World) (Q : Value → World → Prop) : ev Try.prog Try.f51.ntmps callable [] [] (Try.f51.body.getD .skip) (enumE 0 [(.pointer (some d_))]) w (KQ Try.prog Try.f51.results.toList Q) = W.ref35_Discard d_ w Q := by kernel_rfl
theorem C.ref35_Discard (d_ : Addr) (w : World) (Q : Value → World → Prop) (h : W.ref35_Discard d_ w Q) : CallE Try.prog 51 #[(.pointer (some d_))] w Q :=
  calls_of_ev mixed callable_ok (args := [(.pointer (some d_))]) Try.func51 rfl ((E.ref35_Discard d_ w Q).symm ▸ h)

def W.ref32_Disk_CutAfter (d_ : Addr) (writes_ : Int) (keep_ : Option Addr) (keep_n : Nat) (keep_c : Nat) (w : World) (Q : Value → World → Prop) : Prop :=
  al 4 #[] w fun a2 w1 =>
  rv Try.prog (Builtin.append_ #[78, 78] 78 #[(.slice (some a2) 0 0), (.slice keep_ keep_n keep_c)]) w1 fun v3 w4 => fS v3 fun l5 l5n l5c =>
  st Try.prog 3 (d_.add 3) (.int .i64 (if (-1) > writes_ then (-1) else writes_)) w4 fun w6 =>
  st Try.prog 78 (d_.add 4) (.slice l5 l5n l5c) w6 fun w7 =>
  Q (.tuple #[]) w7
theorem E.ref32_Disk_CutAfter (d_ : Addr) (writes_ : Int) (keep_ : Option Addr) (keep_n : Nat) (keep_c : Nat) (w : World) (Q : Value → World → Prop) : ev Try.prog Try.f52.ntmps callable [] [] (Try.f52.body.getD .skip) (enumE 0 [(.pointer (some d_)), (.int .i64 writes_), (.slice keep_ keep_n keep_c)]) w (KQ Try.prog Try.f52.results.toList Q) = W.ref32_Disk_CutAfter d_ writes_ keep_ keep_n keep_c w Q := by kernel_rfl
theorem C.ref32_Disk_CutAfter (d_ : Addr) (writes_ : Int) (keep_ : Option Addr) (keep_n : Nat) (keep_c : Nat) (w : World) (Q : Value → World → Prop) (h : W.ref32_Disk_CutAfter d_ writes_ keep_ keep_n keep_c w Q) : CallE Try.prog 52 #[(.pointer (some d_)), (.int .i64 writes_), (.slice keep_ keep_n keep_c)] w Q :=
  calls_of_ev mixed callable_ok (args := [(.pointer (some d_)), (.int .i64 writes_), (.slice keep_ keep_n keep_c)]) Try.func52 rfl ((E.ref32_Disk_CutAfter d_ writes_ keep_ keep_n keep_c w Q).symm ▸ h)

def W.ref32_Disk_PowerOff (d_ : Addr) (keep_ : Option Addr) (keep_n : Nat) (keep_c : Nat) (w : World) (Q : Value → World → Prop) : Prop :=
  ld Try.prog 4 (d_.add 2) w fun v1 => fB v1 fun b2 =>
  br b2 (Q (.int .i64 9) w) (CallE Try.prog 88 #[(.pointer (some d_)), (.slice keep_ keep_n keep_c)] w fun v3 w4 => v3 = .tuple #[] ∧
  Q (.int .i64 0) w4)
theorem E.ref32_Disk_PowerOff (d_ : Addr) (keep_ : Option Addr) (keep_n : Nat) (keep_c : Nat) (w : World) (Q : Value → World → Prop) : ev Try.prog Try.f53.ntmps callable [] [] (Try.f53.body.getD .skip) (enumE 0 [(.pointer (some d_)), (.slice keep_ keep_n keep_c)]) w (KQ Try.prog Try.f53.results.toList Q) = W.ref32_Disk_PowerOff d_ keep_ keep_n keep_c w Q := by kernel_rfl
theorem C.ref32_Disk_PowerOff (d_ : Addr) (keep_ : Option Addr) (keep_n : Nat) (keep_c : Nat) (w : World) (Q : Value → World → Prop) (h : W.ref32_Disk_PowerOff d_ keep_ keep_n keep_c w Q) : CallE Try.prog 53 #[(.pointer (some d_)), (.slice keep_ keep_n keep_c)] w Q :=
  calls_of_ev mixed callable_ok (args := [(.pointer (some d_)), (.slice keep_ keep_n keep_c)]) Try.func53 rfl ((E.ref32_Disk_PowerOff d_ keep_ keep_n keep_c w Q).symm ▸ h)

def W.ref32_Disk_PowerOn (d_ : Addr) (w : World) (Q : Value → World → Prop) : Prop :=
  ld Try.prog 4 (d_.add 2) w fun v1 => fB v1 fun b2 =>
  br (!b2) (Q (.int .i64 9) w) (st Try.prog 4 (d_.add 2) (.bool false) w fun w3 =>
  Q (.int .i64 0) w3)
theorem E.ref32_Disk_PowerOn (d_ : Addr) (w : World) (Q : Value → World → Prop) : ev Try.prog Try.f54.ntmps callable [] [] (Try.f54.body.getD .skip) (enumE 0 [(.pointer (some d_))]) w (KQ Try.prog Try.f54.results.toList Q) = W.ref32_Disk_PowerOn d_ w Q := by kernel_rfl
theorem C.ref32_Disk_PowerOn (d_ : Addr) (w : World) (Q : Value → World → Prop) (h : W.ref32_Disk_PowerOn d_ w Q) : CallE Try.prog 54 #[(.pointer (some d_))] w Q :=
  calls_of_ev mixed callable_ok (args := [(.pointer (some d_))]) Try.func54 rfl ((E.ref32_Disk_PowerOn d_ w Q).symm ▸ h)

def W.ref32_Disk_Contents (d_ : Addr) (w : World) (Q : Value → World → Prop) : Prop :=
  al 9 #[] w fun a2 w1 =>
  ld Try.prog 49 (d_.add 0) w1 fun v3 => fS v3 fun l4 l4n l4c =>
  rv Try.prog (Builtin.append_ #[49, 49] 49 #[(.slice (some a2) 0 0), (.slice l4 l4n l4c)]) w1 fun v5 w6 => fS v5 fun l7 l7n l7c =>
  Q (.slice l7 l7n l7c) w6
theorem E.ref32_Disk_Contents (d_ : Addr) (w : World) (Q : Value → World → Prop) : ev Try.prog Try.f55.ntmps callable [] [] (Try.f55.body.getD .skip) (enumE 0 [(.pointer (some d_))]) w (KQ Try.prog Try.f55.results.toList Q) = W.ref32_Disk_Contents d_ w Q := by kernel_rfl
theorem C.ref32_Disk_Contents (d_ : Addr) (w : World) (Q : Value → World → Prop) (h : W.ref32_Disk_Contents d_ w Q) : CallE Try.prog 55 #[(.pointer (some d_))] w Q :=
  calls_of_ev mixed callable_ok (args := [(.pointer (some d_))]) Try.func55 rfl ((E.ref32_Disk_Contents d_ w Q).symm ▸ h)

def W.wakeup_New (n_ : Int) (w : World) (Q : Value → World → Prop) : Prop :=
  br (decide ((n_ : Int) < 0)) (Q (.tuple #[(.pointer none), (.int .i64 1)]) w) (br (decide ((n_ : Int) > 32)) (Q (.tuple #[(.pointer none), (.int .i64 1)]) w) (al 147 (#[(.bool false), (.bool false), (.int .u64 0), (.bool false), (.bool false), (.int .u64 0), (.bool false), (.bool false), (.int .u64 0), (.bool false), (.bool false), (.int .u64 0), (.bool false), (.bool false), (.int .u64 0), (.bool false), (.bool false), (.int .u64 0), (.bool false), (.bool false), (.int .u64 0), (.bool false), (.bool false), (.int .u64 0), (.bool false), (.bool false), (.int .u64 0), (.bool false), (.bool false), (.int .u64 0), (.bool false), (.bool false), (.int .u64 0), (.bool false), (.bool false), (.int .u64 0), (.bool false), (.bool false), (.int .u64 0), (.bool false), (.bool false), (.int .u64 0), (.bool false), (.bool false), (.int .u64 0), (.bool false), (.bool false), (.int .u64 0), (.bool false), (.bool false), (.int .u64 0), (.bool false), (.bool false), (.int .u64 0), (.bool false), (.bool false), (.int .u64 0), (.bool false), (.bool false), (.int .u64 0), (.bool false), (.bool false), (.int .u64 0), (.bool false), (.bool false), (.int .u64 0), (.bool false), (.bool false), (.int .u64 0), (.bool false), (.bool false), (.int .u64 0), (.bool false), (.bool false), (.int .u64 0), (.bool false), (.bool false), (.int .u64 0), (.bool false), (.bool false), (.int .u64 0), (.bool false), (.bool false), (.int .u64 0), (.bool false), (.bool false), (.int .u64 0), (.bool false), (.bool false), (.int .u64 0), (.bool false), (.bool false), (.int .u64 0), (.bool false), (.bool false), (.int .u64 0), (.int .i64 n_), (.bool false), (.int .u64 0), (.int .i64 0), (.bool false), (.int .i64 0), (.int .u64 0)]) w fun a2 w1 =>
  Q (.tuple #[(.pointer (some a2)), (.int .i64 0)]) w1))
theorem E.wakeup_New (n_ : Int) (w : World) (Q : Value → World → Prop) : ev Try.prog Try.f56.ntmps callable [] [] (Try.f56.body.getD .skip) (enumE 0 [(.int .i64 n_)]) w (KQ Try.prog Try.f56.results.toList Q) = W.wakeup_New n_ w Q := by kernel_rfl
theorem C.wakeup_New (n_ : Int) (w : World) (Q : Value → World → Prop) (h : W.wakeup_New n_ w Q) : CallE Try.prog 56 #[(.int .i64 n_)] w Q :=
  calls_of_ev mixed callable_ok (args := [(.int .i64 n_)]) Try.func56 rfl ((E.wakeup_New n_ w Q).symm ▸ h)

def W.wakeup_Sources_Arm (s_ : Addr) (events_ : Int) (now_ : Int) (w : World) (Q : Value → World → Prop) : Prop :=
  CallE Try.prog 89 #[(.pointer (some s_)), (.int .u64 now_)] w fun v1 w2 => fB v1 fun b3 =>
  br (!b3) (Q (.int .i64 1) w2) (ld Try.prog 147 s_ w2 fun v4 => fG v4 fun g5 =>
  al 147 (zeroT Try.prog 147).cells w2 fun a7 w6 =>
  st Try.prog 147 a7 (.agg g5) w6 fun w8 =>
  CallE Try.prog 90 #[(.pointer (some a7)), (.int .u64 now_)] w8 fun v9 w10 => v9 = .tuple #[] ∧
  CallE Try.prog 91 #[(.pointer (some a7))] w10 fun v11 w12 => ∃ (x13 : Int) (x14 : Int), v11 = .tuple #[(.int .i64 x13), (.int .i64 x14)] ∧
  br ((x13 : Int) != events_) (Q (.int .i64 17) w12) (br (decide ((x14 : Int) > 0)) (Q (.int .i64 17) w12) (st Try.prog 4 (a7.add 100) (.bool true) w12 fun w15 =>
  st Try.prog 3 (a7.add 101) (.int .i64 events_) w15 fun w16 =>
  ld Try.prog 147 a7 w16 fun v17 => fG v17 fun g18 =>
  st Try.prog 147 s_ (.agg g18) w16 fun w19 =>
  Q (.int .i64 0) w19)))
theorem E.wakeup_Sources_Arm (s_ : Addr) (events_ : Int) (now_ : Int) (w : World) (Q : Value → World → Prop) : ev Try.prog Try.f57.ntmps callable [] [] (Try.f57.body.getD .skip) (enumE 0 [(.pointer (some s_)), (.int .i64 events_), (.int .u64 now_)]) w (KQ Try.prog Try.f57.results.toList Q) = W.wakeup_Sources_Arm s_ events_ now_ w Q := by kernel_rfl
theorem C.wakeup_Sources_Arm (s_ : Addr) (events_ : Int) (now_ : Int) (w : World) (Q : Value → World → Prop) (h : W.wakeup_Sources_Arm s_ events_ now_ w Q) : CallE Try.prog 57 #[(.pointer (some s_)), (.int .i64 events_), (.int .u64 now_)] w Q :=
  calls_of_ev mixed callable_ok (args := [(.pointer (some s_)), (.int .i64 events_), (.int .u64 now_)]) Try.func57 rfl ((E.wakeup_Sources_Arm s_ events_ now_ w Q).symm ▸ h)

def W.wakeup_Sources_Activate (s_ : Addr) (source_ : Int) (now_ : Int) (w : World) (Q : Value → World → Prop) : Prop :=
  CallE Try.prog 92 #[(.pointer (some s_)), (.int .i64 source_)] w fun v1 w2 => fB v1 fun b3 =>
  br (!b3) (Q (.int .i64 1) w2) (CallE Try.prog 89 #[(.pointer (some s_)), (.int .u64 now_)] w2 fun v4 w5 => fB v4 fun b6 =>
  br (!b6) (Q (.int .i64 1) w5) (CallE Try.prog 90 #[(.pointer (some s_)), (.int .u64 now_)] w5 fun v7 w8 => v7 = .tuple #[] ∧
  rq Try.prog (Instr.indexAt 145 (.pointer (some (s_.add 0))) (.int .i64 source_)) w8 fun v9 => fA v9 fun a10 =>
  st Try.prog 4 (a10.add 0) (.bool true) w8 fun w11 =>
  CallE Try.prog 93 #[(.pointer (some s_)), (.int .i64 source_)] w11 fun v12 w13 => v12 = .tuple #[] ∧
  Q (.int .i64 0) w13))
theorem E.wakeup_Sources_Activate (s_ : Addr) (source_ : Int) (now_ : Int) (w : World) (Q : Value → World → Prop) : ev Try.prog Try.f58.ntmps callable [] [] (Try.f58.body.getD .skip) (enumE 0 [(.pointer (some s_)), (.int .i64 source_), (.int .u64 now_)]) w (KQ Try.prog Try.f58.results.toList Q) = W.wakeup_Sources_Activate s_ source_ now_ w Q := by kernel_rfl
theorem C.wakeup_Sources_Activate (s_ : Addr) (source_ : Int) (now_ : Int) (w : World) (Q : Value → World → Prop) (h : W.wakeup_Sources_Activate s_ source_ now_ w Q) : CallE Try.prog 58 #[(.pointer (some s_)), (.int .i64 source_), (.int .u64 now_)] w Q :=
  calls_of_ev mixed callable_ok (args := [(.pointer (some s_)), (.int .i64 source_), (.int .u64 now_)]) Try.func58 rfl ((E.wakeup_Sources_Activate s_ source_ now_ w Q).symm ▸ h)

def W.law35_none (f_ : Addr) (n_ : Int) (w : World) (Q : Value → World → Prop) : Prop :=
  LoopW (S := Int × Unit) (fun s1 w2 next3 =>
  br (decide ((s1.1 : Int) < n_)) (CallE Try.prog 40 #[(.pointer (some f_)), (.int .i64 s1.1)] w2 fun v4 w5 => fB v4 fun b6 =>
  br b6 (Q (.bool false) w5) (next3 (((IntKind.wrap .i64 (s1.1 + 1)) : Int), ()) w5)) (Q (.bool true) w2)) ((0 : Int), ()) w
theorem E.law35_none (f_ : Addr) (n_ : Int) (w : World) (Q : Value → World → Prop) : ev Try.prog Try.f59.ntmps callable [(2, [(5, .int .i64 0)], [0, 1])] [] (Try.f59.body.getD .skip) (enumE 0 [(.pointer (some f_)), (.int .i64 n_)]) w (KQ Try.prog Try.f59.results.toList Q) = W.law35_none f_ n_ w Q := by kernel_rfl
theorem C.law35_none (f_ : Addr) (n_ : Int) (w : World) (Q : Value → World → Prop) (h : W.law35_none f_ n_ w Q) : CallE Try.prog 59 #[(.pointer (some f_)), (.int .i64 n_)] w Q :=
  calls_of_ev mixed callable_ok (args := [(.pointer (some f_)), (.int .i64 n_)]) Try.func59 rfl ((E.law35_none f_ n_ w Q).symm ▸ h)

def W.wakeup_Sources_MustAbort (s_ : Addr) (w : World) (Q : Value → World → Prop) : Prop :=
  CallE Try.prog 91 #[(.pointer (some s_))] w fun v1 w2 => ∃ (x3 : Int) (x4 : Int), v1 = .tuple #[(.int .i64 x3), (.int .i64 x4)] ∧
  ld Try.prog 4 (s_.add 100) w2 fun v5 => fB v5 fun b6 =>
  br b6 (ld Try.prog 3 (s_.add 101) w2 fun v7 => fI .i64 v7 fun x8 =>
  br ((x3 : Int) != x8) (Q (.bool true) w2) (Q (.bool (decide ((x4 : Int) > 0))) w2)) (Q (.bool false) w2)
theorem E.wakeup_Sources_MustAbort (s_ : Addr) (w : World) (Q : Value → World → Prop) : ev Try.prog Try.f60.ntmps callable [] [] (Try.f60.body.getD .skip) (enumE 0 [(.pointer (some s_))]) w (KQ Try.prog Try.f60.results.toList Q) = W.wakeup_Sources_MustAbort s_ w Q := by kernel_rfl
theorem C.wakeup_Sources_MustAbort (s_ : Addr) (w : World) (Q : Value → World → Prop) (h : W.wakeup_Sources_MustAbort s_ w Q) : CallE Try.prog 60 #[(.pointer (some s_))] w Q :=
  calls_of_ev mixed callable_ok (args := [(.pointer (some s_))]) Try.func60 rfl ((E.wakeup_Sources_MustAbort s_ w Q).symm ▸ h)

def W.slices_Clone___string_string_ (s_ : Option Addr) (s_n : Nat) (s_c : Nat) (w : World) (Q : Value → World → Prop) : Prop :=
  rq Try.prog (do eqGuard .eql 49 (.tmp 3) (.const (.slice none 0 0)) (.slice s_ s_n s_c) (.slice none 0 0); binOp .eql 49 (.slice s_ s_n s_c) (.slice none 0 0)) w fun v1 => fB v1 fun b2 =>
  br b2 (Q (.slice none 0 0) w) (al 9 #[] w fun a4 w3 =>
  rv Try.prog (Builtin.append_ #[49, 49] 49 #[(.slice (some a4) 0 0), (.slice s_ s_n s_c)]) w3 fun v5 w6 => fS v5 fun l7 l7n l7c =>
  Q (.slice l7 l7n l7c) w6)
theorem E.slices_Clone___string_string_ (s_ : Option Addr) (s_n : Nat) (s_c : Nat) (w : World) (Q : Value → World → Prop) : ev Try.prog Try.f62.ntmps callable [] [] (Try.f62.body.getD .skip) (enumE 0 [(.slice s_ s_n s_c)]) w (KQ Try.prog Try.f62.results.toList Q) = W.slices_Clone___string_string_ s_ s_n s_c w Q := by kernel_rfl
theorem C.slices_Clone___string_string_ (s_ : Option Addr) (s_n : Nat) (s_c : Nat) (w : World) (Q : Value → World → Prop) (h : W.slices_Clone___string_string_ s_ s_n s_c w Q) : CallE Try.prog 62 #[(.slice s_ s_n s_c)] w Q :=
  calls_of_ev mixed callable_ok (args := [(.slice s_ s_n s_c)]) Try.func62 rfl ((E.slices_Clone___string_string_ s_ s_n s_c w Q).symm ▸ h)

def W.blockdev_Disk_Size (d_ : Addr) (w : World) (Q : Value → World → Prop) : Prop :=
  ld Try.prog 49 (d_.add 0) w fun v1 => fS v1 fun l2 l2n l2c =>
  Q (.int .i64 ((l2n : Nat) : Int)) w
theorem E.blockdev_Disk_Size (d_ : Addr) (w : World) (Q : Value → World → Prop) : ev Try.prog Try.f63.ntmps callable [] [] (Try.f63.body.getD .skip) (enumE 0 [(.pointer (some d_))]) w (KQ Try.prog Try.f63.results.toList Q) = W.blockdev_Disk_Size d_ w Q := by kernel_rfl
theorem C.blockdev_Disk_Size (d_ : Addr) (w : World) (Q : Value → World → Prop) (h : W.blockdev_Disk_Size d_ w Q) : CallE Try.prog 63 #[(.pointer (some d_))] w Q :=
  calls_of_ev mixed callable_ok (args := [(.pointer (some d_))]) Try.func63 rfl ((E.blockdev_Disk_Size d_ w Q).symm ▸ h)

def W.blockdev_Disk_Write_k10 (p0 : Addr) (p1 : Int) (p2 : ByteArray) (w : World) (Q : Value → World → Prop) : Prop :=
  ld Try.prog 112 (p0.add 2) w fun v6 => fS v6 fun l7 l7n l7c =>
  al 164 #[(.int .i64 p1), (.string p2)] w fun a9 w8 =>
  rv Try.prog (Builtin.append_ #[112, 112] 112 #[(.slice l7 l7n l7c), (.slice (some a9) 1 1)]) w8 fun v10 w11 => fS v10 fun l12 l12n l12c =>
  st Try.prog 112 (p0.add 2) (.slice l12 l12n l12c) w11 fun w13 =>
  ld Try.prog 49 (p0.add 1) w13 fun v14 => fS v14 fun l15 l15n l15c =>
  rq Try.prog (Instr.indexAt 49 (.slice l15 l15n l15c) (.int .i64 p1)) w13 fun v16 => fA v16 fun a17 =>
  st Try.prog 9 a17 (.string p2) w13 fun w18 =>
  Q (.int .i64 0) w18
def W.blockdev_Disk_Write (d_ : Addr) (sector_ : Int) (data_ : ByteArray) (w : World) (Q : Value → World → Prop) : Prop :=
  br (decide ((sector_ : Int) < 0)) (Q (.int .i64 1) w) (CallE Try.prog 63 #[(.pointer (some d_))] w fun v1 w2 => fI .i64 v1 fun x3 =>
  br (decide ((sector_ : Int) ≥ x3)) (Q (.int .i64 1) w2) (br ((((data_.size : Nat) : Int) : Int) != 64) (Q (.int .i64 1) w2) (ld Try.prog 4 (d_.add 3) w2 fun v4 => fB v4 fun b5 =>
  br b5 (Q (.int .i64 16) w2) (ld Try.prog 4 (d_.add 4) w2 fun v19 => fB v19 fun b20 =>
  br b20 (ld Try.prog 3 (d_.add 5) w2 fun v21 => fI .i64 v21 fun x22 =>
  br ((x22 : Int) == 0) (ld Try.prog 78 (d_.add 6) w2 fun v23 => fS v23 fun l24 l24n l24c =>
  CallE Try.prog 78 #[(.pointer (some d_)), (.slice l24 l24n l24c)] w2 fun v25 w26 => v25 = .tuple #[] ∧
  Q (.int .i64 16) w26) (ld Try.prog 3 (d_.add 5) w2 fun v27 => fI .i64 v27 fun x28 =>
  st Try.prog 3 (d_.add 5) (.int .i64 (IntKind.wrap .i64 (x28 - 1))) w2 fun w29 =>
  W.blockdev_Disk_Write_k10 d_ sector_ data_ w29 Q)) (W.blockdev_Disk_Write_k10 d_ sector_ data_ w2 Q)))))
theorem E.blockdev_Disk_Write (d_ : Addr) (sector_ : Int) (data_ : ByteArray) (w : World) (Q : Value → World → Prop) : ev Try.prog Try.f64.ntmps callable [] [] (Try.f64.body.getD .skip) (enumE 0 [(.pointer (some d_)), (.int .i64 sector_), (.string data_)]) w (KQ Try.prog Try.f64.results.toList Q) = W.blockdev_Disk_Write d_ sector_ data_ w Q := by kernel_rfl
theorem C.blockdev_Disk_Write (d_ : Addr) (sector_ : Int) (data_ : ByteArray) (w : World) (Q : Value → World → Prop) (h : W.blockdev_Disk_Write d_ sector_ data_ w Q) : CallE Try.prog 64 #[(.pointer (some d_)), (.int .i64 sector_), (.string data_)] w Q :=
  calls_of_ev mixed callable_ok (args := [(.pointer (some d_)), (.int .i64 sector_), (.string data_)]) Try.func64 rfl ((E.blockdev_Disk_Write d_ sector_ data_ w Q).symm ▸ h)

def W.blockdev_Disk_Flush (d_ : Addr) (w : World) (Q : Value → World → Prop) : Prop :=
  ld Try.prog 4 (d_.add 3) w fun v1 => fB v1 fun b2 =>
  br b2 (Q (.int .i64 16) w) (ld Try.prog 112 (d_.add 2) w fun v3 => fS v3 fun l4 l4n l4c =>
  LoopW (S := Int × Unit) (fun s5 w6 next7 =>
  br (decide ((s5.1 : Int) < ((l4n : Nat) : Int))) (rq Try.prog (Instr.indexAt 112 (.slice l4 l4n l4c) (.int .i64 s5.1)) w6 fun v8 => fA v8 fun a9 =>
  ld Try.prog 164 a9 w6 fun v10 => fG v10 fun g11 =>
  al 164 (zeroT Try.prog 164).cells w6 fun a13 w12 =>
  st Try.prog 164 a13 (.agg g11) w12 fun w14 =>
  dr w14 fun w15 =>
  ld Try.prog 49 (d_.add 0) w15 fun v16 => fS v16 fun l17 l17n l17c =>
  ld Try.prog 3 (a13.add 0) w15 fun v18 => fI .i64 v18 fun x19 =>
  ld Try.prog 9 (a13.add 1) w15 fun v20 => fT v20 fun t21 =>
  rq Try.prog (Instr.indexAt 49 (.slice l17 l17n l17c) (.int .i64 x19)) w15 fun v22 => fA v22 fun a23 =>
  st Try.prog 9 a23 (.string t21) w15 fun w24 =>
  next7 (((IntKind.wrap .i64 (s5.1 + 1)) : Int), ()) w24) (st Try.prog 112 (d_.add 2) (.slice none 0 0) w6 fun w25 =>
  Q (.int .i64 0) w25)) ((0 : Int), ()) w)
theorem E.blockdev_Disk_Flush (d_ : Addr) (w : World) (Q : Value → World → Prop) : ev Try.prog Try.f65.ntmps callable [(4, [(14, .int .i64 0)], [0, 12, 13])] [] (Try.f65.body.getD .skip) (enumE 0 [(.pointer (some d_))]) w (KQ Try.prog Try.f65.results.toList Q) = W.blockdev_Disk_Flush d_ w Q := by kernel_rfl
theorem C.blockdev_Disk_Flush (d_ : Addr) (w : World) (Q : Value → World → Prop) (h : W.blockdev_Disk_Flush d_ w Q) : CallE Try.prog 65 #[(.pointer (some d_))] w Q :=
  calls_of_ev mixed callable_ok (args := [(.pointer (some d_))]) Try.func65 rfl ((E.blockdev_Disk_Flush d_ w Q).symm ▸ h)

def W.blockdev_Disk_Read (d_ : Addr) (sector_ : Int) (w : World) (Q : Value → World → Prop) : Prop :=
  br (decide ((sector_ : Int) < 0)) (Q (.tuple #[(.string ⟨#[]⟩), (.int .i64 1)]) w) (CallE Try.prog 63 #[(.pointer (some d_))] w fun v1 w2 => fI .i64 v1 fun x3 =>
  br (decide ((sector_ : Int) ≥ x3)) (Q (.tuple #[(.string ⟨#[]⟩), (.int .i64 1)]) w2) (ld Try.prog 4 (d_.add 3) w2 fun v4 => fB v4 fun b5 =>
  br b5 (Q (.tuple #[(.string ⟨#[]⟩), (.int .i64 16)]) w2) (ld Try.prog 49 (d_.add 1) w2 fun v6 => fS v6 fun l7 l7n l7c =>
  rq Try.prog (Instr.indexAt 49 (.slice l7 l7n l7c) (.int .i64 sector_)) w2 fun v8 => fA v8 fun a9 =>
  ld Try.prog 9 a9 w2 fun v10 => fT v10 fun t11 =>
  Q (.tuple #[(.string t11), (.int .i64 0)]) w2)))
theorem E.blockdev_Disk_Read (d_ : Addr) (sector_ : Int) (w : World) (Q : Value → World → Prop) : ev Try.prog Try.f66.ntmps callable [] [] (Try.f66.body.getD .skip) (enumE 0 [(.pointer (some d_)), (.int .i64 sector_)]) w (KQ Try.prog Try.f66.results.toList Q) = W.blockdev_Disk_Read d_ sector_ w Q := by kernel_rfl
theorem C.blockdev_Disk_Read (d_ : Addr) (sector_ : Int) (w : World) (Q : Value → World → Prop) (h : W.blockdev_Disk_Read d_ sector_ w Q) : CallE Try.prog 66 #[(.pointer (some d_)), (.int .i64 sector_)] w Q :=
  calls_of_ev mixed callable_ok (args := [(.pointer (some d_)), (.int .i64 sector_)]) Try.func66 rfl ((E.blockdev_Disk_Read d_ sector_ w Q).symm ▸ h)

def W.image_DecodeHeader_k8 (p0 : ByteArray) (p2 : Addr) (p4 : Addr) (w : World) (Q : Value → World → Prop) : Prop :=
  dr w fun w34 =>
  rq Try.prog (Instr.sliceAt 31 (.pointer (some (p4.add 1))) none none none) w34 fun v35 => fS v35 fun l36 l36n l36c =>
  rq Try.prog (Instr.sliceAt 9 (.string p0) (some (.int .i64 12)) (some (.int .i64 44)) none) w34 fun v37 => fT v37 fun t38 =>
  rv Try.prog (Builtin.copy_ #[82, 9] 3 #[(.slice l36 l36n l36c), (.string t38)]) w34 fun v39 w40 => fI .i64 v39 fun x41 =>
  ld Try.prog 121 p4 w40 fun v42 => fG v42 fun g43 =>
  st Try.prog 121 p2 (.agg g43) w40 fun w44 =>
  ld Try.prog 121 p2 w44 fun v45 => fG v45 fun g46 =>
  Q (.tuple #[(.agg g46), (.int .i64 0)]) w44
def W.image_DecodeHeader (s_ : ByteArray) (w : World) (Q : Value → World → Prop) : Prop :=
  al 121 (zeroT Try.prog 121).cells w fun a2 w1 =>
  br ((((s_.size : Nat) : Int) : Int) != 64) (st Try.prog 121 a2 (.agg #[(.int .u64 0), (.int .u8 0), (.int .u8 0), (.int .u8 0), (.int .u8 0), (.int .u8 0), (.int .u8 0), (.int .u8 0), (.int .u8 0), (.int .u8 0), (.int .u8 0), (.int .u8 0), (.int .u8 0), (.int .u8 0), (.int .u8 0), (.int .u8 0), (.int .u8 0), (.int .u8 0), (.int .u8 0), (.int .u8 0), (.int .u8 0), (.int .u8 0), (.int .u8 0), (.int .u8 0), (.int .u8 0), (.int .u8 0), (.int .u8 0), (.int .u8 0), (.int .u8 0), (.int .u8 0), (.int .u8 0), (.int .u8 0), (.int .u8 0), (.int .u32 0), (.int .u32 0)]) w1 fun w3 =>
  ld Try.prog 121 a2 w3 fun v4 => fG v4 fun g5 =>
  Q (.tuple #[(.agg g5), (.int .i64 3)]) w3) (CallE Try.prog 95 #[(.string s_), (.string ⟨#[72,73,66,49]⟩)] w1 fun v6 w7 => fB v6 fun b8 =>
  br (!b8) (st Try.prog 121 a2 (.agg #[(.int .u64 0), (.int .u8 0), (.int .u8 0), (.int .u8 0), (.int .u8 0), (.int .u8 0), (.int .u8 0), (.int .u8 0), (.int .u8 0), (.int .u8 0), (.int .u8 0), (.int .u8 0), (.int .u8 0), (.int .u8 0), (.int .u8 0), (.int .u8 0), (.int .u8 0), (.int .u8 0), (.int .u8 0), (.int .u8 0), (.int .u8 0), (.int .u8 0), (.int .u8 0), (.int .u8 0), (.int .u8 0), (.int .u8 0), (.int .u8 0), (.int .u8 0), (.int .u8 0), (.int .u8 0), (.int .u8 0), (.int .u8 0), (.int .u8 0), (.int .u32 0), (.int .u32 0)]) w7 fun w9 =>
  ld Try.prog 121 a2 w9 fun v10 => fG v10 fun g11 =>
  Q (.tuple #[(.agg g11), (.int .i64 3)]) w9) (rq Try.prog (Instr.sliceAt 9 (.string s_) (some (.int .i64 56)) none none) w7 fun v12 => fT v12 fun t13 =>
  CallE Try.prog 100 #[(.string t13)] w7 fun v14 w15 => fI .u64 v14 fun x16 =>
  br ((x16 : Int) != 0) (st Try.prog 121 a2 (.agg #[(.int .u64 0), (.int .u8 0), (.int .u8 0), (.int .u8 0), (.int .u8 0), (.int .u8 0), (.int .u8 0), (.int .u8 0), (.int .u8 0), (.int .u8 0), (.int .u8 0), (.int .u8 0), (.int .u8 0), (.int .u8 0), (.int .u8 0), (.int .u8 0), (.int .u8 0), (.int .u8 0), (.int .u8 0), (.int .u8 0), (.int .u8 0), (.int .u8 0), (.int .u8 0), (.int .u8 0), (.int .u8 0), (.int .u8 0), (.int .u8 0), (.int .u8 0), (.int .u8 0), (.int .u8 0), (.int .u8 0), (.int .u8 0), (.int .u8 0), (.int .u32 0), (.int .u32 0)]) w15 fun w17 =>
  ld Try.prog 121 a2 w17 fun v18 => fG v18 fun g19 =>
  Q (.tuple #[(.agg g19), (.int .i64 3)]) w17) (drawE fun S20 => S20 (drew w15) ∧ (rqS Try.prog S20 (Instr.sliceAt 9 (.string s_) (some (.int .i64 52)) (some (.int .i64 56)) none) fun v21 => fT v21 fun t22 =>
  rqS Try.prog S20 (Instr.sliceAt 9 (.string s_) none (some (.int .i64 52)) none) fun v23 => fT v23 fun t24 =>
  CallE Try.prog 100 #[(.string t22)] (drew w15) fun v25 w26 => fI .u64 v25 fun x27 =>
  S20 w26 ∧ (CallE Try.prog 73 #[(.string t24)] w26 fun v28 w29 => fI .u32 v28 fun x30 =>
  S20 w29 ∧ (br ((x27 : Int) != (IntKind.wrap .u64 x30)) (st Try.prog 121 a2 (.agg #[(.int .u64 0), (.int .u8 0), (.int .u8 0), (.int .u8 0), (.int .u8 0), (.int .u8 0), (.int .u8 0), (.int .u8 0), (.int .u8 0), (.int .u8 0), (.int .u8 0), (.int .u8 0), (.int .u8 0), (.int .u8 0), (.int .u8 0), (.int .u8 0), (.int .u8 0), (.int .u8 0), (.int .u8 0), (.int .u8 0), (.int .u8 0), (.int .u8 0), (.int .u8 0), (.int .u8 0), (.int .u8 0), (.int .u8 0), (.int .u8 0), (.int .u8 0), (.int .u8 0), (.int .u8 0), (.int .u8 0), (.int .u8 0), (.int .u8 0), (.int .u32 0), (.int .u32 0)]) w29 fun w31 =>
  ld Try.prog 121 a2 w31 fun v32 => fG v32 fun g33 =>
  Q (.tuple #[(.agg g33), (.int .i64 5)]) w31) (drawE fun S47 => S47 (drew w29) ∧ (rqS Try.prog S47 (Instr.sliceAt 9 (.string s_) (some (.int .i64 4)) (some (.int .i64 12)) none) fun v48 => fT v48 fun t49 =>
  rqS Try.prog S47 (Instr.sliceAt 9 (.string s_) (some (.int .i64 44)) (some (.int .i64 48)) none) fun v50 => fT v50 fun t51 =>
  rqS Try.prog S47 (Instr.sliceAt 9 (.string s_) (some (.int .i64 48)) (some (.int .i64 52)) none) fun v52 => fT v52 fun t53 =>
  (CallE Try.prog 100 #[(.string t49)] (drew w29) fun v54 w55 => fI .u64 v54 fun x56 =>
  S47 w55 ∧ ((CallE Try.prog 100 #[(.string t51)] w55 fun v57 w58 => fI .u64 v57 fun x59 =>
  S47 w58 ∧ ((CallE Try.prog 100 #[(.string t53)] w58 fun v60 w61 => fI .u64 v60 fun x62 =>
  S47 w61 ∧ (al 121 (zeroT Try.prog 121).cells w61 fun a64 w63 =>
  S47 w63 ∧ (st Try.prog 121 a64 (.agg #[(.int .u64 x56), (.int .u8 0), (.int .u8 0), (.int .u8 0), (.int .u8 0), (.int .u8 0), (.int .u8 0), (.int .u8 0), (.int .u8 0), (.int .u8 0), (.int .u8 0), (.int .u8 0), (.int .u8 0), (.int .u8 0), (.int .u8 0), (.int .u8 0), (.int .u8 0), (.int .u8 0), (.int .u8 0), (.int .u8 0), (.int .u8 0), (.int .u8 0), (.int .u8 0), (.int .u8 0), (.int .u8 0), (.int .u8 0), (.int .u8 0), (.int .u8 0), (.int .u8 0), (.int .u8 0), (.int .u8 0), (.int .u8 0), (.int .u8 0), (.int .u32 (IntKind.wrap .u32 x59)), (.int .u32 (IntKind.wrap .u32 x62))]) w63 fun w65 =>
  S47 w65 ∧ (W.image_DecodeHeader_k8 s_ a2 a64 w65 Q)))) ∧ (al 121 (zeroT Try.prog 121).cells w58 fun a67 w66 =>
  S47 w66 ∧ (CallE Try.prog 100 #[(.string t53)] w66 fun v68 w69 => fI .u64 v68 fun x70 =>
  S47 w69 ∧ (st Try.prog 121 a67 (.agg #[(.int .u64 x56), (.int .u8 0), (.int .u8 0), (.int .u8 0), (.int .u8 0), (.int .u8 0), (.int .u8 0), (.int .u8 0), (.int .u8 0), (.int .u8 0), (.int .u8 0), (.int .u8 0), (.int .u8 0), (.int .u8 0), (.int .u8 0), (.int .u8 0), (.int .u8 0), (.int .u8 0), (.int .u8 0), (.int .u8 0), (.int .u8 0), (.int .u8 0), (.int .u8 0), (.int .u8 0), (.int .u8 0), (.int .u8 0), (.int .u8 0), (.int .u8 0), (.int .u8 0), (.int .u8 0), (.int .u8 0), (.int .u8 0), (.int .u8 0), (.int .u32 (IntKind.wrap .u32 x59)), (.int .u32 (IntKind.wrap .u32 x70))]) w69 fun w71 =>
  S47 w71 ∧ (W.image_DecodeHeader_k8 s_ a2 a67 w71 Q)))))) ∧ (al 121 (zeroT Try.prog 121).cells w55 fun a73 w72 =>
  S47 w72 ∧ (CallE Try.prog 100 #[(.string t51)] w72 fun v74 w75 => fI .u64 v74 fun x76 =>
  S47 w75 ∧ (CallE Try.prog 100 #[(.string t53)] w75 fun v77 w78 => fI .u64 v77 fun x79 =>
  S47 w78 ∧ (st Try.prog 121 a73 (.agg #[(.int .u64 x56), (.int .u8 0), (.int .u8 0), (.int .u8 0), (.int .u8 0), (.int .u8 0), (.int .u8 0), (.int .u8 0), (.int .u8 0), (.int .u8 0), (.int .u8 0), (.int .u8 0), (.int .u8 0), (.int .u8 0), (.int .u8 0), (.int .u8 0), (.int .u8 0), (.int .u8 0), (.int .u8 0), (.int .u8 0), (.int .u8 0), (.int .u8 0), (.int .u8 0), (.int .u8 0), (.int .u8 0), (.int .u8 0), (.int .u8 0), (.int .u8 0), (.int .u8 0), (.int .u8 0), (.int .u8 0), (.int .u8 0), (.int .u8 0), (.int .u32 (IntKind.wrap .u32 x76)), (.int .u32 (IntKind.wrap .u32 x79))]) w78 fun w80 =>
  S47 w80 ∧ (W.image_DecodeHeader_k8 s_ a2 a73 w80 Q))))))) ∧ (al 121 (zeroT Try.prog 121).cells (drew w29) fun a82 w81 =>
  S47 w81 ∧ (CallE Try.prog 100 #[(.string t49)] w81 fun v83 w84 => fI .u64 v83 fun x85 =>
  S47 w84 ∧ (CallE Try.prog 100 #[(.string t51)] w84 fun v86 w87 => fI .u64 v86 fun x88 =>
  S47 w87 ∧ (CallE Try.prog 100 #[(.string t53)] w87 fun v89 w90 => fI .u64 v89 fun x91 =>
  S47 w90 ∧ (st Try.prog 121 a82 (.agg #[(.int .u64 x85), (.int .u8 0), (.int .u8 0), (.int .u8 0), (.int .u8 0), (.int .u8 0), (.int .u8 0), (.int .u8 0), (.int .u8 0), (.int .u8 0), (.int .u8 0), (.int .u8 0), (.int .u8 0), (.int .u8 0), (.int .u8 0), (.int .u8 0), (.int .u8 0), (.int .u8 0), (.int .u8 0), (.int .u8 0), (.int .u8 0), (.int .u8 0), (.int .u8 0), (.int .u8 0), (.int .u8 0), (.int .u8 0), (.int .u8 0), (.int .u8 0), (.int .u8 0), (.int .u8 0), (.int .u8 0), (.int .u8 0), (.int .u8 0), (.int .u32 (IntKind.wrap .u32 x88)), (.int .u32 (IntKind.wrap .u32 x91))]) w90 fun w92 =>
  S47 w92 ∧ (W.image_DecodeHeader_k8 s_ a2 a82 w92 Q))))))))))))))
theorem E.image_DecodeHeader (s_ : ByteArray) (w : World) (Q : Value → World → Prop) : ev Try.prog Try.f67.ntmps callable [] [] (Try.f67.body.getD .skip) (enumE 0 [(.string s_)]) w (KQ Try.prog Try.f67.results.toList Q) = W.image_DecodeHeader s_ w Q := by kernel_rfl
theorem C.image_DecodeHeader (s_ : ByteArray) (w : World) (Q : Value → World → Prop) (h : W.image_DecodeHeader s_ w Q) : CallE Try.prog 67 #[(.string s_)] w Q :=
  calls_of_ev mixed callable_ok (args := [(.string s_)]) Try.func67 rfl ((E.image_DecodeHeader s_ w Q).symm ▸ h)
end Go.Proofs.Ytpinpccamfhofaa
