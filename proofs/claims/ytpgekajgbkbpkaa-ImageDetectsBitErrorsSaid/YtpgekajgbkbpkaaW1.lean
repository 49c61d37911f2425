/- The conditions of the functions of this translation, written out by a program; each is an equation that the kernel checks. No condition. -/
import Derived.Test.YtpgekajgbkbpkaaEng
import Derived.Test.YtpgekajgbkbpkaaChecked
import Derived.Test.YtpgekajgbkbpkaaW0
set_option maxRecDepth 100000
set_option linter.unusedVariables false
namespace Go.Proofs.Ytpgekajgbkbpkaa
open Go Go.Ev Go.Proofs
def W.law34_ImageChecksumAgrees (s_ : ByteArray) (w : World) (Q : Value → World → Prop) : Prop :=
  br (decide ((((s_.size : Nat) : Int) : Int) > 500)) (CallE Try.prog 12 #[] w fun v1 w2 => fB v1 fun b3 =>
  Q (.bool b3) w2) (CallE Try.prog 13 #[(.string s_)] w fun v4 w5 => fI .u32 v4 fun x6 =>
  CallE Try.prog 14 #[(.string s_)] w5 fun v7 w8 => fI .u32 v7 fun x9 =>
  br ((x6 : Int) == x9) (CallE Try.prog 12 #[] w8 fun v10 w11 => fB v10 fun b12 =>
  Q (.bool b12) w11) (Q (.bool false) w8))
theorem E.law34_ImageChecksumAgrees (s_ : ByteArray) (w : World) (Q : Value → World → Prop) : ev Try.prog Try.f3.ntmps callable [] [] (Try.f3.body.getD .skip) (enumE 0 [(.string s_)]) w (KQ Try.prog Try.f3.results.toList Q) = W.law34_ImageChecksumAgrees s_ w Q := by kernel_rfl
theorem C.law34_ImageChecksumAgrees (s_ : ByteArray) (w : World) (Q : Value → World → Prop) (h : W.law34_ImageChecksumAgrees s_ w Q) : CallE Try.prog 3 #[(.string s_)] w Q :=
  calls_of_ev mixed callable_ok (args := [(.string s_)]) Try.func3 rfl ((E.law34_ImageChecksumAgrees s_ w Q).symm ▸ h)

def W.law34_ImageChecksumIsAffine_k7 (p0 : ByteArray) (p1 : ByteArray) (p2 : ByteArray) (p7 : Int) (p8 : Option Addr) (p8n : Nat) (p8c : Nat) (w : World) (Q : Value → World → Prop) : Prop :=
  drawE fun S4 => S4 (drew w) ∧ (rqS Try.prog S4 (Instr.sliceAt 9 (.string p0) none (some (.int .i64 p7)) none) fun v5 => fT v5 fun t6 =>
  rqS Try.prog S4 (Instr.sliceAt 9 (.string p1) none (some (.int .i64 p7)) none) fun v7 => fT v7 fun t8 =>
  rqS Try.prog S4 (Instr.sliceAt 9 (.string p2) none (some (.int .i64 p7)) none) fun v9 => fT v9 fun t10 =>
  (CallE Try.prog 13 #[(.string t6)] (drew w) fun v11 w12 => fI .u32 v11 fun x13 =>
  S4 w12 ∧ ((CallE Try.prog 13 #[(.string t8)] w12 fun v14 w15 => fI .u32 v14 fun x16 =>
  S4 w15 ∧ ((CallE Try.prog 13 #[(.string t10)] w15 fun v17 w18 => fI .u32 v17 fun x19 =>
  S4 w18 ∧ (rv Try.prog (convert 26 9 (.slice p8 p8n p8c)) w18 fun v20 w21 => fT v20 fun t22 =>
  S4 w21 ∧ (CallE Try.prog 13 #[(.string t22)] w21 fun v23 w24 => fI .u32 v23 fun x25 =>
  S4 w24 ∧ (br (((bxor .u32 (bxor .u32 x13 x16) x19) : Int) == x25) (CallE Try.prog 12 #[] w24 fun v26 w27 => fB v26 fun b28 =>
  S4 w27 ∧ (Q (.bool b28) w27)) (S4 w24 ∧ (Q (.bool false) w24)))))) ∧ (rv Try.prog (convert 26 9 (.slice p8 p8n p8c)) w15 fun v29 w30 => fT v29 fun t31 =>
  S4 w30 ∧ (CallE Try.prog 13 #[(.string t10)] w30 fun v32 w33 => fI .u32 v32 fun x34 =>
  S4 w33 ∧ (CallE Try.prog 13 #[(.string t31)] w33 fun v35 w36 => fI .u32 v35 fun x37 =>
  S4 w36 ∧ (br (((bxor .u32 (bxor .u32 x13 x16) x34) : Int) == x37) (CallE Try.prog 12 #[] w36 fun v38 w39 => fB v38 fun b40 =>
  S4 w39 ∧ (Q (.bool b40) w39)) (S4 w36 ∧ (Q (.bool false) w36)))))))) ∧ (rv Try.prog (convert 26 9 (.slice p8 p8n p8c)) w12 fun v41 w42 => fT v41 fun t43 =>
  S4 w42 ∧ (CallE Try.prog 13 #[(.string t8)] w42 fun v44 w45 => fI .u32 v44 fun x46 =>
  S4 w45 ∧ (CallE Try.prog 13 #[(.string t10)] w45 fun v47 w48 => fI .u32 v47 fun x49 =>
  S4 w48 ∧ (CallE Try.prog 13 #[(.string t43)] w48 fun v50 w51 => fI .u32 v50 fun x52 =>
  S4 w51 ∧ (br (((bxor .u32 (bxor .u32 x13 x46) x49) : Int) == x52) (CallE Try.prog 12 #[] w51 fun v53 w54 => fB v53 fun b55 =>
  S4 w54 ∧ (Q (.bool b55) w54)) (S4 w51 ∧ (Q (.bool false) w51))))))))) ∧ (rv Try.prog (convert 26 9 (.slice p8 p8n p8c)) (drew w) fun v56 w57 => fT v56 fun t58 =>
  S4 w57 ∧ (CallE Try.prog 13 #[(.string t6)] w57 fun v59 w60 => fI .u32 v59 fun x61 =>
  S4 w60 ∧ (CallE Try.prog 13 #[(.string t8)] w60 fun v62 w63 => fI .u32 v62 fun x64 =>
  S4 w63 ∧ (CallE Try.prog 13 #[(.string t10)] w63 fun v65 w66 => fI .u32 v65 fun x67 =>
  S4 w66 ∧ (CallE Try.prog 13 #[(.string t58)] w66 fun v68 w69 => fI .u32 v68 fun x70 =>
  S4 w69 ∧ (br (((bxor .u32 (bxor .u32 x61 x64) x67) : Int) == x70) (CallE Try.prog 12 #[] w69 fun v71 w72 => fB v71 fun b73 =>
  S4 w72 ∧ (Q (.bool b73) w72)) (S4 w69 ∧ (Q (.bool false) w69)))))))))
def W.law34_ImageChecksumIsAffine (s_ : ByteArray) (t_ : ByteArray) (u_ : ByteArray) (w : World) (Q : Value → World → Prop) : Prop :=
  rv Try.prog (Instr.makeSlice 26 (.int .i64 (if 200 < (if ((u_.size : Nat) : Int) < (if ((t_.size : Nat) : Int) < ((s_.size : Nat) : Int) then ((t_.size : Nat) : Int) else ((s_.size : Nat) : Int)) then ((u_.size : Nat) : Int) else (if ((t_.size : Nat) : Int) < ((s_.size : Nat) : Int) then ((t_.size : Nat) : Int) else ((s_.size : Nat) : Int))) then 200 else (if ((u_.size : Nat) : Int) < (if ((t_.size : Nat) : Int) < ((s_.size : Nat) : Int) then ((t_.size : Nat) : Int) else ((s_.size : Nat) : Int)) then ((u_.size : Nat) : Int) else (if ((t_.size : Nat) : Int) < ((s_.size : Nat) : Int) then ((t_.size : Nat) : Int) else ((s_.size : Nat) : Int))))) (.int .i64 (if 200 < (if ((u_.size : Nat) : Int) < (if ((t_.size : Nat) : Int) < ((s_.size : Nat) : Int) then ((t_.size : Nat) : Int) else ((s_.size : Nat) : Int)) then ((u_.size : Nat) : Int) else (if ((t_.size : Nat) : Int) < ((s_.size : Nat) : Int) then ((t_.size : Nat) : Int) else ((s_.size : Nat) : Int))) then 200 else (if ((u_.size : Nat) : Int) < (if ((t_.size : Nat) : Int) < ((s_.size : Nat) : Int) then ((t_.size : Nat) : Int) else ((s_.size : Nat) : Int)) then ((u_.size : Nat) : Int) else (if ((t_.size : Nat) : Int) < ((s_.size : Nat) : Int) then ((t_.size : Nat) : Int) else ((s_.size : Nat) : Int)))))) w fun v1 w2 => fS v1 fun l3 l3n l3c =>
  LoopW (S := Int × Unit) (fun s74 w75 next76 =>
  br (decide ((s74.1 : Int) < (if 200 < (if ((u_.size : Nat) : Int) < (if ((t_.size : Nat) : Int) < ((s_.size : Nat) : Int) then ((t_.size : Nat) : Int) else ((s_.size : Nat) : Int)) then ((u_.size : Nat) : Int) else (if ((t_.size : Nat) : Int) < ((s_.size : Nat) : Int) then ((t_.size : Nat) : Int) else ((s_.size : Nat) : Int))) then 200 else (if ((u_.size : Nat) : Int) < (if ((t_.size : Nat) : Int) < ((s_.size : Nat) : Int) then ((t_.size : Nat) : Int) else ((s_.size : Nat) : Int)) then ((u_.size : Nat) : Int) else (if ((t_.size : Nat) : Int) < ((s_.size : Nat) : Int) then ((t_.size : Nat) : Int) else ((s_.size : Nat) : Int)))))) (dr w75 fun w77 =>
  rq Try.prog (Instr.index 9 (.string s_) (.int .i64 s74.1)) w77 fun v78 => fI .u8 v78 fun x79 =>
  rq Try.prog (Instr.index 9 (.string t_) (.int .i64 s74.1)) w77 fun v80 => fI .u8 v80 fun x81 =>
  rq Try.prog (Instr.index 9 (.string u_) (.int .i64 s74.1)) w77 fun v82 => fI .u8 v82 fun x83 =>
  rq Try.prog (Instr.indexAt 26 (.slice l3 l3n l3c) (.int .i64 s74.1)) w77 fun v84 => fA v84 fun a85 =>
  st Try.prog 5 a85 (.int .u8 (bxor .u8 (bxor .u8 x79 x81) x83)) w77 fun w86 =>
  next76 (((IntKind.wrap .i64 (s74.1 + 1)) : Int), ()) w86) (W.law34_ImageChecksumIsAffine_k7 s_ t_ u_ (if 200 < (if ((u_.size : Nat) : Int) < (if ((t_.size : Nat) : Int) < ((s_.size : Nat) : Int) then ((t_.size : Nat) : Int) else ((s_.size : Nat) : Int)) then ((u_.size : Nat) : Int) else (if ((t_.size : Nat) : Int) < ((s_.size : Nat) : Int) then ((t_.size : Nat) : Int) else ((s_.size : Nat) : Int))) then 200 else (if ((u_.size : Nat) : Int) < (if ((t_.size : Nat) : Int) < ((s_.size : Nat) : Int) then ((t_.size : Nat) : Int) else ((s_.size : Nat) : Int)) then ((u_.size : Nat) : Int) else (if ((t_.size : Nat) : Int) < ((s_.size : Nat) : Int) then ((t_.size : Nat) : Int) else ((s_.size : Nat) : Int)))) l3 l3n l3c w75 Q)) ((0 : Int), ()) w2
theorem E.law34_ImageChecksumIsAffine (s_ : ByteArray) (t_ : ByteArray) (u_ : ByteArray) (w : World) (Q : Value → World → Prop) : ev Try.prog Try.f4.ntmps callable [(4, [(9, .int .i64 0)], [0, 1, 2, 7, 8])] [] (Try.f4.body.getD .skip) (enumE 0 [(.string s_), (.string t_), (.string u_)]) w (KQ Try.prog Try.f4.results.toList Q) = W.law34_ImageChecksumIsAffine s_ t_ u_ w Q := by kernel_rfl
theorem C.law34_ImageChecksumIsAffine (s_ : ByteArray) (t_ : ByteArray) (u_ : ByteArray) (w : World) (Q : Value → World → Prop) (h : W.law34_ImageChecksumIsAffine s_ t_ u_ w Q) : CallE Try.prog 4 #[(.string s_), (.string t_), (.string u_)] w Q :=
  calls_of_ev mixed callable_ok (args := [(.string s_), (.string t_), (.string u_)]) Try.func4 rfl ((E.law34_ImageChecksumIsAffine s_ t_ u_ w Q).symm ▸ h)

def W.law34_ImageHeaderRoundTrip (h_ : Array Value) (w : World) (Q : Value → World → Prop) : Prop :=
  al 32 h_ w fun a2 w1 =>
  ld Try.prog 32 a2 w1 fun v3 => fG v3 fun g4 =>
  CallE Try.prog 15 #[(.agg g4)] w1 fun v5 w6 => fT v5 fun t7 =>
  CallE Try.prog 16 #[(.string t7)] w6 fun v8 w9 => ∃ (g10 : Array Value) (x11 : Int), v8 = .tuple #[(.agg g10), (.int .i64 x11)] ∧
  al 32 (zeroT Try.prog 32).cells w9 fun a13 w12 =>
  st Try.prog 32 a13 (.agg g10) w12 fun w14 =>
  br ((((t7.size : Nat) : Int) : Int) == 64) (br ((x11 : Int) == 0) (ld Try.prog 32 a13 w14 fun v15 => fG v15 fun g16 =>
  ld Try.prog 32 a2 w14 fun v17 => fG v17 fun g18 =>
  rq Try.prog (do eqGuard .eql 32 (.tmp 21) (.tmp 22) (.agg g16) (.agg g18); binOp .eql 32 (.agg g16) (.agg g18)) w14 fun v19 => fB v19 fun b20 =>
  br b20 (ld Try.prog 32 a2 w14 fun v21 => fG v21 fun g22 =>
  CallE Try.prog 17 #[(.agg g22)] w14 fun v23 w24 => fT v23 fun t25 =>
  rq Try.prog (do eqGuard .eql 9 (.tmp 26) (.tmp 28) (.string t7) (.string t25); binOp .eql 9 (.string t7) (.string t25)) w24 fun v26 => fB v26 fun b27 =>
  br b27 (CallE Try.prog 12 #[] w24 fun v28 w29 => fB v28 fun b30 =>
  Q (.bool b30) w29) (Q (.bool false) w24)) (Q (.bool false) w14)) (Q (.bool false) w14)) (Q (.bool false) w14)
theorem E.law34_ImageHeaderRoundTrip (h_ : Array Value) (w : World) (Q : Value → World → Prop) : ev Try.prog Try.f5.ntmps callable [] [] (Try.f5.body.getD .skip) (enumE 0 [(.agg h_)]) w (KQ Try.prog Try.f5.results.toList Q) = W.law34_ImageHeaderRoundTrip h_ w Q := by kernel_rfl
theorem C.law34_ImageHeaderRoundTrip (h_ : Array Value) (w : World) (Q : Value → World → Prop) (h : W.law34_ImageHeaderRoundTrip h_ w Q) : CallE Try.prog 5 #[(.agg h_)] w Q :=
  calls_of_ev mixed callable_ok (args := [(.agg h_)]) Try.func5 rfl ((E.law34_ImageHeaderRoundTrip h_ w Q).symm ▸ h)

def W.law34_ImageHeaderAgrees_k13 (w : World) (Q : Value → World → Prop) : Prop :=
  CallE Try.prog 12 #[] w fun v14 w15 => fB v14 fun b16 =>
  Q (.bool b16) w15
def W.law34_ImageHeaderAgrees (s_ : ByteArray) (h_ : Array Value) (at_ : Int) (c_ : Int) (w : World) (Q : Value → World → Prop) : Prop :=
  al 32 h_ w fun a2 w1 =>
  br (decide ((((s_.size : Nat) : Int) : Int) > 100)) (CallE Try.prog 12 #[] w1 fun v3 w4 => fB v3 fun b5 =>
  Q (.bool b5) w4) (ld Try.prog 32 a2 w1 fun v6 => fG v6 fun g7 =>
  CallE Try.prog 17 #[(.agg g7)] w1 fun v8 w9 => fT v8 fun t10 =>
  CallE Try.prog 18 #[(.int .i64 at_), (.int .i64 ((t10.size : Nat) : Int))] w9 fun v11 w12 => fI .i64 v11 fun x13 =>
  drawE fun S17 => S17 (drew w12) ∧ (rqS Try.prog S17 (Instr.sliceAt 9 (.string t10) none (some (.int .i64 x13)) none) fun v18 => fT v18 fun t19 =>
  rqS Try.prog S17 (Instr.sliceAt 9 (.string t10) (some (.int .i64 (IntKind.wrap .i64 (x13 + 1)))) none none) fun v20 => fT v20 fun t21 =>
  rqS Try.prog S17 (Instr.sliceAt 9 (.string t10) none (some (.int .i64 x13)) none) fun v22 => fT v22 fun t23 =>
  al 5 #[(.int .u8 c_)] (drew w12) fun a25 w24 =>
  S17 w24 ∧ (rv Try.prog (convert 26 9 (.slice (some a25) 1 1)) w24 fun v26 w27 => fT v26 fun t28 =>
  S17 w27 ∧ (rqS Try.prog S17 (do eqGuard .add 9 (.tmp 31) (.tmp 34) (.string t19) (.string t28); binOp .add 9 (.string t19) (.string t28)) fun v29 => fT v29 fun t30 =>
  rqS Try.prog S17 (do eqGuard .add 9 (.tmp 35) (.tmp 39) (.string t30) (.string t21); binOp .add 9 (.string t30) (.string t21)) fun v31 => fT v31 fun t32 =>
  LoopW (S := Int × Unit) (fun s33 w34 next35 =>
  br (decide ((s33.1 : Int) < 4)) (rq Try.prog (Instr.index 39 (.agg #[(.string s_), (.string t10), (.string t32), (.string t23)]) (.int .i64 s33.1)) w34 fun v36 => fT v36 fun t37 =>
  CallE Try.prog 16 #[(.string t37)] w34 fun v38 w39 => ∃ (g40 : Array Value) (x41 : Int), v38 = .tuple #[(.agg g40), (.int .i64 x41)] ∧
  al 32 (zeroT Try.prog 32).cells w39 fun a43 w42 =>
  st Try.prog 32 a43 (.agg g40) w42 fun w44 =>
  CallE Try.prog 19 #[(.string t37)] w44 fun v45 w46 => ∃ (g47 : Array Value) (x48 : Int), v45 = .tuple #[(.agg g47), (.int .i64 x48)] ∧
  al 32 (zeroT Try.prog 32).cells w46 fun a50 w49 =>
  st Try.prog 32 a50 (.agg g47) w49 fun w51 =>
  ld Try.prog 32 a43 w51 fun v52 => fG v52 fun g53 =>
  ld Try.prog 32 a50 w51 fun v54 => fG v54 fun g55 =>
  rq Try.prog (do eqGuard .neq 32 (.tmp 58) (.tmp 59) (.agg g53) (.agg g55); binOp .neq 32 (.agg g53) (.agg g55)) w51 fun v56 => fB v56 fun b57 =>
  br b57 (Q (.bool false) w51) (br ((x41 : Int) != x48) (Q (.bool false) w51) (next35 (((IntKind.wrap .i64 (s33.1 + 1)) : Int), ()) w51))) (W.law34_ImageHeaderAgrees_k13  w34 Q)) ((0 : Int), ()) w27))))
theorem E.law34_ImageHeaderAgrees (s_ : ByteArray) (h_ : Array Value) (at_ : Int) (c_ : Int) (w : World) (Q : Value → World → Prop) : ev Try.prog Try.f6.ntmps callable [(6, [(45, .int .i64 0)], [44])] [] (Try.f6.body.getD .skip) (enumE 0 [(.string s_), (.agg h_), (.int .i64 at_), (.int .u8 c_)]) w (KQ Try.prog Try.f6.results.toList Q) = W.law34_ImageHeaderAgrees s_ h_ at_ c_ w Q := by kernel_rfl
theorem C.law34_ImageHeaderAgrees (s_ : ByteArray) (h_ : Array Value) (at_ : Int) (c_ : Int) (w : World) (Q : Value → World → Prop) (h : W.law34_ImageHeaderAgrees s_ h_ at_ c_ w Q) : CallE Try.prog 6 #[(.string s_), (.agg h_), (.int .i64 at_), (.int .u8 c_)] w Q :=
  calls_of_ev mixed callable_ok (args := [(.string s_), (.agg h_), (.int .i64 at_), (.int .u8 c_)]) Try.func6 rfl ((E.law34_ImageHeaderAgrees s_ h_ at_ c_ w Q).symm ▸ h)

def W.law34_ImageEncodeAgrees_k16 (p15 : Addr) (w : World) (Q : Value → World → Prop) : Prop :=
  ld Try.prog 45 p15 w fun v29 => fG v29 fun g30 =>
  CallE Try.prog 22 #[(.agg g30)] w fun v31 w32 => ∃ (l33 : Option Addr) (l33n : Nat) (l33c : Nat) (x34 : Int), v31 = .tuple #[(.slice l33 l33n l33c), (.int .i64 x34)] ∧
  ld Try.prog 45 p15 w32 fun v35 => fG v35 fun g36 =>
  CallE Try.prog 23 #[(.agg g36)] w32 fun v37 w38 => ∃ (l39 : Option Addr) (l39n : Nat) (l39c : Nat) (x40 : Int), v37 = .tuple #[(.slice l39 l39n l39c), (.int .i64 x40)] ∧
  br ((x34 : Int) == x40) (CallE Try.prog 24 #[(.slice l33 l33n l33c), (.slice l39 l39n l39c)] w38 fun v41 w42 => fB v41 fun b43 =>
  br b43 (CallE Try.prog 12 #[] w42 fun v44 w45 => fB v44 fun b46 =>
  Q (.bool b46) w45) (Q (.bool false) w42)) (Q (.bool false) w38)
def W.law34_ImageEncodeAgrees_k2 (p1 : Int) (p2 : Option Addr) (p2n : Nat) (p2c : Nat) (p3 : Int) (p4 : Int) (p5 : ByteArray) (p6 : Int) (p7 : Addr) (p27 : Bool) (w : World) (Q : Value → World → Prop) : Prop :=
  br p27 (CallE Try.prog 12 #[] w fun v3 w4 => fB v3 fun b5 =>
  Q (.bool b5) w4) (ld Try.prog 30 p7 w fun v6 => fG v6 fun g7 =>
  CallE Try.prog 21 #[(.agg g7), (.int .u64 p1), (.slice p2 p2n p2c)] w fun v8 w9 => fG v8 fun g10 =>
  al 45 (zeroT Try.prog 45).cells w9 fun a12 w11 =>
  st Try.prog 45 a12 (.agg g10) w11 fun w13 =>
  ld Try.prog 45 a12 w13 fun v14 => fG v14 fun g15 =>
  CallE Try.prog 22 #[(.agg g15)] w13 fun v16 w17 => ∃ (l18 : Option Addr) (l18n : Nat) (l18c : Nat) (x19 : Int), v16 = .tuple #[(.slice l18 l18n l18c), (.int .i64 x19)] ∧
  ld Try.prog 45 a12 w17 fun v20 => fG v20 fun g21 =>
  CallE Try.prog 23 #[(.agg g21)] w17 fun v22 w23 => ∃ (l24 : Option Addr) (l24n : Nat) (l24c : Nat) (x25 : Int), v22 = .tuple #[(.slice l24 l24n l24c), (.int .i64 x25)] ∧
  br ((x19 : Int) != x25) (Q (.bool false) w23) (CallE Try.prog 24 #[(.slice l18 l18n l18c), (.slice l24 l24n l24c)] w23 fun v26 w27 => fB v26 fun b28 =>
  br (!b28) (Q (.bool false) w27) (ld Try.prog 43 (a12.add 33) w27 fun v47 => fS v47 fun l48 l48n l48c =>
  br (decide ((((l48n : Nat) : Int) : Int) > 0)) (ld Try.prog 43 (a12.add 33) w27 fun v49 => fS v49 fun l50 l50n l50c =>
  CallE Try.prog 18 #[(.int .i64 p3), (.int .i64 ((l50n : Nat) : Int))] w27 fun v51 w52 => fI .i64 v51 fun x53 =>
  br (((Int.tmod p6 3) : Int) == 0) (ld Try.prog 43 (a12.add 33) w52 fun v54 => fS v54 fun l55 l55n l55c =>
  rq Try.prog (Instr.indexAt 43 (.slice l55 l55n l55c) (.int .i64 x53)) w52 fun v56 => fA v56 fun a57 =>
  st Try.prog 3 (a57.add 0) (.int .i64 p4) w52 fun w58 =>
  W.law34_ImageEncodeAgrees_k16 a12 w58 Q) (br (((Int.tmod p6 3) : Int) == 1) (ld Try.prog 43 (a12.add 33) w52 fun v59 => fS v59 fun l60 l60n l60c =>
  rq Try.prog (Instr.indexAt 43 (.slice l60 l60n l60c) (.int .i64 x53)) w52 fun v61 => fA v61 fun a62 =>
  st Try.prog 9 (a62.add 1) (.string p5) w52 fun w63 =>
  W.law34_ImageEncodeAgrees_k16 a12 w63 Q) (drawE fun S64 => S64 (drew w52) ∧ (ldS Try.prog S64 43 (a12.add 33) fun v65 => fS v65 fun l66 l66n l66c =>
  CallE Try.prog 18 #[(.int .i64 p4), (.int .i64 4)] (drew w52) fun v67 w68 => fI .i64 v67 fun x69 =>
  S64 w68 ∧ (rqS Try.prog S64 (Instr.indexAt 43 (.slice l66 l66n l66c) (.int .i64 x53)) fun v70 => fA v70 fun a71 =>
  st Try.prog 3 (a71.add 0) (.int .i64 x69) w68 fun w72 =>
  S64 w72 ∧ (W.law34_ImageEncodeAgrees_k16 a12 w72 Q)))))) (W.law34_ImageEncodeAgrees_k16 a12 w27 Q))))
def W.law34_ImageEncodeAgrees (board_ : Array Value) (generation_ : Int) (l_ : Option Addr) (l_n : Nat) (l_c : Nat) (k_ : Int) (n_ : Int) (data_ : ByteArray) (how_ : Int) (w : World) (Q : Value → World → Prop) : Prop :=
  al 30 board_ w fun a2 w1 =>
  CallE Try.prog 20 #[(.slice l_ l_n l_c)] w1 fun v73 w74 => fB v73 fun b75 =>
  br b75 (W.law34_ImageEncodeAgrees_k2 generation_ l_ l_n l_c k_ n_ data_ how_ a2 true w74 Q) (W.law34_ImageEncodeAgrees_k2 generation_ l_ l_n l_c k_ n_ data_ how_ a2 (decide ((((data_.size : Nat) : Int) : Int) > 300)) w74 Q)
theorem E.law34_ImageEncodeAgrees (board_ : Array Value) (generation_ : Int) (l_ : Option Addr) (l_n : Nat) (l_c : Nat) (k_ : Int) (n_ : Int) (data_ : ByteArray) (how_ : Int) (w : World) (Q : Value → World → Prop) : ev Try.prog Try.f7.ntmps callable [] [] (Try.f7.body.getD .skip) (enumE 0 [(.agg board_), (.int .u64 generation_), (.slice l_ l_n l_c), (.int .i64 k_), (.int .i64 n_), (.string data_), (.int .u8 how_)]) w (KQ Try.prog Try.f7.results.toList Q) = W.law34_ImageEncodeAgrees board_ generation_ l_ l_n l_c k_ n_ data_ how_ w Q := by kernel_rfl
theorem C.law34_ImageEncodeAgrees (board_ : Array Value) (generation_ : Int) (l_ : Option Addr) (l_n : Nat) (l_c : Nat) (k_ : Int) (n_ : Int) (data_ : ByteArray) (how_ : Int) (w : World) (Q : Value → World → Prop) (h : W.law34_ImageEncodeAgrees board_ generation_ l_ l_n l_c k_ n_ data_ how_ w Q) : CallE Try.prog 7 #[(.agg board_), (.int .u64 generation_), (.slice l_ l_n l_c), (.int .i64 k_), (.int .i64 n_), (.string data_), (.int .u8 how_)] w Q :=
  calls_of_ev mixed callable_ok (args := [(.agg board_), (.int .u64 generation_), (.slice l_ l_n l_c), (.int .i64 k_), (.int .i64 n_), (.string data_), (.int .u8 how_)]) Try.func7 rfl ((E.law34_ImageEncodeAgrees board_ generation_ l_ l_n l_c k_ n_ data_ how_ w Q).symm ▸ h)

def W.law34_ImageRoundTrip_k14 (p11 : Addr) (p12 : Option Addr) (p12n : Nat) (p12c : Nat) (p13 : Int) (w : World) (Q : Value → World → Prop) : Prop :=
  CallE Try.prog 25 #[(.slice p12 p12n p12c)] w fun v26 w27 => ∃ (g28 : Array Value) (x29 : Int), v26 = .tuple #[(.agg g28), (.int .i64 x29)] ∧
  al 45 (zeroT Try.prog 45).cells w27 fun a31 w30 =>
  st Try.prog 45 a31 (.agg g28) w30 fun w32 =>
  br ((p13 : Int) == 0) (br ((x29 : Int) == 0) (ld Try.prog 45 a31 w32 fun v33 => fG v33 fun g34 =>
  ld Try.prog 45 p11 w32 fun v35 => fG v35 fun g36 =>
  CallE Try.prog 26 #[(.agg g34), (.agg g36)] w32 fun v37 w38 => fB v37 fun b39 =>
  br b39 (CallE Try.prog 12 #[] w38 fun v40 w41 => fB v40 fun b42 =>
  Q (.bool b42) w41) (Q (.bool false) w38)) (Q (.bool false) w32)) (Q (.bool false) w32)
def W.law34_ImageRoundTrip_k10 (p3 : Int) (p11 : Addr) (p12 : Option Addr) (p12n : Nat) (p12c : Nat) (p13 : Int) (p14 : Option Addr) (p14n : Nat) (p14c : Nat) (w : World) (Q : Value → World → Prop) : Prop :=
  CallE Try.prog 18 #[(.int .i64 p3), (.int .i64 6)] w fun v43 w44 => fI .i64 v43 fun x45 =>
  LoopW (S := (Option Addr × Nat × Nat) × Int × Unit) (fun s46 w47 next48 =>
  br (decide ((s46.2.1 : Int) < x45)) (rv Try.prog (convert 26 9 (.slice p14 p14n p14c)) w47 fun v49 w50 => fT v49 fun t51 =>
  al 9 #[(.string t51)] w50 fun a53 w52 =>
  rv Try.prog (Builtin.append_ #[47, 47] 47 #[(.slice s46.1.1 s46.1.2.1 s46.1.2.2), (.slice (some a53) 1 1)]) w52 fun v54 w55 => fS v54 fun l56 l56n l56c =>
  next48 ((l56, l56n, l56c), ((IntKind.wrap .i64 (s46.2.1 + 1)) : Int), ()) w55) (W.law34_ImageRoundTrip_k14 p11 s46.1.1 s46.1.2.1 s46.1.2.2 p13 w47 Q)) ((p12, p12n, p12c), (0 : Int), ()) w44
def W.law34_ImageRoundTrip (board_ : Array Value) (generation_ : Int) (l_ : Option Addr) (l_n : Nat) (l_c : Nat) (more_ : Int) (c_ : Int) (w : World) (Q : Value → World → Prop) : Prop :=
  al 30 board_ w fun a2 w1 =>
  CallE Try.prog 20 #[(.slice l_ l_n l_c)] w1 fun v3 w4 => fB v3 fun b5 =>
  br b5 (CallE Try.prog 12 #[] w4 fun v6 w7 => fB v6 fun b8 =>
  Q (.bool b8) w7) (ld Try.prog 30 a2 w4 fun v9 => fG v9 fun g10 =>
  CallE Try.prog 21 #[(.agg g10), (.int .u64 generation_), (.slice l_ l_n l_c)] w4 fun v11 w12 => fG v11 fun g13 =>
  al 45 (zeroT Try.prog 45).cells w12 fun a15 w14 =>
  st Try.prog 45 a15 (.agg g13) w14 fun w16 =>
  ld Try.prog 45 a15 w16 fun v17 => fG v17 fun g18 =>
  CallE Try.prog 22 #[(.agg g18)] w16 fun v19 w20 => ∃ (l21 : Option Addr) (l21n : Nat) (l21c : Nat) (x22 : Int), v19 = .tuple #[(.slice l21 l21n l21c), (.int .i64 x22)] ∧
  rv Try.prog (Instr.makeSlice 26 (.int .i64 64) (.int .i64 64)) w20 fun v23 w24 => fS v23 fun l25 l25n l25c =>
  LoopW (S := Int × Unit) (fun s57 w58 next59 =>
  br (decide ((s57.1 : Int) < ((l25n : Nat) : Int))) (rq Try.prog (Instr.indexAt 26 (.slice l25 l25n l25c) (.int .i64 s57.1)) w58 fun v60 => fA v60 fun a61 =>
  st Try.prog 5 a61 (.int .u8 c_) w58 fun w62 =>
  next59 (((IntKind.wrap .i64 (s57.1 + 1)) : Int), ()) w62) (W.law34_ImageRoundTrip_k10 more_ a15 l21 l21n l21c x22 l25 l25n l25c w58 Q)) ((0 : Int), ()) w24)
theorem E.law34_ImageRoundTrip (board_ : Array Value) (generation_ : Int) (l_ : Option Addr) (l_n : Nat) (l_c : Nat) (more_ : Int) (c_ : Int) (w : World) (Q : Value → World → Prop) : ev Try.prog Try.f8.ntmps callable [(11, [(12, .slice none 0 0), (43, .int .i64 0)], [11, 13, 14, 42]), (7, [(15, .int .i64 0)], [3, 4, 11, 12, 13, 14])] [] (Try.f8.body.getD .skip) (enumE 0 [(.agg board_), (.int .u64 generation_), (.slice l_ l_n l_c), (.int .i64 more_), (.int .u8 c_)]) w (KQ Try.prog Try.f8.results.toList Q) = W.law34_ImageRoundTrip board_ generation_ l_ l_n l_c more_ c_ w Q := by kernel_rfl
theorem C.law34_ImageRoundTrip (board_ : Array Value) (generation_ : Int) (l_ : Option Addr) (l_n : Nat) (l_c : Nat) (more_ : Int) (c_ : Int) (w : World) (Q : Value → World → Prop) (h : W.law34_ImageRoundTrip board_ generation_ l_ l_n l_c more_ c_ w Q) : CallE Try.prog 8 #[(.agg board_), (.int .u64 generation_), (.slice l_ l_n l_c), (.int .i64 more_), (.int .u8 c_)] w Q :=
  calls_of_ev mixed callable_ok (args := [(.agg board_), (.int .u64 generation_), (.slice l_ l_n l_c), (.int .i64 more_), (.int .u8 c_)]) Try.func8 rfl ((E.law34_ImageRoundTrip board_ generation_ l_ l_n l_c more_ c_ w Q).symm ▸ h)

def W.law34_ImageDetectsBitErrors_k15 (p7 : Option Addr) (p7n : Nat) (p7c : Nat) (w : World) (Q : Value → World → Prop) : Prop :=
  CallE Try.prog 25 #[(.slice p7 p7n p7c)] w fun v38 w39 => ∃ (g40 : Array Value) (x41 : Int), v38 = .tuple #[(.agg g40), (.int .i64 x41)] ∧
  al 45 (zeroT Try.prog 45).cells w39 fun a43 w42 =>
  st Try.prog 45 a43 (.agg g40) w42 fun w44 =>
  br ((x41 : Int) != 0) (CallE Try.prog 12 #[] w44 fun v45 w46 => fB v45 fun b47 =>
  Q (.bool b47) w46) (Q (.bool false) w44)
def W.law34_ImageDetectsBitErrors (l_ : Option Addr) (l_n : Nat) (l_c : Nat) (k_ : Int) (bit_ : Int) (w : World) (Q : Value → World → Prop) : Prop :=
  CallE Try.prog 20 #[(.slice l_ l_n l_c)] w fun v1 w2 => fB v1 fun b3 =>
  br b3 (CallE Try.prog 12 #[] w2 fun v4 w5 => fB v4 fun b6 =>
  Q (.bool b6) w5) (CallE Try.prog 21 #[(.agg #[(.int .u8 7), (.int .u8 0), (.int .u8 0), (.int .u8 0), (.int .u8 0), (.int .u8 0), (.int .u8 0), (.int .u8 0), (.int .u8 0), (.int .u8 0), (.int .u8 0), (.int .u8 0), (.int .u8 0), (.int .u8 0), (.int .u8 0), (.int .u8 0), (.int .u8 0), (.int .u8 0), (.int .u8 0), (.int .u8 0), (.int .u8 0), (.int .u8 0), (.int .u8 0), (.int .u8 0), (.int .u8 0), (.int .u8 0), (.int .u8 0), (.int .u8 0), (.int .u8 0), (.int .u8 0), (.int .u8 0), (.int .u8 0)]), (.int .u64 1), (.slice l_ l_n l_c)] w2 fun v7 w8 => fG v7 fun g9 =>
  CallE Try.prog 22 #[(.agg g9)] w8 fun v10 w11 => ∃ (l12 : Option Addr) (l12n : Nat) (l12c : Nat) (x13 : Int), v10 = .tuple #[(.slice l12 l12n l12c), (.int .i64 x13)] ∧
  br ((x13 : Int) != 0) (Q (.bool false) w11) (br ((((l12n : Nat) : Int) : Int) == 0) (Q (.bool false) w11) (rq Try.prog (Instr.indexAt 47 (.slice l12 l12n l12c) (.int .i64 0)) w11 fun v14 => fA v14 fun a15 =>
  ld Try.prog 9 a15 w11 fun v16 => fT v16 fun t17 =>
  br ((((t17.size : Nat) : Int) : Int) != 64) (Q (.bool false) w11) (rq Try.prog (Instr.indexAt 47 (.slice l12 l12n l12c) (.int .i64 0)) w11 fun v18 => fA v18 fun a19 =>
  ld Try.prog 9 a19 w11 fun v20 => fT v20 fun t21 =>
  CallE Try.prog 16 #[(.string t21)] w11 fun v22 w23 => ∃ (g24 : Array Value) (x25 : Int), v22 = .tuple #[(.agg g24), (.int .i64 x25)] ∧
  al 32 (zeroT Try.prog 32).cells w23 fun a27 w26 =>
  st Try.prog 32 a27 (.agg g24) w26 fun w28 =>
  br ((x25 : Int) != 0) (Q (.bool false) w28) (ld Try.prog 23 (a27.add 33) w28 fun v29 => fI .u32 v29 fun x30 =>
  CallE Try.prog 18 #[(.int .i64 k_), (.int .i64 (IntKind.wrap .i64 (64 + (IntKind.wrap .i64 x30))))] w28 fun v31 w32 => fI .i64 v31 fun x33 =>
  br (decide (((IntKind.wrap .i64 (Int.tdiv x33 64)) : Int) ≥ ((l12n : Nat) : Int))) (Q (.bool false) w32) (rq Try.prog (Instr.indexAt 47 (.slice l12 l12n l12c) (.int .i64 (IntKind.wrap .i64 (Int.tdiv x33 64)))) w32 fun v34 => fA v34 fun a35 =>
  ld Try.prog 9 a35 w32 fun v36 => fT v36 fun t37 =>
  br ((((t37.size : Nat) : Int) : Int) != 64) (Q (.bool false) w32) (drawE fun S48 => S48 (drew w32) ∧ (rqS Try.prog S48 (Instr.indexAt 47 (.slice l12 l12n l12c) (.int .i64 (IntKind.wrap .i64 (Int.tdiv x33 64)))) fun v49 => fA v49 fun a50 =>
  rqS Try.prog S48 (Instr.indexAt 47 (.slice l12 l12n l12c) (.int .i64 (IntKind.wrap .i64 (Int.tdiv x33 64)))) fun v51 => fA v51 fun a52 =>
  rqS Try.prog S48 (Instr.indexAt 47 (.slice l12 l12n l12c) (.int .i64 (IntKind.wrap .i64 (Int.tdiv x33 64)))) fun v53 => fA v53 fun a54 =>
  (ld Try.prog 9 a50 (drew w32) fun v55 => fT v55 fun t56 =>
  S48 (drew w32) ∧ (rqS Try.prog S48 (Instr.sliceAt 9 (.string t56) none (some (.int .i64 (Int.tmod x33 64))) none) fun v57 => fT v57 fun t58 =>
  (ld Try.prog 9 a52 (drew w32) fun v59 => fT v59 fun t60 =>
  S48 (drew w32) ∧ (rqS Try.prog S48 (Instr.index 9 (.string t60) (.int .i64 (Int.tmod x33 64))) fun v61 => fI .u8 v61 fun x62 =>
  (CallE Try.prog 18 #[(.int .i64 bit_), (.int .i64 8)] (drew w32) fun v63 w64 => fI .i64 v63 fun x65 =>
  S48 w64 ∧ (rqS Try.prog S48 (do eqGuard .shl 5 (.const (.int .u8 1)) (.tmp 89) (.int .u8 1) (.int .u64 (IntKind.wrap .u64 x65)); binOp .shl 5 (.int .u8 1) (.int .u64 (IntKind.wrap .u64 x65))) fun v66 => fI .u8 v66 fun x67 =>
  (al 5 #[(.int .u8 (bxor .u8 x62 x67))] w64 fun a69 w68 =>
  S48 w68 ∧ ((rv Try.prog (convert 26 9 (.slice (some a69) 1 1)) w68 fun v70 w71 => fT v70 fun t72 =>
  S48 w71 ∧ (rqS Try.prog S48 (do eqGuard .add 9 (.tmp 80) (.tmp 93) (.string t58) (.string t72); binOp .add 9 (.string t58) (.string t72)) fun v73 => fT v73 fun t74 =>
  ld Try.prog 9 a54 w71 fun v75 => fT v75 fun t76 =>
  S48 w71 ∧ (rqS Try.prog S48 (Instr.sliceAt 9 (.string t76) (some (.int .i64 (IntKind.wrap .i64 ((Int.tmod x33 64) + 1)))) none none) fun v77 => fT v77 fun t78 =>
  rqS Try.prog S48 (do eqGuard .add 9 (.tmp 94) (.tmp 101) (.string t74) (.string t78); binOp .add 9 (.string t74) (.string t78)) fun v79 => fT v79 fun t80 =>
  rqS Try.prog S48 (Instr.indexAt 47 (.slice l12 l12n l12c) (.int .i64 (IntKind.wrap .i64 (Int.tdiv x33 64)))) fun v81 => fA v81 fun a82 =>
  st Try.prog 9 a82 (.string t80) w71 fun w83 =>
  S48 w83 ∧ (W.law34_ImageDetectsBitErrors_k15 l12 l12n l12c w83 Q)))) ∧ (ld Try.prog 9 a54 w68 fun v84 => fT v84 fun t85 =>
  S48 w68 ∧ (rqS Try.prog S48 (Instr.sliceAt 9 (.string t85) (some (.int .i64 (IntKind.wrap .i64 ((Int.tmod x33 64) + 1)))) none none) fun v86 => fT v86 fun t87 =>
  rv Try.prog (convert 26 9 (.slice (some a69) 1 1)) w68 fun v88 w89 => fT v88 fun t90 =>
  S48 w89 ∧ (rqS Try.prog S48 (do eqGuard .add 9 (.tmp 80) (.tmp 93) (.string t58) (.string t90); binOp .add 9 (.string t58) (.string t90)) fun v91 => fT v91 fun t92 =>
  rqS Try.prog S48 (do eqGuard .add 9 (.tmp 94) (.tmp 101) (.string t92) (.string t87); binOp .add 9 (.string t92) (.string t87)) fun v93 => fT v93 fun t94 =>
  rqS Try.prog S48 (Instr.indexAt 47 (.slice l12 l12n l12c) (.int .i64 (IntKind.wrap .i64 (Int.tdiv x33 64)))) fun v95 => fA v95 fun a96 =>
  st Try.prog 9 a96 (.string t94) w89 fun w97 =>
  S48 w97 ∧ (W.law34_ImageDetectsBitErrors_k15 l12 l12n l12c w97 Q)))))) ∧ (ld Try.prog 9 a54 w64 fun v98 => fT v98 fun t99 =>
  S48 w64 ∧ (rqS Try.prog S48 (Instr.sliceAt 9 (.string t99) (some (.int .i64 (IntKind.wrap .i64 ((Int.tmod x33 64) + 1)))) none none) fun v100 => fT v100 fun t101 =>
  al 5 #[(.int .u8 (bxor .u8 x62 x67))] w64 fun a103 w102 =>
  S48 w102 ∧ (rv Try.prog (convert 26 9 (.slice (some a103) 1 1)) w102 fun v104 w105 => fT v104 fun t106 =>
  S48 w105 ∧ (rqS Try.prog S48 (do eqGuard .add 9 (.tmp 80) (.tmp 93) (.string t58) (.string t106); binOp .add 9 (.string t58) (.string t106)) fun v107 => fT v107 fun t108 =>
  rqS Try.prog S48 (do eqGuard .add 9 (.tmp 94) (.tmp 101) (.string t108) (.string t101); binOp .add 9 (.string t108) (.string t101)) fun v109 => fT v109 fun t110 =>
  rqS Try.prog S48 (Instr.indexAt 47 (.slice l12 l12n l12c) (.int .i64 (IntKind.wrap .i64 (Int.tdiv x33 64)))) fun v111 => fA v111 fun a112 =>
  st Try.prog 9 a112 (.string t110) w105 fun w113 =>
  S48 w113 ∧ (W.law34_ImageDetectsBitErrors_k15 l12 l12n l12c w113 Q))))))) ∧ (ld Try.prog 9 a54 (drew w32) fun v114 => fT v114 fun t115 =>
  S48 (drew w32) ∧ (rqS Try.prog S48 (Instr.sliceAt 9 (.string t115) (some (.int .i64 (IntKind.wrap .i64 ((Int.tmod x33 64) + 1)))) none none) fun v116 => fT v116 fun t117 =>
  CallE Try.prog 18 #[(.int .i64 bit_), (.int .i64 8)] (drew w32) fun v118 w119 => fI .i64 v118 fun x120 =>
  S48 w119 ∧ (rqS Try.prog S48 (do eqGuard .shl 5 (.const (.int .u8 1)) (.tmp 89) (.int .u8 1) (.int .u64 (IntKind.wrap .u64 x120)); binOp .shl 5 (.int .u8 1) (.int .u64 (IntKind.wrap .u64 x120))) fun v121 => fI .u8 v121 fun x122 =>
  al 5 #[(.int .u8 (bxor .u8 x62 x122))] w119 fun a124 w123 =>
  S48 w123 ∧ (rv Try.prog (convert 26 9 (.slice (some a124) 1 1)) w123 fun v125 w126 => fT v125 fun t127 =>
  S48 w126 ∧ (rqS Try.prog S48 (do eqGuard .add 9 (.tmp 80) (.tmp 93) (.string t58) (.string t127); binOp .add 9 (.string t58) (.string t127)) fun v128 => fT v128 fun t129 =>
  rqS Try.prog S48 (do eqGuard .add 9 (.tmp 94) (.tmp 101) (.string t129) (.string t117); binOp .add 9 (.string t129) (.string t117)) fun v130 => fT v130 fun t131 =>
  rqS Try.prog S48 (Instr.indexAt 47 (.slice l12 l12n l12c) (.int .i64 (IntKind.wrap .i64 (Int.tdiv x33 64)))) fun v132 => fA v132 fun a133 =>
  st Try.prog 9 a133 (.string t131) w126 fun w134 =>
  S48 w134 ∧ (W.law34_ImageDetectsBitErrors_k15 l12 l12n l12c w134 Q)))))))) ∧ (CallE Try.prog 18 #[(.int .i64 bit_), (.int .i64 8)] (drew w32) fun v135 w136 => fI .i64 v135 fun x137 =>
  S48 w136 ∧ (rqS Try.prog S48 (do eqGuard .shl 5 (.const (.int .u8 1)) (.tmp 89) (.int .u8 1) (.int .u64 (IntKind.wrap .u64 x137)); binOp .shl 5 (.int .u8 1) (.int .u64 (IntKind.wrap .u64 x137))) fun v138 => fI .u8 v138 fun x139 =>
  (ld Try.prog 9 a52 w136 fun v140 => fT v140 fun t141 =>
  S48 w136 ∧ (rqS Try.prog S48 (Instr.index 9 (.string t141) (.int .i64 (Int.tmod x33 64))) fun v142 => fI .u8 v142 fun x143 =>
  (al 5 #[(.int .u8 (bxor .u8 x143 x139))] w136 fun a145 w144 =>
  S48 w144 ∧ ((rv Try.prog (convert 26 9 (.slice (some a145) 1 1)) w144 fun v146 w147 => fT v146 fun t148 =>
  S48 w147 ∧ (rqS Try.prog S48 (do eqGuard .add 9 (.tmp 80) (.tmp 93) (.string t58) (.string t148); binOp .add 9 (.string t58) (.string t148)) fun v149 => fT v149 fun t150 =>
  ld Try.prog 9 a54 w147 fun v151 => fT v151 fun t152 =>
  S48 w147 ∧ (rqS Try.prog S48 (Instr.sliceAt 9 (.string t152) (some (.int .i64 (IntKind.wrap .i64 ((Int.tmod x33 64) + 1)))) none none) fun v153 => fT v153 fun t154 =>
  rqS Try.prog S48 (do eqGuard .add 9 (.tmp 94) (.tmp 101) (.string t150) (.string t154); binOp .add 9 (.string t150) (.string t154)) fun v155 => fT v155 fun t156 =>
  rqS Try.prog S48 (Instr.indexAt 47 (.slice l12 l12n l12c) (.int .i64 (IntKind.wrap .i64 (Int.tdiv x33 64)))) fun v157 => fA v157 fun a158 =>
  st Try.prog 9 a158 (.string t156) w147 fun w159 =>
  S48 w159 ∧ (W.law34_ImageDetectsBitErrors_k15 l12 l12n l12c w159 Q)))) ∧ (ld Try.prog 9 a54 w144 fun v160 => fT v160 fun t161 =>
  S48 w144 ∧ (rqS Try.prog S48 (Instr.sliceAt 9 (.string t161) (some (.int .i64 (IntKind.wrap .i64 ((Int.tmod x33 64) + 1)))) none none) fun v162 => fT v162 fun t163 =>
  rv Try.prog (convert 26 9 (.slice (some a145) 1 1)) w144 fun v164 w165 => fT v164 fun t166 =>
  S48 w165 ∧ (rqS Try.prog S48 (do eqGuard .add 9 (.tmp 80) (.tmp 93) (.string t58) (.string t166); binOp .add 9 (.string t58) (.string t166)) fun v167 => fT v167 fun t168 =>
  rqS Try.prog S48 (do eqGuard .add 9 (.tmp 94) (.tmp 101) (.string t168) (.string t163); binOp .add 9 (.string t168) (.string t163)) fun v169 => fT v169 fun t170 =>
  rqS Try.prog S48 (Instr.indexAt 47 (.slice l12 l12n l12c) (.int .i64 (IntKind.wrap .i64 (Int.tdiv x33 64)))) fun v171 => fA v171 fun a172 =>
  st Try.prog 9 a172 (.string t170) w165 fun w173 =>
  S48 w173 ∧ (W.law34_ImageDetectsBitErrors_k15 l12 l12n l12c w173 Q)))))) ∧ (ld Try.prog 9 a54 w136 fun v174 => fT v174 fun t175 =>
  S48 w136 ∧ (rqS Try.prog S48 (Instr.sliceAt 9 (.string t175) (some (.int .i64 (IntKind.wrap .i64 ((Int.tmod x33 64) + 1)))) none none) fun v176 => fT v176 fun t177 =>
  al 5 #[(.int .u8 (bxor .u8 x143 x139))] w136 fun a179 w178 =>
  S48 w178 ∧ (rv Try.prog (convert 26 9 (.slice (some a179) 1 1)) w178 fun v180 w181 => fT v180 fun t182 =>
  S48 w181 ∧ (rqS Try.prog S48 (do eqGuard .add 9 (.tmp 80) (.tmp 93) (.string t58) (.string t182); binOp .add 9 (.string t58) (.string t182)) fun v183 => fT v183 fun t184 =>
  rqS Try.prog S48 (do eqGuard .add 9 (.tmp 94) (.tmp 101) (.string t184) (.string t177); binOp .add 9 (.string t184) (.string t177)) fun v185 => fT v185 fun t186 =>
  rqS Try.prog S48 (Instr.indexAt 47 (.slice l12 l12n l12c) (.int .i64 (IntKind.wrap .i64 (Int.tdiv x33 64)))) fun v187 => fA v187 fun a188 =>
  st Try.prog 9 a188 (.string t186) w181 fun w189 =>
  S48 w189 ∧ (W.law34_ImageDetectsBitErrors_k15 l12 l12n l12c w189 Q))))))) ∧ (ld Try.prog 9 a54 w136 fun v190 => fT v190 fun t191 =>
  S48 w136 ∧ (rqS Try.prog S48 (Instr.sliceAt 9 (.string t191) (some (.int .i64 (IntKind.wrap .i64 ((Int.tmod x33 64) + 1)))) none none) fun v192 => fT v192 fun t193 =>
  ld Try.prog 9 a52 w136 fun v194 => fT v194 fun t195 =>
  S48 w136 ∧ (rqS Try.prog S48 (Instr.index 9 (.string t195) (.int .i64 (Int.tmod x33 64))) fun v196 => fI .u8 v196 fun x197 =>
  al 5 #[(.int .u8 (bxor .u8 x197 x139))] w136 fun a199 w198 =>
  S48 w198 ∧ (rv Try.prog (convert 26 9 (.slice (some a199) 1 1)) w198 fun v200 w201 => fT v200 fun t202 =>
  S48 w201 ∧ (rqS Try.prog S48 (do eqGuard .add 9 (.tmp 80) (.tmp 93) (.string t58) (.string t202); binOp .add 9 (.string t58) (.string t202)) fun v203 => fT v203 fun t204 =>
  rqS Try.prog S48 (do eqGuard .add 9 (.tmp 94) (.tmp 101) (.string t204) (.string t193); binOp .add 9 (.string t204) (.string t193)) fun v205 => fT v205 fun t206 =>
  rqS Try.prog S48 (Instr.indexAt 47 (.slice l12 l12n l12c) (.int .i64 (IntKind.wrap .i64 (Int.tdiv x33 64)))) fun v207 => fA v207 fun a208 =>
  st Try.prog 9 a208 (.string t206) w201 fun w209 =>
  S48 w209 ∧ (W.law34_ImageDetectsBitErrors_k15 l12 l12n l12c w209 Q)))))))) ∧ (ld Try.prog 9 a54 (drew w32) fun v210 => fT v210 fun t211 =>
  S48 (drew w32) ∧ (rqS Try.prog S48 (Instr.sliceAt 9 (.string t211) (some (.int .i64 (IntKind.wrap .i64 ((Int.tmod x33 64) + 1)))) none none) fun v212 => fT v212 fun t213 =>
  (ld Try.prog 9 a52 (drew w32) fun v214 => fT v214 fun t215 =>
  S48 (drew w32) ∧ (rqS Try.prog S48 (Instr.index 9 (.string t215) (.int .i64 (Int.tmod x33 64))) fun v216 => fI .u8 v216 fun x217 =>
  CallE Try.prog 18 #[(.int .i64 bit_), (.int .i64 8)] (drew w32) fun v218 w219 => fI .i64 v218 fun x220 =>
  S48 w219 ∧ (rqS Try.prog S48 (do eqGuard .shl 5 (.const (.int .u8 1)) (.tmp 89) (.int .u8 1) (.int .u64 (IntKind.wrap .u64 x220)); binOp .shl 5 (.int .u8 1) (.int .u64 (IntKind.wrap .u64 x220))) fun v221 => fI .u8 v221 fun x222 =>
  al 5 #[(.int .u8 (bxor .u8 x217 x222))] w219 fun a224 w223 =>
  S48 w223 ∧ (rv Try.prog (convert 26 9 (.slice (some a224) 1 1)) w223 fun v225 w226 => fT v225 fun t227 =>
  S48 w226 ∧ (rqS Try.prog S48 (do eqGuard .add 9 (.tmp 80) (.tmp 93) (.string t58) (.string t227); binOp .add 9 (.string t58) (.string t227)) fun v228 => fT v228 fun t229 =>
  rqS Try.prog S48 (do eqGuard .add 9 (.tmp 94) (.tmp 101) (.string t229) (.string t213); binOp .add 9 (.string t229) (.string t213)) fun v230 => fT v230 fun t231 =>
  rqS Try.prog S48 (Instr.indexAt 47 (.slice l12 l12n l12c) (.int .i64 (IntKind.wrap .i64 (Int.tdiv x33 64)))) fun v232 => fA v232 fun a233 =>
  st Try.prog 9 a233 (.string t231) w226 fun w234 =>
  S48 w234 ∧ (W.law34_ImageDetectsBitErrors_k15 l12 l12n l12c w234 Q)))))) ∧ (CallE Try.prog 18 #[(.int .i64 bit_), (.int .i64 8)] (drew w32) fun v235 w236 => fI .i64 v235 fun x237 =>
  S48 w236 ∧ (rqS Try.prog S48 (do eqGuard .shl 5 (.const (.int .u8 1)) (.tmp 89) (.int .u8 1) (.int .u64 (IntKind.wrap .u64 x237)); binOp .shl 5 (.int .u8 1) (.int .u64 (IntKind.wrap .u64 x237))) fun v238 => fI .u8 v238 fun x239 =>
  ld Try.prog 9 a52 w236 fun v240 => fT v240 fun t241 =>
  S48 w236 ∧ (rqS Try.prog S48 (Instr.index 9 (.string t241) (.int .i64 (Int.tmod x33 64))) fun v242 => fI .u8 v242 fun x243 =>
  al 5 #[(.int .u8 (bxor .u8 x243 x239))] w236 fun a245 w244 =>
  S48 w244 ∧ (rv Try.prog (convert 26 9 (.slice (some a245) 1 1)) w244 fun v246 w247 => fT v246 fun t248 =>
  S48 w247 ∧ (rqS Try.prog S48 (do eqGuard .add 9 (.tmp 80) (.tmp 93) (.string t58) (.string t248); binOp .add 9 (.string t58) (.string t248)) fun v249 => fT v249 fun t250 =>
  rqS Try.prog S48 (do eqGuard .add 9 (.tmp 94) (.tmp 101) (.string t250) (.string t213); binOp .add 9 (.string t250) (.string t213)) fun v251 => fT v251 fun t252 =>
  rqS Try.prog S48 (Instr.indexAt 47 (.slice l12 l12n l12c) (.int .i64 (IntKind.wrap .i64 (Int.tdiv x33 64)))) fun v253 => fA v253 fun a254 =>
  st Try.prog 9 a254 (.string t252) w247 fun w255 =>
  S48 w255 ∧ (W.law34_ImageDetectsBitErrors_k15 l12 l12n l12c w255 Q)))))))))) ∧ (ld Try.prog 9 a52 (drew w32) fun v256 => fT v256 fun t257 =>
  S48 (drew w32) ∧ (rqS Try.prog S48 (Instr.index 9 (.string t257) (.int .i64 (Int.tmod x33 64))) fun v258 => fI .u8 v258 fun x259 =>
  (ld Try.prog 9 a50 (drew w32) fun v260 => fT v260 fun t261 =>
  S48 (drew w32) ∧ (rqS Try.prog S48 (Instr.sliceAt 9 (.string t261) none (some (.int .i64 (Int.tmod x33 64))) none) fun v262 => fT v262 fun t263 =>
  (CallE Try.prog 18 #[(.int .i64 bit_), (.int .i64 8)] (drew w32) fun v264 w265 => fI .i64 v264 fun x266 =>
  S48 w265 ∧ (rqS Try.prog S48 (do eqGuard .shl 5 (.const (.int .u8 1)) (.tmp 89) (.int .u8 1) (.int .u64 (IntKind.wrap .u64 x266)); binOp .shl 5 (.int .u8 1) (.int .u64 (IntKind.wrap .u64 x266))) fun v267 => fI .u8 v267 fun x268 =>
  (al 5 #[(.int .u8 (bxor .u8 x259 x268))] w265 fun a270 w269 =>
  S48 w269 ∧ ((rv Try.prog (convert 26 9 (.slice (some a270) 1 1)) w269 fun v271 w272 => fT v271 fun t273 =>
  S48 w272 ∧ (rqS Try.prog S48 (do eqGuard .add 9 (.tmp 80) (.tmp 93) (.string t263) (.string t273); binOp .add 9 (.string t263) (.string t273)) fun v274 => fT v274 fun t275 =>
  ld Try.prog 9 a54 w272 fun v276 => fT v276 fun t277 =>
  S48 w272 ∧ (rqS Try.prog S48 (Instr.sliceAt 9 (.string t277) (some (.int .i64 (IntKind.wrap .i64 ((Int.tmod x33 64) + 1)))) none none) fun v278 => fT v278 fun t279 =>
  rqS Try.prog S48 (do eqGuard .add 9 (.tmp 94) (.tmp 101) (.string t275) (.string t279); binOp .add 9 (.string t275) (.string t279)) fun v280 => fT v280 fun t281 =>
  rqS Try.prog S48 (Instr.indexAt 47 (.slice l12 l12n l12c) (.int .i64 (IntKind.wrap .i64 (Int.tdiv x33 64)))) fun v282 => fA v282 fun a283 =>
  st Try.prog 9 a283 (.string t281) w272 fun w284 =>
  S48 w284 ∧ (W.law34_ImageDetectsBitErrors_k15 l12 l12n l12c w284 Q)))) ∧ (ld Try.prog 9 a54 w269 fun v285 => fT v285 fun t286 =>
  S48 w269 ∧ (rqS Try.prog S48 (Instr.sliceAt 9 (.string t286) (some (.int .i64 (IntKind.wrap .i64 ((Int.tmod x33 64) + 1)))) none none) fun v287 => fT v287 fun t288 =>
  rv Try.prog (convert 26 9 (.slice (some a270) 1 1)) w269 fun v289 w290 => fT v289 fun t291 =>
  S48 w290 ∧ (rqS Try.prog S48 (do eqGuard .add 9 (.tmp 80) (.tmp 93) (.string t263) (.string t291); binOp .add 9 (.string t263) (.string t291)) fun v292 => fT v292 fun t293 =>
  rqS Try.prog S48 (do eqGuard .add 9 (.tmp 94) (.tmp 101) (.string t293) (.string t288); binOp .add 9 (.string t293) (.string t288)) fun v294 => fT v294 fun t295 =>
  rqS Try.prog S48 (Instr.indexAt 47 (.slice l12 l12n l12c) (.int .i64 (IntKind.wrap .i64 (Int.tdiv x33 64)))) fun v296 => fA v296 fun a297 =>
  st Try.prog 9 a297 (.string t295) w290 fun w298 =>
  S48 w298 ∧ (W.law34_ImageDetectsBitErrors_k15 l12 l12n l12c w298 Q)))))) ∧ (ld Try.prog 9 a54 w265 fun v299 => fT v299 fun t300 =>
  S48 w265 ∧ (rqS Try.prog S48 (Instr.sliceAt 9 (.string t300) (some (.int .i64 (IntKind.wrap .i64 ((Int.tmod x33 64) + 1)))) none none) fun v301 => fT v301 fun t302 =>
  al 5 #[(.int .u8 (bxor .u8 x259 x268))] w265 fun a304 w303 =>
  S48 w303 ∧ (rv Try.prog (convert 26 9 (.slice (some a304) 1 1)) w303 fun v305 w306 => fT v305 fun t307 =>
  S48 w306 ∧ (rqS Try.prog S48 (do eqGuard .add 9 (.tmp 80) (.tmp 93) (.string t263) (.string t307); binOp .add 9 (.string t263) (.string t307)) fun v308 => fT v308 fun t309 =>
  rqS Try.prog S48 (do eqGuard .add 9 (.tmp 94) (.tmp 101) (.string t309) (.string t302); binOp .add 9 (.string t309) (.string t302)) fun v310 => fT v310 fun t311 =>
  rqS Try.prog S48 (Instr.indexAt 47 (.slice l12 l12n l12c) (.int .i64 (IntKind.wrap .i64 (Int.tdiv x33 64)))) fun v312 => fA v312 fun a313 =>
  st Try.prog 9 a313 (.string t311) w306 fun w314 =>
  S48 w314 ∧ (W.law34_ImageDetectsBitErrors_k15 l12 l12n l12c w314 Q))))))) ∧ (ld Try.prog 9 a54 (drew w32) fun v315 => fT v315 fun t316 =>
  S48 (drew w32) ∧ (rqS Try.prog S48 (Instr.sliceAt 9 (.string t316) (some (.int .i64 (IntKind.wrap .i64 ((Int.tmod x33 64) + 1)))) none none) fun v317 => fT v317 fun t318 =>
  CallE Try.prog 18 #[(.int .i64 bit_), (.int .i64 8)] (drew w32) fun v319 w320 => fI .i64 v319 fun x321 =>
  S48 w320 ∧ (rqS Try.prog S48 (do eqGuard .shl 5 (.const (.int .u8 1)) (.tmp 89) (.int .u8 1) (.int .u64 (IntKind.wrap .u64 x321)); binOp .shl 5 (.int .u8 1) (.int .u64 (IntKind.wrap .u64 x321))) fun v322 => fI .u8 v322 fun x323 =>
  al 5 #[(.int .u8 (bxor .u8 x259 x323))] w320 fun a325 w324 =>
  S48 w324 ∧ (rv Try.prog (convert 26 9 (.slice (some a325) 1 1)) w324 fun v326 w327 => fT v326 fun t328 =>
  S48 w327 ∧ (rqS Try.prog S48 (do eqGuard .add 9 (.tmp 80) (.tmp 93) (.string t263) (.string t328); binOp .add 9 (.string t263) (.string t328)) fun v329 => fT v329 fun t330 =>
  rqS Try.prog S48 (do eqGuard .add 9 (.tmp 94) (.tmp 101) (.string t330) (.string t318); binOp .add 9 (.string t330) (.string t318)) fun v331 => fT v331 fun t332 =>
  rqS Try.prog S48 (Instr.indexAt 47 (.slice l12 l12n l12c) (.int .i64 (IntKind.wrap .i64 (Int.tdiv x33 64)))) fun v333 => fA v333 fun a334 =>
  st Try.prog 9 a334 (.string t332) w327 fun w335 =>
  S48 w335 ∧ (W.law34_ImageDetectsBitErrors_k15 l12 l12n l12c w335 Q)))))))) ∧ (CallE Try.prog 18 #[(.int .i64 bit_), (.int .i64 8)] (drew w32) fun v336 w337 => fI .i64 v336 fun x338 =>
  S48 w337 ∧ (rqS Try.prog S48 (do eqGuard .shl 5 (.const (.int .u8 1)) (.tmp 89) (.int .u8 1) (.int .u64 (IntKind.wrap .u64 x338)); binOp .shl 5 (.int .u8 1) (.int .u64 (IntKind.wrap .u64 x338))) fun v339 => fI .u8 v339 fun x340 =>
  (ld Try.prog 9 a50 w337 fun v341 => fT v341 fun t342 =>
  S48 w337 ∧ (rqS Try.prog S48 (Instr.sliceAt 9 (.string t342) none (some (.int .i64 (Int.tmod x33 64))) none) fun v343 => fT v343 fun t344 =>
  (al 5 #[(.int .u8 (bxor .u8 x259 x340))] w337 fun a346 w345 =>
  S48 w345 ∧ ((rv Try.prog (convert 26 9 (.slice (some a346) 1 1)) w345 fun v347 w348 => fT v347 fun t349 =>
  S48 w348 ∧ (rqS Try.prog S48 (do eqGuard .add 9 (.tmp 80) (.tmp 93) (.string t344) (.string t349); binOp .add 9 (.string t344) (.string t349)) fun v350 => fT v350 fun t351 =>
  ld Try.prog 9 a54 w348 fun v352 => fT v352 fun t353 =>
  S48 w348 ∧ (rqS Try.prog S48 (Instr.sliceAt 9 (.string t353) (some (.int .i64 (IntKind.wrap .i64 ((Int.tmod x33 64) + 1)))) none none) fun v354 => fT v354 fun t355 =>
  rqS Try.prog S48 (do eqGuard .add 9 (.tmp 94) (.tmp 101) (.string t351) (.string t355); binOp .add 9 (.string t351) (.string t355)) fun v356 => fT v356 fun t357 =>
  rqS Try.prog S48 (Instr.indexAt 47 (.slice l12 l12n l12c) (.int .i64 (IntKind.wrap .i64 (Int.tdiv x33 64)))) fun v358 => fA v358 fun a359 =>
  st Try.prog 9 a359 (.string t357) w348 fun w360 =>
  S48 w360 ∧ (W.law34_ImageDetectsBitErrors_k15 l12 l12n l12c w360 Q)))) ∧ (ld Try.prog 9 a54 w345 fun v361 => fT v361 fun t362 =>
  S48 w345 ∧ (rqS Try.prog S48 (Instr.sliceAt 9 (.string t362) (some (.int .i64 (IntKind.wrap .i64 ((Int.tmod x33 64) + 1)))) none none) fun v363 => fT v363 fun t364 =>
  rv Try.prog (convert 26 9 (.slice (some a346) 1 1)) w345 fun v365 w366 => fT v365 fun t367 =>
  S48 w366 ∧ (rqS Try.prog S48 (do eqGuard .add 9 (.tmp 80) (.tmp 93) (.string t344) (.string t367); binOp .add 9 (.string t344) (.string t367)) fun v368 => fT v368 fun t369 =>
  rqS Try.prog S48 (do eqGuard .add 9 (.tmp 94) (.tmp 101) (.string t369) (.string t364); binOp .add 9 (.string t369) (.string t364)) fun v370 => fT v370 fun t371 =>
  rqS Try.prog S48 (Instr.indexAt 47 (.slice l12 l12n l12c) (.int .i64 (IntKind.wrap .i64 (Int.tdiv x33 64)))) fun v372 => fA v372 fun a373 =>
  st Try.prog 9 a373 (.string t371) w366 fun w374 =>
  S48 w374 ∧ (W.law34_ImageDetectsBitErrors_k15 l12 l12n l12c w374 Q)))))) ∧ (ld Try.prog 9 a54 w337 fun v375 => fT v375 fun t376 =>
  S48 w337 ∧ (rqS Try.prog S48 (Instr.sliceAt 9 (.string t376) (some (.int .i64 (IntKind.wrap .i64 ((Int.tmod x33 64) + 1)))) none none) fun v377 => fT v377 fun t378 =>
  al 5 #[(.int .u8 (bxor .u8 x259 x340))] w337 fun a380 w379 =>
  S48 w379 ∧ (rv Try.prog (convert 26 9 (.slice (some a380) 1 1)) w379 fun v381 w382 => fT v381 fun t383 =>
  S48 w382 ∧ (rqS Try.prog S48 (do eqGuard .add 9 (.tmp 80) (.tmp 93) (.string t344) (.string t383); binOp .add 9 (.string t344) (.string t383)) fun v384 => fT v384 fun t385 =>
  rqS Try.prog S48 (do eqGuard .add 9 (.tmp 94) (.tmp 101) (.string t385) (.string t378); binOp .add 9 (.string t385) (.string t378)) fun v386 => fT v386 fun t387 =>
  rqS Try.prog S48 (Instr.indexAt 47 (.slice l12 l12n l12c) (.int .i64 (IntKind.wrap .i64 (Int.tdiv x33 64)))) fun v388 => fA v388 fun a389 =>
  st Try.prog 9 a389 (.string t387) w382 fun w390 =>
  S48 w390 ∧ (W.law34_ImageDetectsBitErrors_k15 l12 l12n l12c w390 Q))))))) ∧ (al 5 #[(.int .u8 (bxor .u8 x259 x340))] w337 fun a392 w391 =>
  S48 w391 ∧ ((ld Try.prog 9 a50 w391 fun v393 => fT v393 fun t394 =>
  S48 w391 ∧ (rqS Try.prog S48 (Instr.sliceAt 9 (.string t394) none (some (.int .i64 (Int.tmod x33 64))) none) fun v395 => fT v395 fun t396 =>
  (rv Try.prog (convert 26 9 (.slice (some a392) 1 1)) w391 fun v397 w398 => fT v397 fun t399 =>
  S48 w398 ∧ (rqS Try.prog S48 (do eqGuard .add 9 (.tmp 80) (.tmp 93) (.string t396) (.string t399); binOp .add 9 (.string t396) (.string t399)) fun v400 => fT v400 fun t401 =>
  ld Try.prog 9 a54 w398 fun v402 => fT v402 fun t403 =>
  S48 w398 ∧ (rqS Try.prog S48 (Instr.sliceAt 9 (.string t403) (some (.int .i64 (IntKind.wrap .i64 ((Int.tmod x33 64) + 1)))) none none) fun v404 => fT v404 fun t405 =>
  rqS Try.prog S48 (do eqGuard .add 9 (.tmp 94) (.tmp 101) (.string t401) (.string t405); binOp .add 9 (.string t401) (.string t405)) fun v406 => fT v406 fun t407 =>
  rqS Try.prog S48 (Instr.indexAt 47 (.slice l12 l12n l12c) (.int .i64 (IntKind.wrap .i64 (Int.tdiv x33 64)))) fun v408 => fA v408 fun a409 =>
  st Try.prog 9 a409 (.string t407) w398 fun w410 =>
  S48 w410 ∧ (W.law34_ImageDetectsBitErrors_k15 l12 l12n l12c w410 Q)))) ∧ (ld Try.prog 9 a54 w391 fun v411 => fT v411 fun t412 =>
  S48 w391 ∧ (rqS Try.prog S48 (Instr.sliceAt 9 (.string t412) (some (.int .i64 (IntKind.wrap .i64 ((Int.tmod x33 64) + 1)))) none none) fun v413 => fT v413 fun t414 =>
  rv Try.prog (convert 26 9 (.slice (some a392) 1 1)) w391 fun v415 w416 => fT v415 fun t417 =>
  S48 w416 ∧ (rqS Try.prog S48 (do eqGuard .add 9 (.tmp 80) (.tmp 93) (.string t396) (.string t417); binOp .add 9 (.string t396) (.string t417)) fun v418 => fT v418 fun t419 =>
  rqS Try.prog S48 (do eqGuard .add 9 (.tmp 94) (.tmp 101) (.string t419) (.string t414); binOp .add 9 (.string t419) (.string t414)) fun v420 => fT v420 fun t421 =>
  rqS Try.prog S48 (Instr.indexAt 47 (.slice l12 l12n l12c) (.int .i64 (IntKind.wrap .i64 (Int.tdiv x33 64)))) fun v422 => fA v422 fun a423 =>
  st Try.prog 9 a423 (.string t421) w416 fun w424 =>
  S48 w424 ∧ (W.law34_ImageDetectsBitErrors_k15 l12 l12n l12c w424 Q)))))) ∧ (rv Try.prog (convert 26 9 (.slice (some a392) 1 1)) w391 fun v425 w426 => fT v425 fun t427 =>
  S48 w426 ∧ ((ld Try.prog 9 a50 w426 fun v428 => fT v428 fun t429 =>
  S48 w426 ∧ (rqS Try.prog S48 (Instr.sliceAt 9 (.string t429) none (some (.int .i64 (Int.tmod x33 64))) none) fun v430 => fT v430 fun t431 =>
  rqS Try.prog S48 (do eqGuard .add 9 (.tmp 80) (.tmp 93) (.string t431) (.string t427); binOp .add 9 (.string t431) (.string t427)) fun v432 => fT v432 fun t433 =>
  ld Try.prog 9 a54 w426 fun v434 => fT v434 fun t435 =>
  S48 w426 ∧ (rqS Try.prog S48 (Instr.sliceAt 9 (.string t435) (some (.int .i64 (IntKind.wrap .i64 ((Int.tmod x33 64) + 1)))) none none) fun v436 => fT v436 fun t437 =>
  rqS Try.prog S48 (do eqGuard .add 9 (.tmp 94) (.tmp 101) (.string t433) (.string t437); binOp .add 9 (.string t433) (.string t437)) fun v438 => fT v438 fun t439 =>
  rqS Try.prog S48 (Instr.indexAt 47 (.slice l12 l12n l12c) (.int .i64 (IntKind.wrap .i64 (Int.tdiv x33 64)))) fun v440 => fA v440 fun a441 =>
  st Try.prog 9 a441 (.string t439) w426 fun w442 =>
  S48 w442 ∧ (W.law34_ImageDetectsBitErrors_k15 l12 l12n l12c w442 Q)))) ∧ (ld Try.prog 9 a54 w426 fun v443 => fT v443 fun t444 =>
  S48 w426 ∧ (rqS Try.prog S48 (Instr.sliceAt 9 (.string t444) (some (.int .i64 (IntKind.wrap .i64 ((Int.tmod x33 64) + 1)))) none none) fun v445 => fT v445 fun t446 =>
  ld Try.prog 9 a50 w426 fun v447 => fT v447 fun t448 =>
  S48 w426 ∧ (rqS Try.prog S48 (Instr.sliceAt 9 (.string t448) none (some (.int .i64 (Int.tmod x33 64))) none) fun v449 => fT v449 fun t450 =>
  rqS Try.prog S48 (do eqGuard .add 9 (.tmp 80) (.tmp 93) (.string t450) (.string t427); binOp .add 9 (.string t450) (.string t427)) fun v451 => fT v451 fun t452 =>
  rqS Try.prog S48 (do eqGuard .add 9 (.tmp 94) (.tmp 101) (.string t452) (.string t446); binOp .add 9 (.string t452) (.string t446)) fun v453 => fT v453 fun t454 =>
  rqS Try.prog S48 (Instr.indexAt 47 (.slice l12 l12n l12c) (.int .i64 (IntKind.wrap .i64 (Int.tdiv x33 64)))) fun v455 => fA v455 fun a456 =>
  st Try.prog 9 a456 (.string t454) w426 fun w457 =>
  S48 w457 ∧ (W.law34_ImageDetectsBitErrors_k15 l12 l12n l12c w457 Q)))))) ∧ (ld Try.prog 9 a54 w391 fun v458 => fT v458 fun t459 =>
  S48 w391 ∧ (rqS Try.prog S48 (Instr.sliceAt 9 (.string t459) (some (.int .i64 (IntKind.wrap .i64 ((Int.tmod x33 64) + 1)))) none none) fun v460 => fT v460 fun t461 =>
  (ld Try.prog 9 a50 w391 fun v462 => fT v462 fun t463 =>
  S48 w391 ∧ (rqS Try.prog S48 (Instr.sliceAt 9 (.string t463) none (some (.int .i64 (Int.tmod x33 64))) none) fun v464 => fT v464 fun t465 =>
  rv Try.prog (convert 26 9 (.slice (some a392) 1 1)) w391 fun v466 w467 => fT v466 fun t468 =>
  S48 w467 ∧ (rqS Try.prog S48 (do eqGuard .add 9 (.tmp 80) (.tmp 93) (.string t465) (.string t468); binOp .add 9 (.string t465) (.string t468)) fun v469 => fT v469 fun t470 =>
  rqS Try.prog S48 (do eqGuard .add 9 (.tmp 94) (.tmp 101) (.string t470) (.string t461); binOp .add 9 (.string t470) (.string t461)) fun v471 => fT v471 fun t472 =>
  rqS Try.prog S48 (Instr.indexAt 47 (.slice l12 l12n l12c) (.int .i64 (IntKind.wrap .i64 (Int.tdiv x33 64)))) fun v473 => fA v473 fun a474 =>
  st Try.prog 9 a474 (.string t472) w467 fun w475 =>
  S48 w475 ∧ (W.law34_ImageDetectsBitErrors_k15 l12 l12n l12c w475 Q)))) ∧ (rv Try.prog (convert 26 9 (.slice (some a392) 1 1)) w391 fun v476 w477 => fT v476 fun t478 =>
  S48 w477 ∧ (ld Try.prog 9 a50 w477 fun v479 => fT v479 fun t480 =>
  S48 w477 ∧ (rqS Try.prog S48 (Instr.sliceAt 9 (.string t480) none (some (.int .i64 (Int.tmod x33 64))) none) fun v481 => fT v481 fun t482 =>
  rqS Try.prog S48 (do eqGuard .add 9 (.tmp 80) (.tmp 93) (.string t482) (.string t478); binOp .add 9 (.string t482) (.string t478)) fun v483 => fT v483 fun t484 =>
  rqS Try.prog S48 (do eqGuard .add 9 (.tmp 94) (.tmp 101) (.string t484) (.string t461); binOp .add 9 (.string t484) (.string t461)) fun v485 => fT v485 fun t486 =>
  rqS Try.prog S48 (Instr.indexAt 47 (.slice l12 l12n l12c) (.int .i64 (IntKind.wrap .i64 (Int.tdiv x33 64)))) fun v487 => fA v487 fun a488 =>
  st Try.prog 9 a488 (.string t486) w477 fun w489 =>
  S48 w489 ∧ (W.law34_ImageDetectsBitErrors_k15 l12 l12n l12c w489 Q)))))))) ∧ (ld Try.prog 9 a54 w337 fun v490 => fT v490 fun t491 =>
  S48 w337 ∧ (rqS Try.prog S48 (Instr.sliceAt 9 (.string t491) (some (.int .i64 (IntKind.wrap .i64 ((Int.tmod x33 64) + 1)))) none none) fun v492 => fT v492 fun t493 =>
  (ld Try.prog 9 a50 w337 fun v494 => fT v494 fun t495 =>
  S48 w337 ∧ (rqS Try.prog S48 (Instr.sliceAt 9 (.string t495) none (some (.int .i64 (Int.tmod x33 64))) none) fun v496 => fT v496 fun t497 =>
  al 5 #[(.int .u8 (bxor .u8 x259 x340))] w337 fun a499 w498 =>
  S48 w498 ∧ (rv Try.prog (convert 26 9 (.slice (some a499) 1 1)) w498 fun v500 w501 => fT v500 fun t502 =>
  S48 w501 ∧ (rqS Try.prog S48 (do eqGuard .add 9 (.tmp 80) (.tmp 93) (.string t497) (.string t502); binOp .add 9 (.string t497) (.string t502)) fun v503 => fT v503 fun t504 =>
  rqS Try.prog S48 (do eqGuard .add 9 (.tmp 94) (.tmp 101) (.string t504) (.string t493); binOp .add 9 (.string t504) (.string t493)) fun v505 => fT v505 fun t506 =>
  rqS Try.prog S48 (Instr.indexAt 47 (.slice l12 l12n l12c) (.int .i64 (IntKind.wrap .i64 (Int.tdiv x33 64)))) fun v507 => fA v507 fun a508 =>
  st Try.prog 9 a508 (.string t506) w501 fun w509 =>
  S48 w509 ∧ (W.law34_ImageDetectsBitErrors_k15 l12 l12n l12c w509 Q))))) ∧ (al 5 #[(.int .u8 (bxor .u8 x259 x340))] w337 fun a511 w510 =>
  S48 w510 ∧ ((ld Try.prog 9 a50 w510 fun v512 => fT v512 fun t513 =>
  S48 w510 ∧ (rqS Try.prog S48 (Instr.sliceAt 9 (.string t513) none (some (.int .i64 (Int.tmod x33 64))) none) fun v514 => fT v514 fun t515 =>
  rv Try.prog (convert 26 9 (.slice (some a511) 1 1)) w510 fun v516 w517 => fT v516 fun t518 =>
  S48 w517 ∧ (rqS Try.prog S48 (do eqGuard .add 9 (.tmp 80) (.tmp 93) (.string t515) (.string t518); binOp .add 9 (.string t515) (.string t518)) fun v519 => fT v519 fun t520 =>
  rqS Try.prog S48 (do eqGuard .add 9 (.tmp 94) (.tmp 101) (.string t520) (.string t493); binOp .add 9 (.string t520) (.string t493)) fun v521 => fT v521 fun t522 =>
  rqS Try.prog S48 (Instr.indexAt 47 (.slice l12 l12n l12c) (.int .i64 (IntKind.wrap .i64 (Int.tdiv x33 64)))) fun v523 => fA v523 fun a524 =>
  st Try.prog 9 a524 (.string t522) w517 fun w525 =>
  S48 w525 ∧ (W.law34_ImageDetectsBitErrors_k15 l12 l12n l12c w525 Q)))) ∧ (rv Try.prog (convert 26 9 (.slice (some a511) 1 1)) w510 fun v526 w527 => fT v526 fun t528 =>
  S48 w527 ∧ (ld Try.prog 9 a50 w527 fun v529 => fT v529 fun t530 =>
  S48 w527 ∧ (rqS Try.prog S48 (Instr.sliceAt 9 (.string t530) none (some (.int .i64 (Int.tmod x33 64))) none) fun v531 => fT v531 fun t532 =>
  rqS Try.prog S48 (do eqGuard .add 9 (.tmp 80) (.tmp 93) (.string t532) (.string t528); binOp .add 9 (.string t532) (.string t528)) fun v533 => fT v533 fun t534 =>
  rqS Try.prog S48 (do eqGuard .add 9 (.tmp 94) (.tmp 101) (.string t534) (.string t493); binOp .add 9 (.string t534) (.string t493)) fun v535 => fT v535 fun t536 =>
  rqS Try.prog S48 (Instr.indexAt 47 (.slice l12 l12n l12c) (.int .i64 (IntKind.wrap .i64 (Int.tdiv x33 64)))) fun v537 => fA v537 fun a538 =>
  st Try.prog 9 a538 (.string t536) w527 fun w539 =>
  S48 w539 ∧ (W.law34_ImageDetectsBitErrors_k15 l12 l12n l12c w539 Q)))))))))) ∧ (ld Try.prog 9 a54 (drew w32) fun v540 => fT v540 fun t541 =>
  S48 (drew w32) ∧ (rqS Try.prog S48 (Instr.sliceAt 9 (.string t541) (some (.int .i64 (IntKind.wrap .i64 ((Int.tmod x33 64) + 1)))) none none) fun v542 => fT v542 fun t543 =>
  (ld Try.prog 9 a50 (drew w32) fun v544 => fT v544 fun t545 =>
  S48 (drew w32) ∧ (rqS Try.prog S48 (Instr.sliceAt 9 (.string t545) none (some (.int .i64 (Int.tmod x33 64))) none) fun v546 => fT v546 fun t547 =>
  CallE Try.prog 18 #[(.int .i64 bit_), (.int .i64 8)] (drew w32) fun v548 w549 => fI .i64 v548 fun x550 =>
  S48 w549 ∧ (rqS Try.prog S48 (do eqGuard .shl 5 (.const (.int .u8 1)) (.tmp 89) (.int .u8 1) (.int .u64 (IntKind.wrap .u64 x550)); binOp .shl 5 (.int .u8 1) (.int .u64 (IntKind.wrap .u64 x550))) fun v551 => fI .u8 v551 fun x552 =>
  al 5 #[(.int .u8 (bxor .u8 x259 x552))] w549 fun a554 w553 =>
  S48 w553 ∧ (rv Try.prog (convert 26 9 (.slice (some a554) 1 1)) w553 fun v555 w556 => fT v555 fun t557 =>
  S48 w556 ∧ (rqS Try.prog S48 (do eqGuard .add 9 (.tmp 80) (.tmp 93) (.string t547) (.string t557); binOp .add 9 (.string t547) (.string t557)) fun v558 => fT v558 fun t559 =>
  rqS Try.prog S48 (do eqGuard .add 9 (.tmp 94) (.tmp 101) (.string t559) (.string t543); binOp .add 9 (.string t559) (.string t543)) fun v560 => fT v560 fun t561 =>
  rqS Try.prog S48 (Instr.indexAt 47 (.slice l12 l12n l12c) (.int .i64 (IntKind.wrap .i64 (Int.tdiv x33 64)))) fun v562 => fA v562 fun a563 =>
  st Try.prog 9 a563 (.string t561) w556 fun w564 =>
  S48 w564 ∧ (W.law34_ImageDetectsBitErrors_k15 l12 l12n l12c w564 Q)))))) ∧ (CallE Try.prog 18 #[(.int .i64 bit_), (.int .i64 8)] (drew w32) fun v565 w566 => fI .i64 v565 fun x567 =>
  S48 w566 ∧ (rqS Try.prog S48 (do eqGuard .shl 5 (.const (.int .u8 1)) (.tmp 89) (.int .u8 1) (.int .u64 (IntKind.wrap .u64 x567)); binOp .shl 5 (.int .u8 1) (.int .u64 (IntKind.wrap .u64 x567))) fun v568 => fI .u8 v568 fun x569 =>
  (ld Try.prog 9 a50 w566 fun v570 => fT v570 fun t571 =>
  S48 w566 ∧ (rqS Try.prog S48 (Instr.sliceAt 9 (.string t571) none (some (.int .i64 (Int.tmod x33 64))) none) fun v572 => fT v572 fun t573 =>
  al 5 #[(.int .u8 (bxor .u8 x259 x569))] w566 fun a575 w574 =>
  S48 w574 ∧ (rv Try.prog (convert 26 9 (.slice (some a575) 1 1)) w574 fun v576 w577 => fT v576 fun t578 =>
  S48 w577 ∧ (rqS Try.prog S48 (do eqGuard .add 9 (.tmp 80) (.tmp 93) (.string t573) (.string t578); binOp .add 9 (.string t573) (.string t578)) fun v579 => fT v579 fun t580 =>
  rqS Try.prog S48 (do eqGuard .add 9 (.tmp 94) (.tmp 101) (.string t580) (.string t543); binOp .add 9 (.string t580) (.string t543)) fun v581 => fT v581 fun t582 =>
  rqS Try.prog S48 (Instr.indexAt 47 (.slice l12 l12n l12c) (.int .i64 (IntKind.wrap .i64 (Int.tdiv x33 64)))) fun v583 => fA v583 fun a584 =>
  st Try.prog 9 a584 (.string t582) w577 fun w585 =>
  S48 w585 ∧ (W.law34_ImageDetectsBitErrors_k15 l12 l12n l12c w585 Q))))) ∧ (al 5 #[(.int .u8 (bxor .u8 x259 x569))] w566 fun a587 w586 =>
  S48 w586 ∧ ((ld Try.prog 9 a50 w586 fun v588 => fT v588 fun t589 =>
  S48 w586 ∧ (rqS Try.prog S48 (Instr.sliceAt 9 (.string t589) none (some (.int .i64 (Int.tmod x33 64))) none) fun v590 => fT v590 fun t591 =>
  rv Try.prog (convert 26 9 (.slice (some a587) 1 1)) w586 fun v592 w593 => fT v592 fun t594 =>
  S48 w593 ∧ (rqS Try.prog S48 (do eqGuard .add 9 (.tmp 80) (.tmp 93) (.string t591) (.string t594); binOp .add 9 (.string t591) (.string t594)) fun v595 => fT v595 fun t596 =>
  rqS Try.prog S48 (do eqGuard .add 9 (.tmp 94) (.tmp 101) (.string t596) (.string t543); binOp .add 9 (.string t596) (.string t543)) fun v597 => fT v597 fun t598 =>
  rqS Try.prog S48 (Instr.indexAt 47 (.slice l12 l12n l12c) (.int .i64 (IntKind.wrap .i64 (Int.tdiv x33 64)))) fun v599 => fA v599 fun a600 =>
  st Try.prog 9 a600 (.string t598) w593 fun w601 =>
  S48 w601 ∧ (W.law34_ImageDetectsBitErrors_k15 l12 l12n l12c w601 Q)))) ∧ (rv Try.prog (convert 26 9 (.slice (some a587) 1 1)) w586 fun v602 w603 => fT v602 fun t604 =>
  S48 w603 ∧ (ld Try.prog 9 a50 w603 fun v605 => fT v605 fun t606 =>
  S48 w603 ∧ (rqS Try.prog S48 (Instr.sliceAt 9 (.string t606) none (some (.int .i64 (Int.tmod x33 64))) none) fun v607 => fT v607 fun t608 =>
  rqS Try.prog S48 (do eqGuard .add 9 (.tmp 80) (.tmp 93) (.string t608) (.string t604); binOp .add 9 (.string t608) (.string t604)) fun v609 => fT v609 fun t610 =>
  rqS Try.prog S48 (do eqGuard .add 9 (.tmp 94) (.tmp 101) (.string t610) (.string t543); binOp .add 9 (.string t610) (.string t543)) fun v611 => fT v611 fun t612 =>
  rqS Try.prog S48 (Instr.indexAt 47 (.slice l12 l12n l12c) (.int .i64 (IntKind.wrap .i64 (Int.tdiv x33 64)))) fun v613 => fA v613 fun a614 =>
  st Try.prog 9 a614 (.string t612) w603 fun w615 =>
  S48 w615 ∧ (W.law34_ImageDetectsBitErrors_k15 l12 l12n l12c w615 Q)))))))))))) ∧ (CallE Try.prog 18 #[(.int .i64 bit_), (.int .i64 8)] (drew w32) fun v616 w617 => fI .i64 v616 fun x618 =>
  S48 w617 ∧ (rqS Try.prog S48 (do eqGuard .shl 5 (.const (.int .u8 1)) (.tmp 89) (.int .u8 1) (.int .u64 (IntKind.wrap .u64 x618)); binOp .shl 5 (.int .u8 1) (.int .u64 (IntKind.wrap .u64 x618))) fun v619 => fI .u8 v619 fun x620 =>
  (ld Try.prog 9 a50 w617 fun v621 => fT v621 fun t622 =>
  S48 w617 ∧ (rqS Try.prog S48 (Instr.sliceAt 9 (.string t622) none (some (.int .i64 (Int.tmod x33 64))) none) fun v623 => fT v623 fun t624 =>
  (ld Try.prog 9 a52 w617 fun v625 => fT v625 fun t626 =>
  S48 w617 ∧ (rqS Try.prog S48 (Instr.index 9 (.string t626) (.int .i64 (Int.tmod x33 64))) fun v627 => fI .u8 v627 fun x628 =>
  (al 5 #[(.int .u8 (bxor .u8 x628 x620))] w617 fun a630 w629 =>
  S48 w629 ∧ ((rv Try.prog (convert 26 9 (.slice (some a630) 1 1)) w629 fun v631 w632 => fT v631 fun t633 =>
  S48 w632 ∧ (rqS Try.prog S48 (do eqGuard .add 9 (.tmp 80) (.tmp 93) (.string t624) (.string t633); binOp .add 9 (.string t624) (.string t633)) fun v634 => fT v634 fun t635 =>
  ld Try.prog 9 a54 w632 fun v636 => fT v636 fun t637 =>
  S48 w632 ∧ (rqS Try.prog S48 (Instr.sliceAt 9 (.string t637) (some (.int .i64 (IntKind.wrap .i64 ((Int.tmod x33 64) + 1)))) none none) fun v638 => fT v638 fun t639 =>
  rqS Try.prog S48 (do eqGuard .add 9 (.tmp 94) (.tmp 101) (.string t635) (.string t639); binOp .add 9 (.string t635) (.string t639)) fun v640 => fT v640 fun t641 =>
  rqS Try.prog S48 (Instr.indexAt 47 (.slice l12 l12n l12c) (.int .i64 (IntKind.wrap .i64 (Int.tdiv x33 64)))) fun v642 => fA v642 fun a643 =>
  st Try.prog 9 a643 (.string t641) w632 fun w644 =>
  S48 w644 ∧ (W.law34_ImageDetectsBitErrors_k15 l12 l12n l12c w644 Q)))) ∧ (ld Try.prog 9 a54 w629 fun v645 => fT v645 fun t646 =>
  S48 w629 ∧ (rqS Try.prog S48 (Instr.sliceAt 9 (.string t646) (some (.int .i64 (IntKind.wrap .i64 ((Int.tmod x33 64) + 1)))) none none) fun v647 => fT v647 fun t648 =>
  rv Try.prog (convert 26 9 (.slice (some a630) 1 1)) w629 fun v649 w650 => fT v649 fun t651 =>
  S48 w650 ∧ (rqS Try.prog S48 (do eqGuard .add 9 (.tmp 80) (.tmp 93) (.string t624) (.string t651); binOp .add 9 (.string t624) (.string t651)) fun v652 => fT v652 fun t653 =>
  rqS Try.prog S48 (do eqGuard .add 9 (.tmp 94) (.tmp 101) (.string t653) (.string t648); binOp .add 9 (.string t653) (.string t648)) fun v654 => fT v654 fun t655 =>
  rqS Try.prog S48 (Instr.indexAt 47 (.slice l12 l12n l12c) (.int .i64 (IntKind.wrap .i64 (Int.tdiv x33 64)))) fun v656 => fA v656 fun a657 =>
  st Try.prog 9 a657 (.string t655) w650 fun w658 =>
  S48 w658 ∧ (W.law34_ImageDetectsBitErrors_k15 l12 l12n l12c w658 Q)))))) ∧ (ld Try.prog 9 a54 w617 fun v659 => fT v659 fun t660 =>
  S48 w617 ∧ (rqS Try.prog S48 (Instr.sliceAt 9 (.string t660) (some (.int .i64 (IntKind.wrap .i64 ((Int.tmod x33 64) + 1)))) none none) fun v661 => fT v661 fun t662 =>
  al 5 #[(.int .u8 (bxor .u8 x628 x620))] w617 fun a664 w663 =>
  S48 w663 ∧ (rv Try.prog (convert 26 9 (.slice (some a664) 1 1)) w663 fun v665 w666 => fT v665 fun t667 =>
  S48 w666 ∧ (rqS Try.prog S48 (do eqGuard .add 9 (.tmp 80) (.tmp 93) (.string t624) (.string t667); binOp .add 9 (.string t624) (.string t667)) fun v668 => fT v668 fun t669 =>
  rqS Try.prog S48 (do eqGuard .add 9 (.tmp 94) (.tmp 101) (.string t669) (.string t662); binOp .add 9 (.string t669) (.string t662)) fun v670 => fT v670 fun t671 =>
  rqS Try.prog S48 (Instr.indexAt 47 (.slice l12 l12n l12c) (.int .i64 (IntKind.wrap .i64 (Int.tdiv x33 64)))) fun v672 => fA v672 fun a673 =>
  st Try.prog 9 a673 (.string t671) w666 fun w674 =>
  S48 w674 ∧ (W.law34_ImageDetectsBitErrors_k15 l12 l12n l12c w674 Q))))))) ∧ (ld Try.prog 9 a54 w617 fun v675 => fT v675 fun t676 =>
  S48 w617 ∧ (rqS Try.prog S48 (Instr.sliceAt 9 (.string t676) (some (.int .i64 (IntKind.wrap .i64 ((Int.tmod x33 64) + 1)))) none none) fun v677 => fT v677 fun t678 =>
  ld Try.prog 9 a52 w617 fun v679 => fT v679 fun t680 =>
  S48 w617 ∧ (rqS Try.prog S48 (Instr.index 9 (.string t680) (.int .i64 (Int.tmod x33 64))) fun v681 => fI .u8 v681 fun x682 =>
  al 5 #[(.int .u8 (bxor .u8 x682 x620))] w617 fun a684 w683 =>
  S48 w683 ∧ (rv Try.prog (convert 26 9 (.slice (some a684) 1 1)) w683 fun v685 w686 => fT v685 fun t687 =>
  S48 w686 ∧ (rqS Try.prog S48 (do eqGuard .add 9 (.tmp 80) (.tmp 93) (.string t624) (.string t687); binOp .add 9 (.string t624) (.string t687)) fun v688 => fT v688 fun t689 =>
  rqS Try.prog S48 (do eqGuard .add 9 (.tmp 94) (.tmp 101) (.string t689) (.string t678); binOp .add 9 (.string t689) (.string t678)) fun v690 => fT v690 fun t691 =>
  rqS Try.prog S48 (Instr.indexAt 47 (.slice l12 l12n l12c) (.int .i64 (IntKind.wrap .i64 (Int.tdiv x33 64)))) fun v692 => fA v692 fun a693 =>
  st Try.prog 9 a693 (.string t691) w686 fun w694 =>
  S48 w694 ∧ (W.law34_ImageDetectsBitErrors_k15 l12 l12n l12c w694 Q)))))))) ∧ (ld Try.prog 9 a52 w617 fun v695 => fT v695 fun t696 =>
  S48 w617 ∧ (rqS Try.prog S48 (Instr.index 9 (.string t696) (.int .i64 (Int.tmod x33 64))) fun v697 => fI .u8 v697 fun x698 =>
  (ld Try.prog 9 a50 w617 fun v699 => fT v699 fun t700 =>
  S48 w617 ∧ (rqS Try.prog S48 (Instr.sliceAt 9 (.string t700) none (some (.int .i64 (Int.tmod x33 64))) none) fun v701 => fT v701 fun t702 =>
  (al 5 #[(.int .u8 (bxor .u8 x698 x620))] w617 fun a704 w703 =>
  S48 w703 ∧ ((rv Try.prog (convert 26 9 (.slice (some a704) 1 1)) w703 fun v705 w706 => fT v705 fun t707 =>
  S48 w706 ∧ (rqS Try.prog S48 (do eqGuard .add 9 (.tmp 80) (.tmp 93) (.string t702) (.string t707); binOp .add 9 (.string t702) (.string t707)) fun v708 => fT v708 fun t709 =>
  ld Try.prog 9 a54 w706 fun v710 => fT v710 fun t711 =>
  S48 w706 ∧ (rqS Try.prog S48 (Instr.sliceAt 9 (.string t711) (some (.int .i64 (IntKind.wrap .i64 ((Int.tmod x33 64) + 1)))) none none) fun v712 => fT v712 fun t713 =>
  rqS Try.prog S48 (do eqGuard .add 9 (.tmp 94) (.tmp 101) (.string t709) (.string t713); binOp .add 9 (.string t709) (.string t713)) fun v714 => fT v714 fun t715 =>
  rqS Try.prog S48 (Instr.indexAt 47 (.slice l12 l12n l12c) (.int .i64 (IntKind.wrap .i64 (Int.tdiv x33 64)))) fun v716 => fA v716 fun a717 =>
  st Try.prog 9 a717 (.string t715) w706 fun w718 =>
  S48 w718 ∧ (W.law34_ImageDetectsBitErrors_k15 l12 l12n l12c w718 Q)))) ∧ (ld Try.prog 9 a54 w703 fun v719 => fT v719 fun t720 =>
  S48 w703 ∧ (rqS Try.prog S48 (Instr.sliceAt 9 (.string t720) (some (.int .i64 (IntKind.wrap .i64 ((Int.tmod x33 64) + 1)))) none none) fun v721 => fT v721 fun t722 =>
  rv Try.prog (convert 26 9 (.slice (some a704) 1 1)) w703 fun v723 w724 => fT v723 fun t725 =>
  S48 w724 ∧ (rqS Try.prog S48 (do eqGuard .add 9 (.tmp 80) (.tmp 93) (.string t702) (.string t725); binOp .add 9 (.string t702) (.string t725)) fun v726 => fT v726 fun t727 =>
  rqS Try.prog S48 (do eqGuard .add 9 (.tmp 94) (.tmp 101) (.string t727) (.string t722); binOp .add 9 (.string t727) (.string t722)) fun v728 => fT v728 fun t729 =>
  rqS Try.prog S48 (Instr.indexAt 47 (.slice l12 l12n l12c) (.int .i64 (IntKind.wrap .i64 (Int.tdiv x33 64)))) fun v730 => fA v730 fun a731 =>
  st Try.prog 9 a731 (.string t729) w724 fun w732 =>
  S48 w732 ∧ (W.law34_ImageDetectsBitErrors_k15 l12 l12n l12c w732 Q)))))) ∧ (ld Try.prog 9 a54 w617 fun v733 => fT v733 fun t734 =>
  S48 w617 ∧ (rqS Try.prog S48 (Instr.sliceAt 9 (.string t734) (some (.int .i64 (IntKind.wrap .i64 ((Int.tmod x33 64) + 1)))) none none) fun v735 => fT v735 fun t736 =>
  al 5 #[(.int .u8 (bxor .u8 x698 x620))] w617 fun a738 w737 =>
  S48 w737 ∧ (rv Try.prog (convert 26 9 (.slice (some a738) 1 1)) w737 fun v739 w740 => fT v739 fun t741 =>
  S48 w740 ∧ (rqS Try.prog S48 (do eqGuard .add 9 (.tmp 80) (.tmp 93) (.string t702) (.string t741); binOp .add 9 (.string t702) (.string t741)) fun v742 => fT v742 fun t743 =>
  rqS Try.prog S48 (do eqGuard .add 9 (.tmp 94) (.tmp 101) (.string t743) (.string t736); binOp .add 9 (.string t743) (.string t736)) fun v744 => fT v744 fun t745 =>
  rqS Try.prog S48 (Instr.indexAt 47 (.slice l12 l12n l12c) (.int .i64 (IntKind.wrap .i64 (Int.tdiv x33 64)))) fun v746 => fA v746 fun a747 =>
  st Try.prog 9 a747 (.string t745) w740 fun w748 =>
  S48 w748 ∧ (W.law34_ImageDetectsBitErrors_k15 l12 l12n l12c w748 Q))))))) ∧ (al 5 #[(.int .u8 (bxor .u8 x698 x620))] w617 fun a750 w749 =>
  S48 w749 ∧ ((ld Try.prog 9 a50 w749 fun v751 => fT v751 fun t752 =>
  S48 w749 ∧ (rqS Try.prog S48 (Instr.sliceAt 9 (.string t752) none (some (.int .i64 (Int.tmod x33 64))) none) fun v753 => fT v753 fun t754 =>
  (rv Try.prog (convert 26 9 (.slice (some a750) 1 1)) w749 fun v755 w756 => fT v755 fun t757 =>
  S48 w756 ∧ (rqS Try.prog S48 (do eqGuard .add 9 (.tmp 80) (.tmp 93) (.string t754) (.string t757); binOp .add 9 (.string t754) (.string t757)) fun v758 => fT v758 fun t759 =>
  ld Try.prog 9 a54 w756 fun v760 => fT v760 fun t761 =>
  S48 w756 ∧ (rqS Try.prog S48 (Instr.sliceAt 9 (.string t761) (some (.int .i64 (IntKind.wrap .i64 ((Int.tmod x33 64) + 1)))) none none) fun v762 => fT v762 fun t763 =>
  rqS Try.prog S48 (do eqGuard .add 9 (.tmp 94) (.tmp 101) (.string t759) (.string t763); binOp .add 9 (.string t759) (.string t763)) fun v764 => fT v764 fun t765 =>
  rqS Try.prog S48 (Instr.indexAt 47 (.slice l12 l12n l12c) (.int .i64 (IntKind.wrap .i64 (Int.tdiv x33 64)))) fun v766 => fA v766 fun a767 =>
  st Try.prog 9 a767 (.string t765) w756 fun w768 =>
  S48 w768 ∧ (W.law34_ImageDetectsBitErrors_k15 l12 l12n l12c w768 Q)))) ∧ (ld Try.prog 9 a54 w749 fun v769 => fT v769 fun t770 =>
  S48 w749 ∧ (rqS Try.prog S48 (Instr.sliceAt 9 (.string t770) (some (.int .i64 (IntKind.wrap .i64 ((Int.tmod x33 64) + 1)))) none none) fun v771 => fT v771 fun t772 =>
  rv Try.prog (convert 26 9 (.slice (some a750) 1 1)) w749 fun v773 w774 => fT v773 fun t775 =>
  S48 w774 ∧ (rqS Try.prog S48 (do eqGuard .add 9 (.tmp 80) (.tmp 93) (.string t754) (.string t775); binOp .add 9 (.string t754) (.string t775)) fun v776 => fT v776 fun t777 =>
  rqS Try.prog S48 (do eqGuard .add 9 (.tmp 94) (.tmp 101) (.string t777) (.string t772); binOp .add 9 (.string t777) (.string t772)) fun v778 => fT v778 fun t779 =>
  rqS Try.prog S48 (Instr.indexAt 47 (.slice l12 l12n l12c) (.int .i64 (IntKind.wrap .i64 (Int.tdiv x33 64)))) fun v780 => fA v780 fun a781 =>
  st Try.prog 9 a781 (.string t779) w774 fun w782 =>
  S48 w782 ∧ (W.law34_ImageDetectsBitErrors_k15 l12 l12n l12c w782 Q)))))) ∧ (rv Try.prog (convert 26 9 (.slice (some a750) 1 1)) w749 fun v783 w784 => fT v783 fun t785 =>
  S48 w784 ∧ ((ld Try.prog 9 a50 w784 fun v786 => fT v786 fun t787 =>
  S48 w784 ∧ (rqS Try.prog S48 (Instr.sliceAt 9 (.string t787) none (some (.int .i64 (Int.tmod x33 64))) none) fun v788 => fT v788 fun t789 =>
  rqS Try.prog S48 (do eqGuard .add 9 (.tmp 80) (.tmp 93) (.string t789) (.string t785); binOp .add 9 (.string t789) (.string t785)) fun v790 => fT v790 fun t791 =>
  ld Try.prog 9 a54 w784 fun v792 => fT v792 fun t793 =>
  S48 w784 ∧ (rqS Try.prog S48 (Instr.sliceAt 9 (.string t793) (some (.int .i64 (IntKind.wrap .i64 ((Int.tmod x33 64) + 1)))) none none) fun v794 => fT v794 fun t795 =>
  rqS Try.prog S48 (do eqGuard .add 9 (.tmp 94) (.tmp 101) (.string t791) (.string t795); binOp .add 9 (.string t791) (.string t795)) fun v796 => fT v796 fun t797 =>
  rqS Try.prog S48 (Instr.indexAt 47 (.slice l12 l12n l12c) (.int .i64 (IntKind.wrap .i64 (Int.tdiv x33 64)))) fun v798 => fA v798 fun a799 =>
  st Try.prog 9 a799 (.string t797) w784 fun w800 =>
  S48 w800 ∧ (W.law34_ImageDetectsBitErrors_k15 l12 l12n l12c w800 Q)))) ∧ (ld Try.prog 9 a54 w784 fun v801 => fT v801 fun t802 =>
  S48 w784 ∧ (rqS Try.prog S48 (Instr.sliceAt 9 (.string t802) (some (.int .i64 (IntKind.wrap .i64 ((Int.tmod x33 64) + 1)))) none none) fun v803 => fT v803 fun t804 =>
  ld Try.prog 9 a50 w784 fun v805 => fT v805 fun t806 =>
  S48 w784 ∧ (rqS Try.prog S48 (Instr.sliceAt 9 (.string t806) none (some (.int .i64 (Int.tmod x33 64))) none) fun v807 => fT v807 fun t808 =>
  rqS Try.prog S48 (do eqGuard .add 9 (.tmp 80) (.tmp 93) (.string t808) (.string t785); binOp .add 9 (.string t808) (.string t785)) fun v809 => fT v809 fun t810 =>
  rqS Try.prog S48 (do eqGuard .add 9 (.tmp 94) (.tmp 101) (.string t810) (.string t804); binOp .add 9 (.string t810) (.string t804)) fun v811 => fT v811 fun t812 =>
  rqS Try.prog S48 (Instr.indexAt 47 (.slice l12 l12n l12c) (.int .i64 (IntKind.wrap .i64 (Int.tdiv x33 64)))) fun v813 => fA v813 fun a814 =>
  st Try.prog 9 a814 (.string t812) w784 fun w815 =>
  S48 w815 ∧ (W.law34_ImageDetectsBitErrors_k15 l12 l12n l12c w815 Q)))))) ∧ (ld Try.prog 9 a54 w749 fun v816 => fT v816 fun t817 =>
  S48 w749 ∧ (rqS Try.prog S48 (Instr.sliceAt 9 (.string t817) (some (.int .i64 (IntKind.wrap .i64 ((Int.tmod x33 64) + 1)))) none none) fun v818 => fT v818 fun t819 =>
  (ld Try.prog 9 a50 w749 fun v820 => fT v820 fun t821 =>
  S48 w749 ∧ (rqS Try.prog S48 (Instr.sliceAt 9 (.string t821) none (some (.int .i64 (Int.tmod x33 64))) none) fun v822 => fT v822 fun t823 =>
  rv Try.prog (convert 26 9 (.slice (some a750) 1 1)) w749 fun v824 w825 => fT v824 fun t826 =>
  S48 w825 ∧ (rqS Try.prog S48 (do eqGuard .add 9 (.tmp 80) (.tmp 93) (.string t823) (.string t826); binOp .add 9 (.string t823) (.string t826)) fun v827 => fT v827 fun t828 =>
  rqS Try.prog S48 (do eqGuard .add 9 (.tmp 94) (.tmp 101) (.string t828) (.string t819); binOp .add 9 (.string t828) (.string t819)) fun v829 => fT v829 fun t830 =>
  rqS Try.prog S48 (Instr.indexAt 47 (.slice l12 l12n l12c) (.int .i64 (IntKind.wrap .i64 (Int.tdiv x33 64)))) fun v831 => fA v831 fun a832 =>
  st Try.prog 9 a832 (.string t830) w825 fun w833 =>
  S48 w833 ∧ (W.law34_ImageDetectsBitErrors_k15 l12 l12n l12c w833 Q)))) ∧ (rv Try.prog (convert 26 9 (.slice (some a750) 1 1)) w749 fun v834 w835 => fT v834 fun t836 =>
  S48 w835 ∧ (ld Try.prog 9 a50 w835 fun v837 => fT v837 fun t838 =>
  S48 w835 ∧ (rqS Try.prog S48 (Instr.sliceAt 9 (.string t838) none (some (.int .i64 (Int.tmod x33 64))) none) fun v839 => fT v839 fun t840 =>
  rqS Try.prog S48 (do eqGuard .add 9 (.tmp 80) (.tmp 93) (.string t840) (.string t836); binOp .add 9 (.string t840) (.string t836)) fun v841 => fT v841 fun t842 =>
  rqS Try.prog S48 (do eqGuard .add 9 (.tmp 94) (.tmp 101) (.string t842) (.string t819); binOp .add 9 (.string t842) (.string t819)) fun v843 => fT v843 fun t844 =>
  rqS Try.prog S48 (Instr.indexAt 47 (.slice l12 l12n l12c) (.int .i64 (IntKind.wrap .i64 (Int.tdiv x33 64)))) fun v845 => fA v845 fun a846 =>
  st Try.prog 9 a846 (.string t844) w835 fun w847 =>
  S48 w847 ∧ (W.law34_ImageDetectsBitErrors_k15 l12 l12n l12c w847 Q)))))))) ∧ (ld Try.prog 9 a54 w617 fun v848 => fT v848 fun t849 =>
  S48 w617 ∧ (rqS Try.prog S48 (Instr.sliceAt 9 (.string t849) (some (.int .i64 (IntKind.wrap .i64 ((Int.tmod x33 64) + 1)))) none none) fun v850 => fT v850 fun t851 =>
  (ld Try.prog 9 a50 w617 fun v852 => fT v852 fun t853 =>
  S48 w617 ∧ (rqS Try.prog S48 (Instr.sliceAt 9 (.string t853) none (some (.int .i64 (Int.tmod x33 64))) none) fun v854 => fT v854 fun t855 =>
  al 5 #[(.int .u8 (bxor .u8 x698 x620))] w617 fun a857 w856 =>
  S48 w856 ∧ (rv Try.prog (convert 26 9 (.slice (some a857) 1 1)) w856 fun v858 w859 => fT v858 fun t860 =>
  S48 w859 ∧ (rqS Try.prog S48 (do eqGuard .add 9 (.tmp 80) (.tmp 93) (.string t855) (.string t860); binOp .add 9 (.string t855) (.string t860)) fun v861 => fT v861 fun t862 =>
  rqS Try.prog S48 (do eqGuard .add 9 (.tmp 94) (.tmp 101) (.string t862) (.string t851); binOp .add 9 (.string t862) (.string t851)) fun v863 => fT v863 fun t864 =>
  rqS Try.prog S48 (Instr.indexAt 47 (.slice l12 l12n l12c) (.int .i64 (IntKind.wrap .i64 (Int.tdiv x33 64)))) fun v865 => fA v865 fun a866 =>
  st Try.prog 9 a866 (.string t864) w859 fun w867 =>
  S48 w867 ∧ (W.law34_ImageDetectsBitErrors_k15 l12 l12n l12c w867 Q))))) ∧ (al 5 #[(.int .u8 (bxor .u8 x698 x620))] w617 fun a869 w868 =>
  S48 w868 ∧ ((ld Try.prog 9 a50 w868 fun v870 => fT v870 fun t871 =>
  S48 w868 ∧ (rqS Try.prog S48 (Instr.sliceAt 9 (.string t871) none (some (.int .i64 (Int.tmod x33 64))) none) fun v872 => fT v872 fun t873 =>
  rv Try.prog (convert 26 9 (.slice (some a869) 1 1)) w868 fun v874 w875 => fT v874 fun t876 =>
  S48 w875 ∧ (rqS Try.prog S48 (do eqGuard .add 9 (.tmp 80) (.tmp 93) (.string t873) (.string t876); binOp .add 9 (.string t873) (.string t876)) fun v877 => fT v877 fun t878 =>
  rqS Try.prog S48 (do eqGuard .add 9 (.tmp 94) (.tmp 101) (.string t878) (.string t851); binOp .add 9 (.string t878) (.string t851)) fun v879 => fT v879 fun t880 =>
  rqS Try.prog S48 (Instr.indexAt 47 (.slice l12 l12n l12c) (.int .i64 (IntKind.wrap .i64 (Int.tdiv x33 64)))) fun v881 => fA v881 fun a882 =>
  st Try.prog 9 a882 (.string t880) w875 fun w883 =>
  S48 w883 ∧ (W.law34_ImageDetectsBitErrors_k15 l12 l12n l12c w883 Q)))) ∧ (rv Try.prog (convert 26 9 (.slice (some a869) 1 1)) w868 fun v884 w885 => fT v884 fun t886 =>
  S48 w885 ∧ (ld Try.prog 9 a50 w885 fun v887 => fT v887 fun t888 =>
  S48 w885 ∧ (rqS Try.prog S48 (Instr.sliceAt 9 (.string t888) none (some (.int .i64 (Int.tmod x33 64))) none) fun v889 => fT v889 fun t890 =>
  rqS Try.prog S48 (do eqGuard .add 9 (.tmp 80) (.tmp 93) (.string t890) (.string t886); binOp .add 9 (.string t890) (.string t886)) fun v891 => fT v891 fun t892 =>
  rqS Try.prog S48 (do eqGuard .add 9 (.tmp 94) (.tmp 101) (.string t892) (.string t851); binOp .add 9 (.string t892) (.string t851)) fun v893 => fT v893 fun t894 =>
  rqS Try.prog S48 (Instr.indexAt 47 (.slice l12 l12n l12c) (.int .i64 (IntKind.wrap .i64 (Int.tdiv x33 64)))) fun v895 => fA v895 fun a896 =>
  st Try.prog 9 a896 (.string t894) w885 fun w897 =>
  S48 w897 ∧ (W.law34_ImageDetectsBitErrors_k15 l12 l12n l12c w897 Q)))))))))) ∧ (ld Try.prog 9 a54 w617 fun v898 => fT v898 fun t899 =>
  S48 w617 ∧ (rqS Try.prog S48 (Instr.sliceAt 9 (.string t899) (some (.int .i64 (IntKind.wrap .i64 ((Int.tmod x33 64) + 1)))) none none) fun v900 => fT v900 fun t901 =>
  (ld Try.prog 9 a50 w617 fun v902 => fT v902 fun t903 =>
  S48 w617 ∧ (rqS Try.prog S48 (Instr.sliceAt 9 (.string t903) none (some (.int .i64 (Int.tmod x33 64))) none) fun v904 => fT v904 fun t905 =>
  ld Try.prog 9 a52 w617 fun v906 => fT v906 fun t907 =>
  S48 w617 ∧ (rqS Try.prog S48 (Instr.index 9 (.string t907) (.int .i64 (Int.tmod x33 64))) fun v908 => fI .u8 v908 fun x909 =>
  al 5 #[(.int .u8 (bxor .u8 x909 x620))] w617 fun a911 w910 =>
  S48 w910 ∧ (rv Try.prog (convert 26 9 (.slice (some a911) 1 1)) w910 fun v912 w913 => fT v912 fun t914 =>
  S48 w913 ∧ (rqS Try.prog S48 (do eqGuard .add 9 (.tmp 80) (.tmp 93) (.string t905) (.string t914); binOp .add 9 (.string t905) (.string t914)) fun v915 => fT v915 fun t916 =>
  rqS Try.prog S48 (do eqGuard .add 9 (.tmp 94) (.tmp 101) (.string t916) (.string t901); binOp .add 9 (.string t916) (.string t901)) fun v917 => fT v917 fun t918 =>
  rqS Try.prog S48 (Instr.indexAt 47 (.slice l12 l12n l12c) (.int .i64 (IntKind.wrap .i64 (Int.tdiv x33 64)))) fun v919 => fA v919 fun a920 =>
  st Try.prog 9 a920 (.string t918) w913 fun w921 =>
  S48 w921 ∧ (W.law34_ImageDetectsBitErrors_k15 l12 l12n l12c w921 Q)))))) ∧ (ld Try.prog 9 a52 w617 fun v922 => fT v922 fun t923 =>
  S48 w617 ∧ (rqS Try.prog S48 (Instr.index 9 (.string t923) (.int .i64 (Int.tmod x33 64))) fun v924 => fI .u8 v924 fun x925 =>
  (ld Try.prog 9 a50 w617 fun v926 => fT v926 fun t927 =>
  S48 w617 ∧ (rqS Try.prog S48 (Instr.sliceAt 9 (.string t927) none (some (.int .i64 (Int.tmod x33 64))) none) fun v928 => fT v928 fun t929 =>
  al 5 #[(.int .u8 (bxor .u8 x925 x620))] w617 fun a931 w930 =>
  S48 w930 ∧ (rv Try.prog (convert 26 9 (.slice (some a931) 1 1)) w930 fun v932 w933 => fT v932 fun t934 =>
  S48 w933 ∧ (rqS Try.prog S48 (do eqGuard .add 9 (.tmp 80) (.tmp 93) (.string t929) (.string t934); binOp .add 9 (.string t929) (.string t934)) fun v935 => fT v935 fun t936 =>
  rqS Try.prog S48 (do eqGuard .add 9 (.tmp 94) (.tmp 101) (.string t936) (.string t901); binOp .add 9 (.string t936) (.string t901)) fun v937 => fT v937 fun t938 =>
  rqS Try.prog S48 (Instr.indexAt 47 (.slice l12 l12n l12c) (.int .i64 (IntKind.wrap .i64 (Int.tdiv x33 64)))) fun v939 => fA v939 fun a940 =>
  st Try.prog 9 a940 (.string t938) w933 fun w941 =>
  S48 w941 ∧ (W.law34_ImageDetectsBitErrors_k15 l12 l12n l12c w941 Q))))) ∧ (al 5 #[(.int .u8 (bxor .u8 x925 x620))] w617 fun a943 w942 =>
  S48 w942 ∧ ((ld Try.prog 9 a50 w942 fun v944 => fT v944 fun t945 =>
  S48 w942 ∧ (rqS Try.prog S48 (Instr.sliceAt 9 (.string t945) none (some (.int .i64 (Int.tmod x33 64))) none) fun v946 => fT v946 fun t947 =>
  rv Try.prog (convert 26 9 (.slice (some a943) 1 1)) w942 fun v948 w949 => fT v948 fun t950 =>
  S48 w949 ∧ (rqS Try.prog S48 (do eqGuard .add 9 (.tmp 80) (.tmp 93) (.string t947) (.string t950); binOp .add 9 (.string t947) (.string t950)) fun v951 => fT v951 fun t952 =>
  rqS Try.prog S48 (do eqGuard .add 9 (.tmp 94) (.tmp 101) (.string t952) (.string t901); binOp .add 9 (.string t952) (.string t901)) fun v953 => fT v953 fun t954 =>
  rqS Try.prog S48 (Instr.indexAt 47 (.slice l12 l12n l12c) (.int .i64 (IntKind.wrap .i64 (Int.tdiv x33 64)))) fun v955 => fA v955 fun a956 =>
  st Try.prog 9 a956 (.string t954) w949 fun w957 =>
  S48 w957 ∧ (W.law34_ImageDetectsBitErrors_k15 l12 l12n l12c w957 Q)))) ∧ (rv Try.prog (convert 26 9 (.slice (some a943) 1 1)) w942 fun v958 w959 => fT v958 fun t960 =>
  S48 w959 ∧ (ld Try.prog 9 a50 w959 fun v961 => fT v961 fun t962 =>
  S48 w959 ∧ (rqS Try.prog S48 (Instr.sliceAt 9 (.string t962) none (some (.int .i64 (Int.tmod x33 64))) none) fun v963 => fT v963 fun t964 =>
  rqS Try.prog S48 (do eqGuard .add 9 (.tmp 80) (.tmp 93) (.string t964) (.string t960); binOp .add 9 (.string t964) (.string t960)) fun v965 => fT v965 fun t966 =>
  rqS Try.prog S48 (do eqGuard .add 9 (.tmp 94) (.tmp 101) (.string t966) (.string t901); binOp .add 9 (.string t966) (.string t901)) fun v967 => fT v967 fun t968 =>
  rqS Try.prog S48 (Instr.indexAt 47 (.slice l12 l12n l12c) (.int .i64 (IntKind.wrap .i64 (Int.tdiv x33 64)))) fun v969 => fA v969 fun a970 =>
  st Try.prog 9 a970 (.string t968) w959 fun w971 =>
  S48 w971 ∧ (W.law34_ImageDetectsBitErrors_k15 l12 l12n l12c w971 Q)))))))))))) ∧ (ld Try.prog 9 a54 (drew w32) fun v972 => fT v972 fun t973 =>
  S48 (drew w32) ∧ (rqS Try.prog S48 (Instr.sliceAt 9 (.string t973) (some (.int .i64 (IntKind.wrap .i64 ((Int.tmod x33 64) + 1)))) none none) fun v974 => fT v974 fun t975 =>
  (ld Try.prog 9 a50 (drew w32) fun v976 => fT v976 fun t977 =>
  S48 (drew w32) ∧ (rqS Try.prog S48 (Instr.sliceAt 9 (.string t977) none (some (.int .i64 (Int.tmod x33 64))) none) fun v978 => fT v978 fun t979 =>
  (ld Try.prog 9 a52 (drew w32) fun v980 => fT v980 fun t981 =>
  S48 (drew w32) ∧ (rqS Try.prog S48 (Instr.index 9 (.string t981) (.int .i64 (Int.tmod x33 64))) fun v982 => fI .u8 v982 fun x983 =>
  CallE Try.prog 18 #[(.int .i64 bit_), (.int .i64 8)] (drew w32) fun v984 w985 => fI .i64 v984 fun x986 =>
  S48 w985 ∧ (rqS Try.prog S48 (do eqGuard .shl 5 (.const (.int .u8 1)) (.tmp 89) (.int .u8 1) (.int .u64 (IntKind.wrap .u64 x986)); binOp .shl 5 (.int .u8 1) (.int .u64 (IntKind.wrap .u64 x986))) fun v987 => fI .u8 v987 fun x988 =>
  al 5 #[(.int .u8 (bxor .u8 x983 x988))] w985 fun a990 w989 =>
  S48 w989 ∧ (rv Try.prog (convert 26 9 (.slice (some a990) 1 1)) w989 fun v991 w992 => fT v991 fun t993 =>
  S48 w992 ∧ (rqS Try.prog S48 (do eqGuard .add 9 (.tmp 80) (.tmp 93) (.string t979) (.string t993); binOp .add 9 (.string t979) (.string t993)) fun v994 => fT v994 fun t995 =>
  rqS Try.prog S48 (do eqGuard .add 9 (.tmp 94) (.tmp 101) (.string t995) (.string t975); binOp .add 9 (.string t995) (.string t975)) fun v996 => fT v996 fun t997 =>
  rqS Try.prog S48 (Instr.indexAt 47 (.slice l12 l12n l12c) (.int .i64 (IntKind.wrap .i64 (Int.tdiv x33 64)))) fun v998 => fA v998 fun a999 =>
  st Try.prog 9 a999 (.string t997) w992 fun w1000 =>
  S48 w1000 ∧ (W.law34_ImageDetectsBitErrors_k15 l12 l12n l12c w1000 Q)))))) ∧ (CallE Try.prog 18 #[(.int .i64 bit_), (.int .i64 8)] (drew w32) fun v1001 w1002 => fI .i64 v1001 fun x1003 =>
  S48 w1002 ∧ (rqS Try.prog S48 (do eqGuard .shl 5 (.const (.int .u8 1)) (.tmp 89) (.int .u8 1) (.int .u64 (IntKind.wrap .u64 x1003)); binOp .shl 5 (.int .u8 1) (.int .u64 (IntKind.wrap .u64 x1003))) fun v1004 => fI .u8 v1004 fun x1005 =>
  ld Try.prog 9 a52 w1002 fun v1006 => fT v1006 fun t1007 =>
  S48 w1002 ∧ (rqS Try.prog S48 (Instr.index 9 (.string t1007) (.int .i64 (Int.tmod x33 64))) fun v1008 => fI .u8 v1008 fun x1009 =>
  al 5 #[(.int .u8 (bxor .u8 x1009 x1005))] w1002 fun a1011 w1010 =>
  S48 w1010 ∧ (rv Try.prog (convert 26 9 (.slice (some a1011) 1 1)) w1010 fun v1012 w1013 => fT v1012 fun t1014 =>
  S48 w1013 ∧ (rqS Try.prog S48 (do eqGuard .add 9 (.tmp 80) (.tmp 93) (.string t979) (.string t1014); binOp .add 9 (.string t979) (.string t1014)) fun v1015 => fT v1015 fun t1016 =>
  rqS Try.prog S48 (do eqGuard .add 9 (.tmp 94) (.tmp 101) (.string t1016) (.string t975); binOp .add 9 (.string t1016) (.string t975)) fun v1017 => fT v1017 fun t1018 =>
  rqS Try.prog S48 (Instr.indexAt 47 (.slice l12 l12n l12c) (.int .i64 (IntKind.wrap .i64 (Int.tdiv x33 64)))) fun v1019 => fA v1019 fun a1020 =>
  st Try.prog 9 a1020 (.string t1018) w1013 fun w1021 =>
  S48 w1021 ∧ (W.law34_ImageDetectsBitErrors_k15 l12 l12n l12c w1021 Q)))))))) ∧ (ld Try.prog 9 a52 (drew w32) fun v1022 => fT v1022 fun t1023 =>
  S48 (drew w32) ∧ (rqS Try.prog S48 (Instr.index 9 (.string t1023) (.int .i64 (Int.tmod x33 64))) fun v1024 => fI .u8 v1024 fun x1025 =>
  (ld Try.prog 9 a50 (drew w32) fun v1026 => fT v1026 fun t1027 =>
  S48 (drew w32) ∧ (rqS Try.prog S48 (Instr.sliceAt 9 (.string t1027) none (some (.int .i64 (Int.tmod x33 64))) none) fun v1028 => fT v1028 fun t1029 =>
  CallE Try.prog 18 #[(.int .i64 bit_), (.int .i64 8)] (drew w32) fun v1030 w1031 => fI .i64 v1030 fun x1032 =>
  S48 w1031 ∧ (rqS Try.prog S48 (do eqGuard .shl 5 (.const (.int .u8 1)) (.tmp 89) (.int .u8 1) (.int .u64 (IntKind.wrap .u64 x1032)); binOp .shl 5 (.int .u8 1) (.int .u64 (IntKind.wrap .u64 x1032))) fun v1033 => fI .u8 v1033 fun x1034 =>
  al 5 #[(.int .u8 (bxor .u8 x1025 x1034))] w1031 fun a1036 w1035 =>
  S48 w1035 ∧ (rv Try.prog (convert 26 9 (.slice (some a1036) 1 1)) w1035 fun v1037 w1038 => fT v1037 fun t1039 =>
  S48 w1038 ∧ (rqS Try.prog S48 (do eqGuard .add 9 (.tmp 80) (.tmp 93) (.string t1029) (.string t1039); binOp .add 9 (.string t1029) (.string t1039)) fun v1040 => fT v1040 fun t1041 =>
  rqS Try.prog S48 (do eqGuard .add 9 (.tmp 94) (.tmp 101) (.string t1041) (.string t975); binOp .add 9 (.string t1041) (.string t975)) fun v1042 => fT v1042 fun t1043 =>
  rqS Try.prog S48 (Instr.indexAt 47 (.slice l12 l12n l12c) (.int .i64 (IntKind.wrap .i64 (Int.tdiv x33 64)))) fun v1044 => fA v1044 fun a1045 =>
  st Try.prog 9 a1045 (.string t1043) w1038 fun w1046 =>
  S48 w1046 ∧ (W.law34_ImageDetectsBitErrors_k15 l12 l12n l12c w1046 Q)))))) ∧ (CallE Try.prog 18 #[(.int .i64 bit_), (.int .i64 8)] (drew w32) fun v1047 w1048 => fI .i64 v1047 fun x1049 =>
  S48 w1048 ∧ (rqS Try.prog S48 (do eqGuard .shl 5 (.const (.int .u8 1)) (.tmp 89) (.int .u8 1) (.int .u64 (IntKind.wrap .u64 x1049)); binOp .shl 5 (.int .u8 1) (.int .u64 (IntKind.wrap .u64 x1049))) fun v1050 => fI .u8 v1050 fun x1051 =>
  (ld Try.prog 9 a50 w1048 fun v1052 => fT v1052 fun t1053 =>
  S48 w1048 ∧ (rqS Try.prog S48 (Instr.sliceAt 9 (.string t1053) none (some (.int .i64 (Int.tmod x33 64))) none) fun v1054 => fT v1054 fun t1055 =>
  al 5 #[(.int .u8 (bxor .u8 x1025 x1051))] w1048 fun a1057 w1056 =>
  S48 w1056 ∧ (rv Try.prog (convert 26 9 (.slice (some a1057) 1 1)) w1056 fun v1058 w1059 => fT v1058 fun t1060 =>
  S48 w1059 ∧ (rqS Try.prog S48 (do eqGuard .add 9 (.tmp 80) (.tmp 93) (.string t1055) (.string t1060); binOp .add 9 (.string t1055) (.string t1060)) fun v1061 => fT v1061 fun t1062 =>
  rqS Try.prog S48 (do eqGuard .add 9 (.tmp 94) (.tmp 101) (.string t1062) (.string t975); binOp .add 9 (.string t1062) (.string t975)) fun v1063 => fT v1063 fun t1064 =>
  rqS Try.prog S48 (Instr.indexAt 47 (.slice l12 l12n l12c) (.int .i64 (IntKind.wrap .i64 (Int.tdiv x33 64)))) fun v1065 => fA v1065 fun a1066 =>
  st Try.prog 9 a1066 (.string t1064) w1059 fun w1067 =>
  S48 w1067 ∧ (W.law34_ImageDetectsBitErrors_k15 l12 l12n l12c w1067 Q))))) ∧ (al 5 #[(.int .u8 (bxor .u8 x1025 x1051))] w1048 fun a1069 w1068 =>
  S48 w1068 ∧ ((ld Try.prog 9 a50 w1068 fun v1070 => fT v1070 fun t1071 =>
  S48 w1068 ∧ (rqS Try.prog S48 (Instr.sliceAt 9 (.string t1071) none (some (.int .i64 (Int.tmod x33 64))) none) fun v1072 => fT v1072 fun t1073 =>
  rv Try.prog (convert 26 9 (.slice (some a1069) 1 1)) w1068 fun v1074 w1075 => fT v1074 fun t1076 =>
  S48 w1075 ∧ (rqS Try.prog S48 (do eqGuard .add 9 (.tmp 80) (.tmp 93) (.string t1073) (.string t1076); binOp .add 9 (.string t1073) (.string t1076)) fun v1077 => fT v1077 fun t1078 =>
  rqS Try.prog S48 (do eqGuard .add 9 (.tmp 94) (.tmp 101) (.string t1078) (.string t975); binOp .add 9 (.string t1078) (.string t975)) fun v1079 => fT v1079 fun t1080 =>
  rqS Try.prog S48 (Instr.indexAt 47 (.slice l12 l12n l12c) (.int .i64 (IntKind.wrap .i64 (Int.tdiv x33 64)))) fun v1081 => fA v1081 fun a1082 =>
  st Try.prog 9 a1082 (.string t1080) w1075 fun w1083 =>
  S48 w1083 ∧ (W.law34_ImageDetectsBitErrors_k15 l12 l12n l12c w1083 Q)))) ∧ (rv Try.prog (convert 26 9 (.slice (some a1069) 1 1)) w1068 fun v1084 w1085 => fT v1084 fun t1086 =>
  S48 w1085 ∧ (ld Try.prog 9 a50 w1085 fun v1087 => fT v1087 fun t1088 =>
  S48 w1085 ∧ (rqS Try.prog S48 (Instr.sliceAt 9 (.string t1088) none (some (.int .i64 (Int.tmod x33 64))) none) fun v1089 => fT v1089 fun t1090 =>
  rqS Try.prog S48 (do eqGuard .add 9 (.tmp 80) (.tmp 93) (.string t1090) (.string t1086); binOp .add 9 (.string t1090) (.string t1086)) fun v1091 => fT v1091 fun t1092 =>
  rqS Try.prog S48 (do eqGuard .add 9 (.tmp 94) (.tmp 101) (.string t1092) (.string t975); binOp .add 9 (.string t1092) (.string t975)) fun v1093 => fT v1093 fun t1094 =>
  rqS Try.prog S48 (Instr.indexAt 47 (.slice l12 l12n l12c) (.int .i64 (IntKind.wrap .i64 (Int.tdiv x33 64)))) fun v1095 => fA v1095 fun a1096 =>
  st Try.prog 9 a1096 (.string t1094) w1085 fun w1097 =>
  S48 w1097 ∧ (W.law34_ImageDetectsBitErrors_k15 l12 l12n l12c w1097 Q)))))))))) ∧ (CallE Try.prog 18 #[(.int .i64 bit_), (.int .i64 8)] (drew w32) fun v1098 w1099 => fI .i64 v1098 fun x1100 =>
  S48 w1099 ∧ (rqS Try.prog S48 (do eqGuard .shl 5 (.const (.int .u8 1)) (.tmp 89) (.int .u8 1) (.int .u64 (IntKind.wrap .u64 x1100)); binOp .shl 5 (.int .u8 1) (.int .u64 (IntKind.wrap .u64 x1100))) fun v1101 => fI .u8 v1101 fun x1102 =>
  (ld Try.prog 9 a50 w1099 fun v1103 => fT v1103 fun t1104 =>
  S48 w1099 ∧ (rqS Try.prog S48 (Instr.sliceAt 9 (.string t1104) none (some (.int .i64 (Int.tmod x33 64))) none) fun v1105 => fT v1105 fun t1106 =>
  ld Try.prog 9 a52 w1099 fun v1107 => fT v1107 fun t1108 =>
  S48 w1099 ∧ (rqS Try.prog S48 (Instr.index 9 (.string t1108) (.int .i64 (Int.tmod x33 64))) fun v1109 => fI .u8 v1109 fun x1110 =>
  al 5 #[(.int .u8 (bxor .u8 x1110 x1102))] w1099 fun a1112 w1111 =>
  S48 w1111 ∧ (rv Try.prog (convert 26 9 (.slice (some a1112) 1 1)) w1111 fun v1113 w1114 => fT v1113 fun t1115 =>
  S48 w1114 ∧ (rqS Try.prog S48 (do eqGuard .add 9 (.tmp 80) (.tmp 93) (.string t1106) (.string t1115); binOp .add 9 (.string t1106) (.string t1115)) fun v1116 => fT v1116 fun t1117 =>
  rqS Try.prog S48 (do eqGuard .add 9 (.tmp 94) (.tmp 101) (.string t1117) (.string t975); binOp .add 9 (.string t1117) (.string t975)) fun v1118 => fT v1118 fun t1119 =>
  rqS Try.prog S48 (Instr.indexAt 47 (.slice l12 l12n l12c) (.int .i64 (IntKind.wrap .i64 (Int.tdiv x33 64)))) fun v1120 => fA v1120 fun a1121 =>
  st Try.prog 9 a1121 (.string t1119) w1114 fun w1122 =>
  S48 w1122 ∧ (W.law34_ImageDetectsBitErrors_k15 l12 l12n l12c w1122 Q)))))) ∧ (ld Try.prog 9 a52 w1099 fun v1123 => fT v1123 fun t1124 =>
  S48 w1099 ∧ (rqS Try.prog S48 (Instr.index 9 (.string t1124) (.int .i64 (Int.tmod x33 64))) fun v1125 => fI .u8 v1125 fun x1126 =>
  (ld Try.prog 9 a50 w1099 fun v1127 => fT v1127 fun t1128 =>
  S48 w1099 ∧ (rqS Try.prog S48 (Instr.sliceAt 9 (.string t1128) none (some (.int .i64 (Int.tmod x33 64))) none) fun v1129 => fT v1129 fun t1130 =>
  al 5 #[(.int .u8 (bxor .u8 x1126 x1102))] w1099 fun a1132 w1131 =>
  S48 w1131 ∧ (rv Try.prog (convert 26 9 (.slice (some a1132) 1 1)) w1131 fun v1133 w1134 => fT v1133 fun t1135 =>
  S48 w1134 ∧ (rqS Try.prog S48 (do eqGuard .add 9 (.tmp 80) (.tmp 93) (.string t1130) (.string t1135); binOp .add 9 (.string t1130) (.string t1135)) fun v1136 => fT v1136 fun t1137 =>
  rqS Try.prog S48 (do eqGuard .add 9 (.tmp 94) (.tmp 101) (.string t1137) (.string t975); binOp .add 9 (.string t1137) (.string t975)) fun v1138 => fT v1138 fun t1139 =>
  rqS Try.prog S48 (Instr.indexAt 47 (.slice l12 l12n l12c) (.int .i64 (IntKind.wrap .i64 (Int.tdiv x33 64)))) fun v1140 => fA v1140 fun a1141 =>
  st Try.prog 9 a1141 (.string t1139) w1134 fun w1142 =>
  S48 w1142 ∧ (W.law34_ImageDetectsBitErrors_k15 l12 l12n l12c w1142 Q))))) ∧ (al 5 #[(.int .u8 (bxor .u8 x1126 x1102))] w1099 fun a1144 w1143 =>
  S48 w1143 ∧ ((ld Try.prog 9 a50 w1143 fun v1145 => fT v1145 fun t1146 =>
  S48 w1143 ∧ (rqS Try.prog S48 (Instr.sliceAt 9 (.string t1146) none (some (.int .i64 (Int.tmod x33 64))) none) fun v1147 => fT v1147 fun t1148 =>
  rv Try.prog (convert 26 9 (.slice (some a1144) 1 1)) w1143 fun v1149 w1150 => fT v1149 fun t1151 =>
  S48 w1150 ∧ (rqS Try.prog S48 (do eqGuard .add 9 (.tmp 80) (.tmp 93) (.string t1148) (.string t1151); binOp .add 9 (.string t1148) (.string t1151)) fun v1152 => fT v1152 fun t1153 =>
  rqS Try.prog S48 (do eqGuard .add 9 (.tmp 94) (.tmp 101) (.string t1153) (.string t975); binOp .add 9 (.string t1153) (.string t975)) fun v1154 => fT v1154 fun t1155 =>
  rqS Try.prog S48 (Instr.indexAt 47 (.slice l12 l12n l12c) (.int .i64 (IntKind.wrap .i64 (Int.tdiv x33 64)))) fun v1156 => fA v1156 fun a1157 =>
  st Try.prog 9 a1157 (.string t1155) w1150 fun w1158 =>
  S48 w1158 ∧ (W.law34_ImageDetectsBitErrors_k15 l12 l12n l12c w1158 Q)))) ∧ (rv Try.prog (convert 26 9 (.slice (some a1144) 1 1)) w1143 fun v1159 w1160 => fT v1159 fun t1161 =>
  S48 w1160 ∧ (ld Try.prog 9 a50 w1160 fun v1162 => fT v1162 fun t1163 =>
  S48 w1160 ∧ (rqS Try.prog S48 (Instr.sliceAt 9 (.string t1163) none (some (.int .i64 (Int.tmod x33 64))) none) fun v1164 => fT v1164 fun t1165 =>
  rqS Try.prog S48 (do eqGuard .add 9 (.tmp 80) (.tmp 93) (.string t1165) (.string t1161); binOp .add 9 (.string t1165) (.string t1161)) fun v1166 => fT v1166 fun t1167 =>
  rqS Try.prog S48 (do eqGuard .add 9 (.tmp 94) (.tmp 101) (.string t1167) (.string t975); binOp .add 9 (.string t1167) (.string t975)) fun v1168 => fT v1168 fun t1169 =>
  rqS Try.prog S48 (Instr.indexAt 47 (.slice l12 l12n l12c) (.int .i64 (IntKind.wrap .i64 (Int.tdiv x33 64)))) fun v1170 => fA v1170 fun a1171 =>
  st Try.prog 9 a1171 (.string t1169) w1160 fun w1172 =>
  S48 w1172 ∧ (W.law34_ImageDetectsBitErrors_k15 l12 l12n l12c w1172 Q))))))))))))))))))))
theorem E.law34_ImageDetectsBitErrors (l_ : Option Addr) (l_n : Nat) (l_c : Nat) (k_ : Int) (bit_ : Int) (w : World) (Q : Value → World → Prop) : ev Try.prog Try.f9.ntmps callable [(1000014, [], [0])] [] (Try.f9.body.getD .skip) (enumE 0 [(.slice l_ l_n l_c), (.int .i64 k_), (.int .i64 bit_)]) w (KQ Try.prog Try.f9.results.toList Q) = W.law34_ImageDetectsBitErrors l_ l_n l_c k_ bit_ w Q := by kernel_rfl
theorem C.law34_ImageDetectsBitErrors (l_ : Option Addr) (l_n : Nat) (l_c : Nat) (k_ : Int) (bit_ : Int) (w : World) (Q : Value → World → Prop) (h : W.law34_ImageDetectsBitErrors l_ l_n l_c k_ bit_ w Q) : CallE Try.prog 9 #[(.slice l_ l_n l_c), (.int .i64 k_), (.int .i64 bit_)] w Q :=
  calls_of_ev mixed callable_ok (args := [(.slice l_ l_n l_c), (.int .i64 k_), (.int .i64 bit_)]) Try.func9 rfl ((E.law34_ImageDetectsBitErrors l_ l_n l_c k_ bit_ w Q).symm ▸ h)

def W.law34_ImageTruncation (board_ : Array Value) (l_ : Option Addr) (l_n : Nat) (l_c : Nat) (w : World) (Q : Value → World → Prop) : Prop :=
  al 30 board_ w fun a2 w1 =>
  CallE Try.prog 20 #[(.slice l_ l_n l_c)] w1 fun v3 w4 => fB v3 fun b5 =>
  br b5 (CallE Try.prog 12 #[] w4 fun v6 w7 => fB v6 fun b8 =>
  Q (.bool b8) w7) (ld Try.prog 30 a2 w4 fun v9 => fG v9 fun g10 =>
  CallE Try.prog 21 #[(.agg g10), (.int .u64 2), (.slice l_ l_n l_c)] w4 fun v11 w12 => fG v11 fun g13 =>
  CallE Try.prog 22 #[(.agg g13)] w12 fun v14 w15 => ∃ (l16 : Option Addr) (l16n : Nat) (l16c : Nat) (x17 : Int), v14 = .tuple #[(.slice l16 l16n l16c), (.int .i64 x17)] ∧
  br ((x17 : Int) != 0) (Q (.bool false) w15) (br ((((l16n : Nat) : Int) : Int) == 0) (Q (.bool false) w15) (rq Try.prog (Instr.sliceAt 47 (.slice l16 l16n l16c) none (some (.int .i64 (IntKind.wrap .i64 (((l16n : Nat) : Int) - 1)))) none) w15 fun v18 => fS v18 fun l19 l19n l19c =>
  CallE Try.prog 25 #[(.slice l19 l19n l19c)] w15 fun v20 w21 => ∃ (g22 : Array Value) (x23 : Int), v20 = .tuple #[(.agg g22), (.int .i64 x23)] ∧
  al 45 (zeroT Try.prog 45).cells w21 fun a25 w24 =>
  st Try.prog 45 a25 (.agg g22) w24 fun w26 =>
  br ((((l16n : Nat) : Int) : Int) == 1) (br ((x23 : Int) == 3) (CallE Try.prog 12 #[] w26 fun v27 w28 => fB v27 fun b29 =>
  Q (.bool b29) w28) (Q (.bool false) w26)) (br ((x23 : Int) == 4) (CallE Try.prog 12 #[] w26 fun v30 w31 => fB v30 fun b32 =>
  Q (.bool b32) w31) (Q (.bool false) w26)))))
theorem E.law34_ImageTruncation (board_ : Array Value) (l_ : Option Addr) (l_n : Nat) (l_c : Nat) (w : World) (Q : Value → World → Prop) : ev Try.prog Try.f10.ntmps callable [] [] (Try.f10.body.getD .skip) (enumE 0 [(.agg board_), (.slice l_ l_n l_c)]) w (KQ Try.prog Try.f10.results.toList Q) = W.law34_ImageTruncation board_ l_ l_n l_c w Q := by kernel_rfl
theorem C.law34_ImageTruncation (board_ : Array Value) (l_ : Option Addr) (l_n : Nat) (l_c : Nat) (w : World) (Q : Value → World → Prop) (h : W.law34_ImageTruncation board_ l_ l_n l_c w Q) : CallE Try.prog 10 #[(.agg board_), (.slice l_ l_n l_c)] w Q :=
  calls_of_ev mixed callable_ok (args := [(.agg board_), (.slice l_ l_n l_c)]) Try.func10 rfl ((E.law34_ImageTruncation board_ l_ l_n l_c w Q).symm ▸ h)

def W.law34_ImagePrefix_k19 (p15 : Addr) (p17 : ByteArray) (p18 : ByteArray) (w : World) (Q : Value → World → Prop) : Prop :=
  ld Try.prog 23 (p15.add 33) w fun v60 => fI .u32 v60 fun x61 =>
  dr w fun w62 =>
  br (decide (((IntKind.wrap .i64 x61) : Int) ≤ ((p17.size : Nat) : Int))) (br (decide (((IntKind.wrap .i64 x61) : Int) ≤ ((p18.size : Nat) : Int))) (rq Try.prog (Instr.sliceAt 9 (.string p17) none (some (.int .i64 (IntKind.wrap .i64 x61))) none) w62 fun v63 => fT v63 fun t64 =>
  rq Try.prog (Instr.sliceAt 9 (.string p18) none (some (.int .i64 (IntKind.wrap .i64 x61))) none) w62 fun v65 => fT v65 fun t66 =>
  rq Try.prog (do eqGuard .eql 9 (.tmp 132) (.tmp 135) (.string t64) (.string t66); binOp .eql 9 (.string t64) (.string t66)) w62 fun v67 => fB v67 fun b68 =>
  br b68 (CallE Try.prog 12 #[] w62 fun v69 w70 => fB v69 fun b71 =>
  Q (.bool b71) w70) (Q (.bool false) w62)) (Q (.bool false) w62)) (Q (.bool false) w62)
def W.law34_ImagePrefix_k6 (p7 : Addr) (p8 : Addr) (w : World) (Q : Value → World → Prop) : Prop :=
  ld Try.prog 45 p7 w fun v22 => fG v22 fun g23 =>
  CallE Try.prog 22 #[(.agg g23)] w fun v24 w25 => ∃ (l26 : Option Addr) (l26n : Nat) (l26c : Nat) (x27 : Int), v24 = .tuple #[(.slice l26 l26n l26c), (.int .i64 x27)] ∧
  ld Try.prog 45 p8 w25 fun v28 => fG v28 fun g29 =>
  CallE Try.prog 22 #[(.agg g29)] w25 fun v30 w31 => ∃ (l32 : Option Addr) (l32n : Nat) (l32c : Nat) (x33 : Int), v30 = .tuple #[(.slice l32 l32n l32c), (.int .i64 x33)] ∧
  br ((x27 : Int) != 0) (Q (.bool false) w31) (br ((x33 : Int) != 0) (Q (.bool false) w31) (br ((((l26n : Nat) : Int) : Int) == 0) (Q (.bool false) w31) (br ((((l32n : Nat) : Int) : Int) == 0) (Q (.bool false) w31) (br (decide ((((l32n : Nat) : Int) : Int) > ((l26n : Nat) : Int))) (Q (.bool false) w31) (rq Try.prog (Instr.indexAt 47 (.slice l26 l26n l26c) (.int .i64 0)) w31 fun v34 => fA v34 fun a35 =>
  ld Try.prog 9 a35 w31 fun v36 => fT v36 fun t37 =>
  CallE Try.prog 16 #[(.string t37)] w31 fun v38 w39 => ∃ (g40 : Array Value) (x41 : Int), v38 = .tuple #[(.agg g40), (.int .i64 x41)] ∧
  al 32 (zeroT Try.prog 32).cells w39 fun a43 w42 =>
  st Try.prog 32 a43 (.agg g40) w42 fun w44 =>
  rq Try.prog (Instr.indexAt 47 (.slice l32 l32n l32c) (.int .i64 0)) w44 fun v45 => fA v45 fun a46 =>
  ld Try.prog 9 a46 w44 fun v47 => fT v47 fun t48 =>
  CallE Try.prog 16 #[(.string t48)] w44 fun v49 w50 => ∃ (g51 : Array Value) (x52 : Int), v49 = .tuple #[(.agg g51), (.int .i64 x52)] ∧
  al 32 (zeroT Try.prog 32).cells w50 fun a54 w53 =>
  st Try.prog 32 a54 (.agg g51) w53 fun w55 =>
  br ((x41 : Int) != 0) (Q (.bool false) w55) (br ((x52 : Int) != 0) (Q (.bool false) w55) (ld Try.prog 23 (a54.add 33) w55 fun v56 => fI .u32 v56 fun x57 =>
  ld Try.prog 23 (a43.add 33) w55 fun v58 => fI .u32 v58 fun x59 =>
  br (decide ((x57 : Int) > x59)) (Q (.bool false) w55) (LoopW (S := ByteArray × ByteArray × Int × Unit) (fun s72 w73 next74 =>
  br (decide ((s72.2.2.1 : Int) < ((l32n : Nat) : Int))) (dr w73 fun w75 =>
  rq Try.prog (Instr.indexAt 47 (.slice l26 l26n l26c) (.int .i64 s72.2.2.1)) w75 fun v76 => fA v76 fun a77 =>
  ld Try.prog 9 a77 w75 fun v78 => fT v78 fun t79 =>
  rq Try.prog (do eqGuard .add 9 (.tmp 104) (.tmp 108) (.string s72.1) (.string t79); binOp .add 9 (.string s72.1) (.string t79)) w75 fun v80 => fT v80 fun t81 =>
  rq Try.prog (Instr.indexAt 47 (.slice l32 l32n l32c) (.int .i64 s72.2.2.1)) w75 fun v82 => fA v82 fun a83 =>
  ld Try.prog 9 a83 w75 fun v84 => fT v84 fun t85 =>
  rq Try.prog (do eqGuard .add 9 (.tmp 110) (.tmp 114) (.string s72.2.1) (.string t85); binOp .add 9 (.string s72.2.1) (.string t85)) w75 fun v86 => fT v86 fun t87 =>
  next74 (t81, t87, ((IntKind.wrap .i64 (s72.2.2.1 + 1)) : Int), ()) w75) (W.law34_ImagePrefix_k19 a54 s72.1 s72.2.1 w73 Q)) (⟨#[]⟩, ⟨#[]⟩, (1 : Int), ()) w55))))))))
def W.law34_ImagePrefix (board_ : Array Value) (l_ : Option Addr) (l_n : Nat) (l_c : Nat) (k_ : Int) (w : World) (Q : Value → World → Prop) : Prop :=
  al 30 board_ w fun a2 w1 =>
  CallE Try.prog 20 #[(.slice l_ l_n l_c)] w1 fun v3 w4 => fB v3 fun b5 =>
  br b5 (CallE Try.prog 12 #[] w4 fun v6 w7 => fB v6 fun b8 =>
  Q (.bool b8) w7) (ld Try.prog 30 a2 w4 fun v9 => fG v9 fun g10 =>
  CallE Try.prog 21 #[(.agg g10), (.int .u64 3), (.slice l_ l_n l_c)] w4 fun v11 w12 => fG v11 fun g13 =>
  al 45 (zeroT Try.prog 45).cells w12 fun a15 w14 =>
  st Try.prog 45 a15 (.agg g13) w14 fun w16 =>
  ld Try.prog 45 a15 w16 fun v17 => fG v17 fun g18 =>
  al 45 (zeroT Try.prog 45).cells w16 fun a20 w19 =>
  st Try.prog 45 a20 (.agg g18) w19 fun w21 =>
  drawE fun S88 => S88 (drew w21) ∧ ((ld Try.prog 43 (a15.add 33) (drew w21) fun v89 => fS v89 fun l90 l90n l90c =>
  S88 (drew w21) ∧ (ld Try.prog 43 (a15.add 33) (drew w21) fun v91 => fS v91 fun l92 l92n l92c =>
  S88 (drew w21) ∧ (CallE Try.prog 18 #[(.int .i64 k_), (.int .i64 (IntKind.wrap .i64 (((l92n : Nat) : Int) + 1)))] (drew w21) fun v93 w94 => fI .i64 v93 fun x95 =>
  S88 w94 ∧ (rqS Try.prog S88 (Instr.sliceAt 43 (.slice l90 l90n l90c) none (some (.int .i64 x95)) none) fun v96 => fS v96 fun l97 l97n l97c =>
  st Try.prog 43 (a20.add 33) (.slice l97 l97n l97c) w94 fun w98 =>
  S88 w98 ∧ (W.law34_ImagePrefix_k6 a15 a20 w98 Q))))) ∧ (ld Try.prog 43 (a15.add 33) (drew w21) fun v99 => fS v99 fun l100 l100n l100c =>
  S88 (drew w21) ∧ ((ld Try.prog 43 (a15.add 33) (drew w21) fun v101 => fS v101 fun l102 l102n l102c =>
  S88 (drew w21) ∧ (CallE Try.prog 18 #[(.int .i64 k_), (.int .i64 (IntKind.wrap .i64 (((l100n : Nat) : Int) + 1)))] (drew w21) fun v103 w104 => fI .i64 v103 fun x105 =>
  S88 w104 ∧ (rqS Try.prog S88 (Instr.sliceAt 43 (.slice l102 l102n l102c) none (some (.int .i64 x105)) none) fun v106 => fS v106 fun l107 l107n l107c =>
  st Try.prog 43 (a20.add 33) (.slice l107 l107n l107c) w104 fun w108 =>
  S88 w108 ∧ (W.law34_ImagePrefix_k6 a15 a20 w108 Q)))) ∧ (CallE Try.prog 18 #[(.int .i64 k_), (.int .i64 (IntKind.wrap .i64 (((l100n : Nat) : Int) + 1)))] (drew w21) fun v109 w110 => fI .i64 v109 fun x111 =>
  S88 w110 ∧ (ld Try.prog 43 (a15.add 33) w110 fun v112 => fS v112 fun l113 l113n l113c =>
  S88 w110 ∧ (rqS Try.prog S88 (Instr.sliceAt 43 (.slice l113 l113n l113c) none (some (.int .i64 x111)) none) fun v114 => fS v114 fun l115 l115n l115c =>
  st Try.prog 43 (a20.add 33) (.slice l115 l115n l115c) w110 fun w116 =>
  S88 w116 ∧ (W.law34_ImagePrefix_k6 a15 a20 w116 Q))))))))
theorem E.law34_ImagePrefix (board_ : Array Value) (l_ : Option Addr) (l_n : Nat) (l_c : Nat) (k_ : Int) (w : World) (Q : Value → World → Prop) : ev Try.prog Try.f11.ntmps callable [(16, [(17, .string ⟨#[]⟩), (18, .string ⟨#[]⟩), (19, .int .i64 0)], [9, 11, 15]), (1000005, [], [0])] [] (Try.f11.body.getD .skip) (enumE 0 [(.agg board_), (.slice l_ l_n l_c), (.int .i64 k_)]) w (KQ Try.prog Try.f11.results.toList Q) = W.law34_ImagePrefix board_ l_ l_n l_c k_ w Q := by kernel_rfl
theorem C.law34_ImagePrefix (board_ : Array Value) (l_ : Option Addr) (l_n : Nat) (l_c : Nat) (k_ : Int) (w : World) (Q : Value → World → Prop) (h : W.law34_ImagePrefix board_ l_ l_n l_c k_ w Q) : CallE Try.prog 11 #[(.agg board_), (.slice l_ l_n l_c), (.int .i64 k_)] w Q :=
  calls_of_ev mixed callable_ok (args := [(.agg board_), (.slice l_ l_n l_c), (.int .i64 k_)]) Try.func11 rfl ((E.law34_ImagePrefix board_ l_ l_n l_c k_ w Q).symm ▸ h)

def W.law34_awake (w : World) (Q : Value → World → Prop) : Prop :=
  CallE Try.prog 22 #[(.agg #[(.int .u8 0), (.int .u8 0), (.int .u8 0), (.int .u8 0), (.int .u8 0), (.int .u8 0), (.int .u8 0), (.int .u8 0), (.int .u8 0), (.int .u8 0), (.int .u8 0), (.int .u8 0), (.int .u8 0), (.int .u8 0), (.int .u8 0), (.int .u8 0), (.int .u8 0), (.int .u8 0), (.int .u8 0), (.int .u8 0), (.int .u8 0), (.int .u8 0), (.int .u8 0), (.int .u8 0), (.int .u8 0), (.int .u8 0), (.int .u8 0), (.int .u8 0), (.int .u8 0), (.int .u8 0), (.int .u8 0), (.int .u8 0), (.int .u64 5), (.slice none 0 0)])] w fun v1 w2 => ∃ (l3 : Option Addr) (l3n : Nat) (l3c : Nat) (x4 : Int), v1 = .tuple #[(.slice l3 l3n l3c), (.int .i64 x4)] ∧
  CallE Try.prog 25 #[(.slice l3 l3n l3c)] w2 fun v5 w6 => ∃ (g7 : Array Value) (x8 : Int), v5 = .tuple #[(.agg g7), (.int .i64 x8)] ∧
  al 45 (zeroT Try.prog 45).cells w6 fun a10 w9 =>
  st Try.prog 45 a10 (.agg g7) w9 fun w11 =>
  CallE Try.prog 25 #[(.slice none 0 0)] w11 fun v12 w13 => ∃ (g14 : Array Value) (x15 : Int), v12 = .tuple #[(.agg g14), (.int .i64 x15)] ∧
  al 45 (zeroT Try.prog 45).cells w13 fun a17 w16 =>
  st Try.prog 45 a17 (.agg g14) w16 fun w18 =>
  CallE Try.prog 13 #[(.string ⟨#[49,50,51,52,53,54,55,56,57]⟩)] w18 fun v19 w20 => fI .u32 v19 fun x21 =>
  br ((x21 : Int) == 3421780262) (br ((x4 : Int) == 0) (br ((x8 : Int) == 0) (br ((x15 : Int) == 3) (br ((((l3n : Nat) : Int) : Int) == 1) (ld Try.prog 28 (a10.add 32) w20 fun v22 => fI .u64 v22 fun x23 =>
  br ((x23 : Int) == 5) (ld Try.prog 43 (a10.add 33) w20 fun v24 => fS v24 fun l25 l25n l25c =>
  Q (.bool ((((l25n : Nat) : Int) : Int) == 0)) w20) (Q (.bool false) w20)) (Q (.bool false) w20)) (Q (.bool false) w20)) (Q (.bool false) w20)) (Q (.bool false) w20)) (Q (.bool false) w20)
theorem E.law34_awake (w : World) (Q : Value → World → Prop) : ev Try.prog Try.f12.ntmps callable [] [] (Try.f12.body.getD .skip) (enumE 0 []) w (KQ Try.prog Try.f12.results.toList Q) = W.law34_awake w Q := by kernel_rfl
theorem C.law34_awake (w : World) (Q : Value → World → Prop) (h : W.law34_awake w Q) : CallE Try.prog 12 #[] w Q :=
  calls_of_ev mixed callable_ok (args := []) Try.func12 rfl ((E.law34_awake w Q).symm ▸ h)

def W.image_Checksum_k14 (p0 : ByteArray) (p3 : Addr) (w : World) (Q : Value → World → Prop) : Prop :=
  LoopW (S := Int × Int × Unit) (fun s3 w4 next5 =>
  br (decide ((s3.2.1 : Int) < ((p0.size : Nat) : Int))) (rq Try.prog (Instr.index 9 (.string p0) (.int .i64 s3.2.1)) w4 fun v6 => fI .u8 v6 fun x7 =>
  rq Try.prog (Instr.indexAt 62 (.pointer (some p3)) (.int .u32 (band .u32 (bxor .u32 s3.1 (IntKind.wrap .u32 x7)) 15))) w4 fun v8 => fA v8 fun a9 =>
  ld Try.prog 23 a9 w4 fun v10 => fI .u32 v10 fun x11 =>
  rq Try.prog (Instr.indexAt 62 (.pointer (some p3)) (.int .u32 (band .u32 (bxor .u32 (Int.fdiv (bxor .u32 s3.1 (IntKind.wrap .u32 x7)) (2 ^ 4)) x11) 15))) w4 fun v12 => fA v12 fun a13 =>
  ld Try.prog 23 a13 w4 fun v14 => fI .u32 v14 fun x15 =>
  next5 (((bxor .u32 (Int.fdiv (bxor .u32 (Int.fdiv (bxor .u32 s3.1 (IntKind.wrap .u32 x7)) (2 ^ 4)) x11) (2 ^ 4)) x15) : Int), ((IntKind.wrap .i64 (s3.2.1 + 1)) : Int), ()) w4) (Q (.int .u32 (bxor .u32 (IntKind.max .u32) s3.1)) w4)) ((4294967295 : Int), (0 : Int), ()) w
def W.image_Checksum (s_ : ByteArray) (w : World) (Q : Value → World → Prop) : Prop :=
  al 62 (zeroT Try.prog 62).cells w fun a2 w1 =>
  LoopW (S := Int × Unit) (fun s16 w17 next18 =>
  br (decide ((s16.1 : Int) < 16)) (LoopW (S := Int × Int × Unit) (fun s19 w20 next21 =>
  br (decide ((s19.2.1 : Int) < 4)) (br (((band .u32 s19.1 1) : Int) != 0) (next21 (((bxor .u32 (Int.fdiv s19.1 (2 ^ 1)) 3988292384) : Int), ((IntKind.wrap .i64 (s19.2.1 + 1)) : Int), ()) w20) (next21 (((Int.fdiv s19.1 (2 ^ 1)) : Int), ((IntKind.wrap .i64 (s19.2.1 + 1)) : Int), ()) w20)) (rq Try.prog (Instr.indexAt 62 (.pointer (some a2)) (.int .i64 s16.1)) w20 fun v22 => fA v22 fun a23 =>
  st Try.prog 23 a23 (.int .u32 s19.1) w20 fun w24 =>
  next18 (((IntKind.wrap .i64 (s16.1 + 1)) : Int), ()) w24)) (((IntKind.wrap .u32 s16.1) : Int), (0 : Int), ()) w17) (W.image_Checksum_k14 s_ a2 w17 Q)) ((0 : Int), ()) w1
theorem E.image_Checksum (s_ : ByteArray) (w : World) (Q : Value → World → Prop) : ev Try.prog Try.f13.ntmps callable [(16, [(6, .int .u32 0), (7, .int .i64 0)], [0, 3]), (3, [(8, .int .i64 0)], [0, 3]), (7, [(5, .int .u32 0), (13, .int .i64 0)], [0, 3, 4, 8])] [] (Try.f13.body.getD .skip) (enumE 0 [(.string s_)]) w (KQ Try.prog Try.f13.results.toList Q) = W.image_Checksum s_ w Q := by kernel_rfl
theorem C.image_Checksum (s_ : ByteArray) (w : World) (Q : Value → World → Prop) (h : W.image_Checksum s_ w Q) : CallE Try.prog 13 #[(.string s_)] w Q :=
  calls_of_ev mixed callable_ok (args := [(.string s_)]) Try.func13 rfl ((E.image_Checksum s_ w Q).symm ▸ h)

def W.ref34_Checksum (s_ : ByteArray) (w : World) (Q : Value → World → Prop) : Prop :=
  LoopW (S := Int × Int × Unit) (fun s1 w2 next3 =>
  br (decide ((s1.2.1 : Int) < ((s_.size : Nat) : Int))) (rq Try.prog (Instr.index 9 (.string s_) (.int .i64 s1.2.1)) w2 fun v4 => fI .u8 v4 fun x5 =>
  LoopW (S := Int × Int × Unit) (fun s6 w7 next8 =>
  br (decide ((s6.2.1 : Int) < 8)) (br (((band .u32 s6.1 1) : Int) == 1) (next8 (((bxor .u32 (Int.fdiv s6.1 (2 ^ 1)) 3988292384) : Int), ((IntKind.wrap .i64 (s6.2.1 + 1)) : Int), ()) w7) (next8 (((Int.fdiv s6.1 (2 ^ 1)) : Int), ((IntKind.wrap .i64 (s6.2.1 + 1)) : Int), ()) w7)) (next3 ((s6.1 : Int), ((IntKind.wrap .i64 (s1.2.1 + 1)) : Int), ()) w7)) (((bxor .u32 s1.1 (IntKind.wrap .u32 x5)) : Int), (0 : Int), ()) w2) (Q (.int .u32 (bxor .u32 (IntKind.max .u32) s1.1)) w2)) ((4294967295 : Int), (0 : Int), ()) w
theorem E.ref34_Checksum (s_ : ByteArray) (w : World) (Q : Value → World → Prop) : ev Try.prog Try.f14.ntmps callable [(3, [(3, .int .u32 0), (4, .int .i64 0)], [0]), (7, [(3, .int .u32 0), (5, .int .i64 0)], [0, 4])] [] (Try.f14.body.getD .skip) (enumE 0 [(.string s_)]) w (KQ Try.prog Try.f14.results.toList Q) = W.ref34_Checksum s_ w Q := by kernel_rfl
theorem C.ref34_Checksum (s_ : ByteArray) (w : World) (Q : Value → World → Prop) (h : W.ref34_Checksum s_ w Q) : CallE Try.prog 14 #[(.string s_)] w Q :=
  calls_of_ev mixed callable_ok (args := [(.string s_)]) Try.func14 rfl ((E.ref34_Checksum s_ w Q).symm ▸ h)

def W.image_EncodeHeader (h_ : Array Value) (w : World) (Q : Value → World → Prop) : Prop :=
  al 32 h_ w fun a2 w1 =>
  rv Try.prog (Instr.makeSlice 26 (.int .i64 0) (.int .i64 64)) w1 fun v3 w4 => fS v3 fun l5 l5n l5c =>
  rv Try.prog (Builtin.append_ #[26, 9] 26 #[(.slice l5 l5n l5c), (.string ⟨#[72,73,66,49]⟩)]) w4 fun v6 w7 => fS v6 fun l8 l8n l8c =>
  ld Try.prog 28 (a2.add 0) w7 fun v9 => fI .u64 v9 fun x10 =>
  CallE Try.prog 27 #[(.slice l8 l8n l8c), (.int .u64 x10), (.int .i64 8)] w7 fun v11 w12 => fS v11 fun l13 l13n l13c =>
  rq Try.prog (Instr.sliceAt 30 (.pointer (some (a2.add 1))) none none none) w12 fun v14 => fS v14 fun l15 l15n l15c =>
  rv Try.prog (Builtin.append_ #[26, 26] 26 #[(.slice l13 l13n l13c), (.slice l15 l15n l15c)]) w12 fun v16 w17 => fS v16 fun l18 l18n l18c =>
  ld Try.prog 23 (a2.add 33) w17 fun v19 => fI .u32 v19 fun x20 =>
  CallE Try.prog 27 #[(.slice l18 l18n l18c), (.int .u64 (IntKind.wrap .u64 x20)), (.int .i64 4)] w17 fun v21 w22 => fS v21 fun l23 l23n l23c =>
  ld Try.prog 23 (a2.add 34) w22 fun v24 => fI .u32 v24 fun x25 =>
  CallE Try.prog 27 #[(.slice l23 l23n l23c), (.int .u64 (IntKind.wrap .u64 x25)), (.int .i64 4)] w22 fun v26 w27 => fS v26 fun l28 l28n l28c =>
  rv Try.prog (convert 26 9 (.slice l28 l28n l28c)) w27 fun v29 w30 => fT v29 fun t31 =>
  CallE Try.prog 13 #[(.string t31)] w30 fun v32 w33 => fI .u32 v32 fun x34 =>
  CallE Try.prog 27 #[(.slice l28 l28n l28c), (.int .u64 (IntKind.wrap .u64 x34)), (.int .i64 4)] w33 fun v35 w36 => fS v35 fun l37 l37n l37c =>
  CallE Try.prog 27 #[(.slice l37 l37n l37c), (.int .u64 0), (.int .i64 8)] w36 fun v38 w39 => fS v38 fun l40 l40n l40c =>
  rv Try.prog (convert 26 9 (.slice l40 l40n l40c)) w39 fun v41 w42 => fT v41 fun t43 =>
  Q (.string t43) w42
theorem E.image_EncodeHeader (h_ : Array Value) (w : World) (Q : Value → World → Prop) : ev Try.prog Try.f15.ntmps callable [] [] (Try.f15.body.getD .skip) (enumE 0 [(.agg h_)]) w (KQ Try.prog Try.f15.results.toList Q) = W.image_EncodeHeader h_ w Q := by kernel_rfl
theorem C.image_EncodeHeader (h_ : Array Value) (w : World) (Q : Value → World → Prop) (h : W.image_EncodeHeader h_ w Q) : CallE Try.prog 15 #[(.agg h_)] w Q :=
  calls_of_ev mixed callable_ok (args := [(.agg h_)]) Try.func15 rfl ((E.image_EncodeHeader h_ w Q).symm ▸ h)

def W.image_DecodeHeader_k8 (p0 : ByteArray) (p2 : Addr) (p4 : Addr) (w : World) (Q : Value → World → Prop) : Prop :=
  dr w fun w34 =>
  rq Try.prog (Instr.sliceAt 30 (.pointer (some (p4.add 1))) none none none) w34 fun v35 => fS v35 fun l36 l36n l36c =>
  rq Try.prog (Instr.sliceAt 9 (.string p0) (some (.int .i64 12)) (some (.int .i64 44)) none) w34 fun v37 => fT v37 fun t38 =>
  rv Try.prog (Builtin.copy_ #[26, 9] 3 #[(.slice l36 l36n l36c), (.string t38)]) w34 fun v39 w40 => fI .i64 v39 fun x41 =>
  ld Try.prog 32 p4 w40 fun v42 => fG v42 fun g43 =>
  st Try.prog 32 p2 (.agg g43) w40 fun w44 =>
  ld Try.prog 32 p2 w44 fun v45 => fG v45 fun g46 =>
  Q (.tuple #[(.agg g46), (.int .i64 0)]) w44
def W.image_DecodeHeader (s_ : ByteArray) (w : World) (Q : Value → World → Prop) : Prop :=
  al 32 (zeroT Try.prog 32).cells w fun a2 w1 =>
  br ((((s_.size : Nat) : Int) : Int) != 64) (st Try.prog 32 a2 (.agg #[(.int .u64 0), (.int .u8 0), (.int .u8 0), (.int .u8 0), (.int .u8 0), (.int .u8 0), (.int .u8 0), (.int .u8 0), (.int .u8 0), (.int .u8 0), (.int .u8 0), (.int .u8 0), (.int .u8 0), (.int .u8 0), (.int .u8 0), (.int .u8 0), (.int .u8 0), (.int .u8 0), (.int .u8 0), (.int .u8 0), (.int .u8 0), (.int .u8 0), (.int .u8 0), (.int .u8 0), (.int .u8 0), (.int .u8 0), (.int .u8 0), (.int .u8 0), (.int .u8 0), (.int .u8 0), (.int .u8 0), (.int .u8 0), (.int .u8 0), (.int .u32 0), (.int .u32 0)]) w1 fun w3 =>
  ld Try.prog 32 a2 w3 fun v4 => fG v4 fun g5 =>
  Q (.tuple #[(.agg g5), (.int .i64 3)]) w3) (CallE Try.prog 28 #[(.string s_), (.string ⟨#[72,73,66,49]⟩)] w1 fun v6 w7 => fB v6 fun b8 =>
  br (!b8) (st Try.prog 32 a2 (.agg #[(.int .u64 0), (.int .u8 0), (.int .u8 0), (.int .u8 0), (.int .u8 0), (.int .u8 0), (.int .u8 0), (.int .u8 0), (.int .u8 0), (.int .u8 0), (.int .u8 0), (.int .u8 0), (.int .u8 0), (.int .u8 0), (.int .u8 0), (.int .u8 0), (.int .u8 0), (.int .u8 0), (.int .u8 0), (.int .u8 0), (.int .u8 0), (.int .u8 0), (.int .u8 0), (.int .u8 0), (.int .u8 0), (.int .u8 0), (.int .u8 0), (.int .u8 0), (.int .u8 0), (.int .u8 0), (.int .u8 0), (.int .u8 0), (.int .u8 0), (.int .u32 0), (.int .u32 0)]) w7 fun w9 =>
  ld Try.prog 32 a2 w9 fun v10 => fG v10 fun g11 =>
  Q (.tuple #[(.agg g11), (.int .i64 3)]) w9) (rq Try.prog (Instr.sliceAt 9 (.string s_) (some (.int .i64 56)) none none) w7 fun v12 => fT v12 fun t13 =>
  CallE Try.prog 29 #[(.string t13)] w7 fun v14 w15 => fI .u64 v14 fun x16 =>
  br ((x16 : Int) != 0) (st Try.prog 32 a2 (.agg #[(.int .u64 0), (.int .u8 0), (.int .u8 0), (.int .u8 0), (.int .u8 0), (.int .u8 0), (.int .u8 0), (.int .u8 0), (.int .u8 0), (.int .u8 0), (.int .u8 0), (.int .u8 0), (.int .u8 0), (.int .u8 0), (.int .u8 0), (.int .u8 0), (.int .u8 0), (.int .u8 0), (.int .u8 0), (.int .u8 0), (.int .u8 0), (.int .u8 0), (.int .u8 0), (.int .u8 0), (.int .u8 0), (.int .u8 0), (.int .u8 0), (.int .u8 0), (.int .u8 0), (.int .u8 0), (.int .u8 0), (.int .u8 0), (.int .u8 0), (.int .u32 0), (.int .u32 0)]) w15 fun w17 =>
  ld Try.prog 32 a2 w17 fun v18 => fG v18 fun g19 =>
  Q (.tuple #[(.agg g19), (.int .i64 3)]) w17) (drawE fun S20 => S20 (drew w15) ∧ (rqS Try.prog S20 (Instr.sliceAt 9 (.string s_) (some (.int .i64 52)) (some (.int .i64 56)) none) fun v21 => fT v21 fun t22 =>
  rqS Try.prog S20 (Instr.sliceAt 9 (.string s_) none (some (.int .i64 52)) none) fun v23 => fT v23 fun t24 =>
  CallE Try.prog 29 #[(.string t22)] (drew w15) fun v25 w26 => fI .u64 v25 fun x27 =>
  S20 w26 ∧ (CallE Try.prog 13 #[(.string t24)] w26 fun v28 w29 => fI .u32 v28 fun x30 =>
  S20 w29 ∧ (br ((x27 : Int) != (IntKind.wrap .u64 x30)) (st Try.prog 32 a2 (.agg #[(.int .u64 0), (.int .u8 0), (.int .u8 0), (.int .u8 0), (.int .u8 0), (.int .u8 0), (.int .u8 0), (.int .u8 0), (.int .u8 0), (.int .u8 0), (.int .u8 0), (.int .u8 0), (.int .u8 0), (.int .u8 0), (.int .u8 0), (.int .u8 0), (.int .u8 0), (.int .u8 0), (.int .u8 0), (.int .u8 0), (.int .u8 0), (.int .u8 0), (.int .u8 0), (.int .u8 0), (.int .u8 0), (.int .u8 0), (.int .u8 0), (.int .u8 0), (.int .u8 0), (.int .u8 0), (.int .u8 0), (.int .u8 0), (.int .u8 0), (.int .u32 0), (.int .u32 0)]) w29 fun w31 =>
  ld Try.prog 32 a2 w31 fun v32 => fG v32 fun g33 =>
  Q (.tuple #[(.agg g33), (.int .i64 5)]) w31) (drawE fun S47 => S47 (drew w29) ∧ (rqS Try.prog S47 (Instr.sliceAt 9 (.string s_) (some (.int .i64 4)) (some (.int .i64 12)) none) fun v48 => fT v48 fun t49 =>
  rqS Try.prog S47 (Instr.sliceAt 9 (.string s_) (some (.int .i64 44)) (some (.int .i64 48)) none) fun v50 => fT v50 fun t51 =>
  rqS Try.prog S47 (Instr.sliceAt 9 (.string s_) (some (.int .i64 48)) (some (.int .i64 52)) none) fun v52 => fT v52 fun t53 =>
  (CallE Try.prog 29 #[(.string t49)] (drew w29) fun v54 w55 => fI .u64 v54 fun x56 =>
  S47 w55 ∧ ((CallE Try.prog 29 #[(.string t51)] w55 fun v57 w58 => fI .u64 v57 fun x59 =>
  S47 w58 ∧ ((CallE Try.prog 29 #[(.string t53)] w58 fun v60 w61 => fI .u64 v60 fun x62 =>
  S47 w61 ∧ (al 32 (zeroT Try.prog 32).cells w61 fun a64 w63 =>
  S47 w63 ∧ (st Try.prog 32 a64 (.agg #[(.int .u64 x56), (.int .u8 0), (.int .u8 0), (.int .u8 0), (.int .u8 0), (.int .u8 0), (.int .u8 0), (.int .u8 0), (.int .u8 0), (.int .u8 0), (.int .u8 0), (.int .u8 0), (.int .u8 0), (.int .u8 0), (.int .u8 0), (.int .u8 0), (.int .u8 0), (.int .u8 0), (.int .u8 0), (.int .u8 0), (.int .u8 0), (.int .u8 0), (.int .u8 0), (.int .u8 0), (.int .u8 0), (.int .u8 0), (.int .u8 0), (.int .u8 0), (.int .u8 0), (.int .u8 0), (.int .u8 0), (.int .u8 0), (.int .u8 0), (.int .u32 (IntKind.wrap .u32 x59)), (.int .u32 (IntKind.wrap .u32 x62))]) w63 fun w65 =>
  S47 w65 ∧ (W.image_DecodeHeader_k8 s_ a2 a64 w65 Q)))) ∧ (al 32 (zeroT Try.prog 32).cells w58 fun a67 w66 =>
  S47 w66 ∧ (CallE Try.prog 29 #[(.string t53)] w66 fun v68 w69 => fI .u64 v68 fun x70 =>
  S47 w69 ∧ (st Try.prog 32 a67 (.agg #[(.int .u64 x56), (.int .u8 0), (.int .u8 0), (.int .u8 0), (.int .u8 0), (.int .u8 0), (.int .u8 0), (.int .u8 0), (.int .u8 0), (.int .u8 0), (.int .u8 0), (.int .u8 0), (.int .u8 0), (.int .u8 0), (.int .u8 0), (.int .u8 0), (.int .u8 0), (.int .u8 0), (.int .u8 0), (.int .u8 0), (.int .u8 0), (.int .u8 0), (.int .u8 0), (.int .u8 0), (.int .u8 0), (.int .u8 0), (.int .u8 0), (.int .u8 0), (.int .u8 0), (.int .u8 0), (.int .u8 0), (.int .u8 0), (.int .u8 0), (.int .u32 (IntKind.wrap .u32 x59)), (.int .u32 (IntKind.wrap .u32 x70))]) w69 fun w71 =>
  S47 w71 ∧ (W.image_DecodeHeader_k8 s_ a2 a67 w71 Q)))))) ∧ (al 32 (zeroT Try.prog 32).cells w55 fun a73 w72 =>
  S47 w72 ∧ (CallE Try.prog 29 #[(.string t51)] w72 fun v74 w75 => fI .u64 v74 fun x76 =>
  S47 w75 ∧ (CallE Try.prog 29 #[(.string t53)] w75 fun v77 w78 => fI .u64 v77 fun x79 =>
  S47 w78 ∧ (st Try.prog 32 a73 (.agg #[(.int .u64 x56), (.int .u8 0), (.int .u8 0), (.int .u8 0), (.int .u8 0), (.int .u8 0), (.int .u8 0), (.int .u8 0), (.int .u8 0), (.int .u8 0), (.int .u8 0), (.int .u8 0), (.int .u8 0), (.int .u8 0), (.int .u8 0), (.int .u8 0), (.int .u8 0), (.int .u8 0), (.int .u8 0), (.int .u8 0), (.int .u8 0), (.int .u8 0), (.int .u8 0), (.int .u8 0), (.int .u8 0), (.int .u8 0), (.int .u8 0), (.int .u8 0), (.int .u8 0), (.int .u8 0), (.int .u8 0), (.int .u8 0), (.int .u8 0), (.int .u32 (IntKind.wrap .u32 x76)), (.int .u32 (IntKind.wrap .u32 x79))]) w78 fun w80 =>
  S47 w80 ∧ (W.image_DecodeHeader_k8 s_ a2 a73 w80 Q))))))) ∧ (al 32 (zeroT Try.prog 32).cells (drew w29) fun a82 w81 =>
  S47 w81 ∧ (CallE Try.prog 29 #[(.string t49)] w81 fun v83 w84 => fI .u64 v83 fun x85 =>
  S47 w84 ∧ (CallE Try.prog 29 #[(.string t51)] w84 fun v86 w87 => fI .u64 v86 fun x88 =>
  S47 w87 ∧ (CallE Try.prog 29 #[(.string t53)] w87 fun v89 w90 => fI .u64 v89 fun x91 =>
  S47 w90 ∧ (st Try.prog 32 a82 (.agg #[(.int .u64 x85), (.int .u8 0), (.int .u8 0), (.int .u8 0), (.int .u8 0), (.int .u8 0), (.int .u8 0), (.int .u8 0), (.int .u8 0), (.int .u8 0), (.int .u8 0), (.int .u8 0), (.int .u8 0), (.int .u8 0), (.int .u8 0), (.int .u8 0), (.int .u8 0), (.int .u8 0), (.int .u8 0), (.int .u8 0), (.int .u8 0), (.int .u8 0), (.int .u8 0), (.int .u8 0), (.int .u8 0), (.int .u8 0), (.int .u8 0), (.int .u8 0), (.int .u8 0), (.int .u8 0), (.int .u8 0), (.int .u8 0), (.int .u8 0), (.int .u32 (IntKind.wrap .u32 x88)), (.int .u32 (IntKind.wrap .u32 x91))]) w90 fun w92 =>
  S47 w92 ∧ (W.image_DecodeHeader_k8 s_ a2 a82 w92 Q))))))))))))))
theorem E.image_DecodeHeader (s_ : ByteArray) (w : World) (Q : Value → World → Prop) : ev Try.prog Try.f16.ntmps callable [] [] (Try.f16.body.getD .skip) (enumE 0 [(.string s_)]) w (KQ Try.prog Try.f16.results.toList Q) = W.image_DecodeHeader s_ w Q := by kernel_rfl
theorem C.image_DecodeHeader (s_ : ByteArray) (w : World) (Q : Value → World → Prop) (h : W.image_DecodeHeader s_ w Q) : CallE Try.prog 16 #[(.string s_)] w Q :=
  calls_of_ev mixed callable_ok (args := [(.string s_)]) Try.func16 rfl ((E.image_DecodeHeader s_ w Q).symm ▸ h)

def W.ref34_EncodeHeader_k2 (p3 : ByteArray) (w : World) (Q : Value → World → Prop) : Prop :=
  drawE fun S3 => S3 (drew w) ∧ ((CallE Try.prog 14 #[(.string p3)] (drew w) fun v4 w5 => fI .u32 v4 fun x6 =>
  S3 w5 ∧ ((CallE Try.prog 30 #[(.int .u64 (IntKind.wrap .u64 x6)), (.int .i64 4)] w5 fun v7 w8 => fT v7 fun t9 =>
  S3 w8 ∧ (rqS Try.prog S3 (do eqGuard .add 9 (.tmp 22) (.tmp 26) (.string p3) (.string t9); binOp .add 9 (.string p3) (.string t9)) fun v10 => fT v10 fun t11 =>
  rv Try.prog (Instr.makeSlice 26 (.int .i64 8) (.int .i64 8)) w8 fun v12 w13 => fS v12 fun l14 l14n l14c =>
  S3 w13 ∧ (rv Try.prog (convert 26 9 (.slice l14 l14n l14c)) w13 fun v15 w16 => fT v15 fun t17 =>
  S3 w16 ∧ (rqS Try.prog S3 (do eqGuard .add 9 (.tmp 27) (.tmp 29) (.string t11) (.string t17); binOp .add 9 (.string t11) (.string t17)) fun v18 => fT v18 fun t19 =>
  Q (.string t19) w16)))) ∧ (rv Try.prog (Instr.makeSlice 26 (.int .i64 8) (.int .i64 8)) w5 fun v20 w21 => fS v20 fun l22 l22n l22c =>
  S3 w21 ∧ ((CallE Try.prog 30 #[(.int .u64 (IntKind.wrap .u64 x6)), (.int .i64 4)] w21 fun v23 w24 => fT v23 fun t25 =>
  S3 w24 ∧ (rqS Try.prog S3 (do eqGuard .add 9 (.tmp 22) (.tmp 26) (.string p3) (.string t25); binOp .add 9 (.string p3) (.string t25)) fun v26 => fT v26 fun t27 =>
  rv Try.prog (convert 26 9 (.slice l22 l22n l22c)) w24 fun v28 w29 => fT v28 fun t30 =>
  S3 w29 ∧ (rqS Try.prog S3 (do eqGuard .add 9 (.tmp 27) (.tmp 29) (.string t27) (.string t30); binOp .add 9 (.string t27) (.string t30)) fun v31 => fT v31 fun t32 =>
  Q (.string t32) w29))) ∧ (rv Try.prog (convert 26 9 (.slice l22 l22n l22c)) w21 fun v33 w34 => fT v33 fun t35 =>
  S3 w34 ∧ (CallE Try.prog 30 #[(.int .u64 (IntKind.wrap .u64 x6)), (.int .i64 4)] w34 fun v36 w37 => fT v36 fun t38 =>
  S3 w37 ∧ (rqS Try.prog S3 (do eqGuard .add 9 (.tmp 22) (.tmp 26) (.string p3) (.string t38); binOp .add 9 (.string p3) (.string t38)) fun v39 => fT v39 fun t40 =>
  rqS Try.prog S3 (do eqGuard .add 9 (.tmp 27) (.tmp 29) (.string t40) (.string t35); binOp .add 9 (.string t40) (.string t35)) fun v41 => fT v41 fun t42 =>
  Q (.string t42) w37))))))) ∧ (rv Try.prog (Instr.makeSlice 26 (.int .i64 8) (.int .i64 8)) (drew w) fun v43 w44 => fS v43 fun l45 l45n l45c =>
  S3 w44 ∧ ((CallE Try.prog 14 #[(.string p3)] w44 fun v46 w47 => fI .u32 v46 fun x48 =>
  S3 w47 ∧ ((CallE Try.prog 30 #[(.int .u64 (IntKind.wrap .u64 x48)), (.int .i64 4)] w47 fun v49 w50 => fT v49 fun t51 =>
  S3 w50 ∧ (rqS Try.prog S3 (do eqGuard .add 9 (.tmp 22) (.tmp 26) (.string p3) (.string t51); binOp .add 9 (.string p3) (.string t51)) fun v52 => fT v52 fun t53 =>
  rv Try.prog (convert 26 9 (.slice l45 l45n l45c)) w50 fun v54 w55 => fT v54 fun t56 =>
  S3 w55 ∧ (rqS Try.prog S3 (do eqGuard .add 9 (.tmp 27) (.tmp 29) (.string t53) (.string t56); binOp .add 9 (.string t53) (.string t56)) fun v57 => fT v57 fun t58 =>
  Q (.string t58) w55))) ∧ (rv Try.prog (convert 26 9 (.slice l45 l45n l45c)) w47 fun v59 w60 => fT v59 fun t61 =>
  S3 w60 ∧ (CallE Try.prog 30 #[(.int .u64 (IntKind.wrap .u64 x48)), (.int .i64 4)] w60 fun v62 w63 => fT v62 fun t64 =>
  S3 w63 ∧ (rqS Try.prog S3 (do eqGuard .add 9 (.tmp 22) (.tmp 26) (.string p3) (.string t64); binOp .add 9 (.string p3) (.string t64)) fun v65 => fT v65 fun t66 =>
  rqS Try.prog S3 (do eqGuard .add 9 (.tmp 27) (.tmp 29) (.string t66) (.string t61); binOp .add 9 (.string t66) (.string t61)) fun v67 => fT v67 fun t68 =>
  Q (.string t68) w63))))) ∧ (rv Try.prog (convert 26 9 (.slice l45 l45n l45c)) w44 fun v69 w70 => fT v69 fun t71 =>
  S3 w70 ∧ (CallE Try.prog 14 #[(.string p3)] w70 fun v72 w73 => fI .u32 v72 fun x74 =>
  S3 w73 ∧ (CallE Try.prog 30 #[(.int .u64 (IntKind.wrap .u64 x74)), (.int .i64 4)] w73 fun v75 w76 => fT v75 fun t77 =>
  S3 w76 ∧ (rqS Try.prog S3 (do eqGuard .add 9 (.tmp 22) (.tmp 26) (.string p3) (.string t77); binOp .add 9 (.string p3) (.string t77)) fun v78 => fT v78 fun t79 =>
  rqS Try.prog S3 (do eqGuard .add 9 (.tmp 27) (.tmp 29) (.string t79) (.string t71); binOp .add 9 (.string t79) (.string t71)) fun v80 => fT v80 fun t81 =>
  Q (.string t81) w76)))))))
def W.ref34_EncodeHeader (h_ : Array Value) (w : World) (Q : Value → World → Prop) : Prop :=
  al 32 h_ w fun a2 w1 =>
  drawE fun S82 => S82 (drew w1) ∧ (ldS Try.prog S82 28 (a2.add 0) fun v83 => fI .u64 v83 fun x84 =>
  rqS Try.prog S82 (Instr.sliceAt 30 (.pointer (some (a2.add 1))) none none none) fun v85 => fS v85 fun l86 l86n l86c =>
  ldS Try.prog S82 23 (a2.add 33) fun v87 => fI .u32 v87 fun x88 =>
  ldS Try.prog S82 23 (a2.add 34) fun v89 => fI .u32 v89 fun x90 =>
  (CallE Try.prog 30 #[(.int .u64 x84), (.int .i64 8)] (drew w1) fun v91 w92 => fT v91 fun t93 =>
  S82 w92 ∧ (rqS Try.prog S82 (do eqGuard .add 9 (.const (.string ⟨#[72,73,66,49]⟩)) (.tmp 6) (.string ⟨#[72,73,66,49]⟩) (.string t93); binOp .add 9 (.string ⟨#[72,73,66,49]⟩) (.string t93)) fun v94 => fT v94 fun t95 =>
  (rv Try.prog (convert 26 9 (.slice l86 l86n l86c)) w92 fun v96 w97 => fT v96 fun t98 =>
  S82 w97 ∧ (rqS Try.prog S82 (do eqGuard .add 9 (.tmp 7) (.tmp 10) (.string t95) (.string t98); binOp .add 9 (.string t95) (.string t98)) fun v99 => fT v99 fun t100 =>
  CallE Try.prog 30 #[(.int .u64 (IntKind.wrap .u64 x88)), (.int .i64 4)] w97 fun v101 w102 => fT v101 fun t103 =>
  S82 w102 ∧ (rqS Try.prog S82 (do eqGuard .add 9 (.tmp 11) (.tmp 15) (.string t100) (.string t103); binOp .add 9 (.string t100) (.string t103)) fun v104 => fT v104 fun t105 =>
  CallE Try.prog 30 #[(.int .u64 (IntKind.wrap .u64 x90)), (.int .i64 4)] w102 fun v106 w107 => fT v106 fun t108 =>
  S82 w107 ∧ (rqS Try.prog S82 (do eqGuard .add 9 (.tmp 16) (.tmp 20) (.string t105) (.string t108); binOp .add 9 (.string t105) (.string t108)) fun v109 => fT v109 fun t110 =>
  W.ref34_EncodeHeader_k2 t110 w107 Q)))) ∧ (CallE Try.prog 30 #[(.int .u64 (IntKind.wrap .u64 x88)), (.int .i64 4)] w92 fun v111 w112 => fT v111 fun t113 =>
  S82 w112 ∧ ((rv Try.prog (convert 26 9 (.slice l86 l86n l86c)) w112 fun v114 w115 => fT v114 fun t116 =>
  S82 w115 ∧ (rqS Try.prog S82 (do eqGuard .add 9 (.tmp 7) (.tmp 10) (.string t95) (.string t116); binOp .add 9 (.string t95) (.string t116)) fun v117 => fT v117 fun t118 =>
  rqS Try.prog S82 (do eqGuard .add 9 (.tmp 11) (.tmp 15) (.string t118) (.string t113); binOp .add 9 (.string t118) (.string t113)) fun v119 => fT v119 fun t120 =>
  CallE Try.prog 30 #[(.int .u64 (IntKind.wrap .u64 x90)), (.int .i64 4)] w115 fun v121 w122 => fT v121 fun t123 =>
  S82 w122 ∧ (rqS Try.prog S82 (do eqGuard .add 9 (.tmp 16) (.tmp 20) (.string t120) (.string t123); binOp .add 9 (.string t120) (.string t123)) fun v124 => fT v124 fun t125 =>
  W.ref34_EncodeHeader_k2 t125 w122 Q))) ∧ (CallE Try.prog 30 #[(.int .u64 (IntKind.wrap .u64 x90)), (.int .i64 4)] w112 fun v126 w127 => fT v126 fun t128 =>
  S82 w127 ∧ (rv Try.prog (convert 26 9 (.slice l86 l86n l86c)) w127 fun v129 w130 => fT v129 fun t131 =>
  S82 w130 ∧ (rqS Try.prog S82 (do eqGuard .add 9 (.tmp 7) (.tmp 10) (.string t95) (.string t131); binOp .add 9 (.string t95) (.string t131)) fun v132 => fT v132 fun t133 =>
  rqS Try.prog S82 (do eqGuard .add 9 (.tmp 11) (.tmp 15) (.string t133) (.string t113); binOp .add 9 (.string t133) (.string t113)) fun v134 => fT v134 fun t135 =>
  rqS Try.prog S82 (do eqGuard .add 9 (.tmp 16) (.tmp 20) (.string t135) (.string t128); binOp .add 9 (.string t135) (.string t128)) fun v136 => fT v136 fun t137 =>
  W.ref34_EncodeHeader_k2 t137 w130 Q))))))) ∧ (rv Try.prog (convert 26 9 (.slice l86 l86n l86c)) (drew w1) fun v138 w139 => fT v138 fun t140 =>
  S82 w139 ∧ (CallE Try.prog 30 #[(.int .u64 x84), (.int .i64 8)] w139 fun v141 w142 => fT v141 fun t143 =>
  S82 w142 ∧ (rqS Try.prog S82 (do eqGuard .add 9 (.const (.string ⟨#[72,73,66,49]⟩)) (.tmp 6) (.string ⟨#[72,73,66,49]⟩) (.string t143); binOp .add 9 (.string ⟨#[72,73,66,49]⟩) (.string t143)) fun v144 => fT v144 fun t145 =>
  rqS Try.prog S82 (do eqGuard .add 9 (.tmp 7) (.tmp 10) (.string t145) (.string t140); binOp .add 9 (.string t145) (.string t140)) fun v146 => fT v146 fun t147 =>
  CallE Try.prog 30 #[(.int .u64 (IntKind.wrap .u64 x88)), (.int .i64 4)] w142 fun v148 w149 => fT v148 fun t150 =>
  S82 w149 ∧ (rqS Try.prog S82 (do eqGuard .add 9 (.tmp 11) (.tmp 15) (.string t147) (.string t150); binOp .add 9 (.string t147) (.string t150)) fun v151 => fT v151 fun t152 =>
  CallE Try.prog 30 #[(.int .u64 (IntKind.wrap .u64 x90)), (.int .i64 4)] w149 fun v153 w154 => fT v153 fun t155 =>
  S82 w154 ∧ (rqS Try.prog S82 (do eqGuard .add 9 (.tmp 16) (.tmp 20) (.string t152) (.string t155); binOp .add 9 (.string t152) (.string t155)) fun v156 => fT v156 fun t157 =>
  W.ref34_EncodeHeader_k2 t157 w154 Q))))))
theorem E.ref34_EncodeHeader (h_ : Array Value) (w : World) (Q : Value → World → Prop) : ev Try.prog Try.f17.ntmps callable [] [] (Try.f17.body.getD .skip) (enumE 0 [(.agg h_)]) w (KQ Try.prog Try.f17.results.toList Q) = W.ref34_EncodeHeader h_ w Q := by kernel_rfl
theorem C.ref34_EncodeHeader (h_ : Array Value) (w : World) (Q : Value → World → Prop) (h : W.ref34_EncodeHeader h_ w Q) : CallE Try.prog 17 #[(.agg h_)] w Q :=
  calls_of_ev mixed callable_ok (args := [(.agg h_)]) Try.func17 rfl ((E.ref34_EncodeHeader h_ w Q).symm ▸ h)

def W.help_Mod (v_ : Int) (n_ : Int) (w : World) (Q : Value → World → Prop) : Prop :=
  rq Try.prog (do eqGuard .rem 58 (.tmp 6) (.tmp 8) (.int .u64 (IntKind.wrap .u64 v_)) (.int .u64 (IntKind.wrap .u64 n_)); binOp .rem 58 (.int .u64 (IntKind.wrap .u64 v_)) (.int .u64 (IntKind.wrap .u64 n_))) w fun v1 => fI .u64 v1 fun x2 =>
  Q (.int .i64 (IntKind.wrap .i64 x2)) w
theorem E.help_Mod (v_ : Int) (n_ : Int) (w : World) (Q : Value → World → Prop) : ev Try.prog Try.f18.ntmps callable [] [] (Try.f18.body.getD .skip) (enumE 0 [(.int .i64 v_), (.int .i64 n_)]) w (KQ Try.prog Try.f18.results.toList Q) = W.help_Mod v_ n_ w Q := by kernel_rfl
theorem C.help_Mod (v_ : Int) (n_ : Int) (w : World) (Q : Value → World → Prop) (h : W.help_Mod v_ n_ w Q) : CallE Try.prog 18 #[(.int .i64 v_), (.int .i64 n_)] w Q :=
  calls_of_ev mixed callable_ok (args := [(.int .i64 v_), (.int .i64 n_)]) Try.func18 rfl ((E.help_Mod v_ n_ w Q).symm ▸ h)

def W.ref34_DecodeHeader_k6 (p0 : ByteArray) (p2 : Addr) (p4 : Addr) (w : World) (Q : Value → World → Prop) : Prop :=
  LoopW (S := Int × Unit) (fun s41 w42 next43 =>
  br (decide ((s41.1 : Int) < 32)) (rq Try.prog (Instr.index 9 (.string p0) (.int .i64 (IntKind.wrap .i64 (12 + s41.1)))) w42 fun v44 => fI .u8 v44 fun x45 =>
  rq Try.prog (Instr.indexAt 30 (.pointer (some (p4.add 1))) (.int .i64 s41.1)) w42 fun v46 => fA v46 fun a47 =>
  st Try.prog 5 a47 (.int .u8 x45) w42 fun w48 =>
  next43 (((IntKind.wrap .i64 (s41.1 + 1)) : Int), ()) w48) (ld Try.prog 32 p4 w42 fun v49 => fG v49 fun g50 =>
  st Try.prog 32 p2 (.agg g50) w42 fun w51 =>
  ld Try.prog 32 p2 w51 fun v52 => fG v52 fun g53 =>
  Q (.tuple #[(.agg g53), (.int .i64 0)]) w51)) ((0 : Int), ()) w
def W.ref34_DecodeHeader (s_ : ByteArray) (w : World) (Q : Value → World → Prop) : Prop :=
  al 32 (zeroT Try.prog 32).cells w fun a2 w1 =>
  drawE fun S3 => S3 (drew w1) ∧ (br ((((s_.size : Nat) : Int) : Int) != 64) (S3 (drew w1) ∧ (S3 (drew w1) ∧ (st Try.prog 32 a2 (.agg #[(.int .u64 0), (.int .u8 0), (.int .u8 0), (.int .u8 0), (.int .u8 0), (.int .u8 0), (.int .u8 0), (.int .u8 0), (.int .u8 0), (.int .u8 0), (.int .u8 0), (.int .u8 0), (.int .u8 0), (.int .u8 0), (.int .u8 0), (.int .u8 0), (.int .u8 0), (.int .u8 0), (.int .u8 0), (.int .u8 0), (.int .u8 0), (.int .u8 0), (.int .u8 0), (.int .u8 0), (.int .u8 0), (.int .u8 0), (.int .u8 0), (.int .u8 0), (.int .u8 0), (.int .u8 0), (.int .u8 0), (.int .u8 0), (.int .u8 0), (.int .u32 0), (.int .u32 0)]) (drew w1) fun w4 =>
  ld Try.prog 32 a2 w4 fun v5 => fG v5 fun g6 =>
  Q (.tuple #[(.agg g6), (.int .i64 3)]) w4))) (rqS Try.prog S3 (Instr.sliceAt 9 (.string s_) none (some (.int .i64 4)) none) fun v7 => fT v7 fun t8 =>
  rqS Try.prog S3 (do eqGuard .neq 9 (.tmp 11) (.const (.string ⟨#[72,73,66,49]⟩)) (.string t8) (.string ⟨#[72,73,66,49]⟩); binOp .neq 9 (.string t8) (.string ⟨#[72,73,66,49]⟩)) fun v9 => fB v9 fun b10 =>
  br b10 (S3 (drew w1) ∧ (S3 (drew w1) ∧ (st Try.prog 32 a2 (.agg #[(.int .u64 0), (.int .u8 0), (.int .u8 0), (.int .u8 0), (.int .u8 0), (.int .u8 0), (.int .u8 0), (.int .u8 0), (.int .u8 0), (.int .u8 0), (.int .u8 0), (.int .u8 0), (.int .u8 0), (.int .u8 0), (.int .u8 0), (.int .u8 0), (.int .u8 0), (.int .u8 0), (.int .u8 0), (.int .u8 0), (.int .u8 0), (.int .u8 0), (.int .u8 0), (.int .u8 0), (.int .u8 0), (.int .u8 0), (.int .u8 0), (.int .u8 0), (.int .u8 0), (.int .u8 0), (.int .u8 0), (.int .u8 0), (.int .u8 0), (.int .u32 0), (.int .u32 0)]) (drew w1) fun w11 =>
  ld Try.prog 32 a2 w11 fun v12 => fG v12 fun g13 =>
  Q (.tuple #[(.agg g13), (.int .i64 3)]) w11))) (rqS Try.prog S3 (Instr.sliceAt 9 (.string s_) (some (.int .i64 56)) none none) fun v14 => fT v14 fun t15 =>
  rv Try.prog (Instr.makeSlice 26 (.int .i64 8) (.int .i64 8)) (drew w1) fun v16 w17 => fS v16 fun l18 l18n l18c =>
  S3 w17 ∧ (rv Try.prog (convert 26 9 (.slice l18 l18n l18c)) w17 fun v19 w20 => fT v19 fun t21 =>
  S3 w20 ∧ (rqS Try.prog S3 (do eqGuard .neq 9 (.tmp 16) (.tmp 18) (.string t15) (.string t21); binOp .neq 9 (.string t15) (.string t21)) fun v22 => fB v22 fun b23 =>
  br b23 (st Try.prog 32 a2 (.agg #[(.int .u64 0), (.int .u8 0), (.int .u8 0), (.int .u8 0), (.int .u8 0), (.int .u8 0), (.int .u8 0), (.int .u8 0), (.int .u8 0), (.int .u8 0), (.int .u8 0), (.int .u8 0), (.int .u8 0), (.int .u8 0), (.int .u8 0), (.int .u8 0), (.int .u8 0), (.int .u8 0), (.int .u8 0), (.int .u8 0), (.int .u8 0), (.int .u8 0), (.int .u8 0), (.int .u8 0), (.int .u8 0), (.int .u8 0), (.int .u8 0), (.int .u8 0), (.int .u8 0), (.int .u8 0), (.int .u8 0), (.int .u8 0), (.int .u8 0), (.int .u32 0), (.int .u32 0)]) w20 fun w24 =>
  ld Try.prog 32 a2 w24 fun v25 => fG v25 fun g26 =>
  Q (.tuple #[(.agg g26), (.int .i64 3)]) w24) (drawE fun S27 => S27 (drew w20) ∧ (rqS Try.prog S27 (Instr.sliceAt 9 (.string s_) (some (.int .i64 52)) (some (.int .i64 56)) none) fun v28 => fT v28 fun t29 =>
  rqS Try.prog S27 (Instr.sliceAt 9 (.string s_) none (some (.int .i64 52)) none) fun v30 => fT v30 fun t31 =>
  CallE Try.prog 31 #[(.string t29)] (drew w20) fun v32 w33 => fI .u64 v32 fun x34 =>
  S27 w33 ∧ (CallE Try.prog 14 #[(.string t31)] w33 fun v35 w36 => fI .u32 v35 fun x37 =>
  S27 w36 ∧ (br ((x34 : Int) != (IntKind.wrap .u64 x37)) (st Try.prog 32 a2 (.agg #[(.int .u64 0), (.int .u8 0), (.int .u8 0), (.int .u8 0), (.int .u8 0), (.int .u8 0), (.int .u8 0), (.int .u8 0), (.int .u8 0), (.int .u8 0), (.int .u8 0), (.int .u8 0), (.int .u8 0), (.int .u8 0), (.int .u8 0), (.int .u8 0), (.int .u8 0), (.int .u8 0), (.int .u8 0), (.int .u8 0), (.int .u8 0), (.int .u8 0), (.int .u8 0), (.int .u8 0), (.int .u8 0), (.int .u8 0), (.int .u8 0), (.int .u8 0), (.int .u8 0), (.int .u8 0), (.int .u8 0), (.int .u8 0), (.int .u8 0), (.int .u32 0), (.int .u32 0)]) w36 fun w38 =>
  ld Try.prog 32 a2 w38 fun v39 => fG v39 fun g40 =>
  Q (.tuple #[(.agg g40), (.int .i64 5)]) w38) (drawE fun S54 => S54 (drew w36) ∧ (rqS Try.prog S54 (Instr.sliceAt 9 (.string s_) (some (.int .i64 4)) (some (.int .i64 12)) none) fun v55 => fT v55 fun t56 =>
  rqS Try.prog S54 (Instr.sliceAt 9 (.string s_) (some (.int .i64 44)) (some (.int .i64 48)) none) fun v57 => fT v57 fun t58 =>
  rqS Try.prog S54 (Instr.sliceAt 9 (.string s_) (some (.int .i64 48)) (some (.int .i64 52)) none) fun v59 => fT v59 fun t60 =>
  (CallE Try.prog 31 #[(.string t56)] (drew w36) fun v61 w62 => fI .u64 v61 fun x63 =>
  S54 w62 ∧ ((CallE Try.prog 31 #[(.string t58)] w62 fun v64 w65 => fI .u64 v64 fun x66 =>
  S54 w65 ∧ ((CallE Try.prog 31 #[(.string t60)] w65 fun v67 w68 => fI .u64 v67 fun x69 =>
  S54 w68 ∧ (al 32 (zeroT Try.prog 32).cells w68 fun a71 w70 =>
  S54 w70 ∧ (st Try.prog 32 a71 (.agg #[(.int .u64 x63), (.int .u8 0), (.int .u8 0), (.int .u8 0), (.int .u8 0), (.int .u8 0), (.int .u8 0), (.int .u8 0), (.int .u8 0), (.int .u8 0), (.int .u8 0), (.int .u8 0), (.int .u8 0), (.int .u8 0), (.int .u8 0), (.int .u8 0), (.int .u8 0), (.int .u8 0), (.int .u8 0), (.int .u8 0), (.int .u8 0), (.int .u8 0), (.int .u8 0), (.int .u8 0), (.int .u8 0), (.int .u8 0), (.int .u8 0), (.int .u8 0), (.int .u8 0), (.int .u8 0), (.int .u8 0), (.int .u8 0), (.int .u8 0), (.int .u32 (IntKind.wrap .u32 x66)), (.int .u32 (IntKind.wrap .u32 x69))]) w70 fun w72 =>
  S54 w72 ∧ (W.ref34_DecodeHeader_k6 s_ a2 a71 w72 Q)))) ∧ (al 32 (zeroT Try.prog 32).cells w65 fun a74 w73 =>
  S54 w73 ∧ (CallE Try.prog 31 #[(.string t60)] w73 fun v75 w76 => fI .u64 v75 fun x77 =>
  S54 w76 ∧ (st Try.prog 32 a74 (.agg #[(.int .u64 x63), (.int .u8 0), (.int .u8 0), (.int .u8 0), (.int .u8 0), (.int .u8 0), (.int .u8 0), (.int .u8 0), (.int .u8 0), (.int .u8 0), (.int .u8 0), (.int .u8 0), (.int .u8 0), (.int .u8 0), (.int .u8 0), (.int .u8 0), (.int .u8 0), (.int .u8 0), (.int .u8 0), (.int .u8 0), (.int .u8 0), (.int .u8 0), (.int .u8 0), (.int .u8 0), (.int .u8 0), (.int .u8 0), (.int .u8 0), (.int .u8 0), (.int .u8 0), (.int .u8 0), (.int .u8 0), (.int .u8 0), (.int .u8 0), (.int .u32 (IntKind.wrap .u32 x66)), (.int .u32 (IntKind.wrap .u32 x77))]) w76 fun w78 =>
  S54 w78 ∧ (W.ref34_DecodeHeader_k6 s_ a2 a74 w78 Q)))))) ∧ (al 32 (zeroT Try.prog 32).cells w62 fun a80 w79 =>
  S54 w79 ∧ (CallE Try.prog 31 #[(.string t58)] w79 fun v81 w82 => fI .u64 v81 fun x83 =>
  S54 w82 ∧ (CallE Try.prog 31 #[(.string t60)] w82 fun v84 w85 => fI .u64 v84 fun x86 =>
  S54 w85 ∧ (st Try.prog 32 a80 (.agg #[(.int .u64 x63), (.int .u8 0), (.int .u8 0), (.int .u8 0), (.int .u8 0), (.int .u8 0), (.int .u8 0), (.int .u8 0), (.int .u8 0), (.int .u8 0), (.int .u8 0), (.int .u8 0), (.int .u8 0), (.int .u8 0), (.int .u8 0), (.int .u8 0), (.int .u8 0), (.int .u8 0), (.int .u8 0), (.int .u8 0), (.int .u8 0), (.int .u8 0), (.int .u8 0), (.int .u8 0), (.int .u8 0), (.int .u8 0), (.int .u8 0), (.int .u8 0), (.int .u8 0), (.int .u8 0), (.int .u8 0), (.int .u8 0), (.int .u8 0), (.int .u32 (IntKind.wrap .u32 x83)), (.int .u32 (IntKind.wrap .u32 x86))]) w85 fun w87 =>
  S54 w87 ∧ (W.ref34_DecodeHeader_k6 s_ a2 a80 w87 Q))))))) ∧ (al 32 (zeroT Try.prog 32).cells (drew w36) fun a89 w88 =>
  S54 w88 ∧ (CallE Try.prog 31 #[(.string t56)] w88 fun v90 w91 => fI .u64 v90 fun x92 =>
  S54 w91 ∧ (CallE Try.prog 31 #[(.string t58)] w91 fun v93 w94 => fI .u64 v93 fun x95 =>
  S54 w94 ∧ (CallE Try.prog 31 #[(.string t60)] w94 fun v96 w97 => fI .u64 v96 fun x98 =>
  S54 w97 ∧ (st Try.prog 32 a89 (.agg #[(.int .u64 x92), (.int .u8 0), (.int .u8 0), (.int .u8 0), (.int .u8 0), (.int .u8 0), (.int .u8 0), (.int .u8 0), (.int .u8 0), (.int .u8 0), (.int .u8 0), (.int .u8 0), (.int .u8 0), (.int .u8 0), (.int .u8 0), (.int .u8 0), (.int .u8 0), (.int .u8 0), (.int .u8 0), (.int .u8 0), (.int .u8 0), (.int .u8 0), (.int .u8 0), (.int .u8 0), (.int .u8 0), (.int .u8 0), (.int .u8 0), (.int .u8 0), (.int .u8 0), (.int .u8 0), (.int .u8 0), (.int .u8 0), (.int .u8 0), (.int .u32 (IntKind.wrap .u32 x95)), (.int .u32 (IntKind.wrap .u32 x98))]) w97 fun w99 =>
  S54 w99 ∧ (W.ref34_DecodeHeader_k6 s_ a2 a89 w99 Q)))))))))))))))))
theorem E.ref34_DecodeHeader (s_ : ByteArray) (w : World) (Q : Value → World → Prop) : ev Try.prog Try.f19.ntmps callable [(7, [(5, .int .i64 0)], [0, 2, 4])] [] (Try.f19.body.getD .skip) (enumE 0 [(.string s_)]) w (KQ Try.prog Try.f19.results.toList Q) = W.ref34_DecodeHeader s_ w Q := by kernel_rfl
theorem C.ref34_DecodeHeader (s_ : ByteArray) (w : World) (Q : Value → World → Prop) (h : W.ref34_DecodeHeader s_ w Q) : CallE Try.prog 19 #[(.string s_)] w Q :=
  calls_of_ev mixed callable_ok (args := [(.string s_)]) Try.func19 rfl ((E.ref34_DecodeHeader s_ w Q).symm ▸ h)

def W.law34_large (l_ : Option Addr) (l_n : Nat) (l_c : Nat) (w : World) (Q : Value → World → Prop) : Prop :=
  LoopW (S := Int × Unit) (fun s1 w2 next3 =>
  br (decide ((s1.1 : Int) < ((l_n : Nat) : Int))) (rq Try.prog (Instr.indexAt 41 (.slice l_ l_n l_c) (.int .i64 s1.1)) w2 fun v4 => fA v4 fun a5 =>
  ld Try.prog 67 (a5.add 1) w2 fun v6 => fS v6 fun l7 l7n l7c =>
  br (decide ((((l7n : Nat) : Int) : Int) > 64)) (Q (.bool true) w2) (next3 (((IntKind.wrap .i64 (s1.1 + 1)) : Int), ()) w2)) (Q (.bool (decide ((((l_n : Nat) : Int) : Int) > 10))) w2)) ((0 : Int), ()) w
theorem E.law34_large (l_ : Option Addr) (l_n : Nat) (l_c : Nat) (w : World) (Q : Value → World → Prop) : ev Try.prog Try.f20.ntmps callable [(2, [(3, .int .i64 0)], [0])] [] (Try.f20.body.getD .skip) (enumE 0 [(.slice l_ l_n l_c)]) w (KQ Try.prog Try.f20.results.toList Q) = W.law34_large l_ l_n l_c w Q := by kernel_rfl
theorem C.law34_large (l_ : Option Addr) (l_n : Nat) (l_c : Nat) (w : World) (Q : Value → World → Prop) (h : W.law34_large l_ l_n l_c w Q) : CallE Try.prog 20 #[(.slice l_ l_n l_c)] w Q :=
  calls_of_ev mixed callable_ok (args := [(.slice l_ l_n l_c)]) Try.func20 rfl ((E.law34_large l_ l_n l_c w Q).symm ▸ h)

def W.law34_Some_k9 (p2 : Option Addr) (p2n : Nat) (p2c : Nat) (p6 : Addr) (p7 : Addr) (p8 : Int) (p9 : Int) (next14 : (Int × Int × Unit) → World → Prop) (w : World) (Q : Value → World → Prop) : Prop :=
  drawE fun S22 => S22 (drew w) ∧ (rqS Try.prog S22 (Instr.indexAt 41 (.slice p2 p2n p2c) (.int .i64 p9)) fun v23 => fA v23 fun a24 =>
  rqS Try.prog S22 (Instr.indexAt 41 (.slice p2 p2n p2c) (.int .i64 p9)) fun v25 => fA v25 fun a26 =>
  (ld Try.prog 43 (p7.add 33) (drew w) fun v27 => fS v27 fun l28 l28n l28c =>
  S22 (drew w) ∧ ((ld Try.prog 67 (a24.add 1) (drew w) fun v29 => fS v29 fun l30 l30n l30c =>
  S22 (drew w) ∧ (ld Try.prog 5 (a26.add 2) (drew w) fun v31 => fI .u8 v31 fun x32 =>
  S22 (drew w) ∧ (CallE Try.prog 32 #[(.slice l30 l30n l30c), (.int .u8 x32)] (drew w) fun v33 w34 => fT v33 fun t35 =>
  S22 w34 ∧ (al 52 #[(.int .i64 p8), (.string t35)] w34 fun a37 w36 =>
  S22 w36 ∧ (rv Try.prog (Builtin.append_ #[43, 43] 43 #[(.slice l28 l28n l28c), (.slice (some a37) 1 1)]) w36 fun v38 w39 => fS v38 fun l40 l40n l40c =>
  S22 w39 ∧ (st Try.prog 43 (p7.add 33) (.slice l40 l40n l40c) w39 fun w41 =>
  S22 w41 ∧ (next14 ((p8 : Int), ((IntKind.wrap .i64 (p9 + 1)) : Int), ()) w41))))))) ∧ (ld Try.prog 5 (a26.add 2) (drew w) fun v42 => fI .u8 v42 fun x43 =>
  S22 (drew w) ∧ (ld Try.prog 67 (a24.add 1) (drew w) fun v44 => fS v44 fun l45 l45n l45c =>
  S22 (drew w) ∧ (CallE Try.prog 32 #[(.slice l45 l45n l45c), (.int .u8 x43)] (drew w) fun v46 w47 => fT v46 fun t48 =>
  S22 w47 ∧ (al 52 #[(.int .i64 p8), (.string t48)] w47 fun a50 w49 =>
  S22 w49 ∧ (rv Try.prog (Builtin.append_ #[43, 43] 43 #[(.slice l28 l28n l28c), (.slice (some a50) 1 1)]) w49 fun v51 w52 => fS v51 fun l53 l53n l53c =>
  S22 w52 ∧ (st Try.prog 43 (p7.add 33) (.slice l53 l53n l53c) w52 fun w54 =>
  S22 w54 ∧ (next14 ((p8 : Int), ((IntKind.wrap .i64 (p9 + 1)) : Int), ()) w54))))))))) ∧ (ld Try.prog 67 (a24.add 1) (drew w) fun v55 => fS v55 fun l56 l56n l56c =>
  S22 (drew w) ∧ ((ld Try.prog 43 (p7.add 33) (drew w) fun v57 => fS v57 fun l58 l58n l58c =>
  S22 (drew w) ∧ (ld Try.prog 5 (a26.add 2) (drew w) fun v59 => fI .u8 v59 fun x60 =>
  S22 (drew w) ∧ (CallE Try.prog 32 #[(.slice l56 l56n l56c), (.int .u8 x60)] (drew w) fun v61 w62 => fT v61 fun t63 =>
  S22 w62 ∧ (al 52 #[(.int .i64 p8), (.string t63)] w62 fun a65 w64 =>
  S22 w64 ∧ (rv Try.prog (Builtin.append_ #[43, 43] 43 #[(.slice l58 l58n l58c), (.slice (some a65) 1 1)]) w64 fun v66 w67 => fS v66 fun l68 l68n l68c =>
  S22 w67 ∧ (st Try.prog 43 (p7.add 33) (.slice l68 l68n l68c) w67 fun w69 =>
  S22 w69 ∧ (next14 ((p8 : Int), ((IntKind.wrap .i64 (p9 + 1)) : Int), ()) w69))))))) ∧ (ld Try.prog 5 (a26.add 2) (drew w) fun v70 => fI .u8 v70 fun x71 =>
  S22 (drew w) ∧ ((ld Try.prog 43 (p7.add 33) (drew w) fun v72 => fS v72 fun l73 l73n l73c =>
  S22 (drew w) ∧ (CallE Try.prog 32 #[(.slice l56 l56n l56c), (.int .u8 x71)] (drew w) fun v74 w75 => fT v74 fun t76 =>
  S22 w75 ∧ (al 52 #[(.int .i64 p8), (.string t76)] w75 fun a78 w77 =>
  S22 w77 ∧ (rv Try.prog (Builtin.append_ #[43, 43] 43 #[(.slice l73 l73n l73c), (.slice (some a78) 1 1)]) w77 fun v79 w80 => fS v79 fun l81 l81n l81c =>
  S22 w80 ∧ (st Try.prog 43 (p7.add 33) (.slice l81 l81n l81c) w80 fun w82 =>
  S22 w82 ∧ (next14 ((p8 : Int), ((IntKind.wrap .i64 (p9 + 1)) : Int), ()) w82)))))) ∧ (CallE Try.prog 32 #[(.slice l56 l56n l56c), (.int .u8 x71)] (drew w) fun v83 w84 => fT v83 fun t85 =>
  S22 w84 ∧ ((ld Try.prog 43 (p7.add 33) w84 fun v86 => fS v86 fun l87 l87n l87c =>
  S22 w84 ∧ (al 52 #[(.int .i64 p8), (.string t85)] w84 fun a89 w88 =>
  S22 w88 ∧ (rv Try.prog (Builtin.append_ #[43, 43] 43 #[(.slice l87 l87n l87c), (.slice (some a89) 1 1)]) w88 fun v90 w91 => fS v90 fun l92 l92n l92c =>
  S22 w91 ∧ (st Try.prog 43 (p7.add 33) (.slice l92 l92n l92c) w91 fun w93 =>
  S22 w93 ∧ (next14 ((p8 : Int), ((IntKind.wrap .i64 (p9 + 1)) : Int), ()) w93))))) ∧ (al 52 #[(.int .i64 p8), (.string t85)] w84 fun a95 w94 =>
  S22 w94 ∧ (ld Try.prog 43 (p7.add 33) w94 fun v96 => fS v96 fun l97 l97n l97c =>
  S22 w94 ∧ (rv Try.prog (Builtin.append_ #[43, 43] 43 #[(.slice l97 l97n l97c), (.slice (some a95) 1 1)]) w94 fun v98 w99 => fS v98 fun l100 l100n l100c =>
  S22 w99 ∧ (st Try.prog 43 (p7.add 33) (.slice l100 l100n l100c) w99 fun w101 =>
  S22 w101 ∧ (next14 ((p8 : Int), ((IntKind.wrap .i64 (p9 + 1)) : Int), ()) w101))))))))))) ∧ (ld Try.prog 5 (a26.add 2) (drew w) fun v102 => fI .u8 v102 fun x103 =>
  S22 (drew w) ∧ ((ld Try.prog 43 (p7.add 33) (drew w) fun v104 => fS v104 fun l105 l105n l105c =>
  S22 (drew w) ∧ (ld Try.prog 67 (a24.add 1) (drew w) fun v106 => fS v106 fun l107 l107n l107c =>
  S22 (drew w) ∧ (CallE Try.prog 32 #[(.slice l107 l107n l107c), (.int .u8 x103)] (drew w) fun v108 w109 => fT v108 fun t110 =>
  S22 w109 ∧ (al 52 #[(.int .i64 p8), (.string t110)] w109 fun a112 w111 =>
  S22 w111 ∧ (rv Try.prog (Builtin.append_ #[43, 43] 43 #[(.slice l105 l105n l105c), (.slice (some a112) 1 1)]) w111 fun v113 w114 => fS v113 fun l115 l115n l115c =>
  S22 w114 ∧ (st Try.prog 43 (p7.add 33) (.slice l115 l115n l115c) w114 fun w116 =>
  S22 w116 ∧ (next14 ((p8 : Int), ((IntKind.wrap .i64 (p9 + 1)) : Int), ()) w116))))))) ∧ (ld Try.prog 67 (a24.add 1) (drew w) fun v117 => fS v117 fun l118 l118n l118c =>
  S22 (drew w) ∧ ((ld Try.prog 43 (p7.add 33) (drew w) fun v119 => fS v119 fun l120 l120n l120c =>
  S22 (drew w) ∧ (CallE Try.prog 32 #[(.slice l118 l118n l118c), (.int .u8 x103)] (drew w) fun v121 w122 => fT v121 fun t123 =>
  S22 w122 ∧ (al 52 #[(.int .i64 p8), (.string t123)] w122 fun a125 w124 =>
  S22 w124 ∧ (rv Try.prog (Builtin.append_ #[43, 43] 43 #[(.slice l120 l120n l120c), (.slice (some a125) 1 1)]) w124 fun v126 w127 => fS v126 fun l128 l128n l128c =>
  S22 w127 ∧ (st Try.prog 43 (p7.add 33) (.slice l128 l128n l128c) w127 fun w129 =>
  S22 w129 ∧ (next14 ((p8 : Int), ((IntKind.wrap .i64 (p9 + 1)) : Int), ()) w129)))))) ∧ (CallE Try.prog 32 #[(.slice l118 l118n l118c), (.int .u8 x103)] (drew w) fun v130 w131 => fT v130 fun t132 =>
  S22 w131 ∧ ((ld Try.prog 43 (p7.add 33) w131 fun v133 => fS v133 fun l134 l134n l134c =>
  S22 w131 ∧ (al 52 #[(.int .i64 p8), (.string t132)] w131 fun a136 w135 =>
  S22 w135 ∧ (rv Try.prog (Builtin.append_ #[43, 43] 43 #[(.slice l134 l134n l134c), (.slice (some a136) 1 1)]) w135 fun v137 w138 => fS v137 fun l139 l139n l139c =>
  S22 w138 ∧ (st Try.prog 43 (p7.add 33) (.slice l139 l139n l139c) w138 fun w140 =>
  S22 w140 ∧ (next14 ((p8 : Int), ((IntKind.wrap .i64 (p9 + 1)) : Int), ()) w140))))) ∧ (al 52 #[(.int .i64 p8), (.string t132)] w131 fun a142 w141 =>
  S22 w141 ∧ (ld Try.prog 43 (p7.add 33) w141 fun v143 => fS v143 fun l144 l144n l144c =>
  S22 w141 ∧ (rv Try.prog (Builtin.append_ #[43, 43] 43 #[(.slice l144 l144n l144c), (.slice (some a142) 1 1)]) w141 fun v145 w146 => fS v145 fun l147 l147n l147c =>
  S22 w146 ∧ (st Try.prog 43 (p7.add 33) (.slice l147 l147n l147c) w146 fun w148 =>
  S22 w148 ∧ (next14 ((p8 : Int), ((IntKind.wrap .i64 (p9 + 1)) : Int), ()) w148))))))))))))
def W.law34_Some (board_ : Array Value) (generation_ : Int) (l_ : Option Addr) (l_n : Nat) (l_c : Nat) (w : World) (Q : Value → World → Prop) : Prop :=
  al 30 board_ w fun a2 w1 =>
  al 45 (zeroT Try.prog 45).cells w1 fun a4 w3 =>
  ld Try.prog 30 a2 w3 fun v5 => fG v5 fun g6 =>
  rq Try.prog (Instr.build 45 #[(0, (.agg g6)), (1, (.int .u64 generation_))]) w3 fun v7 => fG v7 fun g8 =>
  al 45 (zeroT Try.prog 45).cells w3 fun a10 w9 =>
  st Try.prog 45 a10 (.agg g8) w9 fun w11 =>
  LoopW (S := Int × Int × Unit) (fun s12 w13 next14 =>
  br (decide ((s12.2.1 : Int) < ((l_n : Nat) : Int))) (br (decide ((s12.2.1 : Int) < 6)) (rq Try.prog (Instr.indexAt 41 (.slice l_ l_n l_c) (.int .i64 s12.2.1)) w13 fun v15 => fA v15 fun a16 =>
  ld Try.prog 3 (a16.add 0) w13 fun v17 => fI .i64 v17 fun x18 =>
  CallE Try.prog 18 #[(.int .i64 x18), (.int .i64 50)] w13 fun v19 w20 => fI .i64 v19 fun x21 =>
  br (decide ((s12.2.1 : Int) > 0)) (W.law34_Some_k9 l_ l_n l_c a4 a10 (IntKind.wrap .i64 ((IntKind.wrap .i64 (s12.1 + x21)) + 1)) s12.2.1 next14 w20 Q) (W.law34_Some_k9 l_ l_n l_c a4 a10 (IntKind.wrap .i64 (s12.1 + x21)) s12.2.1 next14 w20 Q)) (ld Try.prog 45 a10 w13 fun v149 => fG v149 fun g150 =>
  st Try.prog 45 a4 (.agg g150) w13 fun w151 =>
  ld Try.prog 45 a4 w151 fun v152 => fG v152 fun g153 =>
  Q (.agg g153) w151)) (ld Try.prog 45 a10 w13 fun v154 => fG v154 fun g155 =>
  st Try.prog 45 a4 (.agg g155) w13 fun w156 =>
  ld Try.prog 45 a4 w156 fun v157 => fG v157 fun g158 =>
  Q (.agg g158) w156)) ((0 : Int), (0 : Int), ()) w11
theorem E.law34_Some (board_ : Array Value) (generation_ : Int) (l_ : Option Addr) (l_n : Nat) (l_c : Nat) (w : World) (Q : Value → World → Prop) : ev Try.prog Try.f21.ntmps callable [(4, [(8, .int .i64 0), (9, .int .i64 0)], [2, 6, 7]), (1000009, [], [0])] [] (Try.f21.body.getD .skip) (enumE 0 [(.agg board_), (.int .u64 generation_), (.slice l_ l_n l_c)]) w (KQ Try.prog Try.f21.results.toList Q) = W.law34_Some board_ generation_ l_ l_n l_c w Q := by kernel_rfl
theorem C.law34_Some (board_ : Array Value) (generation_ : Int) (l_ : Option Addr) (l_n : Nat) (l_c : Nat) (w : World) (Q : Value → World → Prop) (h : W.law34_Some board_ generation_ l_ l_n l_c w Q) : CallE Try.prog 21 #[(.agg board_), (.int .u64 generation_), (.slice l_ l_n l_c)] w Q :=
  calls_of_ev mixed callable_ok (args := [(.agg board_), (.int .u64 generation_), (.slice l_ l_n l_c)]) Try.func21 rfl ((E.law34_Some board_ generation_ l_ l_n l_c w Q).symm ▸ h)

def W.image_Encode_k20 (p4 : Option Addr) (p4n : Nat) (p4c : Nat) (p10 : Option Addr) (p10n : Nat) (p10c : Nat) (w : World) (Q : Value → World → Prop) : Prop :=
  LoopW (S := (Option Addr × Nat × Nat) × Int × Unit) (fun s15 w16 next17 =>
  br (decide ((s15.2.1 : Int) < ((p4n : Nat) : Int))) (rq Try.prog (Instr.sliceAt 26 (.slice p4 p4n p4c) (some (.int .i64 s15.2.1)) (some (.int .i64 (IntKind.wrap .i64 (s15.2.1 + 64)))) none) w16 fun v18 => fS v18 fun l19 l19n l19c =>
  rv Try.prog (convert 26 9 (.slice l19 l19n l19c)) w16 fun v20 w21 => fT v20 fun t22 =>
  al 9 #[(.string t22)] w21 fun a24 w23 =>
  rv Try.prog (Builtin.append_ #[47, 47] 47 #[(.slice s15.1.1 s15.1.2.1 s15.1.2.2), (.slice (some a24) 1 1)]) w23 fun v25 w26 => fS v25 fun l27 l27n l27c =>
  next17 ((l27, l27n, l27c), ((IntKind.wrap .i64 (s15.2.1 + 64)) : Int), ()) w26) (Q (.tuple #[(.slice s15.1.1 s15.1.2.1 s15.1.2.2), (.int .i64 0)]) w16)) ((p10, p10n, p10c), (0 : Int), ()) w
def W.image_Encode_k17 (p4 : Option Addr) (p4n : Nat) (p4c : Nat) (p9 : Addr) (w : World) (Q : Value → World → Prop) : Prop :=
  ld Try.prog 32 p9 w fun v8 => fG v8 fun g9 =>
  CallE Try.prog 15 #[(.agg g9)] w fun v10 w11 => fT v10 fun t12 =>
  al 9 #[(.string t12)] w11 fun a14 w13 =>
  LoopW (S := (Option Addr × Nat × Nat) × Unit) (fun s28 w29 next30 =>
  br (((Int.tmod ((s28.1.2.1 : Nat) : Int) 64) : Int) != 0) (al 5 #[(.int .u8 0)] w29 fun a32 w31 =>
  rv Try.prog (Builtin.append_ #[26, 26] 26 #[(.slice s28.1.1 s28.1.2.1 s28.1.2.2), (.slice (some a32) 1 1)]) w31 fun v33 w34 => fS v33 fun l35 l35n l35c =>
  next30 ((l35, l35n, l35c), ()) w34) (W.image_Encode_k20 s28.1.1 s28.1.2.1 s28.1.2.2 (some a14) 1 1 w29 Q)) ((p4, p4n, p4c), ()) w13
def W.image_Encode_k16 (p1 : Addr) (p4 : Option Addr) (p4n : Nat) (p4c : Nat) (w : World) (Q : Value → World → Prop) : Prop :=
  drawE fun S36 => S36 (drew w) ∧ (ldS Try.prog S36 28 (p1.add 32) fun v37 => fI .u64 v37 fun x38 =>
  ldS Try.prog S36 30 (p1.add 0) fun v39 => fG v39 fun g40 =>
  (rv Try.prog (convert 26 9 (.slice p4 p4n p4c)) (drew w) fun v41 w42 => fT v41 fun t43 =>
  S36 w42 ∧ ((CallE Try.prog 13 #[(.string t43)] w42 fun v44 w45 => fI .u32 v44 fun x46 =>
  S36 w45 ∧ (rqS Try.prog S36 (Instr.build 32 #[(0, (.int .u64 x38)), (1, (.agg g40)), (2, (.int .u32 (IntKind.wrap .u32 ((p4n : Nat) : Int)))), (3, (.int .u32 x46))]) fun v47 => fG v47 fun g48 =>
  al 32 (zeroT Try.prog 32).cells w45 fun a50 w49 =>
  S36 w49 ∧ (st Try.prog 32 a50 (.agg g48) w49 fun w51 =>
  S36 w51 ∧ (W.image_Encode_k17 p4 p4n p4c a50 w51 Q)))) ∧ (al 32 (zeroT Try.prog 32).cells w42 fun a53 w52 =>
  S36 w52 ∧ (CallE Try.prog 13 #[(.string t43)] w52 fun v54 w55 => fI .u32 v54 fun x56 =>
  S36 w55 ∧ (rqS Try.prog S36 (Instr.build 32 #[(0, (.int .u64 x38)), (1, (.agg g40)), (2, (.int .u32 (IntKind.wrap .u32 ((p4n : Nat) : Int)))), (3, (.int .u32 x56))]) fun v57 => fG v57 fun g58 =>
  st Try.prog 32 a53 (.agg g58) w55 fun w59 =>
  S36 w59 ∧ (W.image_Encode_k17 p4 p4n p4c a53 w59 Q)))))) ∧ (al 32 (zeroT Try.prog 32).cells (drew w) fun a61 w60 =>
  S36 w60 ∧ (rv Try.prog (convert 26 9 (.slice p4 p4n p4c)) w60 fun v62 w63 => fT v62 fun t64 =>
  S36 w63 ∧ (CallE Try.prog 13 #[(.string t64)] w63 fun v65 w66 => fI .u32 v65 fun x67 =>
  S36 w66 ∧ (rqS Try.prog S36 (Instr.build 32 #[(0, (.int .u64 x38)), (1, (.agg g40)), (2, (.int .u32 (IntKind.wrap .u32 ((p4n : Nat) : Int)))), (3, (.int .u32 x67))]) fun v68 => fG v68 fun g69 =>
  st Try.prog 32 a61 (.agg g69) w66 fun w70 =>
  S36 w70 ∧ (W.image_Encode_k17 p4 p4n p4c a61 w70 Q))))))
def W.image_Encode (i_ : Array Value) (w : World) (Q : Value → World → Prop) : Prop :=
  al 45 i_ w fun a2 w1 =>
  ld Try.prog 43 (a2.add 33) w1 fun v3 => fS v3 fun l4 l4n l4c =>
  CallE Try.prog 33 #[(.slice l4 l4n l4c)] w1 fun v5 w6 => fB v5 fun b7 =>
  br (!b7) (Q (.tuple #[(.slice none 0 0), (.int .i64 1)]) w6) (ld Try.prog 43 (a2.add 33) w6 fun v71 => fS v71 fun l72 l72n l72c =>
  LoopW (S := (Option Addr × Nat × Nat) × Int × Unit) (fun s73 w74 next75 =>
  br (decide ((s73.2.1 : Int) < ((l72n : Nat) : Int))) (rq Try.prog (Instr.indexAt 43 (.slice l72 l72n l72c) (.int .i64 s73.2.1)) w74 fun v76 => fA v76 fun a77 =>
  ld Try.prog 52 a77 w74 fun v78 => fG v78 fun g79 =>
  al 52 (zeroT Try.prog 52).cells w74 fun a81 w80 =>
  st Try.prog 52 a81 (.agg g79) w80 fun w82 =>
  ld Try.prog 9 (a81.add 1) w82 fun v83 => fT v83 fun t84 =>
  br ((((t84.size : Nat) : Int) : Int) != 256) (Q (.tuple #[(.slice none 0 0), (.int .i64 1)]) w82) (ld Try.prog 9 (a81.add 1) w82 fun v85 => fT v85 fun t86 =>
  CallE Try.prog 34 #[(.string t86)] w82 fun v87 w88 => ∃ (t89 : ByteArray) (x90 : Int), v87 = .tuple #[(.string t89), (.int .i64 x90)] ∧
  br ((x90 : Int) != 0) (Q (.tuple #[(.slice none 0 0), (.int .i64 1)]) w88) (ld Try.prog 3 (a81.add 0) w88 fun v91 => fI .i64 v91 fun x92 =>
  CallE Try.prog 27 #[(.slice s73.1.1 s73.1.2.1 s73.1.2.2), (.int .u64 (IntKind.wrap .u64 x92)), (.int .i64 4)] w88 fun v93 w94 => fS v93 fun l95 l95n l95c =>
  CallE Try.prog 27 #[(.slice l95 l95n l95c), (.int .u64 (IntKind.wrap .u64 ((t89.size : Nat) : Int))), (.int .i64 2)] w94 fun v96 w97 => fS v96 fun l98 l98n l98c =>
  rv Try.prog (Builtin.append_ #[26, 9] 26 #[(.slice l98 l98n l98c), (.string t89)]) w97 fun v99 w100 => fS v99 fun l101 l101n l101c =>
  next75 ((l101, l101n, l101c), ((IntKind.wrap .i64 (s73.2.1 + 1)) : Int), ()) w100))) (W.image_Encode_k16 a2 s73.1.1 s73.1.2.1 s73.1.2.2 w74 Q)) ((none, 0, 0), (0 : Int), ()) w6)
theorem E.image_Encode (i_ : Array Value) (w : World) (Q : Value → World → Prop) : ev Try.prog Try.f22.ntmps callable [(21, [(10, .slice none 0 0), (11, .int .i64 0)], [4]), (18, [(4, .slice none 0 0)], [10]), (5, [(4, .slice none 0 0), (19, .int .i64 0)], [1, 17, 18])] [] (Try.f22.body.getD .skip) (enumE 0 [(.agg i_)]) w (KQ Try.prog Try.f22.results.toList Q) = W.image_Encode i_ w Q := by kernel_rfl
theorem C.image_Encode (i_ : Array Value) (w : World) (Q : Value → World → Prop) (h : W.image_Encode i_ w Q) : CallE Try.prog 22 #[(.agg i_)] w Q :=
  calls_of_ev mixed callable_ok (args := [(.agg i_)]) Try.func22 rfl ((E.image_Encode i_ w Q).symm ▸ h)

def W.ref34_Encode_k16 (p4 : ByteArray) (p10 : Option Addr) (p10n : Nat) (p10c : Nat) (w : World) (Q : Value → World → Prop) : Prop :=
  LoopW (S := (Option Addr × Nat × Nat) × Int × Unit) (fun s12 w13 next14 =>
  br (decide ((s12.2.1 : Int) < ((p4.size : Nat) : Int))) (rq Try.prog (Instr.sliceAt 9 (.string p4) (some (.int .i64 s12.2.1)) (some (.int .i64 (IntKind.wrap .i64 (s12.2.1 + 64)))) none) w13 fun v15 => fT v15 fun t16 =>
  al 9 #[(.string t16)] w13 fun a18 w17 =>
  rv Try.prog (Builtin.append_ #[47, 47] 47 #[(.slice s12.1.1 s12.1.2.1 s12.1.2.2), (.slice (some a18) 1 1)]) w17 fun v19 w20 => fS v19 fun l21 l21n l21c =>
  next14 ((l21, l21n, l21c), ((IntKind.wrap .i64 (s12.2.1 + 64)) : Int), ()) w20) (Q (.tuple #[(.slice s12.1.1 s12.1.2.1 s12.1.2.2), (.int .i64 0)]) w13)) ((p10, p10n, p10c), (0 : Int), ()) w
def W.ref34_Encode_k13 (p4 : ByteArray) (p9 : Addr) (w : World) (Q : Value → World → Prop) : Prop :=
  ld Try.prog 32 p9 w fun v5 => fG v5 fun g6 =>
  CallE Try.prog 17 #[(.agg g6)] w fun v7 w8 => fT v7 fun t9 =>
  al 9 #[(.string t9)] w8 fun a11 w10 =>
  LoopW (S := ByteArray × Unit) (fun s22 w23 next24 =>
  br (((Int.tmod ((s22.1.size : Nat) : Int) 64) : Int) != 0) (rq Try.prog (do eqGuard .add 9 (.tmp 94) (.const (.string ⟨#[0]⟩)) (.string s22.1) (.string ⟨#[0]⟩); binOp .add 9 (.string s22.1) (.string ⟨#[0]⟩)) w23 fun v25 => fT v25 fun t26 =>
  next24 (t26, ()) w23) (W.ref34_Encode_k16 s22.1 (some a11) 1 1 w23 Q)) (p4, ()) w10
def W.ref34_Encode_k12 (p1 : Addr) (p4 : ByteArray) (w : World) (Q : Value → World → Prop) : Prop :=
  drawE fun S27 => S27 (drew w) ∧ (ldS Try.prog S27 28 (p1.add 32) fun v28 => fI .u64 v28 fun x29 =>
  ldS Try.prog S27 30 (p1.add 0) fun v30 => fG v30 fun g31 =>
  (CallE Try.prog 14 #[(.string p4)] (drew w) fun v32 w33 => fI .u32 v32 fun x34 =>
  S27 w33 ∧ (rqS Try.prog S27 (Instr.build 32 #[(0, (.int .u64 x29)), (1, (.agg g31)), (2, (.int .u32 (IntKind.wrap .u32 ((p4.size : Nat) : Int)))), (3, (.int .u32 x34))]) fun v35 => fG v35 fun g36 =>
  al 32 (zeroT Try.prog 32).cells w33 fun a38 w37 =>
  S27 w37 ∧ (st Try.prog 32 a38 (.agg g36) w37 fun w39 =>
  S27 w39 ∧ (W.ref34_Encode_k13 p4 a38 w39 Q)))) ∧ (al 32 (zeroT Try.prog 32).cells (drew w) fun a41 w40 =>
  S27 w40 ∧ (CallE Try.prog 14 #[(.string p4)] w40 fun v42 w43 => fI .u32 v42 fun x44 =>
  S27 w43 ∧ (rqS Try.prog S27 (Instr.build 32 #[(0, (.int .u64 x29)), (1, (.agg g31)), (2, (.int .u32 (IntKind.wrap .u32 ((p4.size : Nat) : Int)))), (3, (.int .u32 x44))]) fun v45 => fG v45 fun g46 =>
  st Try.prog 32 a41 (.agg g46) w43 fun w47 =>
  S27 w47 ∧ (W.ref34_Encode_k13 p4 a41 w47 Q)))))
def W.ref34_Encode_k10 (p1 : Addr) (p4 : ByteArray) (p5 : Int) (p6 : Addr) (next50 : (ByteArray × Int × Unit) → World → Prop) (w : World) (Q : Value → World → Prop) : Prop :=
  ld Try.prog 9 (p6.add 1) w fun v62 => fT v62 fun t63 =>
  CallE Try.prog 35 #[(.string t63)] w fun v64 w65 => ∃ (t66 : ByteArray) (x67 : Int), v64 = .tuple #[(.string t66), (.int .i64 x67)] ∧
  ld Try.prog 3 (p6.add 0) w65 fun v68 => fI .i64 v68 fun x69 =>
  CallE Try.prog 30 #[(.int .u64 (IntKind.wrap .u64 x69)), (.int .i64 4)] w65 fun v70 w71 => fT v70 fun t72 =>
  rq Try.prog (do eqGuard .add 9 (.tmp 64) (.tmp 68) (.string p4) (.string t72); binOp .add 9 (.string p4) (.string t72)) w71 fun v73 => fT v73 fun t74 =>
  CallE Try.prog 30 #[(.int .u64 (IntKind.wrap .u64 ((t66.size : Nat) : Int))), (.int .i64 2)] w71 fun v75 w76 => fT v75 fun t77 =>
  rq Try.prog (do eqGuard .add 9 (.tmp 69) (.tmp 73) (.string t74) (.string t77); binOp .add 9 (.string t74) (.string t77)) w76 fun v78 => fT v78 fun t79 =>
  rq Try.prog (do eqGuard .add 9 (.tmp 74) (.tmp 75) (.string t79) (.string t66); binOp .add 9 (.string t79) (.string t66)) w76 fun v80 => fT v80 fun t81 =>
  next50 (t81, ((IntKind.wrap .i64 (p5 + 1)) : Int), ()) w76
def W.ref34_Encode (i_ : Array Value) (w : World) (Q : Value → World → Prop) : Prop :=
  al 45 i_ w fun a2 w1 =>
  ld Try.prog 43 (a2.add 33) w1 fun v3 => fS v3 fun l4 l4n l4c =>
  br (decide ((((l4n : Nat) : Int) : Int) > 512)) (Q (.tuple #[(.slice none 0 0), (.int .i64 1)]) w1) (LoopW (S := ByteArray × Int × Unit) (fun s48 w49 next50 =>
  ld Try.prog 43 (a2.add 33) w49 fun v51 => fS v51 fun l52 l52n l52c =>
  br (decide ((s48.2.1 : Int) < ((l52n : Nat) : Int))) (ld Try.prog 43 (a2.add 33) w49 fun v53 => fS v53 fun l54 l54n l54c =>
  rq Try.prog (Instr.indexAt 43 (.slice l54 l54n l54c) (.int .i64 s48.2.1)) w49 fun v55 => fA v55 fun a56 =>
  ld Try.prog 52 a56 w49 fun v57 => fG v57 fun g58 =>
  al 52 (zeroT Try.prog 52).cells w49 fun a60 w59 =>
  st Try.prog 52 a60 (.agg g58) w59 fun w61 =>
  dr w61 fun w82 =>
  ld Try.prog 9 (a60.add 1) w82 fun v83 => fT v83 fun t84 =>
  br ((((t84.size : Nat) : Int) : Int) != 256) (Q (.tuple #[(.slice none 0 0), (.int .i64 1)]) w82) (ld Try.prog 3 (a60.add 0) w82 fun v85 => fI .i64 v85 fun x86 =>
  br (decide ((x86 : Int) < 0)) (Q (.tuple #[(.slice none 0 0), (.int .i64 1)]) w82) (ld Try.prog 3 (a60.add 0) w82 fun v87 => fI .i64 v87 fun x88 =>
  br (decide ((x88 : Int) > 2147483647)) (Q (.tuple #[(.slice none 0 0), (.int .i64 1)]) w82) (br (decide ((s48.2.1 : Int) > 0)) (ld Try.prog 3 (a60.add 0) w82 fun v89 => fI .i64 v89 fun x90 =>
  ld Try.prog 43 (a2.add 33) w82 fun v91 => fS v91 fun l92 l92n l92c =>
  rq Try.prog (Instr.indexAt 43 (.slice l92 l92n l92c) (.int .i64 (IntKind.wrap .i64 (s48.2.1 - 1)))) w82 fun v93 => fA v93 fun a94 =>
  ld Try.prog 3 (a94.add 0) w82 fun v95 => fI .i64 v95 fun x96 =>
  br (decide ((x90 : Int) ≤ x96)) (Q (.tuple #[(.slice none 0 0), (.int .i64 1)]) w82) (W.ref34_Encode_k10 a2 s48.1 s48.2.1 a60 next50 w82 Q)) (W.ref34_Encode_k10 a2 s48.1 s48.2.1 a60 next50 w82 Q))))) (W.ref34_Encode_k12 a2 s48.1 w49 Q)) (⟨#[]⟩, (0 : Int), ()) w1)
theorem E.ref34_Encode (i_ : Array Value) (w : World) (Q : Value → World → Prop) : ev Try.prog Try.f23.ntmps callable [(17, [(10, .slice none 0 0), (11, .int .i64 0)], [4]), (14, [(4, .string ⟨#[]⟩)], [10]), (5, [(4, .string ⟨#[]⟩), (5, .int .i64 0)], [1])] [] (Try.f23.body.getD .skip) (enumE 0 [(.agg i_)]) w (KQ Try.prog Try.f23.results.toList Q) = W.ref34_Encode i_ w Q := by kernel_rfl
theorem C.ref34_Encode (i_ : Array Value) (w : World) (Q : Value → World → Prop) (h : W.ref34_Encode i_ w Q) : CallE Try.prog 23 #[(.agg i_)] w Q :=
  calls_of_ev mixed callable_ok (args := [(.agg i_)]) Try.func23 rfl ((E.ref34_Encode i_ w Q).symm ▸ h)

def W.help_Equal_string_ (a_ : Option Addr) (a_n : Nat) (a_c : Nat) (b_ : Option Addr) (b_n : Nat) (b_c : Nat) (w : World) (Q : Value → World → Prop) : Prop :=
  br ((((a_n : Nat) : Int) : Int) != ((b_n : Nat) : Int)) (Q (.bool false) w) (LoopW (S := Int × Unit) (fun s1 w2 next3 =>
  br (decide ((s1.1 : Int) < ((a_n : Nat) : Int))) (dr w2 fun w4 =>
  rq Try.prog (Instr.indexAt 47 (.slice a_ a_n a_c) (.int .i64 s1.1)) w4 fun v5 => fA v5 fun a6 =>
  ld Try.prog 9 a6 w4 fun v7 => fT v7 fun t8 =>
  rq Try.prog (Instr.indexAt 47 (.slice b_ b_n b_c) (.int .i64 s1.1)) w4 fun v9 => fA v9 fun a10 =>
  ld Try.prog 9 a10 w4 fun v11 => fT v11 fun t12 =>
  rq Try.prog (do eqGuard .neq 9 (.tmp 20) (.tmp 24) (.string t8) (.string t12); binOp .neq 9 (.string t8) (.string t12)) w4 fun v13 => fB v13 fun b14 =>
  br b14 (Q (.bool false) w4) (next3 (((IntKind.wrap .i64 (s1.1 + 1)) : Int), ()) w4)) (Q (.bool true) w2)) ((0 : Int), ()) w)
theorem E.help_Equal_string_ (a_ : Option Addr) (a_n : Nat) (a_c : Nat) (b_ : Option Addr) (b_n : Nat) (b_c : Nat) (w : World) (Q : Value → World → Prop) : ev Try.prog Try.f24.ntmps callable [(4, [(5, .int .i64 0)], [0, 1])] [] (Try.f24.body.getD .skip) (enumE 0 [(.slice a_ a_n a_c), (.slice b_ b_n b_c)]) w (KQ Try.prog Try.f24.results.toList Q) = W.help_Equal_string_ a_ a_n a_c b_ b_n b_c w Q := by kernel_rfl
theorem C.help_Equal_string_ (a_ : Option Addr) (a_n : Nat) (a_c : Nat) (b_ : Option Addr) (b_n : Nat) (b_c : Nat) (w : World) (Q : Value → World → Prop) (h : W.help_Equal_string_ a_ a_n a_c b_ b_n b_c w Q) : CallE Try.prog 24 #[(.slice a_ a_n a_c), (.slice b_ b_n b_c)] w Q :=
  calls_of_ev mixed callable_ok (args := [(.slice a_ a_n a_c), (.slice b_ b_n b_c)]) Try.func24 rfl ((E.help_Equal_string_ a_ a_n a_c b_ b_n b_c w Q).symm ▸ h)

def W.image_Decode_k9 (p0 : Option Addr) (p0n : Nat) (p0c : Nat) (p2 : Addr) (w : World) (Q : Value → World → Prop) : Prop :=
  rq Try.prog (Instr.indexAt 47 (.slice p0 p0n p0c) (.int .i64 0)) w fun v6 => fA v6 fun a7 =>
  ld Try.prog 9 a7 w fun v8 => fT v8 fun t9 =>
  CallE Try.prog 16 #[(.string t9)] w fun v10 w11 => ∃ (g12 : Array Value) (x13 : Int), v10 = .tuple #[(.agg g12), (.int .i64 x13)] ∧
  al 32 (zeroT Try.prog 32).cells w11 fun a15 w14 =>
  st Try.prog 32 a15 (.agg g12) w14 fun w16 =>
  br ((x13 : Int) != 0) (st Try.prog 45 p2 (.agg #[(.int .u8 0), (.int .u8 0), (.int .u8 0), (.int .u8 0), (.int .u8 0), (.int .u8 0), (.int .u8 0), (.int .u8 0), (.int .u8 0), (.int .u8 0), (.int .u8 0), (.int .u8 0), (.int .u8 0), (.int .u8 0), (.int .u8 0), (.int .u8 0), (.int .u8 0), (.int .u8 0), (.int .u8 0), (.int .u8 0), (.int .u8 0), (.int .u8 0), (.int .u8 0), (.int .u8 0), (.int .u8 0), (.int .u8 0), (.int .u8 0), (.int .u8 0), (.int .u8 0), (.int .u8 0), (.int .u8 0), (.int .u8 0), (.int .u64 0), (.slice none 0 0)]) w16 fun w17 =>
  ld Try.prog 45 p2 w17 fun v18 => fG v18 fun g19 =>
  Q (.tuple #[(.agg g19), (.int .i64 x13)]) w17) (ld Try.prog 23 (a15.add 33) w16 fun v20 => fI .u32 v20 fun x21 =>
  rq Try.prog (Instr.sliceAt 47 (.slice p0 p0n p0c) (some (.int .i64 1)) none none) w16 fun v22 => fS v22 fun l23 l23n l23c =>
  br (decide (((IntKind.wrap .u64 ((IntKind.wrap .u64 ((l23n : Nat) : Int)) * 64)) : Int) < (IntKind.wrap .u64 x21))) (st Try.prog 45 p2 (.agg #[(.int .u8 0), (.int .u8 0), (.int .u8 0), (.int .u8 0), (.int .u8 0), (.int .u8 0), (.int .u8 0), (.int .u8 0), (.int .u8 0), (.int .u8 0), (.int .u8 0), (.int .u8 0), (.int .u8 0), (.int .u8 0), (.int .u8 0), (.int .u8 0), (.int .u8 0), (.int .u8 0), (.int .u8 0), (.int .u8 0), (.int .u8 0), (.int .u8 0), (.int .u8 0), (.int .u8 0), (.int .u8 0), (.int .u8 0), (.int .u8 0), (.int .u8 0), (.int .u8 0), (.int .u8 0), (.int .u8 0), (.int .u8 0), (.int .u64 0), (.slice none 0 0)]) w16 fun w24 =>
  ld Try.prog 45 p2 w24 fun v25 => fG v25 fun g26 =>
  Q (.tuple #[(.agg g26), (.int .i64 4)]) w24) (rq Try.prog (Instr.sliceAt 47 (.slice l23 l23n l23c) none (some (.int .i64 (IntKind.wrap .i64 (IntKind.wrap .u64 (Int.tdiv (IntKind.wrap .u64 ((IntKind.wrap .u64 ((IntKind.wrap .u64 x21) + 64)) - 1)) 64))))) none) w16 fun v27 => fS v27 fun l28 l28n l28c =>
  CallE Try.prog 36 #[(.slice l28 l28n l28c), (.string ⟨#[]⟩)] w16 fun v29 w30 => fT v29 fun t31 =>
  rq Try.prog (Instr.sliceAt 9 (.string t31) none (some (.int .u64 (IntKind.wrap .u64 x21))) none) w30 fun v32 => fT v32 fun t33 =>
  drawE fun S34 => S34 (drew w30) ∧ (ldS Try.prog S34 23 (a15.add 34) fun v35 => fI .u32 v35 fun x36 =>
  CallE Try.prog 13 #[(.string t33)] (drew w30) fun v37 w38 => fI .u32 v37 fun x39 =>
  S34 w38 ∧ (br ((x39 : Int) != x36) (st Try.prog 45 p2 (.agg #[(.int .u8 0), (.int .u8 0), (.int .u8 0), (.int .u8 0), (.int .u8 0), (.int .u8 0), (.int .u8 0), (.int .u8 0), (.int .u8 0), (.int .u8 0), (.int .u8 0), (.int .u8 0), (.int .u8 0), (.int .u8 0), (.int .u8 0), (.int .u8 0), (.int .u8 0), (.int .u8 0), (.int .u8 0), (.int .u8 0), (.int .u8 0), (.int .u8 0), (.int .u8 0), (.int .u8 0), (.int .u8 0), (.int .u8 0), (.int .u8 0), (.int .u8 0), (.int .u8 0), (.int .u8 0), (.int .u8 0), (.int .u8 0), (.int .u64 0), (.slice none 0 0)]) w38 fun w40 =>
  ld Try.prog 45 p2 w40 fun v41 => fG v41 fun g42 =>
  Q (.tuple #[(.agg g42), (.int .i64 5)]) w40) (CallE Try.prog 37 #[(.string t33)] w38 fun v43 w44 => ∃ (l45 : Option Addr) (l45n : Nat) (l45c : Nat) (b46 : Bool), v43 = .tuple #[(.slice l45 l45n l45c), (.bool b46)] ∧
  br (!b46) (st Try.prog 45 p2 (.agg #[(.int .u8 0), (.int .u8 0), (.int .u8 0), (.int .u8 0), (.int .u8 0), (.int .u8 0), (.int .u8 0), (.int .u8 0), (.int .u8 0), (.int .u8 0), (.int .u8 0), (.int .u8 0), (.int .u8 0), (.int .u8 0), (.int .u8 0), (.int .u8 0), (.int .u8 0), (.int .u8 0), (.int .u8 0), (.int .u8 0), (.int .u8 0), (.int .u8 0), (.int .u8 0), (.int .u8 0), (.int .u8 0), (.int .u8 0), (.int .u8 0), (.int .u8 0), (.int .u8 0), (.int .u8 0), (.int .u8 0), (.int .u8 0), (.int .u64 0), (.slice none 0 0)]) w44 fun w47 =>
  ld Try.prog 45 p2 w47 fun v48 => fG v48 fun g49 =>
  Q (.tuple #[(.agg g49), (.int .i64 3)]) w47) (ld Try.prog 30 (a15.add 1) w44 fun v50 => fG v50 fun g51 =>
  ld Try.prog 28 (a15.add 0) w44 fun v52 => fI .u64 v52 fun x53 =>
  rq Try.prog (Instr.build 45 #[(0, (.agg g51)), (1, (.int .u64 x53)), (2, (.slice l45 l45n l45c))]) w44 fun v54 => fG v54 fun g55 =>
  st Try.prog 45 p2 (.agg g55) w44 fun w56 =>
  ld Try.prog 45 p2 w56 fun v57 => fG v57 fun g58 =>
  Q (.tuple #[(.agg g58), (.int .i64 0)]) w56))))))
def W.image_Decode (sectors_ : Option Addr) (sectors_n : Nat) (sectors_c : Nat) (w : World) (Q : Value → World → Prop) : Prop :=
  al 45 (zeroT Try.prog 45).cells w fun a2 w1 =>
  br ((((sectors_n : Nat) : Int) : Int) == 0) (st Try.prog 45 a2 (.agg #[(.int .u8 0), (.int .u8 0), (.int .u8 0), (.int .u8 0), (.int .u8 0), (.int .u8 0), (.int .u8 0), (.int .u8 0), (.int .u8 0), (.int .u8 0), (.int .u8 0), (.int .u8 0), (.int .u8 0), (.int .u8 0), (.int .u8 0), (.int .u8 0), (.int .u8 0), (.int .u8 0), (.int .u8 0), (.int .u8 0), (.int .u8 0), (.int .u8 0), (.int .u8 0), (.int .u8 0), (.int .u8 0), (.int .u8 0), (.int .u8 0), (.int .u8 0), (.int .u8 0), (.int .u8 0), (.int .u8 0), (.int .u8 0), (.int .u64 0), (.slice none 0 0)]) w1 fun w3 =>
  ld Try.prog 45 a2 w3 fun v4 => fG v4 fun g5 =>
  Q (.tuple #[(.agg g5), (.int .i64 3)]) w3) (LoopW (S := Int × Unit) (fun s59 w60 next61 =>
  br (decide ((s59.1 : Int) < ((sectors_n : Nat) : Int))) (rq Try.prog (Instr.indexAt 47 (.slice sectors_ sectors_n sectors_c) (.int .i64 s59.1)) w60 fun v62 => fA v62 fun a63 =>
  ld Try.prog 9 a63 w60 fun v64 => fT v64 fun t65 =>
  br ((((t65.size : Nat) : Int) : Int) != 64) (st Try.prog 45 a2 (.agg #[(.int .u8 0), (.int .u8 0), (.int .u8 0), (.int .u8 0), (.int .u8 0), (.int .u8 0), (.int .u8 0), (.int .u8 0), (.int .u8 0), (.int .u8 0), (.int .u8 0), (.int .u8 0), (.int .u8 0), (.int .u8 0), (.int .u8 0), (.int .u8 0), (.int .u8 0), (.int .u8 0), (.int .u8 0), (.int .u8 0), (.int .u8 0), (.int .u8 0), (.int .u8 0), (.int .u8 0), (.int .u8 0), (.int .u8 0), (.int .u8 0), (.int .u8 0), (.int .u8 0), (.int .u8 0), (.int .u8 0), (.int .u8 0), (.int .u64 0), (.slice none 0 0)]) w60 fun w66 =>
  ld Try.prog 45 a2 w66 fun v67 => fG v67 fun g68 =>
  Q (.tuple #[(.agg g68), (.int .i64 3)]) w66) (next61 (((IntKind.wrap .i64 (s59.1 + 1)) : Int), ()) w60)) (W.image_Decode_k9 sectors_ sectors_n sectors_c a2 w60 Q)) ((0 : Int), ()) w1)
theorem E.image_Decode (sectors_ : Option Addr) (sectors_n : Nat) (sectors_c : Nat) (w : World) (Q : Value → World → Prop) : ev Try.prog Try.f25.ntmps callable [(4, [(20, .int .i64 0)], [0, 2, 18, 19])] [] (Try.f25.body.getD .skip) (enumE 0 [(.slice sectors_ sectors_n sectors_c)]) w (KQ Try.prog Try.f25.results.toList Q) = W.image_Decode sectors_ sectors_n sectors_c w Q := by kernel_rfl
theorem C.image_Decode (sectors_ : Option Addr) (sectors_n : Nat) (sectors_c : Nat) (w : World) (Q : Value → World → Prop) (h : W.image_Decode sectors_ sectors_n sectors_c w Q) : CallE Try.prog 25 #[(.slice sectors_ sectors_n sectors_c)] w Q :=
  calls_of_ev mixed callable_ok (args := [(.slice sectors_ sectors_n sectors_c)]) Try.func25 rfl ((E.image_Decode sectors_ sectors_n sectors_c w Q).symm ▸ h)

def W.law34_Equal (a_ : Array Value) (b_ : Array Value) (w : World) (Q : Value → World → Prop) : Prop :=
  al 45 a_ w fun a2 w1 =>
  al 45 b_ w1 fun a4 w3 =>
  ld Try.prog 30 (a2.add 0) w3 fun v5 => fG v5 fun g6 =>
  ld Try.prog 30 (a4.add 0) w3 fun v7 => fG v7 fun g8 =>
  rq Try.prog (do eqGuard .eql 30 (.tmp 6) (.tmp 8) (.agg g6) (.agg g8); binOp .eql 30 (.agg g6) (.agg g8)) w3 fun v9 => fB v9 fun b10 =>
  br b10 (ld Try.prog 28 (a2.add 32) w3 fun v11 => fI .u64 v11 fun x12 =>
  ld Try.prog 28 (a4.add 32) w3 fun v13 => fI .u64 v13 fun x14 =>
  br ((x12 : Int) == x14) (ld Try.prog 43 (a2.add 33) w3 fun v15 => fS v15 fun l16 l16n l16c =>
  ld Try.prog 43 (a4.add 33) w3 fun v17 => fS v17 fun l18 l18n l18c =>
  CallE Try.prog 38 #[(.slice l16 l16n l16c), (.slice l18 l18n l18c)] w3 fun v19 w20 => fB v19 fun b21 =>
  Q (.bool b21) w20) (Q (.bool false) w3)) (Q (.bool false) w3)
theorem E.law34_Equal (a_ : Array Value) (b_ : Array Value) (w : World) (Q : Value → World → Prop) : ev Try.prog Try.f26.ntmps callable [] [] (Try.f26.body.getD .skip) (enumE 0 [(.agg a_), (.agg b_)]) w (KQ Try.prog Try.f26.results.toList Q) = W.law34_Equal a_ b_ w Q := by kernel_rfl
theorem C.law34_Equal (a_ : Array Value) (b_ : Array Value) (w : World) (Q : Value → World → Prop) (h : W.law34_Equal a_ b_ w Q) : CallE Try.prog 26 #[(.agg a_), (.agg b_)] w Q :=
  calls_of_ev mixed callable_ok (args := [(.agg a_), (.agg b_)]) Try.func26 rfl ((E.law34_Equal a_ b_ w Q).symm ▸ h)

def W.image_appendNumber (b_ : Option Addr) (b_n : Nat) (b_c : Nat) (v_ : Int) (count_ : Int) (w : World) (Q : Value → World → Prop) : Prop :=
  LoopW (S := (Option Addr × Nat × Nat) × Int × Int × Unit) (fun s1 w2 next3 =>
  br (decide ((s1.2.2.1 : Int) < count_)) (al 5 #[(.int .u8 (IntKind.wrap .u8 s1.2.1))] w2 fun a5 w4 =>
  rv Try.prog (Builtin.append_ #[26, 26] 26 #[(.slice s1.1.1 s1.1.2.1 s1.1.2.2), (.slice (some a5) 1 1)]) w4 fun v6 w7 => fS v6 fun l8 l8n l8c =>
  next3 ((l8, l8n, l8c), ((Int.fdiv s1.2.1 (2 ^ 8)) : Int), ((IntKind.wrap .i64 (s1.2.2.1 + 1)) : Int), ()) w7) (Q (.slice s1.1.1 s1.1.2.1 s1.1.2.2) w2)) ((b_, b_n, b_c), (v_ : Int), (0 : Int), ()) w
theorem E.image_appendNumber (b_ : Option Addr) (b_n : Nat) (b_c : Nat) (v_ : Int) (count_ : Int) (w : World) (Q : Value → World → Prop) : ev Try.prog Try.f27.ntmps callable [(2, [(0, .slice none 0 0), (1, .int .u64 0), (8, .int .i64 0)], [7])] [] (Try.f27.body.getD .skip) (enumE 0 [(.slice b_ b_n b_c), (.int .u64 v_), (.int .i64 count_)]) w (KQ Try.prog Try.f27.results.toList Q) = W.image_appendNumber b_ b_n b_c v_ count_ w Q := by kernel_rfl
theorem C.image_appendNumber (b_ : Option Addr) (b_n : Nat) (b_c : Nat) (v_ : Int) (count_ : Int) (w : World) (Q : Value → World → Prop) (h : W.image_appendNumber b_ b_n b_c v_ count_ w Q) : CallE Try.prog 27 #[(.slice b_ b_n b_c), (.int .u64 v_), (.int .i64 count_)] w Q :=
  calls_of_ev mixed callable_ok (args := [(.slice b_ b_n b_c), (.int .u64 v_), (.int .i64 count_)]) Try.func27 rfl ((E.image_appendNumber b_ b_n b_c v_ count_ w Q).symm ▸ h)

def W.strings_HasPrefix (s_ : ByteArray) (prefix_ : ByteArray) (w : World) (Q : Value → World → Prop) : Prop :=
  CallE Try.prog 39 #[(.string s_), (.string prefix_)] w fun v1 w2 => fB v1 fun b3 =>
  Q (.bool b3) w2
theorem E.strings_HasPrefix (s_ : ByteArray) (prefix_ : ByteArray) (w : World) (Q : Value → World → Prop) : ev Try.prog Try.f28.ntmps callable [] [] (Try.f28.body.getD .skip) (enumE 0 [(.string s_), (.string prefix_)]) w (KQ Try.prog Try.f28.results.toList Q) = W.strings_HasPrefix s_ prefix_ w Q := by kernel_rfl
theorem C.strings_HasPrefix (s_ : ByteArray) (prefix_ : ByteArray) (w : World) (Q : Value → World → Prop) (h : W.strings_HasPrefix s_ prefix_ w Q) : CallE Try.prog 28 #[(.string s_), (.string prefix_)] w Q :=
  calls_of_ev mixed callable_ok (args := [(.string s_), (.string prefix_)]) Try.func28 rfl ((E.strings_HasPrefix s_ prefix_ w Q).symm ▸ h)

def W.image_number (s_ : ByteArray) (w : World) (Q : Value → World → Prop) : Prop :=
  LoopW (S := Int × Int × Unit) (fun s1 w2 next3 =>
  br (decide ((s1.2.1 : Int) ≥ 0)) (rq Try.prog (Instr.index 9 (.string s_) (.int .i64 s1.2.1)) w2 fun v4 => fI .u8 v4 fun x5 =>
  next3 (((bor .u64 (IntKind.wrap .u64 (s1.1 * 2 ^ 8)) (IntKind.wrap .u64 x5)) : Int), ((IntKind.wrap .i64 (s1.2.1 - 1)) : Int), ()) w2) (Q (.int .u64 s1.1) w2)) ((0 : Int), ((IntKind.wrap .i64 (((s_.size : Nat) : Int) - 1)) : Int), ()) w
theorem E.image_number (s_ : ByteArray) (w : World) (Q : Value → World → Prop) : ev Try.prog Try.f29.ntmps callable [(3, [(3, .int .u64 0), (4, .int .i64 0)], [0])] [] (Try.f29.body.getD .skip) (enumE 0 [(.string s_)]) w (KQ Try.prog Try.f29.results.toList Q) = W.image_number s_ w Q := by kernel_rfl
theorem C.image_number (s_ : ByteArray) (w : World) (Q : Value → World → Prop) (h : W.image_number s_ w Q) : CallE Try.prog 29 #[(.string s_)] w Q :=
  calls_of_ev mixed callable_ok (args := [(.string s_)]) Try.func29 rfl ((E.image_number s_ w Q).symm ▸ h)

def W.ref34_little_k6 (p5 : Option Addr) (p5n : Nat) (p5c : Nat) (w : World) (Q : Value → World → Prop) : Prop :=
  rv Try.prog (convert 26 9 (.slice p5 p5n p5c)) w fun v1 w2 => fT v1 fun t3 =>
  Q (.string t3) w2
def W.ref34_little (v_ : Int) (n_ : Int) (w : World) (Q : Value → World → Prop) : Prop :=
  LoopW (S := (Option Addr × Nat × Nat) × Int × Unit) (fun s4 w5 next6 =>
  br (decide ((s4.2.1 : Int) < n_)) (rq Try.prog (do eqGuard .shr 28 (.tmp 13) (.tmp 16) (.int .u64 v_) (.int .u64 (IntKind.wrap .u64 (IntKind.wrap .i64 (8 * s4.2.1)))); binOp .shr 28 (.int .u64 v_) (.int .u64 (IntKind.wrap .u64 (IntKind.wrap .i64 (8 * s4.2.1))))) w5 fun v7 => fI .u64 v7 fun x8 =>
  al 5 #[(.int .u8 (IntKind.wrap .u8 x8))] w5 fun a10 w9 =>
  rv Try.prog (Builtin.append_ #[26, 26] 26 #[(.slice s4.1.1 s4.1.2.1 s4.1.2.2), (.slice (some a10) 1 1)]) w9 fun v11 w12 => fS v11 fun l13 l13n l13c =>
  next6 ((l13, l13n, l13c), ((IntKind.wrap .i64 (s4.2.1 + 1)) : Int), ()) w12) (W.ref34_little_k6 s4.1.1 s4.1.2.1 s4.1.2.2 w5 Q)) ((none, 0, 0), (0 : Int), ()) w
theorem E.ref34_little (v_ : Int) (n_ : Int) (w : World) (Q : Value → World → Prop) : ev Try.prog Try.f30.ntmps callable [(3, [(5, .slice none 0 0), (6, .int .i64 0)], [0, 1])] [] (Try.f30.body.getD .skip) (enumE 0 [(.int .u64 v_), (.int .i64 n_)]) w (KQ Try.prog Try.f30.results.toList Q) = W.ref34_little v_ n_ w Q := by kernel_rfl
theorem C.ref34_little (v_ : Int) (n_ : Int) (w : World) (Q : Value → World → Prop) (h : W.ref34_little v_ n_ w Q) : CallE Try.prog 30 #[(.int .u64 v_), (.int .i64 n_)] w Q :=
  calls_of_ev mixed callable_ok (args := [(.int .u64 v_), (.int .i64 n_)]) Try.func30 rfl ((E.ref34_little v_ n_ w Q).symm ▸ h)

def W.ref34_value (s_ : ByteArray) (w : World) (Q : Value → World → Prop) : Prop :=
  LoopW (S := Int × Int × Unit) (fun s1 w2 next3 =>
  br (decide ((s1.2.1 : Int) < ((s_.size : Nat) : Int))) (rq Try.prog (Instr.index 9 (.string s_) (.int .i64 s1.2.1)) w2 fun v4 => fI .u8 v4 fun x5 =>
  rq Try.prog (do eqGuard .shl 28 (.tmp 15) (.tmp 18) (.int .u64 (IntKind.wrap .u64 x5)) (.int .u64 (IntKind.wrap .u64 (IntKind.wrap .i64 (8 * s1.2.1)))); binOp .shl 28 (.int .u64 (IntKind.wrap .u64 x5)) (.int .u64 (IntKind.wrap .u64 (IntKind.wrap .i64 (8 * s1.2.1))))) w2 fun v6 => fI .u64 v6 fun x7 =>
  next3 (((IntKind.wrap .u64 (s1.1 + x7)) : Int), ((IntKind.wrap .i64 (s1.2.1 + 1)) : Int), ()) w2) (Q (.int .u64 s1.1) w2)) ((0 : Int), (0 : Int), ()) w
theorem E.ref34_value (s_ : ByteArray) (w : World) (Q : Value → World → Prop) : ev Try.prog Try.f31.ntmps callable [(3, [(3, .int .u64 0), (4, .int .i64 0)], [0])] [] (Try.f31.body.getD .skip) (enumE 0 [(.string s_)]) w (KQ Try.prog Try.f31.results.toList Q) = W.ref34_value s_ w Q := by kernel_rfl
theorem C.ref34_value (s_ : ByteArray) (w : World) (Q : Value → World → Prop) (h : W.ref34_value s_ w Q) : CallE Try.prog 31 #[(.string s_)] w Q :=
  calls_of_ev mixed callable_ok (args := [(.string s_)]) Try.func31 rfl ((E.ref34_value s_ w Q).symm ▸ h)

def W.law33_Page_k22 (p5 : Option Addr) (p5n : Nat) (p5c : Nat) (w : World) (Q : Value → World → Prop) : Prop :=
  rv Try.prog (convert 26 9 (.slice p5 p5n p5c)) w fun v4 w5 => fT v4 fun t6 =>
  Q (.string t6) w5
def W.law33_Page_k18 (p0 : Option Addr) (p0n : Nat) (p0c : Nat) (p1 : Int) (p5 : Option Addr) (p5n : Nat) (p5c : Nat) (p6 : Int) (p8 : Int) (next9 : (Int × Unit) → World → Prop) (w : World) (Q : Value → World → Prop) : Prop :=
  LoopW (S := Int × Unit) (fun s10 w11 next12 =>
  br (decide ((s10.1 : Int) < 4)) (rq Try.prog (do eqGuard .shr 23 (.tmp 63) (.tmp 66) (.int .u32 p8) (.int .u64 (IntKind.wrap .u64 (IntKind.wrap .i64 (8 * s10.1)))); binOp .shr 23 (.int .u32 p8) (.int .u64 (IntKind.wrap .u64 (IntKind.wrap .i64 (8 * s10.1))))) w11 fun v13 => fI .u32 v13 fun x14 =>
  rq Try.prog (Instr.indexAt 26 (.slice p5 p5n p5c) (.int .i64 (IntKind.wrap .i64 ((IntKind.wrap .i64 (4 * p6)) + s10.1)))) w11 fun v15 => fA v15 fun a16 =>
  st Try.prog 5 a16 (.int .u8 (IntKind.wrap .u8 x14)) w11 fun w17 =>
  next12 (((IntKind.wrap .i64 (s10.1 + 1)) : Int), ()) w17) (next9 (((IntKind.wrap .i64 (p6 + 1)) : Int), ()) w11)) ((0 : Int), ()) w
def W.law33_Page_k11 (p0 : Option Addr) (p0n : Nat) (p0c : Nat) (p1 : Int) (p5 : Option Addr) (p5n : Nat) (p5c : Nat) (p6 : Int) (p8 : Int) (next9 : (Int × Unit) → World → Prop) (w : World) (Q : Value → World → Prop) : Prop :=
  br (((Int.tmod (IntKind.wrap .i64 ((IntKind.wrap .i64 p1) + p6)) 7) : Int) == 0) (W.law33_Page_k18 p0 p0n p0c p1 p5 p5n p5c p6 0 next9 w Q) (br (((Int.tmod (IntKind.wrap .i64 ((IntKind.wrap .i64 p1) + p6)) 7) : Int) == 1) (W.law33_Page_k18 p0 p0n p0c p1 p5 p5n p5c p6 (IntKind.wrap .u32 (p8 + (IntKind.wrap .u32 p6))) next9 w Q) (br (((Int.tmod (IntKind.wrap .i64 ((IntKind.wrap .i64 p1) + p6)) 7) : Int) == 2) (W.law33_Page_k18 p0 p0n p0c p1 p5 p5n p5c p6 (band .u32 p8 4294901775) next9 w Q) (W.law33_Page_k18 p0 p0n p0c p1 p5 p5n p5c p6 p8 next9 w Q)))
def W.law33_Page_k8 (p0 : Option Addr) (p0n : Nat) (p0c : Nat) (p1 : Int) (p5 : Option Addr) (p5n : Nat) (p5c : Nat) (p6 : Int) (p7 : Int) (next9 : (Int × Unit) → World → Prop) (w : World) (Q : Value → World → Prop) : Prop :=
  br (decide ((p7 : Int) < ((p0n : Nat) : Int))) (rq Try.prog (Instr.indexAt 67 (.slice p0 p0n p0c) (.int .i64 p7)) w fun v18 => fA v18 fun a19 =>
  ld Try.prog 23 a19 w fun v20 => fI .u32 v20 fun x21 =>
  W.law33_Page_k11 p0 p0n p0c p1 p5 p5n p5c p6 x21 next9 w Q) (W.law33_Page_k11 p0 p0n p0c p1 p5 p5n p5c p6 0 next9 w Q)
def W.law33_Page (words_ : Option Addr) (words_n : Nat) (words_c : Nat) (stride_ : Int) (w : World) (Q : Value → World → Prop) : Prop :=
  rv Try.prog (Instr.makeSlice 26 (.int .i64 256) (.int .i64 256)) w fun v1 w2 => fS v1 fun l3 l3n l3c =>
  LoopW (S := Int × Unit) (fun s7 w8 next9 =>
  br (decide ((s7.1 : Int) < 64)) (br (decide ((((words_n : Nat) : Int) : Int) > 0)) (br (decide (((Int.tmod stride_ 4) : Int) > 0)) (rq Try.prog (do eqGuard .rem 3 (.tmp 24) (.tmp 27) (.int .i64 s7.1) (.int .i64 (IntKind.wrap .i64 (1 + (IntKind.wrap .i64 stride_)))); binOp .rem 3 (.int .i64 s7.1) (.int .i64 (IntKind.wrap .i64 (1 + (IntKind.wrap .i64 stride_))))) w8 fun v22 => fI .i64 v22 fun x23 =>
  W.law33_Page_k8 words_ words_n words_c stride_ l3 l3n l3c s7.1 x23 next9 w8 Q) (W.law33_Page_k8 words_ words_n words_c stride_ l3 l3n l3c s7.1 s7.1 next9 w8 Q)) (W.law33_Page_k22 l3 l3n l3c w8 Q)) (W.law33_Page_k22 l3 l3n l3c w8 Q)) ((0 : Int), ()) w2
theorem E.law33_Page (words_ : Option Addr) (words_n : Nat) (words_c : Nat) (stride_ : Int) (w : World) (Q : Value → World → Prop) : ev Try.prog Try.f32.ntmps callable [(3, [(6, .int .i64 0)], [0, 1, 5]), (19, [(9, .int .i64 0)], [0, 1, 5, 6, 8])] [] (Try.f32.body.getD .skip) (enumE 0 [(.slice words_ words_n words_c), (.int .u8 stride_)]) w (KQ Try.prog Try.f32.results.toList Q) = W.law33_Page words_ words_n words_c stride_ w Q := by kernel_rfl
theorem C.law33_Page (words_ : Option Addr) (words_n : Nat) (words_c : Nat) (stride_ : Int) (w : World) (Q : Value → World → Prop) (h : W.law33_Page words_ words_n words_c stride_ w Q) : CallE Try.prog 32 #[(.slice words_ words_n words_c), (.int .u8 stride_)] w Q :=
  calls_of_ev mixed callable_ok (args := [(.slice words_ words_n words_c), (.int .u8 stride_)]) Try.func32 rfl ((E.law33_Page words_ words_n words_c stride_ w Q).symm ▸ h)

def W.image_validPages (pages_ : Option Addr) (pages_n : Nat) (pages_c : Nat) (w : World) (Q : Value → World → Prop) : Prop :=
  br (decide ((((pages_n : Nat) : Int) : Int) > 512)) (Q (.bool false) w) (LoopW (S := Int × Unit) (fun s1 w2 next3 =>
  br (decide ((s1.1 : Int) < ((pages_n : Nat) : Int))) (rq Try.prog (Instr.indexAt 43 (.slice pages_ pages_n pages_c) (.int .i64 s1.1)) w2 fun v4 => fA v4 fun a5 =>
  ld Try.prog 52 a5 w2 fun v6 => fG v6 fun g7 =>
  al 52 (zeroT Try.prog 52).cells w2 fun a9 w8 =>
  st Try.prog 52 a9 (.agg g7) w8 fun w10 =>
  ld Try.prog 3 (a9.add 0) w10 fun v11 => fI .i64 v11 fun x12 =>
  br (decide ((x12 : Int) < 0)) (Q (.bool false) w10) (ld Try.prog 3 (a9.add 0) w10 fun v13 => fI .i64 v13 fun x14 =>
  br (decide ((x14 : Int) > 2147483647)) (Q (.bool false) w10) (dr w10 fun w15 =>
  br (decide ((s1.1 : Int) > 0)) (ld Try.prog 3 (a9.add 0) w15 fun v16 => fI .i64 v16 fun x17 =>
  rq Try.prog (Instr.indexAt 43 (.slice pages_ pages_n pages_c) (.int .i64 (IntKind.wrap .i64 (s1.1 - 1)))) w15 fun v18 => fA v18 fun a19 =>
  ld Try.prog 3 (a19.add 0) w15 fun v20 => fI .i64 v20 fun x21 =>
  br (decide ((x17 : Int) ≤ x21)) (Q (.bool false) w15) (next3 (((IntKind.wrap .i64 (s1.1 + 1)) : Int), ()) w15)) (next3 (((IntKind.wrap .i64 (s1.1 + 1)) : Int), ()) w15)))) (Q (.bool true) w2)) ((0 : Int), ()) w)
theorem E.image_validPages (pages_ : Option Addr) (pages_n : Nat) (pages_c : Nat) (w : World) (Q : Value → World → Prop) : ev Try.prog Try.f33.ntmps callable [(4, [(10, .int .i64 0)], [0, 8, 9])] [] (Try.f33.body.getD .skip) (enumE 0 [(.slice pages_ pages_n pages_c)]) w (KQ Try.prog Try.f33.results.toList Q) = W.image_validPages pages_ pages_n pages_c w Q := by kernel_rfl
theorem C.image_validPages (pages_ : Option Addr) (pages_n : Nat) (pages_c : Nat) (w : World) (Q : Value → World → Prop) (h : W.image_validPages pages_ pages_n pages_c w Q) : CallE Try.prog 33 #[(.slice pages_ pages_n pages_c)] w Q :=
  calls_of_ev mixed callable_ok (args := [(.slice pages_ pages_n pages_c)]) Try.func33 rfl ((E.image_validPages pages_ pages_n pages_c w Q).symm ▸ h)

def W.pagezip_Compress_k21 (p0 : ByteArray) (p5 : Addr) (p6 : Option Addr) (p6n : Nat) (p6c : Nat) (w : World) (Q : Value → World → Prop) : Prop :=
  br (decide (((IntKind.wrap .i64 (17 + ((p6n : Nat) : Int))) : Int) > 256)) (al 5 #[(.int .u8 0)] w fun a6 w5 =>
  rv Try.prog (convert 26 9 (.slice (some a6) 1 1)) w5 fun v7 w8 => fT v7 fun t9 =>
  rq Try.prog (do eqGuard .add 9 (.tmp 81) (.tmp 82) (.string t9) (.string p0); binOp .add 9 (.string t9) (.string p0)) w8 fun v10 => fT v10 fun t11 =>
  Q (.tuple #[(.string t11), (.int .i64 0)]) w8) (drawE fun S12 => S12 (drew w) ∧ (rqS Try.prog S12 (Instr.sliceAt 79 (.pointer (some p5)) none none none) fun v13 => fS v13 fun l14 l14n l14c =>
  (al 5 #[(.int .u8 1)] (drew w) fun a16 w15 =>
  S12 w15 ∧ ((rv Try.prog (convert 26 9 (.slice (some a16) 1 1)) w15 fun v17 w18 => fT v17 fun t19 =>
  S12 w18 ∧ ((rv Try.prog (convert 26 9 (.slice l14 l14n l14c)) w18 fun v20 w21 => fT v20 fun t22 =>
  S12 w21 ∧ (rqS Try.prog S12 (do eqGuard .add 9 (.tmp 85) (.tmp 87) (.string t19) (.string t22); binOp .add 9 (.string t19) (.string t22)) fun v23 => fT v23 fun t24 =>
  rv Try.prog (convert 26 9 (.slice p6 p6n p6c)) w21 fun v25 w26 => fT v25 fun t27 =>
  S12 w26 ∧ (rqS Try.prog S12 (do eqGuard .add 9 (.tmp 88) (.tmp 90) (.string t24) (.string t27); binOp .add 9 (.string t24) (.string t27)) fun v28 => fT v28 fun t29 =>
  Q (.tuple #[(.string t29), (.int .i64 0)]) w26))) ∧ (rv Try.prog (convert 26 9 (.slice p6 p6n p6c)) w18 fun v30 w31 => fT v30 fun t32 =>
  S12 w31 ∧ (rv Try.prog (convert 26 9 (.slice l14 l14n l14c)) w31 fun v33 w34 => fT v33 fun t35 =>
  S12 w34 ∧ (rqS Try.prog S12 (do eqGuard .add 9 (.tmp 85) (.tmp 87) (.string t19) (.string t35); binOp .add 9 (.string t19) (.string t35)) fun v36 => fT v36 fun t37 =>
  rqS Try.prog S12 (do eqGuard .add 9 (.tmp 88) (.tmp 90) (.string t37) (.string t32); binOp .add 9 (.string t37) (.string t32)) fun v38 => fT v38 fun t39 =>
  Q (.tuple #[(.string t39), (.int .i64 0)]) w34))))) ∧ (rv Try.prog (convert 26 9 (.slice l14 l14n l14c)) w15 fun v40 w41 => fT v40 fun t42 =>
  S12 w41 ∧ ((rv Try.prog (convert 26 9 (.slice (some a16) 1 1)) w41 fun v43 w44 => fT v43 fun t45 =>
  S12 w44 ∧ (rqS Try.prog S12 (do eqGuard .add 9 (.tmp 85) (.tmp 87) (.string t45) (.string t42); binOp .add 9 (.string t45) (.string t42)) fun v46 => fT v46 fun t47 =>
  rv Try.prog (convert 26 9 (.slice p6 p6n p6c)) w44 fun v48 w49 => fT v48 fun t50 =>
  S12 w49 ∧ (rqS Try.prog S12 (do eqGuard .add 9 (.tmp 88) (.tmp 90) (.string t47) (.string t50); binOp .add 9 (.string t47) (.string t50)) fun v51 => fT v51 fun t52 =>
  Q (.tuple #[(.string t52), (.int .i64 0)]) w49))) ∧ (rv Try.prog (convert 26 9 (.slice p6 p6n p6c)) w41 fun v53 w54 => fT v53 fun t55 =>
  S12 w54 ∧ (rv Try.prog (convert 26 9 (.slice (some a16) 1 1)) w54 fun v56 w57 => fT v56 fun t58 =>
  S12 w57 ∧ (rqS Try.prog S12 (do eqGuard .add 9 (.tmp 85) (.tmp 87) (.string t58) (.string t42); binOp .add 9 (.string t58) (.string t42)) fun v59 => fT v59 fun t60 =>
  rqS Try.prog S12 (do eqGuard .add 9 (.tmp 88) (.tmp 90) (.string t60) (.string t55); binOp .add 9 (.string t60) (.string t55)) fun v61 => fT v61 fun t62 =>
  Q (.tuple #[(.string t62), (.int .i64 0)]) w57))))) ∧ (rv Try.prog (convert 26 9 (.slice p6 p6n p6c)) w15 fun v63 w64 => fT v63 fun t65 =>
  S12 w64 ∧ ((rv Try.prog (convert 26 9 (.slice (some a16) 1 1)) w64 fun v66 w67 => fT v66 fun t68 =>
  S12 w67 ∧ (rv Try.prog (convert 26 9 (.slice l14 l14n l14c)) w67 fun v69 w70 => fT v69 fun t71 =>
  S12 w70 ∧ (rqS Try.prog S12 (do eqGuard .add 9 (.tmp 85) (.tmp 87) (.string t68) (.string t71); binOp .add 9 (.string t68) (.string t71)) fun v72 => fT v72 fun t73 =>
  rqS Try.prog S12 (do eqGuard .add 9 (.tmp 88) (.tmp 90) (.string t73) (.string t65); binOp .add 9 (.string t73) (.string t65)) fun v74 => fT v74 fun t75 =>
  Q (.tuple #[(.string t75), (.int .i64 0)]) w70))) ∧ (rv Try.prog (convert 26 9 (.slice l14 l14n l14c)) w64 fun v76 w77 => fT v76 fun t78 =>
  S12 w77 ∧ (rv Try.prog (convert 26 9 (.slice (some a16) 1 1)) w77 fun v79 w80 => fT v79 fun t81 =>
  S12 w80 ∧ (rqS Try.prog S12 (do eqGuard .add 9 (.tmp 85) (.tmp 87) (.string t81) (.string t78); binOp .add 9 (.string t81) (.string t78)) fun v82 => fT v82 fun t83 =>
  rqS Try.prog S12 (do eqGuard .add 9 (.tmp 88) (.tmp 90) (.string t83) (.string t65); binOp .add 9 (.string t83) (.string t65)) fun v84 => fT v84 fun t85 =>
  Q (.tuple #[(.string t85), (.int .i64 0)]) w80))))))) ∧ (rv Try.prog (convert 26 9 (.slice l14 l14n l14c)) (drew w) fun v86 w87 => fT v86 fun t88 =>
  S12 w87 ∧ ((al 5 #[(.int .u8 1)] w87 fun a90 w89 =>
  S12 w89 ∧ ((rv Try.prog (convert 26 9 (.slice (some a90) 1 1)) w89 fun v91 w92 => fT v91 fun t93 =>
  S12 w92 ∧ (rqS Try.prog S12 (do eqGuard .add 9 (.tmp 85) (.tmp 87) (.string t93) (.string t88); binOp .add 9 (.string t93) (.string t88)) fun v94 => fT v94 fun t95 =>
  rv Try.prog (convert 26 9 (.slice p6 p6n p6c)) w92 fun v96 w97 => fT v96 fun t98 =>
  S12 w97 ∧ (rqS Try.prog S12 (do eqGuard .add 9 (.tmp 88) (.tmp 90) (.string t95) (.string t98); binOp .add 9 (.string t95) (.string t98)) fun v99 => fT v99 fun t100 =>
  Q (.tuple #[(.string t100), (.int .i64 0)]) w97))) ∧ (rv Try.prog (convert 26 9 (.slice p6 p6n p6c)) w89 fun v101 w102 => fT v101 fun t103 =>
  S12 w102 ∧ (rv Try.prog (convert 26 9 (.slice (some a90) 1 1)) w102 fun v104 w105 => fT v104 fun t106 =>
  S12 w105 ∧ (rqS Try.prog S12 (do eqGuard .add 9 (.tmp 85) (.tmp 87) (.string t106) (.string t88); binOp .add 9 (.string t106) (.string t88)) fun v107 => fT v107 fun t108 =>
  rqS Try.prog S12 (do eqGuard .add 9 (.tmp 88) (.tmp 90) (.string t108) (.string t103); binOp .add 9 (.string t108) (.string t103)) fun v109 => fT v109 fun t110 =>
  Q (.tuple #[(.string t110), (.int .i64 0)]) w105))))) ∧ (rv Try.prog (convert 26 9 (.slice p6 p6n p6c)) w87 fun v111 w112 => fT v111 fun t113 =>
  S12 w112 ∧ (al 5 #[(.int .u8 1)] w112 fun a115 w114 =>
  S12 w114 ∧ (rv Try.prog (convert 26 9 (.slice (some a115) 1 1)) w114 fun v116 w117 => fT v116 fun t118 =>
  S12 w117 ∧ (rqS Try.prog S12 (do eqGuard .add 9 (.tmp 85) (.tmp 87) (.string t118) (.string t88); binOp .add 9 (.string t118) (.string t88)) fun v119 => fT v119 fun t120 =>
  rqS Try.prog S12 (do eqGuard .add 9 (.tmp 88) (.tmp 90) (.string t120) (.string t113); binOp .add 9 (.string t120) (.string t113)) fun v121 => fT v121 fun t122 =>
  Q (.tuple #[(.string t122), (.int .i64 0)]) w117)))))) ∧ (rv Try.prog (convert 26 9 (.slice p6 p6n p6c)) (drew w) fun v123 w124 => fT v123 fun t125 =>
  S12 w124 ∧ ((al 5 #[(.int .u8 1)] w124 fun a127 w126 =>
  S12 w126 ∧ ((rv Try.prog (convert 26 9 (.slice (some a127) 1 1)) w126 fun v128 w129 => fT v128 fun t130 =>
  S12 w129 ∧ (rv Try.prog (convert 26 9 (.slice l14 l14n l14c)) w129 fun v131 w132 => fT v131 fun t133 =>
  S12 w132 ∧ (rqS Try.prog S12 (do eqGuard .add 9 (.tmp 85) (.tmp 87) (.string t130) (.string t133); binOp .add 9 (.string t130) (.string t133)) fun v134 => fT v134 fun t135 =>
  rqS Try.prog S12 (do eqGuard .add 9 (.tmp 88) (.tmp 90) (.string t135) (.string t125); binOp .add 9 (.string t135) (.string t125)) fun v136 => fT v136 fun t137 =>
  Q (.tuple #[(.string t137), (.int .i64 0)]) w132))) ∧ (rv Try.prog (convert 26 9 (.slice l14 l14n l14c)) w126 fun v138 w139 => fT v138 fun t140 =>
  S12 w139 ∧ (rv Try.prog (convert 26 9 (.slice (some a127) 1 1)) w139 fun v141 w142 => fT v141 fun t143 =>
  S12 w142 ∧ (rqS Try.prog S12 (do eqGuard .add 9 (.tmp 85) (.tmp 87) (.string t143) (.string t140); binOp .add 9 (.string t143) (.string t140)) fun v144 => fT v144 fun t145 =>
  rqS Try.prog S12 (do eqGuard .add 9 (.tmp 88) (.tmp 90) (.string t145) (.string t125); binOp .add 9 (.string t145) (.string t125)) fun v146 => fT v146 fun t147 =>
  Q (.tuple #[(.string t147), (.int .i64 0)]) w142))))) ∧ (rv Try.prog (convert 26 9 (.slice l14 l14n l14c)) w124 fun v148 w149 => fT v148 fun t150 =>
  S12 w149 ∧ (al 5 #[(.int .u8 1)] w149 fun a152 w151 =>
  S12 w151 ∧ (rv Try.prog (convert 26 9 (.slice (some a152) 1 1)) w151 fun v153 w154 => fT v153 fun t155 =>
  S12 w154 ∧ (rqS Try.prog S12 (do eqGuard .add 9 (.tmp 85) (.tmp 87) (.string t155) (.string t150); binOp .add 9 (.string t155) (.string t150)) fun v156 => fT v156 fun t157 =>
  rqS Try.prog S12 (do eqGuard .add 9 (.tmp 88) (.tmp 90) (.string t157) (.string t125); binOp .add 9 (.string t157) (.string t125)) fun v158 => fT v158 fun t159 =>
  Q (.tuple #[(.string t159), (.int .i64 0)]) w154))))))))
def W.pagezip_Compress_k19 (p0 : ByteArray) (p4 : Addr) (p5 : Addr) (p6 : Option Addr) (p6n : Nat) (p6c : Nat) (p8 : Int) (p13 : Int) (next162 : ((Option Addr × Nat × Nat) × Int × Unit) → World → Prop) (w : World) (Q : Value → World → Prop) : Prop :=
  CallE Try.prog 43 #[(.pointer (some p4)), (.int .u32 p8)] w fun v181 w182 => v181 = .tuple #[] ∧
  next162 ((p6, p6n, p6c), ((IntKind.wrap .i64 (p13 + 1)) : Int), ()) w182
def W.pagezip_Compress (page_ : ByteArray) (w : World) (Q : Value → World → Prop) : Prop :=
  br ((((page_.size : Nat) : Int) : Int) != 256) (Q (.tuple #[(.string ⟨#[]⟩), (.int .i64 1)]) w) (al 78 (zeroT Try.prog 78).cells w fun a2 w1 =>
  al 79 (zeroT Try.prog 79).cells w1 fun a4 w3 =>
  LoopW (S := (Option Addr × Nat × Nat) × Int × Unit) (fun s160 w161 next162 =>
  br (decide ((s160.2.1 : Int) < 64)) (rq Try.prog (Instr.sliceAt 9 (.string page_) (some (.int .i64 (IntKind.wrap .i64 (4 * s160.2.1)))) none none) w161 fun v163 => fT v163 fun t164 =>
  CallE Try.prog 40 #[(.string t164)] w161 fun v165 w166 => fI .u32 v165 fun x167 =>
  CallE Try.prog 41 #[(.pointer (some a2)), (.int .u32 x167)] w166 fun v168 w169 => fI .i64 v168 fun x170 =>
  dr w169 fun w171 =>
  rq Try.prog (Instr.indexAt 79 (.pointer (some a4)) (.int .i64 (IntKind.wrap .i64 (Int.tdiv s160.2.1 4)))) w171 fun v172 => fA v172 fun a173 =>
  ld Try.prog 5 a173 w171 fun v174 => fI .u8 v174 fun x175 =>
  rq Try.prog (do eqGuard .shl 3 (.tmp 27) (.tmp 30) (.int .i64 x170) (.int .i64 (IntKind.wrap .i64 (2 * (Int.tmod s160.2.1 4)))); binOp .shl 3 (.int .i64 x170) (.int .i64 (IntKind.wrap .i64 (2 * (Int.tmod s160.2.1 4))))) w171 fun v176 => fI .i64 v176 fun x177 =>
  rq Try.prog (Instr.indexAt 79 (.pointer (some a4)) (.int .i64 (IntKind.wrap .i64 (Int.tdiv s160.2.1 4)))) w171 fun v178 => fA v178 fun a179 =>
  st Try.prog 5 a179 (.int .u8 (bor .u8 x175 (IntKind.wrap .u8 x177))) w171 fun w180 =>
  br ((x170 : Int) == 1) (CallE Try.prog 42 #[(.int .u32 x167)] w180 fun v183 w184 => fI .i64 v183 fun x185 =>
  al 5 #[(.int .u8 (IntKind.wrap .u8 x185))] w184 fun a187 w186 =>
  rv Try.prog (Builtin.append_ #[26, 26] 26 #[(.slice s160.1.1 s160.1.2.1 s160.1.2.2), (.slice (some a187) 1 1)]) w186 fun v188 w189 => fS v188 fun l190 l190n l190c =>
  W.pagezip_Compress_k19 page_ a2 a4 l190 l190n l190c x167 s160.2.1 next162 w189 Q) (br ((x170 : Int) == 2) (CallE Try.prog 42 #[(.int .u32 x167)] w180 fun v191 w192 => fI .i64 v191 fun x193 =>
  al 5 #[(.int .u8 (IntKind.wrap .u8 x193)), (.int .u8 (IntKind.wrap .u8 x167)), (.int .u8 (IntKind.wrap .u8 (Int.fdiv x167 (2 ^ 8))))] w192 fun a195 w194 =>
  rv Try.prog (Builtin.append_ #[26, 26] 26 #[(.slice s160.1.1 s160.1.2.1 s160.1.2.2), (.slice (some a195) 3 3)]) w194 fun v196 w197 => fS v196 fun l198 l198n l198c =>
  W.pagezip_Compress_k19 page_ a2 a4 l198 l198n l198c x167 s160.2.1 next162 w197 Q) (br ((x170 : Int) == 3) (al 5 #[(.int .u8 (IntKind.wrap .u8 x167)), (.int .u8 (IntKind.wrap .u8 (Int.fdiv x167 (2 ^ 8)))), (.int .u8 (IntKind.wrap .u8 (Int.fdiv x167 (2 ^ 16)))), (.int .u8 (IntKind.wrap .u8 (Int.fdiv x167 (2 ^ 24))))] w180 fun a200 w199 =>
  rv Try.prog (Builtin.append_ #[26, 26] 26 #[(.slice s160.1.1 s160.1.2.1 s160.1.2.2), (.slice (some a200) 4 4)]) w199 fun v201 w202 => fS v201 fun l203 l203n l203c =>
  W.pagezip_Compress_k19 page_ a2 a4 l203 l203n l203c x167 s160.2.1 next162 w202 Q) (W.pagezip_Compress_k19 page_ a2 a4 s160.1.1 s160.1.2.1 s160.1.2.2 x167 s160.2.1 next162 w180 Q)))) (W.pagezip_Compress_k21 page_ a4 s160.1.1 s160.1.2.1 s160.1.2.2 w161 Q)) ((none, 0, 0), (0 : Int), ()) w3)
theorem E.pagezip_Compress (page_ : ByteArray) (w : World) (Q : Value → World → Prop) : ev Try.prog Try.f34.ntmps callable [(7, [(6, .slice none 0 0), (13, .int .i64 0)], [0, 4, 5])] [] (Try.f34.body.getD .skip) (enumE 0 [(.string page_)]) w (KQ Try.prog Try.f34.results.toList Q) = W.pagezip_Compress page_ w Q := by kernel_rfl
theorem C.pagezip_Compress (page_ : ByteArray) (w : World) (Q : Value → World → Prop) (h : W.pagezip_Compress page_ w Q) : CallE Try.prog 34 #[(.string page_)] w Q :=
  calls_of_ev mixed callable_ok (args := [(.string page_)]) Try.func34 rfl ((E.pagezip_Compress page_ w Q).symm ▸ h)

def W.ref33_Compress_k22 (p0 : ByteArray) (p5 : Option Addr) (p5n : Nat) (p5c : Nat) (p6 : Option Addr) (p6n : Nat) (p6c : Nat) (w : World) (Q : Value → World → Prop) : Prop :=
  br (decide (((IntKind.wrap .i64 (17 + ((p6n : Nat) : Int))) : Int) > 256)) (rq Try.prog (do eqGuard .add 9 (.const (.string ⟨#[0]⟩)) (.tmp 119) (.string ⟨#[0]⟩) (.string p0); binOp .add 9 (.string ⟨#[0]⟩) (.string p0)) w fun v6 => fT v6 fun t7 =>
  Q (.tuple #[(.string t7), (.int .i64 0)]) w) (rv Try.prog (convert 26 9 (.slice p5 p5n p5c)) w fun v8 w9 => fT v8 fun t10 =>
  rq Try.prog (do eqGuard .add 9 (.const (.string ⟨#[1]⟩)) (.tmp 122) (.string ⟨#[1]⟩) (.string t10); binOp .add 9 (.string ⟨#[1]⟩) (.string t10)) w9 fun v11 => fT v11 fun t12 =>
  rv Try.prog (convert 26 9 (.slice p6 p6n p6c)) w9 fun v13 w14 => fT v13 fun t15 =>
  rq Try.prog (do eqGuard .add 9 (.tmp 123) (.tmp 125) (.string t12) (.string t15); binOp .add 9 (.string t12) (.string t15)) w14 fun v16 => fT v16 fun t17 =>
  Q (.tuple #[(.string t17), (.int .i64 0)]) w14)
def W.ref33_Compress_k20 (p0 : ByteArray) (p4 : Addr) (p5 : Option Addr) (p5n : Nat) (p5c : Nat) (p6 : Option Addr) (p6n : Nat) (p6c : Nat) (p7 : Int) (p8 : Int) (p9 : Int) (p10 : Int) (next20 : ((Option Addr × Nat × Nat) × Int × Unit) → World → Prop) (w : World) (Q : Value → World → Prop) : Prop :=
  rq Try.prog (Instr.indexAt 26 (.slice p5 p5n p5c) (.int .i64 (IntKind.wrap .i64 (Int.tdiv p7 4)))) w fun v30 => fA v30 fun a31 =>
  ld Try.prog 5 a31 w fun v32 => fI .u8 v32 fun x33 =>
  rq Try.prog (do eqGuard .shl 5 (.tmp 104) (.tmp 108) (.int .u8 p10) (.int .u64 (IntKind.wrap .u64 (IntKind.wrap .i64 (2 * (Int.tmod p7 4))))); binOp .shl 5 (.int .u8 p10) (.int .u64 (IntKind.wrap .u64 (IntKind.wrap .i64 (2 * (Int.tmod p7 4)))))) w fun v34 => fI .u8 v34 fun x35 =>
  rq Try.prog (Instr.indexAt 26 (.slice p5 p5n p5c) (.int .i64 (IntKind.wrap .i64 (Int.tdiv p7 4)))) w fun v36 => fA v36 fun a37 =>
  st Try.prog 5 a37 (.int .u8 (IntKind.wrap .u8 (x33 + x35))) w fun w38 =>
  rq Try.prog (Instr.indexAt 62 (.pointer (some p4)) (.int .u32 p9)) w38 fun v39 => fA v39 fun a40 =>
  st Try.prog 23 a40 (.int .u32 p8) w38 fun w41 =>
  next20 ((p6, p6n, p6c), ((IntKind.wrap .i64 (p7 + 1)) : Int), ()) w41
def W.ref33_Compress (page_ : ByteArray) (w : World) (Q : Value → World → Prop) : Prop :=
  br ((((page_.size : Nat) : Int) : Int) != 256) (Q (.tuple #[(.string ⟨#[]⟩), (.int .i64 1)]) w) (al 62 (zeroT Try.prog 62).cells w fun a2 w1 =>
  rv Try.prog (Instr.makeSlice 26 (.int .i64 16) (.int .i64 16)) w1 fun v3 w4 => fS v3 fun l5 l5n l5c =>
  LoopW (S := (Option Addr × Nat × Nat) × Int × Unit) (fun s18 w19 next20 =>
  br (decide ((s18.2.1 : Int) < 64)) (dr w19 fun w21 =>
  rq Try.prog (Instr.index 9 (.string page_) (.int .i64 (IntKind.wrap .i64 (4 * s18.2.1)))) w21 fun v22 => fI .u8 v22 fun x23 =>
  rq Try.prog (Instr.index 9 (.string page_) (.int .i64 (IntKind.wrap .i64 ((IntKind.wrap .i64 (4 * s18.2.1)) + 1)))) w21 fun v24 => fI .u8 v24 fun x25 =>
  rq Try.prog (Instr.index 9 (.string page_) (.int .i64 (IntKind.wrap .i64 ((IntKind.wrap .i64 (4 * s18.2.1)) + 2)))) w21 fun v26 => fI .u8 v26 fun x27 =>
  rq Try.prog (Instr.index 9 (.string page_) (.int .i64 (IntKind.wrap .i64 ((IntKind.wrap .i64 (4 * s18.2.1)) + 3)))) w21 fun v28 => fI .u8 v28 fun x29 =>
  br (((IntKind.wrap .u32 ((IntKind.wrap .u32 ((IntKind.wrap .u32 ((IntKind.wrap .u32 x23) + (IntKind.wrap .u32 ((IntKind.wrap .u32 x25) * 2 ^ 8)))) + (IntKind.wrap .u32 ((IntKind.wrap .u32 x27) * 2 ^ 16)))) + (IntKind.wrap .u32 ((IntKind.wrap .u32 x29) * 2 ^ 24)))) : Int) == 0) (next20 ((s18.1.1, s18.1.2.1, s18.1.2.2), ((IntKind.wrap .i64 (s18.2.1 + 1)) : Int), ()) w21) (rq Try.prog (Instr.indexAt 62 (.pointer (some a2)) (.int .u32 (Int.tmod (Int.fdiv (IntKind.wrap .u32 ((IntKind.wrap .u32 ((IntKind.wrap .u32 ((IntKind.wrap .u32 x23) + (IntKind.wrap .u32 ((IntKind.wrap .u32 x25) * 2 ^ 8)))) + (IntKind.wrap .u32 ((IntKind.wrap .u32 x27) * 2 ^ 16)))) + (IntKind.wrap .u32 ((IntKind.wrap .u32 x29) * 2 ^ 24)))) (2 ^ 16)) 16))) w21 fun v42 => fA v42 fun a43 =>
  ld Try.prog 23 a43 w21 fun v44 => fI .u32 v44 fun x45 =>
  br ((x45 : Int) == (IntKind.wrap .u32 ((IntKind.wrap .u32 ((IntKind.wrap .u32 ((IntKind.wrap .u32 x23) + (IntKind.wrap .u32 ((IntKind.wrap .u32 x25) * 2 ^ 8)))) + (IntKind.wrap .u32 ((IntKind.wrap .u32 x27) * 2 ^ 16)))) + (IntKind.wrap .u32 ((IntKind.wrap .u32 x29) * 2 ^ 24))))) (al 5 #[(.int .u8 (IntKind.wrap .u8 (Int.tmod (Int.fdiv (IntKind.wrap .u32 ((IntKind.wrap .u32 ((IntKind.wrap .u32 ((IntKind.wrap .u32 x23) + (IntKind.wrap .u32 ((IntKind.wrap .u32 x25) * 2 ^ 8)))) + (IntKind.wrap .u32 ((IntKind.wrap .u32 x27) * 2 ^ 16)))) + (IntKind.wrap .u32 ((IntKind.wrap .u32 x29) * 2 ^ 24)))) (2 ^ 16)) 16)))] w21 fun a47 w46 =>
  rv Try.prog (Builtin.append_ #[26, 26] 26 #[(.slice s18.1.1 s18.1.2.1 s18.1.2.2), (.slice (some a47) 1 1)]) w46 fun v48 w49 => fS v48 fun l50 l50n l50c =>
  W.ref33_Compress_k20 page_ a2 l5 l5n l5c l50 l50n l50c s18.2.1 (IntKind.wrap .u32 ((IntKind.wrap .u32 ((IntKind.wrap .u32 ((IntKind.wrap .u32 x23) + (IntKind.wrap .u32 ((IntKind.wrap .u32 x25) * 2 ^ 8)))) + (IntKind.wrap .u32 ((IntKind.wrap .u32 x27) * 2 ^ 16)))) + (IntKind.wrap .u32 ((IntKind.wrap .u32 x29) * 2 ^ 24)))) (Int.tmod (Int.fdiv (IntKind.wrap .u32 ((IntKind.wrap .u32 ((IntKind.wrap .u32 ((IntKind.wrap .u32 x23) + (IntKind.wrap .u32 ((IntKind.wrap .u32 x25) * 2 ^ 8)))) + (IntKind.wrap .u32 ((IntKind.wrap .u32 x27) * 2 ^ 16)))) + (IntKind.wrap .u32 ((IntKind.wrap .u32 x29) * 2 ^ 24)))) (2 ^ 16)) 16) 1 next20 w49 Q) (rq Try.prog (Instr.indexAt 62 (.pointer (some a2)) (.int .u32 (Int.tmod (Int.fdiv (IntKind.wrap .u32 ((IntKind.wrap .u32 ((IntKind.wrap .u32 ((IntKind.wrap .u32 x23) + (IntKind.wrap .u32 ((IntKind.wrap .u32 x25) * 2 ^ 8)))) + (IntKind.wrap .u32 ((IntKind.wrap .u32 x27) * 2 ^ 16)))) + (IntKind.wrap .u32 ((IntKind.wrap .u32 x29) * 2 ^ 24)))) (2 ^ 16)) 16))) w21 fun v51 => fA v51 fun a52 =>
  ld Try.prog 23 a52 w21 fun v53 => fI .u32 v53 fun x54 =>
  br (((Int.fdiv x54 (2 ^ 16)) : Int) == (Int.fdiv (IntKind.wrap .u32 ((IntKind.wrap .u32 ((IntKind.wrap .u32 ((IntKind.wrap .u32 x23) + (IntKind.wrap .u32 ((IntKind.wrap .u32 x25) * 2 ^ 8)))) + (IntKind.wrap .u32 ((IntKind.wrap .u32 x27) * 2 ^ 16)))) + (IntKind.wrap .u32 ((IntKind.wrap .u32 x29) * 2 ^ 24)))) (2 ^ 16))) (al 5 #[(.int .u8 (IntKind.wrap .u8 (Int.tmod (Int.fdiv (IntKind.wrap .u32 ((IntKind.wrap .u32 ((IntKind.wrap .u32 ((IntKind.wrap .u32 x23) + (IntKind.wrap .u32 ((IntKind.wrap .u32 x25) * 2 ^ 8)))) + (IntKind.wrap .u32 ((IntKind.wrap .u32 x27) * 2 ^ 16)))) + (IntKind.wrap .u32 ((IntKind.wrap .u32 x29) * 2 ^ 24)))) (2 ^ 16)) 16))), (.int .u8 (IntKind.wrap .u8 (IntKind.wrap .u32 ((IntKind.wrap .u32 ((IntKind.wrap .u32 ((IntKind.wrap .u32 x23) + (IntKind.wrap .u32 ((IntKind.wrap .u32 x25) * 2 ^ 8)))) + (IntKind.wrap .u32 ((IntKind.wrap .u32 x27) * 2 ^ 16)))) + (IntKind.wrap .u32 ((IntKind.wrap .u32 x29) * 2 ^ 24)))))), (.int .u8 (IntKind.wrap .u8 (Int.fdiv (IntKind.wrap .u32 ((IntKind.wrap .u32 ((IntKind.wrap .u32 ((IntKind.wrap .u32 x23) + (IntKind.wrap .u32 ((IntKind.wrap .u32 x25) * 2 ^ 8)))) + (IntKind.wrap .u32 ((IntKind.wrap .u32 x27) * 2 ^ 16)))) + (IntKind.wrap .u32 ((IntKind.wrap .u32 x29) * 2 ^ 24)))) (2 ^ 8))))] w21 fun a56 w55 =>
  rv Try.prog (Builtin.append_ #[26, 26] 26 #[(.slice s18.1.1 s18.1.2.1 s18.1.2.2), (.slice (some a56) 3 3)]) w55 fun v57 w58 => fS v57 fun l59 l59n l59c =>
  W.ref33_Compress_k20 page_ a2 l5 l5n l5c l59 l59n l59c s18.2.1 (IntKind.wrap .u32 ((IntKind.wrap .u32 ((IntKind.wrap .u32 ((IntKind.wrap .u32 x23) + (IntKind.wrap .u32 ((IntKind.wrap .u32 x25) * 2 ^ 8)))) + (IntKind.wrap .u32 ((IntKind.wrap .u32 x27) * 2 ^ 16)))) + (IntKind.wrap .u32 ((IntKind.wrap .u32 x29) * 2 ^ 24)))) (Int.tmod (Int.fdiv (IntKind.wrap .u32 ((IntKind.wrap .u32 ((IntKind.wrap .u32 ((IntKind.wrap .u32 x23) + (IntKind.wrap .u32 ((IntKind.wrap .u32 x25) * 2 ^ 8)))) + (IntKind.wrap .u32 ((IntKind.wrap .u32 x27) * 2 ^ 16)))) + (IntKind.wrap .u32 ((IntKind.wrap .u32 x29) * 2 ^ 24)))) (2 ^ 16)) 16) 2 next20 w58 Q) (al 5 #[(.int .u8 (IntKind.wrap .u8 (IntKind.wrap .u32 ((IntKind.wrap .u32 ((IntKind.wrap .u32 ((IntKind.wrap .u32 x23) + (IntKind.wrap .u32 ((IntKind.wrap .u32 x25) * 2 ^ 8)))) + (IntKind.wrap .u32 ((IntKind.wrap .u32 x27) * 2 ^ 16)))) + (IntKind.wrap .u32 ((IntKind.wrap .u32 x29) * 2 ^ 24)))))), (.int .u8 (IntKind.wrap .u8 (Int.fdiv (IntKind.wrap .u32 ((IntKind.wrap .u32 ((IntKind.wrap .u32 ((IntKind.wrap .u32 x23) + (IntKind.wrap .u32 ((IntKind.wrap .u32 x25) * 2 ^ 8)))) + (IntKind.wrap .u32 ((IntKind.wrap .u32 x27) * 2 ^ 16)))) + (IntKind.wrap .u32 ((IntKind.wrap .u32 x29) * 2 ^ 24)))) (2 ^ 8)))), (.int .u8 (IntKind.wrap .u8 (Int.fdiv (IntKind.wrap .u32 ((IntKind.wrap .u32 ((IntKind.wrap .u32 ((IntKind.wrap .u32 x23) + (IntKind.wrap .u32 ((IntKind.wrap .u32 x25) * 2 ^ 8)))) + (IntKind.wrap .u32 ((IntKind.wrap .u32 x27) * 2 ^ 16)))) + (IntKind.wrap .u32 ((IntKind.wrap .u32 x29) * 2 ^ 24)))) (2 ^ 16)))), (.int .u8 (IntKind.wrap .u8 (Int.fdiv (IntKind.wrap .u32 ((IntKind.wrap .u32 ((IntKind.wrap .u32 ((IntKind.wrap .u32 x23) + (IntKind.wrap .u32 ((IntKind.wrap .u32 x25) * 2 ^ 8)))) + (IntKind.wrap .u32 ((IntKind.wrap .u32 x27) * 2 ^ 16)))) + (IntKind.wrap .u32 ((IntKind.wrap .u32 x29) * 2 ^ 24)))) (2 ^ 24))))] w21 fun a61 w60 =>
  rv Try.prog (Builtin.append_ #[26, 26] 26 #[(.slice s18.1.1 s18.1.2.1 s18.1.2.2), (.slice (some a61) 4 4)]) w60 fun v62 w63 => fS v62 fun l64 l64n l64c =>
  W.ref33_Compress_k20 page_ a2 l5 l5n l5c l64 l64n l64c s18.2.1 (IntKind.wrap .u32 ((IntKind.wrap .u32 ((IntKind.wrap .u32 ((IntKind.wrap .u32 x23) + (IntKind.wrap .u32 ((IntKind.wrap .u32 x25) * 2 ^ 8)))) + (IntKind.wrap .u32 ((IntKind.wrap .u32 x27) * 2 ^ 16)))) + (IntKind.wrap .u32 ((IntKind.wrap .u32 x29) * 2 ^ 24)))) (Int.tmod (Int.fdiv (IntKind.wrap .u32 ((IntKind.wrap .u32 ((IntKind.wrap .u32 ((IntKind.wrap .u32 x23) + (IntKind.wrap .u32 ((IntKind.wrap .u32 x25) * 2 ^ 8)))) + (IntKind.wrap .u32 ((IntKind.wrap .u32 x27) * 2 ^ 16)))) + (IntKind.wrap .u32 ((IntKind.wrap .u32 x29) * 2 ^ 24)))) (2 ^ 16)) 16) 3 next20 w63 Q)))) (W.ref33_Compress_k22 page_ l5 l5n l5c s18.1.1 s18.1.2.1 s18.1.2.2 w19 Q)) ((none, 0, 0), (0 : Int), ()) w4)
theorem E.ref33_Compress (page_ : ByteArray) (w : World) (Q : Value → World → Prop) : ev Try.prog Try.f35.ntmps callable [(7, [(6, .slice none 0 0), (7, .int .i64 0)], [0, 4, 5])] [] (Try.f35.body.getD .skip) (enumE 0 [(.string page_)]) w (KQ Try.prog Try.f35.results.toList Q) = W.ref33_Compress page_ w Q := by kernel_rfl
theorem C.ref33_Compress (page_ : ByteArray) (w : World) (Q : Value → World → Prop) (h : W.ref33_Compress page_ w Q) : CallE Try.prog 35 #[(.string page_)] w Q :=
  calls_of_ev mixed callable_ok (args := [(.string page_)]) Try.func35 rfl ((E.ref33_Compress page_ w Q).symm ▸ h)

def W.image_decodeBody_k15 (p4 : Option Addr) (p4n : Nat) (p4c : Nat) (w : World) (Q : Value → World → Prop) : Prop :=
  CallE Try.prog 33 #[(.slice p4 p4n p4c)] w fun v1 w2 => fB v1 fun b3 =>
  Q (.tuple #[(.slice p4 p4n p4c), (.bool b3)]) w2
def W.image_decodeBody (body_ : ByteArray) (w : World) (Q : Value → World → Prop) : Prop :=
  LoopW (S := ByteArray × (Option Addr × Nat × Nat) × Unit) (fun s4 w5 next6 =>
  br (decide ((((s4.1.size : Nat) : Int) : Int) > 0)) (br (decide ((((s4.1.size : Nat) : Int) : Int) < 6)) (Q (.tuple #[(.slice none 0 0), (.bool false)]) w5) (br ((((s4.2.1.2.1 : Nat) : Int) : Int) == 512) (Q (.tuple #[(.slice none 0 0), (.bool false)]) w5) (rq Try.prog (Instr.sliceAt 9 (.string s4.1) none (some (.int .i64 4)) none) w5 fun v7 => fT v7 fun t8 =>
  CallE Try.prog 29 #[(.string t8)] w5 fun v9 w10 => fI .u64 v9 fun x11 =>
  rq Try.prog (Instr.sliceAt 9 (.string s4.1) (some (.int .i64 4)) (some (.int .i64 6)) none) w10 fun v12 => fT v12 fun t13 =>
  CallE Try.prog 29 #[(.string t13)] w10 fun v14 w15 => fI .u64 v14 fun x16 =>
  rq Try.prog (Instr.sliceAt 9 (.string s4.1) (some (.int .i64 6)) none none) w15 fun v17 => fT v17 fun t18 =>
  br (decide ((x11 : Int) > 2147483647)) (Q (.tuple #[(.slice none 0 0), (.bool false)]) w15) (br (decide (((IntKind.wrap .i64 x16) : Int) > ((t18.size : Nat) : Int))) (Q (.tuple #[(.slice none 0 0), (.bool false)]) w15) (rq Try.prog (Instr.sliceAt 9 (.string t18) none (some (.int .i64 (IntKind.wrap .i64 x16))) none) w15 fun v19 => fT v19 fun t20 =>
  CallE Try.prog 47 #[(.string t20)] w15 fun v21 w22 => ∃ (t23 : ByteArray) (x24 : Int), v21 = .tuple #[(.string t23), (.int .i64 x24)] ∧
  br ((x24 : Int) != 0) (Q (.tuple #[(.slice none 0 0), (.bool false)]) w22) (rq Try.prog (Instr.sliceAt 9 (.string t18) (some (.int .i64 (IntKind.wrap .i64 x16))) none none) w22 fun v25 => fT v25 fun t26 =>
  al 52 #[(.int .i64 (IntKind.wrap .i64 x11)), (.string t23)] w22 fun a28 w27 =>
  rv Try.prog (Builtin.append_ #[43, 43] 43 #[(.slice s4.2.1.1 s4.2.1.2.1 s4.2.1.2.2), (.slice (some a28) 1 1)]) w27 fun v29 w30 => fS v29 fun l31 l31n l31c =>
  next6 (t26, (l31, l31n, l31c), ()) w30)))))) (W.image_decodeBody_k15 s4.2.1.1 s4.2.1.2.1 s4.2.1.2.2 w5 Q)) (body_, (none, 0, 0), ()) w
theorem E.image_decodeBody (body_ : ByteArray) (w : World) (Q : Value → World → Prop) : ev Try.prog Try.f37.ntmps callable [(2, [(0, .string ⟨#[]⟩), (4, .slice none 0 0)], [])] [] (Try.f37.body.getD .skip) (enumE 0 [(.string body_)]) w (KQ Try.prog Try.f37.results.toList Q) = W.image_decodeBody body_ w Q := by kernel_rfl
theorem C.image_decodeBody (body_ : ByteArray) (w : World) (Q : Value → World → Prop) (h : W.image_decodeBody body_ w Q) : CallE Try.prog 37 #[(.string body_)] w Q :=
  calls_of_ev mixed callable_ok (args := [(.string body_)]) Try.func37 rfl ((E.image_decodeBody body_ w Q).symm ▸ h)

def W.help_Equal_api_Page_ (a_ : Option Addr) (a_n : Nat) (a_c : Nat) (b_ : Option Addr) (b_n : Nat) (b_c : Nat) (w : World) (Q : Value → World → Prop) : Prop :=
  br ((((a_n : Nat) : Int) : Int) != ((b_n : Nat) : Int)) (Q (.bool false) w) (LoopW (S := Int × Unit) (fun s1 w2 next3 =>
  br (decide ((s1.1 : Int) < ((a_n : Nat) : Int))) (dr w2 fun w4 =>
  rq Try.prog (Instr.indexAt 43 (.slice a_ a_n a_c) (.int .i64 s1.1)) w4 fun v5 => fA v5 fun a6 =>
  ld Try.prog 52 a6 w4 fun v7 => fG v7 fun g8 =>
  rq Try.prog (Instr.indexAt 43 (.slice b_ b_n b_c) (.int .i64 s1.1)) w4 fun v9 => fA v9 fun a10 =>
  ld Try.prog 52 a10 w4 fun v11 => fG v11 fun g12 =>
  rq Try.prog (do eqGuard .neq 52 (.tmp 20) (.tmp 24) (.agg g8) (.agg g12); binOp .neq 52 (.agg g8) (.agg g12)) w4 fun v13 => fB v13 fun b14 =>
  br b14 (Q (.bool false) w4) (next3 (((IntKind.wrap .i64 (s1.1 + 1)) : Int), ()) w4)) (Q (.bool true) w2)) ((0 : Int), ()) w)
theorem E.help_Equal_api_Page_ (a_ : Option Addr) (a_n : Nat) (a_c : Nat) (b_ : Option Addr) (b_n : Nat) (b_c : Nat) (w : World) (Q : Value → World → Prop) : ev Try.prog Try.f38.ntmps callable [(4, [(5, .int .i64 0)], [0, 1])] [] (Try.f38.body.getD .skip) (enumE 0 [(.slice a_ a_n a_c), (.slice b_ b_n b_c)]) w (KQ Try.prog Try.f38.results.toList Q) = W.help_Equal_api_Page_ a_ a_n a_c b_ b_n b_c w Q := by kernel_rfl
theorem C.help_Equal_api_Page_ (a_ : Option Addr) (a_n : Nat) (a_c : Nat) (b_ : Option Addr) (b_n : Nat) (b_c : Nat) (w : World) (Q : Value → World → Prop) (h : W.help_Equal_api_Page_ a_ a_n a_c b_ b_n b_c w Q) : CallE Try.prog 38 #[(.slice a_ a_n a_c), (.slice b_ b_n b_c)] w Q :=
  calls_of_ev mixed callable_ok (args := [(.slice a_ a_n a_c), (.slice b_ b_n b_c)]) Try.func38 rfl ((E.help_Equal_api_Page_ a_ a_n a_c b_ b_n b_c w Q).symm ▸ h)

def W.internal_stringslite_HasPrefix (s_ : ByteArray) (prefix_ : ByteArray) (w : World) (Q : Value → World → Prop) : Prop :=
  br (decide ((((s_.size : Nat) : Int) : Int) ≥ ((prefix_.size : Nat) : Int))) (rq Try.prog (Instr.sliceAt 9 (.string s_) none (some (.int .i64 ((prefix_.size : Nat) : Int))) none) w fun v1 => fT v1 fun t2 =>
  rq Try.prog (do eqGuard .eql 9 (.tmp 14) (.tmp 15) (.string t2) (.string prefix_); binOp .eql 9 (.string t2) (.string prefix_)) w fun v3 => fB v3 fun b4 =>
  Q (.bool b4) w) (Q (.bool false) w)
theorem E.internal_stringslite_HasPrefix (s_ : ByteArray) (prefix_ : ByteArray) (w : World) (Q : Value → World → Prop) : ev Try.prog Try.f39.ntmps callable [] [] (Try.f39.body.getD .skip) (enumE 0 [(.string s_), (.string prefix_)]) w (KQ Try.prog Try.f39.results.toList Q) = W.internal_stringslite_HasPrefix s_ prefix_ w Q := by kernel_rfl
theorem C.internal_stringslite_HasPrefix (s_ : ByteArray) (prefix_ : ByteArray) (w : World) (Q : Value → World → Prop) (h : W.internal_stringslite_HasPrefix s_ prefix_ w Q) : CallE Try.prog 39 #[(.string s_), (.string prefix_)] w Q :=
  calls_of_ev mixed callable_ok (args := [(.string s_), (.string prefix_)]) Try.func39 rfl ((E.internal_stringslite_HasPrefix s_ prefix_ w Q).symm ▸ h)

def W.pagezip_wordAt (s_ : ByteArray) (w : World) (Q : Value → World → Prop) : Prop :=
  dr w fun w1 =>
  rq Try.prog (Instr.index 9 (.string s_) (.int .i64 0)) w1 fun v2 => fI .u8 v2 fun x3 =>
  rq Try.prog (Instr.index 9 (.string s_) (.int .i64 1)) w1 fun v4 => fI .u8 v4 fun x5 =>
  rq Try.prog (Instr.index 9 (.string s_) (.int .i64 2)) w1 fun v6 => fI .u8 v6 fun x7 =>
  rq Try.prog (Instr.index 9 (.string s_) (.int .i64 3)) w1 fun v8 => fI .u8 v8 fun x9 =>
  Q (.int .u32 (bor .u32 (bor .u32 (bor .u32 (IntKind.wrap .u32 x3) (IntKind.wrap .u32 ((IntKind.wrap .u32 x5) * 2 ^ 8))) (IntKind.wrap .u32 ((IntKind.wrap .u32 x7) * 2 ^ 16))) (IntKind.wrap .u32 ((IntKind.wrap .u32 x9) * 2 ^ 24)))) w1
theorem E.pagezip_wordAt (s_ : ByteArray) (w : World) (Q : Value → World → Prop) : ev Try.prog Try.f40.ntmps callable [] [] (Try.f40.body.getD .skip) (enumE 0 [(.string s_)]) w (KQ Try.prog Try.f40.results.toList Q) = W.pagezip_wordAt s_ w Q := by kernel_rfl
theorem C.pagezip_wordAt (s_ : ByteArray) (w : World) (Q : Value → World → Prop) (h : W.pagezip_wordAt s_ w Q) : CallE Try.prog 40 #[(.string s_)] w Q :=
  calls_of_ev mixed callable_ok (args := [(.string s_)]) Try.func40 rfl ((E.pagezip_wordAt s_ w Q).symm ▸ h)

def W.pagezip_dictionary_tag (d_ : Addr) (w_ : Int) (w : World) (Q : Value → World → Prop) : Prop :=
  drawE fun S1 => S1 (drew w) ∧ (CallE Try.prog 42 #[(.int .u32 w_)] (drew w) fun v2 w3 => fI .i64 v2 fun x4 =>
  S1 w3 ∧ (rqS Try.prog S1 (Instr.indexAt 78 (.pointer (some d_)) (.int .i64 x4)) fun v5 => fA v5 fun a6 =>
  ldS Try.prog S1 23 a6 fun v7 => fI .u32 v7 fun x8 =>
  br ((w_ : Int) == 0) (Q (.int .i64 0) w3) (br ((w_ : Int) == x8) (Q (.int .i64 1) w3) (br (((Int.fdiv w_ (2 ^ 16)) : Int) == (Int.fdiv x8 (2 ^ 16))) (Q (.int .i64 2) w3) (Q (.int .i64 3) w3)))))
theorem E.pagezip_dictionary_tag (d_ : Addr) (w_ : Int) (w : World) (Q : Value → World → Prop) : ev Try.prog Try.f41.ntmps callable [] [] (Try.f41.body.getD .skip) (enumE 0 [(.pointer (some d_)), (.int .u32 w_)]) w (KQ Try.prog Try.f41.results.toList Q) = W.pagezip_dictionary_tag d_ w_ w Q := by kernel_rfl
theorem C.pagezip_dictionary_tag (d_ : Addr) (w_ : Int) (w : World) (Q : Value → World → Prop) (h : W.pagezip_dictionary_tag d_ w_ w Q) : CallE Try.prog 41 #[(.pointer (some d_)), (.int .u32 w_)] w Q :=
  calls_of_ev mixed callable_ok (args := [(.pointer (some d_)), (.int .u32 w_)]) Try.func41 rfl ((E.pagezip_dictionary_tag d_ w_ w Q).symm ▸ h)

def W.pagezip_slotOf (w_ : Int) (w : World) (Q : Value → World → Prop) : Prop :=
  Q (.int .i64 (Int.tmod (IntKind.wrap .i64 (Int.fdiv w_ (2 ^ 16))) 16)) w
theorem E.pagezip_slotOf (w_ : Int) (w : World) (Q : Value → World → Prop) : ev Try.prog Try.f42.ntmps callable [] [] (Try.f42.body.getD .skip) (enumE 0 [(.int .u32 w_)]) w (KQ Try.prog Try.f42.results.toList Q) = W.pagezip_slotOf w_ w Q := by kernel_rfl
theorem C.pagezip_slotOf (w_ : Int) (w : World) (Q : Value → World → Prop) (h : W.pagezip_slotOf w_ w Q) : CallE Try.prog 42 #[(.int .u32 w_)] w Q :=
  calls_of_ev mixed callable_ok (args := [(.int .u32 w_)]) Try.func42 rfl ((E.pagezip_slotOf w_ w Q).symm ▸ h)

def W.pagezip_dictionary_learn (d_ : Addr) (w_ : Int) (w : World) (Q : Value → World → Prop) : Prop :=
  br ((w_ : Int) != 0) (drawE fun S1 => S1 (drew w) ∧ (CallE Try.prog 42 #[(.int .u32 w_)] (drew w) fun v2 w3 => fI .i64 v2 fun x4 =>
  S1 w3 ∧ (rqS Try.prog S1 (Instr.indexAt 78 (.pointer (some d_)) (.int .i64 x4)) fun v5 => fA v5 fun a6 =>
  st Try.prog 23 a6 (.int .u32 w_) w3 fun w7 =>
  S1 w7 ∧ (Q (.tuple #[]) w7)))) (Q (.tuple #[]) w)
theorem E.pagezip_dictionary_learn (d_ : Addr) (w_ : Int) (w : World) (Q : Value → World → Prop) : ev Try.prog Try.f43.ntmps callable [] [] (Try.f43.body.getD .skip) (enumE 0 [(.pointer (some d_)), (.int .u32 w_)]) w (KQ Try.prog Try.f43.results.toList Q) = W.pagezip_dictionary_learn d_ w_ w Q := by kernel_rfl
theorem C.pagezip_dictionary_learn (d_ : Addr) (w_ : Int) (w : World) (Q : Value → World → Prop) (h : W.pagezip_dictionary_learn d_ w_ w Q) : CallE Try.prog 43 #[(.pointer (some d_)), (.int .u32 w_)] w Q :=
  calls_of_ev mixed callable_ok (args := [(.pointer (some d_)), (.int .u32 w_)]) Try.func43 rfl ((E.pagezip_dictionary_learn d_ w_ w Q).symm ▸ h)

def W.strings_Builder_WriteString (b_ : Addr) (s_ : ByteArray) (w : World) (Q : Value → World → Prop) : Prop :=
  CallE Try.prog 48 #[(.pointer (some b_))] w fun v1 w2 => v1 = .tuple #[] ∧
  ld Try.prog 26 (b_.add 1) w2 fun v3 => fS v3 fun l4 l4n l4c =>
  rv Try.prog (Builtin.append_ #[26, 9] 26 #[(.slice l4 l4n l4c), (.string s_)]) w2 fun v5 w6 => fS v5 fun l7 l7n l7c =>
  st Try.prog 26 (b_.add 1) (.slice l7 l7n l7c) w6 fun w8 =>
  Q (.tuple #[(.int .i64 ((s_.size : Nat) : Int)), .nilIface]) w8
theorem E.strings_Builder_WriteString (b_ : Addr) (s_ : ByteArray) (w : World) (Q : Value → World → Prop) : ev Try.prog Try.f45.ntmps callable [] [] (Try.f45.body.getD .skip) (enumE 0 [(.pointer (some b_)), (.string s_)]) w (KQ Try.prog Try.f45.results.toList Q) = W.strings_Builder_WriteString b_ s_ w Q := by kernel_rfl
theorem C.strings_Builder_WriteString (b_ : Addr) (s_ : ByteArray) (w : World) (Q : Value → World → Prop) (h : W.strings_Builder_WriteString b_ s_ w Q) : CallE Try.prog 45 #[(.pointer (some b_)), (.string s_)] w Q :=
  calls_of_ev mixed callable_ok (args := [(.pointer (some b_)), (.string s_)]) Try.func45 rfl ((E.strings_Builder_WriteString b_ s_ w Q).symm ▸ h)

def W.strings_Builder_String (b_ : Addr) (w : World) (Q : Value → World → Prop) : Prop :=
  drawE fun S1 => S1 (drew w) ∧ (ldS Try.prog S1 26 (b_.add 1) fun v2 => fS v2 fun l3 l3n l3c =>
  ldS Try.prog S1 26 (b_.add 1) fun v4 => fS v4 fun l5 l5n l5c =>
  rv Try.prog (Builtin.unsafeSliceData_ #[26] 92 #[(.slice l3 l3n l3c)]) (drew w) fun v6 w7 => fP v6 fun p8 =>
  S1 w7 ∧ (rv Try.prog (Builtin.unsafeString_ #[92, 3] 9 #[(.pointer p8), (.int .i64 ((l5n : Nat) : Int))]) w7 fun v9 w10 => fT v9 fun t11 =>
  S1 w10 ∧ (Q (.string t11) w10)))
theorem E.strings_Builder_String (b_ : Addr) (w : World) (Q : Value → World → Prop) : ev Try.prog Try.f46.ntmps callable [] [] (Try.f46.body.getD .skip) (enumE 0 [(.pointer (some b_))]) w (KQ Try.prog Try.f46.results.toList Q) = W.strings_Builder_String b_ w Q := by kernel_rfl
theorem C.strings_Builder_String (b_ : Addr) (w : World) (Q : Value → World → Prop) (h : W.strings_Builder_String b_ w Q) : CallE Try.prog 46 #[(.pointer (some b_))] w Q :=
  calls_of_ev mixed callable_ok (args := [(.pointer (some b_))]) Try.func46 rfl ((E.strings_Builder_String b_ w Q).symm ▸ h)

def W.pagezip_Decompress (s_ : ByteArray) (w : World) (Q : Value → World → Prop) : Prop :=
  CallE Try.prog 50 #[(.string s_)] w fun v1 w2 => ∃ (t3 : ByteArray) (b4 : Bool), v1 = .tuple #[(.string t3), (.bool b4)] ∧
  br (!b4) (Q (.tuple #[(.string ⟨#[]⟩), (.int .i64 3)]) w2) (CallE Try.prog 34 #[(.string t3)] w2 fun v5 w6 => ∃ (t7 : ByteArray) (x8 : Int), v5 = .tuple #[(.string t7), (.int .i64 x8)] ∧
  br ((x8 : Int) != 0) (Q (.tuple #[(.string ⟨#[]⟩), (.int .i64 3)]) w6) (rq Try.prog (do eqGuard .neq 9 (.tmp 23) (.tmp 24) (.string t7) (.string s_); binOp .neq 9 (.string t7) (.string s_)) w6 fun v9 => fB v9 fun b10 =>
  br b10 (Q (.tuple #[(.string ⟨#[]⟩), (.int .i64 3)]) w6) (Q (.tuple #[(.string t3), (.int .i64 0)]) w6)))
theorem E.pagezip_Decompress (s_ : ByteArray) (w : World) (Q : Value → World → Prop) : ev Try.prog Try.f47.ntmps callable [] [] (Try.f47.body.getD .skip) (enumE 0 [(.string s_)]) w (KQ Try.prog Try.f47.results.toList Q) = W.pagezip_Decompress s_ w Q := by kernel_rfl
theorem C.pagezip_Decompress (s_ : ByteArray) (w : World) (Q : Value → World → Prop) (h : W.pagezip_Decompress s_ w Q) : CallE Try.prog 47 #[(.string s_)] w Q :=
  calls_of_ev mixed callable_ok (args := [(.string s_)]) Try.func47 rfl ((E.pagezip_Decompress s_ w Q).symm ▸ h)

def W.strings_Builder_copyCheck (b_ : Addr) (w : World) (Q : Value → World → Prop) : Prop :=
  ld Try.prog 82 (b_.add 0) w fun v1 => fP v1 fun p2 =>
  rq Try.prog (do eqGuard .eql 82 (.tmp 5) (.const (.pointer none)) (.pointer p2) (.pointer none); binOp .eql 82 (.pointer p2) (.pointer none)) w fun v3 => fB v3 fun b4 =>
  br b4 (rv Try.prog (convert 82 95 (.pointer (some b_))) w fun v5 w6 => fP v5 fun p7 =>
  rv Try.prog (convert 95 82 (.pointer p7)) w6 fun v8 w9 => fP v8 fun p10 =>
  st Try.prog 82 (b_.add 0) (.pointer p10) w9 fun w11 =>
  Q (.tuple #[]) w11) (ld Try.prog 82 (b_.add 0) w fun v12 => fP v12 fun p13 =>
  rq Try.prog (do eqGuard .neq 82 (.tmp 17) (.tmp 18) (.pointer p13) (.pointer (some b_)); binOp .neq 82 (.pointer p13) (.pointer (some b_))) w fun v14 => fB v14 fun b15 =>
  br b15 (False) (Q (.tuple #[]) w))
theorem E.strings_Builder_copyCheck (b_ : Addr) (w : World) (Q : Value → World → Prop) : ev Try.prog Try.f48.ntmps callable [] [] (Try.f48.body.getD .skip) (enumE 0 [(.pointer (some b_))]) w (KQ Try.prog Try.f48.results.toList Q) = W.strings_Builder_copyCheck b_ w Q := by kernel_rfl
theorem C.strings_Builder_copyCheck (b_ : Addr) (w : World) (Q : Value → World → Prop) (h : W.strings_Builder_copyCheck b_ w Q) : CallE Try.prog 48 #[(.pointer (some b_))] w Q :=
  calls_of_ev mixed callable_ok (args := [(.pointer (some b_))]) Try.func48 rfl ((E.strings_Builder_copyCheck b_ w Q).symm ▸ h)

def W.pagezip_expand_k19 (p5 : ByteArray) (p7 : Addr) (w : World) (Q : Value → World → Prop) : Prop :=
  CallE Try.prog 46 #[(.pointer (some p7))] w fun v12 w13 => fT v12 fun t14 =>
  rq Try.prog (do eqGuard .eql 9 (.tmp 82) (.const (.string ⟨#[]⟩)) (.string p5) (.string ⟨#[]⟩); binOp .eql 9 (.string p5) (.string ⟨#[]⟩)) w13 fun v15 => fB v15 fun b16 =>
  Q (.tuple #[(.string t14), (.bool b16)]) w13
def W.pagezip_expand_k3 (p0 : ByteArray) (w : World) (Q : Value → World → Prop) : Prop :=
  br (decide ((((p0.size : Nat) : Int) : Int) < 17)) (Q (.tuple #[(.string ⟨#[]⟩), (.bool false)]) w) (br (decide ((((p0.size : Nat) : Int) : Int) > 256)) (Q (.tuple #[(.string ⟨#[]⟩), (.bool false)]) w) (rq Try.prog (Instr.index 9 (.string p0) (.int .i64 0)) w fun v1 => fI .u8 v1 fun x2 =>
  br ((x2 : Int) != 1) (Q (.tuple #[(.string ⟨#[]⟩), (.bool false)]) w) (dr w fun w3 =>
  rq Try.prog (Instr.sliceAt 9 (.string p0) (some (.int .i64 1)) (some (.int .i64 17)) none) w3 fun v4 => fT v4 fun t5 =>
  rq Try.prog (Instr.sliceAt 9 (.string p0) (some (.int .i64 17)) none none) w3 fun v6 => fT v6 fun t7 =>
  al 78 (zeroT Try.prog 78).cells w3 fun a9 w8 =>
  al 84 (zeroT Try.prog 84).cells w8 fun a11 w10 =>
  LoopW (S := ByteArray × Int × Unit) (fun s17 w18 next19 =>
  br (decide ((s17.2.1 : Int) < 64)) (rq Try.prog (Instr.index 9 (.string t5) (.int .i64 (IntKind.wrap .i64 (Int.tdiv s17.2.1 4)))) w18 fun v20 => fI .u8 v20 fun x21 =>
  rq Try.prog (do eqGuard .shr 5 (.tmp 46) (.tmp 49) (.int .u8 x21) (.int .i64 (IntKind.wrap .i64 (2 * (Int.tmod s17.2.1 4)))); binOp .shr 5 (.int .u8 x21) (.int .i64 (IntKind.wrap .i64 (2 * (Int.tmod s17.2.1 4))))) w18 fun v22 => fI .u8 v22 fun x23 =>
  CallE Try.prog 53 #[(.pointer (some a9)), (.int .i64 (band .i64 (IntKind.wrap .i64 x23) 3)), (.string s17.1)] w18 fun v24 w25 => ∃ (x26 : Int) (x27 : Int) (b28 : Bool), v24 = .tuple #[(.int .u32 x26), (.int .i64 x27), (.bool b28)] ∧
  br (!b28) (Q (.tuple #[(.string ⟨#[]⟩), (.bool false)]) w25) (rq Try.prog (Instr.sliceAt 9 (.string s17.1) (some (.int .i64 x27)) none none) w25 fun v29 => fT v29 fun t30 =>
  CallE Try.prog 43 #[(.pointer (some a9)), (.int .u32 x26)] w25 fun v31 w32 => v31 = .tuple #[] ∧
  al 5 #[(.int .u8 (IntKind.wrap .u8 x26)), (.int .u8 (IntKind.wrap .u8 (Int.fdiv x26 (2 ^ 8)))), (.int .u8 (IntKind.wrap .u8 (Int.fdiv x26 (2 ^ 16)))), (.int .u8 (IntKind.wrap .u8 (Int.fdiv x26 (2 ^ 24))))] w32 fun a34 w33 =>
  CallE Try.prog 54 #[(.pointer (some a11)), (.slice (some a34) 4 4)] w33 fun v35 w36 => ∃ (x37 : Int) (v38 : Value), v35 = .tuple #[(.int .i64 x37), v38] ∧
  next19 (t30, ((IntKind.wrap .i64 (s17.2.1 + 1)) : Int), ()) w36)) (W.pagezip_expand_k19 s17.1 a11 w18 Q)) (t7, (0 : Int), ()) w10)))
def W.pagezip_expand (s_ : ByteArray) (w : World) (Q : Value → World → Prop) : Prop :=
  br ((((s_.size : Nat) : Int) : Int) == 257) (rq Try.prog (Instr.index 9 (.string s_) (.int .i64 0)) w fun v39 => fI .u8 v39 fun x40 =>
  br ((x40 : Int) == 0) (rq Try.prog (Instr.sliceAt 9 (.string s_) (some (.int .i64 1)) none none) w fun v41 => fT v41 fun t42 =>
  Q (.tuple #[(.string t42), (.bool true)]) w) (W.pagezip_expand_k3 s_ w Q)) (W.pagezip_expand_k3 s_ w Q)
theorem E.pagezip_expand (s_ : ByteArray) (w : World) (Q : Value → World → Prop) : ev Try.prog Try.f50.ntmps callable [(9, [(5, .string ⟨#[]⟩), (40, .int .i64 0)], [4, 6, 7])] [] (Try.f50.body.getD .skip) (enumE 0 [(.string s_)]) w (KQ Try.prog Try.f50.results.toList Q) = W.pagezip_expand s_ w Q := by kernel_rfl
theorem C.pagezip_expand (s_ : ByteArray) (w : World) (Q : Value → World → Prop) (h : W.pagezip_expand s_ w Q) : CallE Try.prog 50 #[(.string s_)] w Q :=
  calls_of_ev mixed callable_ok (args := [(.string s_)]) Try.func50 rfl ((E.pagezip_expand s_ w Q).symm ▸ h)

def W.pagezip_dictionary_decode_k9 (p0 : Addr) (p1 : Int) (p2 : ByteArray) (p9 : Int) (w : World) (Q : Value → World → Prop) : Prop :=
  br (decide ((((p2.size : Nat) : Int) : Int) < p9)) (Q (.tuple #[(.int .u32 0), (.int .i64 0), (.bool false)]) w) (br ((p1 : Int) == 0) (Q (.tuple #[(.int .u32 0), (.int .i64 0), (.bool true)]) w) (br ((p1 : Int) == 3) (CallE Try.prog 40 #[(.string p2)] w fun v1 w2 => fI .u32 v1 fun x3 =>
  Q (.tuple #[(.int .u32 x3), (.int .i64 p9), (.bool true)]) w2) (rq Try.prog (Instr.index 9 (.string p2) (.int .i64 0)) w fun v4 => fI .u8 v4 fun x5 =>
  br (decide ((x5 : Int) ≥ 16)) (Q (.tuple #[(.int .u32 0), (.int .i64 0), (.bool false)]) w) (dr w fun w6 =>
  rq Try.prog (Instr.index 9 (.string p2) (.int .i64 0)) w6 fun v7 => fI .u8 v7 fun x8 =>
  rq Try.prog (Instr.indexAt 78 (.pointer (some p0)) (.int .u8 x8)) w6 fun v9 => fA v9 fun a10 =>
  ld Try.prog 23 a10 w6 fun v11 => fI .u32 v11 fun x12 =>
  br ((p1 : Int) == 2) (dr w6 fun w13 =>
  rq Try.prog (Instr.index 9 (.string p2) (.int .i64 1)) w13 fun v14 => fI .u8 v14 fun x15 =>
  rq Try.prog (Instr.index 9 (.string p2) (.int .i64 2)) w13 fun v16 => fI .u8 v16 fun x17 =>
  Q (.tuple #[(.int .u32 (bor .u32 (bor .u32 (band .u32 x12 4294901760) (IntKind.wrap .u32 x15)) (IntKind.wrap .u32 ((IntKind.wrap .u32 x17) * 2 ^ 8)))), (.int .i64 p9), (.bool true)]) w13) (Q (.tuple #[(.int .u32 x12), (.int .i64 p9), (.bool true)]) w6)))))
def W.pagezip_dictionary_decode (d_ : Addr) (tag_ : Int) (s_ : ByteArray) (w : World) (Q : Value → World → Prop) : Prop :=
  br ((tag_ : Int) == 1) (W.pagezip_dictionary_decode_k9 d_ tag_ s_ 1 w Q) (br ((tag_ : Int) == 2) (W.pagezip_dictionary_decode_k9 d_ tag_ s_ 3 w Q) (br ((tag_ : Int) == 3) (W.pagezip_dictionary_decode_k9 d_ tag_ s_ 4 w Q) (W.pagezip_dictionary_decode_k9 d_ tag_ s_ 0 w Q)))
theorem E.pagezip_dictionary_decode (d_ : Addr) (tag_ : Int) (s_ : ByteArray) (w : World) (Q : Value → World → Prop) : ev Try.prog Try.f53.ntmps callable [] [] (Try.f53.body.getD .skip) (enumE 0 [(.pointer (some d_)), (.int .i64 tag_), (.string s_)]) w (KQ Try.prog Try.f53.results.toList Q) = W.pagezip_dictionary_decode d_ tag_ s_ w Q := by kernel_rfl
theorem C.pagezip_dictionary_decode (d_ : Addr) (tag_ : Int) (s_ : ByteArray) (w : World) (Q : Value → World → Prop) (h : W.pagezip_dictionary_decode d_ tag_ s_ w Q) : CallE Try.prog 53 #[(.pointer (some d_)), (.int .i64 tag_), (.string s_)] w Q :=
  calls_of_ev mixed callable_ok (args := [(.pointer (some d_)), (.int .i64 tag_), (.string s_)]) Try.func53 rfl ((E.pagezip_dictionary_decode d_ tag_ s_ w Q).symm ▸ h)

def W.strings_Builder_Write (b_ : Addr) (p_ : Option Addr) (p_n : Nat) (p_c : Nat) (w : World) (Q : Value → World → Prop) : Prop :=
  CallE Try.prog 48 #[(.pointer (some b_))] w fun v1 w2 => v1 = .tuple #[] ∧
  ld Try.prog 26 (b_.add 1) w2 fun v3 => fS v3 fun l4 l4n l4c =>
  rv Try.prog (Builtin.append_ #[26, 26] 26 #[(.slice l4 l4n l4c), (.slice p_ p_n p_c)]) w2 fun v5 w6 => fS v5 fun l7 l7n l7c =>
  st Try.prog 26 (b_.add 1) (.slice l7 l7n l7c) w6 fun w8 =>
  Q (.tuple #[(.int .i64 ((p_n : Nat) : Int)), .nilIface]) w8
theorem E.strings_Builder_Write (b_ : Addr) (p_ : Option Addr) (p_n : Nat) (p_c : Nat) (w : World) (Q : Value → World → Prop) : ev Try.prog Try.f54.ntmps callable [] [] (Try.f54.body.getD .skip) (enumE 0 [(.pointer (some b_)), (.slice p_ p_n p_c)]) w (KQ Try.prog Try.f54.results.toList Q) = W.strings_Builder_Write b_ p_ p_n p_c w Q := by kernel_rfl
theorem C.strings_Builder_Write (b_ : Addr) (p_ : Option Addr) (p_n : Nat) (p_c : Nat) (w : World) (Q : Value → World → Prop) (h : W.strings_Builder_Write b_ p_ p_n p_c w Q) : CallE Try.prog 54 #[(.pointer (some b_)), (.slice p_ p_n p_c)] w Q :=
  calls_of_ev mixed callable_ok (args := [(.pointer (some b_)), (.slice p_ p_n p_c)]) Try.func54 rfl ((E.strings_Builder_Write b_ p_ p_n p_c w Q).symm ▸ h)
end Go.Proofs.Ytpgekajgbkbpkaa
