/- The conditions of the functions of this translation, written out by a program; each is an equation that the kernel checks. No condition. -/
import Derived.Test.YtdfjakdgclbleaaEng
import Derived.Test.YtdfjakdgclbleaaChecked
import Derived.Test.YtdfjakdgclbleaaW0
set_option maxRecDepth 100000
set_option linter.unusedVariables false
namespace Go.Proofs.Ytdfjakdgclbleaa
open Go Go.Ev Go.Proofs
def W.law29_WakeupCallsAgree_k19 (w : World) (Q : Value → World → Prop) : Prop :=
  CallE Try.prog 10 #[] w fun v25 w26 => fB v25 fun b27 =>
  Q (.bool b27) w26
def W.law29_WakeupCallsAgree_k14 (p1 : Option Addr) (p1n : Nat) (p1c : Nat) (p9 : Int) (p10 : Option Addr) (p12 : Option Addr) (p14 : Int) (p15 : Addr) (next30 : (Int × Unit) → World → Prop) (w : World) (Q : Value → World → Prop) : Prop :=
  drawE fun S31 => S31 (drew w) ∧ (rqS Try.prog S31 (Instr.indexAt 22 (.slice p1 p1n p1c) (.int .i64 p14)) fun v32 => fA v32 fun a33 =>
  ldS Try.prog S31 3 (a33.add 0) fun v34 => fI .i64 v34 fun x35 =>
  ldS Try.prog S31 34 p15 fun v36 => fG v36 fun g37 =>
  rqS Try.prog S31 (Instr.indexAt 22 (.slice p1 p1n p1c) (.int .i64 p14)) fun v38 => fA v38 fun a39 =>
  ldS Try.prog S31 3 (a39.add 0) fun v40 => fI .i64 v40 fun x41 =>
  ldS Try.prog S31 34 p15 fun v42 => fG v42 fun g43 =>
  CallE Try.prog 15 #[(.pointer p10), (.int .i64 x35), (.agg g37)] (drew w) fun v44 w45 => fI .i64 v44 fun x46 =>
  S31 w45 ∧ (CallE Try.prog 16 #[(.pointer p12), (.int .i64 x41), (.agg g43)] w45 fun v47 w48 => fI .i64 v47 fun x49 =>
  S31 w48 ∧ (CallE Try.prog 17 #[(.pointer p10)] w48 fun v50 w51 => ∃ (x52 : Int) (x53 : Int), v50 = .tuple #[(.int .i64 x52), (.int .i64 x53)] ∧
  CallE Try.prog 18 #[(.pointer p12)] w51 fun v54 w55 => ∃ (x56 : Int) (x57 : Int), v54 = .tuple #[(.int .i64 x56), (.int .i64 x57)] ∧
  br ((x46 : Int) != x49) (Q (.bool false) w55) (br ((x52 : Int) != x56) (Q (.bool false) w55) (br ((x53 : Int) != x57) (Q (.bool false) w55) (CallE Try.prog 19 #[(.pointer p10)] w55 fun v58 w59 => fB v58 fun b60 =>
  CallE Try.prog 20 #[(.pointer p12)] w59 fun v61 w62 => fB v61 fun b63 =>
  br (!(b60 == b63)) (Q (.bool false) w62) (next30 (((IntKind.wrap .i64 (p14 + 1)) : Int), ()) w62)))))))
def W.law29_WakeupCallsAgree (n_ : Int) (l_ : Option Addr) (l_n : Nat) (l_c : Nat) (w : World) (Q : Value → World → Prop) : Prop :=
  br (decide ((((l_n : Nat) : Int) : Int) > 50)) (CallE Try.prog 10 #[] w fun v1 w2 => fB v1 fun b3 =>
  Q (.bool b3) w2) (CallE Try.prog 11 #[(.int .i64 n_)] w fun v4 w5 => ∃ (p6 : Option Addr) (x7 : Int), v4 = .tuple #[(.pointer p6), (.int .i64 x7)] ∧
  CallE Try.prog 12 #[(.int .i64 n_)] w5 fun v8 w9 => ∃ (p10 : Option Addr) (x11 : Int), v8 = .tuple #[(.pointer p10), (.int .i64 x11)] ∧
  CallE Try.prog 13 #[(.int .i64 n_), (.int .i64 5)] w9 fun v12 w13 => fI .i64 v12 fun x14 =>
  CallE Try.prog 11 #[(.int .i64 x14)] w13 fun v15 w16 => ∃ (p17 : Option Addr) (x18 : Int), v15 = .tuple #[(.pointer p17), (.int .i64 x18)] ∧
  CallE Try.prog 12 #[(.int .i64 x14)] w16 fun v19 w20 => ∃ (p21 : Option Addr) (x22 : Int), v19 = .tuple #[(.pointer p21), (.int .i64 x22)] ∧
  br ((x7 : Int) != x11) (Q (.bool false) w20) (br ((x18 : Int) != x22) (Q (.bool false) w20) (br ((x18 : Int) != 0) (Q (.bool false) w20) (rq Try.prog (do eqGuard .eql 24 (.tmp 61) (.const (.pointer none)) (.pointer p17) (.pointer none); binOp .eql 24 (.pointer p17) (.pointer none)) w20 fun v23 => fB v23 fun b24 =>
  br b24 (Q (.bool false) w20) (LoopW (S := Int × Unit) (fun s28 w29 next30 =>
  br (decide ((s28.1 : Int) < ((l_n : Nat) : Int))) (drawE fun S64 => S64 (drew w29) ∧ (rqS Try.prog S64 (Instr.indexAt 22 (.slice l_ l_n l_c) (.int .i64 s28.1)) fun v65 => fA v65 fun a66 =>
  ldS Try.prog S64 36 a66 fun v67 => fG v67 fun g68 =>
  nn p21 fun a69 =>
  ldS Try.prog S64 32 (a69.add 7) fun v70 => fI .u64 v70 fun x71 =>
  nn p21 fun a72 =>
  ldS Try.prog S64 3 (a72.add 4) fun v73 => fI .i64 v73 fun x74 =>
  (CallE Try.prog 14 #[(.agg g68), (.int .i64 x14), (.int .u64 x71), (.int .i64 x74)] (drew w29) fun v75 w76 => fG v75 fun g77 =>
  S64 w76 ∧ (al 34 (zeroT Try.prog 34).cells w76 fun a79 w78 =>
  S64 w78 ∧ (st Try.prog 34 a79 (.agg g77) w78 fun w80 =>
  S64 w80 ∧ (W.law29_WakeupCallsAgree_k14 l_ l_n l_c x14 p17 p21 s28.1 a79 next30 w80 Q)))) ∧ (al 34 (zeroT Try.prog 34).cells (drew w29) fun a82 w81 =>
  S64 w81 ∧ (CallE Try.prog 14 #[(.agg g68), (.int .i64 x14), (.int .u64 x71), (.int .i64 x74)] w81 fun v83 w84 => fG v83 fun g85 =>
  S64 w84 ∧ (st Try.prog 34 a82 (.agg g85) w84 fun w86 =>
  S64 w86 ∧ (W.law29_WakeupCallsAgree_k14 l_ l_n l_c x14 p17 p21 s28.1 a82 next30 w86 Q)))))) (W.law29_WakeupCallsAgree_k19  w29 Q)) ((0 : Int), ()) w20)))))
theorem E.law29_WakeupCallsAgree (n_ : Int) (l_ : Option Addr) (l_n : Nat) (l_c : Nat) (w : World) (Q : Value → World → Prop) : ev Try.prog Try.f3.ntmps callable [(11, [(14, .int .i64 0)], [1, 9, 10, 12])] [] (Try.f3.body.getD .skip) (enumE 0 [(.int .i64 n_), (.slice l_ l_n l_c)]) w (KQ Try.prog Try.f3.results.toList Q) = W.law29_WakeupCallsAgree n_ l_ l_n l_c w Q := by kernel_rfl
theorem C.law29_WakeupCallsAgree (n_ : Int) (l_ : Option Addr) (l_n : Nat) (l_c : Nat) (w : World) (Q : Value → World → Prop) (h : W.law29_WakeupCallsAgree n_ l_ l_n l_c w Q) : CallE Try.prog 3 #[(.int .i64 n_), (.slice l_ l_n l_c)] w Q :=
  calls_of_ev mixed callable_ok (args := [(.int .i64 n_), (.slice l_ l_n l_c)]) Try.func3 rfl ((E.law29_WakeupCallsAgree n_ l_ l_n l_c w Q).symm ▸ h)

def W.law29_WakeupNoEventIsLost_k31 (p14 : Option Addr) (p17 : Int) (p21 : Int) (w : World) (Q : Value → World → Prop) : Prop :=
  CallE Try.prog 25 #[(.pointer p14), (.int .i64 p17), (.int .u64 p21)] w fun v25 w26 => fI .i64 v25 fun x27 =>
  br ((x27 : Int) == 17) (CallE Try.prog 10 #[] w26 fun v28 w29 => fB v28 fun b30 =>
  Q (.bool b30) w29) (Q (.bool false) w26)
def W.law29_WakeupNoEventIsLost_k29 (p2 : Option Addr) (p2n : Nat) (p2c : Nat) (p13 : Int) (p14 : Option Addr) (p17 : Int) (p21 : Int) (p22 : Int) (p23 : Addr) (p24 : Addr) (next33 : (Int × Int × Unit) → World → Prop) (w : World) (Q : Value → World → Prop) : Prop :=
  ld Try.prog 3 (p23.add 0) w fun v50 => fI .i64 v50 fun x51 =>
  CallE Try.prog 13 #[(.int .i64 x51), (.int .i64 9)] w fun v52 w53 => fI .i64 v52 fun x54 =>
  br ((x54 : Int) == 7) (ld Try.prog 3 (p24.add 3) w53 fun v55 => fI .i64 v55 fun x56 =>
  br ((x56 : Int) == p17) (CallE Try.prog 25 #[(.pointer p14), (.int .i64 p17), (.int .u64 p21)] w53 fun v57 w58 => fI .i64 v57 fun x59 =>
  br ((x59 : Int) == 0) (Q (.bool false) w58) (next33 ((p21 : Int), ((IntKind.wrap .i64 (p22 + 1)) : Int), ()) w58)) (next33 ((p21 : Int), ((IntKind.wrap .i64 (p22 + 1)) : Int), ()) w53)) (next33 ((p21 : Int), ((IntKind.wrap .i64 (p22 + 1)) : Int), ()) w53)
def W.law29_WakeupNoEventIsLost_k18 (p2 : Option Addr) (p2n : Nat) (p2c : Nat) (p13 : Int) (p14 : Option Addr) (p15 : Option Addr) (p17 : Int) (p20 : Int) (w : World) (Q : Value → World → Prop) : Prop :=
  br ((p20 : Int) != 0) (Q (.bool false) w) (nn p15 fun a22 =>
  ld Try.prog 32 (a22.add 7) w fun v23 => fI .u64 v23 fun x24 =>
  LoopW (S := Int × Int × Unit) (fun s31 w32 next33 =>
  br (decide ((s31.2.1 : Int) < ((p2n : Nat) : Int))) (rq Try.prog (Instr.indexAt 22 (.slice p2 p2n p2c) (.int .i64 s31.2.1)) w32 fun v34 => fA v34 fun a35 =>
  ld Try.prog 36 a35 w32 fun v36 => fG v36 fun g37 =>
  al 36 (zeroT Try.prog 36).cells w32 fun a39 w38 =>
  st Try.prog 36 a39 (.agg g37) w38 fun w40 =>
  st Try.prog 4 (a39.add 5) (.bool false) w40 fun w41 =>
  ld Try.prog 36 a39 w41 fun v42 => fG v42 fun g43 =>
  CallE Try.prog 14 #[(.agg g43), (.int .i64 p13), (.int .u64 s31.1), (.int .i64 p17)] w41 fun v44 w45 => fG v44 fun g46 =>
  al 34 (zeroT Try.prog 34).cells w45 fun a48 w47 =>
  st Try.prog 34 a48 (.agg g46) w47 fun w49 =>
  ld Try.prog 3 (a39.add 0) w49 fun v60 => fI .i64 v60 fun x61 =>
  ld Try.prog 34 a48 w49 fun v62 => fG v62 fun g63 =>
  CallE Try.prog 15 #[(.pointer p14), (.int .i64 x61), (.agg g63)] w49 fun v64 w65 => fI .i64 v64 fun x66 =>
  br ((x66 : Int) == 0) (ld Try.prog 3 (a39.add 0) w65 fun v67 => fI .i64 v67 fun x68 =>
  CallE Try.prog 13 #[(.int .i64 x68), (.int .i64 9)] w65 fun v69 w70 => fI .i64 v69 fun x71 =>
  br (decide ((x71 : Int) < 8)) (ld Try.prog 32 (a48.add 1) w70 fun v72 => fI .u64 v72 fun x73 =>
  W.law29_WakeupNoEventIsLost_k29 p2 p2n p2c p13 p14 p17 x73 s31.2.1 a39 a48 next33 w70 Q) (W.law29_WakeupNoEventIsLost_k29 p2 p2n p2c p13 p14 p17 s31.1 s31.2.1 a39 a48 next33 w70 Q)) (W.law29_WakeupNoEventIsLost_k29 p2 p2n p2c p13 p14 p17 s31.1 s31.2.1 a39 a48 next33 w65 Q)) (W.law29_WakeupNoEventIsLost_k31 p14 p17 s31.1 w32 Q)) ((x24 : Int), (0 : Int), ()) w)
def W.law29_WakeupNoEventIsLost_k2 (p0 : Int) (p1 : Option Addr) (p1n : Nat) (p1c : Nat) (p2 : Option Addr) (p2n : Nat) (p2c : Nat) (p3 : Int) (p4 : Int) (p5 : Int) (p32 : Bool) (w : World) (Q : Value → World → Prop) : Prop :=
  br p32 (CallE Try.prog 10 #[] w fun v1 w2 => fB v1 fun b3 =>
  Q (.bool b3) w2) (CallE Try.prog 13 #[(.int .i64 p0), (.int .i64 4)] w fun v4 w5 => fI .i64 v4 fun x6 =>
  CallE Try.prog 21 #[(.int .i64 (IntKind.wrap .i64 (1 + x6))), (.slice p1 p1n p1c)] w5 fun v7 w8 => ∃ (p9 : Option Addr) (p10 : Option Addr) (b11 : Bool), v7 = .tuple #[(.pointer p9), (.pointer p10), (.bool b11)] ∧
  br (!b11) (Q (.bool false) w8) (CallE Try.prog 17 #[(.pointer p9)] w8 fun v12 w13 => ∃ (x14 : Int) (x15 : Int), v12 = .tuple #[(.int .i64 x14), (.int .i64 x15)] ∧
  br (decide ((x15 : Int) > 0)) (CallE Try.prog 10 #[] w13 fun v16 w17 => fB v16 fun b18 =>
  Q (.bool b18) w17) (CallE Try.prog 13 #[(.int .i64 p3), (.int .i64 (IntKind.wrap .i64 (1 + x6)))] w13 fun v19 w20 => fI .i64 v19 fun x21 =>
  br (((Int.tmod p5 3) : Int) == 0) (nn p10 fun a74 =>
  ld Try.prog 32 (a74.add 7) w20 fun v75 => fI .u64 v75 fun x76 =>
  CallE Try.prog 22 #[(.pointer p9), (.int .i64 x21), (.int .u64 x76)] w20 fun v77 w78 => fI .i64 v77 fun x79 =>
  W.law29_WakeupNoEventIsLost_k18 p2 p2n p2c (IntKind.wrap .i64 (1 + x6)) p9 p10 x14 x79 w78 Q) (br (((Int.tmod p5 3) : Int) == 1) (nn p10 fun a80 =>
  ld Try.prog 32 (a80.add 7) w20 fun v81 => fI .u64 v81 fun x82 =>
  CallE Try.prog 23 #[(.pointer p9), (.int .i64 x21), (.int .u64 x82), (.int .u64 (Int.tmod p4 10))] w20 fun v83 w84 => fI .i64 v83 fun x85 =>
  W.law29_WakeupNoEventIsLost_k18 p2 p2n p2c (IntKind.wrap .i64 (1 + x6)) p9 p10 x14 x85 w84 Q) (dr w20 fun w86 =>
  nn p10 fun a87 =>
  ld Try.prog 32 (a87.add 7) w86 fun v88 => fI .u64 v88 fun x89 =>
  nn p10 fun a90 =>
  ld Try.prog 32 (a90.add 7) w86 fun v91 => fI .u64 v91 fun x92 =>
  CallE Try.prog 24 #[(.pointer p9), (.int .u64 x89), (.int .u64 x92)] w86 fun v93 w94 => fI .i64 v93 fun x95 =>
  W.law29_WakeupNoEventIsLost_k18 p2 p2n p2c (IntKind.wrap .i64 (1 + x6)) p9 p10 x14 x95 w94 Q)))))
def W.law29_WakeupNoEventIsLost (n_ : Int) (l_ : Option Addr) (l_n : Nat) (l_c : Nat) (m_ : Option Addr) (m_n : Nat) (m_c : Nat) (source_ : Int) (hold_ : Int) (kind_ : Int) (w : World) (Q : Value → World → Prop) : Prop :=
  br (decide ((((l_n : Nat) : Int) : Int) > 20)) (W.law29_WakeupNoEventIsLost_k2 n_ l_ l_n l_c m_ m_n m_c source_ hold_ kind_ true w Q) (W.law29_WakeupNoEventIsLost_k2 n_ l_ l_n l_c m_ m_n m_c source_ hold_ kind_ (decide ((((m_n : Nat) : Int) : Int) > 20)) w Q)
theorem E.law29_WakeupNoEventIsLost (n_ : Int) (l_ : Option Addr) (l_n : Nat) (l_c : Nat) (m_ : Option Addr) (m_n : Nat) (m_c : Nat) (source_ : Int) (hold_ : Int) (kind_ : Int) (w : World) (Q : Value → World → Prop) : ev Try.prog Try.f4.ntmps callable [(22, [(21, .int .u64 0), (22, .int .i64 0)], [2, 13, 14, 17])] [] (Try.f4.body.getD .skip) (enumE 0 [(.int .i64 n_), (.slice l_ l_n l_c), (.slice m_ m_n m_c), (.int .i64 source_), (.int .u64 hold_), (.int .u8 kind_)]) w (KQ Try.prog Try.f4.results.toList Q) = W.law29_WakeupNoEventIsLost n_ l_ l_n l_c m_ m_n m_c source_ hold_ kind_ w Q := by kernel_rfl
theorem C.law29_WakeupNoEventIsLost (n_ : Int) (l_ : Option Addr) (l_n : Nat) (l_c : Nat) (m_ : Option Addr) (m_n : Nat) (m_c : Nat) (source_ : Int) (hold_ : Int) (kind_ : Int) (w : World) (Q : Value → World → Prop) (h : W.law29_WakeupNoEventIsLost n_ l_ l_n l_c m_ m_n m_c source_ hold_ kind_ w Q) : CallE Try.prog 4 #[(.int .i64 n_), (.slice l_ l_n l_c), (.slice m_ m_n m_c), (.int .i64 source_), (.int .u64 hold_), (.int .u8 kind_)] w Q :=
  calls_of_ev mixed callable_ok (args := [(.int .i64 n_), (.slice l_ l_n l_c), (.slice m_ m_n m_c), (.int .i64 source_), (.int .u64 hold_), (.int .u8 kind_)]) Try.func4 rfl ((E.law29_WakeupNoEventIsLost n_ l_ l_n l_c m_ m_n m_c source_ hold_ kind_ w Q).symm ▸ h)

def W.law29_WakeupAbortsExactly_k32 (p8 : Option Addr) (w : World) (Q : Value → World → Prop) : Prop :=
  CallE Try.prog 29 #[(.pointer p8)] w fun v31 w32 => v31 = .tuple #[] ∧
  CallE Try.prog 19 #[(.pointer p8)] w32 fun v33 w34 => fB v33 fun b35 =>
  br (!b35) (CallE Try.prog 10 #[] w34 fun v36 w37 => fB v36 fun b38 =>
  Q (.bool b38) w37) (Q (.bool false) w34)
def W.law29_WakeupAbortsExactly_k30 (p2 : Option Addr) (p2n : Nat) (p2c : Nat) (p7 : Int) (p8 : Option Addr) (p9 : Option Addr) (p12 : Int) (p14 : Bool) (p15 : Bool) (p16 : Int) (next41 : (Bool × Bool × Int × Unit) → World → Prop) (w : World) (Q : Value → World → Prop) : Prop :=
  CallE Try.prog 19 #[(.pointer p8)] w fun v73 w74 => fB v73 fun b75 =>
  br p15 (br (!(b75 == p14)) (Q (.bool false) w74) (next41 (p14, p15, ((IntKind.wrap .i64 (p16 + 1)) : Int), ()) w74)) (br (!(b75 == false)) (Q (.bool false) w74) (next41 (p14, p15, ((IntKind.wrap .i64 (p16 + 1)) : Int), ()) w74))
def W.law29_WakeupAbortsExactly_k29 (p2 : Option Addr) (p2n : Nat) (p2c : Nat) (p7 : Int) (p8 : Option Addr) (p9 : Option Addr) (p12 : Int) (p14 : Bool) (p15 : Bool) (p16 : Int) (p17 : Addr) (next41 : (Bool × Bool × Int × Unit) → World → Prop) (w : World) (Q : Value → World → Prop) : Prop :=
  br p15 (ld Try.prog 3 (p17.add 0) w fun v76 => fI .i64 v76 fun x77 =>
  CallE Try.prog 13 #[(.int .i64 x77), (.int .i64 9)] w fun v78 w79 => fI .i64 v78 fun x80 =>
  W.law29_WakeupAbortsExactly_k30 p2 p2n p2c p7 p8 p9 p12 p14 ((x80 : Int) != 8) p16 next41 w79 Q) (W.law29_WakeupAbortsExactly_k30 p2 p2n p2c p7 p8 p9 p12 p14 false p16 next41 w Q)
def W.law29_WakeupAbortsExactly_k25 (p2 : Option Addr) (p2n : Nat) (p2c : Nat) (p7 : Int) (p8 : Option Addr) (p9 : Option Addr) (p12 : Int) (p14 : Bool) (p15 : Bool) (p16 : Int) (p17 : Addr) (p19 : Addr) (next41 : (Bool × Bool × Int × Unit) → World → Prop) (w : World) (Q : Value → World → Prop) : Prop :=
  ld Try.prog 3 (p17.add 0) w fun v55 => fI .i64 v55 fun x56 =>
  ld Try.prog 34 p19 w fun v57 => fG v57 fun g58 =>
  CallE Try.prog 15 #[(.pointer p8), (.int .i64 x56), (.agg g58)] w fun v59 w60 => fI .i64 v59 fun x61 =>
  ld Try.prog 3 (p17.add 0) w60 fun v62 => fI .i64 v62 fun x63 =>
  ld Try.prog 34 p19 w60 fun v64 => fG v64 fun g65 =>
  CallE Try.prog 16 #[(.pointer p9), (.int .i64 x63), (.agg g65)] w60 fun v66 w67 => fI .i64 v66 fun x68 =>
  CallE Try.prog 18 #[(.pointer p9)] w67 fun v69 w70 => ∃ (x71 : Int) (x72 : Int), v69 = .tuple #[(.int .i64 x71), (.int .i64 x72)] ∧
  br p14 (W.law29_WakeupAbortsExactly_k29 p2 p2n p2c p7 p8 p9 p12 true p15 p16 p17 next41 w70 Q) (br ((x71 : Int) != p12) (W.law29_WakeupAbortsExactly_k29 p2 p2n p2c p7 p8 p9 p12 true p15 p16 p17 next41 w70 Q) (W.law29_WakeupAbortsExactly_k29 p2 p2n p2c p7 p8 p9 p12 (decide ((x72 : Int) > 0)) p15 p16 p17 next41 w70 Q))
def W.law29_WakeupAbortsExactly_k12 (p2 : Option Addr) (p2n : Nat) (p2c : Nat) (p7 : Int) (p8 : Option Addr) (p9 : Option Addr) (w : World) (Q : Value → World → Prop) : Prop :=
  CallE Try.prog 17 #[(.pointer p8)] w fun v12 w13 => ∃ (x14 : Int) (x15 : Int), v12 = .tuple #[(.int .i64 x14), (.int .i64 x15)] ∧
  br ((x15 : Int) != 0) (Q (.bool false) w13) (nn p9 fun a16 =>
  ld Try.prog 32 (a16.add 7) w13 fun v17 => fI .u64 v17 fun x18 =>
  CallE Try.prog 25 #[(.pointer p8), (.int .i64 x14), (.int .u64 x18)] w13 fun v19 w20 => fI .i64 v19 fun x21 =>
  br ((x21 : Int) != 0) (Q (.bool false) w20) (CallE Try.prog 19 #[(.pointer p8)] w20 fun v22 w23 => fB v22 fun b24 =>
  br b24 (Q (.bool false) w23) (nn p9 fun a25 =>
  ld Try.prog 32 (a25.add 7) w23 fun v26 => fI .u64 v26 fun x27 =>
  CallE Try.prog 28 #[(.pointer p9), (.int .i64 x14), (.int .u64 x27)] w23 fun v28 w29 => fI .i64 v28 fun x30 =>
  LoopW (S := Bool × Bool × Int × Unit) (fun s39 w40 next41 =>
  br (decide ((s39.2.2.1 : Int) < ((p2n : Nat) : Int))) (rq Try.prog (Instr.indexAt 22 (.slice p2 p2n p2c) (.int .i64 s39.2.2.1)) w40 fun v42 => fA v42 fun a43 =>
  ld Try.prog 36 a43 w40 fun v44 => fG v44 fun g45 =>
  al 36 (zeroT Try.prog 36).cells w40 fun a47 w46 =>
  st Try.prog 36 a47 (.agg g45) w46 fun w48 =>
  st Try.prog 4 (a47.add 5) (.bool false) w48 fun w49 =>
  ld Try.prog 3 (a47.add 0) w49 fun v50 => fI .i64 v50 fun x51 =>
  CallE Try.prog 13 #[(.int .i64 x51), (.int .i64 9)] w49 fun v52 w53 => fI .i64 v52 fun x54 =>
  br ((x54 : Int) == 7) (next41 (s39.1, s39.2.1, ((IntKind.wrap .i64 (s39.2.2.1 + 1)) : Int), ()) w53) (drawE fun S81 => S81 (drew w53) ∧ (ldS Try.prog S81 36 a47 fun v82 => fG v82 fun g83 =>
  nn p9 fun a84 =>
  ldS Try.prog S81 32 (a84.add 7) fun v85 => fI .u64 v85 fun x86 =>
  (CallE Try.prog 14 #[(.agg g83), (.int .i64 p7), (.int .u64 x86), (.int .i64 x14)] (drew w53) fun v87 w88 => fG v87 fun g89 =>
  S81 w88 ∧ (al 34 (zeroT Try.prog 34).cells w88 fun a91 w90 =>
  S81 w90 ∧ (st Try.prog 34 a91 (.agg g89) w90 fun w92 =>
  S81 w92 ∧ (W.law29_WakeupAbortsExactly_k25 p2 p2n p2c p7 p8 p9 x14 s39.1 s39.2.1 s39.2.2.1 a47 a91 next41 w92 Q)))) ∧ (al 34 (zeroT Try.prog 34).cells (drew w53) fun a94 w93 =>
  S81 w93 ∧ (CallE Try.prog 14 #[(.agg g83), (.int .i64 p7), (.int .u64 x86), (.int .i64 x14)] w93 fun v95 w96 => fG v95 fun g97 =>
  S81 w96 ∧ (st Try.prog 34 a94 (.agg g97) w96 fun w98 =>
  S81 w98 ∧ (W.law29_WakeupAbortsExactly_k25 p2 p2n p2c p7 p8 p9 x14 s39.1 s39.2.1 s39.2.2.1 a47 a94 next41 w98 Q))))))) (W.law29_WakeupAbortsExactly_k32 p8 w40 Q)) (false, true, (0 : Int), ()) w29)))
def W.law29_WakeupAbortsExactly_k2 (p0 : Int) (p1 : Option Addr) (p1n : Nat) (p1c : Nat) (p2 : Option Addr) (p2n : Nat) (p2c : Nat) (p29 : Bool) (w : World) (Q : Value → World → Prop) : Prop :=
  br p29 (CallE Try.prog 10 #[] w fun v1 w2 => fB v1 fun b3 =>
  Q (.bool b3) w2) (CallE Try.prog 13 #[(.int .i64 p0), (.int .i64 4)] w fun v4 w5 => fI .i64 v4 fun x6 =>
  CallE Try.prog 21 #[(.int .i64 (IntKind.wrap .i64 (1 + x6))), (.slice p1 p1n p1c)] w5 fun v7 w8 => ∃ (p9 : Option Addr) (p10 : Option Addr) (b11 : Bool), v7 = .tuple #[(.pointer p9), (.pointer p10), (.bool b11)] ∧
  br (!b11) (Q (.bool false) w8) (LoopW (S := Int × Unit) (fun s99 w100 next101 =>
  br (decide ((s99.1 : Int) < (IntKind.wrap .i64 (1 + x6)))) (nn p10 fun a102 =>
  ld Try.prog 32 (a102.add 7) w100 fun v103 => fI .u64 v103 fun x104 =>
  CallE Try.prog 26 #[(.pointer p9), (.int .i64 s99.1), (.int .u64 x104)] w100 fun v105 w106 => fI .i64 v105 fun x107 =>
  br ((x107 : Int) != 0) (Q (.bool false) w106) (nn p10 fun a108 =>
  ld Try.prog 32 (a108.add 7) w106 fun v109 => fI .u64 v109 fun x110 =>
  CallE Try.prog 27 #[(.pointer p10), (.int .i64 s99.1), (.int .u64 x110)] w106 fun v111 w112 => fI .i64 v111 fun x113 =>
  br ((x113 : Int) != 0) (Q (.bool false) w112) (next101 (((IntKind.wrap .i64 (s99.1 + 1)) : Int), ()) w112))) (W.law29_WakeupAbortsExactly_k12 p2 p2n p2c (IntKind.wrap .i64 (1 + x6)) p9 p10 w100 Q)) ((0 : Int), ()) w8))
def W.law29_WakeupAbortsExactly (n_ : Int) (l_ : Option Addr) (l_n : Nat) (l_c : Nat) (m_ : Option Addr) (m_n : Nat) (m_c : Nat) (w : World) (Q : Value → World → Prop) : Prop :=
  br (decide ((((l_n : Nat) : Int) : Int) > 20)) (W.law29_WakeupAbortsExactly_k2 n_ l_ l_n l_c m_ m_n m_c true w Q) (W.law29_WakeupAbortsExactly_k2 n_ l_ l_n l_c m_ m_n m_c (decide ((((m_n : Nat) : Int) : Int) > 20)) w Q)
theorem E.law29_WakeupAbortsExactly (n_ : Int) (l_ : Option Addr) (l_n : Nat) (l_c : Nat) (m_ : Option Addr) (m_n : Nat) (m_c : Nat) (w : World) (Q : Value → World → Prop) : ev Try.prog Try.f5.ntmps callable [(18, [(14, .bool false), (15, .bool false), (16, .int .i64 0)], [2, 7, 8, 9, 12]), (8, [(11, .int .i64 0)], [2, 7, 8, 9])] [] (Try.f5.body.getD .skip) (enumE 0 [(.int .i64 n_), (.slice l_ l_n l_c), (.slice m_ m_n m_c)]) w (KQ Try.prog Try.f5.results.toList Q) = W.law29_WakeupAbortsExactly n_ l_ l_n l_c m_ m_n m_c w Q := by kernel_rfl
theorem C.law29_WakeupAbortsExactly (n_ : Int) (l_ : Option Addr) (l_n : Nat) (l_c : Nat) (m_ : Option Addr) (m_n : Nat) (m_c : Nat) (w : World) (Q : Value → World → Prop) (h : W.law29_WakeupAbortsExactly n_ l_ l_n l_c m_ m_n m_c w Q) : CallE Try.prog 5 #[(.int .i64 n_), (.slice l_ l_n l_c), (.slice m_ m_n m_c)] w Q :=
  calls_of_ev mixed callable_ok (args := [(.int .i64 n_), (.slice l_ l_n l_c), (.slice m_ m_n m_c)]) Try.func5 rfl ((E.law29_WakeupAbortsExactly n_ l_ l_n l_c m_ m_n m_c w Q).symm ▸ h)

def W.law29_WakeupPulseEnds_k12 (p2 : Int) (p3 : Int) (p9 : Int) (p10 : Option Addr) (p11 : Option Addr) (w : World) (Q : Value → World → Prop) : Prop :=
  nn p11 fun a12 =>
  ld Try.prog 32 (a12.add 7) w fun v13 => fI .u64 v13 fun x14 =>
  CallE Try.prog 30 #[(.pointer p10), (.int .u64 (IntKind.wrap .u64 (x14 + 30)))] w fun v15 w16 => fI .i64 v15 fun x17 =>
  br ((x17 : Int) != 0) (Q (.bool false) w16) (CallE Try.prog 17 #[(.pointer p10)] w16 fun v18 w19 => ∃ (x20 : Int) (x21 : Int), v18 = .tuple #[(.int .i64 x20), (.int .i64 x21)] ∧
  CallE Try.prog 13 #[(.int .i64 p2), (.int .i64 p9)] w19 fun v22 w23 => fI .i64 v22 fun x24 =>
  CallE Try.prog 23 #[(.pointer p10), (.int .i64 x24), (.int .u64 (IntKind.wrap .u64 (x14 + 30))), (.int .u64 (IntKind.wrap .u64 (1 + (Int.tmod p3 50))))] w23 fun v25 w26 => fI .i64 v25 fun x27 =>
  CallE Try.prog 17 #[(.pointer p10)] w26 fun v28 w29 => ∃ (x30 : Int) (x31 : Int), v28 = .tuple #[(.int .i64 x30), (.int .i64 x31)] ∧
  CallE Try.prog 30 #[(.pointer p10), (.int .u64 (IntKind.wrap .u64 ((IntKind.wrap .u64 ((IntKind.wrap .u64 (x14 + 30)) + (IntKind.wrap .u64 (1 + (Int.tmod p3 50))))) - 1)))] w29 fun v32 w33 => fI .i64 v32 fun x34 =>
  CallE Try.prog 17 #[(.pointer p10)] w33 fun v35 w36 => ∃ (x37 : Int) (x38 : Int), v35 = .tuple #[(.int .i64 x37), (.int .i64 x38)] ∧
  CallE Try.prog 30 #[(.pointer p10), (.int .u64 (IntKind.wrap .u64 ((IntKind.wrap .u64 (x14 + 30)) + (IntKind.wrap .u64 (1 + (Int.tmod p3 50))))))] w36 fun v39 w40 => fI .i64 v39 fun x41 =>
  CallE Try.prog 17 #[(.pointer p10)] w40 fun v42 w43 => ∃ (x44 : Int) (x45 : Int), v42 = .tuple #[(.int .i64 x44), (.int .i64 x45)] ∧
  br ((x27 : Int) == 0) (br ((x34 : Int) == 0) (br ((x41 : Int) == 0) (br ((x30 : Int) == x20) (br ((x31 : Int) == 1) (br ((x37 : Int) == x20) (br ((x38 : Int) == 1) (br ((x44 : Int) == (IntKind.wrap .i64 (x20 + 1))) (br ((x45 : Int) == 0) (CallE Try.prog 10 #[] w43 fun v46 w47 => fB v46 fun b48 =>
  Q (.bool b48) w47) (Q (.bool false) w43)) (Q (.bool false) w43)) (Q (.bool false) w43)) (Q (.bool false) w43)) (Q (.bool false) w43)) (Q (.bool false) w43)) (Q (.bool false) w43)) (Q (.bool false) w43)) (Q (.bool false) w43))
def W.law29_WakeupPulseEnds (n_ : Int) (l_ : Option Addr) (l_n : Nat) (l_c : Nat) (source_ : Int) (hold_ : Int) (w : World) (Q : Value → World → Prop) : Prop :=
  br (decide ((((l_n : Nat) : Int) : Int) > 20)) (CallE Try.prog 10 #[] w fun v1 w2 => fB v1 fun b3 =>
  Q (.bool b3) w2) (CallE Try.prog 13 #[(.int .i64 n_), (.int .i64 4)] w fun v4 w5 => fI .i64 v4 fun x6 =>
  CallE Try.prog 21 #[(.int .i64 (IntKind.wrap .i64 (1 + x6))), (.slice l_ l_n l_c)] w5 fun v7 w8 => ∃ (p9 : Option Addr) (p10 : Option Addr) (b11 : Bool), v7 = .tuple #[(.pointer p9), (.pointer p10), (.bool b11)] ∧
  br (!b11) (Q (.bool false) w8) (LoopW (S := Int × Unit) (fun s49 w50 next51 =>
  br (decide ((s49.1 : Int) < (IntKind.wrap .i64 (1 + x6)))) (nn p10 fun a52 =>
  ld Try.prog 32 (a52.add 7) w50 fun v53 => fI .u64 v53 fun x54 =>
  CallE Try.prog 26 #[(.pointer p9), (.int .i64 s49.1), (.int .u64 x54)] w50 fun v55 w56 => fI .i64 v55 fun x57 =>
  br ((x57 : Int) != 0) (Q (.bool false) w56) (next51 (((IntKind.wrap .i64 (s49.1 + 1)) : Int), ()) w56)) (W.law29_WakeupPulseEnds_k12 source_ hold_ (IntKind.wrap .i64 (1 + x6)) p9 p10 w50 Q)) ((0 : Int), ()) w8))
theorem E.law29_WakeupPulseEnds (n_ : Int) (l_ : Option Addr) (l_n : Nat) (l_c : Nat) (source_ : Int) (hold_ : Int) (w : World) (Q : Value → World → Prop) : ev Try.prog Try.f6.ntmps callable [(8, [(13, .int .i64 0)], [2, 3, 9, 10, 11])] [] (Try.f6.body.getD .skip) (enumE 0 [(.int .i64 n_), (.slice l_ l_n l_c), (.int .i64 source_), (.int .u64 hold_)]) w (KQ Try.prog Try.f6.results.toList Q) = W.law29_WakeupPulseEnds n_ l_ l_n l_c source_ hold_ w Q := by kernel_rfl
theorem C.law29_WakeupPulseEnds (n_ : Int) (l_ : Option Addr) (l_n : Nat) (l_c : Nat) (source_ : Int) (hold_ : Int) (w : World) (Q : Value → World → Prop) (h : W.law29_WakeupPulseEnds n_ l_ l_n l_c source_ hold_ w Q) : CallE Try.prog 6 #[(.int .i64 n_), (.slice l_ l_n l_c), (.int .i64 source_), (.int .u64 hold_)] w Q :=
  calls_of_ev mixed callable_ok (args := [(.int .i64 n_), (.slice l_ l_n l_c), (.int .i64 source_), (.int .u64 hold_)]) Try.func6 rfl ((E.law29_WakeupPulseEnds n_ l_ l_n l_c source_ hold_ w Q).symm ▸ h)

def W.law29_WakeupAlarm_k12 (p2 : Int) (p3 : Int) (p10 : Option Addr) (p11 : Option Addr) (w : World) (Q : Value → World → Prop) : Prop :=
  nn p11 fun a12 =>
  ld Try.prog 32 (a12.add 7) w fun v13 => fI .u64 v13 fun x14 =>
  CallE Try.prog 30 #[(.pointer p10), (.int .u64 (IntKind.wrap .u64 (x14 + 30)))] w fun v15 w16 => fI .i64 v15 fun x17 =>
  CallE Try.prog 24 #[(.pointer p10), (.int .u64 (IntKind.wrap .u64 (x14 + 30))), (.int .u64 (IntKind.wrap .u64 ((IntKind.wrap .u64 ((IntKind.wrap .u64 (x14 + 30)) + 1)) + (Int.tmod p3 80))))] w16 fun v18 w19 => fI .i64 v18 fun x20 =>
  CallE Try.prog 24 #[(.pointer p10), (.int .u64 (IntKind.wrap .u64 (x14 + 30))), (.int .u64 (IntKind.wrap .u64 ((IntKind.wrap .u64 (x14 + 30)) + (IntKind.wrap .u64 (1 + (Int.tmod p2 40))))))] w19 fun v21 w22 => fI .i64 v21 fun x23 =>
  CallE Try.prog 17 #[(.pointer p10)] w22 fun v24 w25 => ∃ (x26 : Int) (x27 : Int), v24 = .tuple #[(.int .i64 x26), (.int .i64 x27)] ∧
  CallE Try.prog 30 #[(.pointer p10), (.int .u64 (IntKind.wrap .u64 ((IntKind.wrap .u64 ((IntKind.wrap .u64 (x14 + 30)) + (IntKind.wrap .u64 (1 + (Int.tmod p2 40))))) - 1)))] w25 fun v28 w29 => fI .i64 v28 fun x30 =>
  CallE Try.prog 17 #[(.pointer p10)] w29 fun v31 w32 => ∃ (x33 : Int) (x34 : Int), v31 = .tuple #[(.int .i64 x33), (.int .i64 x34)] ∧
  CallE Try.prog 30 #[(.pointer p10), (.int .u64 (IntKind.wrap .u64 ((IntKind.wrap .u64 (x14 + 30)) + (IntKind.wrap .u64 (1 + (Int.tmod p2 40))))))] w32 fun v35 w36 => fI .i64 v35 fun x37 =>
  CallE Try.prog 17 #[(.pointer p10)] w36 fun v38 w39 => ∃ (x40 : Int) (x41 : Int), v38 = .tuple #[(.int .i64 x40), (.int .i64 x41)] ∧
  CallE Try.prog 30 #[(.pointer p10), (.int .u64 (IntKind.wrap .u64 ((IntKind.wrap .u64 (x14 + 30)) + 200)))] w39 fun v42 w43 => fI .i64 v42 fun x44 =>
  CallE Try.prog 17 #[(.pointer p10)] w43 fun v45 w46 => ∃ (x47 : Int) (x48 : Int), v45 = .tuple #[(.int .i64 x47), (.int .i64 x48)] ∧
  br ((x17 : Int) == 0) (br ((x20 : Int) == 0) (br ((x23 : Int) == 0) (br ((x30 : Int) == 0) (br ((x37 : Int) == 0) (br ((x44 : Int) == 0) (br ((x33 : Int) == x26) (br ((x40 : Int) == (IntKind.wrap .i64 (x26 + 1))) (br ((x47 : Int) == x40) (CallE Try.prog 10 #[] w46 fun v49 w50 => fB v49 fun b51 =>
  Q (.bool b51) w50) (Q (.bool false) w46)) (Q (.bool false) w46)) (Q (.bool false) w46)) (Q (.bool false) w46)) (Q (.bool false) w46)) (Q (.bool false) w46)) (Q (.bool false) w46)) (Q (.bool false) w46)) (Q (.bool false) w46)
def W.law29_WakeupAlarm (n_ : Int) (l_ : Option Addr) (l_n : Nat) (l_c : Nat) (at_ : Int) (other_ : Int) (w : World) (Q : Value → World → Prop) : Prop :=
  br (decide ((((l_n : Nat) : Int) : Int) > 20)) (CallE Try.prog 10 #[] w fun v1 w2 => fB v1 fun b3 =>
  Q (.bool b3) w2) (CallE Try.prog 13 #[(.int .i64 n_), (.int .i64 4)] w fun v4 w5 => fI .i64 v4 fun x6 =>
  CallE Try.prog 21 #[(.int .i64 (IntKind.wrap .i64 (1 + x6))), (.slice l_ l_n l_c)] w5 fun v7 w8 => ∃ (p9 : Option Addr) (p10 : Option Addr) (b11 : Bool), v7 = .tuple #[(.pointer p9), (.pointer p10), (.bool b11)] ∧
  br (!b11) (Q (.bool false) w8) (LoopW (S := Int × Unit) (fun s52 w53 next54 =>
  br (decide ((s52.1 : Int) < (IntKind.wrap .i64 (1 + x6)))) (nn p10 fun a55 =>
  ld Try.prog 32 (a55.add 7) w53 fun v56 => fI .u64 v56 fun x57 =>
  CallE Try.prog 26 #[(.pointer p9), (.int .i64 s52.1), (.int .u64 x57)] w53 fun v58 w59 => fI .i64 v58 fun x60 =>
  br ((x60 : Int) != 0) (Q (.bool false) w59) (next54 (((IntKind.wrap .i64 (s52.1 + 1)) : Int), ()) w59)) (W.law29_WakeupAlarm_k12 at_ other_ p9 p10 w53 Q)) ((0 : Int), ()) w8))
theorem E.law29_WakeupAlarm (n_ : Int) (l_ : Option Addr) (l_n : Nat) (l_c : Nat) (at_ : Int) (other_ : Int) (w : World) (Q : Value → World → Prop) : ev Try.prog Try.f7.ntmps callable [(8, [(13, .int .i64 0)], [2, 3, 9, 10, 11])] [] (Try.f7.body.getD .skip) (enumE 0 [(.int .i64 n_), (.slice l_ l_n l_c), (.int .u64 at_), (.int .u64 other_)]) w (KQ Try.prog Try.f7.results.toList Q) = W.law29_WakeupAlarm n_ l_ l_n l_c at_ other_ w Q := by kernel_rfl
theorem C.law29_WakeupAlarm (n_ : Int) (l_ : Option Addr) (l_n : Nat) (l_c : Nat) (at_ : Int) (other_ : Int) (w : World) (Q : Value → World → Prop) (h : W.law29_WakeupAlarm n_ l_ l_n l_c at_ other_ w Q) : CallE Try.prog 7 #[(.int .i64 n_), (.slice l_ l_n l_c), (.int .u64 at_), (.int .u64 other_)] w Q :=
  calls_of_ev mixed callable_ok (args := [(.int .i64 n_), (.slice l_ l_n l_c), (.int .u64 at_), (.int .u64 other_)]) Try.func7 rfl ((E.law29_WakeupAlarm n_ l_ l_n l_c at_ other_ w Q).symm ▸ h)

def W.law29_WakeupCountsGrow_k19 (w : World) (Q : Value → World → Prop) : Prop :=
  CallE Try.prog 10 #[] w fun v13 w14 => fB v13 fun b15 =>
  Q (.bool b15) w14
def W.law29_WakeupCountsGrow_k15 (p1 : Option Addr) (p1n : Nat) (p1c : Nat) (p5 : Int) (p6 : Option Addr) (p8 : Int) (p9 : Int) (p10 : Int) (p12 : Int) (next18 : (Int × Int × Int × Unit) → World → Prop) (w : World) (Q : Value → World → Prop) : Prop :=
  CallE Try.prog 17 #[(.pointer p6)] w fun v39 w40 => ∃ (x41 : Int) (x42 : Int), v39 = .tuple #[(.int .i64 x41), (.int .i64 x42)] ∧
  br (decide ((x41 : Int) < p9)) (Q (.bool false) w40) (br (decide ((x41 : Int) > (IntKind.wrap .i64 ((IntKind.wrap .i64 (p9 + p5)) + 2)))) (Q (.bool false) w40) (br (decide ((x42 : Int) < 0)) (Q (.bool false) w40) (br (decide ((x42 : Int) > p5)) (Q (.bool false) w40) (br ((p12 : Int) != 0) (br ((x41 : Int) != p9) (Q (.bool false) w40) (next18 ((p8 : Int), (x41 : Int), ((IntKind.wrap .i64 (p10 + 1)) : Int), ()) w40)) (next18 ((p8 : Int), (x41 : Int), ((IntKind.wrap .i64 (p10 + 1)) : Int), ()) w40)))))
def W.law29_WakeupCountsGrow (n_ : Int) (l_ : Option Addr) (l_n : Nat) (l_c : Nat) (w : World) (Q : Value → World → Prop) : Prop :=
  br (decide ((((l_n : Nat) : Int) : Int) > 40)) (CallE Try.prog 10 #[] w fun v1 w2 => fB v1 fun b3 =>
  Q (.bool b3) w2) (CallE Try.prog 13 #[(.int .i64 n_), (.int .i64 5)] w fun v4 w5 => fI .i64 v4 fun x6 =>
  CallE Try.prog 11 #[(.int .i64 x6)] w5 fun v7 w8 => ∃ (p9 : Option Addr) (x10 : Int), v7 = .tuple #[(.pointer p9), (.int .i64 x10)] ∧
  br ((x10 : Int) != 0) (Q (.bool false) w8) (rq Try.prog (do eqGuard .eql 24 (.tmp 29) (.const (.pointer none)) (.pointer p9) (.pointer none); binOp .eql 24 (.pointer p9) (.pointer none)) w8 fun v11 => fB v11 fun b12 =>
  br b12 (Q (.bool false) w8) (LoopW (S := Int × Int × Int × Unit) (fun s16 w17 next18 =>
  br (decide ((s16.2.2.1 : Int) < ((l_n : Nat) : Int))) (rq Try.prog (Instr.indexAt 22 (.slice l_ l_n l_c) (.int .i64 s16.2.2.1)) w17 fun v19 => fA v19 fun a20 =>
  ld Try.prog 36 a20 w17 fun v21 => fG v21 fun g22 =>
  CallE Try.prog 14 #[(.agg g22), (.int .i64 x6), (.int .u64 s16.1), (.int .i64 s16.2.1)] w17 fun v23 w24 => fG v23 fun g25 =>
  al 34 (zeroT Try.prog 34).cells w24 fun a27 w26 =>
  st Try.prog 34 a27 (.agg g25) w26 fun w28 =>
  dr w28 fun w29 =>
  rq Try.prog (Instr.indexAt 22 (.slice l_ l_n l_c) (.int .i64 s16.2.2.1)) w29 fun v30 => fA v30 fun a31 =>
  ld Try.prog 3 (a31.add 0) w29 fun v32 => fI .i64 v32 fun x33 =>
  ld Try.prog 34 a27 w29 fun v34 => fG v34 fun g35 =>
  CallE Try.prog 15 #[(.pointer p9), (.int .i64 x33), (.agg g35)] w29 fun v36 w37 => fI .i64 v36 fun x38 =>
  br ((x38 : Int) == 0) (rq Try.prog (Instr.indexAt 22 (.slice l_ l_n l_c) (.int .i64 s16.2.2.1)) w37 fun v43 => fA v43 fun a44 =>
  ld Try.prog 3 (a44.add 0) w37 fun v45 => fI .i64 v45 fun x46 =>
  CallE Try.prog 13 #[(.int .i64 x46), (.int .i64 9)] w37 fun v47 w48 => fI .i64 v47 fun x49 =>
  br (decide ((x49 : Int) < 8)) (ld Try.prog 32 (a27.add 1) w48 fun v50 => fI .u64 v50 fun x51 =>
  W.law29_WakeupCountsGrow_k15 l_ l_n l_c x6 p9 x51 s16.2.1 s16.2.2.1 x38 next18 w48 Q) (W.law29_WakeupCountsGrow_k15 l_ l_n l_c x6 p9 s16.1 s16.2.1 s16.2.2.1 x38 next18 w48 Q)) (W.law29_WakeupCountsGrow_k15 l_ l_n l_c x6 p9 s16.1 s16.2.1 s16.2.2.1 x38 next18 w37 Q)) (W.law29_WakeupCountsGrow_k19  w17 Q)) ((0 : Int), (0 : Int), (0 : Int), ()) w8)))
theorem E.law29_WakeupCountsGrow (n_ : Int) (l_ : Option Addr) (l_n : Nat) (l_c : Nat) (w : World) (Q : Value → World → Prop) : ev Try.prog Try.f8.ntmps callable [(9, [(8, .int .u64 0), (9, .int .i64 0), (10, .int .i64 0)], [1, 5, 6])] [] (Try.f8.body.getD .skip) (enumE 0 [(.int .i64 n_), (.slice l_ l_n l_c)]) w (KQ Try.prog Try.f8.results.toList Q) = W.law29_WakeupCountsGrow n_ l_ l_n l_c w Q := by kernel_rfl
theorem C.law29_WakeupCountsGrow (n_ : Int) (l_ : Option Addr) (l_n : Nat) (l_c : Nat) (w : World) (Q : Value → World → Prop) (h : W.law29_WakeupCountsGrow n_ l_ l_n l_c w Q) : CallE Try.prog 8 #[(.int .i64 n_), (.slice l_ l_n l_c)] w Q :=
  calls_of_ev mixed callable_ok (args := [(.int .i64 n_), (.slice l_ l_n l_c)]) Try.func8 rfl ((E.law29_WakeupCountsGrow n_ l_ l_n l_c w Q).symm ▸ h)

def W.law29_WakeupSourcesAdd_k43 (w : World) (Q : Value → World → Prop) : Prop :=
  CallE Try.prog 10 #[] w fun v13 w14 => fB v13 fun b15 =>
  Q (.bool b15) w14
def W.law29_WakeupSourcesAdd_k40 (p1 : Option Addr) (p1n : Nat) (p1c : Nat) (p5 : Int) (p6 : Option Addr) (p8 : Option Addr) (p8n : Nat) (p8c : Nat) (p12 : Int) (p13 : Int) (p16 : Int) (p17 : Int) (next18 : (Int × Int × Unit) → World → Prop) (w : World) (Q : Value → World → Prop) : Prop :=
  CallE Try.prog 17 #[(.pointer p6)] w fun v50 w51 => ∃ (x52 : Int) (x53 : Int), v50 = .tuple #[(.int .i64 x52), (.int .i64 x53)] ∧
  br ((x52 : Int) != p16) (Q (.bool false) w51) (br ((x53 : Int) != p17) (Q (.bool false) w51) (next18 ((p12 : Int), ((IntKind.wrap .i64 (p13 + 1)) : Int), ()) w51))
def W.law29_WakeupSourcesAdd_k36 (p1 : Option Addr) (p1n : Nat) (p1c : Nat) (p5 : Int) (p6 : Option Addr) (p8 : Option Addr) (p8n : Nat) (p8c : Nat) (p12 : Int) (p13 : Int) (p14 : Addr) (p15 : Addr) (p16 : Int) (p17 : Int) (p18 : Int) (p19 : Int) (next18 : (Int × Int × Unit) → World → Prop) (next56 : (Int × Int × Int × Unit) → World → Prop) (w : World) (Q : Value → World → Prop) : Prop :=
  rq Try.prog (Instr.indexAt 57 (.slice p8 p8n p8c) (.int .i64 p18)) w fun v64 => fA v64 fun a65 =>
  ld Try.prog 24 a65 w fun v66 => fP v66 fun p67 =>
  CallE Try.prog 17 #[(.pointer p67)] w fun v68 w69 => ∃ (x70 : Int) (x71 : Int), v68 = .tuple #[(.int .i64 x70), (.int .i64 x71)] ∧
  br ((p19 : Int) != 0) (Q (.bool false) w69) (next56 (((IntKind.wrap .i64 (p16 + x70)) : Int), ((IntKind.wrap .i64 (p17 + x71)) : Int), ((IntKind.wrap .i64 (p18 + 1)) : Int), ()) w69)
def W.law29_WakeupSourcesAdd_k33 (p1 : Option Addr) (p1n : Nat) (p1c : Nat) (p5 : Int) (p6 : Option Addr) (p8 : Option Addr) (p8n : Nat) (p8c : Nat) (p12 : Int) (p13 : Int) (p14 : Addr) (p15 : Addr) (p16 : Int) (p17 : Int) (p18 : Int) (p19 : Int) (p112 : Bool) (next18 : (Int × Int × Unit) → World → Prop) (next56 : (Int × Int × Int × Unit) → World → Prop) (w : World) (Q : Value → World → Prop) : Prop :=
  br p112 (ld Try.prog 34 p15 w fun v72 => fG v72 fun g73 =>
  al 34 (zeroT Try.prog 34).cells w fun a75 w74 =>
  st Try.prog 34 a75 (.agg g73) w74 fun w76 =>
  st Try.prog 3 (a75.add 0) (.int .i64 0) w76 fun w77 =>
  dr w77 fun w78 =>
  rq Try.prog (Instr.indexAt 57 (.slice p8 p8n p8c) (.int .i64 p18)) w78 fun v79 => fA v79 fun a80 =>
  ld Try.prog 24 a80 w78 fun v81 => fP v81 fun p82 =>
  ld Try.prog 3 (p14.add 0) w78 fun v83 => fI .i64 v83 fun x84 =>
  ld Try.prog 34 a75 w78 fun v85 => fG v85 fun g86 =>
  CallE Try.prog 15 #[(.pointer p82), (.int .i64 x84), (.agg g86)] w78 fun v87 w88 => fI .i64 v87 fun x89 =>
  W.law29_WakeupSourcesAdd_k36 p1 p1n p1c p5 p6 p8 p8n p8c p12 p13 p14 p15 p16 p17 p18 x89 next18 next56 w88 Q) (W.law29_WakeupSourcesAdd_k36 p1 p1n p1c p5 p6 p8 p8n p8c p12 p13 p14 p15 p16 p17 p18 p19 next18 next56 w Q)
def W.law29_WakeupSourcesAdd_k23 (p1 : Option Addr) (p1n : Nat) (p1c : Nat) (p5 : Int) (p6 : Option Addr) (p8 : Option Addr) (p8n : Nat) (p8c : Nat) (p12 : Int) (p13 : Int) (p14 : Addr) (next18 : (Int × Int × Unit) → World → Prop) (w : World) (Q : Value → World → Prop) : Prop :=
  ld Try.prog 36 p14 w fun v33 => fG v33 fun g34 =>
  CallE Try.prog 14 #[(.agg g34), (.int .i64 p5), (.int .u64 p12), (.int .i64 0)] w fun v35 w36 => fG v35 fun g37 =>
  al 34 (zeroT Try.prog 34).cells w36 fun a39 w38 =>
  st Try.prog 34 a39 (.agg g37) w38 fun w40 =>
  ld Try.prog 3 (p14.add 0) w40 fun v41 => fI .i64 v41 fun x42 =>
  ld Try.prog 34 a39 w40 fun v43 => fG v43 fun g44 =>
  CallE Try.prog 15 #[(.pointer p6), (.int .i64 x42), (.agg g44)] w40 fun v45 w46 => fI .i64 v45 fun x47 =>
  br ((x47 : Int) != 0) (Q (.bool false) w46) (ld Try.prog 32 (a39.add 1) w46 fun v48 => fI .u64 v48 fun x49 =>
  LoopW (S := Int × Int × Int × Unit) (fun s54 w55 next56 =>
  br (decide ((s54.2.2.1 : Int) < p5)) (rq Try.prog (Instr.indexAt 57 (.slice p8 p8n p8c) (.int .i64 s54.2.2.1)) w55 fun v57 => fA v57 fun a58 =>
  ld Try.prog 24 a58 w55 fun v59 => fP v59 fun p60 =>
  CallE Try.prog 30 #[(.pointer p60), (.int .u64 x49)] w55 fun v61 w62 => fI .i64 v61 fun x63 =>
  ld Try.prog 3 (p14.add 0) w62 fun v90 => fI .i64 v90 fun x91 =>
  br (decide ((x91 : Int) < 5)) (ld Try.prog 3 (a39.add 0) w62 fun v92 => fI .i64 v92 fun x93 =>
  W.law29_WakeupSourcesAdd_k33 p1 p1n p1c p5 p6 p8 p8n p8c x49 p13 p14 a39 s54.1 s54.2.1 s54.2.2.1 x63 ((s54.2.2.1 : Int) == x93) next18 next56 w62 Q) (W.law29_WakeupSourcesAdd_k33 p1 p1n p1c p5 p6 p8 p8n p8c x49 p13 p14 a39 s54.1 s54.2.1 s54.2.2.1 x63 false next18 next56 w62 Q)) (W.law29_WakeupSourcesAdd_k40 p1 p1n p1c p5 p6 p8 p8n p8c x49 p13 s54.1 s54.2.1 next18 w55 Q)) ((0 : Int), (0 : Int), (0 : Int), ()) w46)
def W.law29_WakeupSourcesAdd_k15 (p1 : Option Addr) (p1n : Nat) (p1c : Nat) (p5 : Int) (p6 : Option Addr) (p8 : Option Addr) (p8n : Nat) (p8c : Nat) (w : World) (Q : Value → World → Prop) : Prop :=
  LoopW (S := Int × Int × Unit) (fun s16 w17 next18 =>
  br (decide ((s16.2.1 : Int) < ((p1n : Nat) : Int))) (rq Try.prog (Instr.indexAt 22 (.slice p1 p1n p1c) (.int .i64 s16.2.1)) w17 fun v19 => fA v19 fun a20 =>
  ld Try.prog 36 a20 w17 fun v21 => fG v21 fun g22 =>
  al 36 (zeroT Try.prog 36).cells w17 fun a24 w23 =>
  st Try.prog 36 a24 (.agg g22) w23 fun w25 =>
  ld Try.prog 3 (a24.add 0) w25 fun v26 => fI .i64 v26 fun x27 =>
  CallE Try.prog 13 #[(.int .i64 x27), (.int .i64 9)] w25 fun v28 w29 => fI .i64 v28 fun x30 =>
  st Try.prog 4 (a24.add 5) (.bool false) w29 fun w31 =>
  st Try.prog 3 (a24.add 0) (.int .i64 x30) w31 fun w32 =>
  ld Try.prog 3 (a24.add 0) w32 fun v94 => fI .i64 v94 fun x95 =>
  br (decide ((x95 : Int) ≥ 5)) (st Try.prog 3 (a24.add 0) (.int .i64 6) w32 fun w96 =>
  W.law29_WakeupSourcesAdd_k23 p1 p1n p1c p5 p6 p8 p8n p8c s16.1 s16.2.1 a24 next18 w96 Q) (W.law29_WakeupSourcesAdd_k23 p1 p1n p1c p5 p6 p8 p8n p8c s16.1 s16.2.1 a24 next18 w32 Q)) (W.law29_WakeupSourcesAdd_k43  w17 Q)) ((0 : Int), (0 : Int), ()) w
def W.law29_WakeupSourcesAdd (n_ : Int) (l_ : Option Addr) (l_n : Nat) (l_c : Nat) (w : World) (Q : Value → World → Prop) : Prop :=
  br (decide ((((l_n : Nat) : Int) : Int) > 40)) (CallE Try.prog 10 #[] w fun v1 w2 => fB v1 fun b3 =>
  Q (.bool b3) w2) (CallE Try.prog 13 #[(.int .i64 n_), (.int .i64 4)] w fun v4 w5 => fI .i64 v4 fun x6 =>
  CallE Try.prog 11 #[(.int .i64 (IntKind.wrap .i64 (1 + x6)))] w5 fun v7 w8 => ∃ (p9 : Option Addr) (x10 : Int), v7 = .tuple #[(.pointer p9), (.int .i64 x10)] ∧
  br ((x10 : Int) != 0) (Q (.bool false) w8) (rq Try.prog (do eqGuard .eql 24 (.tmp 40) (.const (.pointer none)) (.pointer p9) (.pointer none); binOp .eql 24 (.pointer p9) (.pointer none)) w8 fun v11 => fB v11 fun b12 =>
  br b12 (Q (.bool false) w8) (LoopW (S := (Option Addr × Nat × Nat) × Int × Unit) (fun s97 w98 next99 =>
  br (decide ((s97.2.1 : Int) < (IntKind.wrap .i64 (1 + x6)))) (CallE Try.prog 11 #[(.int .i64 1)] w98 fun v100 w101 => ∃ (p102 : Option Addr) (x103 : Int), v100 = .tuple #[(.pointer p102), (.int .i64 x103)] ∧
  br ((x103 : Int) != 0) (Q (.bool false) w101) (rq Try.prog (do eqGuard .eql 24 (.tmp 55) (.const (.pointer none)) (.pointer p102) (.pointer none); binOp .eql 24 (.pointer p102) (.pointer none)) w101 fun v104 => fB v104 fun b105 =>
  br b105 (Q (.bool false) w101) (al 24 #[(.pointer p102)] w101 fun a107 w106 =>
  rv Try.prog (Builtin.append_ #[57, 57] 57 #[(.slice s97.1.1 s97.1.2.1 s97.1.2.2), (.slice (some a107) 1 1)]) w106 fun v108 w109 => fS v108 fun l110 l110n l110c =>
  next99 ((l110, l110n, l110c), ((IntKind.wrap .i64 (s97.2.1 + 1)) : Int), ()) w109))) (W.law29_WakeupSourcesAdd_k15 l_ l_n l_c (IntKind.wrap .i64 (1 + x6)) p9 s97.1.1 s97.1.2.1 s97.1.2.2 w98 Q)) ((none, 0, 0), (0 : Int), ()) w8)))
theorem E.law29_WakeupSourcesAdd (n_ : Int) (l_ : Option Addr) (l_n : Nat) (l_c : Nat) (w : World) (Q : Value → World → Prop) : ev Try.prog Try.f9.ntmps callable [(17, [(12, .int .u64 0), (13, .int .i64 0)], [1, 5, 6, 8]), (29, [(16, .int .i64 0), (17, .int .i64 0), (18, .int .i64 0)], [1, 5, 6, 8, 12, 13, 14, 15]), (9, [(8, .slice none 0 0), (9, .int .i64 0)], [1, 5, 6])] [] (Try.f9.body.getD .skip) (enumE 0 [(.int .i64 n_), (.slice l_ l_n l_c)]) w (KQ Try.prog Try.f9.results.toList Q) = W.law29_WakeupSourcesAdd n_ l_ l_n l_c w Q := by kernel_rfl
theorem C.law29_WakeupSourcesAdd (n_ : Int) (l_ : Option Addr) (l_n : Nat) (l_c : Nat) (w : World) (Q : Value → World → Prop) (h : W.law29_WakeupSourcesAdd n_ l_ l_n l_c w Q) : CallE Try.prog 9 #[(.int .i64 n_), (.slice l_ l_n l_c)] w Q :=
  calls_of_ev mixed callable_ok (args := [(.int .i64 n_), (.slice l_ l_n l_c)]) Try.func9 rfl ((E.law29_WakeupSourcesAdd n_ l_ l_n l_c w Q).symm ▸ h)

def W.law29_awake (w : World) (Q : Value → World → Prop) : Prop :=
  CallE Try.prog 11 #[(.int .i64 2)] w fun v1 w2 => ∃ (p3 : Option Addr) (x4 : Int), v1 = .tuple #[(.pointer p3), (.int .i64 x4)] ∧
  br ((x4 : Int) != 0) (Q (.bool false) w2) (rq Try.prog (do eqGuard .eql 24 (.tmp 18) (.const (.pointer none)) (.pointer p3) (.pointer none); binOp .eql 24 (.pointer p3) (.pointer none)) w2 fun v5 => fB v5 fun b6 =>
  br b6 (Q (.bool false) w2) (CallE Try.prog 23 #[(.pointer p3), (.int .i64 0), (.int .u64 10), (.int .u64 5)] w2 fun v7 w8 => fI .i64 v7 fun x9 =>
  br ((x9 : Int) != 0) (Q (.bool false) w8) (CallE Try.prog 17 #[(.pointer p3)] w8 fun v10 w11 => ∃ (x12 : Int) (x13 : Int), v10 = .tuple #[(.int .i64 x12), (.int .i64 x13)] ∧
  CallE Try.prog 25 #[(.pointer p3), (.int .i64 0), (.int .u64 12)] w11 fun v14 w15 => fI .i64 v14 fun x16 =>
  CallE Try.prog 30 #[(.pointer p3), (.int .u64 15)] w15 fun v17 w18 => fI .i64 v17 fun x19 =>
  CallE Try.prog 17 #[(.pointer p3)] w18 fun v20 w21 => ∃ (x22 : Int) (x23 : Int), v20 = .tuple #[(.int .i64 x22), (.int .i64 x23)] ∧
  CallE Try.prog 25 #[(.pointer p3), (.int .i64 1), (.int .u64 16)] w21 fun v24 w25 => fI .i64 v24 fun x26 =>
  CallE Try.prog 22 #[(.pointer p3), (.int .i64 1), (.int .u64 17)] w25 fun v27 w28 => fI .i64 v27 fun x29 =>
  br ((x12 : Int) == 0) (br ((x13 : Int) == 1) (br ((x16 : Int) == 17) (br ((x19 : Int) == 0) (br ((x22 : Int) == 1) (br ((x23 : Int) == 0) (br ((x26 : Int) == 0) (br ((x29 : Int) == 0) (CallE Try.prog 19 #[(.pointer p3)] w28 fun v30 w31 => fB v30 fun b32 =>
  Q (.bool b32) w31) (Q (.bool false) w28)) (Q (.bool false) w28)) (Q (.bool false) w28)) (Q (.bool false) w28)) (Q (.bool false) w28)) (Q (.bool false) w28)) (Q (.bool false) w28)) (Q (.bool false) w28))))
theorem E.law29_awake (w : World) (Q : Value → World → Prop) : ev Try.prog Try.f10.ntmps callable [] [] (Try.f10.body.getD .skip) (enumE 0 []) w (KQ Try.prog Try.f10.results.toList Q) = W.law29_awake w Q := by kernel_rfl
theorem C.law29_awake (w : World) (Q : Value → World → Prop) (h : W.law29_awake w Q) : CallE Try.prog 10 #[] w Q :=
  calls_of_ev mixed callable_ok (args := []) Try.func10 rfl ((E.law29_awake w Q).symm ▸ h)

def W.wakeup_New (n_ : Int) (w : World) (Q : Value → World → Prop) : Prop :=
  br (decide ((n_ : Int) < 0)) (Q (.tuple #[(.pointer none), (.int .i64 1)]) w) (br (decide ((n_ : Int) > 32)) (Q (.tuple #[(.pointer none), (.int .i64 1)]) w) (al 62 (#[(.bool false), (.bool false), (.int .u64 0), (.bool false), (.bool false), (.int .u64 0), (.bool false), (.bool false), (.int .u64 0), (.bool false), (.bool false), (.int .u64 0), (.bool false), (.bool false), (.int .u64 0), (.bool false), (.bool false), (.int .u64 0), (.bool false), (.bool false), (.int .u64 0), (.bool false), (.bool false), (.int .u64 0), (.bool false), (.bool false), (.int .u64 0), (.bool false), (.bool false), (.int .u64 0), (.bool false), (.bool false), (.int .u64 0), (.bool false), (.bool false), (.int .u64 0), (.bool false), (.bool false), (.int .u64 0), (.bool false), (.bool false), (.int .u64 0), (.bool false), (.bool false), (.int .u64 0), (.bool false), (.bool false), (.int .u64 0), (.bool false), (.bool false), (.int .u64 0), (.bool false), (.bool false), (.int .u64 0), (.bool false), (.bool false), (.int .u64 0), (.bool false), (.bool false), (.int .u64 0), (.bool false), (.bool false), (.int .u64 0), (.bool false), (.bool false), (.int .u64 0), (.bool false), (.bool false), (.int .u64 0), (.bool false), (.bool false), (.int .u64 0), (.bool false), (.bool false), (.int .u64 0), (.bool false), (.bool false), (.int .u64 0), (.bool false), (.bool false), (.int .u64 0), (.bool false), (.bool false), (.int .u64 0), (.bool false), (.bool false), (.int .u64 0), (.bool false), (.bool false), (.int .u64 0), (.bool false), (.bool false), (.int .u64 0), (.bool false), (.bool false), (.int .u64 0), (.int .i64 n_), (.bool false), (.int .u64 0), (.int .i64 0), (.bool false), (.int .i64 0), (.int .u64 0)]) w fun a2 w1 =>
  Q (.tuple #[(.pointer (some a2)), (.int .i64 0)]) w1))
theorem E.wakeup_New (n_ : Int) (w : World) (Q : Value → World → Prop) : ev Try.prog Try.f11.ntmps callable [] [] (Try.f11.body.getD .skip) (enumE 0 [(.int .i64 n_)]) w (KQ Try.prog Try.f11.results.toList Q) = W.wakeup_New n_ w Q := by kernel_rfl
theorem C.wakeup_New (n_ : Int) (w : World) (Q : Value → World → Prop) (h : W.wakeup_New n_ w Q) : CallE Try.prog 11 #[(.int .i64 n_)] w Q :=
  calls_of_ev mixed callable_ok (args := [(.int .i64 n_)]) Try.func11 rfl ((E.wakeup_New n_ w Q).symm ▸ h)

def W.ref29_New (n_ : Int) (w : World) (Q : Value → World → Prop) : Prop :=
  br (decide ((n_ : Int) < 0)) (Q (.tuple #[(.pointer none), (.int .i64 1)]) w) (br (decide ((n_ : Int) > 32)) (Q (.tuple #[(.pointer none), (.int .i64 1)]) w) (drawE fun S1 => S1 (drew w) ∧ ((rv Try.prog (Instr.makeSlice 38 (.int .i64 n_) (.int .i64 n_)) (drew w) fun v2 w3 => fS v2 fun l4 l4n l4c =>
  S1 w3 ∧ (rv Try.prog (Instr.makeSlice 39 (.int .i64 n_) (.int .i64 n_)) w3 fun v5 w6 => fS v5 fun l7 l7n l7c =>
  S1 w6 ∧ (al 41 (#[(.slice l4 l4n l4c), (.slice l7 l7n l7c), (.int .u64 0), (.bool false), (.int .i64 0), (.bool false), (.int .i64 0), (.int .u64 0)]) w6 fun a9 w8 =>
  S1 w8 ∧ (Q (.tuple #[(.pointer (some a9)), (.int .i64 0)]) w8)))) ∧ (rv Try.prog (Instr.makeSlice 39 (.int .i64 n_) (.int .i64 n_)) (drew w) fun v10 w11 => fS v10 fun l12 l12n l12c =>
  S1 w11 ∧ (rv Try.prog (Instr.makeSlice 38 (.int .i64 n_) (.int .i64 n_)) w11 fun v13 w14 => fS v13 fun l15 l15n l15c =>
  S1 w14 ∧ (al 41 (#[(.slice l15 l15n l15c), (.slice l12 l12n l12c), (.int .u64 0), (.bool false), (.int .i64 0), (.bool false), (.int .i64 0), (.int .u64 0)]) w14 fun a17 w16 =>
  S1 w16 ∧ (Q (.tuple #[(.pointer (some a17)), (.int .i64 0)]) w16)))))))
theorem E.ref29_New (n_ : Int) (w : World) (Q : Value → World → Prop) : ev Try.prog Try.f12.ntmps callable [] [] (Try.f12.body.getD .skip) (enumE 0 [(.int .i64 n_)]) w (KQ Try.prog Try.f12.results.toList Q) = W.ref29_New n_ w Q := by kernel_rfl
theorem C.ref29_New (n_ : Int) (w : World) (Q : Value → World → Prop) (h : W.ref29_New n_ w Q) : CallE Try.prog 12 #[(.int .i64 n_)] w Q :=
  calls_of_ev mixed callable_ok (args := [(.int .i64 n_)]) Try.func12 rfl ((E.ref29_New n_ w Q).symm ▸ h)

def W.help_Mod (v_ : Int) (n_ : Int) (w : World) (Q : Value → World → Prop) : Prop :=
  rq Try.prog (do eqGuard .rem 63 (.tmp 6) (.tmp 8) (.int .u64 (IntKind.wrap .u64 v_)) (.int .u64 (IntKind.wrap .u64 n_)); binOp .rem 63 (.int .u64 (IntKind.wrap .u64 v_)) (.int .u64 (IntKind.wrap .u64 n_))) w fun v1 => fI .u64 v1 fun x2 =>
  Q (.int .i64 (IntKind.wrap .i64 x2)) w
theorem E.help_Mod (v_ : Int) (n_ : Int) (w : World) (Q : Value → World → Prop) : ev Try.prog Try.f13.ntmps callable [] [] (Try.f13.body.getD .skip) (enumE 0 [(.int .i64 v_), (.int .i64 n_)]) w (KQ Try.prog Try.f13.results.toList Q) = W.help_Mod v_ n_ w Q := by kernel_rfl
theorem C.help_Mod (v_ : Int) (n_ : Int) (w : World) (Q : Value → World → Prop) (h : W.help_Mod v_ n_ w Q) : CallE Try.prog 13 #[(.int .i64 v_), (.int .i64 n_)] w Q :=
  calls_of_ev mixed callable_ok (args := [(.int .i64 v_), (.int .i64 n_)]) Try.func13 rfl ((E.help_Mod v_ n_ w Q).symm ▸ h)

def W.law29_Call_at_k8 (p4 : Addr) (p8 : Addr) (p9 : Addr) (w : World) (Q : Value → World → Prop) : Prop :=
  ld Try.prog 3 (p4.add 4) w fun v25 => fI .i64 v25 fun x26 =>
  br (((Int.tmod x26 5) : Int) == 0) (ld Try.prog 3 (p4.add 4) w fun v27 => fI .i64 v27 fun x28 =>
  st Try.prog 3 (p9.add 3) (.int .i64 x28) w fun w29 =>
  ld Try.prog 34 p9 w29 fun v30 => fG v30 fun g31 =>
  st Try.prog 34 p8 (.agg g31) w29 fun w32 =>
  ld Try.prog 34 p8 w32 fun v33 => fG v33 fun g34 =>
  Q (.agg g34) w32) (ld Try.prog 34 p9 w fun v35 => fG v35 fun g36 =>
  st Try.prog 34 p8 (.agg g36) w fun w37 =>
  ld Try.prog 34 p8 w37 fun v38 => fG v38 fun g39 =>
  Q (.agg g39) w37)
def W.law29_Call_at_k6 (p4 : Addr) (p8 : Addr) (p9 : Addr) (w : World) (Q : Value → World → Prop) : Prop :=
  ld Try.prog 3 (p4.add 0) w fun v40 => fI .i64 v40 fun x41 =>
  CallE Try.prog 13 #[(.int .i64 x41), (.int .i64 9)] w fun v42 w43 => fI .i64 v42 fun x44 =>
  br ((x44 : Int) == 5) (ld Try.prog 32 (p9.add 1) w43 fun v45 => fI .u64 v45 fun x46 =>
  ld Try.prog 32 (p4.add 3) w43 fun v47 => fI .u64 v47 fun x48 =>
  st Try.prog 32 (p9.add 2) (.int .u64 (IntKind.wrap .u64 (x46 + (Int.tmod x48 12)))) w43 fun w49 =>
  W.law29_Call_at_k8 p4 p8 p9 w49 Q) (W.law29_Call_at_k8 p4 p8 p9 w43 Q)
def W.law29_Call_at (c__0 : Int) (c__1 : Int) (c__2 : Int) (c__3 : Int) (c__4 : Int) (c__5 : Bool) (n_ : Int) (now_ : Int) (events_ : Int) (w : World) (Q : Value → World → Prop) : Prop :=
  al 36 (#[(.int .i64 c__0), (.int .i64 c__1), (.int .u64 c__2), (.int .u64 c__3), (.int .i64 c__4), (.bool c__5)]) w fun a2 w1 =>
  al 34 (zeroT Try.prog 34).cells w1 fun a4 w3 =>
  ld Try.prog 4 (a2.add 5) w3 fun v5 => fB v5 fun b6 =>
  br b6 (ld Try.prog 3 (a2.add 1) w3 fun v7 => fI .i64 v7 fun x8 =>
  ld Try.prog 32 (a2.add 2) w3 fun v9 => fI .u64 v9 fun x10 =>
  ld Try.prog 32 (a2.add 3) w3 fun v11 => fI .u64 v11 fun x12 =>
  ld Try.prog 3 (a2.add 4) w3 fun v13 => fI .i64 v13 fun x14 =>
  st Try.prog 34 a4 (.agg #[(.int .i64 x8), (.int .u64 x10), (.int .u64 x12), (.int .i64 x14)]) w3 fun w15 =>
  ld Try.prog 34 a4 w15 fun v16 => fG v16 fun g17 =>
  Q (.agg g17) w15) (ld Try.prog 32 (a2.add 2) w3 fun v18 => fI .u64 v18 fun x19 =>
  ld Try.prog 32 (a2.add 3) w3 fun v20 => fI .u64 v20 fun x21 =>
  al 34 (zeroT Try.prog 34).cells w3 fun a23 w22 =>
  st Try.prog 34 a23 (.agg #[(.int .i64 0), (.int .u64 (IntKind.wrap .u64 (now_ + (Int.tmod x19 10)))), (.int .u64 (Int.tmod x21 12)), (.int .i64 events_)]) w22 fun w24 =>
  br (decide ((n_ : Int) > 0)) (ld Try.prog 3 (a2.add 1) w24 fun v50 => fI .i64 v50 fun x51 =>
  CallE Try.prog 13 #[(.int .i64 x51), (.int .i64 n_)] w24 fun v52 w53 => fI .i64 v52 fun x54 =>
  st Try.prog 3 (a23.add 0) (.int .i64 x54) w53 fun w55 =>
  W.law29_Call_at_k6 a2 a4 a23 w55 Q) (W.law29_Call_at_k6 a2 a4 a23 w24 Q))
theorem E.law29_Call_at (c__0 : Int) (c__1 : Int) (c__2 : Int) (c__3 : Int) (c__4 : Int) (c__5 : Bool) (n_ : Int) (now_ : Int) (events_ : Int) (w : World) (Q : Value → World → Prop) : ev Try.prog Try.f14.ntmps callable [] [] (Try.f14.body.getD .skip) (enumE 0 [(.agg #[(.int .i64 c__0), (.int .i64 c__1), (.int .u64 c__2), (.int .u64 c__3), (.int .i64 c__4), (.bool c__5)]), (.int .i64 n_), (.int .u64 now_), (.int .i64 events_)]) w (KQ Try.prog Try.f14.results.toList Q) = W.law29_Call_at c__0 c__1 c__2 c__3 c__4 c__5 n_ now_ events_ w Q := by kernel_rfl
theorem C.law29_Call_at (c__0 : Int) (c__1 : Int) (c__2 : Int) (c__3 : Int) (c__4 : Int) (c__5 : Bool) (n_ : Int) (now_ : Int) (events_ : Int) (w : World) (Q : Value → World → Prop) (h : W.law29_Call_at c__0 c__1 c__2 c__3 c__4 c__5 n_ now_ events_ w Q) : CallE Try.prog 14 #[(.agg #[(.int .i64 c__0), (.int .i64 c__1), (.int .u64 c__2), (.int .u64 c__3), (.int .i64 c__4), (.bool c__5)]), (.int .i64 n_), (.int .u64 now_), (.int .i64 events_)] w Q :=
  calls_of_ev mixed callable_ok (args := [(.agg #[(.int .i64 c__0), (.int .i64 c__1), (.int .u64 c__2), (.int .u64 c__3), (.int .i64 c__4), (.bool c__5)]), (.int .i64 n_), (.int .u64 now_), (.int .i64 events_)]) Try.func14 rfl ((E.law29_Call_at c__0 c__1 c__2 c__3 c__4 c__5 n_ now_ events_ w Q).symm ▸ h)

def W.law29_do_k9 (p0 : Addr) (p5 : Addr) (p8 : Int) (p26 : Bool) (w : World) (Q : Value → World → Prop) : Prop :=
  br p26 (ld Try.prog 3 (p5.add 0) w fun v20 => fI .i64 v20 fun x21 =>
  ld Try.prog 32 (p5.add 1) w fun v22 => fI .u64 v22 fun x23 =>
  ld Try.prog 32 (p5.add 2) w fun v24 => fI .u64 v24 fun x25 =>
  CallE Try.prog 23 #[(.pointer (some p0)), (.int .i64 x21), (.int .u64 x23), (.int .u64 x25)] w fun v26 w27 => fI .i64 v26 fun x28 =>
  Q (.int .i64 x28) w27) (br ((p8 : Int) == 5) (ld Try.prog 32 (p5.add 1) w fun v29 => fI .u64 v29 fun x30 =>
  ld Try.prog 32 (p5.add 2) w fun v31 => fI .u64 v31 fun x32 =>
  CallE Try.prog 24 #[(.pointer (some p0)), (.int .u64 x30), (.int .u64 x32)] w fun v33 w34 => fI .i64 v33 fun x35 =>
  Q (.int .i64 x35) w34) (br ((p8 : Int) == 6) (ld Try.prog 32 (p5.add 1) w fun v36 => fI .u64 v36 fun x37 =>
  CallE Try.prog 30 #[(.pointer (some p0)), (.int .u64 x37)] w fun v38 w39 => fI .i64 v38 fun x40 =>
  Q (.int .i64 x40) w39) (br ((p8 : Int) == 7) (ld Try.prog 3 (p5.add 3) w fun v41 => fI .i64 v41 fun x42 =>
  ld Try.prog 32 (p5.add 1) w fun v43 => fI .u64 v43 fun x44 =>
  CallE Try.prog 25 #[(.pointer (some p0)), (.int .i64 x42), (.int .u64 x44)] w fun v45 w46 => fI .i64 v45 fun x47 =>
  Q (.int .i64 x47) w46) (CallE Try.prog 29 #[(.pointer (some p0))] w fun v48 w49 => v48 = .tuple #[] ∧
  Q (.int .i64 0) w49))))
def W.law29_do_k4 (p0 : Addr) (p5 : Addr) (p8 : Int) (p9 : Bool) (w : World) (Q : Value → World → Prop) : Prop :=
  br p9 (ld Try.prog 3 (p5.add 0) w fun v6 => fI .i64 v6 fun x7 =>
  ld Try.prog 32 (p5.add 1) w fun v8 => fI .u64 v8 fun x9 =>
  CallE Try.prog 22 #[(.pointer (some p0)), (.int .i64 x7), (.int .u64 x9)] w fun v10 w11 => fI .i64 v10 fun x12 =>
  Q (.int .i64 x12) w11) (br ((p8 : Int) == 2) (ld Try.prog 3 (p5.add 0) w fun v13 => fI .i64 v13 fun x14 =>
  ld Try.prog 32 (p5.add 1) w fun v15 => fI .u64 v15 fun x16 =>
  CallE Try.prog 26 #[(.pointer (some p0)), (.int .i64 x14), (.int .u64 x16)] w fun v17 w18 => fI .i64 v17 fun x19 =>
  Q (.int .i64 x19) w18) (br ((p8 : Int) == 3) (W.law29_do_k9 p0 p5 p8 true w Q) (W.law29_do_k9 p0 p5 p8 ((p8 : Int) == 4) w Q)))
def W.law29_do (s_ : Addr) (kind_ : Int) (a__0 : Int) (a__1 : Int) (a__2 : Int) (a__3 : Int) (w : World) (Q : Value → World → Prop) : Prop :=
  al 34 (#[(.int .i64 a__0), (.int .u64 a__1), (.int .u64 a__2), (.int .i64 a__3)]) w fun a2 w1 =>
  CallE Try.prog 13 #[(.int .i64 kind_), (.int .i64 9)] w1 fun v3 w4 => fI .i64 v3 fun x5 =>
  br ((x5 : Int) == 0) (W.law29_do_k4 s_ a2 x5 true w4 Q) (W.law29_do_k4 s_ a2 x5 ((x5 : Int) == 1) w4 Q)
theorem E.law29_do (s_ : Addr) (kind_ : Int) (a__0 : Int) (a__1 : Int) (a__2 : Int) (a__3 : Int) (w : World) (Q : Value → World → Prop) : ev Try.prog Try.f15.ntmps callable [] [] (Try.f15.body.getD .skip) (enumE 0 [(.pointer (some s_)), (.int .i64 kind_), (.agg #[(.int .i64 a__0), (.int .u64 a__1), (.int .u64 a__2), (.int .i64 a__3)])]) w (KQ Try.prog Try.f15.results.toList Q) = W.law29_do s_ kind_ a__0 a__1 a__2 a__3 w Q := by kernel_rfl
theorem C.law29_do (s_ : Addr) (kind_ : Int) (a__0 : Int) (a__1 : Int) (a__2 : Int) (a__3 : Int) (w : World) (Q : Value → World → Prop) (h : W.law29_do s_ kind_ a__0 a__1 a__2 a__3 w Q) : CallE Try.prog 15 #[(.pointer (some s_)), (.int .i64 kind_), (.agg #[(.int .i64 a__0), (.int .u64 a__1), (.int .u64 a__2), (.int .i64 a__3)])] w Q :=
  calls_of_ev mixed callable_ok (args := [(.pointer (some s_)), (.int .i64 kind_), (.agg #[(.int .i64 a__0), (.int .u64 a__1), (.int .u64 a__2), (.int .i64 a__3)])]) Try.func15 rfl ((E.law29_do s_ kind_ a__0 a__1 a__2 a__3 w Q).symm ▸ h)

def W.law29_want_k9 (p0 : Addr) (p5 : Addr) (p8 : Int) (p26 : Bool) (w : World) (Q : Value → World → Prop) : Prop :=
  br p26 (ld Try.prog 3 (p5.add 0) w fun v20 => fI .i64 v20 fun x21 =>
  ld Try.prog 32 (p5.add 1) w fun v22 => fI .u64 v22 fun x23 =>
  ld Try.prog 32 (p5.add 2) w fun v24 => fI .u64 v24 fun x25 =>
  CallE Try.prog 32 #[(.pointer (some p0)), (.int .i64 x21), (.int .u64 x23), (.int .u64 x25)] w fun v26 w27 => fI .i64 v26 fun x28 =>
  Q (.int .i64 x28) w27) (br ((p8 : Int) == 5) (ld Try.prog 32 (p5.add 1) w fun v29 => fI .u64 v29 fun x30 =>
  ld Try.prog 32 (p5.add 2) w fun v31 => fI .u64 v31 fun x32 =>
  CallE Try.prog 33 #[(.pointer (some p0)), (.int .u64 x30), (.int .u64 x32)] w fun v33 w34 => fI .i64 v33 fun x35 =>
  Q (.int .i64 x35) w34) (br ((p8 : Int) == 6) (ld Try.prog 32 (p5.add 1) w fun v36 => fI .u64 v36 fun x37 =>
  CallE Try.prog 34 #[(.pointer (some p0)), (.int .u64 x37)] w fun v38 w39 => fI .i64 v38 fun x40 =>
  Q (.int .i64 x40) w39) (br ((p8 : Int) == 7) (ld Try.prog 3 (p5.add 3) w fun v41 => fI .i64 v41 fun x42 =>
  ld Try.prog 32 (p5.add 1) w fun v43 => fI .u64 v43 fun x44 =>
  CallE Try.prog 28 #[(.pointer (some p0)), (.int .i64 x42), (.int .u64 x44)] w fun v45 w46 => fI .i64 v45 fun x47 =>
  Q (.int .i64 x47) w46) (CallE Try.prog 35 #[(.pointer (some p0))] w fun v48 w49 => v48 = .tuple #[] ∧
  Q (.int .i64 0) w49))))
def W.law29_want_k4 (p0 : Addr) (p5 : Addr) (p8 : Int) (p9 : Bool) (w : World) (Q : Value → World → Prop) : Prop :=
  br p9 (ld Try.prog 3 (p5.add 0) w fun v6 => fI .i64 v6 fun x7 =>
  ld Try.prog 32 (p5.add 1) w fun v8 => fI .u64 v8 fun x9 =>
  CallE Try.prog 31 #[(.pointer (some p0)), (.int .i64 x7), (.int .u64 x9)] w fun v10 w11 => fI .i64 v10 fun x12 =>
  Q (.int .i64 x12) w11) (br ((p8 : Int) == 2) (ld Try.prog 3 (p5.add 0) w fun v13 => fI .i64 v13 fun x14 =>
  ld Try.prog 32 (p5.add 1) w fun v15 => fI .u64 v15 fun x16 =>
  CallE Try.prog 27 #[(.pointer (some p0)), (.int .i64 x14), (.int .u64 x16)] w fun v17 w18 => fI .i64 v17 fun x19 =>
  Q (.int .i64 x19) w18) (br ((p8 : Int) == 3) (W.law29_want_k9 p0 p5 p8 true w Q) (W.law29_want_k9 p0 p5 p8 ((p8 : Int) == 4) w Q)))
def W.law29_want (s_ : Addr) (kind_ : Int) (a__0 : Int) (a__1 : Int) (a__2 : Int) (a__3 : Int) (w : World) (Q : Value → World → Prop) : Prop :=
  al 34 (#[(.int .i64 a__0), (.int .u64 a__1), (.int .u64 a__2), (.int .i64 a__3)]) w fun a2 w1 =>
  CallE Try.prog 13 #[(.int .i64 kind_), (.int .i64 9)] w1 fun v3 w4 => fI .i64 v3 fun x5 =>
  br ((x5 : Int) == 0) (W.law29_want_k4 s_ a2 x5 true w4 Q) (W.law29_want_k4 s_ a2 x5 ((x5 : Int) == 1) w4 Q)
theorem E.law29_want (s_ : Addr) (kind_ : Int) (a__0 : Int) (a__1 : Int) (a__2 : Int) (a__3 : Int) (w : World) (Q : Value → World → Prop) : ev Try.prog Try.f16.ntmps callable [] [] (Try.f16.body.getD .skip) (enumE 0 [(.pointer (some s_)), (.int .i64 kind_), (.agg #[(.int .i64 a__0), (.int .u64 a__1), (.int .u64 a__2), (.int .i64 a__3)])]) w (KQ Try.prog Try.f16.results.toList Q) = W.law29_want s_ kind_ a__0 a__1 a__2 a__3 w Q := by kernel_rfl
theorem C.law29_want (s_ : Addr) (kind_ : Int) (a__0 : Int) (a__1 : Int) (a__2 : Int) (a__3 : Int) (w : World) (Q : Value → World → Prop) (h : W.law29_want s_ kind_ a__0 a__1 a__2 a__3 w Q) : CallE Try.prog 16 #[(.pointer (some s_)), (.int .i64 kind_), (.agg #[(.int .i64 a__0), (.int .u64 a__1), (.int .u64 a__2), (.int .i64 a__3)])] w Q :=
  calls_of_ev mixed callable_ok (args := [(.pointer (some s_)), (.int .i64 kind_), (.agg #[(.int .i64 a__0), (.int .u64 a__1), (.int .u64 a__2), (.int .i64 a__3)])]) Try.func16 rfl ((E.law29_want s_ kind_ a__0 a__1 a__2 a__3 w Q).symm ▸ h)

def W.wakeup_Sources_Counts (s_ : Addr) (w : World) (Q : Value → World → Prop) : Prop :=
  ld Try.prog 60 (s_.add 0) w fun v1 => fG v1 fun g2 =>
  LoopW (S := Int × Int × Unit) (fun s3 w4 next5 =>
  br (decide ((s3.2.1 : Int) < 32)) (rq Try.prog (Instr.index 60 (.agg g2) (.int .i64 s3.2.1)) w4 fun v6 => fG v6 fun g7 =>
  al 59 (zeroT Try.prog 59).cells w4 fun a9 w8 =>
  st Try.prog 59 a9 (.agg g7) w8 fun w10 =>
  ld Try.prog 4 (a9.add 0) w10 fun v11 => fB v11 fun b12 =>
  br b12 (next5 (((IntKind.wrap .i64 (s3.1 + 1)) : Int), ((IntKind.wrap .i64 (s3.2.1 + 1)) : Int), ()) w10) (next5 ((s3.1 : Int), ((IntKind.wrap .i64 (s3.2.1 + 1)) : Int), ()) w10)) (ld Try.prog 3 (s_.add 99) w4 fun v13 => fI .i64 v13 fun x14 =>
  Q (.tuple #[(.int .i64 x14), (.int .i64 s3.1)]) w4)) ((0 : Int), (0 : Int), ()) w
theorem E.wakeup_Sources_Counts (s_ : Addr) (w : World) (Q : Value → World → Prop) : ev Try.prog Try.f17.ntmps callable [(3, [(4, .int .i64 0), (11, .int .i64 0)], [0, 10])] [] (Try.f17.body.getD .skip) (enumE 0 [(.pointer (some s_))]) w (KQ Try.prog Try.f17.results.toList Q) = W.wakeup_Sources_Counts s_ w Q := by kernel_rfl
theorem C.wakeup_Sources_Counts (s_ : Addr) (w : World) (Q : Value → World → Prop) (h : W.wakeup_Sources_Counts s_ w Q) : CallE Try.prog 17 #[(.pointer (some s_))] w Q :=
  calls_of_ev mixed callable_ok (args := [(.pointer (some s_))]) Try.func17 rfl ((E.wakeup_Sources_Counts s_ w Q).symm ▸ h)

def W.ref29_Sources_Counts (s_ : Addr) (w : World) (Q : Value → World → Prop) : Prop :=
  LoopW (S := Int × Int × Unit) (fun s1 w2 next3 =>
  ld Try.prog 38 (s_.add 0) w2 fun v4 => fS v4 fun l5 l5n l5c =>
  br (decide ((s1.2.1 : Int) < ((l5n : Nat) : Int))) (ld Try.prog 38 (s_.add 0) w2 fun v6 => fS v6 fun l7 l7n l7c =>
  rq Try.prog (Instr.indexAt 38 (.slice l7 l7n l7c) (.int .i64 s1.2.1)) w2 fun v8 => fA v8 fun a9 =>
  ld Try.prog 4 a9 w2 fun v10 => fB v10 fun b11 =>
  br b11 (next3 (((IntKind.wrap .i64 (s1.1 + 1)) : Int), ((IntKind.wrap .i64 (s1.2.1 + 1)) : Int), ()) w2) (next3 ((s1.1 : Int), ((IntKind.wrap .i64 (s1.2.1 + 1)) : Int), ()) w2)) (ld Try.prog 3 (s_.add 4) w2 fun v12 => fI .i64 v12 fun x13 =>
  Q (.tuple #[(.int .i64 x13), (.int .i64 s1.1)]) w2)) ((0 : Int), (0 : Int), ()) w
theorem E.ref29_Sources_Counts (s_ : Addr) (w : World) (Q : Value → World → Prop) : ev Try.prog Try.f18.ntmps callable [(3, [(4, .int .i64 0), (5, .int .i64 0)], [0])] [] (Try.f18.body.getD .skip) (enumE 0 [(.pointer (some s_))]) w (KQ Try.prog Try.f18.results.toList Q) = W.ref29_Sources_Counts s_ w Q := by kernel_rfl
theorem C.ref29_Sources_Counts (s_ : Addr) (w : World) (Q : Value → World → Prop) (h : W.ref29_Sources_Counts s_ w Q) : CallE Try.prog 18 #[(.pointer (some s_))] w Q :=
  calls_of_ev mixed callable_ok (args := [(.pointer (some s_))]) Try.func18 rfl ((E.ref29_Sources_Counts s_ w Q).symm ▸ h)

def W.wakeup_Sources_MustAbort (s_ : Addr) (w : World) (Q : Value → World → Prop) : Prop :=
  CallE Try.prog 17 #[(.pointer (some s_))] w fun v1 w2 => ∃ (x3 : Int) (x4 : Int), v1 = .tuple #[(.int .i64 x3), (.int .i64 x4)] ∧
  ld Try.prog 4 (s_.add 100) w2 fun v5 => fB v5 fun b6 =>
  br b6 (ld Try.prog 3 (s_.add 101) w2 fun v7 => fI .i64 v7 fun x8 =>
  br ((x3 : Int) != x8) (Q (.bool true) w2) (Q (.bool (decide ((x4 : Int) > 0))) w2)) (Q (.bool false) w2)
theorem E.wakeup_Sources_MustAbort (s_ : Addr) (w : World) (Q : Value → World → Prop) : ev Try.prog Try.f19.ntmps callable [] [] (Try.f19.body.getD .skip) (enumE 0 [(.pointer (some s_))]) w (KQ Try.prog Try.f19.results.toList Q) = W.wakeup_Sources_MustAbort s_ w Q := by kernel_rfl
theorem C.wakeup_Sources_MustAbort (s_ : Addr) (w : World) (Q : Value → World → Prop) (h : W.wakeup_Sources_MustAbort s_ w Q) : CallE Try.prog 19 #[(.pointer (some s_))] w Q :=
  calls_of_ev mixed callable_ok (args := [(.pointer (some s_))]) Try.func19 rfl ((E.wakeup_Sources_MustAbort s_ w Q).symm ▸ h)

def W.ref29_Sources_MustAbort (s_ : Addr) (w : World) (Q : Value → World → Prop) : Prop :=
  CallE Try.prog 18 #[(.pointer (some s_))] w fun v1 w2 => ∃ (x3 : Int) (x4 : Int), v1 = .tuple #[(.int .i64 x3), (.int .i64 x4)] ∧
  ld Try.prog 4 (s_.add 5) w2 fun v5 => fB v5 fun b6 =>
  br b6 (ld Try.prog 3 (s_.add 6) w2 fun v7 => fI .i64 v7 fun x8 =>
  br ((x3 : Int) != x8) (Q (.bool true) w2) (Q (.bool (decide ((x4 : Int) > 0))) w2)) (Q (.bool false) w2)
theorem E.ref29_Sources_MustAbort (s_ : Addr) (w : World) (Q : Value → World → Prop) : ev Try.prog Try.f20.ntmps callable [] [] (Try.f20.body.getD .skip) (enumE 0 [(.pointer (some s_))]) w (KQ Try.prog Try.f20.results.toList Q) = W.ref29_Sources_MustAbort s_ w Q := by kernel_rfl
theorem C.ref29_Sources_MustAbort (s_ : Addr) (w : World) (Q : Value → World → Prop) (h : W.ref29_Sources_MustAbort s_ w Q) : CallE Try.prog 20 #[(.pointer (some s_))] w Q :=
  calls_of_ev mixed callable_ok (args := [(.pointer (some s_))]) Try.func20 rfl ((E.ref29_Sources_MustAbort s_ w Q).symm ▸ h)

def W.law29_start_k11 (p0 : Int) (p1 : Option Addr) (p1n : Nat) (p1c : Nat) (p7 : Option Addr) (p9 : Option Addr) (p11 : Int) (p12 : Addr) (p13 : Addr) (next13 : (Int × Unit) → World → Prop) (w : World) (Q : Value → World → Prop) : Prop :=
  ld Try.prog 3 (p12.add 0) w fun v22 => fI .i64 v22 fun x23 =>
  ld Try.prog 34 p13 w fun v24 => fG v24 fun g25 =>
  CallE Try.prog 15 #[(.pointer p7), (.int .i64 x23), (.agg g25)] w fun v26 w27 => fI .i64 v26 fun x28 =>
  ld Try.prog 3 (p12.add 0) w27 fun v29 => fI .i64 v29 fun x30 =>
  ld Try.prog 34 p13 w27 fun v31 => fG v31 fun g32 =>
  CallE Try.prog 16 #[(.pointer p9), (.int .i64 x30), (.agg g32)] w27 fun v33 w34 => fI .i64 v33 fun x35 =>
  next13 (((IntKind.wrap .i64 (p11 + 1)) : Int), ()) w34
def W.law29_start (n_ : Int) (l_ : Option Addr) (l_n : Nat) (l_c : Nat) (w : World) (Q : Value → World → Prop) : Prop :=
  CallE Try.prog 11 #[(.int .i64 n_)] w fun v1 w2 => ∃ (p3 : Option Addr) (x4 : Int), v1 = .tuple #[(.pointer p3), (.int .i64 x4)] ∧
  CallE Try.prog 12 #[(.int .i64 n_)] w2 fun v5 w6 => ∃ (p7 : Option Addr) (x8 : Int), v5 = .tuple #[(.pointer p7), (.int .i64 x8)] ∧
  br ((x4 : Int) != 0) (Q (.tuple #[(.pointer none), (.pointer none), (.bool false)]) w6) (br ((x8 : Int) != 0) (Q (.tuple #[(.pointer none), (.pointer none), (.bool false)]) w6) (rq Try.prog (do eqGuard .eql 24 (.tmp 31) (.const (.pointer none)) (.pointer p3) (.pointer none); binOp .eql 24 (.pointer p3) (.pointer none)) w6 fun v9 => fB v9 fun b10 =>
  br b10 (Q (.tuple #[(.pointer none), (.pointer none), (.bool false)]) w6) (LoopW (S := Int × Unit) (fun s11 w12 next13 =>
  br (decide ((s11.1 : Int) < ((l_n : Nat) : Int))) (rq Try.prog (Instr.indexAt 22 (.slice l_ l_n l_c) (.int .i64 s11.1)) w12 fun v14 => fA v14 fun a15 =>
  ld Try.prog 36 a15 w12 fun v16 => fG v16 fun g17 =>
  al 36 (zeroT Try.prog 36).cells w12 fun a19 w18 =>
  st Try.prog 36 a19 (.agg g17) w18 fun w20 =>
  st Try.prog 4 (a19.add 5) (.bool false) w20 fun w21 =>
  drawE fun S36 => S36 (drew w21) ∧ (ldS Try.prog S36 36 a19 fun v37 => fG v37 fun g38 =>
  nn p7 fun a39 =>
  ldS Try.prog S36 32 (a39.add 7) fun v40 => fI .u64 v40 fun x41 =>
  nn p7 fun a42 =>
  ldS Try.prog S36 3 (a42.add 4) fun v43 => fI .i64 v43 fun x44 =>
  (CallE Try.prog 14 #[(.agg g38), (.int .i64 n_), (.int .u64 x41), (.int .i64 x44)] (drew w21) fun v45 w46 => fG v45 fun g47 =>
  S36 w46 ∧ (al 34 (zeroT Try.prog 34).cells w46 fun a49 w48 =>
  S36 w48 ∧ (st Try.prog 34 a49 (.agg g47) w48 fun w50 =>
  S36 w50 ∧ (W.law29_start_k11 n_ l_ l_n l_c p3 p7 s11.1 a19 a49 next13 w50 Q)))) ∧ (al 34 (zeroT Try.prog 34).cells (drew w21) fun a52 w51 =>
  S36 w51 ∧ (CallE Try.prog 14 #[(.agg g38), (.int .i64 n_), (.int .u64 x41), (.int .i64 x44)] w51 fun v53 w54 => fG v53 fun g55 =>
  S36 w54 ∧ (st Try.prog 34 a52 (.agg g55) w54 fun w56 =>
  S36 w56 ∧ (W.law29_start_k11 n_ l_ l_n l_c p3 p7 s11.1 a19 a52 next13 w56 Q)))))) (Q (.tuple #[(.pointer p3), (.pointer p7), (.bool true)]) w12)) ((0 : Int), ()) w6)))
theorem E.law29_start (n_ : Int) (l_ : Option Addr) (l_n : Nat) (l_c : Nat) (w : World) (Q : Value → World → Prop) : ev Try.prog Try.f21.ntmps callable [(6, [(11, .int .i64 0)], [0, 1, 7, 9])] [] (Try.f21.body.getD .skip) (enumE 0 [(.int .i64 n_), (.slice l_ l_n l_c)]) w (KQ Try.prog Try.f21.results.toList Q) = W.law29_start n_ l_ l_n l_c w Q := by kernel_rfl
theorem C.law29_start (n_ : Int) (l_ : Option Addr) (l_n : Nat) (l_c : Nat) (w : World) (Q : Value → World → Prop) (h : W.law29_start n_ l_ l_n l_c w Q) : CallE Try.prog 21 #[(.int .i64 n_), (.slice l_ l_n l_c)] w Q :=
  calls_of_ev mixed callable_ok (args := [(.int .i64 n_), (.slice l_ l_n l_c)]) Try.func21 rfl ((E.law29_start n_ l_ l_n l_c w Q).symm ▸ h)

def W.wakeup_Sources_Activate (s_ : Addr) (source_ : Int) (now_ : Int) (w : World) (Q : Value → World → Prop) : Prop :=
  CallE Try.prog 36 #[(.pointer (some s_)), (.int .i64 source_)] w fun v1 w2 => fB v1 fun b3 =>
  br (!b3) (Q (.int .i64 1) w2) (CallE Try.prog 37 #[(.pointer (some s_)), (.int .u64 now_)] w2 fun v4 w5 => fB v4 fun b6 =>
  br (!b6) (Q (.int .i64 1) w5) (CallE Try.prog 38 #[(.pointer (some s_)), (.int .u64 now_)] w5 fun v7 w8 => v7 = .tuple #[] ∧
  rq Try.prog (Instr.indexAt 60 (.pointer (some (s_.add 0))) (.int .i64 source_)) w8 fun v9 => fA v9 fun a10 =>
  st Try.prog 4 (a10.add 0) (.bool true) w8 fun w11 =>
  CallE Try.prog 39 #[(.pointer (some s_)), (.int .i64 source_)] w11 fun v12 w13 => v12 = .tuple #[] ∧
  Q (.int .i64 0) w13))
theorem E.wakeup_Sources_Activate (s_ : Addr) (source_ : Int) (now_ : Int) (w : World) (Q : Value → World → Prop) : ev Try.prog Try.f22.ntmps callable [] [] (Try.f22.body.getD .skip) (enumE 0 [(.pointer (some s_)), (.int .i64 source_), (.int .u64 now_)]) w (KQ Try.prog Try.f22.results.toList Q) = W.wakeup_Sources_Activate s_ source_ now_ w Q := by kernel_rfl
theorem C.wakeup_Sources_Activate (s_ : Addr) (source_ : Int) (now_ : Int) (w : World) (Q : Value → World → Prop) (h : W.wakeup_Sources_Activate s_ source_ now_ w Q) : CallE Try.prog 22 #[(.pointer (some s_)), (.int .i64 source_), (.int .u64 now_)] w Q :=
  calls_of_ev mixed callable_ok (args := [(.pointer (some s_)), (.int .i64 source_), (.int .u64 now_)]) Try.func22 rfl ((E.wakeup_Sources_Activate s_ source_ now_ w Q).symm ▸ h)

def W.wakeup_Sources_Pulse_k11 (p0 : Addr) (p2 : Int) (w : World) (Q : Value → World → Prop) : Prop :=
  CallE Try.prog 38 #[(.pointer (some p0)), (.int .u64 p2)] w fun v11 w12 => v11 = .tuple #[] ∧
  Q (.int .i64 0) w12
def W.wakeup_Sources_Pulse (s_ : Addr) (source_ : Int) (now_ : Int) (hold_ : Int) (w : World) (Q : Value → World → Prop) : Prop :=
  CallE Try.prog 36 #[(.pointer (some s_)), (.int .i64 source_)] w fun v1 w2 => fB v1 fun b3 =>
  br (!b3) (Q (.int .i64 1) w2) (CallE Try.prog 37 #[(.pointer (some s_)), (.int .u64 now_)] w2 fun v4 w5 => fB v4 fun b6 =>
  br (!b6) (Q (.int .i64 1) w5) (br (decide ((hold_ : Int) > 1152921504606846976)) (Q (.int .i64 1) w5) (CallE Try.prog 38 #[(.pointer (some s_)), (.int .u64 now_)] w5 fun v7 w8 => v7 = .tuple #[] ∧
  rq Try.prog (Instr.indexAt 60 (.pointer (some (s_.add 0))) (.int .i64 source_)) w8 fun v9 => fA v9 fun a10 =>
  ld Try.prog 4 (a10.add 0) w8 fun v13 => fB v13 fun b14 =>
  br (!b14) (st Try.prog 4 (a10.add 0) (.bool true) w8 fun w15 =>
  st Try.prog 4 (a10.add 1) (.bool true) w15 fun w16 =>
  st Try.prog 32 (a10.add 2) (.int .u64 (IntKind.wrap .u64 (now_ + hold_))) w16 fun w17 =>
  W.wakeup_Sources_Pulse_k11 s_ now_ w17 Q) (ld Try.prog 4 (a10.add 1) w8 fun v18 => fB v18 fun b19 =>
  br b19 (ld Try.prog 32 (a10.add 2) w8 fun v20 => fI .u64 v20 fun x21 =>
  st Try.prog 32 (a10.add 2) (.int .u64 (if (IntKind.wrap .u64 (now_ + hold_)) > x21 then (IntKind.wrap .u64 (now_ + hold_)) else x21)) w8 fun w22 =>
  W.wakeup_Sources_Pulse_k11 s_ now_ w22 Q) (W.wakeup_Sources_Pulse_k11 s_ now_ w8 Q)))))
theorem E.wakeup_Sources_Pulse (s_ : Addr) (source_ : Int) (now_ : Int) (hold_ : Int) (w : World) (Q : Value → World → Prop) : ev Try.prog Try.f23.ntmps callable [] [] (Try.f23.body.getD .skip) (enumE 0 [(.pointer (some s_)), (.int .i64 source_), (.int .u64 now_), (.int .u64 hold_)]) w (KQ Try.prog Try.f23.results.toList Q) = W.wakeup_Sources_Pulse s_ source_ now_ hold_ w Q := by kernel_rfl
theorem C.wakeup_Sources_Pulse (s_ : Addr) (source_ : Int) (now_ : Int) (hold_ : Int) (w : World) (Q : Value → World → Prop) (h : W.wakeup_Sources_Pulse s_ source_ now_ hold_ w Q) : CallE Try.prog 23 #[(.pointer (some s_)), (.int .i64 source_), (.int .u64 now_), (.int .u64 hold_)] w Q :=
  calls_of_ev mixed callable_ok (args := [(.pointer (some s_)), (.int .i64 source_), (.int .u64 now_), (.int .u64 hold_)]) Try.func23 rfl ((E.wakeup_Sources_Pulse s_ source_ now_ hold_ w Q).symm ▸ h)

def W.wakeup_Sources_SetAlarm (s_ : Addr) (now_ : Int) (at_ : Int) (w : World) (Q : Value → World → Prop) : Prop :=
  CallE Try.prog 37 #[(.pointer (some s_)), (.int .u64 now_)] w fun v1 w2 => fB v1 fun b3 =>
  br (!b3) (Q (.int .i64 1) w2) (br (decide ((at_ : Int) > 1152921504606846976)) (Q (.int .i64 1) w2) (CallE Try.prog 38 #[(.pointer (some s_)), (.int .u64 now_)] w2 fun v4 w5 => v4 = .tuple #[] ∧
  st Try.prog 4 (s_.add 97) (.bool true) w5 fun w6 =>
  st Try.prog 32 (s_.add 98) (.int .u64 at_) w6 fun w7 =>
  CallE Try.prog 38 #[(.pointer (some s_)), (.int .u64 now_)] w7 fun v8 w9 => v8 = .tuple #[] ∧
  Q (.int .i64 0) w9))
theorem E.wakeup_Sources_SetAlarm (s_ : Addr) (now_ : Int) (at_ : Int) (w : World) (Q : Value → World → Prop) : ev Try.prog Try.f24.ntmps callable [] [] (Try.f24.body.getD .skip) (enumE 0 [(.pointer (some s_)), (.int .u64 now_), (.int .u64 at_)]) w (KQ Try.prog Try.f24.results.toList Q) = W.wakeup_Sources_SetAlarm s_ now_ at_ w Q := by kernel_rfl
theorem C.wakeup_Sources_SetAlarm (s_ : Addr) (now_ : Int) (at_ : Int) (w : World) (Q : Value → World → Prop) (h : W.wakeup_Sources_SetAlarm s_ now_ at_ w Q) : CallE Try.prog 24 #[(.pointer (some s_)), (.int .u64 now_), (.int .u64 at_)] w Q :=
  calls_of_ev mixed callable_ok (args := [(.pointer (some s_)), (.int .u64 now_), (.int .u64 at_)]) Try.func24 rfl ((E.wakeup_Sources_SetAlarm s_ now_ at_ w Q).symm ▸ h)

def W.wakeup_Sources_Arm (s_ : Addr) (events_ : Int) (now_ : Int) (w : World) (Q : Value → World → Prop) : Prop :=
  CallE Try.prog 37 #[(.pointer (some s_)), (.int .u64 now_)] w fun v1 w2 => fB v1 fun b3 =>
  br (!b3) (Q (.int .i64 1) w2) (ld Try.prog 62 s_ w2 fun v4 => fG v4 fun g5 =>
  al 62 (zeroT Try.prog 62).cells w2 fun a7 w6 =>
  st Try.prog 62 a7 (.agg g5) w6 fun w8 =>
  CallE Try.prog 38 #[(.pointer (some a7)), (.int .u64 now_)] w8 fun v9 w10 => v9 = .tuple #[] ∧
  CallE Try.prog 17 #[(.pointer (some a7))] w10 fun v11 w12 => ∃ (x13 : Int) (x14 : Int), v11 = .tuple #[(.int .i64 x13), (.int .i64 x14)] ∧
  br ((x13 : Int) != events_) (Q (.int .i64 17) w12) (br (decide ((x14 : Int) > 0)) (Q (.int .i64 17) w12) (st Try.prog 4 (a7.add 100) (.bool true) w12 fun w15 =>
  st Try.prog 3 (a7.add 101) (.int .i64 events_) w15 fun w16 =>
  ld Try.prog 62 a7 w16 fun v17 => fG v17 fun g18 =>
  st Try.prog 62 s_ (.agg g18) w16 fun w19 =>
  Q (.int .i64 0) w19)))
theorem E.wakeup_Sources_Arm (s_ : Addr) (events_ : Int) (now_ : Int) (w : World) (Q : Value → World → Prop) : ev Try.prog Try.f25.ntmps callable [] [] (Try.f25.body.getD .skip) (enumE 0 [(.pointer (some s_)), (.int .i64 events_), (.int .u64 now_)]) w (KQ Try.prog Try.f25.results.toList Q) = W.wakeup_Sources_Arm s_ events_ now_ w Q := by kernel_rfl
theorem C.wakeup_Sources_Arm (s_ : Addr) (events_ : Int) (now_ : Int) (w : World) (Q : Value → World → Prop) (h : W.wakeup_Sources_Arm s_ events_ now_ w Q) : CallE Try.prog 25 #[(.pointer (some s_)), (.int .i64 events_), (.int .u64 now_)] w Q :=
  calls_of_ev mixed callable_ok (args := [(.pointer (some s_)), (.int .i64 events_), (.int .u64 now_)]) Try.func25 rfl ((E.wakeup_Sources_Arm s_ events_ now_ w Q).symm ▸ h)

def W.wakeup_Sources_Deactivate (s_ : Addr) (source_ : Int) (now_ : Int) (w : World) (Q : Value → World → Prop) : Prop :=
  CallE Try.prog 36 #[(.pointer (some s_)), (.int .i64 source_)] w fun v1 w2 => fB v1 fun b3 =>
  br (!b3) (Q (.int .i64 1) w2) (CallE Try.prog 37 #[(.pointer (some s_)), (.int .u64 now_)] w2 fun v4 w5 => fB v4 fun b6 =>
  br (!b6) (Q (.int .i64 1) w5) (CallE Try.prog 38 #[(.pointer (some s_)), (.int .u64 now_)] w5 fun v7 w8 => v7 = .tuple #[] ∧
  rq Try.prog (Instr.indexAt 60 (.pointer (some (s_.add 0))) (.int .i64 source_)) w8 fun v9 => fA v9 fun a10 =>
  ld Try.prog 4 (a10.add 0) w8 fun v11 => fB v11 fun b12 =>
  br b12 (CallE Try.prog 40 #[(.pointer (some s_)), (.int .i64 source_)] w8 fun v13 w14 => v13 = .tuple #[] ∧
  Q (.int .i64 0) w14) (Q (.int .i64 0) w8)))
theorem E.wakeup_Sources_Deactivate (s_ : Addr) (source_ : Int) (now_ : Int) (w : World) (Q : Value → World → Prop) : ev Try.prog Try.f26.ntmps callable [] [] (Try.f26.body.getD .skip) (enumE 0 [(.pointer (some s_)), (.int .i64 source_), (.int .u64 now_)]) w (KQ Try.prog Try.f26.results.toList Q) = W.wakeup_Sources_Deactivate s_ source_ now_ w Q := by kernel_rfl
theorem C.wakeup_Sources_Deactivate (s_ : Addr) (source_ : Int) (now_ : Int) (w : World) (Q : Value → World → Prop) (h : W.wakeup_Sources_Deactivate s_ source_ now_ w Q) : CallE Try.prog 26 #[(.pointer (some s_)), (.int .i64 source_), (.int .u64 now_)] w Q :=
  calls_of_ev mixed callable_ok (args := [(.pointer (some s_)), (.int .i64 source_), (.int .u64 now_)]) Try.func26 rfl ((E.wakeup_Sources_Deactivate s_ source_ now_ w Q).symm ▸ h)

def W.ref29_Sources_Deactivate (s_ : Addr) (source_ : Int) (now_ : Int) (w : World) (Q : Value → World → Prop) : Prop :=
  CallE Try.prog 41 #[(.pointer (some s_)), (.int .i64 source_), (.int .u64 now_)] w fun v1 w2 => fB v1 fun b3 =>
  br b3 (Q (.int .i64 1) w2) (CallE Try.prog 42 #[(.pointer (some s_)), (.int .u64 now_)] w2 fun v4 w5 => v4 = .tuple #[] ∧
  ld Try.prog 38 (s_.add 0) w5 fun v6 => fS v6 fun l7 l7n l7c =>
  rq Try.prog (Instr.indexAt 38 (.slice l7 l7n l7c) (.int .i64 source_)) w5 fun v8 => fA v8 fun a9 =>
  ld Try.prog 4 a9 w5 fun v10 => fB v10 fun b11 =>
  br b11 (ld Try.prog 38 (s_.add 0) w5 fun v12 => fS v12 fun l13 l13n l13c =>
  rq Try.prog (Instr.indexAt 38 (.slice l13 l13n l13c) (.int .i64 source_)) w5 fun v14 => fA v14 fun a15 =>
  st Try.prog 4 a15 (.bool false) w5 fun w16 =>
  ld Try.prog 3 (s_.add 4) w16 fun v17 => fI .i64 v17 fun x18 =>
  st Try.prog 3 (s_.add 4) (.int .i64 (IntKind.wrap .i64 (x18 + 1))) w16 fun w19 =>
  Q (.int .i64 0) w19) (Q (.int .i64 0) w5))
theorem E.ref29_Sources_Deactivate (s_ : Addr) (source_ : Int) (now_ : Int) (w : World) (Q : Value → World → Prop) : ev Try.prog Try.f27.ntmps callable [] [] (Try.f27.body.getD .skip) (enumE 0 [(.pointer (some s_)), (.int .i64 source_), (.int .u64 now_)]) w (KQ Try.prog Try.f27.results.toList Q) = W.ref29_Sources_Deactivate s_ source_ now_ w Q := by kernel_rfl
theorem C.ref29_Sources_Deactivate (s_ : Addr) (source_ : Int) (now_ : Int) (w : World) (Q : Value → World → Prop) (h : W.ref29_Sources_Deactivate s_ source_ now_ w Q) : CallE Try.prog 27 #[(.pointer (some s_)), (.int .i64 source_), (.int .u64 now_)] w Q :=
  calls_of_ev mixed callable_ok (args := [(.pointer (some s_)), (.int .i64 source_), (.int .u64 now_)]) Try.func27 rfl ((E.ref29_Sources_Deactivate s_ source_ now_ w Q).symm ▸ h)

def W.ref29_Sources_Arm_k4 (p0 : Addr) (p1 : Int) (p2 : Int) (p7 : Addr) (w : World) (Q : Value → World → Prop) : Prop :=
  CallE Try.prog 42 #[(.pointer (some p7)), (.int .u64 p2)] w fun v4 w5 => v4 = .tuple #[] ∧
  CallE Try.prog 18 #[(.pointer (some p7))] w5 fun v6 w7 => ∃ (x8 : Int) (x9 : Int), v6 = .tuple #[(.int .i64 x8), (.int .i64 x9)] ∧
  br ((x8 : Int) != p1) (Q (.int .i64 17) w7) (br (decide ((x9 : Int) > 0)) (Q (.int .i64 17) w7) (CallE Try.prog 42 #[(.pointer (some p0)), (.int .u64 p2)] w7 fun v10 w11 => v10 = .tuple #[] ∧
  st Try.prog 4 (p0.add 5) (.bool true) w11 fun w12 =>
  st Try.prog 3 (p0.add 6) (.int .i64 p1) w12 fun w13 =>
  Q (.int .i64 0) w13))
def W.ref29_Sources_Arm (s_ : Addr) (events_ : Int) (now_ : Int) (w : World) (Q : Value → World → Prop) : Prop :=
  CallE Try.prog 43 #[(.pointer (some s_)), (.int .u64 now_)] w fun v1 w2 => fB v1 fun b3 =>
  br b3 (Q (.int .i64 1) w2) (drawE fun S14 => S14 (drew w2) ∧ (ldS Try.prog S14 38 (s_.add 0) fun v15 => fS v15 fun l16 l16n l16c =>
  ldS Try.prog S14 39 (s_.add 1) fun v17 => fS v17 fun l18 l18n l18c =>
  ldS Try.prog S14 32 (s_.add 2) fun v19 => fI .u64 v19 fun x20 =>
  ldS Try.prog S14 4 (s_.add 3) fun v21 => fB v21 fun b22 =>
  ldS Try.prog S14 3 (s_.add 4) fun v23 => fI .i64 v23 fun x24 =>
  (al 4 #[] (drew w2) fun a26 w25 =>
  S14 w25 ∧ ((rv Try.prog (Builtin.append_ #[38, 38] 38 #[(.slice (some a26) 0 0), (.slice l16 l16n l16c)]) w25 fun v27 w28 => fS v27 fun l29 l29n l29c =>
  S14 w28 ∧ (al 32 #[] w28 fun a31 w30 =>
  S14 w30 ∧ (rv Try.prog (Builtin.append_ #[39, 39] 39 #[(.slice (some a31) 0 0), (.slice l18 l18n l18c)]) w30 fun v32 w33 => fS v32 fun l34 l34n l34c =>
  S14 w33 ∧ (al 41 (#[(.slice l29 l29n l29c), (.slice l34 l34n l34c), (.int .u64 x20), (.bool b22), (.int .i64 x24), (.bool false), (.int .i64 0), (.int .u64 0)]) w33 fun a36 w35 =>
  S14 w35 ∧ (W.ref29_Sources_Arm_k4 s_ events_ now_ a36 w35 Q))))) ∧ (al 32 #[] w25 fun a38 w37 =>
  S14 w37 ∧ (rv Try.prog (Builtin.append_ #[38, 38] 38 #[(.slice (some a26) 0 0), (.slice l16 l16n l16c)]) w37 fun v39 w40 => fS v39 fun l41 l41n l41c =>
  S14 w40 ∧ (rv Try.prog (Builtin.append_ #[39, 39] 39 #[(.slice (some a38) 0 0), (.slice l18 l18n l18c)]) w40 fun v42 w43 => fS v42 fun l44 l44n l44c =>
  S14 w43 ∧ (al 41 (#[(.slice l41 l41n l41c), (.slice l44 l44n l44c), (.int .u64 x20), (.bool b22), (.int .i64 x24), (.bool false), (.int .i64 0), (.int .u64 0)]) w43 fun a46 w45 =>
  S14 w45 ∧ (W.ref29_Sources_Arm_k4 s_ events_ now_ a46 w45 Q))))))) ∧ (al 32 #[] (drew w2) fun a48 w47 =>
  S14 w47 ∧ (al 4 #[] w47 fun a50 w49 =>
  S14 w49 ∧ (rv Try.prog (Builtin.append_ #[38, 38] 38 #[(.slice (some a50) 0 0), (.slice l16 l16n l16c)]) w49 fun v51 w52 => fS v51 fun l53 l53n l53c =>
  S14 w52 ∧ (rv Try.prog (Builtin.append_ #[39, 39] 39 #[(.slice (some a48) 0 0), (.slice l18 l18n l18c)]) w52 fun v54 w55 => fS v54 fun l56 l56n l56c =>
  S14 w55 ∧ (al 41 (#[(.slice l53 l53n l53c), (.slice l56 l56n l56c), (.int .u64 x20), (.bool b22), (.int .i64 x24), (.bool false), (.int .i64 0), (.int .u64 0)]) w55 fun a58 w57 =>
  S14 w57 ∧ (W.ref29_Sources_Arm_k4 s_ events_ now_ a58 w57 Q))))))))
theorem E.ref29_Sources_Arm (s_ : Addr) (events_ : Int) (now_ : Int) (w : World) (Q : Value → World → Prop) : ev Try.prog Try.f28.ntmps callable [] [] (Try.f28.body.getD .skip) (enumE 0 [(.pointer (some s_)), (.int .i64 events_), (.int .u64 now_)]) w (KQ Try.prog Try.f28.results.toList Q) = W.ref29_Sources_Arm s_ events_ now_ w Q := by kernel_rfl
theorem C.ref29_Sources_Arm (s_ : Addr) (events_ : Int) (now_ : Int) (w : World) (Q : Value → World → Prop) (h : W.ref29_Sources_Arm s_ events_ now_ w Q) : CallE Try.prog 28 #[(.pointer (some s_)), (.int .i64 events_), (.int .u64 now_)] w Q :=
  calls_of_ev mixed callable_ok (args := [(.pointer (some s_)), (.int .i64 events_), (.int .u64 now_)]) Try.func28 rfl ((E.ref29_Sources_Arm s_ events_ now_ w Q).symm ▸ h)

def W.wakeup_Sources_Disarm (s_ : Addr) (w : World) (Q : Value → World → Prop) : Prop :=
  st Try.prog 4 (s_.add 100) (.bool false) w fun w1 =>
  st Try.prog 3 (s_.add 101) (.int .i64 0) w1 fun w2 =>
  Q (.tuple #[]) w2
theorem E.wakeup_Sources_Disarm (s_ : Addr) (w : World) (Q : Value → World → Prop) : ev Try.prog Try.f29.ntmps callable [] [] (Try.f29.body.getD .skip) (enumE 0 [(.pointer (some s_))]) w (KQ Try.prog Try.f29.results.toList Q) = W.wakeup_Sources_Disarm s_ w Q := by kernel_rfl
theorem C.wakeup_Sources_Disarm (s_ : Addr) (w : World) (Q : Value → World → Prop) (h : W.wakeup_Sources_Disarm s_ w Q) : CallE Try.prog 29 #[(.pointer (some s_))] w Q :=
  calls_of_ev mixed callable_ok (args := [(.pointer (some s_))]) Try.func29 rfl ((E.wakeup_Sources_Disarm s_ w Q).symm ▸ h)

def W.wakeup_Sources_Advance (s_ : Addr) (now_ : Int) (w : World) (Q : Value → World → Prop) : Prop :=
  CallE Try.prog 37 #[(.pointer (some s_)), (.int .u64 now_)] w fun v1 w2 => fB v1 fun b3 =>
  br (!b3) (Q (.int .i64 1) w2) (CallE Try.prog 38 #[(.pointer (some s_)), (.int .u64 now_)] w2 fun v4 w5 => v4 = .tuple #[] ∧
  Q (.int .i64 0) w5)
theorem E.wakeup_Sources_Advance (s_ : Addr) (now_ : Int) (w : World) (Q : Value → World → Prop) : ev Try.prog Try.f30.ntmps callable [] [] (Try.f30.body.getD .skip) (enumE 0 [(.pointer (some s_)), (.int .u64 now_)]) w (KQ Try.prog Try.f30.results.toList Q) = W.wakeup_Sources_Advance s_ now_ w Q := by kernel_rfl
theorem C.wakeup_Sources_Advance (s_ : Addr) (now_ : Int) (w : World) (Q : Value → World → Prop) (h : W.wakeup_Sources_Advance s_ now_ w Q) : CallE Try.prog 30 #[(.pointer (some s_)), (.int .u64 now_)] w Q :=
  calls_of_ev mixed callable_ok (args := [(.pointer (some s_)), (.int .u64 now_)]) Try.func30 rfl ((E.wakeup_Sources_Advance s_ now_ w Q).symm ▸ h)

def W.ref29_Sources_Activate (s_ : Addr) (source_ : Int) (now_ : Int) (w : World) (Q : Value → World → Prop) : Prop :=
  CallE Try.prog 41 #[(.pointer (some s_)), (.int .i64 source_), (.int .u64 now_)] w fun v1 w2 => fB v1 fun b3 =>
  br b3 (Q (.int .i64 1) w2) (CallE Try.prog 42 #[(.pointer (some s_)), (.int .u64 now_)] w2 fun v4 w5 => v4 = .tuple #[] ∧
  drawE fun S6 => S6 (drew w5) ∧ (ldS Try.prog S6 38 (s_.add 0) fun v7 => fS v7 fun l8 l8n l8c =>
  ldS Try.prog S6 39 (s_.add 1) fun v9 => fS v9 fun l10 l10n l10c =>
  rqS Try.prog S6 (Instr.indexAt 38 (.slice l8 l8n l8c) (.int .i64 source_)) fun v11 => fA v11 fun a12 =>
  st Try.prog 4 a12 (.bool true) (drew w5) fun w13 =>
  S6 w13 ∧ (rqS Try.prog S6 (Instr.indexAt 39 (.slice l10 l10n l10c) (.int .i64 source_)) fun v14 => fA v14 fun a15 =>
  st Try.prog 32 a15 (.int .u64 0) w13 fun w16 =>
  S6 w16 ∧ (Q (.int .i64 0) w16))))
theorem E.ref29_Sources_Activate (s_ : Addr) (source_ : Int) (now_ : Int) (w : World) (Q : Value → World → Prop) : ev Try.prog Try.f31.ntmps callable [] [] (Try.f31.body.getD .skip) (enumE 0 [(.pointer (some s_)), (.int .i64 source_), (.int .u64 now_)]) w (KQ Try.prog Try.f31.results.toList Q) = W.ref29_Sources_Activate s_ source_ now_ w Q := by kernel_rfl
theorem C.ref29_Sources_Activate (s_ : Addr) (source_ : Int) (now_ : Int) (w : World) (Q : Value → World → Prop) (h : W.ref29_Sources_Activate s_ source_ now_ w Q) : CallE Try.prog 31 #[(.pointer (some s_)), (.int .i64 source_), (.int .u64 now_)] w Q :=
  calls_of_ev mixed callable_ok (args := [(.pointer (some s_)), (.int .i64 source_), (.int .u64 now_)]) Try.func31 rfl ((E.ref29_Sources_Activate s_ source_ now_ w Q).symm ▸ h)

def W.ref29_Sources_Pulse_k8 (p0 : Addr) (p2 : Int) (w : World) (Q : Value → World → Prop) : Prop :=
  CallE Try.prog 42 #[(.pointer (some p0)), (.int .u64 p2)] w fun v6 w7 => v6 = .tuple #[] ∧
  Q (.int .i64 0) w7
def W.ref29_Sources_Pulse_k7 (p0 : Addr) (p1 : Int) (p2 : Int) (p3 : Int) (p65 : Bool) (w : World) (Q : Value → World → Prop) : Prop :=
  br p65 (ld Try.prog 39 (p0.add 1) w fun v25 => fS v25 fun l26 l26n l26c =>
  rq Try.prog (Instr.indexAt 39 (.slice l26 l26n l26c) (.int .i64 p1)) w fun v27 => fA v27 fun a28 =>
  st Try.prog 32 a28 (.int .u64 (IntKind.wrap .u64 ((IntKind.wrap .u64 (p2 + p3)) + 1))) w fun w29 =>
  W.ref29_Sources_Pulse_k8 p0 p2 w29 Q) (W.ref29_Sources_Pulse_k8 p0 p2 w Q)
def W.ref29_Sources_Pulse (s_ : Addr) (source_ : Int) (now_ : Int) (hold_ : Int) (w : World) (Q : Value → World → Prop) : Prop :=
  CallE Try.prog 41 #[(.pointer (some s_)), (.int .i64 source_), (.int .u64 now_)] w fun v1 w2 => fB v1 fun b3 =>
  br b3 (Q (.int .i64 1) w2) (br (decide ((hold_ : Int) > 1152921504606846976)) (Q (.int .i64 1) w2) (CallE Try.prog 42 #[(.pointer (some s_)), (.int .u64 now_)] w2 fun v4 w5 => v4 = .tuple #[] ∧
  ld Try.prog 38 (s_.add 0) w5 fun v8 => fS v8 fun l9 l9n l9c =>
  rq Try.prog (Instr.indexAt 38 (.slice l9 l9n l9c) (.int .i64 source_)) w5 fun v10 => fA v10 fun a11 =>
  ld Try.prog 4 a11 w5 fun v12 => fB v12 fun b13 =>
  br (!b13) (drawE fun S14 => S14 (drew w5) ∧ (ldS Try.prog S14 38 (s_.add 0) fun v15 => fS v15 fun l16 l16n l16c =>
  ldS Try.prog S14 39 (s_.add 1) fun v17 => fS v17 fun l18 l18n l18c =>
  rqS Try.prog S14 (Instr.indexAt 38 (.slice l16 l16n l16c) (.int .i64 source_)) fun v19 => fA v19 fun a20 =>
  st Try.prog 4 a20 (.bool true) (drew w5) fun w21 =>
  S14 w21 ∧ (rqS Try.prog S14 (Instr.indexAt 39 (.slice l18 l18n l18c) (.int .i64 source_)) fun v22 => fA v22 fun a23 =>
  st Try.prog 32 a23 (.int .u64 (IntKind.wrap .u64 ((IntKind.wrap .u64 (now_ + hold_)) + 1))) w21 fun w24 =>
  S14 w24 ∧ (W.ref29_Sources_Pulse_k8 s_ now_ w24 Q)))) (ld Try.prog 39 (s_.add 1) w5 fun v30 => fS v30 fun l31 l31n l31c =>
  rq Try.prog (Instr.indexAt 39 (.slice l31 l31n l31c) (.int .i64 source_)) w5 fun v32 => fA v32 fun a33 =>
  ld Try.prog 32 a33 w5 fun v34 => fI .u64 v34 fun x35 =>
  br (decide ((x35 : Int) > 0)) (ld Try.prog 39 (s_.add 1) w5 fun v36 => fS v36 fun l37 l37n l37c =>
  rq Try.prog (Instr.indexAt 39 (.slice l37 l37n l37c) (.int .i64 source_)) w5 fun v38 => fA v38 fun a39 =>
  ld Try.prog 32 a39 w5 fun v40 => fI .u64 v40 fun x41 =>
  W.ref29_Sources_Pulse_k7 s_ source_ now_ hold_ (decide (((IntKind.wrap .u64 ((IntKind.wrap .u64 (now_ + hold_)) + 1)) : Int) > x41)) w5 Q) (W.ref29_Sources_Pulse_k7 s_ source_ now_ hold_ false w5 Q))))
theorem E.ref29_Sources_Pulse (s_ : Addr) (source_ : Int) (now_ : Int) (hold_ : Int) (w : World) (Q : Value → World → Prop) : ev Try.prog Try.f32.ntmps callable [] [] (Try.f32.body.getD .skip) (enumE 0 [(.pointer (some s_)), (.int .i64 source_), (.int .u64 now_), (.int .u64 hold_)]) w (KQ Try.prog Try.f32.results.toList Q) = W.ref29_Sources_Pulse s_ source_ now_ hold_ w Q := by kernel_rfl
theorem C.ref29_Sources_Pulse (s_ : Addr) (source_ : Int) (now_ : Int) (hold_ : Int) (w : World) (Q : Value → World → Prop) (h : W.ref29_Sources_Pulse s_ source_ now_ hold_ w Q) : CallE Try.prog 32 #[(.pointer (some s_)), (.int .i64 source_), (.int .u64 now_), (.int .u64 hold_)] w Q :=
  calls_of_ev mixed callable_ok (args := [(.pointer (some s_)), (.int .i64 source_), (.int .u64 now_), (.int .u64 hold_)]) Try.func32 rfl ((E.ref29_Sources_Pulse s_ source_ now_ hold_ w Q).symm ▸ h)

def W.ref29_Sources_SetAlarm (s_ : Addr) (now_ : Int) (at_ : Int) (w : World) (Q : Value → World → Prop) : Prop :=
  CallE Try.prog 43 #[(.pointer (some s_)), (.int .u64 now_)] w fun v1 w2 => fB v1 fun b3 =>
  br b3 (Q (.int .i64 1) w2) (br (decide ((at_ : Int) > 1152921504606846976)) (Q (.int .i64 1) w2) (CallE Try.prog 42 #[(.pointer (some s_)), (.int .u64 now_)] w2 fun v4 w5 => v4 = .tuple #[] ∧
  st Try.prog 4 (s_.add 3) (.bool true) w5 fun w6 =>
  st Try.prog 32 (s_.add 2) (.int .u64 at_) w6 fun w7 =>
  CallE Try.prog 42 #[(.pointer (some s_)), (.int .u64 now_)] w7 fun v8 w9 => v8 = .tuple #[] ∧
  Q (.int .i64 0) w9))
theorem E.ref29_Sources_SetAlarm (s_ : Addr) (now_ : Int) (at_ : Int) (w : World) (Q : Value → World → Prop) : ev Try.prog Try.f33.ntmps callable [] [] (Try.f33.body.getD .skip) (enumE 0 [(.pointer (some s_)), (.int .u64 now_), (.int .u64 at_)]) w (KQ Try.prog Try.f33.results.toList Q) = W.ref29_Sources_SetAlarm s_ now_ at_ w Q := by kernel_rfl
theorem C.ref29_Sources_SetAlarm (s_ : Addr) (now_ : Int) (at_ : Int) (w : World) (Q : Value → World → Prop) (h : W.ref29_Sources_SetAlarm s_ now_ at_ w Q) : CallE Try.prog 33 #[(.pointer (some s_)), (.int .u64 now_), (.int .u64 at_)] w Q :=
  calls_of_ev mixed callable_ok (args := [(.pointer (some s_)), (.int .u64 now_), (.int .u64 at_)]) Try.func33 rfl ((E.ref29_Sources_SetAlarm s_ now_ at_ w Q).symm ▸ h)

def W.ref29_Sources_Advance (s_ : Addr) (now_ : Int) (w : World) (Q : Value → World → Prop) : Prop :=
  CallE Try.prog 43 #[(.pointer (some s_)), (.int .u64 now_)] w fun v1 w2 => fB v1 fun b3 =>
  br b3 (Q (.int .i64 1) w2) (CallE Try.prog 42 #[(.pointer (some s_)), (.int .u64 now_)] w2 fun v4 w5 => v4 = .tuple #[] ∧
  Q (.int .i64 0) w5)
theorem E.ref29_Sources_Advance (s_ : Addr) (now_ : Int) (w : World) (Q : Value → World → Prop) : ev Try.prog Try.f34.ntmps callable [] [] (Try.f34.body.getD .skip) (enumE 0 [(.pointer (some s_)), (.int .u64 now_)]) w (KQ Try.prog Try.f34.results.toList Q) = W.ref29_Sources_Advance s_ now_ w Q := by kernel_rfl
theorem C.ref29_Sources_Advance (s_ : Addr) (now_ : Int) (w : World) (Q : Value → World → Prop) (h : W.ref29_Sources_Advance s_ now_ w Q) : CallE Try.prog 34 #[(.pointer (some s_)), (.int .u64 now_)] w Q :=
  calls_of_ev mixed callable_ok (args := [(.pointer (some s_)), (.int .u64 now_)]) Try.func34 rfl ((E.ref29_Sources_Advance s_ now_ w Q).symm ▸ h)

def W.ref29_Sources_Disarm (s_ : Addr) (w : World) (Q : Value → World → Prop) : Prop :=
  st Try.prog 4 (s_.add 5) (.bool false) w fun w1 =>
  Q (.tuple #[]) w1
theorem E.ref29_Sources_Disarm (s_ : Addr) (w : World) (Q : Value → World → Prop) : ev Try.prog Try.f35.ntmps callable [] [] (Try.f35.body.getD .skip) (enumE 0 [(.pointer (some s_))]) w (KQ Try.prog Try.f35.results.toList Q) = W.ref29_Sources_Disarm s_ w Q := by kernel_rfl
theorem C.ref29_Sources_Disarm (s_ : Addr) (w : World) (Q : Value → World → Prop) (h : W.ref29_Sources_Disarm s_ w Q) : CallE Try.prog 35 #[(.pointer (some s_))] w Q :=
  calls_of_ev mixed callable_ok (args := [(.pointer (some s_))]) Try.func35 rfl ((E.ref29_Sources_Disarm s_ w Q).symm ▸ h)

def W.wakeup_Sources_exists (s_ : Addr) (source_ : Int) (w : World) (Q : Value → World → Prop) : Prop :=
  br (decide ((source_ : Int) ≥ 0)) (ld Try.prog 3 (s_.add 96) w fun v1 => fI .i64 v1 fun x2 =>
  Q (.bool (decide ((source_ : Int) < x2))) w) (Q (.bool false) w)
theorem E.wakeup_Sources_exists (s_ : Addr) (source_ : Int) (w : World) (Q : Value → World → Prop) : ev Try.prog Try.f36.ntmps callable [] [] (Try.f36.body.getD .skip) (enumE 0 [(.pointer (some s_)), (.int .i64 source_)]) w (KQ Try.prog Try.f36.results.toList Q) = W.wakeup_Sources_exists s_ source_ w Q := by kernel_rfl
theorem C.wakeup_Sources_exists (s_ : Addr) (source_ : Int) (w : World) (Q : Value → World → Prop) (h : W.wakeup_Sources_exists s_ source_ w Q) : CallE Try.prog 36 #[(.pointer (some s_)), (.int .i64 source_)] w Q :=
  calls_of_ev mixed callable_ok (args := [(.pointer (some s_)), (.int .i64 source_)]) Try.func36 rfl ((E.wakeup_Sources_exists s_ source_ w Q).symm ▸ h)

def W.wakeup_Sources_permitted (s_ : Addr) (now_ : Int) (w : World) (Q : Value → World → Prop) : Prop :=
  ld Try.prog 32 (s_.add 102) w fun v1 => fI .u64 v1 fun x2 =>
  br (decide ((now_ : Int) ≥ x2)) (Q (.bool (decide ((now_ : Int) ≤ 1152921504606846976))) w) (Q (.bool false) w)
theorem E.wakeup_Sources_permitted (s_ : Addr) (now_ : Int) (w : World) (Q : Value → World → Prop) : ev Try.prog Try.f37.ntmps callable [] [] (Try.f37.body.getD .skip) (enumE 0 [(.pointer (some s_)), (.int .u64 now_)]) w (KQ Try.prog Try.f37.results.toList Q) = W.wakeup_Sources_permitted s_ now_ w Q := by kernel_rfl
theorem C.wakeup_Sources_permitted (s_ : Addr) (now_ : Int) (w : World) (Q : Value → World → Prop) (h : W.wakeup_Sources_permitted s_ now_ w Q) : CallE Try.prog 37 #[(.pointer (some s_)), (.int .u64 now_)] w Q :=
  calls_of_ev mixed callable_ok (args := [(.pointer (some s_)), (.int .u64 now_)]) Try.func37 rfl ((E.wakeup_Sources_permitted s_ now_ w Q).symm ▸ h)

def W.wakeup_Sources_advance_k9 (p0 : Addr) (p50 : Bool) (w : World) (Q : Value → World → Prop) : Prop :=
  br p50 (st Try.prog 4 (p0.add 97) (.bool false) w fun w2 =>
  st Try.prog 32 (p0.add 98) (.int .u64 0) w2 fun w3 =>
  ld Try.prog 3 (p0.add 99) w3 fun v4 => fI .i64 v4 fun x5 =>
  st Try.prog 3 (p0.add 99) (.int .i64 (IntKind.wrap .i64 (x5 + 1))) w3 fun w6 =>
  Q (.tuple #[]) w6) (Q (.tuple #[]) w)
def W.wakeup_Sources_advance_k8 (p0 : Addr) (p1 : Int) (w : World) (Q : Value → World → Prop) : Prop :=
  ld Try.prog 4 (p0.add 97) w fun v7 => fB v7 fun b8 =>
  br b8 (ld Try.prog 32 (p0.add 98) w fun v9 => fI .u64 v9 fun x10 =>
  W.wakeup_Sources_advance_k9 p0 (decide ((x10 : Int) ≤ p1)) w Q) (W.wakeup_Sources_advance_k9 p0 false w Q)
def W.wakeup_Sources_advance_k6 (p0 : Addr) (p1 : Int) (p4 : Int) (p13 : Int) (p14 : Int) (p34 : Bool) (next15 : (Int × Unit) → World → Prop) (w : World) (Q : Value → World → Prop) : Prop :=
  br p34 (CallE Try.prog 40 #[(.pointer (some p0)), (.int .i64 p4)] w fun v23 w24 => v23 = .tuple #[] ∧
  next15 (((IntKind.wrap .i64 (p14 + 1)) : Int), ()) w24) (next15 (((IntKind.wrap .i64 (p14 + 1)) : Int), ()) w)
def W.wakeup_Sources_advance (s_ : Addr) (now_ : Int) (w : World) (Q : Value → World → Prop) : Prop :=
  st Try.prog 32 (s_.add 102) (.int .u64 now_) w fun w1 =>
  ld Try.prog 3 (s_.add 96) w1 fun v11 => fI .i64 v11 fun x12 =>
  LoopW (S := Int × Unit) (fun s13 w14 next15 =>
  br (decide ((s13.1 : Int) < x12)) (rq Try.prog (Instr.indexAt 60 (.pointer (some (s_.add 0))) (.int .i64 s13.1)) w14 fun v16 => fA v16 fun a17 =>
  ld Try.prog 59 a17 w14 fun v18 => fG v18 fun g19 =>
  al 59 (zeroT Try.prog 59).cells w14 fun a21 w20 =>
  st Try.prog 59 a21 (.agg g19) w20 fun w22 =>
  ld Try.prog 4 (a21.add 0) w22 fun v25 => fB v25 fun b26 =>
  br b26 (ld Try.prog 4 (a21.add 1) w22 fun v27 => fB v27 fun b28 =>
  br b28 (ld Try.prog 32 (a21.add 2) w22 fun v29 => fI .u64 v29 fun x30 =>
  W.wakeup_Sources_advance_k6 s_ now_ s13.1 x12 s13.1 (decide ((x30 : Int) ≤ now_)) next15 w22 Q) (W.wakeup_Sources_advance_k6 s_ now_ s13.1 x12 s13.1 false next15 w22 Q)) (W.wakeup_Sources_advance_k6 s_ now_ s13.1 x12 s13.1 false next15 w22 Q)) (W.wakeup_Sources_advance_k8 s_ now_ w14 Q)) ((0 : Int), ()) w1
theorem E.wakeup_Sources_advance (s_ : Addr) (now_ : Int) (w : World) (Q : Value → World → Prop) : ev Try.prog Try.f38.ntmps callable [(2, [(14, .int .i64 0)], [0, 1, 13])] [] (Try.f38.body.getD .skip) (enumE 0 [(.pointer (some s_)), (.int .u64 now_)]) w (KQ Try.prog Try.f38.results.toList Q) = W.wakeup_Sources_advance s_ now_ w Q := by kernel_rfl
theorem C.wakeup_Sources_advance (s_ : Addr) (now_ : Int) (w : World) (Q : Value → World → Prop) (h : W.wakeup_Sources_advance s_ now_ w Q) : CallE Try.prog 38 #[(.pointer (some s_)), (.int .u64 now_)] w Q :=
  calls_of_ev mixed callable_ok (args := [(.pointer (some s_)), (.int .u64 now_)]) Try.func38 rfl ((E.wakeup_Sources_advance s_ now_ w Q).symm ▸ h)

def W.wakeup_Sources_release (s_ : Addr) (source_ : Int) (w : World) (Q : Value → World → Prop) : Prop :=
  rq Try.prog (Instr.indexAt 60 (.pointer (some (s_.add 0))) (.int .i64 source_)) w fun v1 => fA v1 fun a2 =>
  st Try.prog 4 (a2.add 1) (.bool false) w fun w3 =>
  rq Try.prog (Instr.indexAt 60 (.pointer (some (s_.add 0))) (.int .i64 source_)) w3 fun v4 => fA v4 fun a5 =>
  st Try.prog 32 (a5.add 2) (.int .u64 0) w3 fun w6 =>
  Q (.tuple #[]) w6
theorem E.wakeup_Sources_release (s_ : Addr) (source_ : Int) (w : World) (Q : Value → World → Prop) : ev Try.prog Try.f39.ntmps callable [] [] (Try.f39.body.getD .skip) (enumE 0 [(.pointer (some s_)), (.int .i64 source_)]) w (KQ Try.prog Try.f39.results.toList Q) = W.wakeup_Sources_release s_ source_ w Q := by kernel_rfl
theorem C.wakeup_Sources_release (s_ : Addr) (source_ : Int) (w : World) (Q : Value → World → Prop) (h : W.wakeup_Sources_release s_ source_ w Q) : CallE Try.prog 39 #[(.pointer (some s_)), (.int .i64 source_)] w Q :=
  calls_of_ev mixed callable_ok (args := [(.pointer (some s_)), (.int .i64 source_)]) Try.func39 rfl ((E.wakeup_Sources_release s_ source_ w Q).symm ▸ h)

def W.wakeup_Sources_end (s_ : Addr) (source_ : Int) (w : World) (Q : Value → World → Prop) : Prop :=
  rq Try.prog (Instr.indexAt 60 (.pointer (some (s_.add 0))) (.int .i64 source_)) w fun v1 => fA v1 fun a2 =>
  st Try.prog 4 (a2.add 0) (.bool false) w fun w3 =>
  CallE Try.prog 39 #[(.pointer (some s_)), (.int .i64 source_)] w3 fun v4 w5 => v4 = .tuple #[] ∧
  ld Try.prog 3 (s_.add 99) w5 fun v6 => fI .i64 v6 fun x7 =>
  st Try.prog 3 (s_.add 99) (.int .i64 (IntKind.wrap .i64 (x7 + 1))) w5 fun w8 =>
  Q (.tuple #[]) w8
theorem E.wakeup_Sources_end (s_ : Addr) (source_ : Int) (w : World) (Q : Value → World → Prop) : ev Try.prog Try.f40.ntmps callable [] [] (Try.f40.body.getD .skip) (enumE 0 [(.pointer (some s_)), (.int .i64 source_)]) w (KQ Try.prog Try.f40.results.toList Q) = W.wakeup_Sources_end s_ source_ w Q := by kernel_rfl
theorem C.wakeup_Sources_end (s_ : Addr) (source_ : Int) (w : World) (Q : Value → World → Prop) (h : W.wakeup_Sources_end s_ source_ w Q) : CallE Try.prog 40 #[(.pointer (some s_)), (.int .i64 source_)] w Q :=
  calls_of_ev mixed callable_ok (args := [(.pointer (some s_)), (.int .i64 source_)]) Try.func40 rfl ((E.wakeup_Sources_end s_ source_ w Q).symm ▸ h)

def W.ref29_Sources_bad (s_ : Addr) (source_ : Int) (now_ : Int) (w : World) (Q : Value → World → Prop) : Prop :=
  br (decide ((source_ : Int) < 0)) (Q (.bool true) w) (ld Try.prog 38 (s_.add 0) w fun v1 => fS v1 fun l2 l2n l2c =>
  br (decide ((source_ : Int) ≥ ((l2n : Nat) : Int))) (Q (.bool true) w) (CallE Try.prog 43 #[(.pointer (some s_)), (.int .u64 now_)] w fun v3 w4 => fB v3 fun b5 =>
  Q (.bool b5) w4))
theorem E.ref29_Sources_bad (s_ : Addr) (source_ : Int) (now_ : Int) (w : World) (Q : Value → World → Prop) : ev Try.prog Try.f41.ntmps callable [] [] (Try.f41.body.getD .skip) (enumE 0 [(.pointer (some s_)), (.int .i64 source_), (.int .u64 now_)]) w (KQ Try.prog Try.f41.results.toList Q) = W.ref29_Sources_bad s_ source_ now_ w Q := by kernel_rfl
theorem C.ref29_Sources_bad (s_ : Addr) (source_ : Int) (now_ : Int) (w : World) (Q : Value → World → Prop) (h : W.ref29_Sources_bad s_ source_ now_ w Q) : CallE Try.prog 41 #[(.pointer (some s_)), (.int .i64 source_), (.int .u64 now_)] w Q :=
  calls_of_ev mixed callable_ok (args := [(.pointer (some s_)), (.int .i64 source_), (.int .u64 now_)]) Try.func41 rfl ((E.ref29_Sources_bad s_ source_ now_ w Q).symm ▸ h)

def W.ref29_Sources_advance_k8 (p0 : Addr) (p71 : Bool) (w : World) (Q : Value → World → Prop) : Prop :=
  br p71 (st Try.prog 4 (p0.add 3) (.bool false) w fun w2 =>
  ld Try.prog 3 (p0.add 4) w2 fun v3 => fI .i64 v3 fun x4 =>
  st Try.prog 3 (p0.add 4) (.int .i64 (IntKind.wrap .i64 (x4 + 1))) w2 fun w5 =>
  Q (.tuple #[]) w5) (Q (.tuple #[]) w)
def W.ref29_Sources_advance_k7 (p0 : Addr) (p1 : Int) (w : World) (Q : Value → World → Prop) : Prop :=
  ld Try.prog 4 (p0.add 3) w fun v6 => fB v6 fun b7 =>
  br b7 (ld Try.prog 32 (p0.add 2) w fun v8 => fI .u64 v8 fun x9 =>
  W.ref29_Sources_advance_k8 p0 (decide ((x9 : Int) ≤ p1)) w Q) (W.ref29_Sources_advance_k8 p0 false w Q)
def W.ref29_Sources_advance_k5 (p0 : Addr) (p1 : Int) (p4 : Int) (p46 : Bool) (next12 : (Int × Unit) → World → Prop) (w : World) (Q : Value → World → Prop) : Prop :=
  br p46 (ld Try.prog 38 (p0.add 0) w fun v15 => fS v15 fun l16 l16n l16c =>
  rq Try.prog (Instr.indexAt 38 (.slice l16 l16n l16c) (.int .i64 p4)) w fun v17 => fA v17 fun a18 =>
  st Try.prog 4 a18 (.bool false) w fun w19 =>
  ld Try.prog 3 (p0.add 4) w19 fun v20 => fI .i64 v20 fun x21 =>
  st Try.prog 3 (p0.add 4) (.int .i64 (IntKind.wrap .i64 (x21 + 1))) w19 fun w22 =>
  next12 (((IntKind.wrap .i64 (p4 + 1)) : Int), ()) w22) (next12 (((IntKind.wrap .i64 (p4 + 1)) : Int), ()) w)
def W.ref29_Sources_advance (s_ : Addr) (t_ : Int) (w : World) (Q : Value → World → Prop) : Prop :=
  st Try.prog 32 (s_.add 7) (.int .u64 t_) w fun w1 =>
  LoopW (S := Int × Unit) (fun s10 w11 next12 =>
  ld Try.prog 38 (s_.add 0) w11 fun v13 => fS v13 fun l14 l14n l14c =>
  br (decide ((s10.1 : Int) < ((l14n : Nat) : Int))) (ld Try.prog 38 (s_.add 0) w11 fun v23 => fS v23 fun l24 l24n l24c =>
  rq Try.prog (Instr.indexAt 38 (.slice l24 l24n l24c) (.int .i64 s10.1)) w11 fun v25 => fA v25 fun a26 =>
  ld Try.prog 4 a26 w11 fun v27 => fB v27 fun b28 =>
  br b28 (ld Try.prog 39 (s_.add 1) w11 fun v29 => fS v29 fun l30 l30n l30c =>
  rq Try.prog (Instr.indexAt 39 (.slice l30 l30n l30c) (.int .i64 s10.1)) w11 fun v31 => fA v31 fun a32 =>
  ld Try.prog 32 a32 w11 fun v33 => fI .u64 v33 fun x34 =>
  br (decide ((x34 : Int) > 0)) (ld Try.prog 39 (s_.add 1) w11 fun v35 => fS v35 fun l36 l36n l36c =>
  rq Try.prog (Instr.indexAt 39 (.slice l36 l36n l36c) (.int .i64 s10.1)) w11 fun v37 => fA v37 fun a38 =>
  ld Try.prog 32 a38 w11 fun v39 => fI .u64 v39 fun x40 =>
  W.ref29_Sources_advance_k5 s_ t_ s10.1 (decide (((IntKind.wrap .u64 (x40 - 1)) : Int) ≤ t_)) next12 w11 Q) (W.ref29_Sources_advance_k5 s_ t_ s10.1 false next12 w11 Q)) (W.ref29_Sources_advance_k5 s_ t_ s10.1 false next12 w11 Q)) (W.ref29_Sources_advance_k7 s_ t_ w11 Q)) ((0 : Int), ()) w1
theorem E.ref29_Sources_advance (s_ : Addr) (t_ : Int) (w : World) (Q : Value → World → Prop) : ev Try.prog Try.f42.ntmps callable [(2, [(4, .int .i64 0)], [0, 1])] [] (Try.f42.body.getD .skip) (enumE 0 [(.pointer (some s_)), (.int .u64 t_)]) w (KQ Try.prog Try.f42.results.toList Q) = W.ref29_Sources_advance s_ t_ w Q := by kernel_rfl
theorem C.ref29_Sources_advance (s_ : Addr) (t_ : Int) (w : World) (Q : Value → World → Prop) (h : W.ref29_Sources_advance s_ t_ w Q) : CallE Try.prog 42 #[(.pointer (some s_)), (.int .u64 t_)] w Q :=
  calls_of_ev mixed callable_ok (args := [(.pointer (some s_)), (.int .u64 t_)]) Try.func42 rfl ((E.ref29_Sources_advance s_ t_ w Q).symm ▸ h)

def W.ref29_Sources_late (s_ : Addr) (now_ : Int) (w : World) (Q : Value → World → Prop) : Prop :=
  ld Try.prog 32 (s_.add 7) w fun v1 => fI .u64 v1 fun x2 =>
  br (decide ((now_ : Int) < x2)) (Q (.bool true) w) (Q (.bool (decide ((now_ : Int) > 1152921504606846976))) w)
theorem E.ref29_Sources_late (s_ : Addr) (now_ : Int) (w : World) (Q : Value → World → Prop) : ev Try.prog Try.f43.ntmps callable [] [] (Try.f43.body.getD .skip) (enumE 0 [(.pointer (some s_)), (.int .u64 now_)]) w (KQ Try.prog Try.f43.results.toList Q) = W.ref29_Sources_late s_ now_ w Q := by kernel_rfl
theorem C.ref29_Sources_late (s_ : Addr) (now_ : Int) (w : World) (Q : Value → World → Prop) (h : W.ref29_Sources_late s_ now_ w Q) : CallE Try.prog 43 #[(.pointer (some s_)), (.int .u64 now_)] w Q :=
  calls_of_ev mixed callable_ok (args := [(.pointer (some s_)), (.int .u64 now_)]) Try.func43 rfl ((E.ref29_Sources_late s_ now_ w Q).symm ▸ h)
end Go.Proofs.Ytdfjakdgclbleaa
