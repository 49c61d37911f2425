/-
  Several texts in one (ImQ, ImR, ImO, ImS, ImTP, ImVR), each with its own word below. No condition beyond those stated.
-/
import Derived.Test.YtpinpccamfhofaaGD
import Derived.Test.YtpinpccamfhofaaGA
import Derived.Test.YtpinpccamfhofaaGB
import Derived.Test.YtpinpccamfhofaaGC
set_option linter.unusedVariables false
set_option linter.unusedSimpArgs false
/-
  The reference's header functions over the code, and comparison of headers. No condition beyond those stated.
-/
set_option maxRecDepth 100000
namespace Go.Proofs.Ytpinpccamfhofaa.Im
open Go Go.Ev Go.Proofs

theorem num_zero : ∀ (l : List UInt8), num l = 0 ↔ l = List.replicate l.length 0
  | [] => by simp [num]
  | x :: l => by
    have ih := num_zero l
    show x.toNat + 256 * num l = 0 ↔ _
    rw [List.length_cons, List.replicate_succ, List.cons.injEq, ← ih]
    constructor
    · intro h
      exact ⟨UInt8.toNat_inj.1 (by show x.toNat = 0; omega), by omega⟩
    · rintro ⟨rfl, h⟩
      show 0 + 256 * num l = 0
      omega
theorem le0 (n : Nat) : le 0 n = List.replicate n 0 := by
  unfold le
  rw [List.eq_replicate_iff]
  refine ⟨by simp, fun x hx => ?_⟩
  simp only [List.mem_map] at hx
  obtain ⟨i, _, rfl⟩ := hx
  simp

section
variable {U w : World} {Q : Value → World → Prop}

theorem rencodeHeader_k2 {l : List UInt8} (hl : l.length = 52) (e0 : Ext U w (fun _ => False)) (hQ : ∀ w', Ext U w' (fun _ => False) → Q (.string (mkS (l ++ le (crc l).toNat 4 ++ le 0 8))) w') : W.ref34_EncodeHeader_k2 (mkS l) w Q := by
  unfold W.ref34_EncodeHeader_k2
  refine ⟨fun _ => True, trivial, ?_⟩
  have ed : Ext U (drew w) (fun _ => False) := e0.drew_
  have hcr := (crc l).isLt
  have ck : ∀ (w' : World) (K : Int → World → Prop), K (((crc l).toNat : Nat) : Int) w' → CallE Try.prog 109 #[.string (mkS l)] w' fun v w'' => fI .u32 v fun x => True ∧ K x w'' :=
    fun w' K hK => rchecksum_c (by omega) (fi ⟨trivial, hK⟩)
  have lt : ∀ (w' : World) (K : ByteArray → World → Prop), (∀ w'', Ext w' w'' (fun _ => False) → K (mkS (le (crc l).toNat 4)) w'') → CallE Try.prog 108 #[.int .u64 (IntKind.wrap .u64 (((crc l).toNat : Nat) : Int)), .int .i64 4] w' fun v w'' => fT v fun x => True ∧ K x w'' := by
    intro w' K hK
    rw [wrap_64 (by omega)]
    exact little_c (v := (crc l).toNat) (k := 4) (by omega) fun w'' e'' => ft ⟨trivial, hK w'' e''⟩
  have mk : ∀ (w' : World) (K : Option Addr → Nat → Nat → World → Prop), (∀ b w'', At w'' b (by_ (List.replicate 8 0)) 5 → Ext w' w'' (fun _ => False) → K (some ⟨b, 0, none⟩) 8 8 w'') → rv Try.prog (Instr.makeSlice 82 (.int .i64 8) (.int .i64 8)) w' fun v w'' => fS v fun a n c => True ∧ K a n c w'' := by
    intro w' K hK
    exact mkB (n := 8) 5 (by omega) fun b w'' hb a e z => ⟨trivial, hK b w'' a e⟩
  have cv : ∀ (b : Nat) (w' : World) (K : ByteArray → World → Prop), At w' b (by_ (List.replicate 8 0)) 5 → K (mkS (List.replicate 8 0)) w' → rv Try.prog (convert 82 9 (.slice (some ⟨b, 0, none⟩) 8 8)) w' fun v w'' => fT v fun t => True ∧ K t w'' :=
    fun b w' K h hK => bsT h rfl ⟨trivial, hK⟩
  have ad1 : ∀ (x y : Operand) (K : ByteArray → Prop), K (mkS (l ++ le (crc l).toNat 4)) → rqS Try.prog (fun _ => True) (do eqGuard .add 9 x y (.string (mkS l)) (.string (mkS (le (crc l).toNat 4))); binOp .add 9 (.string (mkS l)) (.string (mkS (le (crc l).toNat 4)))) fun v => fT v fun t => K t :=
    fun x y K hK => qST (s_add (by rw [le_length]; omega)) hK
  have ad2 : ∀ (x y : Operand) (w' : World), Ext U w' (fun _ => False) → rqS Try.prog (fun _ => True) (do eqGuard .add 9 x y (.string (mkS (l ++ le (crc l).toNat 4))) (.string (mkS (List.replicate 8 0))); binOp .add 9 (.string (mkS (l ++ le (crc l).toNat 4))) (.string (mkS (List.replicate 8 0)))) fun v => fT v fun t => Q (.string t) w' := by
    intro x y w' e'
    refine qST (s_add (by rw [List.length_append, le_length, List.length_replicate]; omega)) ?_
    rw [← le0]
    exact hQ w' e'
  refine ⟨?_, ?_⟩
  · refine ck _ _ ⟨?_, ?_⟩
    · refine lt _ _ fun w1 e1 => ?_
      refine ad1 _ _ _ ?_
      refine mk _ _ fun b w2 a2 e2 => ?_
      refine cv b _ _ a2 ?_
      exact ad2 _ _ _ ((ed.tr e1).tr e2)
    · refine mk _ _ fun b w1 a1 e1 => ⟨?_, ?_⟩
      · refine lt _ _ fun w2 e2 => ?_
        refine ad1 _ _ _ ?_
        refine cv b _ _ (a1.ext e2 (fun h => h)) ?_
        exact ad2 _ _ _ ((ed.tr e1).tr e2)
      · refine cv b _ _ a1 ?_
        refine lt _ _ fun w2 e2 => ?_
        refine ad1 _ _ _ ?_
        exact ad2 _ _ _ ((ed.tr e1).tr e2)
  · refine mk _ _ fun b w1 a1 e1 => ⟨?_, ?_⟩
    · refine ck _ _ ⟨?_, ?_⟩
      · refine lt _ _ fun w2 e2 => ?_
        refine ad1 _ _ _ ?_
        refine cv b _ _ (a1.ext e2 (fun h => h)) ?_
        exact ad2 _ _ _ ((ed.tr e1).tr e2)
      · refine cv b _ _ a1 ?_
        refine lt _ _ fun w2 e2 => ?_
        refine ad1 _ _ _ ?_
        exact ad2 _ _ _ ((ed.tr e1).tr e2)
    · refine cv b _ _ a1 ?_
      refine ck _ _ ?_
      refine lt _ _ fun w2 e2 => ?_
      refine ad1 _ _ _ ?_
      exact ad2 _ _ _ ((ed.tr e1).tr e2)

theorem hdrC_33 {g n s : Nat} {bd : List UInt8} (hbd : bd.length = 32) : (hdrC g bd n s)[33]? = some (.int .u32 (n : Int)) := by
  unfold hdrC
  rw [List.getElem?_cons_succ, List.getElem?_append_right (by rw [by_length, hbd]; omega), by_length, hbd]
  rfl
theorem hdrC_34 {g n s : Nat} {bd : List UInt8} (hbd : bd.length = 32) : (hdrC g bd n s)[34]? = some (.int .u32 (s : Int)) := by
  unfold hdrC
  rw [List.getElem?_cons_succ, List.getElem?_append_right (by rw [by_length, hbd]; omega), by_length, hbd]
  rfl

theorem rencodeHeader_c {g n s : Nat} {bd : List UInt8} (hbd : bd.length = 32) (hn : n < 4294967296) (hs : s < 4294967296) (hQ : ∀ w', Ext w w' (fun _ => False) → Q (.string (mkS (hdr g bd n s))) w') :
    CallE Try.prog 110 #[.agg (hdrC g bd n s).toArray] w Q := by
  apply C.ref34_EncodeHeader
  unfold W.ref34_EncodeHeader
  refine al_i fun hb w1 hhb a1 e1 z1 => ?_
  change At w1 hb (hdrC g bd n s) 121 at a1
  simp only [add_mk, Nat.zero_add]
  refine ⟨fun w' => At w' hb (hdrC g bd n s) 121 ∧ Ext w w' (fun _ => False), ⟨a1.drew_, e1.drew_⟩, ?_⟩
  refine ldS_i (fun _ h => h.1) rfl (fi ?_)
  refine qSL (a_all 32) ?_
  refine ldS_i (fun _ h => h.1) (hdrC_33 hbd) (fi ?_)
  refine ldS_i (fun _ h => h.1) (hdrC_34 hbd) (fi ?_)
  rw [wrap_64 (n := n) (by omega), wrap_64 (n := s) (by omega)]
  generalize hS : (fun w' : World => At w' hb (hdrC g bd n s) 121 ∧ Ext w w' (fun _ => False)) = S
  have hSi : ∀ w', S w' ↔ At w' hb (hdrC g bd n s) 121 ∧ Ext w w' (fun _ => False) := by intro w'; rw [← hS]
  have S0 : S (drew w1) := (hSi _).2 ⟨a1.drew_, e1.drew_⟩
  clear hS
  have lt : ∀ {w' : World} {v k : Nat} {K : ByteArray → World → Prop}, k ≤ 8 → S w' → (∀ w'', S w'' → K (mkS (le v k)) w'') → CallE Try.prog 108 #[.int .u64 (v : Int), .int .i64 (k : Int)] w' fun v w'' => fT v fun x => S w'' ∧ K x w'' := by
    intro w' v k K hk hs hK
    refine little_c hk fun w'' e'' => ft ?_
    have : S w'' := (hSi _).2 ⟨((hSi _).1 hs).1.ext e'' (fun h => h), ((hSi _).1 hs).2.tr e''⟩
    exact ⟨this, hK w'' this⟩
  have cv : ∀ {w' : World} {K : ByteArray → World → Prop}, S w' → K (mkS bd) w' → rv Try.prog (convert 82 9 (.slice (some ⟨hb, 1, none⟩) 32 32)) w' fun v w'' => fT v fun t => S w'' ∧ K t w'' := by
    intro w' K hs hK
    refine bs_str (l := bd) (.inr ⟨_, rfl, fun j hj => ?_⟩) hbd (ft ⟨hs, hK⟩)
    rw [add_mk, ((hSi _).1 hs).1.cell, Nat.add_comm]
    unfold hdrC
    rw [List.getElem?_cons_succ, List.getElem?_append_left hj]
  have fin : ∀ w', S w' → W.ref34_EncodeHeader_k2 (mkS ([72, 73, 66, 49] ++ le g 8 ++ bd ++ le n 4 ++ le s 4)) w' Q := by
    intro w' hs
    exact rencodeHeader_k2 (l := hdr0 g bd n s) (hdr0_length hbd) ((hSi _).1 hs).2 fun w'' e'' => hQ w'' e''
  have lg : ∀ {w' : World} {K : ByteArray → World → Prop}, S w' → (∀ w'', S w'' → K (mkS (le g 8)) w'') → CallE Try.prog 108 #[.int .u64 (g : Int), .int .i64 8] w' fun v w'' => fT v fun x => S w'' ∧ K x w'' := fun h h' => lt (v := g) (k := 8) (by omega) h h'
  have ln : ∀ {w' : World} {K : ByteArray → World → Prop}, S w' → (∀ w'', S w'' → K (mkS (le n 4)) w'') → CallE Try.prog 108 #[.int .u64 (n : Int), .int .i64 4] w' fun v w'' => fT v fun x => S w'' ∧ K x w'' := fun h h' => lt (v := n) (k := 4) (by omega) h h'
  have ls : ∀ {w' : World} {K : ByteArray → World → Prop}, S w' → (∀ w'', S w'' → K (mkS (le s 4)) w'') → CallE Try.prog 108 #[.int .u64 (s : Int), .int .i64 4] w' fun v w'' => fT v fun x => S w'' ∧ K x w'' := fun h h' => lt (v := s) (k := 4) (by omega) h h'
  have ad0 : ∀ {x y : Operand} {K : ByteArray → Prop}, K (mkS ([72, 73, 66, 49] ++ le g 8)) → rqS Try.prog S (do eqGuard .add 9 x y (.string ⟨#[72, 73, 66, 49]⟩) (.string (mkS (le g 8))); binOp .add 9 (.string ⟨#[72, 73, 66, 49]⟩) (.string (mkS (le g 8)))) fun v => fT v fun t => K t :=
    fun hK => qST (s_add (a := [72, 73, 66, 49]) (by rw [le_length]; show 4 + 8 < _; omega)) hK
  have ad : ∀ {a b : List UInt8} {x y : Operand} {K : ByteArray → Prop}, a.length ≤ 100 → b.length ≤ 100 → K (mkS (a ++ b)) → rqS Try.prog S (do eqGuard .add 9 x y (.string (mkS a)) (.string (mkS b)); binOp .add 9 (.string (mkS a)) (.string (mkS b))) fun v => fT v fun t => K t :=
    fun h1 h2 hK => qST (s_add (by omega)) hK
  repeat' with_reducible first
    | refine lg (by assumption) fun _ _ => ?_
    | refine ln (by assumption) fun _ _ => ?_
    | refine ls (by assumption) fun _ _ => ?_
    | refine cv (by assumption) ?_
    | refine ad0 ?_
    | refine ad (by simp only [List.length_append, le_length, hbd, List.length_cons, List.length_nil]; omega) (by simp only [le_length, hbd]; omega) ?_
    | refine And.intro ?_ ?_
    | exact fin _ (by assumption)

theorem rdecodeHeader_k6 {l : List UInt8} {rb tb g n s : Nat} (hl : l.length = 64) (hr : At w rb (hdrC 0 zb 0 0) 121) (ht : At w tb (hdrC g zb n s) 121) (hne : rb ≠ tb)
    (hQ : ∀ w', Ext w w' (fun b => b = rb ∨ b = tb) → Q (.tuple #[.agg (hdrC g (sub l 12 44) n s).toArray, .int .i64 0]) w') : W.ref34_DecodeHeader_k6 (mkS l) ⟨rb, 0, none⟩ ⟨tb, 0, none⟩ w Q := by
  unfold W.ref34_DecodeHeader_k6
  simp only [add_mk, Nat.zero_add]
  have hb : (sub l 12 44).length = 32 := sub_length (by omega)
  refine LoopW.nat 32 (fun i x w' => x = ((i : Int), ()) ∧ At w' tb (hdrC g ((sub l 12 44).take i ++ List.replicate (32 - i) 0) n s) 121 ∧ Ext w w' (· = tb)) ⟨rfl, ht, Ext.refl _ _⟩ ?_
  rintro i x w1 next hi ⟨rfl, a1, e1⟩ hnext
  dsimp only
  by_cases hlt : i < 32
  case neg =>
    rw [decide_eq_false (by omega), br_false]
    obtain rfl : i = 32 := by omega
    rw [List.take_of_length_le (by omega), List.replicate_zero, List.append_nil] at a1
    refine ld_w a1 (fg ?_) (hs := by rw [hdrC_length hb]; kernel_rfl)
    have r1 := hr.ext e1 hne
    refine st_w 35 r1 (hdrC_length rfl) (hdrC_length hb) (hdrC_one _ _ _ _) fun w2 a2 e2 z2 => ?_
    refine ld_w a2 (fg ?_) (hs := by rw [hdrC_length hb]; kernel_rfl)
    exact hQ w2 (e1.trans e2 (fun _ _ h => .inr h) (fun _ _ h => .inl h))
  rw [decide_eq_true (by omega), br_true]
  rw [show IntKind.wrap .i64 (12 + (i : Int)) = ((12 + i : Nat) : Int) by rw [wrap_i64 (by omega) (by omega)]; omega]
  refine qI (sxn (12 + i) (by omega)) ?_
  refine ix_arr 32 1 5 (by omega) (by omega) (fa ?_)
  rw [Int.toNat_natCast, Nat.mul_one, add_mk]
  have hlen : (hdrC g ((sub l 12 44).take i ++ List.replicate (32 - i) 0) n s).length = 35 := hdrC_length (by rw [List.length_append, List.length_take, List.length_replicate, hb]; omega)
  refine st_i a1 (by rw [hlen]; omega) fun w2 a2 e2 z2 => ?_
  rw [inc_nat (by omega)]
  refine hnext hlt _ _ ⟨rfl, ?_, e1.trans e2 (fun _ _ h => h) (fun _ _ h => h)⟩
  have hget : l.getD (12 + i) 0 = (sub l 12 44).getD i 0 := by
    unfold sub
    rw [List.getD_eq_getElem?_getD, List.getD_eq_getElem?_getD, List.getElem?_drop, List.getElem?_take_of_lt (by omega)]
  have hset : (hdrC g ((sub l 12 44).take i ++ List.replicate (32 - i) 0) n s).set (1 + i) (.int .u8 ((l.getD (12 + i) 0).toNat : Int)) = hdrC g ((sub l 12 44).take (i + 1) ++ List.replicate (32 - (i + 1)) 0) n s := by
    obtain ⟨k, hk⟩ : ∃ k, 32 - i = k + 1 := ⟨32 - i - 1, by omega⟩
    rw [hget, hk, show 32 - (i + 1) = k by omega, List.replicate_succ]
    unfold hdrC
    rw [Nat.add_comm, List.set_cons_succ, List.set_append_left _ _ (by rw [by_length, List.length_append, List.length_take, List.length_cons, List.length_replicate, hb]; omega), by_setx _ _ _ _ _ (by rw [List.length_take, hb]; omega)]
    have : (sub l 12 44).take (i + 1) = (sub l 12 44).take i ++ [(sub l 12 44).getD i 0] := by
      rw [List.getD_eq_getElem?_getD, List.getElem?_eq_getElem (by omega), Option.getD_some, List.take_append_getElem (by omega)]
    rw [this, List.append_assoc]
    rfl
  rw [← hset]
  exact a2

theorem rdecodeHeader_c {l : List UInt8} (hQ : ∀ w', Ext w w' (fun _ => False) → Q (.tuple #[.agg (decH l).1.toArray, .int .i64 (decH l).2]) w') : CallE Try.prog 86 #[.string (mkS l)] w Q := by
  apply C.ref34_DecodeHeader
  unfold W.ref34_DecodeHeader
  refine al_i fun rb w1 hrb a1 e1 z1 => ?_
  have hz : (zeroT Try.prog 121).cells.toList = hdrC 0 zb 0 0 := by kernel_rfl
  rw [hz] at a1
  rw [mkS_size]
  unfold decH at hQ
  have bad : ∀ (w' : World) (r : Int), Ext w1 w' (fun _ => False) → (∀ w'', Ext w w'' (fun _ => False) → Q (.tuple #[.agg (hdrC 0 zb 0 0).toArray, .int .i64 r]) w'') →
      st Try.prog 121 ⟨rb, 0, none⟩ (.agg (hdrC 0 zb 0 0).toArray) w' fun w3 => ld Try.prog 121 ⟨rb, 0, none⟩ w3 fun v4 => fG v4 fun g5 => Q (.tuple #[.agg g5, .int .i64 r]) w3 := by
    intro w' r e' hq
    refine st_g 35 (a1.ext e' (fun h => h)) (by rw [hdrC_length rfl]; omega) (hdrC_length rfl) (hdrC_one _ _ _ _) fun w2 a2 e2 z2 => ?_
    rw [splice_all rfl] at a2
    refine ld_w a2 (fg ?_) (hs := by rw [hdrC_length rfl]; kernel_rfl)
    exact hq w2 ((e1.tr e').trans e2 (fun _ _ h => h) (fun b hb hx => by omega))
  refine ⟨fun _ => True, trivial, ?_⟩
  have ed : Ext w1 (drew w1) (fun _ => False) := (Ext.refl w1 _).drew_
  by_cases h64 : l.length = 64
  case neg =>
    rw [if_pos h64] at hQ
    rw [show (((l.length : Nat) : Int) != 64) = true by rw [bne_iff_ne]; omega, br_true]
    exact ⟨trivial, trivial, bad _ 3 ed hQ⟩
  rw [if_neg (by omega)] at hQ
  rw [h64, show (((64 : Nat) : Int) != 64) = false from rfl, br_false]
  refine qST (s_hi (by omega) (by rw [h64]; omega)) ?_
  refine qSB (s_ne (b := mag)) ?_
  change br (!decide (l.take 4 = mag)) _ _
  by_cases hm : l.take 4 = mag
  case neg =>
    rw [if_pos hm] at hQ
    rw [decide_eq_false hm, Bool.not_false, br_true]
    exact ⟨trivial, trivial, bad _ 3 ed hQ⟩
  rw [if_neg (by simp [hm])] at hQ
  rw [decide_eq_true hm, Bool.not_true, br_false]
  refine qST (s_lo (by omega) (by rw [h64]; omega)) ?_
  refine mkB (n := 8) 5 (by omega) fun mb w2 hmb a2 e2 z2 => ⟨trivial, ?_⟩
  refine bsT a2 rfl ⟨trivial, ?_⟩
  refine qSB s_ne ?_
  change br (!decide (l.drop 56 = List.replicate 8 0)) _ _
  have e12 : Ext w1 w2 (fun _ => False) := ed.tr e2
  have hnz := num_zero (l.drop 56)
  rw [List.length_drop, h64] at hnz
  by_cases hp : num (l.drop 56) = 0
  case neg =>
    rw [if_pos hp] at hQ
    rw [decide_eq_false (fun hc => hp (hnz.2 hc)), Bool.not_false, br_true]
    exact bad _ 3 e12 hQ
  rw [if_neg (by simp [hp])] at hQ
  rw [decide_eq_true (hnz.1 hp), Bool.not_true, br_false]
  refine ⟨fun _ => True, trivial, ?_⟩
  refine qST (s_lh (by omega) (by omega) (by rw [h64]; omega)) ?_
  refine qST (s_hi (by omega) (by rw [h64]; omega)) ?_
  refine value_c (l := sub l 52 56) (by rw [sub_length (by omega)]; omega) (fi ⟨trivial, ?_⟩)
  refine rchecksum_c (l := l.take 52) (by rw [List.length_take]; omega) (fi ⟨trivial, ?_⟩)
  have hcr := (crc (l.take 52)).isLt
  rw [wrap_64 (by omega)]
  have e13 : Ext w1 (drew w2) (fun _ => False) := e12.drew_
  by_cases hc : num (sub l 52 56) = (crc (l.take 52)).toNat
  case neg =>
    rw [if_pos hc] at hQ
    rw [show (((num (sub l 52 56) : Nat) : Int) != (((crc (l.take 52)).toNat : Nat) : Int)) = true by rw [bne_iff_ne]; omega, br_true]
    exact bad _ 5 e13 hQ
  rw [if_neg (by simp [hc])] at hQ
  rw [hc, bne_self_eq_false, br_false]
  refine ⟨fun _ => True, trivial, ?_⟩
  refine qST (s_lh (by omega) (by omega) (by rw [h64]; omega)) ?_
  refine qST (s_lh (by omega) (by omega) (by rw [h64]; omega)) ?_
  refine qST (s_lh (by omega) (by omega) (by rw [h64]; omega)) ?_
  have n1 : (sub l 4 12).length ≤ 8 := by rw [sub_length (by omega)]; omega
  have n2 : (sub l 44 48).length ≤ 8 := by rw [sub_length (by omega)]; omega
  have n3 : (sub l 48 52).length ≤ 8 := by rw [sub_length (by omega)]; omega
  have k2 := wrap_32 (num_32 (l := l) (i := 44) (j := 48) (by omega) (by omega))
  have k3 := wrap_32 (num_32 (l := l) (i := 48) (j := 52) (by omega) (by omega))
  generalize hw3 : drew (drew w2) = w3
  have e3 : Ext w1 w3 (fun _ => False) := by rw [← hw3]; exact e13.drew_
  have tail : ∀ (tb : Nat) (w' : World), tb = w3.heap.size → At w' tb (hdrC 0 zb 0 0) 121 → Ext w3 w' (fun _ => False) →
      st Try.prog 121 ⟨tb, 0, none⟩ (.agg (hdrC (num (sub l 4 12)) zb (num (sub l 44 48)) (num (sub l 48 52))).toArray) w' fun w3 => True ∧ W.ref34_DecodeHeader_k6 (mkS l) ⟨rb, 0, none⟩ ⟨tb, 0, none⟩ w3 Q := by
    intro tb w' htb at' e'
    have hlt := a1.lt
    have hs := e3.size
    refine st_g 35 at' (by rw [hdrC_length rfl]; omega) (hdrC_length rfl) (hdrC_one _ _ _ _) fun w4 a4 e4 z4 => ⟨trivial, ?_⟩
    rw [splice_all (by rw [hdrC_length rfl, hdrC_length rfl])] at a4
    refine rdecodeHeader_k6 h64 (((a1.ext e3 (fun h => h)).ext e' (fun h => h)).ext e4 (by omega)) a4 (by omega) fun w5 e5 => hQ w5 ?_
    have hs1 := e1.size
    exact (((e1.tr e3).tr e').trans e4 (fun _ _ h => h) (fun b hb hx => by omega)).trans e5 (fun _ _ h => h) (fun b hb hx => by rcases hx with hx | hx <;> omega)
  refine ⟨?_, ?_⟩
  · refine value_c (l := sub l 4 12) n1 (fi ⟨trivial, ?_, ?_⟩)
    · refine value_c (l := sub l 44 48) n2 (fi ⟨trivial, ?_, ?_⟩)
      · refine value_c (l := sub l 48 52) n3 (fi ⟨trivial, ?_⟩)
        refine al_i fun tb w4 htb a3 e4 z3 => ⟨trivial, ?_⟩
        rw [hz] at a3
        rw [k2, k3]
        exact tail tb w4 htb a3 e4
      · refine al_i fun tb w4 htb a3 e4 z3 => ⟨trivial, ?_⟩
        rw [hz] at a3
        refine value_c (l := sub l 48 52) n3 (fi ⟨trivial, ?_⟩)
        rw [k2, k3]
        exact tail tb w4 htb a3 e4
    · refine al_i fun tb w4 htb a3 e4 z3 => ⟨trivial, ?_⟩
      rw [hz] at a3
      refine value_c (l := sub l 44 48) n2 (fi ⟨trivial, ?_⟩)
      refine value_c (l := sub l 48 52) n3 (fi ⟨trivial, ?_⟩)
      rw [k2, k3]
      exact tail tb w4 htb a3 e4
  · refine al_i fun tb w4 htb a3 e4 z3 => ⟨trivial, ?_⟩
    rw [hz] at a3
    refine value_c (l := sub l 4 12) n1 (fi ⟨trivial, ?_⟩)
    refine value_c (l := sub l 44 48) n2 (fi ⟨trivial, ?_⟩)
    refine value_c (l := sub l 48 52) n3 (fi ⟨trivial, ?_⟩)
    rw [k2, k3]
    exact tail tb w4 htb a3 e4
end
end Go.Proofs.Ytpinpccamfhofaa.Im

/-
  Comparison of headers over the code. No condition beyond those stated.
-/
set_option maxRecDepth 100000
namespace Go.Proofs.Ytpinpccamfhofaa.Im
open Go Go.Ev Go.Proofs

theorem four {α : Type} : ∀ {l : List α}, l.length = 4 → ∃ a b c d, l = [a, b, c, d]
  | [a, b, c, d], _ => ⟨a, b, c, d, rfl⟩
theorem two {α : Type} : ∀ {l : List α}, l.length = 2 → ∃ a b, l = [a, b]
  | [a, b], _ => ⟨a, b, rfl⟩
theorem flds4 {l : List Field} {ts os : List Nat} (h1 : l.map (·.type) = ts) (h2 : l.map (·.offset) = os) (h3 : (l.all fun f => !(f.name == "_")) = true) : ∀ f ∈ l, (f.name == "_") = false := by
  intro f hf
  have := List.all_eq_true.1 h3 f hf
  simpa using this

section
variable {U w : World} {Q : Value → World → Prop}
/-- Two headers compared. -/
theorem hdr_eq {g n s g' n' s' : Nat} {bd bd' : List UInt8} (hb : bd.length = 32) (hb' : bd'.length = 32) :
    (Op.equalIn 10000 121 (.agg (hdrC g bd n s).toArray) (.agg (hdrC g' bd' n' s').toArray)).run Try.prog w = .ok (decide (g = g' ∧ bd = bd' ∧ n = n' ∧ s = s')) w := by
  rw [run_equalIn_agg w 9999 121 _ _ (by kernel_rfl) (by kernel_rfl)]
  have h1 : (Try.prog.fieldsOf 121).toList.map (·.type) = [32, 31, 119, 119] := by kernel_rfl
  have h2 : (Try.prog.fieldsOf 121).toList.map (·.offset) = [0, 1, 33, 34] := by kernel_rfl
  have h3 := flds4 h1 h2 (by kernel_rfl)
  generalize (Try.prog.fieldsOf 121).toList = l at *
  obtain ⟨f0, f1, f2, f3, rfl⟩ := four (l := l) (by have := congrArg List.length h1; simpa using this)
  simp only [List.map_cons, List.map_nil, List.cons.injEq, and_true] at h1 h2
  obtain ⟨t0, t1, t2, t3⟩ := h1
  obtain ⟨o0, o1, o2, o3⟩ := h2
  have key : (Op.eqFields 9999 (hdrC g bd n s).toArray (hdrC g' bd' n' s').toArray [f0, f1, f2, f3]).run Try.prog w = .ok ((((g : Int) == (g' : Int))) && (decide (bd = bd') && (((n : Int) == (n' : Int)) && (((s : Int) == (s' : Int)) && true)))) w := by
    have sc64 : isScal Try.prog 32 = true := by kernel_rfl
    have sc32 : isScal Try.prog 119 = true := by kernel_rfl
    have tk : ∀ (g n s : Nat) (bd : List UInt8), bd.length = 32 → ((hdrC g bd n s).drop 1).take 32 = by_ bd := by
      intro g n s bd hb
      unfold hdrC
      show (by_ bd ++ _).take 32 = _
      exact List.take_left' (by rw [by_length, hb])
    refine eqFields_cons (h3 _ (by simp)) (a := .int .u64 (g : Int)) (b := .int .u64 (g' : Int)) (by rw [t0, o0]; exact run_partS sc64 rfl) (by rw [t0, o0]; exact run_partS sc64 rfl) (by rw [t0]; exact run_equalIn_int w 9998 _ .u64 .u64 _ _ (by kernel_rfl)) ?_
    refine eqFields_cons (h3 _ (by simp)) (a := .agg (by_ bd).toArray) (b := .agg (by_ bd').toArray) (by rw [t1, o1, ← tk g n s bd hb]; exact run_partG (by kernel_rfl) (by kernel_rfl) (by kernel_rfl)) (by rw [t1, o1, ← tk g' n' s' bd' hb']; exact run_partG (by kernel_rfl) (by kernel_rfl) (by kernel_rfl)) (by rw [t1]; exact eq_bytes (d := 9997) 5 hb hb') ?_
    refine eqFields_cons (h3 _ (by simp)) (a := .int .u32 (n : Int)) (b := .int .u32 (n' : Int)) (by rw [t2, o2]; exact run_partS sc32 (hdrC_33 hb)) (by rw [t2, o2]; exact run_partS sc32 (hdrC_33 hb')) (by rw [t2]; exact run_equalIn_int w 9998 _ .u32 .u32 _ _ (by kernel_rfl)) ?_
    exact eqFields_cons (h3 _ (by simp)) (a := .int .u32 (s : Int)) (b := .int .u32 (s' : Int)) (by rw [t3, o3]; exact run_partS sc32 (hdrC_34 hb)) (by rw [t3, o3]; exact run_partS sc32 (hdrC_34 hb')) (by rw [t3]; exact run_equalIn_int w 9998 _ .u32 .u32 _ _ (by kernel_rfl)) rfl
  rw [key]
  congr 1
  rw [Bool.eq_iff_iff]
  simp only [Bool.and_eq_true, beq_iff_eq, decide_eq_true_eq, and_true, Int.natCast_inj]
theorem hdr_refl {v : List Value} {l : List UInt8} (hv : v = (decH l).1) : (Op.equalIn 10000 121 (.agg v.toArray) (.agg v.toArray)).run Try.prog w = .ok true w := by
  have : ∃ g bd n s, bd.length = 32 ∧ v = hdrC g bd n s := by
    rw [hv]
    unfold decH
    split
    · exact ⟨_, zb, _, _, rfl, rfl⟩
    split
    · exact ⟨_, zb, _, _, rfl, rfl⟩
    split
    · exact ⟨_, zb, _, _, rfl, rfl⟩
    split
    · exact ⟨_, zb, _, _, rfl, rfl⟩
    exact ⟨_, _, _, _, sub_length (by omega), rfl⟩
  obtain ⟨g, bd, n, s, hb, rfl⟩ := this
  rw [hdr_eq hb hb, decide_eq_true ⟨rfl, rfl, rfl, rfl⟩]
end
end Go.Proofs.Ytpinpccamfhofaa.Im

/-
  Arguments that came in: digests, headers, lists of pages' descriptions. No condition beyond those stated.
-/
set_option maxRecDepth 100000
namespace Go.Proofs.Ytpinpccamfhofaa.Im
open Go Go.Ev Go.Proofs Go.ChangeShapes Go.WideShapes Go.ChangeAt Go.RowKit

/-- A page's description. -/
structure Rw where
  step : Int
  wa : Option Addr
  wn : Nat
  wc : Nat
  st : Int
instance : Inhabited Rw := ⟨⟨0, none, 0, 0, 0⟩⟩
def Rw.cells (r : Rw) : List Value := [.int .i64 r.step, .slice r.wa r.wn r.wc, .int .u8 r.st]
theorem Rw.len (r : Rw) : r.cells.length = 3 := rfl
/-- A list of descriptions that came in. -/
structure Rin (w : World) (l : Option Addr) (n : Nat) (rs : List Rw) : Prop where
  r : Reads w l (rs.flatMap Rw.cells)
  n : rs.length = n
  ok : ∀ x ∈ rs, Pz.U32s w x.wa x.wn ∧ 0 ≤ x.st ∧ x.st ≤ 255
  mx : rs.length ≤ maxLen
theorem Rin.ext {w w' : World} {l : Option Addr} {n : Nat} {rs : List Rw} (h : Rin w l n rs) (e : Ext w w' (fun _ => False)) : Rin w' l n rs :=
  ⟨h.r.ext e (fun _ _ _ h => h), h.n, fun x hx => ⟨(h.ok x hx).1.ext e, (h.ok x hx).2⟩, h.mx⟩
theorem Rin.ptr {w : World} {l : Option Addr} {n : Nat} {rs : List Rw} (h : Rin w l n rs) (hn : 0 < n) : ∃ p, l = some p :=
  h.r.some_ (by rw [flat_length (f := Rw.cells) (m := 3) (fun _ => rfl), h.n]; omega)

section
variable {H : Type} {enc : TypeId × Value → H}
theorem trod_board {W : World} {n : Nat} {cs : List Value} {x : DataW H × List MemPlace} (h : DataW.trod enc Try.prog W 0 (fun _ => true) true n 31 cs = some x) : ∃ bd : List UInt8, bd.length = 32 ∧ cs = by_ bd := by
  obtain ⟨xs, m, _, _, hcl, hxl, hf⟩ := DataW.trod_array (n := 32) (e := 5) (by kernel_rfl) h
  have hc32 : Try.prog.cellsOf 31 = 32 := by kernel_rfl
  have hc1 : Try.prog.cellsOf 5 = 1 := by kernel_rfl
  rw [hc32] at hcl
  have key : ∀ i, i < 32 → ∃ c : UInt8, cs[i]? = some (.int .u8 (c.toNat : Int)) := by
    intro i hi
    have h1 := hf i hi
    rw [List.getElem?_eq_getElem (by omega), hc1, Nat.mul_one] at h1
    obtain ⟨k, hk, _, wk⟩ := DataW.trod_int (k := .u8) (by kernel_rfl) h1
    obtain ⟨c, rfl⟩ := u8_of (int_of_wf wk).1 (int_of_wf wk).2
    refine ⟨c, ?_⟩
    have := congrArg (fun l : List Value => l[0]?) hk
    simpa [List.getElem?_drop, List.getElem?_take] using this
  obtain ⟨bd, hl, hq⟩ := choose_list 32 key
  refine ⟨bd, hl, ?_⟩
  apply List.ext_getElem?
  intro i
  by_cases hi : i < 32
  · rw [hq i (by omega), by_get, List.getElem?_eq_getElem (by omega)]; rfl
  · rw [List.getElem?_eq_none (by omega), List.getElem?_eq_none (by rw [by_length]; omega)]
theorem open_board {W : World} {v : Value} {d : DataW H} {p : List MemPlace} {r : Reach} {b0 : Nat} (hv : Value.okWide Try.prog W r b0 31 v)
    (h : DataW.Trod enc Try.prog W 0 (fun _ => true) true 31 v d p) : ∃ bd : List UInt8, v = .agg (by_ bd).toArray ∧ bd.length = 32 := by
  obtain ⟨n, h⟩ := trod_of h
  obtain ⟨cs, rfl⟩ := okWide_agg (t := 31) (by kernel_rfl) hv
  obtain ⟨bd, hl, hc⟩ := trod_board h
  have hc' : cs.toList = by_ bd := hc
  refine ⟨bd, ?_, hl⟩
  rw [← hc']
theorem open_hdr {W : World} {v : Value} {d : DataW H} {p : List MemPlace} {r : Reach} {b0 : Nat} (hv : Value.okWide Try.prog W r b0 121 v)
    (h : DataW.Trod enc Try.prog W 0 (fun _ => true) true 121 v d p) : ∃ (g : Nat) (bd : List UInt8) (n s : Nat), v = .agg (hdrC g bd n s).toArray ∧ bd.length = 32 ∧ g < 18446744073709551616 ∧ n < 4294967296 ∧ s < 4294967296 := by
  obtain ⟨n, h⟩ := trod_of h
  obtain ⟨cs, rfl⟩ := okWide_agg (t := 121) (by kernel_rfl) hv
  obtain ⟨xs, m, _, _, hcl, hxl, hf⟩ := DataW.trod_struct (fs := structFs Try.prog 121) (by kernel_rfl) h
  have hc35 : Try.prog.cellsOf 121 = 35 := by kernel_rfl
  have hs4 : (structFs Try.prog 121).size = 4 := by kernel_rfl
  rw [hc35] at hcl
  rw [hs4] at hxl
  have hcs : (Value.agg cs).cells.toList = cs.toList := rfl
  rw [hcs] at hcl
  obtain ⟨x0, x1, x2, x3, rfl⟩ := four hxl
  obtain ⟨n0, h0, _, w0⟩ := DataW.trod_int (k := .u64) (by kernel_rfl) (hf 0 _ rfl)
  obtain ⟨bd, hbl, h1⟩ := trod_board (hf 1 _ rfl)
  obtain ⟨n2, h2, _, w2⟩ := DataW.trod_int (k := .u32) (by kernel_rfl) (hf 2 _ rfl)
  obtain ⟨n3, h3, _, w3⟩ := DataW.trod_int (k := .u32) (by kernel_rfl) (hf 3 _ rfl)
  have e0 : (cs.toList.drop 0).take 1 = [.int .u64 n0] := h0
  have e1 : (cs.toList.drop 1).take 32 = by_ bd := h1
  have e2 : (cs.toList.drop 33).take 1 = [.int .u32 n2] := h2
  have e3 : (cs.toList.drop 34).take 1 = [.int .u32 n3] := h3
  obtain ⟨g, rfl⟩ := nat_of (int_of_wf w0).1
  obtain ⟨n', rfl⟩ := nat_of (int_of_wf w2).1
  obtain ⟨s', rfl⟩ := nat_of (int_of_wf w3).1
  have b0 : (g : Int) ≤ 18446744073709551615 := (int_of_wf w0).2
  have b2 : (n' : Int) ≤ 4294967295 := (int_of_wf w2).2
  have b3 : (s' : Int) ≤ 4294967295 := (int_of_wf w3).2
  refine ⟨g, bd, n', s', ?_, hbl, by omega, by omega, by omega⟩
  have hall : cs.toList = hdrC g bd n' s' := by
    have t1 : cs.toList = (cs.toList.drop 0).take 1 ++ ((cs.toList.drop 1).take 32 ++ ((cs.toList.drop 33).take 1 ++ (cs.toList.drop 34).take 1)) := by
      have s1 : (cs.toList.drop 33).take 1 ++ (cs.toList.drop 34).take 1 = cs.toList.drop 33 := by
        have : (cs.toList.drop 34).take 1 = cs.toList.drop 34 := List.take_of_length_le (by rw [List.length_drop]; omega)
        rw [this, show cs.toList.drop 34 = (cs.toList.drop 33).drop 1 by rw [List.drop_drop], List.take_append_drop]
      have s2 : (cs.toList.drop 1).take 32 ++ cs.toList.drop 33 = cs.toList.drop 1 := by
        rw [show cs.toList.drop 33 = (cs.toList.drop 1).drop 32 by rw [List.drop_drop], List.take_append_drop]
      rw [s1, s2, List.drop_zero, List.take_append_drop]
    rw [t1, e0, e1, e2, e3]
    rfl
  rw [← hall]
theorem trod_words {W : World} {n : Nat} {cs : List Value} {x : DataW H × List MemPlace} (h : DataW.trod enc Try.prog W 0 (fun _ => true) true n 79 cs = some x) : ∃ (l : Option Addr) (k c : Nat), cs = [.slice l k c] ∧ Pz.U32s W l k := by
  rcases DataW.trod_slice (e := 119) (by kernel_rfl) h with ⟨hc, _⟩ | ⟨a, len, cap, elems, rest, n, _, hc, _, _, hl, hm, hlen, hel, _⟩
  · exact ⟨none, 0, 0, hc, .inl rfl⟩
  · refine ⟨some a, len, cap, hc, ?_⟩
    have hc1 : Try.prog.cellsOf 119 = 1 := by kernel_rfl
    have key : ∀ i, i < len → ∃ x : Int, W.cell? (a.add i) = some (.int .u32 x) := by
      intro i hi
      have h1 := hel i hi
      rw [List.getElem?_eq_getElem (by omega)] at h1
      obtain ⟨cs', hcs, hy⟩ := Option.bind_eq_some_iff.1 h1
      obtain ⟨_, hcl, hat⟩ := World.cells?_some hcs
      obtain ⟨x, hx, _⟩ := DataW.trod_int (k := .u32) (by kernel_rfl) hy
      refine ⟨x, ?_⟩
      have := hat 0 (by rw [hc1]; omega)
      rw [hc1, Nat.mul_one, hx, add_add_, Nat.add_zero] at this
      exact this
    by_cases h0 : len = 0
    · exact .inl h0
    · obtain ⟨x, hx⟩ := key 0 (by omega)
      have := cell_lt hx
      rw [Pz.add_block'] at this
      exact .inr ⟨a, rfl, this, key⟩
set_option maxRecDepth 100000 in
theorem open_raws {W : World} {v : Value} {d : DataW H} {p : List MemPlace} {r : Reach} {b0 : Nat} (hv : Value.okWide Try.prog W r b0 33 v)
    (h : DataW.Trod enc Try.prog W 0 (fun _ => true) true 33 v d p) : ∃ (l : Option Addr) (n c : Nat) (rs : List Rw), v = .slice l n c ∧ Rin W l n rs := by
  rcases open_sl (e := 81) (by kernel_rfl) hv h with rfl | ⟨a, len, cap, rfl, hlc, hcm, hi⟩
  · exact ⟨none, 0, 0, [], rfl, .inl rfl, rfl, by simp, Nat.zero_le _⟩
  · have hc3 : Try.prog.cellsOf 81 = 3 := by kernel_rfl
    rw [hc3] at hi
    obtain ⟨l, hl, hr, hk, _⟩ := reads_rows (W := W) (a := a) (len := len) (m := 3) (f := Rw.cells) (R := fun c => Pz.U32s W c.wa c.wn ∧ 0 ≤ c.st ∧ c.st ≤ 255) (by omega) (fun _ => rfl) (fun i hi' => by
      obtain ⟨cs', n', y, hcl, hat, hy⟩ := hi i hi'
      obtain ⟨xs, m, _, _, _, hxl, hf⟩ := DataW.trod_struct (fs := structFs Try.prog 81) (by kernel_rfl) hy
      have hs3 : (structFs Try.prog 81).size = 3 := by kernel_rfl
      rw [hs3] at hxl
      match xs, hxl with
      | [x0, x1, x2], _ =>
        obtain ⟨n0, h0, _, w0⟩ := DataW.trod_int (k := .i64) (by kernel_rfl) (hf 0 _ rfl)
        obtain ⟨wa, wn, wc, h1, hu⟩ := trod_words (hf 1 _ rfl)
        obtain ⟨n2, h2, _, w2⟩ := DataW.trod_int (k := .u8) (by kernel_rfl) (hf 2 _ rfl)
        refine ⟨⟨n0, wa, wn, wc, n2⟩, ⟨hu, (int_of_wf w2).1, (int_of_wf w2).2⟩, fun j hj => ?_⟩
        rw [hat j hj]
        have e0 : (cs'.drop 0).take 1 = [.int .i64 n0] := h0
        have e1 : (cs'.drop 1).take 1 = [.slice wa wn wc] := h1
        have e2 : (cs'.drop 2).take 1 = [.int .u8 n2] := h2
        match cs', hcl with
        | [c0, c1, c2], _ =>
          simp at e0 e1 e2
          subst e0 e1 e2
          rfl)
    exact ⟨some a, len, cap, l, rfl, hr, hl, hk, by rw [hl]; exact Nat.le_trans hlc hcm⟩
end
end Go.Proofs.Ytpinpccamfhofaa.Im

/-
  The statements' helpers over the code: the image that descriptions determine, comparison of images. No condition beyond those stated.
-/
set_option maxRecDepth 100000
namespace Go.Proofs.Ytpinpccamfhofaa.Im
open Go Go.Ev Go.Proofs

def lastN : Int → List Pg → Int
  | m, [] => m
  | _, p :: r => lastN p.1 r
theorem lastN_snoc : ∀ (ps : List Pg) (m : Int) (p : Pg), lastN m (ps ++ [p]) = p.1
  | [], _, _ => rfl
  | q :: ps, _, p => lastN_snoc ps q.1 p
theorem incr_snoc : ∀ (ps : List Pg) (m : Int) (p : Pg), incr m ps = true → 0 ≤ p.1 → p.1 ≤ 2147483647 → lastN m ps < p.1 → incr m (ps ++ [p]) = true
  | [], m, p, _, h0, h1, h2 => by
    have : m < p.1 := h2
    show incr m [p] = true
    rw [incr_cons, decide_eq_true h0, decide_eq_true h1, decide_eq_true this]; rfl
  | q :: ps, m, p, h, h0, h1, h2 => by
    rw [incr_cons, Bool.and_eq_true] at h
    rw [List.cons_append, incr_cons, h.1, incr_snoc ps q.1 p h.2 h0 h1 h2]; rfl
theorem buildI2 {bd : List UInt8} {g : Nat} (hbd : bd.length = 32) : ∀ w, (Instr.build 41 #[(0, .agg (by_ bd).toArray), (1, .int .u64 (g : Int))]).run Try.prog w = .ok (.agg (imgC bd g none 0 0).toArray) w := by
  refine bld_run (structFs Try.prog 41) #[(0, 32), (32, 1), (33, 1)] (zeroT Try.prog 41) (imgC zb 0 none 0 0) (by kernel_rfl) (by kernel_rfl) (by kernel_rfl) (by kernel_rfl) ?_
  have l1 : (imgC zb 0 none 0 0).length = 34 := rfl
  have l2 : ∀ g' pa' n' c', (imgC bd g' pa' n' c').length = 34 := fun _ _ _ _ => imgC_length hbd
  have s1 : splice (imgC zb 0 none 0 0) 0 (by_ bd) = imgC bd 0 none 0 0 := by
    rw [splice_eq _ _ _ (by rw [l1, by_length, hbd]; omega), by_length, hbd]
    rfl
  have s2 : splice (imgC bd 0 none 0 0) 32 [.int .u64 (g : Int)] = imgC bd g none 0 0 := splice_end (by rw [by_length, hbd])
  rw [fill_cons 0 (by_ bd) (by rw [by_length, hbd]; rfl) rfl (by rw [l1, by_length, hbd]; omega), s1]
  rw [fill_cons 32 [.int .u64 (g : Int)] rfl rfl (by rw [l2]; show 32 + 1 ≤ 34; omega), s2]
  rfl
theorem imgC_set {bd : List UInt8} {g : Nat} {pa pa' : Option Addr} {n c n' c' : Nat} (h : bd.length = 32) : (imgC bd g pa n c).set 33 (.slice pa' n' c') = imgC bd g pa' n' c' := by
  unfold imgC
  rw [List.set_append_right _ _ (by rw [by_length]; omega), by_length, h]
  rfl

section
variable {U w : World} {Q : Value → World → Prop}

theorem some_k9 {p : Addr} {rn rc rb ib i c m : Nat} {rs : List Rw} {bd : List UInt8} {g : Nat} {a : Option Addr} {ps : List Pg} {next : (Int × Int × Unit) → World → Prop} (hr : Rin w (some p) rn rs) (hi : i < rn) (hi6 : i < 6) (hbd : bd.length = 32)
    (hib : At w ib (imgC bd g a ps.length c) 41) (hs : Sl w 85 2 a ps.length c (ps.flatMap pgC)) (hne : ∀ b, a = some ⟨b, 0, none⟩ → b ≠ ib) (hps : ps.length = i)
    (hnext : ∀ d a' c' w', d.length = 256 → At w' ib (imgC bd g a' (ps.length + 1) c') 41 → Sl w' 85 2 a' (ps.length + 1) c' ((ps ++ [((m : Int), d)]).flatMap pgC) → (∀ b, a' = some ⟨b, 0, none⟩ → b ≠ ib ∧ (a = some ⟨b, 0, none⟩ ∨ w.heap.size ≤ b)) → Ext w w' (fun b => b = ib ∨ a = some ⟨b, 0, none⟩) → next ((m : Int), ((i + 1 : Nat) : Int), ()) w') :
    W.law34_Some_k9 (some p) rn rc ⟨rb, 0, none⟩ ⟨ib, 0, none⟩ (m : Int) (i : Int) next w Q := by
  unfold W.law34_Some_k9
  simp only [add_mk, Nat.zero_add]
  refine ⟨fun _ => True, trivial, ?_⟩
  have hn := hr.n
  refine ixsS i 3 81 hi ?_
  refine ixsS i 3 81 hi ?_
  have ed : Ext w (drew w) (fun _ => False) := (Ext.refl w _).drew_
  generalize hw0 : drew w = w0
  rw [hw0] at ed
  have E0 : Ext w0 w0 (fun _ => False) := Ext.refl _ _
  have hr0 := hr.ext ed
  have hib0 := hib.ext ed (fun h => h)
  have hs0 := hs.ext ed (fun _ _ h => h)
  obtain ⟨hU, hst0, hst1⟩ := hr0.ok rs[i] (List.getElem_mem (by omega))
  have ldp : ∀ {w' : World} {K : Option Addr → Nat → Nat → Prop}, Ext w0 w' (fun _ => False) → K a ps.length c → ld Try.prog 39 ⟨ib, 33, none⟩ w' fun v => fS v fun l n c => True ∧ K l n c :=
    fun e hK => ldL (hib0.ext e (fun h => h)) (imgC_33 hbd) ⟨trivial, hK⟩
  have ldw : ∀ {w' : World} {K : Option Addr → Nat → Nat → Prop}, Ext w0 w' (fun _ => False) → K rs[i].wa rs[i].wn rs[i].wc → ld Try.prog 79 ((p.add (i * 3)).add 1) w' fun v => fS v fun l n c => True ∧ K l n c :=
    fun e hK => rdF (o := 1) i (by omega) (hr0.r.ext e (fun _ _ _ h => h)) Rw.len (by omega) rfl (fs ⟨trivial, hK⟩)
  have lds : ∀ {w' : World} {K : Int → Prop}, Ext w0 w' (fun _ => False) → K rs[i].st → ld Try.prog 5 ((p.add (i * 3)).add 2) w' fun v => fI .u8 v fun x => True ∧ K x :=
    fun e hK => rdF (o := 2) i (by omega) (hr0.r.ext e (fun _ _ _ h => h)) Rw.len (by omega) rfl (fi ⟨trivial, hK⟩)
  have pg : ∀ {w' : World} {K : ByteArray → World → Prop}, Ext w0 w' (fun _ => False) → (∀ d w'', d.length = 256 → Ext w0 w'' (fun _ => False) → K (mkS d) w'') → CallE Try.prog 42 #[.slice rs[i].wa rs[i].wn rs[i].wc, .int .u8 rs[i].st] w' fun v w'' => fT v fun t => True ∧ K t w'' :=
    fun e hK => Pz.page_c (hU.ext e) hst0 hst1 fun d w'' hd e'' => ft ⟨trivial, hK d w'' hd (e.tr e'')⟩
  have alp : ∀ {w' : World} {d : List UInt8} {K : Addr → World → Prop}, Ext w0 w' (fun _ => False) → (∀ tb w'', At w'' tb (pgC ((m : Int), d)) 85 → Ext w0 w'' (fun _ => False) → K ⟨tb, 0, none⟩ w'') → al 85 #[.int .i64 (m : Int), .string (mkS d)] w' fun a w'' => True ∧ K a w'' :=
    fun e hK => al_i fun tb w'' htb a'' e'' z'' => ⟨trivial, hK tb w'' a'' (e.tr e'')⟩
  have fin : ∀ {w' : World} {d : List UInt8} {tb : Nat}, d.length = 256 → At w' tb (pgC ((m : Int), d)) 85 → Ext w0 w' (fun _ => False) →
      rv Try.prog (Builtin.append_ #[39, 39] 39 #[.slice a ps.length c, .slice (some ⟨tb, 0, none⟩) 1 1]) w' fun v w'' => fS v fun l n c => True ∧ st Try.prog 39 ⟨ib, 33, none⟩ (.slice l n c) w'' fun w3 => True ∧ next ((m : Int), (IntKind.wrap .i64 ((i : Int) + 1) : Int), ()) w3 := by
    intro w' d tb hd htb e
    refine ap_i 85 2 (vs := pgC ((m : Int), d)) (hs0.ext e (fun _ _ h => h)) (.inr ⟨_, rfl, fun k hk => by rw [add_mk, htb.cell, Nat.zero_add]⟩) rfl (pgC_one _) (by omega) fun a1 c1 w1 s1 f1 g1 e1 => fs ⟨trivial, ?_⟩
    have hi1 := (hib0.ext e (fun h => h)).ext e1 (fun h => hne ib h rfl)
    refine st_i hi1 (by rw [imgC_length hbd]; omega) fun w2 a2 e2 z2 => ⟨trivial, ?_⟩
    rw [imgC_set hbd] at a2
    rw [inc_nat (by omega)]
    have hlt := (hib0.ext e (fun h => h)).lt
    have hne1 : ∀ b, a1 = some ⟨b, 0, none⟩ → b ≠ ib := by
      intro b hb
      rcases f1 b hb with h | h
      · exact hne b h
      · omega
    have hsz1 := ed.size
    have hsz2 := e.size
    refine hnext d a1 c1 w2 hd a2 (by rw [List.flatMap_append]; simpa using s1.ext e2 hne1) (fun b hb => ⟨hne1 b hb, ?_⟩) (((ed.tr e).trans e1 (Z := fun b => b = ib ∨ a = some ⟨b, 0, none⟩) (fun _ _ h => h.elim) (fun _ _ h => .inr h)).trans e2 (fun _ _ h => h) (fun _ _ h => .inl h))
    rcases f1 b hb with h | h
    · exact .inl h
    · exact .inr (by omega)
  repeat' with_reducible first
    | refine ldp (by assumption) ?_
    | refine ldw (by assumption) ?_
    | refine lds (by assumption) ?_
    | refine pg (by assumption) fun _ _ _ _ => ?_
    | refine alp (by assumption) fun _ _ _ _ => ?_
    | refine And.intro ?_ ?_
    | exact fin (by assumption) (by assumption) (by assumption)

/-- The image that descriptions determine: at most six pages, valid. -/
theorem some_c {l : Option Addr} {rn rc g : Nat} {rs : List Rw} {bd : List UInt8} (hr : Rin w l rn rs) (hbd : bd.length = 32) (hQ : ∀ ps a c w', OkP ps → ps.length ≤ 6 → Sl w' 85 2 a ps.length c (ps.flatMap pgC) → (∀ b, a = some ⟨b, 0, none⟩ → w.heap.size ≤ b) → Ext w w' (fun _ => False) → Q (.agg (imgC bd g a ps.length c).toArray) w') :
    CallE Try.prog 20 #[.agg (by_ bd).toArray, .int .u64 (g : Int), .slice l rn rc] w Q := by
  apply C.law34_Some
  unfold W.law34_Some
  refine al_i fun bb w1 hbb a1 e1 z1 => ?_
  change At w1 bb (by_ bd) 31 at a1
  refine al_i fun ob w2 hob a2 e2 z2 => ?_
  rw [zimg] at a2
  refine ld_w (a1.ext e2 (fun h => h)) (fg ?_) (hs := by rw [by_length, hbd]; kernel_rfl)
  refine rq_r (buildI2 hbd) (fg ?_)
  refine al_st 34 (imgC_length hbd) (imgC_one _ _ _ _ _) fun ib w3 hib a3 e3 z3 => ?_
  have e03 := (e1.tr e2).tr e3
  have hsz := e03.size
  have a23 := a2.ext e3 (fun h => h)
  have hn := hr.n
  have fin : ∀ (w4 : World) (a4 : Option Addr) (c4 : Nat) (ps : List Pg), At w4 ib (imgC bd g a4 ps.length c4) 41 → Sl w4 85 2 a4 ps.length c4 (ps.flatMap pgC) → (∀ b, a4 = some ⟨b, 0, none⟩ → b ≠ ib ∧ w3.heap.size ≤ b) → Ext w3 w4 (· = ib) → OkP ps → ps.length ≤ 6 →
      ld Try.prog 41 ⟨ib, 0, none⟩ w4 fun v => fG v fun x => st Try.prog 41 ⟨ob, 0, none⟩ (.agg x) w4 fun w5 => ld Try.prog 41 ⟨ob, 0, none⟩ w5 fun v => fG v fun x => Q (.agg x) w5 := by
    intro w4 a4 c4 ps ai as_ hf e4 hok h6
    refine ld_w ai (fg ?_) (hs := by rw [imgC_length hbd]; kernel_rfl)
    have hlo := a23.lt
    refine st_w 34 (a23.ext e4 (by omega)) rfl (imgC_length hbd) (imgC_one _ _ _ _ _) fun w5 a5 e5 z5 => ?_
    refine ld_w a5 (fg ?_) (hs := by rw [imgC_length hbd]; kernel_rfl)
    have hsz1 := e1.size
    have hsz2 := e2.size
    refine hQ ps a4 c4 w5 hok h6 (as_.ext e5 (fun b hb hx => ?_)) (fun b hb => ?_) ((e03.trans e4 (fun _ _ h => h) (fun b hb hx => by omega)).trans e5 (fun _ _ h => h) (fun b hb hx => by omega))
    · have := (hf b hb).2; omega
    · have := (hf b hb).2; omega
  refine LoopW.nat 6 (fun i x w' => ∃ (m : Nat) (a : Option Addr) (c : Nat) (ps : List Pg), x = ((m : Int), (i : Int), ()) ∧ ps.length = i ∧ i ≤ rn ∧ m ≤ 100 * i ∧ incr (-1) ps = true ∧ (∀ p ∈ ps, p.2.length = 256) ∧ (0 < i → lastN (-1) ps = (m : Int)) ∧ At w' ib (imgC bd g a ps.length c) 41 ∧ Sl w' 85 2 a ps.length c (ps.flatMap pgC) ∧ (∀ b, a = some ⟨b, 0, none⟩ → b ≠ ib ∧ w3.heap.size ≤ b) ∧ Ext w3 w' (· = ib))
    ⟨0, none, 0, [], rfl, rfl, by omega, by omega, rfl, by simp, fun h => absurd h (by omega), a3, .inl ⟨rfl, rfl, rfl, rfl⟩, (fun b hb => by cases hb), Ext.refl _ _⟩ ?_
  rintro i x w4 next hi ⟨m, a, c, ps, rfl, hpl, hirn, hm, hinc, hd, hlast, ai, as_, hf, e4⟩ hnext
  dsimp only
  have hok : OkP ps := ⟨by unfold validP; rw [hinc, decide_eq_true (by omega)]; rfl, hd⟩
  by_cases hlt : i < rn
  case neg =>
    rw [decide_eq_false (by omega), br_false]
    exact fin w4 a c ps ai as_ hf e4 hok (by omega)
  rw [decide_eq_true (by omega), br_true]
  by_cases hlt6 : i < 6
  case neg =>
    rw [decide_eq_false (by omega), br_false]
    exact fin w4 a c ps ai as_ hf e4 hok (by omega)
  rw [decide_eq_true (by omega), br_true]
  obtain ⟨p, rfl⟩ := hr.ptr (by omega)
  have hib3 : w.heap.size ≤ ib := by have := (e1.tr e2).size; omega
  have hr4 : Rin w4 (some p) rn rs := hr.ext (e03.trans e4 (fun _ _ h => h) (fun b hb hx => by omega))
  refine ixs i 3 81 hlt ?_
  refine rdF (o := 0) i (by omega) hr4.r Rw.len (by omega) rfl (fi ?_)
  refine mod_c (by omega) (by omega) (fi ?_)
  have hmb := modv_bd (v := rs[i].step) (n := 50) (by omega)
  obtain ⟨k, hk⟩ := nat_of hmb.1
  rw [hk] at hmb ⊢
  have step : ∀ m' : Nat, m' ≤ 100 * (i + 1) → lastN (-1) ps < (m' : Int) → W.law34_Some_k9 (some p) rn rc ⟨ob, 0, none⟩ ⟨ib, 0, none⟩ (m' : Int) (i : Int) next w4 Q := by
    intro m' hm' hl'
    refine some_k9 hr4 hlt hlt6 hbd ai as_ (fun b hb => (hf b hb).1) hpl fun d a' c' w' hd' ai' as' hf' e' => ?_
    refine hnext hlt6 _ _ ⟨m', a', c', ps ++ [((m' : Int), d)], rfl, by rw [List.length_append]; show _ + 1 = _; omega, by omega, hm', incr_snoc ps (-1) _ hinc (by show 0 ≤ (m' : Int); omega) (by show (m' : Int) ≤ _; omega) hl', fun q hq => ?_, fun _ => lastN_snoc _ _ _, by rw [List.length_append]; exact ai', by rw [List.length_append]; exact as', fun b hb => ?_, e4.trans e' (fun _ _ h => h) (fun b hb hx => ?_)⟩
    · rcases List.mem_append.1 hq with hq | hq
      · exact hd q hq
      · rw [List.mem_singleton.1 hq]; exact hd'
    · obtain ⟨h1, h2⟩ := hf' b hb
      refine ⟨h1, ?_⟩
      have := e4.size
      rcases h2 with h2 | h2
      · exact (hf b h2).2
      · omega
    · rcases hx with hx | hx
      · exact hx
      · have := (hf b hx).2
        omega
  by_cases hi0 : i = 0
  · subst hi0
    rw [decide_eq_false (by omega), br_false]
    have hps : ps = [] := List.eq_nil_of_length_eq_zero hpl
    rw [show IntKind.wrap .i64 ((m : Int) + (k : Int)) = ((m + k : Nat) : Int) by rw [wrap_i64 (by omega) (by omega)]; omega]
    exact step (m + k) (by omega) (by rw [hps]; show -1 < ((m + k : Nat) : Int); omega)
  · rw [decide_eq_true (by omega), br_true]
    rw [show IntKind.wrap .i64 ((IntKind.wrap .i64 ((m : Int) + (k : Int))) + 1) = ((m + k + 1 : Nat) : Int) by rw [wrap_i64 (x := (m : Int) + (k : Int)) (by omega) (by omega), wrap_i64 (by omega) (by omega)]; omega]
    exact step (m + k + 1) (by omega) (by rw [hlast (by omega)]; omega)

/-- Two pages compared. -/
theorem pg_eq {p q : Pg} : (Op.equalIn 10000 85 (.agg (pgC p).toArray) (.agg (pgC q).toArray)).run Try.prog w = .ok (decide (p = q)) w := by
  rw [run_equalIn_agg w 9999 85 _ _ (by kernel_rfl) (by kernel_rfl)]
  have h1 : (Try.prog.fieldsOf 85).toList.map (·.type) = [3, 9] := by kernel_rfl
  have h2 : (Try.prog.fieldsOf 85).toList.map (·.offset) = [0, 1] := by kernel_rfl
  have h3 := flds4 h1 h2 (by kernel_rfl)
  generalize (Try.prog.fieldsOf 85).toList = l at *
  obtain ⟨f0, f1, rfl⟩ := two (l := l) (by have := congrArg List.length h1; simpa using this)
  simp only [List.map_cons, List.map_nil, List.cons.injEq, and_true] at h1 h2
  obtain ⟨t0, t1⟩ := h1
  obtain ⟨o0, o1⟩ := h2
  have key : (Op.eqFields 9999 (pgC p).toArray (pgC q).toArray [f0, f1]).run Try.prog w = .ok ((p.1 == q.1) && (((mkS p.2).toList == (mkS q.2).toList) && true)) w := by
    refine eqFields_cons (h3 _ (by simp)) (a := .int .i64 p.1) (b := .int .i64 q.1) (by rw [t0, o0]; exact run_partS (by kernel_rfl) rfl) (by rw [t0, o0]; exact run_partS (by kernel_rfl) rfl) (by rw [t0]; exact run_equalIn_int w 9998 _ .i64 .i64 _ _ (by kernel_rfl)) ?_
    exact eqFields_cons (h3 _ (by simp)) (a := .string (mkS p.2)) (b := .string (mkS q.2)) (by rw [t1, o1]; exact run_partS (by kernel_rfl) rfl) (by rw [t1, o1]; exact run_partS (by kernel_rfl) rfl) (by rw [t1]; exact run_equalIn_string w 9998 _ _ _ (by kernel_rfl)) rfl
  rw [key]
  congr 1
  rw [Bool.eq_iff_iff]
  simp only [Bool.and_eq_true, beq_iff_eq, decide_eq_true_eq, and_true, toList_mkS]
  exact ⟨fun h => Prod.ext h.1 h.2, fun h => by rw [h]; exact ⟨rfl, rfl⟩⟩

theorem take_succ_eq {α : Type} {a b : List α} {i : Nat} (ha : i < a.length) (hb : i < b.length) (h : a.take i = b.take i) : a[i] = b[i] ↔ a.take (i + 1) = b.take (i + 1) := by
  have e1 : a.take (i + 1) = a.take i ++ [a[i]] := (List.take_append_getElem ha).symm
  have e2 : b.take (i + 1) = b.take i ++ [b[i]] := (List.take_append_getElem hb).symm
  rw [e1, e2, h]
  exact ⟨fun hh => by rw [hh], fun hh => List.head_eq_of_cons_eq (List.append_cancel_left hh)⟩
theorem equalPages_c {pa qa : Option Addr} {n c m d : Nat} {ps qs : List Pg} (hp : Reads w pa (ps.flatMap pgC)) (hq : Reads w qa (qs.flatMap pgC)) (hn : ps.length = n) (hm : qs.length = m) (hb : n ≤ 1000000) (hQ : ∀ w', Ext w w' (fun _ => False) → Q (.bool (decide (ps = qs))) w') :
    CallE Try.prog 69 #[.slice pa n c, .slice qa m d] w Q := by
  subst hn hm
  apply C.help_Equal_api_Page_
  unfold W.help_Equal_api_Page_
  by_cases hl : ps.length = qs.length
  case neg =>
    rw [show ((((ps.length : Nat) : Int) : Int) != ((qs.length : Nat) : Int)) = true by rw [bne_iff_ne]; omega, br_true]
    have := hQ w (Ext.refl _ _)
    rw [decide_eq_false (fun hc => hl (by rw [hc]))] at this
    exact this
  rw [show ((((ps.length : Nat) : Int) : Int) != ((qs.length : Nat) : Int)) = false by rw [hl]; simp, br_false]
  refine LoopW.nat ps.length (fun i x w' => x = ((i : Int), ()) ∧ Ext w w' (fun _ => False) ∧ ps.take i = qs.take i) ⟨rfl, Ext.refl _ _, rfl⟩ ?_
  rintro i x w1 next hi ⟨rfl, e1, ht⟩ hnext
  dsimp only
  by_cases hlt : i < ps.length
  case neg =>
    rw [decide_eq_false (by omega), br_false]
    have := hQ w1 e1
    rw [List.take_of_length_le (by omega), List.take_of_length_le (by omega)] at ht
    rw [decide_eq_true ht] at this
    exact this
  rw [decide_eq_true (by omega), br_true]
  unfold dr
  dsimp only
  have e1' := e1.drew_
  have hp1 := hp.ext e1' (fun _ _ _ h => h)
  have hq1 := hq.ext e1' (fun _ _ _ h => h)
  obtain ⟨p, rfl⟩ := hp1.some_ (by rw [flat_length pgC_length]; omega)
  obtain ⟨q, rfl⟩ := hq1.some_ (by rw [flat_length pgC_length]; omega)
  refine ixs i 2 85 hlt ?_
  refine rdG i hlt hp1 pgC_length (by omega) (fg ?_)
  refine ixs i 2 85 (by omega) ?_
  refine rdG i (by omega) hq1 pgC_length (by omega) (fg ?_)
  refine qB (fun w => agg_ne pg_eq) ?_
  have hts := take_succ_eq hlt (show i < qs.length by omega) ht
  by_cases hpq : ps[i] = qs[i]'(by omega)
  · rw [decide_eq_true hpq, Bool.not_true, br_false, inc_nat (by omega)]
    exact hnext hlt _ _ ⟨rfl, e1', hts.1 hpq⟩
  · rw [decide_eq_false hpq, Bool.not_false, br_true]
    have := hQ _ e1'
    rw [decide_eq_false (fun hc => hpq (hts.2 (by rw [hc])))] at this
    exact this

/-- Two images compared. -/
theorem equalImg_c {bd bd' : List UInt8} {g g' : Nat} {pa qa : Option Addr} {n c m d : Nat} {ps qs : List Pg} (hb1 : bd.length = 32) (hb2 : bd'.length = 32) (hp : Reads w pa (ps.flatMap pgC)) (hq : Reads w qa (qs.flatMap pgC)) (hn : ps.length = n) (hm : qs.length = m) (hb : n ≤ 1000000)
    (hQ : ∀ w', Ext w w' (fun _ => False) → Q (.bool (decide (bd = bd') && (decide (g = g') && decide (ps = qs)))) w') :
    CallE Try.prog 23 #[.agg (imgC bd g pa n c).toArray, .agg (imgC bd' g' qa m d).toArray] w Q := by
  apply C.law34_Equal
  unfold W.law34_Equal
  refine al_i fun ab w1 hab a1 e1 z1 => ?_
  change At w1 ab (imgC bd g pa n c) 41 at a1
  refine al_i fun bb w2 hbb a2 e2 z2 => ?_
  change At w2 bb (imgC bd' g' qa m d) 41 at a2
  have a12 := a1.ext e2 (fun h => h)
  simp only [add_mk, Nat.zero_add]
  have tk : ∀ (bd : List UInt8) (g : Nat) (pa : Option Addr) (n c : Nat), bd.length = 32 → ((imgC bd g pa n c).drop 0).take 32 = by_ bd := by
    intro bd g pa n c hb
    unfold imgC
    rw [List.drop_zero]
    exact List.take_left' (by rw [by_length, hb])
  refine ld_g 32 a12 (by rw [imgC_length hb1]; omega) (fg ?_)
  refine ld_g 32 a2 (by rw [imgC_length hb2]; omega) (fg ?_)
  rw [tk bd g pa n c hb1, tk bd' g' qa m d hb2]
  refine qB (fun w => agg_eq (eq_bytes (d := 9998) 5 hb1 hb2)) ?_
  have e02 := e1.tr e2
  by_cases h1 : bd = bd'
  case neg =>
    rw [decide_eq_false h1, br_false]
    have := hQ w2 e02
    rw [decide_eq_false h1] at this
    exact this
  rw [decide_eq_true h1, br_true]
  refine ldI a12 (imgC_32 hb1) ?_
  refine ldI a2 (imgC_32 hb2) ?_
  by_cases h2 : g = g'
  case neg =>
    rw [show (((g : Nat) : Int) == ((g' : Nat) : Int)) = false by rw [beq_eq_false_iff_ne]; omega, br_false]
    have := hQ w2 e02
    rw [decide_eq_true h1, decide_eq_false h2] at this
    exact this
  rw [show (((g : Nat) : Int) == ((g' : Nat) : Int)) = true by rw [h2]; simp, br_true]
  refine ldL a12 (imgC_33 hb1) ?_
  refine ldL a2 (imgC_33 hb2) ?_
  refine equalPages_c (hp.ext e02 (fun _ _ _ h => h)) (hq.ext e02 (fun _ _ _ h => h)) hn hm hb fun w3 e3 => fb ?_
  have := hQ w3 (e02.tr e3)
  rw [decide_eq_true h1, decide_eq_true h2] at this
  exact this
end
end Go.Proofs.Ytpinpccamfhofaa.Im

/-
  Images in plain terms: fewer pages, fewer sectors. No program; no condition beyond those stated.
-/
set_option maxRecDepth 100000
namespace Go.Proofs.Ytpinpccamfhofaa.Im
open Go Go.Ev Go.Proofs

theorem strs_append (a b : List (List UInt8)) : strs (a ++ b) = strs a ++ strs b := by simp [strs]
theorem okP_take {ps : List Pg} (h : OkP ps) (k : Nat) : OkP (ps.take k) := by
  obtain ⟨hv, hd⟩ := h
  refine ⟨?_, fun p hp => hd p (List.mem_of_mem_take hp)⟩
  unfold validP at hv ⊢
  simp only [Bool.and_eq_true, decide_eq_true_eq] at hv ⊢
  refine ⟨by rw [List.length_take]; omega, ?_⟩
  have key : ∀ (ps : List Pg) (m : Int) (k : Nat), incr m ps = true → incr m (ps.take k) = true := by
    intro ps
    induction ps with
    | nil => intro m k _; simp [incr]
    | cons p r ih =>
      intro m k hk
      cases k with
      | zero => rfl
      | succ k =>
        rw [incr_cons, Bool.and_eq_true] at hk
        rw [List.take_succ_cons, incr_cons, hk.1, ih p.1 k hk.2]
        rfl
  exact key ps _ k hv.2
theorem secs_small {g : Nat} {bd : List UInt8} {ps : List Pg} (h : OkP ps) (h6 : ps.length ≤ 6) : (secs g bd ps).length ≤ 27 := by
  have := bodyOf_le h.2
  unfold secs
  rw [List.length_cons, cuts_count]
  have : padn (bodyOf ps).length < 64 := Nat.mod_lt _ (by omega)
  omega
/-- Without its last sector, an image is too short. -/
theorem decI_short {g : Nat} {bd : List UInt8} {ps : List Pg} (hb : bd.length = 32) (hg : g < 18446744073709551616) (h : OkP ps) (h1 : (secs g bd ps).length ≠ 1) : decI ((secs g bd ps).take ((secs g bd ps).length - 1)) = .inl 4 := by
  have hbl := body_lt h
  have hcr := (crc (bodyOf ps)).isLt
  obtain ⟨f1, f2, f3, f4⟩ := hdr_fields (g := g) (n := (bodyOf ps).length) (s := (crc (bodyOf ps)).toNat) hb hg (by omega) (by omega)
  have hH := decH_hdr (g := g) (n := (bodyOf ps).length) (s := (crc (bodyOf ps)).toNat) hb hg (by omega) (by omega)
  have hall : ∀ s ∈ (secs g bd ps).take ((secs g bd ps).length - 1), s.length = 64 := fun s hs => secs_len hb ps s (List.mem_of_mem_take hs)
  have hcl : (secs g bd ps).length = (cuts (bodyOf ps)).length + 1 := by unfold secs; rw [List.length_cons]
  have hcount := cuts_count (bodyOf ps)
  have hpm := pad_mod (bodyOf ps)
  have hpl : padn (bodyOf ps).length < 64 := Nat.mod_lt _ (by omega)
  rw [pad_length] at hpm
  have hp0 : 0 < (secs g bd ps).length := by rw [hcl]; omega
  obtain ⟨k, hk⟩ : ∃ k, (secs g bd ps).length - 1 = k + 1 := ⟨(secs g bd ps).length - 2, by omega⟩
  rw [hk] at hall ⊢
  unfold secs at hall ⊢
  rw [List.take_succ_cons] at hall ⊢
  unfold decI
  dsimp only
  rw [if_neg (by simpa using hall), if_neg (by rw [hH]; simp), f3, if_pos (by rw [List.length_take]; omega)]

end Go.Proofs.Ytpinpccamfhofaa.Im

/-
  The reference's Encode, and comparison of lists of strings, over the code. No condition beyond those stated.
-/
set_option maxRecDepth 100000
namespace Go.Proofs.Ytpinpccamfhofaa.Im
open Go Go.Ev Go.Proofs
section
variable {U w : World} {Q : Value → World → Prop}

theorem rencode_k16 {sb : Nat} {l h : List UInt8} (hm : l.length % 64 = 0) (hl : l.length ≤ 500000) (e0 : Ext U w (fun _ => False)) (s0 : Sl w 9 1 (some ⟨sb, 0, none⟩) 1 1 (strs [h])) (hsb : U.heap.size ≤ sb)
    (hQ : ∀ sb c w', Sl w' 9 1 (some ⟨sb, 0, none⟩) (l.length / 64 + 1) c (strs (h :: chunks (l.length / 64) l)) → U.heap.size ≤ sb → Ext U w' (fun _ => False) → Q (.tuple #[.slice (some ⟨sb, 0, none⟩) (l.length / 64 + 1) c, .int .i64 0]) w') :
    W.ref34_Encode_k16 (mkS l) (some ⟨sb, 0, none⟩) 1 1 w Q := by
  unfold W.ref34_Encode_k16
  rw [mkS_size]
  refine LoopW.nat (l.length / 64) (fun j x w' => ∃ sb' c', x = ((some ⟨sb', 0, none⟩, j + 1, c'), ((64 * j : Nat) : Int), ()) ∧ Sl w' 9 1 (some ⟨sb', 0, none⟩) (j + 1) c' (strs (h :: chunks j l)) ∧ U.heap.size ≤ sb' ∧ Ext U w' (fun _ => False))
    ⟨sb, 1, rfl, s0, hsb, e0⟩ ?_
  rintro j x w1 next hj ⟨sb', c', rfl, s1, f1, e1⟩ hnext
  dsimp only
  by_cases hlt : j < l.length / 64
  case neg =>
    rw [decide_eq_false (by omega), br_false]
    obtain rfl : j = l.length / 64 := by omega
    exact hQ sb' c' w1 s1 f1 e1
  rw [decide_eq_true (by omega), br_true]
  rw [show IntKind.wrap .i64 (((64 * j : Nat) : Int) + 64) = ((64 * (j + 1) : Nat) : Int) by rw [wrap_i64 (by omega) (by omega)]; omega]
  refine qT (s_lh (by omega) (by omega) (by omega)) ?_
  have hcut : (l.take ((64 * (j + 1) : Nat) : Int).toNat).drop ((64 * j : Nat) : Int).toNat = (l.drop (64 * j)).take 64 := by
    rw [Int.toNat_natCast, Int.toNat_natCast, List.drop_take]
    congr 1
    omega
  rw [hcut]
  refine al_i fun tb w2 htb a2 e2 z2 => ?_
  refine ap_i 9 1 (vs := strs [(l.drop (64 * j)).take 64]) (s1.ext e2 (fun _ _ h => h)) (.inr ⟨_, rfl, fun k hk => by rw [add_mk, a2.cell, Nat.zero_add]; rfl⟩) rfl (strs_one _) (by omega) fun a3 c3 w3 s3 f3 g3 e3 => fs ?_
  obtain ⟨sb3, sp3, rfl, _⟩ := s3.isome (g3 rfl)
  have hz1 := e1.size
  have hz2 := e2.size
  refine hnext hlt _ _ ⟨sb3, c3, rfl, ?_, ?_, (e1.tr e2).trans e3 (fun _ _ h => h) (fun b hb h => ?_)⟩
  · have : strs (h :: chunks (j + 1) l) = strs (h :: chunks j l) ++ strs [(l.drop (64 * j)).take 64] := by rw [chunks_succ]; simp [strs]
    rw [this]
    exact s3
  · rcases f3 sb3 rfl with hx | hx
    · simp only [Option.some.injEq, Addr.mk.injEq, and_true] at hx; omega
    · omega
  · simp only [Option.some.injEq, Addr.mk.injEq, and_true] at h; omega

theorem rencode_k13 {hb g len s : Nat} {bd l : List UInt8} (hh : At w hb (hdrC g bd len s) 121) (hbd : bd.length = 32) (hlen : len < 4294967296) (hs : s < 4294967296) (e0 : Ext U w (fun _ => False)) (hl : l.length ≤ 400000)
    (hQ : ∀ sb c w', Sl w' 9 1 (some ⟨sb, 0, none⟩) ((hdr g bd len s :: cuts l).length) c (strs (hdr g bd len s :: cuts l)) → U.heap.size ≤ sb → Ext U w' (fun _ => False) → Q (.tuple #[.slice (some ⟨sb, 0, none⟩) ((hdr g bd len s :: cuts l).length) c, .int .i64 0]) w') :
    W.ref34_Encode_k13 (mkS l) ⟨hb, 0, none⟩ w Q := by
  unfold W.ref34_Encode_k13
  refine ld_w hh (fg ?_) (hs := by rw [hdrC_length hbd]; kernel_rfl)
  refine rencodeHeader_c hbd hlen hs fun w1 e1 => ft ?_
  refine al_i fun sb w2 hsb a2 e2 z2 => ?_
  have ss2 : Sl w2 9 1 (some ⟨sb, 0, none⟩) 1 1 (strs [hdr g bd len s]) := Sl.new a2 rfl
  have e02 := (e0.tr e1).tr e2
  have hU : U.heap.size ≤ sb := by have := (e0.tr e1).size; omega
  have hpd : padn l.length < 64 := Nat.mod_lt _ (by omega)
  have hpm := pad_mod l
  rw [pad_length] at hpm
  refine LoopW.nat (padn l.length) (fun j x w' => x = (mkS (l ++ List.replicate j 0), ()) ∧ w' = w2) ⟨by simp, rfl⟩ ?_
  rintro j x w3 next hj ⟨rfl, rfl⟩ hnext
  dsimp only
  rw [mkS_size, List.length_append, List.length_replicate]
  by_cases hlt : j < padn l.length
  case neg =>
    obtain rfl : j = padn l.length := by omega
    rw [show ((Int.tmod (((l.length + padn l.length : Nat)) : Int) 64 : Int) != 0) = false by
      rw [show Int.tmod (((l.length + padn l.length : Nat)) : Int) 64 = (((l.length + padn l.length) % 64 : Nat) : Int) from rfl, hpm]; rfl, br_false]
    refine rencode_k16 (l := pad l) (h := hdr g bd len s) (by rw [pad_length]; exact hpm) (by rw [pad_length]; omega) e02 ss2 hU fun sb' c' w' s' f' e' => ?_
    have hcl : (hdr g bd len s :: cuts l).length = (pad l).length / 64 + 1 := by unfold cuts; rw [List.length_cons, chunks_length]
    have := hQ sb' c' w'
    rw [hcl] at this
    exact this s' f' e'
  have hnz : (l.length + j) % 64 ≠ 0 := by unfold padn at hlt; omega
  rw [show ((Int.tmod (((l.length + j : Nat)) : Int) 64 : Int) != 0) = true by
      rw [bne_iff_ne, show Int.tmod (((l.length + j : Nat)) : Int) 64 = (((l.length + j) % 64 : Nat) : Int) from rfl]; omega, br_true]
  refine qT (s_add (b := [0]) (by rw [List.length_append, List.length_replicate]; show _ + 1 < _; omega)) ?_
  refine hnext hlt _ _ ⟨?_, rfl⟩
  rw [List.append_assoc, ← List.replicate_succ']

theorem rencode_k12 {pa : Option Addr} {ib g pn pc : Nat} {bd l : List UInt8} (hi : At w ib (imgC bd g pa pn pc) 41) (hbd : bd.length = 32) (e0 : Ext U w (fun _ => False)) (hl : l.length ≤ 400000)
    (hQ : ∀ sb c w', Sl w' 9 1 (some ⟨sb, 0, none⟩) ((hdr g bd l.length (crc l).toNat :: cuts l).length) c (strs (hdr g bd l.length (crc l).toNat :: cuts l)) → U.heap.size ≤ sb → Ext U w' (fun _ => False) → Q (.tuple #[.slice (some ⟨sb, 0, none⟩) ((hdr g bd l.length (crc l).toNat :: cuts l).length) c, .int .i64 0]) w') :
    W.ref34_Encode_k12 ⟨ib, 0, none⟩ (mkS l) w Q := by
  unfold W.ref34_Encode_k12
  simp only [add_mk, Nat.zero_add]
  have hcr := (crc l).isLt
  refine ⟨fun w' => At w' ib (imgC bd g pa pn pc) 41, hi.drew_, ?_⟩
  refine ldS_i (fun _ h => h) (imgC_32 hbd) (fi ?_)
  refine ldS_cs (vs := by_ bd) (fun w' h j hj => ?_) (fg ?_) (hs := by rw [by_length, hbd]; kernel_rfl)
  · rw [add_mk, Nat.zero_add, h.cell]
    unfold imgC
    rw [List.getElem?_append_left hj]
  have hz : (zeroT Try.prog 121).cells.toList = hdrC 0 zb 0 0 := by kernel_rfl
  rw [mkS_size, wrap_32 (by omega)]
  have ed : Ext U (drew w) (fun _ => False) := e0.drew_
  have hlt := hi.lt
  refine ⟨?_, ?_⟩
  · refine rchecksum_c (by omega) (fi ⟨hi.drew_, ?_⟩)
    refine rqS_r (buildH hbd) (fg ?_)
    refine al_i fun hb w2 hhb a2 e2 z2 => ?_
    rw [hz] at a2
    have hi2 := hi.drew_.ext e2 (fun h => h)
    have hsz := ed.size
    have hlt' : ib < (drew w).heap.size := hlt
    refine ⟨hi2, ?_⟩
    refine st_w 35 a2 (hdrC_length rfl) (hdrC_length hbd) (hdrC_one _ _ _ _) fun w3 a3 e3 z3 => ⟨hi2.ext e3 (by omega), ?_⟩
    exact rencode_k13 a3 hbd (by omega) hcr ((ed.tr e2).trans e3 (fun _ _ h => h) (fun b hb h => by omega)) hl hQ
  · refine al_i fun hb w2 hhb a2 e2 z2 => ?_
    rw [hz] at a2
    have hi2 := hi.drew_.ext e2 (fun h => h)
    have hsz := ed.size
    have hlt' : ib < (drew w).heap.size := hlt
    refine ⟨hi2, ?_⟩
    refine rchecksum_c (by omega) (fi ⟨hi2, ?_⟩)
    refine rqS_r (buildH hbd) (fg ?_)
    refine st_w 35 a2 (hdrC_length rfl) (hdrC_length hbd) (hdrC_one _ _ _ _) fun w3 a3 e3 z3 => ⟨hi2.ext e3 (by omega), ?_⟩
    exact rencode_k13 a3 hbd (by omega) hcr ((ed.tr e2).trans e3 (fun _ _ h => h) (fun b hb h => by omega)) hl hQ

/-- The reference's Encode. -/
theorem rencode_c {bd : List UInt8} {g : Nat} {pa : Option Addr} {n c : Nat} {ps : List Pg} (hbd : bd.length = 32) (h : Reads w pa (ps.flatMap pgC)) (hn : ps.length = n)
    (h0 : ¬ OkP ps → ∀ w', Ext w w' (fun _ => False) → Q (.tuple #[.slice none 0 0, .int .i64 1]) w')
    (h1 : OkP ps → ∀ sb c' w', Sl w' 9 1 (some ⟨sb, 0, none⟩) (secs g bd ps).length c' (strs (secs g bd ps)) → w.heap.size ≤ sb → Ext w w' (fun _ => False) → Q (.tuple #[.slice (some ⟨sb, 0, none⟩) (secs g bd ps).length c', .int .i64 0]) w') :
    CallE Try.prog 81 #[.agg (imgC bd g pa n c).toArray] w Q := by
  apply C.ref34_Encode
  unfold W.ref34_Encode
  subst hn
  refine al_i fun ib w1 hib a1 e1 z1 => ?_
  change At w1 ib (imgC bd g pa ps.length c) 41 at a1
  simp only [add_mk, Nat.zero_add]
  refine ldL a1 (imgC_33 hbd) ?_
  have hval : OkP ps ↔ (ps.length ≤ 512 ∧ incr (-1) ps = true) ∧ ∀ p ∈ ps, p.2.length = 256 := by
    unfold OkP validP
    simp only [Bool.and_eq_true, decide_eq_true_eq]
  by_cases h5 : ps.length ≤ 512
  case neg =>
    rw [decide_eq_true (by omega), br_true]
    exact h0 (fun hc => h5 (hval.1 hc).1.1) w1 e1
  rw [decide_eq_false (by omega), br_false]
  refine LoopW.nat ps.length (fun i x w' => x = (mkS (bodyOf (ps.take i)), (i : Int), ()) ∧ Ext w1 w' (fun _ => False) ∧ incr (-1) ps = incr (prev ps i) (ps.drop i) ∧ ∀ p ∈ ps.take i, p.2.length = 256)
    ⟨rfl, Ext.refl _ _, rfl, by simp⟩ ?_
  rintro i x w3 next hi ⟨rfl, e3, hv, hd3⟩ hnext
  dsimp only
  have a3 := a1.ext e3 (fun h => h)
  refine ldL a3 (imgC_33 hbd) ?_
  have hle := bodyOf_le hd3
  have htl : (ps.take i).length ≤ 512 := by rw [List.length_take]; omega
  by_cases hlt : i < ps.length
  case neg =>
    rw [decide_eq_false (by omega), br_false]
    obtain rfl : i = ps.length := by omega
    rw [List.take_length] at *
    rw [List.drop_length] at hv
    have hok : OkP ps := hval.2 ⟨⟨h5, hv⟩, hd3⟩
    refine rencode_k12 a3 hbd (e1.tr e3) (by omega) fun sb c' w' s' f' e' => ?_
    exact h1 hok sb c' w' s' f' e'
  rw [decide_eq_true (by omega), br_true]
  refine ldL a3 (imgC_33 hbd) ?_
  have hr3 := h.ext (e1.tr e3) (fun _ _ _ h => h)
  have hl0 : 0 < (ps.flatMap pgC).length := by rw [flat_length pgC_length]; omega
  obtain ⟨p, rfl⟩ := hr3.some_ hl0
  refine ixs i 2 85 hlt ?_
  refine rdG i hlt hr3 pgC_length (by omega) (fg ?_)
  refine al_st 2 (pgC_length _) (pgC_one _) fun vb w4 hvb a4 e4 z4 => ?_
  unfold dr
  simp only [add_mk, Nat.zero_add]
  have e4' := e4.drew_
  have a4' := a4.drew_
  have e34 := e3.tr e4'
  have bad : ¬ OkP ps → Q (.tuple #[.slice none 0 0, .int .i64 1]) (drew w4) := fun hc => h0 hc _ (e1.tr e34)
  have hv' : (decide (0 ≤ ps[i].1) && decide (ps[i].1 ≤ 2147483647) && decide (prev ps i < ps[i].1)) = false → ¬ OkP ps := by
    intro hb hc
    have := (hval.1 hc).1.2
    rw [hv, List.drop_eq_getElem_cons hlt, incr_cons, hb] at this
    cases this
  have hv2 : (decide (0 ≤ ps[i].1) && decide (ps[i].1 ≤ 2147483647) && decide (prev ps i < ps[i].1)) = true → incr (-1) ps = incr (prev ps (i + 1)) (ps.drop (i + 1)) := by
    intro hb
    rw [hv, List.drop_eq_getElem_cons hlt, incr_cons, hb, Bool.true_and]
    have : prev ps (i + 1) = ps[i].1 := by simp [prev, List.getD_eq_getElem?_getD, List.getElem?_eq_getElem hlt]
    rw [this]
  refine ldT (w := drew w4) a4' rfl ?_
  rw [mkS_size]
  by_cases h256 : ps[i].2.length = 256
  case neg =>
    rw [show ((((ps[i].2.length : Nat) : Int) : Int) != 256) = true by rw [bne_iff_ne]; omega, br_true]
    exact bad (fun hc => h256 (hc.2 _ (List.getElem_mem hlt)))
  rw [show ((((ps[i].2.length : Nat) : Int) : Int) != 256) = false by rw [h256]; rfl, br_false]
  refine ldI (w := drew w4) a4' rfl ?_
  by_cases c1 : ps[i].1 < 0
  · rw [decide_eq_true c1, br_true]
    exact bad (hv' (by rw [decide_eq_false (by omega)]; rfl))
  rw [decide_eq_false c1, br_false]
  refine ldI (w := drew w4) a4' rfl ?_
  by_cases c2 : ps[i].1 > 2147483647
  · rw [decide_eq_true c2, br_true]
    exact bad (hv' (by rw [decide_eq_true (by omega), decide_eq_false (by omega)]; rfl))
  rw [decide_eq_false c2, br_false]
  have hcl := Pz.comp_length h256
  have go : prev ps i < ps[i].1 → W.ref34_Encode_k10 ⟨ib, 0, none⟩ (mkS (bodyOf (ps.take i))) (i : Int) ⟨vb, 0, none⟩ next (drew w4) Q := by
    intro hpr
    unfold W.ref34_Encode_k10
    simp only [add_mk, Nat.zero_add]
    refine ldT (w := drew w4) a4' rfl ?_
    refine Pz.refCompress_c h256 fun w5 e5 => ⟨_, _, rfl, ?_⟩
    refine ldI (a4'.ext e5 (fun h => h)) rfl ?_
    rw [mkS_size, show IntKind.wrap .u64 ps[i].1 = ((ps[i].1.toNat : Nat) : Int) by rw [wrap_u64 (by omega) (by omega)]; omega, wrap_64 (n := (Pz.comp ps[i].2).length) (by omega)]
    refine little_c (v := ps[i].1.toNat) (k := 4) (by omega) fun w6 e6 => ft ?_
    refine qT (s_add (by rw [le_length]; omega)) ?_
    refine little_c (v := (Pz.comp ps[i].2).length) (k := 2) (by omega) fun w7 e7 => ft ?_
    refine qT (s_add (by simp only [List.length_append, le_length]; omega)) ?_
    refine qT (s_add (by simp only [List.length_append, le_length]; omega)) ?_
    have htk : ps.take (i + 1) = ps.take i ++ [ps[i]] := (List.take_append_getElem hlt).symm
    have hbo : bodyOf (ps.take (i + 1)) = bodyOf (ps.take i) ++ le ps[i].1.toNat 4 ++ le (Pz.comp ps[i].2).length 2 ++ Pz.comp ps[i].2 := by rw [htk, bodyOf_snoc]; simp [pgB]
    rw [inc_nat (by omega)]
    refine hnext hlt _ _ ⟨by rw [hbo], (e34.tr e5).tr (e6.tr e7), hv2 ?_, fun q hq => ?_⟩
    · rw [decide_eq_true (by omega), decide_eq_true (by omega), decide_eq_true hpr]; rfl
    · rw [htk] at hq
      rcases List.mem_append.1 hq with hq | hq
      · exact hd3 q hq
      · rw [List.mem_singleton.1 hq]; exact h256
  by_cases c3 : i = 0
  · subst c3
    rw [decide_eq_false (by omega), br_false]
    exact go (by show -1 < _; omega)
  rw [decide_eq_true (by omega), br_true]
  refine ldI (w := drew w4) a4' rfl ?_
  refine ldL (w := drew w4) (a1.ext e34 (fun h => h)) (imgC_33 hbd) ?_
  obtain ⟨k, rfl⟩ : ∃ k, i = k + 1 := ⟨i - 1, by omega⟩
  rw [show IntKind.wrap .i64 (((k + 1 : Nat) : Int) - 1) = ((k : Nat) : Int) by rw [wrap_i64 (by omega) (by omega)]; omega]
  refine ixs k 2 85 (by omega) ?_
  refine rdF (o := 0) k (by omega) (hr3.ext e4' (fun _ _ _ h => h)) pgC_length (by omega) rfl (fi ?_)
  have hpk : prev ps (k + 1) = (ps[k]'(by omega)).1 := by simp [prev, List.getD_eq_getElem?_getD, List.getElem?_eq_getElem (show k < ps.length by omega)]
  by_cases c4 : ps[k + 1].1 ≤ (ps[k]'(by omega)).1
  · rw [decide_eq_true c4, br_true]
    exact bad (hv' (by rw [hpk, decide_eq_false (p := (ps[k]'(by omega)).1 < ps[k + 1].1) (by omega), Bool.and_false]))
  rw [decide_eq_false c4, br_false]
  exact go (by rw [hpk]; omega)

/-- Two lists of strings compared. -/
theorem equalStrs_c {pa qa : Option Addr} {n c m d : Nat} {ps qs : List (List UInt8)} (hp : Reads w pa (strs ps)) (hq : Reads w qa (strs qs)) (hn : ps.length = n) (hm : qs.length = m) (hb : n ≤ 1000000) (hQ : ∀ w', Ext w w' (fun _ => False) → Q (.bool (decide (ps = qs))) w') :
    CallE Try.prog 27 #[.slice pa n c, .slice qa m d] w Q := by
  subst hn hm
  apply C.help_Equal_string_
  unfold W.help_Equal_string_
  by_cases hl : ps.length = qs.length
  case neg =>
    rw [show ((((ps.length : Nat) : Int) : Int) != ((qs.length : Nat) : Int)) = true by rw [bne_iff_ne]; omega, br_true]
    have := hQ w (Ext.refl _ _)
    rw [decide_eq_false (fun hc => hl (by rw [hc]))] at this
    exact this
  rw [show ((((ps.length : Nat) : Int) : Int) != ((qs.length : Nat) : Int)) = false by rw [hl]; simp, br_false]
  have hget : ∀ (l : List (List UInt8)) (i : Nat) (hi : i < l.length), (strs l)[i * 1]? = some (.string (mkS l[i])) := by
    intro l i hi
    unfold strs
    rw [Nat.mul_one, List.getElem?_map, List.getElem?_eq_getElem hi]
    rfl
  refine LoopW.nat ps.length (fun i x w' => x = ((i : Int), ()) ∧ Ext w w' (fun _ => False) ∧ ps.take i = qs.take i) ⟨rfl, Ext.refl _ _, rfl⟩ ?_
  rintro i x w1 next hi ⟨rfl, e1, ht⟩ hnext
  dsimp only
  by_cases hlt : i < ps.length
  case neg =>
    rw [decide_eq_false (by omega), br_false]
    have := hQ w1 e1
    rw [List.take_of_length_le (by omega), List.take_of_length_le (by omega)] at ht
    rw [decide_eq_true ht] at this
    exact this
  rw [decide_eq_true (by omega), br_true]
  unfold dr
  dsimp only
  have e1' := e1.drew_
  have hp1 := hp.ext e1' (fun _ _ _ h => h)
  have hq1 := hq.ext e1' (fun _ _ _ h => h)
  obtain ⟨p, rfl⟩ := hp1.some_ (by rw [strs_length]; omega)
  obtain ⟨q, rfl⟩ := hq1.some_ (by rw [strs_length]; omega)
  refine ixs i 1 9 hlt ?_
  refine rdL hp1 (hget ps i hlt) (ft ?_)
  refine ixs i 1 9 (by omega) ?_
  refine rdL hq1 (hget qs i (by omega)) (ft ?_)
  refine qB s_ne ?_
  have hts := take_succ_eq hlt (show i < qs.length by omega) ht
  by_cases hpq : ps[i] = qs[i]'(by omega)
  · rw [decide_eq_true hpq, Bool.not_true, br_false, inc_nat (by omega)]
    exact hnext hlt _ _ ⟨rfl, e1', hts.1 hpq⟩
  · rw [decide_eq_false hpq, Bool.not_false, br_true]
    have := hQ _ e1'
    rw [decide_eq_false (fun hc => hpq (hts.2 (by rw [hc])))] at this
    exact this
end
end Go.Proofs.Ytpinpccamfhofaa.Im
