/-
  The reference's header functions over the code, and comparison of headers. No condition beyond those stated.
-/
import Derived.Test.YtpgekajgbkbpkaaImM
import Derived.Test.YtpgekajgbkbpkaaEqs
import Derived.Test.YtpgekajgbkbpkaaMod
namespace Go.Proofs.Ytpgekajgbkbpkaa.Im
open Go Go.Ev Go.Proofs

theorem num_zero : ∀ (l : List UInt8), num l = 0 ↔ l = List.replicate l.length 0
  | [] => by simp [num]
  | x :: l => by
    have ih := num_zero l
    show x.toNat + 256 * num l = 0 ↔ _
    rw [List.length_cons, List.replicate_succ, List.cons.injEq, ← ih]
    constructor
    · intro h
      exact ⟨UInt8.toNat_inj.1 (by show x.toNat = 0; omega), by omega⟩
    · rintro ⟨rfl, h⟩
      show 0 + 256 * num l = 0
      omega
theorem le0 (n : Nat) : le 0 n = List.replicate n 0 := by
  unfold le
  rw [List.eq_replicate_iff]
  refine ⟨by simp, fun x hx => ?_⟩
  simp only [List.mem_map] at hx
  obtain ⟨i, _, rfl⟩ := hx
  simp

section
variable {U w : World} {Q : Value → World → Prop}

theorem rencodeHeader_k2 {l : List UInt8} (hl : l.length = 52) (e0 : Ext U w (fun _ => False)) (hQ : ∀ w', Ext U w' (fun _ => False) → Q (.string (mkS (l ++ le (crc l).toNat 4 ++ le 0 8))) w') : W.ref34_EncodeHeader_k2 (mkS l) w Q := by
  unfold W.ref34_EncodeHeader_k2
  refine ⟨fun _ => True, trivial, ?_⟩
  have ed : Ext U (drew w) (fun _ => False) := e0.drew_
  have hcr := (crc l).isLt
  have ck : ∀ (w' : World) (K : Int → World → Prop), K (((crc l).toNat : Nat) : Int) w' → CallE Try.prog 14 #[.string (mkS l)] w' fun v w'' => fI .u32 v fun x => True ∧ K x w'' :=
    fun w' K hK => rchecksum_c (by omega) (fi ⟨trivial, hK⟩)
  have lt : ∀ (w' : World) (K : ByteArray → World → Prop), (∀ w'', Ext w' w'' (fun _ => False) → K (mkS (le (crc l).toNat 4)) w'') → CallE Try.prog 30 #[.int .u64 (IntKind.wrap .u64 (((crc l).toNat : Nat) : Int)), .int .i64 4] w' fun v w'' => fT v fun x => True ∧ K x w'' := by
    intro w' K hK
    rw [wrap_64 (by omega)]
    exact little_c (v := (crc l).toNat) (k := 4) (by omega) fun w'' e'' => ft ⟨trivial, hK w'' e''⟩
  have mk : ∀ (w' : World) (K : Option Addr → Nat → Nat → World → Prop), (∀ b w'', At w'' b (by_ (List.replicate 8 0)) 5 → Ext w' w'' (fun _ => False) → K (some ⟨b, 0, none⟩) 8 8 w'') → rv Try.prog (Instr.makeSlice 26 (.int .i64 8) (.int .i64 8)) w' fun v w'' => fS v fun a n c => True ∧ K a n c w'' := by
    intro w' K hK
    exact mkB (n := 8) 5 (by omega) fun b w'' hb a e z => ⟨trivial, hK b w'' a e⟩
  have cv : ∀ (b : Nat) (w' : World) (K : ByteArray → World → Prop), At w' b (by_ (List.replicate 8 0)) 5 → K (mkS (List.replicate 8 0)) w' → rv Try.prog (convert 26 9 (.slice (some ⟨b, 0, none⟩) 8 8)) w' fun v w'' => fT v fun t => True ∧ K t w'' :=
    fun b w' K h hK => bsT h rfl ⟨trivial, hK⟩
  have ad1 : ∀ (x y : Operand) (K : ByteArray → Prop), K (mkS (l ++ le (crc l).toNat 4)) → rqS Try.prog (fun _ => True) (do eqGuard .add 9 x y (.string (mkS l)) (.string (mkS (le (crc l).toNat 4))); binOp .add 9 (.string (mkS l)) (.string (mkS (le (crc l).toNat 4)))) fun v => fT v fun t => K t :=
    fun x y K hK => qST (s_add (by rw [le_length]; omega)) hK
  have ad2 : ∀ (x y : Operand) (w' : World), Ext U w' (fun _ => False) → rqS Try.prog (fun _ => True) (do eqGuard .add 9 x y (.string (mkS (l ++ le (crc l).toNat 4))) (.string (mkS (List.replicate 8 0))); binOp .add 9 (.string (mkS (l ++ le (crc l).toNat 4))) (.string (mkS (List.replicate 8 0)))) fun v => fT v fun t => Q (.string t) w' := by
    intro x y w' e'
    refine qST (s_add (by rw [List.length_append, le_length, List.length_replicate]; omega)) ?_
    rw [← le0]
    exact hQ w' e'
  refine ⟨?_, ?_⟩
  · refine ck _ _ ⟨?_, ?_⟩
    · refine lt _ _ fun w1 e1 => ?_
      refine ad1 _ _ _ ?_
      refine mk _ _ fun b w2 a2 e2 => ?_
      refine cv b _ _ a2 ?_
      exact ad2 _ _ _ ((ed.tr e1).tr e2)
    · refine mk _ _ fun b w1 a1 e1 => ⟨?_, ?_⟩
      · refine lt _ _ fun w2 e2 => ?_
        refine ad1 _ _ _ ?_
        refine cv b _ _ (a1.ext e2 (fun h => h)) ?_
        exact ad2 _ _ _ ((ed.tr e1).tr e2)
      · refine cv b _ _ a1 ?_
        refine lt _ _ fun w2 e2 => ?_
        refine ad1 _ _ _ ?_
        exact ad2 _ _ _ ((ed.tr e1).tr e2)
  · refine mk _ _ fun b w1 a1 e1 => ⟨?_, ?_⟩
    · refine ck _ _ ⟨?_, ?_⟩
      · refine lt _ _ fun w2 e2 => ?_
        refine ad1 _ _ _ ?_
        refine cv b _ _ (a1.ext e2 (fun h => h)) ?_
        exact ad2 _ _ _ ((ed.tr e1).tr e2)
      · refine cv b _ _ a1 ?_
        refine lt _ _ fun w2 e2 => ?_
        refine ad1 _ _ _ ?_
        exact ad2 _ _ _ ((ed.tr e1).tr e2)
    · refine cv b _ _ a1 ?_
      refine ck _ _ ?_
      refine lt _ _ fun w2 e2 => ?_
      refine ad1 _ _ _ ?_
      exact ad2 _ _ _ ((ed.tr e1).tr e2)

theorem hdrC_33 {g n s : Nat} {bd : List UInt8} (hbd : bd.length = 32) : (hdrC g bd n s)[33]? = some (.int .u32 (n : Int)) := by
  unfold hdrC
  rw [List.getElem?_cons_succ, List.getElem?_append_right (by rw [by_length, hbd]; omega), by_length, hbd]
  rfl
theorem hdrC_34 {g n s : Nat} {bd : List UInt8} (hbd : bd.length = 32) : (hdrC g bd n s)[34]? = some (.int .u32 (s : Int)) := by
  unfold hdrC
  rw [List.getElem?_cons_succ, List.getElem?_append_right (by rw [by_length, hbd]; omega), by_length, hbd]
  rfl

theorem rencodeHeader_c {g n s : Nat} {bd : List UInt8} (hbd : bd.length = 32) (hn : n < 4294967296) (hs : s < 4294967296) (hQ : ∀ w', Ext w w' (fun _ => False) → Q (.string (mkS (hdr g bd n s))) w') :
    CallE Try.prog 17 #[.agg (hdrC g bd n s).toArray] w Q := by
  apply C.ref34_EncodeHeader
  unfold W.ref34_EncodeHeader
  refine al_i fun hb w1 hhb a1 e1 z1 => ?_
  change At w1 hb (hdrC g bd n s) 32 at a1
  simp only [add_mk, Nat.zero_add]
  refine ⟨fun w' => At w' hb (hdrC g bd n s) 32 ∧ Ext w w' (fun _ => False), ⟨a1.drew_, e1.drew_⟩, ?_⟩
  refine ldS_i (fun _ h => h.1) rfl (fi ?_)
  refine qSL (a_all 32) ?_
  refine ldS_i (fun _ h => h.1) (hdrC_33 hbd) (fi ?_)
  refine ldS_i (fun _ h => h.1) (hdrC_34 hbd) (fi ?_)
  rw [wrap_64 (n := n) (by omega), wrap_64 (n := s) (by omega)]
  generalize hS : (fun w' : World => At w' hb (hdrC g bd n s) 32 ∧ Ext w w' (fun _ => False)) = S
  have hSi : ∀ w', S w' ↔ At w' hb (hdrC g bd n s) 32 ∧ Ext w w' (fun _ => False) := by intro w'; rw [← hS]
  have S0 : S (drew w1) := (hSi _).2 ⟨a1.drew_, e1.drew_⟩
  clear hS
  have lt : ∀ {w' : World} {v k : Nat} {K : ByteArray → World → Prop}, k ≤ 8 → S w' → (∀ w'', S w'' → K (mkS (le v k)) w'') → CallE Try.prog 30 #[.int .u64 (v : Int), .int .i64 (k : Int)] w' fun v w'' => fT v fun x => S w'' ∧ K x w'' := by
    intro w' v k K hk hs hK
    refine little_c hk fun w'' e'' => ft ?_
    have : S w'' := (hSi _).2 ⟨((hSi _).1 hs).1.ext e'' (fun h => h), ((hSi _).1 hs).2.tr e''⟩
    exact ⟨this, hK w'' this⟩
  have cv : ∀ {w' : World} {K : ByteArray → World → Prop}, S w' → K (mkS bd) w' → rv Try.prog (convert 26 9 (.slice (some ⟨hb, 1, none⟩) 32 32)) w' fun v w'' => fT v fun t => S w'' ∧ K t w'' := by
    intro w' K hs hK
    refine bs_str (l := bd) (.inr ⟨_, rfl, fun j hj => ?_⟩) hbd (ft ⟨hs, hK⟩)
    rw [add_mk, ((hSi _).1 hs).1.cell, Nat.add_comm]
    unfold hdrC
    rw [List.getElem?_cons_succ, List.getElem?_append_left hj]
  have fin : ∀ w', S w' → W.ref34_EncodeHeader_k2 (mkS ([72, 73, 66, 49] ++ le g 8 ++ bd ++ le n 4 ++ le s 4)) w' Q := by
    intro w' hs
    exact rencodeHeader_k2 (l := hdr0 g bd n s) (hdr0_length hbd) ((hSi _).1 hs).2 fun w'' e'' => hQ w'' e''
  have lg : ∀ {w' : World} {K : ByteArray → World → Prop}, S w' → (∀ w'', S w'' → K (mkS (le g 8)) w'') → CallE Try.prog 30 #[.int .u64 (g : Int), .int .i64 8] w' fun v w'' => fT v fun x => S w'' ∧ K x w'' := fun h h' => lt (v := g) (k := 8) (by omega) h h'
  have ln : ∀ {w' : World} {K : ByteArray → World → Prop}, S w' → (∀ w'', S w'' → K (mkS (le n 4)) w'') → CallE Try.prog 30 #[.int .u64 (n : Int), .int .i64 4] w' fun v w'' => fT v fun x => S w'' ∧ K x w'' := fun h h' => lt (v := n) (k := 4) (by omega) h h'
  have ls : ∀ {w' : World} {K : ByteArray → World → Prop}, S w' → (∀ w'', S w'' → K (mkS (le s 4)) w'') → CallE Try.prog 30 #[.int .u64 (s : Int), .int .i64 4] w' fun v w'' => fT v fun x => S w'' ∧ K x w'' := fun h h' => lt (v := s) (k := 4) (by omega) h h'
  have ad0 : ∀ {x y : Operand} {K : ByteArray → Prop}, K (mkS ([72, 73, 66, 49] ++ le g 8)) → rqS Try.prog S (do eqGuard .add 9 x y (.string ⟨#[72, 73, 66, 49]⟩) (.string (mkS (le g 8))); binOp .add 9 (.string ⟨#[72, 73, 66, 49]⟩) (.string (mkS (le g 8)))) fun v => fT v fun t => K t :=
    fun hK => qST (s_add (a := [72, 73, 66, 49]) (by rw [le_length]; show 4 + 8 < _; omega)) hK
  have ad : ∀ {a b : List UInt8} {x y : Operand} {K : ByteArray → Prop}, a.length ≤ 100 → b.length ≤ 100 → K (mkS (a ++ b)) → rqS Try.prog S (do eqGuard .add 9 x y (.string (mkS a)) (.string (mkS b)); binOp .add 9 (.string (mkS a)) (.string (mkS b))) fun v => fT v fun t => K t :=
    fun h1 h2 hK => qST (s_add (by omega)) hK
  repeat' with_reducible first
    | refine lg (by assumption) fun _ _ => ?_
    | refine ln (by assumption) fun _ _ => ?_
    | refine ls (by assumption) fun _ _ => ?_
    | refine cv (by assumption) ?_
    | refine ad0 ?_
    | refine ad (by simp only [List.length_append, le_length, hbd, List.length_cons, List.length_nil]; omega) (by simp only [le_length, hbd]; omega) ?_
    | refine And.intro ?_ ?_
    | exact fin _ (by assumption)

theorem rdecodeHeader_k6 {l : List UInt8} {rb tb g n s : Nat} (hl : l.length = 64) (hr : At w rb (hdrC 0 zb 0 0) 32) (ht : At w tb (hdrC g zb n s) 32) (hne : rb ≠ tb)
    (hQ : ∀ w', Ext w w' (fun b => b = rb ∨ b = tb) → Q (.tuple #[.agg (hdrC g (sub l 12 44) n s).toArray, .int .i64 0]) w') : W.ref34_DecodeHeader_k6 (mkS l) ⟨rb, 0, none⟩ ⟨tb, 0, none⟩ w Q := by
  unfold W.ref34_DecodeHeader_k6
  simp only [add_mk, Nat.zero_add]
  have hb : (sub l 12 44).length = 32 := sub_length (by omega)
  refine LoopW.nat 32 (fun i x w' => x = ((i : Int), ()) ∧ At w' tb (hdrC g ((sub l 12 44).take i ++ List.replicate (32 - i) 0) n s) 32 ∧ Ext w w' (· = tb)) ⟨rfl, ht, Ext.refl _ _⟩ ?_
  rintro i x w1 next hi ⟨rfl, a1, e1⟩ hnext
  dsimp only
  by_cases hlt : i < 32
  case neg =>
    rw [decide_eq_false (by omega), br_false]
    obtain rfl : i = 32 := by omega
    rw [List.take_of_length_le (by omega), List.replicate_zero, List.append_nil] at a1
    refine ld_w a1 (fg ?_) (hs := by rw [hdrC_length hb]; kernel_rfl)
    have r1 := hr.ext e1 hne
    refine st_w 35 r1 (hdrC_length rfl) (hdrC_length hb) (hdrC_one _ _ _ _) fun w2 a2 e2 z2 => ?_
    refine ld_w a2 (fg ?_) (hs := by rw [hdrC_length hb]; kernel_rfl)
    exact hQ w2 (e1.trans e2 (fun _ _ h => .inr h) (fun _ _ h => .inl h))
  rw [decide_eq_true (by omega), br_true]
  rw [show IntKind.wrap .i64 (12 + (i : Int)) = ((12 + i : Nat) : Int) by rw [wrap_i64 (by omega) (by omega)]; omega]
  refine qI (sxn (12 + i) (by omega)) ?_
  refine ix_arr 32 1 5 (by omega) (by omega) (fa ?_)
  rw [Int.toNat_natCast, Nat.mul_one, add_mk]
  have hlen : (hdrC g ((sub l 12 44).take i ++ List.replicate (32 - i) 0) n s).length = 35 := hdrC_length (by rw [List.length_append, List.length_take, List.length_replicate, hb]; omega)
  refine st_i a1 (by rw [hlen]; omega) fun w2 a2 e2 z2 => ?_
  rw [inc_nat (by omega)]
  refine hnext hlt _ _ ⟨rfl, ?_, e1.trans e2 (fun _ _ h => h) (fun _ _ h => h)⟩
  have hget : l.getD (12 + i) 0 = (sub l 12 44).getD i 0 := by
    unfold sub
    rw [List.getD_eq_getElem?_getD, List.getD_eq_getElem?_getD, List.getElem?_drop, List.getElem?_take_of_lt (by omega)]
  have hset : (hdrC g ((sub l 12 44).take i ++ List.replicate (32 - i) 0) n s).set (1 + i) (.int .u8 ((l.getD (12 + i) 0).toNat : Int)) = hdrC g ((sub l 12 44).take (i + 1) ++ List.replicate (32 - (i + 1)) 0) n s := by
    obtain ⟨k, hk⟩ : ∃ k, 32 - i = k + 1 := ⟨32 - i - 1, by omega⟩
    rw [hget, hk, show 32 - (i + 1) = k by omega, List.replicate_succ]
    unfold hdrC
    rw [Nat.add_comm, List.set_cons_succ, List.set_append_left _ _ (by rw [by_length, List.length_append, List.length_take, List.length_cons, List.length_replicate, hb]; omega), by_setx _ _ _ _ _ (by rw [List.length_take, hb]; omega)]
    have : (sub l 12 44).take (i + 1) = (sub l 12 44).take i ++ [(sub l 12 44).getD i 0] := by
      rw [List.getD_eq_getElem?_getD, List.getElem?_eq_getElem (by omega), Option.getD_some, List.take_append_getElem (by omega)]
    rw [this, List.append_assoc]
    rfl
  rw [← hset]
  exact a2

theorem rdecodeHeader_c {l : List UInt8} (hQ : ∀ w', Ext w w' (fun _ => False) → Q (.tuple #[.agg (decH l).1.toArray, .int .i64 (decH l).2]) w') : CallE Try.prog 19 #[.string (mkS l)] w Q := by
  apply C.ref34_DecodeHeader
  unfold W.ref34_DecodeHeader
  refine al_i fun rb w1 hrb a1 e1 z1 => ?_
  have hz : (zeroT Try.prog 32).cells.toList = hdrC 0 zb 0 0 := by kernel_rfl
  rw [hz] at a1
  rw [mkS_size]
  unfold decH at hQ
  have bad : ∀ (w' : World) (r : Int), Ext w1 w' (fun _ => False) → (∀ w'', Ext w w'' (fun _ => False) → Q (.tuple #[.agg (hdrC 0 zb 0 0).toArray, .int .i64 r]) w'') →
      st Try.prog 32 ⟨rb, 0, none⟩ (.agg (hdrC 0 zb 0 0).toArray) w' fun w3 => ld Try.prog 32 ⟨rb, 0, none⟩ w3 fun v4 => fG v4 fun g5 => Q (.tuple #[.agg g5, .int .i64 r]) w3 := by
    intro w' r e' hq
    refine st_g 35 (a1.ext e' (fun h => h)) (by rw [hdrC_length rfl]; omega) (hdrC_length rfl) (hdrC_one _ _ _ _) fun w2 a2 e2 z2 => ?_
    rw [splice_all rfl] at a2
    refine ld_w a2 (fg ?_) (hs := by rw [hdrC_length rfl]; kernel_rfl)
    exact hq w2 ((e1.tr e').trans e2 (fun _ _ h => h) (fun b hb hx => by omega))
  refine ⟨fun _ => True, trivial, ?_⟩
  have ed : Ext w1 (drew w1) (fun _ => False) := (Ext.refl w1 _).drew_
  by_cases h64 : l.length = 64
  case neg =>
    rw [if_pos h64] at hQ
    rw [show (((l.length : Nat) : Int) != 64) = true by rw [bne_iff_ne]; omega, br_true]
    exact ⟨trivial, trivial, bad _ 3 ed hQ⟩
  rw [if_neg (by omega)] at hQ
  rw [h64, show (((64 : Nat) : Int) != 64) = false from rfl, br_false]
  refine qST (s_hi (by omega) (by rw [h64]; omega)) ?_
  refine qSB (s_ne (b := mag)) ?_
  change br (!decide (l.take 4 = mag)) _ _
  by_cases hm : l.take 4 = mag
  case neg =>
    rw [if_pos hm] at hQ
    rw [decide_eq_false hm, Bool.not_false, br_true]
    exact ⟨trivial, trivial, bad _ 3 ed hQ⟩
  rw [if_neg (by simp [hm])] at hQ
  rw [decide_eq_true hm, Bool.not_true, br_false]
  refine qST (s_lo (by omega) (by rw [h64]; omega)) ?_
  refine mkB (n := 8) 5 (by omega) fun mb w2 hmb a2 e2 z2 => ⟨trivial, ?_⟩
  refine bsT a2 rfl ⟨trivial, ?_⟩
  refine qSB s_ne ?_
  change br (!decide (l.drop 56 = List.replicate 8 0)) _ _
  have e12 : Ext w1 w2 (fun _ => False) := ed.tr e2
  have hnz := num_zero (l.drop 56)
  rw [List.length_drop, h64] at hnz
  by_cases hp : num (l.drop 56) = 0
  case neg =>
    rw [if_pos hp] at hQ
    rw [decide_eq_false (fun hc => hp (hnz.2 hc)), Bool.not_false, br_true]
    exact bad _ 3 e12 hQ
  rw [if_neg (by simp [hp])] at hQ
  rw [decide_eq_true (hnz.1 hp), Bool.not_true, br_false]
  refine ⟨fun _ => True, trivial, ?_⟩
  refine qST (s_lh (by omega) (by omega) (by rw [h64]; omega)) ?_
  refine qST (s_hi (by omega) (by rw [h64]; omega)) ?_
  refine value_c (l := sub l 52 56) (by rw [sub_length (by omega)]; omega) (fi ⟨trivial, ?_⟩)
  refine rchecksum_c (l := l.take 52) (by rw [List.length_take]; omega) (fi ⟨trivial, ?_⟩)
  have hcr := (crc (l.take 52)).isLt
  rw [wrap_64 (by omega)]
  have e13 : Ext w1 (drew w2) (fun _ => False) := e12.drew_
  by_cases hc : num (sub l 52 56) = (crc (l.take 52)).toNat
  case neg =>
    rw [if_pos hc] at hQ
    rw [show (((num (sub l 52 56) : Nat) : Int) != (((crc (l.take 52)).toNat : Nat) : Int)) = true by rw [bne_iff_ne]; omega, br_true]
    exact bad _ 5 e13 hQ
  rw [if_neg (by simp [hc])] at hQ
  rw [hc, bne_self_eq_false, br_false]
  refine ⟨fun _ => True, trivial, ?_⟩
  refine qST (s_lh (by omega) (by omega) (by rw [h64]; omega)) ?_
  refine qST (s_lh (by omega) (by omega) (by rw [h64]; omega)) ?_
  refine qST (s_lh (by omega) (by omega) (by rw [h64]; omega)) ?_
  have n1 : (sub l 4 12).length ≤ 8 := by rw [sub_length (by omega)]; omega
  have n2 : (sub l 44 48).length ≤ 8 := by rw [sub_length (by omega)]; omega
  have n3 : (sub l 48 52).length ≤ 8 := by rw [sub_length (by omega)]; omega
  have k2 := wrap_32 (num_32 (l := l) (i := 44) (j := 48) (by omega) (by omega))
  have k3 := wrap_32 (num_32 (l := l) (i := 48) (j := 52) (by omega) (by omega))
  generalize hw3 : drew (drew w2) = w3
  have e3 : Ext w1 w3 (fun _ => False) := by rw [← hw3]; exact e13.drew_
  have tail : ∀ (tb : Nat) (w' : World), tb = w3.heap.size → At w' tb (hdrC 0 zb 0 0) 32 → Ext w3 w' (fun _ => False) →
      st Try.prog 32 ⟨tb, 0, none⟩ (.agg (hdrC (num (sub l 4 12)) zb (num (sub l 44 48)) (num (sub l 48 52))).toArray) w' fun w3 => True ∧ W.ref34_DecodeHeader_k6 (mkS l) ⟨rb, 0, none⟩ ⟨tb, 0, none⟩ w3 Q := by
    intro tb w' htb at' e'
    have hlt := a1.lt
    have hs := e3.size
    refine st_g 35 at' (by rw [hdrC_length rfl]; omega) (hdrC_length rfl) (hdrC_one _ _ _ _) fun w4 a4 e4 z4 => ⟨trivial, ?_⟩
    rw [splice_all (by rw [hdrC_length rfl, hdrC_length rfl])] at a4
    refine rdecodeHeader_k6 h64 (((a1.ext e3 (fun h => h)).ext e' (fun h => h)).ext e4 (by omega)) a4 (by omega) fun w5 e5 => hQ w5 ?_
    have hs1 := e1.size
    exact (((e1.tr e3).tr e').trans e4 (fun _ _ h => h) (fun b hb hx => by omega)).trans e5 (fun _ _ h => h) (fun b hb hx => by rcases hx with hx | hx <;> omega)
  refine ⟨?_, ?_⟩
  · refine value_c (l := sub l 4 12) n1 (fi ⟨trivial, ?_, ?_⟩)
    · refine value_c (l := sub l 44 48) n2 (fi ⟨trivial, ?_, ?_⟩)
      · refine value_c (l := sub l 48 52) n3 (fi ⟨trivial, ?_⟩)
        refine al_i fun tb w4 htb a3 e4 z3 => ⟨trivial, ?_⟩
        rw [hz] at a3
        rw [k2, k3]
        exact tail tb w4 htb a3 e4
      · refine al_i fun tb w4 htb a3 e4 z3 => ⟨trivial, ?_⟩
        rw [hz] at a3
        refine value_c (l := sub l 48 52) n3 (fi ⟨trivial, ?_⟩)
        rw [k2, k3]
        exact tail tb w4 htb a3 e4
    · refine al_i fun tb w4 htb a3 e4 z3 => ⟨trivial, ?_⟩
      rw [hz] at a3
      refine value_c (l := sub l 44 48) n2 (fi ⟨trivial, ?_⟩)
      refine value_c (l := sub l 48 52) n3 (fi ⟨trivial, ?_⟩)
      rw [k2, k3]
      exact tail tb w4 htb a3 e4
  · refine al_i fun tb w4 htb a3 e4 z3 => ⟨trivial, ?_⟩
    rw [hz] at a3
    refine value_c (l := sub l 4 12) n1 (fi ⟨trivial, ?_⟩)
    refine value_c (l := sub l 44 48) n2 (fi ⟨trivial, ?_⟩)
    refine value_c (l := sub l 48 52) n3 (fi ⟨trivial, ?_⟩)
    rw [k2, k3]
    exact tail tb w4 htb a3 e4
end
end Go.Proofs.Ytpgekajgbkbpkaa.Im
