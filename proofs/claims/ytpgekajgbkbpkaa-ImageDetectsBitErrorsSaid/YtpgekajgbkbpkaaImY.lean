/-
  The statement ImageDetectsBitErrors over the code. No condition beyond those stated.
-/
import Derived.Test.YtpgekajgbkbpkaaImX
namespace Go.Proofs.Ytpgekajgbkbpkaa.Im
open Go Go.Ev Go.Proofs

def bd7 : List UInt8 := 7 :: List.replicate 31 0
theorem bit_e {b : Nat} (h : b < 8) : IntKind.wrap .u8 (1 * 2 ^ ((b : Nat) : Int).toNat) = ((UInt8.ofNat (2 ^ b)).toNat : Int) ∧ UInt8.ofNat (2 ^ b) ≠ 0 := by
  obtain rfl | rfl | rfl | rfl | rfl | rfl | rfl | rfl : b = 0 ∨ b = 1 ∨ b = 2 ∨ b = 3 ∨ b = 4 ∨ b = 5 ∨ b = 6 ∨ b = 7 := by omega
  all_goals exact ⟨rfl, by decide⟩
theorem strs_set (ss : List (List UInt8)) (i : Nat) (s : List UInt8) : (strs ss).set i (.string (mkS s)) = strs (ss.set i s) := by simp [strs, List.map_set]
section
variable {U w : World} {Q : Value → World → Prop}

theorem bitErrors_k15 {sb n c : Nat} {ss : List (List UInt8)} (hs : Sl w 9 1 (some ⟨sb, 0, none⟩) n c (strs ss)) (hn : n ≤ 100000) (hd : ∃ e, decI ss = .inl e) (e0 : Ext U w (fun _ => False)) (hQ : ∀ w', Ext U w' (fun _ => False) → Q (.bool true) w') :
    W.law34_ImageDetectsBitErrors_k15 (some ⟨sb, 0, none⟩) n c w Q := by
  unfold W.law34_ImageDetectsBitErrors_k15
  obtain ⟨e, he⟩ := hd
  obtain ⟨sp, atS, hl, _, hnc⟩ := hs.at_
  rw [strs_length, Nat.mul_one] at hl
  refine decode_c hs.reads hl hnc atS.lt hn (fun e' he' w5 e5 => ⟨_, _, rfl, ?_⟩) (fun bd' g' ps' hi' => by rw [he] at hi'; cases hi')
  refine al_st 34 (imgC_length rfl) (imgC_one _ _ _ _ _) fun xb w6 hxb a6 e6 z6 => ?_
  refine br_pos (by rw [bne_iff_ne]; exact decI_ne0 he') ?_
  exact awake_fin ((e0.tr e5).tr e6) hQ

theorem bitErrors_c {l : Option Addr} {rn rc : Nat} {rs : List Rw} {k bit : Int} (hr : Rin w l rn rs) (hQ : ∀ w', Ext w w' (fun _ => False) → Q (.bool true) w') :
    CallE Try.prog 9 #[.slice l rn rc, .int .i64 k, .int .i64 bit] w Q := by
  apply C.law34_ImageDetectsBitErrors
  unfold W.law34_ImageDetectsBitErrors
  refine large_c hr fun b => fb ?_
  refine br_of (fun _ => awake_fin (Ext.refl _ _) hQ) fun _ => ?_
  have hbd : bd7.length = 32 := rfl
  refine some_c (bd := bd7) (g := 1) hr hbd fun ps pa pc w2 hok h6 s2 f2 e2 => fg ?_
  refine encode_c hbd s2.reads rfl (fun h => absurd hok h) fun _ sb c4 w4 s4 f4 e4 => ⟨_, _, _, _, rfl, ?_⟩
  have hsm := secs_small (g := 1) (bd := bd7) hok h6
  have hlen := secs_len (g := 1) hbd ps
  have hcount := cuts_count (bodyOf ps)
  have hpm := pad_mod (bodyOf ps)
  have hpl : padn (bodyOf ps).length < 64 := Nat.mod_lt _ (by omega)
  rw [pad_length] at hpm
  have hLs : (secs 1 bd7 ps).length = (cuts (bodyOf ps)).length + 1 := by unfold secs; rw [List.length_cons]
  have hbl := body_lt hok
  have hcr := (crc (bodyOf ps)).isLt
  have hgA : ∀ i (hi : i < (secs 1 bd7 ps).length), (strs (secs 1 bd7 ps))[i]? = some (.string (mkS (secs 1 bd7 ps)[i])) := by
    intro i hi
    unfold strs
    rw [List.getElem?_map, List.getElem?_eq_getElem hi]
    rfl
  refine br_neg rfl (br_neg (by rw [beq_eq_false_iff_ne]; omega) ?_)
  refine ixb 0 1 9 (by omega) ?_
  rw [Nat.zero_mul]
  refine slL s4 (hgA 0 (by omega)) (ft ?_)
  refine br_neg (by rw [mkS_size, hlen _ (List.getElem_mem _)]; rfl) ?_
  refine ixb 0 1 9 (by omega) ?_
  rw [Nat.zero_mul]
  refine slL s4 (hgA 0 (by omega)) (ft ?_)
  show CallE _ _ #[.string (mkS (hdr 1 bd7 (bodyOf ps).length (crc (bodyOf ps)).toNat))] _ _
  refine decodeHeader_c fun w5 e5 => ⟨_, _, rfl, ?_⟩
  rw [decH_hdr hbd (by omega) (by omega) hcr]
  refine al_st 35 (hdrC_length hbd) (hdrC_one _ _ _ _) fun xb w6 hxb a6 e6 z6 => ?_
  refine br_neg rfl ?_
  simp only [add_mk, Nat.zero_add]
  refine ldI a6 (hdrC_33 hbd) ?_
  rw [show IntKind.wrap .i64 (64 + IntKind.wrap .i64 (((bodyOf ps).length : Nat) : Int)) = ((64 + (bodyOf ps).length : Nat) : Int) by rw [wrap_i64 (x := (((bodyOf ps).length : Nat) : Int)) (by omega) (by omega), wrap_i64 (by omega) (by omega)]; omega]
  refine mod_c (by omega) (by omega) (fi ?_)
  have hmb := modv_bd (v := k) (n := ((64 + (bodyOf ps).length : Nat) : Int)) (by omega)
  obtain ⟨o, ho⟩ := nat_of hmb.1
  rw [ho] at hmb ⊢
  rw [show IntKind.wrap .i64 (Int.tdiv (o : Int) 64) = ((o / 64 : Nat) : Int) by rw [show Int.tdiv (o : Int) 64 = ((o / 64 : Nat) : Int) from rfl, wrap_i64 (by omega) (by omega)], show Int.tmod (o : Int) 64 = ((o % 64 : Nat) : Int) from rfl]
  have hp : o % 64 < 64 := Nat.mod_lt _ (by omega)
  have hi : o / 64 < (secs 1 bd7 ps).length := by omega
  have hip : 64 * (o / 64) + o % 64 < 64 + (bodyOf ps).length := by omega
  generalize hii : o / 64 = i at *
  generalize hpp : o % 64 = p at *
  refine br_neg (decide_eq_false (by omega)) ?_
  have e24 := e2.tr e4
  have e46 := e5.tr e6
  have s6 := s4.ext e46 (fun _ _ h => h)
  have hg := hgA i hi
  have hdf : ∀ e : UInt8, e ≠ 0 → ∀ hpl : p < ((secs 1 bd7 ps)[i]).length, ∃ c, decI ((secs 1 bd7 ps).set i ((secs 1 bd7 ps)[i].set p ((secs 1 bd7 ps)[i][p]'hpl ^^^ e))) = .inl c := fun e he hpl => decI_flip hbd (by omega) hok hi hp hip he hpl
  have hs64 : ((secs 1 bd7 ps)[i]).length = 64 := hlen _ (List.getElem_mem hi)
  generalize (secs 1 bd7 ps)[i] = s at *
  generalize secs 1 bd7 ps = ss at *
  refine ixb i 1 9 hi ?_
  rw [Nat.mul_one]
  refine slL s6 hg (ft ?_)
  refine br_neg (by rw [mkS_size, hs64]; rfl) ?_
  refine ⟨fun _ => True, trivial, ?_⟩
  refine ixbS i 1 9 hi ?_
  refine ixbS i 1 9 hi ?_
  refine ixbS i 1 9 hi ?_
  rw [Nat.mul_one]
  have ed : Ext w6 (drew w6) (fun _ => False) := (Ext.refl w6 _).drew_
  generalize hw0 : drew w6 = w0
  rw [hw0] at ed
  have s0 := s6.ext ed (fun _ _ h => h)
  have e00 : Ext w w0 (fun _ => False) := (e24.tr e46).tr ed
  have E0 : Ext w0 w0 (fun _ => False) := Ext.refl _ _
  have hbb := modv_bd (v := bit) (n := 8) (by omega)
  obtain ⟨b, hb⟩ := nat_of hbb.1
  rw [hb] at hbb
  obtain ⟨hbe, hne0⟩ := bit_e (b := b) (by omega)
  generalize hee : UInt8.ofNat (2 ^ b) = e at *
  have hplt : p < s.length := by omega
  have hgd : s.getD p 0 = s[p] := by rw [List.getD_eq_getElem?_getD, List.getElem?_eq_getElem hplt]; rfl
  have ls : ∀ {w' : World} {K : ByteArray → Prop}, Ext w0 w' (fun _ => False) → K (mkS s) → ld Try.prog 9 ⟨sb, i, none⟩ w' fun v => fT v fun t => True ∧ K t :=
    fun h hK => slL (s0.ext h (fun _ _ h => h)) hg (ft ⟨trivial, hK⟩)
  have hi_ : ∀ {K : ByteArray → Prop}, K (mkS (s.take p)) → rqS Try.prog (fun _ => True) (Instr.sliceAt 9 (.string (mkS s)) none (some (.int .i64 (p : Int))) none) fun v => fT v fun t => K t :=
    fun hK => qST (s_hi (by omega) (by omega)) (by rw [Int.toNat_natCast]; exact hK)
  have lo_ : ∀ {K : ByteArray → Prop}, K (mkS (s.drop (p + 1))) → rqS Try.prog (fun _ => True) (Instr.sliceAt 9 (.string (mkS s)) (some (.int .i64 (IntKind.wrap .i64 ((p : Int) + 1)))) none none) fun v => fT v fun t => K t := by
    intro K hK
    rw [inc_nat (by omega)]
    exact qST (s_lo (by omega) (by omega)) (by rw [Int.toNat_natCast]; exact hK)
  have ix_ : ∀ {K : Int → Prop}, K ((s[p]).toNat : Int) → rqS Try.prog (fun _ => True) (Instr.index 9 (.string (mkS s)) (.int .i64 (p : Int))) fun v => fI .u8 v fun x => K x :=
    fun hK => qSI (sxn p hplt) (by rw [hgd]; exact hK)
  have md_ : ∀ {w' : World} {K : Int → World → Prop}, K (b : Int) w' → CallE Try.prog 18 #[.int .i64 bit, .int .i64 8] w' fun v w'' => fI .i64 v fun x => True ∧ K x w'' := by
    intro w' K hK
    refine mod_c (by omega) (by omega) (fi ⟨trivial, ?_⟩)
    rw [hb]
    exact hK
  have sh_ : ∀ {x y : Operand} {K : Int → Prop}, K (e.toNat : Int) → rqS Try.prog (fun _ => True) (do eqGuard .shl 5 x y (.int .u8 1) (.int .u64 (IntKind.wrap .u64 (b : Int))); binOp .shl 5 (.int .u8 1) (.int .u64 (IntKind.wrap .u64 (b : Int)))) fun v => fI .u8 v fun x => K x := by
    intro x y K hK
    rw [wrap_64 (by omega)]
    refine qSI (shl_i (by omega) (by show (b : Int) ≤ 8; omega)) ?_
    rw [hbe]
    exact hK
  have al_ : ∀ {w' : World} {K : Addr → World → Prop}, Ext w0 w' (fun _ => False) → (∀ tb w'', At w'' tb (by_ [s[p] ^^^ e]) 5 → Ext w0 w'' (fun _ => False) → K ⟨tb, 0, none⟩ w'') → al 5 #[.int .u8 (bxor .u8 ((s[p]).toNat : Int) (e.toNat : Int))] w' fun a w'' => True ∧ K a w'' := by
    intro w' K h hK
    rw [xor8]
    exact al_i fun tb w'' htb a'' e'' z'' => ⟨trivial, hK tb w'' a'' (h.tr e'')⟩
  have cv_ : ∀ {w' : World} {tb : Nat} {K : ByteArray → World → Prop}, At w' tb (by_ [s[p] ^^^ e]) 5 → K (mkS [s[p] ^^^ e]) w' → rv Try.prog (convert 26 9 (.slice (some ⟨tb, 0, none⟩) 1 1)) w' fun v w'' => fT v fun t => True ∧ K t w'' :=
    fun h hK => bsT h rfl ⟨trivial, hK⟩
  have ad1 : ∀ {x y : Operand} {K : ByteArray → Prop}, K (mkS (s.take p ++ [s[p] ^^^ e])) → rqS Try.prog (fun _ => True) (do eqGuard .add 9 x y (.string (mkS (s.take p))) (.string (mkS [s[p] ^^^ e])); binOp .add 9 (.string (mkS (s.take p))) (.string (mkS [s[p] ^^^ e]))) fun v => fT v fun t => K t :=
    fun hK => qST (s_add (by rw [List.length_take]; show _ + 1 < _; omega)) hK
  have ad2 : ∀ {x y : Operand} {K : ByteArray → Prop}, K (mkS (s.take p ++ [s[p] ^^^ e] ++ s.drop (p + 1))) → rqS Try.prog (fun _ => True) (do eqGuard .add 9 x y (.string (mkS (s.take p ++ [s[p] ^^^ e]))) (.string (mkS (s.drop (p + 1)))); binOp .add 9 (.string (mkS (s.take p ++ [s[p] ^^^ e]))) (.string (mkS (s.drop (p + 1))))) fun v => fT v fun t => K t :=
    fun hK => qST (s_add (by rw [List.length_append, List.length_take, List.length_drop]; show _ + 1 + _ < _; omega)) hK
  have hsl0 := s0.len_
  rw [strs_length, Nat.mul_one] at hsl0
  have fin : ∀ {w' : World}, Ext w0 w' (fun _ => False) → rqS Try.prog (fun _ => True) (Instr.indexAt 47 (.slice (some ⟨sb, 0, none⟩) ss.length c4) (.int .i64 (i : Int))) fun v => fA v fun a => st Try.prog 9 a (.string (mkS (s.take p ++ [s[p] ^^^ e] ++ s.drop (p + 1)))) w' fun w'' => True ∧ W.law34_ImageDetectsBitErrors_k15 (some ⟨sb, 0, none⟩) ss.length c4 w'' Q := by
    intro w' h
    refine ixbS i 1 9 hi ?_
    rw [Nat.mul_one]
    refine slS (s0.ext h (fun _ _ h => h)) (by rw [strs_length]; exact hi) fun w7 s7 e7 z7 => ⟨trivial, ?_⟩
    rw [strs_set] at s7
    have hset : s.take p ++ [s[p] ^^^ e] ++ s.drop (p + 1) = s.set p (s[p] ^^^ e) := by rw [set_split hplt, List.append_assoc]; rfl
    rw [hset] at s7
    have hw2 := e2.size
    refine bitErrors_k15 s7 (by omega) (hdf e hne0 hplt) ((e00.tr h).trans e7 (fun _ _ h => h) (fun b hb hx => by omega)) hQ
  repeat' with_reducible first
    | refine ls (by assumption) ?_
    | refine hi_ ?_
    | refine lo_ ?_
    | refine ix_ ?_
    | refine md_ ?_
    | refine sh_ ?_
    | refine al_ (by assumption) fun _ _ _ _ => ?_
    | refine cv_ (by assumption) ?_
    | refine ad1 ?_
    | refine ad2 ?_
    | refine And.intro ?_ ?_
    | exact fin (by assumption)
end
end Go.Proofs.Ytpgekajgbkbpkaa.Im
