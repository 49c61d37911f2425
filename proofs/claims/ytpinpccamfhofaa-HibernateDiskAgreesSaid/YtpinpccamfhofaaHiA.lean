/-
  The reference's Decode of an image over the code. No condition beyond those stated.
-/
import Derived.Test.YtpinpccamfhofaaHiY
import Derived.Test.YtpinpccamfhofaaPzF
set_option linter.unusedVariables false
set_option linter.unusedSimpArgs false
set_option maxRecDepth 100000
namespace Go.Proofs.Ytpinpccamfhofaa.Hi
open Go Go.Ev Go.Proofs Go.Proofs.Ytpinpccamfhofaa.Im

theorem parse_pre : ∀ (f : Nat) (r : List UInt8) (acc ps : List Pg), parse f r acc = some ps → ∃ t, ps = acc ++ t
  | 0, r, acc, ps, h => by
    unfold parse at h
    split at h
    · cases h; exact ⟨[], by simp⟩
    · cases h
  | f + 1, r, acc, ps, h => by
    unfold parse at h
    split at h
    · cases h; exact ⟨[], by simp⟩
    · split at h
      · cases h
      · obtain ⟨t, rfl⟩ := parse_pre f _ _ ps h
        exact ⟨_ :: t, by rw [List.append_assoc]; rfl⟩
theorem incr_mid : ∀ (acc : List Pg) (m : Int) (p : Pg) (t : List Pg), incr m (acc ++ p :: t) = true → lastN m acc < p.1
  | [], m, p, t, h => by
    rw [List.nil_append, incr_cons] at h
    simp only [Bool.and_eq_true, decide_eq_true_eq] at h
    exact h.1.2
  | q :: acc, m, p, t, h => by
    rw [List.cons_append, incr_cons] at h
    simp only [Bool.and_eq_true, decide_eq_true_eq] at h
    exact incr_mid acc q.1 p t h.2
theorem lastN_get : ∀ (ps : List Pg) (m : Int) (h : 0 < ps.length), lastN m ps = (ps[ps.length - 1]'(by omega)).1
  | [q], m, _ => rfl
  | q :: r :: ps, m, _ => by
    show lastN q.1 (r :: ps) = _
    rw [lastN_get (r :: ps) q.1 (by simp)]
    rfl
theorem stepB_num {r : List UInt8} {k : Nat} {y : Pg} {t : List UInt8} (h : stepB r k = some (y, t)) : y.1 = ((num (r.take 4) : Nat) : Int) := by
  unfold stepB at h
  split at h
  · cases h
  split at h
  · cases h
  split at h
  · cases h
  split at h
  · cases h
  split at h
  · cases h
  · cases h; rfl
theorem reads_pre {w : World} {a : Option Addr} {vs : List Value} (k : Nat) (h : Reads w a vs) : Reads w a (vs.take k) := by
  rcases h with rfl | ⟨p, rfl, h⟩
  · exact .inl (by simp)
  · refine .inr ⟨p, rfl, fun j hj => ?_⟩
    rw [List.length_take] at hj
    rw [h j (by omega), List.getElem?_take_of_lt (by omega)]

section
variable {U w w' : World} {Q : Value → World → Prop}

theorem rpages_c {l : List UInt8} (hl : l.length ≤ 1000000) (h0 : (∀ ps, parse l.length l [] = some ps → validP ps = false) → ∀ w', Ext w w' (fun _ => False) → Q (.tuple #[.slice none 0 0, .bool false]) w')
    (h1 : ∀ ps, parse l.length l [] = some ps → validP ps = true → ∀ a c w', Sl w' 85 2 a ps.length c (ps.flatMap pgC) → (∀ b, a = some ⟨b, 0, none⟩ → w.heap.size ≤ b) → Ext w w' (fun _ => False) → Q (.tuple #[.slice a ps.length c, .bool true]) w') :
    CallE Try.prog 112 #[.string (mkS l)] w Q := by
  apply C.ref34_pages
  unfold W.ref34_pages
  refine LoopW.nat l.length (fun j x w' => ∃ r a c ps, x = (mkS r, (a, ps.length, c), ()) ∧ r.length + j ≤ l.length ∧ ps.length ≤ 512 ∧ incr (-1) ps = true ∧ parse (l.length - j) r ps = parse l.length l [] ∧ Sl w' 85 2 a ps.length c (ps.flatMap pgC) ∧ (∀ b, a = some ⟨b, 0, none⟩ → w.heap.size ≤ b) ∧ Ext w w' (fun _ => False))
    ⟨l, none, 0, [], rfl, by omega, by simp, rfl, by rw [Nat.sub_zero], .inl ⟨rfl, rfl, rfl, rfl⟩, (fun b hb => by cases hb), Ext.refl _ _⟩ ?_
  rintro j x w1 next hj ⟨r, a, c, ps, rfl, hrl, hp5, hinc, hpe, s1, f1, e1⟩ hnext
  dsimp only
  rw [mkS_size]
  by_cases hr0 : r.length = 0
  · rw [decide_eq_false (by omega), br_false]
    have : r = [] := List.eq_nil_of_length_eq_zero hr0
    subst this
    rw [parse_nil] at hpe
    exact h1 ps hpe.symm (by unfold validP; rw [decide_eq_true hp5, hinc]; rfl) a c w1 s1 f1 e1
  have hrne : r ≠ [] := by rintro rfl; exact hr0 rfl
  rw [decide_eq_true (by omega), br_true]
  have hlt : j < l.length := by omega
  obtain ⟨f, hf⟩ : ∃ f, l.length - j = f + 1 := ⟨l.length - j - 1, by omega⟩
  rw [hf, parse_succ hrne] at hpe
  have bad : stepB r ps.length = none → ∀ w', Ext w1 w' (fun _ => False) → Q (.tuple #[.slice none 0 0, .bool false]) w' := by
    intro hn w' e'
    rw [hn] at hpe
    exact h0 (fun qs hq => by rw [← hpe] at hq; cases hq) w' (e1.tr e')
  by_cases h6 : r.length < 6
  · rw [decide_eq_true (by omega), br_true]
    exact bad (by unfold stepB; rw [if_pos h6]) w1 (Ext.refl _ _)
  rw [decide_eq_false (by omega), br_false]
  refine ⟨fun _ => True, trivial, ?_⟩
  refine qST (s_hi (by omega) (by omega)) ?_
  refine qST (s_lh (by omega) (by omega) (by omega)) ?_
  refine value_c (l := r.take 4) (by rw [List.length_take]; omega) (fi ⟨trivial, ?_⟩)
  refine value_c (l := sub r 4 6) (by rw [sub_length (by omega)]; omega) (fi ⟨trivial, ?_⟩)
  have ed : Ext w1 (drew w1) (fun _ => False) := (Ext.refl w1 _).drew_
  have hn4 : num (r.take 4) < 4294967296 := by
    have := num_lt (r.take 4)
    rw [List.length_take, Nat.min_eq_left (by omega)] at this
    exact this
  have hm2 : num (sub r 4 6) < 65536 := by
    have := num_lt (sub r 4 6)
    rw [sub_length (by omega)] at this
    exact this
  by_cases hn : num (r.take 4) > 2147483647
  · rw [decide_eq_true (by omega), br_true]
    exact bad (by unfold stepB; rw [if_neg h6]; split <;> first | rfl | (rw [if_pos hn])) _ ed
  rw [decide_eq_false (by omega), br_false]
  rw [wrap_i64 (x := ((num (sub r 4 6) : Nat) : Int)) (by omega) (by omega), show IntKind.wrap .i64 (((r.length : Nat) : Int) - 6) = ((r.length - 6 : Nat) : Int) by rw [wrap_i64 (by omega) (by omega)]; omega]
  have hdl : (r.drop 6).length = r.length - 6 := List.length_drop ..
  by_cases hm : num (sub r 4 6) > (r.drop 6).length
  · rw [decide_eq_true (by omega), br_true]
    exact bad (by unfold stepB; rw [if_neg h6]; split <;> first | rfl | (rw [if_neg hn, if_pos hm])) _ ed
  rw [decide_eq_false (by omega), br_false]
  by_cases h5 : ps.length = 512
  · rw [show ((((ps.length : Nat) : Int) : Int) == 512) = true by rw [h5]; rfl, br_true]
    exact bad (by unfold stepB; rw [if_neg h6, if_pos h5]) _ ed
  rw [show ((((ps.length : Nat) : Int) : Int) == 512) = false by rw [beq_eq_false_iff_ne]; omega, br_false]
  generalize hmm : num (sub r 4 6) = m at *
  have go : lastN (-1) ps < ((num (r.take 4) : Nat) : Int) → W.ref34_pages_k8 (mkS r) a ps.length c ((num (r.take 4) : Nat) : Int) (m : Int) next (drew w1) Q := by
    intro hlast
    unfold W.ref34_pages_k8
    rw [show IntKind.wrap .i64 (6 + (m : Int)) = ((6 + m : Nat) : Int) by rw [wrap_i64 (by omega) (by omega)]; omega]
    refine qT (s_lh (by omega) (by omega) (by omega)) ?_
    have hsub : (r.take ((6 + m : Nat) : Int).toNat).drop (6 : Int).toNat = (r.drop 6).take m := by
      rw [Int.toNat_natCast, show (6 : Int).toNat = 6 from rfl, List.drop_take, Nat.add_sub_cancel_left]
    rw [hsub]
    refine Pz.refDecompress_c (by rw [List.length_take]; omega) fun w2 e2 => ⟨_, _, rfl, ?_⟩
    rw [Pz.back_agrees]
    generalize hbk : Pz.back (Pz.expP ((r.drop 6).take m)) ((r.drop 6).take m) = bk at *
    have e02 := ed.tr e2
    by_cases hz : bk.2 = 0
    case neg =>
      rw [show (bk.2 != 0) = true by rw [bne_iff_ne]; exact hz, br_true]
      exact bad (by unfold stepB; rw [if_neg h6, if_neg h5, if_neg hn, hmm, if_neg hm, hbk, if_pos hz]) w2 e02
    rw [show (bk.2 != 0) = false by rw [hz]; rfl, br_false]
    rw [wrap_i64 (x := ((num (r.take 4) : Nat) : Int)) (by omega) (by omega)]
    have hst : stepB r ps.length = some ((((num (r.take 4) : Nat) : Int), bk.1), (r.drop 6).drop m) := by
      unfold stepB
      rw [if_neg h6, if_neg h5, if_neg hn, hmm, if_neg hm, hbk, if_neg (by simp [hz])]
    rw [hst] at hpe
    dsimp only at hpe
    refine al_i fun tb w3 htb a3 e3 z3 => ?_
    refine ap_i 85 2 (vs := pgC (((num (r.take 4) : Nat) : Int), bk.1)) ((s1.ext e02 (fun _ _ h => h)).ext e3 (fun _ _ h => h)) (.inr ⟨_, rfl, fun k hk => by rw [add_mk, a3.cell, Nat.zero_add]; rfl⟩) rfl (pgC_one _) (by omega) fun a4 c4 w4 s4 f4 g4 e4 => fs ?_
    refine qT (s_lo (by omega) (by omega)) ?_
    rw [Int.toNat_natCast]
    have hs1 := e1.size
    have hs2 := e02.size
    have hs3 := e3.size
    refine hnext hlt _ _ ⟨(r.drop 6).drop m, a4, c4, ps ++ [(((num (r.take 4) : Nat) : Int), bk.1)], ?_, ?_, ?_, ?_, ?_, ?_, ?_, ?_⟩
    · rw [List.length_append, List.drop_drop]; rfl
    · rw [List.length_drop, List.length_drop]; omega
    · rw [List.length_append]; show ps.length + 1 ≤ 512; omega
    · exact incr_snoc ps (-1) _ hinc (by show (0 : Int) ≤ ((num (r.take 4) : Nat) : Int); omega) (by show ((num (r.take 4) : Nat) : Int) ≤ _; omega) hlast
    · rw [show l.length - (j + 1) = f by omega]; exact hpe
    · rw [List.length_append, List.flatMap_append]
      simpa using s4
    · intro b hb
      rcases f4 b hb with hx | hx
      · exact f1 b hx
      · omega
    · exact ((e1.tr e02).tr e3).trans e4 (fun _ _ h => h) (fun b hb hx => by have := f1 b hx; omega)
  by_cases hp0 : ps.length = 0
  · rw [decide_eq_false (by omega), br_false]
    refine go ?_
    have : ps = [] := List.eq_nil_of_length_eq_zero hp0
    subst this
    show (-1 : Int) < _
    omega
  rw [decide_eq_true (by omega), br_true]
  rw [show IntKind.wrap .i64 (((ps.length : Nat) : Int) - 1) = ((ps.length - 1 : Nat) : Int) by rw [wrap_i64 (by omega) (by omega)]; omega]
  have hrd := s1.reads.ext ed (fun _ _ _ h => h)
  obtain ⟨pb, hpb⟩ := s1.one_block (by omega)
  subst hpb
  refine ixs (ps.length - 1) 2 85 (by omega) ?_
  refine rdF (o := 0) (ps.length - 1) (by omega) hrd pgC_length (by omega) rfl (fi ?_)
  rw [wrap_i64 (x := ((num (r.take 4) : Nat) : Int)) (by omega) (by omega)]
  have hlg := lastN_get ps (-1) (by omega)
  by_cases hasc : ((num (r.take 4) : Nat) : Int) ≤ (ps[ps.length - 1]'(by omega)).1
  · rw [decide_eq_true hasc, br_true]
    refine h0 (fun qs hq => ?_) _ (e1.tr ed)
    rw [← hpe] at hq
    cases hst : stepB r ps.length with
    | none => rw [hst] at hq; cases hq
    | some y =>
      obtain ⟨y1, y2⟩ := y
      rw [hst] at hq
      dsimp only at hq
      obtain ⟨t, rfl⟩ := parse_pre _ _ _ _ hq
      have hy := stepB_num hst
      rw [Bool.eq_false_iff]
      intro hv
      unfold validP at hv
      rw [Bool.and_eq_true, List.append_assoc] at hv
      have := incr_mid ps (-1) y1 t hv.2
      omega
  rw [decide_eq_false hasc, br_false]
  exact go (by omega)

theorem rdecode_c {sb n c : Nat} {s0 : List UInt8} {r : List (List UInt8)} (h : Reads w (some ⟨sb, 0, none⟩) (strs (s0 :: r))) (hn : r.length + 1 = n) (hbd : n ≤ 10000)
    (h0 : ∀ e, decI (s0 :: r) = .inl e → ∀ w', Ext w w' (fun _ => False) → Q (.tuple #[.agg (imgC zb 0 none 0 0).toArray, .int .i64 e]) w')
    (h1 : ∀ bd g ps, decI (s0 :: r) = .inr (bd, g, ps) → ∀ a c' w', Sl w' 85 2 a ps.length c' (ps.flatMap pgC) → (∀ b, a = some ⟨b, 0, none⟩ → w.heap.size ≤ b) → Ext w w' (fun _ => False) → Q (.tuple #[.agg (imgC bd g a ps.length c').toArray, .int .i64 0]) w') :
    CallE Try.prog 87 #[.slice (some ⟨sb, 0, none⟩) n c] w Q := by
  subst hn
  apply C.ref34_Decode
  unfold W.ref34_Decode
  refine al_i fun rb w1 hrb a1 e1 z1 => ?_
  rw [zimg] at a1
  have hcl : (s0 :: r).length = r.length + 1 := rfl
  rw [show ((((r.length + 1 : Nat) : Int) : Int) == 0) = false by rw [beq_eq_false_iff_ne]; omega, br_false]
  have ret : ∀ (e : Int) (w' : World), decI (s0 :: r) = .inl e → Ext w1 w' (fun _ => False) →
      st Try.prog 41 ⟨rb, 0, none⟩ (.agg (imgC zb 0 none 0 0).toArray) w' fun w3 => ld Try.prog 41 ⟨rb, 0, none⟩ w3 fun v4 => fG v4 fun g5 => Q (.tuple #[.agg g5, .int .i64 e]) w3 := by
    intro e w' he e'
    exact retz (a1.ext e' (fun h => h)) rfl fun w2 e2 => h0 e he w2 ((e1.tr e').trans e2 (fun _ _ h => h) (fun b hb hx => by omega))
  have hr1 := h.ext e1 (fun _ _ _ h => h)
  have rdS : ∀ {wz : World} {K : ByteArray → Prop} (i : Nat) (hi : i < (s0 :: r).length), Ext w1 wz (fun _ => False) → K (mkS (s0 :: r)[i]) → ld Try.prog 9 ⟨sb, i * 1, none⟩ wz fun v => fT v K := by
    intro wz K i hi ez hK
    have : (⟨sb, i * 1, none⟩ : Addr) = Addr.add ⟨sb, 0, none⟩ i := by rw [add_mk, Nat.mul_one, Nat.zero_add]
    rw [this]
    exact rdL (hr1.ext ez (fun _ _ _ h => h)) (strs_get hi) (ft hK)
  refine LoopW.nat (s0 :: r).length (fun i x w' => x = ((i : Int), ()) ∧ w' = w1 ∧ ∀ j (hj : j < (s0 :: r).length), j < i → (s0 :: r)[j].length = 64) ⟨rfl, rfl, fun j hj h => by omega⟩ ?_
  rintro i x w2 next hi ⟨rfl, rfl, hal⟩ hnext
  dsimp only
  by_cases hlt : i < (s0 :: r).length
  · rw [decide_eq_true (by omega), br_true]
    refine ixb i 1 9 hlt ?_
    refine rdS i hlt (Ext.refl _ _) ?_
    rw [mkS_size]
    by_cases h64 : (s0 :: r)[i].length = 64
    case neg =>
      rw [show (((((s0 :: r)[i].length : Nat) : Int) : Int) != 64) = true by rw [bne_iff_ne]; omega, br_true]
      exact ret 3 _ (by
        unfold decI
        dsimp only
        rw [if_pos (fun hc => h64 (hc _ (List.getElem_mem hlt)))]) (Ext.refl _ _)
    rw [show (((((s0 :: r)[i].length : Nat) : Int) : Int) != 64) = false by rw [h64]; rfl, br_false, inc_nat (by omega)]
    refine hnext hlt _ _ ⟨rfl, rfl, fun j hj hji => ?_⟩
    by_cases hjeq : j = i
    · subst hjeq; exact h64
    · exact hal j hj (by omega)
  rw [decide_eq_false (by omega), br_false]
  have hall : ∀ s ∈ s0 :: r, s.length = 64 := by
    intro s hs
    obtain ⟨j, hj, rfl⟩ := List.getElem_of_mem hs
    exact hal j hj (by omega)
  have hrall : ∀ s ∈ r, s.length = 64 := fun s hs => hall s (.tail _ hs)
  unfold W.ref34_Decode_k8
  refine ixb 0 1 9 (by omega) ?_
  refine rdS 0 (by omega) (Ext.refl _ _) ?_
  show CallE _ _ #[.string (mkS s0)] _ _
  refine rdecodeHeader_c fun w3 e3 => ⟨_, _, rfl, ?_⟩
  refine al_st 35 (decH_len s0) (decH_one s0) fun hb w4 hhb a4 e4 z4 => ?_
  have e14 := e3.tr e4
  by_cases hd : (decH s0).2 = 0
  case neg =>
    rw [show ((decH s0).2 != 0) = true by rw [bne_iff_ne]; exact hd, br_true]
    exact ret _ w4 (by
      unfold decI
      dsimp only
      rw [if_neg (by simpa using hall), if_pos hd]) e14
  rw [show ((decH s0).2 != 0) = false by rw [hd]; rfl, br_false]
  rw [decH_ok hd] at a4
  have hbl : (sub s0 12 44).length = 32 := sub_length (by rw [hall s0 (.head _)]; omega)
  have hlen32 : num (sub s0 44 48) < 4294967296 := num_32 (by rw [hall s0 (.head _)]; omega) (by omega)
  have hsum32 : num (sub s0 48 52) < 4294967296 := num_32 (by rw [hall s0 (.head _)]; omega) (by omega)
  simp only [add_mk, Nat.zero_add]
  generalize hg : num (sub s0 4 12) = g at *
  generalize hL : num (sub s0 44 48) = L at *
  generalize hS : num (sub s0 48 52) = S at *
  generalize hB : sub s0 12 44 = bd at *
  refine ldI a4 (hdrC_33 hbl) ?_
  have hdec : decI (s0 :: r) = if r.length * 64 < L then .inl 4 else if (crc (r.flatten.take L)).toNat ≠ S then .inl 5
      else match parse (r.flatten.take L).length (r.flatten.take L) [] with
      | none => .inl 3
      | some ps => if validP ps = true then .inr (bd, g, ps) else .inl 3 := by
    unfold decI
    dsimp only
    rw [if_neg (by simpa using hall), if_neg (by simp [hd]), hL, hS, hB, hg] <;> rfl
  rw [show IntKind.wrap .i64 (((r.length + 1 : Nat) : Int) - 1) = ((r.length : Nat) : Int) by rw [wrap_i64 (by omega) (by omega)]; omega, wrap_64 (n := r.length) (by omega), show ((r.length : Nat) : Int) * 64 = ((r.length * 64 : Nat) : Int) by omega, wrap_64 (n := r.length * 64) (by omega), wrap_64 (n := L) (by omega)]
  by_cases htr : r.length * 64 < L
  · rw [decide_eq_true (by omega), br_true]
    exact ret 4 w4 (by rw [hdec, if_pos htr]) e14
  rw [decide_eq_false (by omega), br_false]
  rw [if_neg htr] at hdec
  -- the rest, when enough bytes have been read
  have fin : ∀ (j : Nat) (w5 : World) (a5 : Option Addr) (c5 : Nat), j ≤ r.length → L ≤ 64 * j → Sl w5 5 1 a5 (64 * j) c5 (by_ (r.take j).flatten) → Ext w4 w5 (fun _ => False) → W.ref34_Decode_k18 ⟨rb, 0, none⟩ ⟨hb, 0, none⟩ a5 (64 * j) c5 w5 Q := by
    intro j w5 a5 c5 hj hLj s5 e5
    unfold W.ref34_Decode_k18
    simp only [add_mk, Nat.zero_add]
    refine ldI (a4.ext e5 (fun h => h)) (hdrC_33 hbl) ?_
    have hnc : 64 * j ≤ c5 := by
      rcases s5 with ⟨_, h2, h3, _⟩ | ⟨b, sp, _, _, _, _, h4⟩
      · omega
      · exact h4
    refine rq_r (sl_hi_any 5 (by omega)) (fs ?_)
    have hbody : (r.take j).flatten.take L = r.flatten.take L := by rw [flatten_take r j hrall, List.take_take, Nat.min_eq_left hLj]
    have hrd : Reads w5 a5 (by_ (r.flatten.take L)) := by
      have := reads_pre L s5.reads
      rw [← hbody]
      rwa [show by_ ((r.take j).flatten.take L) = (by_ (r.take j).flatten).take L by simp [by_, List.map_take]]
    have hbl2 : (r.flatten.take L).length = L := by
      rw [List.length_take, flatten_len r hrall]; omega
    refine bs_str (l := r.flatten.take L) hrd hbl2 (ft ?_)
    generalize hbo : r.flatten.take L = body at *
    have a5' : At (drew w5) hb (hdrC g bd L S) 121 := (a4.ext e5 (fun h => h)).drew_
    have e15 := e14.tr e5
    refine ⟨fun w' => At w' hb (hdrC g bd L S) 121, a5', ?_⟩
    refine ldS_i (fun _ h => h) (hdrC_34 hbl) (fi ?_)
    refine rchecksum_c (by omega) (fi ⟨a5', ?_⟩)
    have e16 : Ext w2 (drew w5) (fun _ => False) := e15.drew_
    have hcr := (crc body).isLt
    by_cases hsm : (crc body).toNat = S
    case neg =>
      rw [show ((((crc body).toNat : Nat) : Int) != ((S : Nat) : Int)) = true by rw [bne_iff_ne]; omega, br_true]
      exact ret 5 _ (by rw [hdec, if_pos hsm]) e16
    rw [show ((((crc body).toNat : Nat) : Int) != ((S : Nat) : Int)) = false by rw [hsm]; simp, br_false]
    rw [if_neg (by simp [hsm])] at hdec
    refine rpages_c (l := body) (by omega) (fun hpn w7 e7 => ⟨_, _, _, _, rfl, ?_⟩) (fun ps hps hv a7 c7 w7 s7 f7 e7 => ⟨_, _, _, _, rfl, ?_⟩)
    · rw [Bool.not_false, br_true]
      refine ret 3 w7 ?_ (e16.tr e7)
      rw [hdec]
      cases hpp : parse body.length body [] with
      | none => rfl
      | some ps => dsimp only; rw [if_neg (by rw [hpn ps hpp]; simp)]
    · rw [hps] at hdec
      dsimp only at hdec
      rw [if_pos hv] at hdec
      rw [Bool.not_true, br_false]
      have a7' := a5'.ext e7 (fun h => h)
      refine ld_g 32 a7' (by rw [hdrC_length hbl]; omega) (fg ?_)
      have hbd' : ((hdrC g bd L S).drop 1).take 32 = by_ bd := by
        unfold hdrC
        show (by_ bd ++ _).take 32 = _
        exact List.take_left' (by rw [by_length, hbl])
      rw [hbd']
      refine ldI a7' rfl ?_
      refine rq_r (buildI hbl) (fg ?_)
      have r7 := a1.ext (e16.tr e7) (fun h => h)
      have hs6 := e16.size
      refine st_w 34 r7 rfl (imgC_length hbl) (imgC_one _ _ _ _ _) fun w8 a8 e8 z8 => ?_
      refine ld_w a8 (fg ?_) (hs := by rw [imgC_length hbl]; kernel_rfl)
      have hlt1 := a1.lt
      refine h1 bd g ps hdec a7 c7 w8 (s7.ext e8 (fun b hb hx => ?_)) (fun b hb => ?_) ((e1.tr (e16.tr e7)).trans e8 (fun _ _ h => h) (fun b hb hx => by omega))
      · have := f7 b hb; omega
      · have := f7 b hb
        have := e1.size
        omega
  have hz14 := e14.size
  refine LoopW.nat r.length (fun j x w' => ∃ a5 c5, x = ((a5, 64 * j, c5), ((j + 1 : Nat) : Int), ()) ∧ Sl w' 5 1 a5 (64 * j) c5 (by_ (r.take j).flatten) ∧ (∀ b, a5 = some ⟨b, 0, none⟩ → w4.heap.size ≤ b) ∧ Ext w4 w' (fun _ => False))
    ⟨none, 0, rfl, .inl ⟨rfl, rfl, rfl, rfl⟩, (fun b hb => by cases hb), Ext.refl _ _⟩ ?_
  rintro j x w5 next' hj ⟨a5, c5, rfl, s5, f5, e5⟩ hnext'
  dsimp only
  by_cases hjr : j < r.length
  case neg =>
    rw [decide_eq_false (by omega), br_false]
    exact fin j w5 a5 c5 hj (by omega) s5 e5
  rw [decide_eq_true (by omega), br_true]
  refine ldI (a4.ext e5 (fun h => h)) (hdrC_33 hbl) ?_
  rw [wrap_i64 (x := (L : Int)) (by omega) (by omega)]
  by_cases hLj : 64 * j < L
  case neg =>
    rw [decide_eq_false (by omega), br_false]
    exact fin j w5 a5 c5 hj (by omega) s5 e5
  rw [decide_eq_true (by omega), br_true]
  refine ixb (j + 1) 1 9 (by omega) ?_
  refine rdS (j + 1) (by omega) (e14.tr e5) ?_
  show rv _ (Builtin.append_ _ _ #[_, .string (mkS r[j])]) _ _
  have hjl : r[j].length = 64 := hrall _ (List.getElem_mem hjr)
  refine ap_s 5 s5 (by omega) fun a6 c6 w6 s6 f6 g6 e6 => fs ?_
  rw [hjl] at s6 ⊢
  rw [inc_nat (by omega)]
  have hz5 := e5.size
  refine hnext' hjr _ _ ⟨a6, c6, rfl, ?_, fun b hb => ?_, e5.trans e6 (fun _ _ h => h) (fun b hb hx => by have := f5 b hx; omega)⟩
  · rw [show r.take (j + 1) = r.take j ++ [r[j]] from (List.take_append_getElem hjr).symm, List.flatten_append, by_append, show 64 * (j + 1) = 64 * j + 64 by omega]
    simpa using s6
  · rcases f6 b hb with hx | hx
    · exact f5 b hx
    · omega
end
end Go.Proofs.Ytpinpccamfhofaa.Hi
