/-
  The reference's Encode, and the statement ImageEncodeAgrees over the code. No condition beyond those stated.
-/
import Derived.Test.YtpgekajgbkbpkaaImT
import Derived.Test.YtpgekajgbkbpkaaPzE
namespace Go.Proofs.Ytpgekajgbkbpkaa.Im
open Go Go.Ev Go.Proofs
section
variable {U w : World} {Q : Value → World → Prop}

theorem rencode_k16 {sb : Nat} {l h : List UInt8} (hm : l.length % 64 = 0) (hl : l.length ≤ 500000) (e0 : Ext U w (fun _ => False)) (s0 : Sl w 9 1 (some ⟨sb, 0, none⟩) 1 1 (strs [h])) (hsb : U.heap.size ≤ sb)
    (hQ : ∀ sb c w', Sl w' 9 1 (some ⟨sb, 0, none⟩) (l.length / 64 + 1) c (strs (h :: chunks (l.length / 64) l)) → U.heap.size ≤ sb → Ext U w' (fun _ => False) → Q (.tuple #[.slice (some ⟨sb, 0, none⟩) (l.length / 64 + 1) c, .int .i64 0]) w') :
    W.ref34_Encode_k16 (mkS l) (some ⟨sb, 0, none⟩) 1 1 w Q := by
  unfold W.ref34_Encode_k16
  rw [mkS_size]
  refine LoopW.nat (l.length / 64) (fun j x w' => ∃ sb' c', x = ((some ⟨sb', 0, none⟩, j + 1, c'), ((64 * j : Nat) : Int), ()) ∧ Sl w' 9 1 (some ⟨sb', 0, none⟩) (j + 1) c' (strs (h :: chunks j l)) ∧ U.heap.size ≤ sb' ∧ Ext U w' (fun _ => False))
    ⟨sb, 1, rfl, s0, hsb, e0⟩ ?_
  rintro j x w1 next hj ⟨sb', c', rfl, s1, f1, e1⟩ hnext
  dsimp only
  by_cases hlt : j < l.length / 64
  case neg =>
    rw [decide_eq_false (by omega), br_false]
    obtain rfl : j = l.length / 64 := by omega
    exact hQ sb' c' w1 s1 f1 e1
  rw [decide_eq_true (by omega), br_true]
  rw [show IntKind.wrap .i64 (((64 * j : Nat) : Int) + 64) = ((64 * (j + 1) : Nat) : Int) by rw [wrap_i64 (by omega) (by omega)]; omega]
  refine qT (s_lh (by omega) (by omega) (by omega)) ?_
  have hcut : (l.take ((64 * (j + 1) : Nat) : Int).toNat).drop ((64 * j : Nat) : Int).toNat = (l.drop (64 * j)).take 64 := by
    rw [Int.toNat_natCast, Int.toNat_natCast, List.drop_take]
    congr 1
    omega
  rw [hcut]
  refine al_i fun tb w2 htb a2 e2 z2 => ?_
  refine ap_i 9 1 (vs := strs [(l.drop (64 * j)).take 64]) (s1.ext e2 (fun _ _ h => h)) (.inr ⟨_, rfl, fun k hk => by rw [add_mk, a2.cell, Nat.zero_add]; rfl⟩) rfl (strs_one _) (by omega) fun a3 c3 w3 s3 f3 g3 e3 => fs ?_
  obtain ⟨sb3, sp3, rfl, _⟩ := s3.isome (g3 rfl)
  have hz1 := e1.size
  have hz2 := e2.size
  refine hnext hlt _ _ ⟨sb3, c3, rfl, ?_, ?_, (e1.tr e2).trans e3 (fun _ _ h => h) (fun b hb h => ?_)⟩
  · have : strs (h :: chunks (j + 1) l) = strs (h :: chunks j l) ++ strs [(l.drop (64 * j)).take 64] := by rw [chunks_succ]; simp [strs]
    rw [this]
    exact s3
  · rcases f3 sb3 rfl with hx | hx
    · simp only [Option.some.injEq, Addr.mk.injEq, and_true] at hx; omega
    · omega
  · simp only [Option.some.injEq, Addr.mk.injEq, and_true] at h; omega

theorem rencode_k13 {hb g len s : Nat} {bd l : List UInt8} (hh : At w hb (hdrC g bd len s) 32) (hbd : bd.length = 32) (hlen : len < 4294967296) (hs : s < 4294967296) (e0 : Ext U w (fun _ => False)) (hl : l.length ≤ 400000)
    (hQ : ∀ sb c w', Sl w' 9 1 (some ⟨sb, 0, none⟩) ((hdr g bd len s :: cuts l).length) c (strs (hdr g bd len s :: cuts l)) → U.heap.size ≤ sb → Ext U w' (fun _ => False) → Q (.tuple #[.slice (some ⟨sb, 0, none⟩) ((hdr g bd len s :: cuts l).length) c, .int .i64 0]) w') :
    W.ref34_Encode_k13 (mkS l) ⟨hb, 0, none⟩ w Q := by
  unfold W.ref34_Encode_k13
  refine ld_w hh (fg ?_) (hs := by rw [hdrC_length hbd]; kernel_rfl)
  refine rencodeHeader_c hbd hlen hs fun w1 e1 => ft ?_
  refine al_i fun sb w2 hsb a2 e2 z2 => ?_
  have ss2 : Sl w2 9 1 (some ⟨sb, 0, none⟩) 1 1 (strs [hdr g bd len s]) := Sl.new a2 rfl
  have e02 := (e0.tr e1).tr e2
  have hU : U.heap.size ≤ sb := by have := (e0.tr e1).size; omega
  have hpd : padn l.length < 64 := Nat.mod_lt _ (by omega)
  have hpm := pad_mod l
  rw [pad_length] at hpm
  refine LoopW.nat (padn l.length) (fun j x w' => x = (mkS (l ++ List.replicate j 0), ()) ∧ w' = w2) ⟨by simp, rfl⟩ ?_
  rintro j x w3 next hj ⟨rfl, rfl⟩ hnext
  dsimp only
  rw [mkS_size, List.length_append, List.length_replicate]
  by_cases hlt : j < padn l.length
  case neg =>
    obtain rfl : j = padn l.length := by omega
    rw [show ((Int.tmod (((l.length + padn l.length : Nat)) : Int) 64 : Int) != 0) = false by
      rw [show Int.tmod (((l.length + padn l.length : Nat)) : Int) 64 = (((l.length + padn l.length) % 64 : Nat) : Int) from rfl, hpm]; rfl, br_false]
    refine rencode_k16 (l := pad l) (h := hdr g bd len s) (by rw [pad_length]; exact hpm) (by rw [pad_length]; omega) e02 ss2 hU fun sb' c' w' s' f' e' => ?_
    have hcl : (hdr g bd len s :: cuts l).length = (pad l).length / 64 + 1 := by unfold cuts; rw [List.length_cons, chunks_length]
    have := hQ sb' c' w'
    rw [hcl] at this
    exact this s' f' e'
  have hnz : (l.length + j) % 64 ≠ 0 := by unfold padn at hlt; omega
  rw [show ((Int.tmod (((l.length + j : Nat)) : Int) 64 : Int) != 0) = true by
      rw [bne_iff_ne, show Int.tmod (((l.length + j : Nat)) : Int) 64 = (((l.length + j) % 64 : Nat) : Int) from rfl]; omega, br_true]
  refine qT (s_add (b := [0]) (by rw [List.length_append, List.length_replicate]; show _ + 1 < _; omega)) ?_
  refine hnext hlt _ _ ⟨?_, rfl⟩
  rw [List.append_assoc, ← List.replicate_succ']

theorem rencode_k12 {pa : Option Addr} {ib g pn pc : Nat} {bd l : List UInt8} (hi : At w ib (imgC bd g pa pn pc) 45) (hbd : bd.length = 32) (e0 : Ext U w (fun _ => False)) (hl : l.length ≤ 400000)
    (hQ : ∀ sb c w', Sl w' 9 1 (some ⟨sb, 0, none⟩) ((hdr g bd l.length (crc l).toNat :: cuts l).length) c (strs (hdr g bd l.length (crc l).toNat :: cuts l)) → U.heap.size ≤ sb → Ext U w' (fun _ => False) → Q (.tuple #[.slice (some ⟨sb, 0, none⟩) ((hdr g bd l.length (crc l).toNat :: cuts l).length) c, .int .i64 0]) w') :
    W.ref34_Encode_k12 ⟨ib, 0, none⟩ (mkS l) w Q := by
  unfold W.ref34_Encode_k12
  simp only [add_mk, Nat.zero_add]
  have hcr := (crc l).isLt
  refine ⟨fun w' => At w' ib (imgC bd g pa pn pc) 45, hi.drew_, ?_⟩
  refine ldS_i (fun _ h => h) (imgC_32 hbd) (fi ?_)
  refine ldS_cs (vs := by_ bd) (fun w' h j hj => ?_) (fg ?_) (hs := by rw [by_length, hbd]; kernel_rfl)
  · rw [add_mk, Nat.zero_add, h.cell]
    unfold imgC
    rw [List.getElem?_append_left hj]
  have hz : (zeroT Try.prog 32).cells.toList = hdrC 0 zb 0 0 := by kernel_rfl
  rw [mkS_size, wrap_32 (by omega)]
  have ed : Ext U (drew w) (fun _ => False) := e0.drew_
  have hlt := hi.lt
  refine ⟨?_, ?_⟩
  · refine rchecksum_c (by omega) (fi ⟨hi.drew_, ?_⟩)
    refine rqS_r (buildH hbd) (fg ?_)
    refine al_i fun hb w2 hhb a2 e2 z2 => ?_
    rw [hz] at a2
    have hi2 := hi.drew_.ext e2 (fun h => h)
    have hsz := ed.size
    have hlt' : ib < (drew w).heap.size := hlt
    refine ⟨hi2, ?_⟩
    refine st_w 35 a2 (hdrC_length rfl) (hdrC_length hbd) (hdrC_one _ _ _ _) fun w3 a3 e3 z3 => ⟨hi2.ext e3 (by omega), ?_⟩
    exact rencode_k13 a3 hbd (by omega) hcr ((ed.tr e2).trans e3 (fun _ _ h => h) (fun b hb h => by omega)) hl hQ
  · refine al_i fun hb w2 hhb a2 e2 z2 => ?_
    rw [hz] at a2
    have hi2 := hi.drew_.ext e2 (fun h => h)
    have hsz := ed.size
    have hlt' : ib < (drew w).heap.size := hlt
    refine ⟨hi2, ?_⟩
    refine rchecksum_c (by omega) (fi ⟨hi2, ?_⟩)
    refine rqS_r (buildH hbd) (fg ?_)
    refine st_w 35 a2 (hdrC_length rfl) (hdrC_length hbd) (hdrC_one _ _ _ _) fun w3 a3 e3 z3 => ⟨hi2.ext e3 (by omega), ?_⟩
    exact rencode_k13 a3 hbd (by omega) hcr ((ed.tr e2).trans e3 (fun _ _ h => h) (fun b hb h => by omega)) hl hQ

/-- The reference's Encode. -/
theorem rencode_c {bd : List UInt8} {g : Nat} {pa : Option Addr} {n c : Nat} {ps : List Pg} (hbd : bd.length = 32) (h : Reads w pa (ps.flatMap pgC)) (hn : ps.length = n)
    (h0 : ¬ OkP ps → ∀ w', Ext w w' (fun _ => False) → Q (.tuple #[.slice none 0 0, .int .i64 1]) w')
    (h1 : OkP ps → ∀ sb c' w', Sl w' 9 1 (some ⟨sb, 0, none⟩) (secs g bd ps).length c' (strs (secs g bd ps)) → w.heap.size ≤ sb → Ext w w' (fun _ => False) → Q (.tuple #[.slice (some ⟨sb, 0, none⟩) (secs g bd ps).length c', .int .i64 0]) w') :
    CallE Try.prog 23 #[.agg (imgC bd g pa n c).toArray] w Q := by
  apply C.ref34_Encode
  unfold W.ref34_Encode
  subst hn
  refine al_i fun ib w1 hib a1 e1 z1 => ?_
  change At w1 ib (imgC bd g pa ps.length c) 45 at a1
  simp only [add_mk, Nat.zero_add]
  refine ldL a1 (imgC_33 hbd) ?_
  have hval : OkP ps ↔ (ps.length ≤ 512 ∧ incr (-1) ps = true) ∧ ∀ p ∈ ps, p.2.length = 256 := by
    unfold OkP validP
    simp only [Bool.and_eq_true, decide_eq_true_eq]
  by_cases h5 : ps.length ≤ 512
  case neg =>
    rw [decide_eq_true (by omega), br_true]
    exact h0 (fun hc => h5 (hval.1 hc).1.1) w1 e1
  rw [decide_eq_false (by omega), br_false]
  refine LoopW.nat ps.length (fun i x w' => x = (mkS (bodyOf (ps.take i)), (i : Int), ()) ∧ Ext w1 w' (fun _ => False) ∧ incr (-1) ps = incr (prev ps i) (ps.drop i) ∧ ∀ p ∈ ps.take i, p.2.length = 256)
    ⟨rfl, Ext.refl _ _, rfl, by simp⟩ ?_
  rintro i x w3 next hi ⟨rfl, e3, hv, hd3⟩ hnext
  dsimp only
  have a3 := a1.ext e3 (fun h => h)
  refine ldL a3 (imgC_33 hbd) ?_
  have hle := bodyOf_le hd3
  have htl : (ps.take i).length ≤ 512 := by rw [List.length_take]; omega
  by_cases hlt : i < ps.length
  case neg =>
    rw [decide_eq_false (by omega), br_false]
    obtain rfl : i = ps.length := by omega
    rw [List.take_length] at *
    rw [List.drop_length] at hv
    have hok : OkP ps := hval.2 ⟨⟨h5, hv⟩, hd3⟩
    refine rencode_k12 a3 hbd (e1.tr e3) (by omega) fun sb c' w' s' f' e' => ?_
    exact h1 hok sb c' w' s' f' e'
  rw [decide_eq_true (by omega), br_true]
  refine ldL a3 (imgC_33 hbd) ?_
  have hr3 := h.ext (e1.tr e3) (fun _ _ _ h => h)
  have hl0 : 0 < (ps.flatMap pgC).length := by rw [flat_length pgC_length]; omega
  obtain ⟨p, rfl⟩ := hr3.some_ hl0
  refine ixs i 2 52 hlt ?_
  refine rdG i hlt hr3 pgC_length (by omega) (fg ?_)
  refine al_st 2 (pgC_length _) (pgC_one _) fun vb w4 hvb a4 e4 z4 => ?_
  unfold dr
  simp only [add_mk, Nat.zero_add]
  have e4' := e4.drew_
  have a4' := a4.drew_
  have e34 := e3.tr e4'
  have bad : ¬ OkP ps → Q (.tuple #[.slice none 0 0, .int .i64 1]) (drew w4) := fun hc => h0 hc _ (e1.tr e34)
  have hv' : (decide (0 ≤ ps[i].1) && decide (ps[i].1 ≤ 2147483647) && decide (prev ps i < ps[i].1)) = false → ¬ OkP ps := by
    intro hb hc
    have := (hval.1 hc).1.2
    rw [hv, List.drop_eq_getElem_cons hlt, incr_cons, hb] at this
    cases this
  have hv2 : (decide (0 ≤ ps[i].1) && decide (ps[i].1 ≤ 2147483647) && decide (prev ps i < ps[i].1)) = true → incr (-1) ps = incr (prev ps (i + 1)) (ps.drop (i + 1)) := by
    intro hb
    rw [hv, List.drop_eq_getElem_cons hlt, incr_cons, hb, Bool.true_and]
    have : prev ps (i + 1) = ps[i].1 := by simp [prev, List.getD_eq_getElem?_getD, List.getElem?_eq_getElem hlt]
    rw [this]
  refine ldT (w := drew w4) a4' rfl ?_
  rw [mkS_size]
  by_cases h256 : ps[i].2.length = 256
  case neg =>
    rw [show ((((ps[i].2.length : Nat) : Int) : Int) != 256) = true by rw [bne_iff_ne]; omega, br_true]
    exact bad (fun hc => h256 (hc.2 _ (List.getElem_mem hlt)))
  rw [show ((((ps[i].2.length : Nat) : Int) : Int) != 256) = false by rw [h256]; rfl, br_false]
  refine ldI (w := drew w4) a4' rfl ?_
  by_cases c1 : ps[i].1 < 0
  · rw [decide_eq_true c1, br_true]
    exact bad (hv' (by rw [decide_eq_false (by omega)]; rfl))
  rw [decide_eq_false c1, br_false]
  refine ldI (w := drew w4) a4' rfl ?_
  by_cases c2 : ps[i].1 > 2147483647
  · rw [decide_eq_true c2, br_true]
    exact bad (hv' (by rw [decide_eq_true (by omega), decide_eq_false (by omega)]; rfl))
  rw [decide_eq_false c2, br_false]
  have hcl := Pz.comp_length h256
  have go : prev ps i < ps[i].1 → W.ref34_Encode_k10 ⟨ib, 0, none⟩ (mkS (bodyOf (ps.take i))) (i : Int) ⟨vb, 0, none⟩ next (drew w4) Q := by
    intro hpr
    unfold W.ref34_Encode_k10
    simp only [add_mk, Nat.zero_add]
    refine ldT (w := drew w4) a4' rfl ?_
    refine Pz.refCompress_c h256 fun w5 e5 => ⟨_, _, rfl, ?_⟩
    refine ldI (a4'.ext e5 (fun h => h)) rfl ?_
    rw [mkS_size, show IntKind.wrap .u64 ps[i].1 = ((ps[i].1.toNat : Nat) : Int) by rw [wrap_u64 (by omega) (by omega)]; omega, wrap_64 (n := (Pz.comp ps[i].2).length) (by omega)]
    refine little_c (v := ps[i].1.toNat) (k := 4) (by omega) fun w6 e6 => ft ?_
    refine qT (s_add (by rw [le_length]; omega)) ?_
    refine little_c (v := (Pz.comp ps[i].2).length) (k := 2) (by omega) fun w7 e7 => ft ?_
    refine qT (s_add (by simp only [List.length_append, le_length]; omega)) ?_
    refine qT (s_add (by simp only [List.length_append, le_length]; omega)) ?_
    have htk : ps.take (i + 1) = ps.take i ++ [ps[i]] := (List.take_append_getElem hlt).symm
    have hbo : bodyOf (ps.take (i + 1)) = bodyOf (ps.take i) ++ le ps[i].1.toNat 4 ++ le (Pz.comp ps[i].2).length 2 ++ Pz.comp ps[i].2 := by rw [htk, bodyOf_snoc]; simp [pgB]
    rw [inc_nat (by omega)]
    refine hnext hlt _ _ ⟨by rw [hbo], (e34.tr e5).tr (e6.tr e7), hv2 ?_, fun q hq => ?_⟩
    · rw [decide_eq_true (by omega), decide_eq_true (by omega), decide_eq_true hpr]; rfl
    · rw [htk] at hq
      rcases List.mem_append.1 hq with hq | hq
      · exact hd3 q hq
      · rw [List.mem_singleton.1 hq]; exact h256
  by_cases c3 : i = 0
  · subst c3
    rw [decide_eq_false (by omega), br_false]
    exact go (by show -1 < _; omega)
  rw [decide_eq_true (by omega), br_true]
  refine ldI (w := drew w4) a4' rfl ?_
  refine ldL (w := drew w4) (a1.ext e34 (fun h => h)) (imgC_33 hbd) ?_
  obtain ⟨k, rfl⟩ : ∃ k, i = k + 1 := ⟨i - 1, by omega⟩
  rw [show IntKind.wrap .i64 (((k + 1 : Nat) : Int) - 1) = ((k : Nat) : Int) by rw [wrap_i64 (by omega) (by omega)]; omega]
  refine ixs k 2 52 (by omega) ?_
  refine rdF (o := 0) k (by omega) (hr3.ext e4' (fun _ _ _ h => h)) pgC_length (by omega) rfl (fi ?_)
  have hpk : prev ps (k + 1) = (ps[k]'(by omega)).1 := by simp [prev, List.getD_eq_getElem?_getD, List.getElem?_eq_getElem (show k < ps.length by omega)]
  by_cases c4 : ps[k + 1].1 ≤ (ps[k]'(by omega)).1
  · rw [decide_eq_true c4, br_true]
    exact bad (hv' (by rw [hpk, decide_eq_false (p := (ps[k]'(by omega)).1 < ps[k + 1].1) (by omega), Bool.and_false]))
  rw [decide_eq_false c4, br_false]
  exact go (by rw [hpk]; omega)

/-- Two lists of strings compared. -/
theorem equalStrs_c {pa qa : Option Addr} {n c m d : Nat} {ps qs : List (List UInt8)} (hp : Reads w pa (strs ps)) (hq : Reads w qa (strs qs)) (hn : ps.length = n) (hm : qs.length = m) (hb : n ≤ 1000000) (hQ : ∀ w', Ext w w' (fun _ => False) → Q (.bool (decide (ps = qs))) w') :
    CallE Try.prog 24 #[.slice pa n c, .slice qa m d] w Q := by
  subst hn hm
  apply C.help_Equal_string_
  unfold W.help_Equal_string_
  by_cases hl : ps.length = qs.length
  case neg =>
    rw [show ((((ps.length : Nat) : Int) : Int) != ((qs.length : Nat) : Int)) = true by rw [bne_iff_ne]; omega, br_true]
    have := hQ w (Ext.refl _ _)
    rw [decide_eq_false (fun hc => hl (by rw [hc]))] at this
    exact this
  rw [show ((((ps.length : Nat) : Int) : Int) != ((qs.length : Nat) : Int)) = false by rw [hl]; simp, br_false]
  have hget : ∀ (l : List (List UInt8)) (i : Nat) (hi : i < l.length), (strs l)[i * 1]? = some (.string (mkS l[i])) := by
    intro l i hi
    unfold strs
    rw [Nat.mul_one, List.getElem?_map, List.getElem?_eq_getElem hi]
    rfl
  refine LoopW.nat ps.length (fun i x w' => x = ((i : Int), ()) ∧ Ext w w' (fun _ => False) ∧ ps.take i = qs.take i) ⟨rfl, Ext.refl _ _, rfl⟩ ?_
  rintro i x w1 next hi ⟨rfl, e1, ht⟩ hnext
  dsimp only
  by_cases hlt : i < ps.length
  case neg =>
    rw [decide_eq_false (by omega), br_false]
    have := hQ w1 e1
    rw [List.take_of_length_le (by omega), List.take_of_length_le (by omega)] at ht
    rw [decide_eq_true ht] at this
    exact this
  rw [decide_eq_true (by omega), br_true]
  unfold dr
  dsimp only
  have e1' := e1.drew_
  have hp1 := hp.ext e1' (fun _ _ _ h => h)
  have hq1 := hq.ext e1' (fun _ _ _ h => h)
  obtain ⟨p, rfl⟩ := hp1.some_ (by rw [strs_length]; omega)
  obtain ⟨q, rfl⟩ := hq1.some_ (by rw [strs_length]; omega)
  refine ixs i 1 9 hlt ?_
  refine rdL hp1 (hget ps i hlt) (ft ?_)
  refine ixs i 1 9 (by omega) ?_
  refine rdL hq1 (hget qs i (by omega)) (ft ?_)
  refine qB s_ne ?_
  have hts := take_succ_eq hlt (show i < qs.length by omega) ht
  by_cases hpq : ps[i] = qs[i]'(by omega)
  · rw [decide_eq_true hpq, Bool.not_true, br_false, inc_nat (by omega)]
    exact hnext hlt _ _ ⟨rfl, e1', hts.1 hpq⟩
  · rw [decide_eq_false hpq, Bool.not_false, br_true]
    have := hQ _ e1'
    rw [decide_eq_false (fun hc => hpq (hts.2 (by rw [hc])))] at this
    exact this

theorem encodeAgrees_k16 {bd : List UInt8} {g n c ib : Nat} {pa : Option Addr} {ps : List Pg} (hbd : bd.length = 32) (h6 : ps.length ≤ 6) (hi : At w ib (imgC bd g pa n c) 45) (h : Reads w pa (ps.flatMap pgC)) (hn : ps.length = n) (e0 : Ext U w (fun _ => False)) (hQ : ∀ w', Ext U w' (fun _ => False) → Q (.bool true) w') :
    W.law34_ImageEncodeAgrees_k16 ⟨ib, 0, none⟩ w Q := by
  unfold W.law34_ImageEncodeAgrees_k16
  refine ld_w hi (fg ?_) (hs := by rw [imgC_length hbd]; kernel_rfl)
  by_cases hok : OkP ps
  · refine encode_c hbd h hn (fun h => absurd hok h) fun _ sb c1 w1 s1 f1 e1 => ⟨_, _, _, _, rfl, ?_⟩
    refine ld_w (hi.ext e1 (fun h => h)) (fg ?_) (hs := by rw [imgC_length hbd]; kernel_rfl)
    refine rencode_c hbd (h.ext e1 (fun _ _ _ h => h)) hn (fun h => absurd hok h) fun _ sb2 c2 w2 s2 f2 e2 => ⟨_, _, _, _, rfl, ?_⟩
    refine br_pos rfl ?_
    refine equalStrs_c (s1.ext e2 (fun _ _ h => h)).reads s2.reads rfl rfl (by have := secs_small (g := g) (bd := bd) hok h6; omega) fun w3 e3 => fb ?_
    refine br_pos (by simp) ?_
    exact awake_fin (((e0.tr e1).tr e2).tr e3) hQ
  · refine encode_c hbd h hn (fun _ w1 e1 => ⟨_, _, _, _, rfl, ?_⟩) (fun h => absurd h hok)
    refine ld_w (hi.ext e1 (fun h => h)) (fg ?_) (hs := by rw [imgC_length hbd]; kernel_rfl)
    refine rencode_c hbd (h.ext e1 (fun _ _ _ h => h)) hn (fun _ w2 e2 => ⟨_, _, _, _, rfl, ?_⟩) (fun h => absurd h hok)
    refine br_pos rfl ?_
    refine equalStrs_c (ps := []) (qs := []) (.inl rfl) (.inl rfl) rfl rfl (by omega) fun w3 e3 => fb ?_
    refine br_pos (by simp) ?_
    exact awake_fin (((e0.tr e1).tr e2).tr e3) hQ
theorem pgC_set0 (p : Pg) (m : Int) : (pgC p).set 0 (.int .i64 m) = pgC (m, p.2) := rfl
theorem pgC_set1 (p : Pg) (l : List UInt8) : (pgC p).set 1 (.string (mkS l)) = pgC (p.1, l) := rfl

theorem encodeAgrees_k2 {bd : List UInt8} {g bb : Nat} {l : Option Addr} {rn rc : Nat} {rs : List Rw} {k n how : Int} {data : List UInt8} {b : Bool} (hbd : bd.length = 32) (hr : Rin w l rn rs) (hb : At w bb (by_ bd) 30) (e0 : Ext U w (fun _ => False)) (hQ : ∀ w', Ext U w' (fun _ => False) → Q (.bool true) w') :
    W.law34_ImageEncodeAgrees_k2 (g : Int) l rn rc k n (mkS data) how ⟨bb, 0, none⟩ b w Q := by
  unfold W.law34_ImageEncodeAgrees_k2
  refine br_of (fun _ => awake_fin e0 hQ) fun _ => ?_
  refine ld_w hb (fg ?_) (hs := by rw [by_length, hbd]; kernel_rfl)
  refine some_c hr hbd fun ps pa pc w2 hok h6 s2 f2 e2 => fg ?_
  refine al_st 34 (imgC_length hbd) (imgC_one _ _ _ _ _) fun ib w3 hib a3 e3 z3 => ?_
  refine ld_w a3 (fg ?_) (hs := by rw [imgC_length hbd]; kernel_rfl)
  have s3 := s2.ext e3 (fun _ _ h => h)
  refine encode_c hbd s3.reads rfl (fun h => absurd hok h) fun _ sb c4 w4 s4 f4 e4 => ⟨_, _, _, _, rfl, ?_⟩
  refine ld_w (a3.ext e4 (fun h => h)) (fg ?_) (hs := by rw [imgC_length hbd]; kernel_rfl)
  have s34 := s3.ext e4 (fun _ _ h => h)
  refine rencode_c hbd s34.reads rfl (fun h => absurd hok h) fun _ sb5 c5 w5 s5 f5 e5 => ⟨_, _, _, _, rfl, ?_⟩
  refine br_neg rfl ?_
  refine equalStrs_c (s4.ext e5 (fun _ _ h => h)).reads s5.reads rfl rfl (by have := secs_small (g := g) (bd := bd) hok h6; omega) fun w6 e6 => fb ?_
  refine br_neg (by simp) ?_
  simp only [add_mk, Nat.zero_add]
  have e36 := (e4.tr e5).tr e6
  have a6 := a3.ext e36 (fun h => h)
  have s6 := s3.ext e36 (fun _ _ h => h)
  have e06 := (e0.tr (e2.tr e3)).tr e36
  have hsz2 := (e0.tr e2).size
  have hsz02 := e0.size
  refine ldL a6 (imgC_33 hbd) ?_
  by_cases hz : ps.length = 0
  · rw [decide_eq_false (by omega), br_false]
    exact encodeAgrees_k16 hbd h6 a6 s6.reads rfl e06 hQ
  rw [decide_eq_true (by omega), br_true]
  refine ldL a6 (imgC_33 hbd) ?_
  refine mod_c (by omega) (by omega) (fi ?_)
  have hmb := modv_bd (v := k) (n := ((ps.length : Nat) : Int)) (by omega)
  obtain ⟨p, hp⟩ := nat_of hmb.1
  rw [hp] at hmb ⊢
  have hpl : p < ps.length := by omega
  obtain ⟨pb, rfl⟩ := s6.one_block (by omega)
  obtain ⟨sp6, at6, _⟩ := s6.at_
  have hpb := f2 pb rfl
  have hne : ib ≠ pb := by
    obtain ⟨spx, atx, _⟩ := s2.at_
    have := atx.lt
    omega
  -- a page is changed
  have fin : ∀ (w7 w8 : World) (q : Pg), Ext w6 w7 (fun _ => False) → Sl w8 52 2 (some ⟨pb, 0, none⟩) ps.length pc ((ps.set p q).flatMap pgC) → Ext w7 w8 (· = pb) → W.law34_ImageEncodeAgrees_k16 ⟨ib, 0, none⟩ w8 Q := by
    intro w7 w8 q e7 s8 e8
    refine encodeAgrees_k16 (ps := ps.set p q) hbd (by rw [List.length_set]; exact h6) ((a6.ext e7 (fun h => h)).ext e8 hne) s8.reads (by rw [List.length_set]) ((e06.tr e7).trans e8 (fun _ _ h => h) (fun b hb h => by omega)) hQ
  have fl : (ps.flatMap pgC).length = ps.length * 2 := flat_length pgC_length ps
  by_cases hh0 : Int.tmod how 3 = 0
  · rw [hh0]
    refine br_pos rfl ?_
    refine ldL a6 (imgC_33 hbd) ?_
    refine ixb p 2 52 hpl ?_
    rw [add_mk]
    refine slS s6 (by rw [fl]; omega) fun w8 s8 e8 z8 => ?_
    rw [flat_set pgC_length (.int .i64 n) (n, ps[p].2) ps p 0 hpl (by omega) rfl] at s8
    exact fin w6 w8 _ (Ext.refl _ _) s8 e8
  refine br_neg (by rw [beq_eq_false_iff_ne]; exact hh0) ?_
  by_cases hh1 : Int.tmod how 3 = 1
  · rw [hh1]
    refine br_pos rfl ?_
    refine ldL a6 (imgC_33 hbd) ?_
    refine ixb p 2 52 hpl ?_
    rw [add_mk]
    refine slS s6 (by rw [fl]; omega) fun w8 s8 e8 z8 => ?_
    rw [flat_set pgC_length (.string (mkS data)) (ps[p].1, data) ps p 1 hpl (by omega) rfl] at s8
    exact fin w6 w8 _ (Ext.refl _ _) s8 e8
  refine br_neg (by rw [beq_eq_false_iff_ne]; exact hh1) ?_
  refine ⟨fun w' => At w' ib (imgC bd g (some ⟨pb, 0, none⟩) ps.length pc) 45, a6.drew_, ?_⟩
  refine ldS_i (fun _ h => h) (imgC_33 hbd) (fs ?_)
  refine mod_c (w := drew w6) (by omega) (by omega) (fi ⟨a6.drew_, ?_⟩)
  refine ixbS p 2 52 hpl ?_
  rw [add_mk]
  have ed : Ext w6 (drew w6) (fun _ => False) := (Ext.refl w6 _).drew_
  refine slS (s6.ext ed (fun _ _ h => h)) (by rw [fl]; omega) fun w8 s8 e8 z8 => ⟨a6.drew_.ext e8 hne, ?_⟩
  rw [flat_set pgC_length (.int .i64 (modv n 4)) (modv n 4, ps[p].2) ps p 0 hpl (by omega) rfl] at s8
  exact fin (drew w6) w8 _ ed s8 e8

theorem encodeAgrees_c {bd : List UInt8} {g : Nat} {l : Option Addr} {rn rc : Nat} {rs : List Rw} {k n how : Int} {data : List UInt8} (hbd : bd.length = 32) (hr : Rin w l rn rs) (hQ : ∀ w', Ext w w' (fun _ => False) → Q (.bool true) w') :
    CallE Try.prog 7 #[.agg (by_ bd).toArray, .int .u64 (g : Int), .slice l rn rc, .int .i64 k, .int .i64 n, .string (mkS data), .int .u8 how] w Q := by
  apply C.law34_ImageEncodeAgrees
  unfold W.law34_ImageEncodeAgrees
  refine al_i fun bb w1 hbb a1 e1 z1 => ?_
  change At w1 bb (by_ bd) 30 at a1
  refine large_c (hr.ext e1) fun b => fb ?_
  refine br_of (fun _ => encodeAgrees_k2 hbd (hr.ext e1) a1 e1 hQ) fun _ => encodeAgrees_k2 hbd (hr.ext e1) a1 e1 hQ
end
end Go.Proofs.Ytpgekajgbkbpkaa.Im
