/-
  The statements ImageRoundTrip and ImageTruncation over the code. No condition beyond those stated.
-/
import Derived.Test.YtpgekajgbkbpkaaImS
namespace Go.Proofs.Ytpgekajgbkbpkaa.Im
open Go Go.Ev Go.Proofs

theorem strs_append (a b : List (List UInt8)) : strs (a ++ b) = strs a ++ strs b := by simp [strs]
theorem okP_take {ps : List Pg} (h : OkP ps) (k : Nat) : OkP (ps.take k) := by
  obtain ⟨hv, hd⟩ := h
  refine ⟨?_, fun p hp => hd p (List.mem_of_mem_take hp)⟩
  unfold validP at hv ⊢
  simp only [Bool.and_eq_true, decide_eq_true_eq] at hv ⊢
  refine ⟨by rw [List.length_take]; omega, ?_⟩
  have key : ∀ (ps : List Pg) (m : Int) (k : Nat), incr m ps = true → incr m (ps.take k) = true := by
    intro ps
    induction ps with
    | nil => intro m k _; simp [incr]
    | cons p r ih =>
      intro m k hk
      cases k with
      | zero => rfl
      | succ k =>
        rw [incr_cons, Bool.and_eq_true] at hk
        rw [List.take_succ_cons, incr_cons, hk.1, ih p.1 k hk.2]
        rfl
  exact key ps _ k hv.2
theorem secs_small {g : Nat} {bd : List UInt8} {ps : List Pg} (h : OkP ps) (h6 : ps.length ≤ 6) : (secs g bd ps).length ≤ 27 := by
  have := bodyOf_le h.2
  unfold secs
  rw [List.length_cons, cuts_count]
  have : padn (bodyOf ps).length < 64 := Nat.mod_lt _ (by omega)
  omega
/-- Without its last sector, an image is too short. -/
theorem decI_short {g : Nat} {bd : List UInt8} {ps : List Pg} (hb : bd.length = 32) (hg : g < 18446744073709551616) (h : OkP ps) (h1 : (secs g bd ps).length ≠ 1) : decI ((secs g bd ps).take ((secs g bd ps).length - 1)) = .inl 4 := by
  have hbl := body_lt h
  have hcr := (crc (bodyOf ps)).isLt
  obtain ⟨f1, f2, f3, f4⟩ := hdr_fields (g := g) (n := (bodyOf ps).length) (s := (crc (bodyOf ps)).toNat) hb hg (by omega) (by omega)
  have hH := decH_hdr (g := g) (n := (bodyOf ps).length) (s := (crc (bodyOf ps)).toNat) hb hg (by omega) (by omega)
  have hall : ∀ s ∈ (secs g bd ps).take ((secs g bd ps).length - 1), s.length = 64 := fun s hs => secs_len hb ps s (List.mem_of_mem_take hs)
  have hcl : (secs g bd ps).length = (cuts (bodyOf ps)).length + 1 := by unfold secs; rw [List.length_cons]
  have hcount := cuts_count (bodyOf ps)
  have hpm := pad_mod (bodyOf ps)
  have hpl : padn (bodyOf ps).length < 64 := Nat.mod_lt _ (by omega)
  rw [pad_length] at hpm
  have hp0 : 0 < (secs g bd ps).length := by rw [hcl]; omega
  obtain ⟨k, hk⟩ : ∃ k, (secs g bd ps).length - 1 = k + 1 := ⟨(secs g bd ps).length - 2, by omega⟩
  rw [hk] at hall ⊢
  unfold secs at hall ⊢
  rw [List.take_succ_cons] at hall ⊢
  unfold decI
  dsimp only
  rw [if_neg (by simpa using hall), if_neg (by rw [hH]; simp), f3, if_pos (by rw [List.length_take]; omega)]

section
variable {U w : World} {Q : Value → World → Prop}

theorem roundTrip_k14 {ib sb k c ic : Nat} {g : Nat} {bd : List UInt8} {ps : List Pg} {pa : Option Addr} {more : List (List UInt8)} (hbd : bd.length = 32) (hg : g < 18446744073709551616) (hok : OkP ps) (h6 : ps.length ≤ 6) (hm : ∀ s ∈ more, s.length = 64) (hml : more.length ≤ 6)
    (hi : At w ib (imgC bd g pa ps.length ic) 45) (hs : Sl w 52 2 pa ps.length ic (ps.flatMap pgC)) (hss : Sl w 9 1 (some ⟨sb, 0, none⟩) k c (strs (secs g bd ps ++ more))) (e0 : Ext U w (fun _ => False)) (hQ : ∀ w', Ext U w' (fun _ => False) → Q (.bool true) w') :
    W.law34_ImageRoundTrip_k14 ⟨ib, 0, none⟩ (some ⟨sb, 0, none⟩) k c 0 w Q := by
  unfold W.law34_ImageRoundTrip_k14
  have hsl := secs_small (g := g) (bd := bd) hok h6
  obtain ⟨sp, atS, hl, _, hnc⟩ := hss.at_
  rw [strs_length, List.length_append, Nat.mul_one] at hl
  have hdec := decI_secs hbd hg hok hm
  refine decode_c hss.reads (by rw [List.length_append]; omega) hnc atS.lt (by omega) (fun e he => by rw [hdec] at he; cases he) fun bd' g' ps' hi' a2 c2 w2 s2 f2 e2 => ⟨_, _, rfl, ?_⟩
  rw [hdec] at hi'
  cases hi'
  refine al_st 34 (imgC_length hbd) (imgC_one _ _ _ _ _) fun xb w3 hxb a3 e3 z3 => ?_
  refine br_pos rfl (br_pos rfl ?_)
  refine ld_w a3 (fg ?_) (hs := by rw [imgC_length hbd]; kernel_rfl)
  have e03 := e2.tr e3
  refine ld_w (hi.ext e03 (fun h => h)) (fg ?_) (hs := by rw [imgC_length hbd]; kernel_rfl)
  refine equalImg_c hbd hbd (s2.ext e3 (fun _ _ h => h)).reads (hs.ext e03 (fun _ _ h => h)).reads rfl rfl (by omega) fun w4 e4 => fb ?_
  refine br_pos (by simp) ?_
  exact awake_fin ((e0.tr e03).tr e4) hQ

theorem roundTrip_k10 {ib sb k c ic jb : Nat} {g : Nat} {bd : List UInt8} {ps : List Pg} {pa : Option Addr} {x : UInt8} {mo : Int} (hbd : bd.length = 32) (hg : g < 18446744073709551616) (hok : OkP ps) (h6 : ps.length ≤ 6)
    (hi : At w ib (imgC bd g pa ps.length ic) 45) (hs : Sl w 52 2 pa ps.length ic (ps.flatMap pgC)) (hss : Sl w 9 1 (some ⟨sb, 0, none⟩) k c (strs (secs g bd ps))) (hj : At w jb (by_ (List.replicate 64 x)) 5)
    (hU : U.heap.size ≤ sb) (h1 : sb ≠ ib) (h2 : sb ≠ jb) (h3 : ∀ b, pa = some ⟨b, 0, none⟩ → sb ≠ b) (e0 : Ext U w (fun _ => False)) (hQ : ∀ w', Ext U w' (fun _ => False) → Q (.bool true) w') :
    W.law34_ImageRoundTrip_k10 mo ⟨ib, 0, none⟩ (some ⟨sb, 0, none⟩) k c 0 (some ⟨jb, 0, none⟩) 64 64 w Q := by
  unfold W.law34_ImageRoundTrip_k10
  refine mod_c (by omega) (by omega) (fi ?_)
  have hmb := modv_bd (v := mo) (n := 6) (by omega)
  obtain ⟨m, hm⟩ := nat_of hmb.1
  rw [hm] at hmb ⊢
  have hlib := hi.lt
  have hljb := hj.lt
  have hpb : ∀ b, pa = some ⟨b, 0, none⟩ → b < w.heap.size := by
    intro b hb
    subst hb
    obtain ⟨sp, ap, _⟩ := hs.at_
    exact ap.lt
  have hsl := secs_small (g := g) (bd := bd) hok h6
  have hk : k = (secs g bd ps).length := by have := hss.len_; rw [strs_length] at this; omega
  refine LoopW.nat m (fun i y w' => ∃ sb' c', y = ((some ⟨sb', 0, none⟩, k + i, c'), (i : Int), ()) ∧ Sl w' 9 1 (some ⟨sb', 0, none⟩) (k + i) c' (strs (secs g bd ps ++ List.replicate i (List.replicate 64 x))) ∧ At w' ib (imgC bd g pa ps.length ic) 45 ∧ Sl w' 52 2 pa ps.length ic (ps.flatMap pgC) ∧ At w' jb (by_ (List.replicate 64 x)) 5 ∧ U.heap.size ≤ sb' ∧ sb' ≠ ib ∧ sb' ≠ jb ∧ (∀ b, pa = some ⟨b, 0, none⟩ → sb' ≠ b) ∧ Ext U w' (fun _ => False))
    ⟨sb, c, rfl, by simpa using hss, hi, hs, hj, hU, h1, h2, h3, e0⟩ ?_
  rintro i y w1 next him ⟨sb1, c1, rfl, s1, i1, p1, j1, u1, n1, n2, n3, e1⟩ hnext
  dsimp only
  by_cases hlt : i < m
  case neg =>
    rw [decide_eq_false (by omega), br_false]
    exact roundTrip_k14 hbd hg hok h6 (more := List.replicate i (List.replicate 64 x)) (fun s hs => by rw [(List.mem_replicate.1 hs).2, List.length_replicate]) (by rw [List.length_replicate]; omega) i1 p1 s1 e1 hQ
  rw [decide_eq_true (by omega), br_true]
  refine bsT j1 (by rw [List.length_replicate]) ?_
  refine al_i fun tb w2 htb a2 e2 z2 => ?_
  refine ap_i 9 1 (vs := strs [List.replicate 64 x]) (s1.ext e2 (fun _ _ h => h)) (.inr ⟨_, rfl, fun k hk => by rw [add_mk, a2.cell, Nat.zero_add]; rfl⟩) rfl (strs_one _) (by omega) fun a3 c3 w3 s3 f3 g3 e3 => fs ?_
  obtain ⟨sb3, sp3, rfl, _⟩ := s3.isome (g3 rfl)
  have hz1 := e1.size
  have hz2 := e2.size
  have li := i1.lt
  have lj := j1.lt
  have lp : ∀ b, pa = some ⟨b, 0, none⟩ → b < w1.heap.size := by
    intro b hb
    subst hb
    obtain ⟨sp, ap, _⟩ := p1.at_
    exact ap.lt
  have hor : sb3 = sb1 ∨ w2.heap.size ≤ sb3 := by
    rcases f3 sb3 rfl with h | h
    · simp only [Option.some.injEq, Addr.mk.injEq, and_true] at h; exact .inl h.symm
    · exact .inr h
  have hx : ∀ b, b ≠ sb1 → ¬ ((some ⟨sb1, 0, none⟩ : Option Addr) = some ⟨b, 0, none⟩) := by
    intro b hb h
    simp only [Option.some.injEq, Addr.mk.injEq, and_true] at h
    exact hb h.symm
  rw [inc_nat (by omega)]
  refine hnext hlt _ _ ⟨sb3, c3, rfl, ?_, (i1.ext e2 (fun h => h)).ext e3 (hx _ (Ne.symm n1)), (p1.ext e2 (fun _ _ h => h)).ext e3 (fun b hb => hx _ (Ne.symm (n3 b hb))), (j1.ext e2 (fun h => h)).ext e3 (hx _ (Ne.symm n2)), by omega, by omega, by omega, fun b hb => ?_, (e1.tr e2).trans e3 (fun _ _ h => h) (fun b hb h => ?_)⟩
  · rw [List.replicate_succ', ← List.append_assoc, strs_append]
    exact s3
  · have := lp b hb
    have := n3 b hb
    omega
  · simp only [Option.some.injEq, Addr.mk.injEq, and_true] at h
    omega

theorem roundTrip_c {bd : List UInt8} {g : Nat} {l : Option Addr} {rn rc : Nat} {rs : List Rw} {mo c : Int} (hbd : bd.length = 32) (hg : g < 18446744073709551616) (hr : Rin w l rn rs) (hc0 : 0 ≤ c) (hc1 : c ≤ 255) (hQ : ∀ w', Ext w w' (fun _ => False) → Q (.bool true) w') :
    CallE Try.prog 8 #[.agg (by_ bd).toArray, .int .u64 (g : Int), .slice l rn rc, .int .i64 mo, .int .u8 c] w Q := by
  obtain ⟨x, rfl⟩ := u8_of hc0 hc1
  apply C.law34_ImageRoundTrip
  unfold W.law34_ImageRoundTrip
  refine al_i fun bb w1 hbb a1 e1 z1 => ?_
  change At w1 bb (by_ bd) 30 at a1
  refine large_c (hr.ext e1) fun b => fb ?_
  refine br_of (fun _ => awake_fin e1 hQ) fun _ => ?_
  refine ld_w a1 (fg ?_) (hs := by rw [by_length, hbd]; kernel_rfl)
  refine some_c (hr.ext e1) hbd fun ps pa pc w2 hok h6 s2 f2 e2 => fg ?_
  refine al_st 34 (imgC_length hbd) (imgC_one _ _ _ _ _) fun ib w3 hib a3 e3 z3 => ?_
  refine ld_w a3 (fg ?_) (hs := by rw [imgC_length hbd]; kernel_rfl)
  have s3 := s2.ext e3 (fun _ _ h => h)
  refine encode_c hbd s3.reads rfl (fun h => absurd hok h) fun _ sb c4 w4 s4 f4 e4 => ⟨_, _, _, _, rfl, ?_⟩
  refine mkB (n := 64) 5 (by omega) fun jb w5 hjb a5 e5 z5 => ?_
  have e05 := (((e1.tr e2).tr e3).tr e4).tr e5
  have hsz3 := ((e1.tr e2).tr e3).size
  have hsz2 := (e1.tr e2).size
  have hl3 := a3.lt
  obtain ⟨sp4, at4, _⟩ := s4.at_
  have hl4 := at4.lt
  have hpb : ∀ b, pa = some ⟨b, 0, none⟩ → b < w2.heap.size := by
    intro b hb
    subst hb
    obtain ⟨sp, ap, _⟩ := s2.at_
    exact ap.lt
  have hi5 := (a3.ext e4 (fun h => h)).ext e5 (fun h => h)
  have hs5 := (s3.ext e4 (fun _ _ h => h)).ext e5 (fun _ _ h => h)
  have hss5 := s4.ext e5 (fun _ _ h => h)
  refine LoopW.nat 64 (fun i y w' => y = ((i : Int), ()) ∧ At w' jb (by_ (List.replicate i x ++ List.replicate (64 - i) 0)) 5 ∧ Ext w5 w' (· = jb)) ⟨rfl, a5, Ext.refl _ _⟩ ?_
  rintro i y w6 next hi ⟨rfl, a6, e6⟩ hnext
  dsimp only
  have hsz4 := e4.size
  by_cases hlt : i < 64
  case neg =>
    rw [decide_eq_false (by omega), br_false]
    obtain rfl : i = 64 := by omega
    rw [Nat.sub_self, List.replicate_zero, List.append_nil] at a6
    have hne : ∀ b, b < w4.heap.size → ¬ b = jb := fun b hb h => by omega
    refine roundTrip_k10 hbd hg hok h6 (hi5.ext e6 (hne _ (by omega))) (hs5.ext e6 (fun b hb => hne b (by have := hpb b hb; have := e3.size; omega))) (hss5.ext e6 (fun b hb => hne b (by simp only [Option.some.injEq, Addr.mk.injEq, and_true] at hb; omega))) a6 (by omega) (by omega) (by omega) (fun b hb => by have := hpb b hb; have := e3.size; omega) (e05.trans e6 (fun _ _ h => h) (fun b hb h => by have := e5.size; omega)) hQ
  rw [decide_eq_true (by omega), br_true]
  refine ixb i 1 5 hlt ?_
  rw [Nat.mul_one]
  refine st_i a6 (by rw [by_length, List.length_append, List.length_replicate, List.length_replicate]; omega) fun w7 a7 e7 z7 => ?_
  rw [inc_nat (by omega)]
  refine hnext hlt _ _ ⟨rfl, ?_, e6.trans e7 (fun _ _ h => h) (fun _ _ h => h)⟩
  obtain ⟨k, hk⟩ : ∃ k, 64 - i = k + 1 := ⟨64 - i - 1, by omega⟩
  rw [hk, List.replicate_succ, by_setx _ _ _ _ _ (by rw [List.length_replicate])] at a7
  rw [List.replicate_succ', show 64 - (i + 1) = k by omega, List.append_assoc]
  exact a7

theorem truncation_c {bd : List UInt8} {l : Option Addr} {rn rc : Nat} {rs : List Rw} (hbd : bd.length = 32) (hr : Rin w l rn rs) (hQ : ∀ w', Ext w w' (fun _ => False) → Q (.bool true) w') :
    CallE Try.prog 10 #[.agg (by_ bd).toArray, .slice l rn rc] w Q := by
  apply C.law34_ImageTruncation
  unfold W.law34_ImageTruncation
  refine al_i fun bb w1 hbb a1 e1 z1 => ?_
  change At w1 bb (by_ bd) 30 at a1
  refine large_c (hr.ext e1) fun b => fb ?_
  refine br_of (fun _ => awake_fin e1 hQ) fun _ => ?_
  refine ld_w a1 (fg ?_) (hs := by rw [by_length, hbd]; kernel_rfl)
  refine some_c (g := 2) (hr.ext e1) hbd fun ps pa pc w2 hok h6 s2 f2 e2 => fg ?_
  refine encode_c hbd s2.reads rfl (fun h => absurd hok h) fun _ sb c4 w4 s4 f4 e4 => ⟨_, _, _, _, rfl, ?_⟩
  refine br_neg rfl ?_
  have hpos : 0 < (secs 2 bd ps).length := by unfold secs; rw [List.length_cons]; omega
  have hsl := secs_small (g := 2) (bd := bd) hok h6
  have hcut := decI_short (g := 2) hbd (by omega) hok
  obtain ⟨sp4, at4, hl4, _, hnc4⟩ := s4.at_
  have hrd := s4.reads.take ((secs 2 bd ps).length - 1)
  have hst : (strs (secs 2 bd ps)).take ((secs 2 bd ps).length - 1) = strs ((secs 2 bd ps).take ((secs 2 bd ps).length - 1)) := by unfold strs; rw [List.map_take]
  rw [hst] at hrd
  refine br_neg (by rw [beq_eq_false_iff_ne]; omega) ?_
  rw [show IntKind.wrap .i64 ((((secs 2 bd ps).length : Nat) : Int) - 1) = (((secs 2 bd ps).length - 1 : Nat) : Int) by rw [wrap_i64 (by omega) (by omega)]; omega]
  refine qL (sl_to 9 (by omega)) ?_
  have e04 := (e1.tr e2).tr e4
  by_cases h1 : (secs 2 bd ps).length = 1
  · rw [h1]
    refine decode_nil fun w5 e5 => ⟨_, _, rfl, ?_⟩
    refine al_st 34 (imgC_length rfl) (imgC_one _ _ _ _ _) fun xb w6 hxb a6 e6 z6 => ?_
    refine br_pos rfl (br_pos rfl ?_)
    exact awake_fin ((e04.tr e5).tr e6) hQ
  · refine decode_c hrd (by rw [List.length_take]; omega) (by omega) at4.lt (by omega) (fun e he w5 e5 => ⟨_, _, rfl, ?_⟩) (fun bd' g' ps' hi' => by rw [hcut h1] at hi'; cases hi')
    rw [hcut h1] at he
    cases he
    refine al_st 34 (imgC_length rfl) (imgC_one _ _ _ _ _) fun xb w6 hxb a6 e6 z6 => ?_
    refine br_neg (by rw [beq_eq_false_iff_ne]; omega) (br_pos rfl ?_)
    exact awake_fin ((e04.tr e5).tr e6) hQ
end
end Go.Proofs.Ytpgekajgbkbpkaa.Im
