/-
  An image with its pages: what Encode returns, its second half. No condition beyond those stated.
-/
import Derived.Test.YtpgekajgbkbpkaaImG
namespace Go.Proofs.Ytpgekajgbkbpkaa.Im
open Go Go.Ev Go.Proofs

theorem by_rep (l : List UInt8) (k : Nat) : by_ (l ++ List.replicate k 0) ++ by_ [0] = by_ (l ++ List.replicate (k + 1) 0) := by
  rw [← by_append, List.append_assoc, ← List.replicate_succ']
theorem splice_end {cs : List Value} {v x : Value} {o : Nat} {r : List Value} (h : cs.length = o) : splice (cs ++ x :: r) o [v] = cs ++ v :: r := by
  subst h
  show (cs ++ x :: r).set cs.length v = _
  rw [List.set_append_right _ _ (Nat.le_refl _), Nat.sub_self]
  rfl
theorem buildH {g n s : Nat} {bd : List UInt8} (hbd : bd.length = 32) : ∀ w, (Instr.build 32 #[(0, .int .u64 (g : Int)), (1, .agg (by_ bd).toArray), (2, .int .u32 (n : Int)), (3, .int .u32 (s : Int))]).run Try.prog w = .ok (.agg (hdrC g bd n s).toArray) w := by
  refine bld_run (structFs Try.prog 32) #[(0, 1), (1, 32), (33, 1), (34, 1)] (zeroT Try.prog 32) (hdrC 0 zb 0 0) (by kernel_rfl) (by kernel_rfl) (by kernel_rfl) (by kernel_rfl) ?_
  have l1 : ∀ g' n' s', (hdrC g' zb n' s').length = 35 := fun _ _ _ => hdrC_length rfl
  have l2 : ∀ g' n' s', (hdrC g' bd n' s').length = 35 := fun _ _ _ => hdrC_length hbd
  rw [fill_cons 0 [.int .u64 (g : Int)] rfl rfl (by rw [l1]; show 0 + 1 ≤ 35; omega)]
  rw [show splice (hdrC 0 zb 0 0) 0 [.int .u64 (g : Int)] = hdrC g zb 0 0 from rfl]
  rw [fill_cons 1 (by_ bd) (by rw [by_length, hbd]; rfl) rfl (by rw [l1, by_length, hbd]; omega), splice_hdr hbd]
  have s3 : splice (hdrC g bd 0 0) 33 [.int .u32 (n : Int)] = hdrC g bd n 0 := by
    unfold hdrC
    show splice ((.int .u64 (g : Int) :: by_ bd) ++ .int .u32 _ :: [.int .u32 _]) 33 _ = _
    rw [splice_end (by rw [List.length_cons, by_length, hbd])]
    rfl
  rw [fill_cons 33 [.int .u32 (n : Int)] rfl rfl (by rw [l2]; show 33 + 1 ≤ 35; omega), s3]
  have s4 : splice (hdrC g bd n 0) 34 [.int .u32 (s : Int)] = hdrC g bd n s := by
    unfold hdrC
    have e : ∀ x : Nat, (.int .u64 (g : Int) :: (by_ bd ++ [.int .u32 (n : Int), .int .u32 (x : Int)]) : List Value) = (.int .u64 (g : Int) :: (by_ bd ++ [.int .u32 (n : Int)])) ++ .int .u32 (x : Int) :: [] := by intro x; simp
    rw [e, splice_end (by rw [List.length_cons, List.length_append, by_length, hbd]; rfl), ← e]
  rw [fill_cons 34 [.int .u32 (s : Int)] rfl rfl (by rw [l2]; show 34 + 1 ≤ 35; omega), s4]
  rfl

section
variable {U w : World} {Q : Value → World → Prop}

/-- The sectors of a body whose length is a multiple of 64. -/
theorem encode_k20 {a : Option Addr} {n c sb : Nat} {l h : List UInt8} (b : Bf U w a n c l) (hn : n = l.length) (hm : l.length % 64 = 0) (hl : l.length ≤ 500000) (s0 : Sl w 9 1 (some ⟨sb, 0, none⟩) 1 1 (strs [h])) (hsb : U.heap.size ≤ sb) (hne : ∀ x, a = some ⟨x, 0, none⟩ → x ≠ sb)
    (hQ : ∀ sb c w', Sl w' 9 1 (some ⟨sb, 0, none⟩) (l.length / 64 + 1) c (strs (h :: chunks (l.length / 64) l)) → U.heap.size ≤ sb → Ext U w' (fun _ => False) → Q (.tuple #[.slice (some ⟨sb, 0, none⟩) (l.length / 64 + 1) c, .int .i64 0]) w') :
    W.image_Encode_k20 a n c (some ⟨sb, 0, none⟩) 1 1 w Q := by
  unfold W.image_Encode_k20
  subst hn
  refine LoopW.nat (l.length / 64) (fun j x w' => ∃ sb' c', x = ((some ⟨sb', 0, none⟩, j + 1, c'), ((64 * j : Nat) : Int), ()) ∧ Sl w' 9 1 (some ⟨sb', 0, none⟩) (j + 1) c' (strs (h :: chunks j l)) ∧ U.heap.size ≤ sb' ∧ (∀ x, a = some ⟨x, 0, none⟩ → x ≠ sb') ∧ Bf U w' a l.length c l)
    ⟨sb, 1, rfl, s0, hsb, hne, b⟩ ?_
  rintro j x w1 next hj ⟨sb', c', rfl, s1, f1, g1, b1⟩ hnext
  dsimp only
  by_cases hlt : j < l.length / 64
  case neg =>
    rw [decide_eq_false (by omega), br_false]
    obtain rfl : j = l.length / 64 := by omega
    exact hQ sb' c' w1 s1 f1 b1.e
  rw [decide_eq_true (by omega), br_true]
  rw [show IntKind.wrap .i64 (((64 * j : Nat) : Int) + 64) = ((64 * (j + 1) : Nat) : Int) by rw [wrap_i64 (by omega) (by omega)]; omega]
  obtain ⟨bb, rfl⟩ := b1.s.one_block (by omega)
  obtain ⟨sp, ab, hxl, _, hnc⟩ := b1.s.at_
  refine qL (sl_lh 5 1 (by omega) (by omega) (by omega)) ?_
  have hrd : Reads w1 (some ((⟨bb, 0, none⟩ : Addr).add (64 * j * 1))) (by_ ((l.drop (64 * j)).take 64)) := by
    have := Reads.sub (64 * j) 64 b1.s.reads
    rw [Nat.mul_one]
    simpa [by_, List.map_drop, List.map_take] using this
  refine bs_str hrd (by rw [List.length_take, List.length_drop]; omega) (ft ?_)
  refine al_i fun tb w2 htb a2 e2 z2 => ?_
  refine ap_i 9 1 (vs := strs [(l.drop (64 * j)).take 64]) (s1.ext e2 (fun _ _ h => h)) (.inr ⟨_, rfl, fun k hk => by rw [add_mk, a2.cell, Nat.zero_add]; rfl⟩) rfl (strs_one _) (by omega) fun a3 c3 w3 s3 f3 g3 e3 => fs ?_
  have ha3 := g3 rfl
  obtain ⟨sb3, sp3, rfl, _⟩ := s3.isome ha3
  have hb2 := (b1.same e2)
  have hbb : bb < w1.heap.size := ab.lt
  refine hnext hlt _ _ ⟨sb3, c3, rfl, ?_, ?_, ?_, ?_⟩
  · have : strs (h :: chunks (j + 1) l) = strs (h :: chunks j l) ++ strs [(l.drop (64 * j)).take 64] := by rw [chunks_succ]; simp [strs]
    rw [this]
    exact s3
  · rcases f3 sb3 rfl with hx | hx
    · simp only [Option.some.injEq, Addr.mk.injEq, and_true] at hx; omega
    · have := b1.e.size; omega
  · intro x hx
    rcases f3 sb3 rfl with hy | hy
    · have := g1 x hx
      simp only [Option.some.injEq, Addr.mk.injEq, and_true] at hy; omega
    · simp only [Option.some.injEq, Addr.mk.injEq, and_true] at hx; omega
  · refine ⟨hb2.s.ext e3 (fun x hx hy => ?_), b.f, hb2.e.trans e3 (fun _ _ h => h) (fun x hx hy => ?_)⟩
    · have := g1 x hx
      simp only [Option.some.injEq, Addr.mk.injEq, and_true] at hy; omega
    · simp only [Option.some.injEq, Addr.mk.injEq, and_true] at hy; omega

theorem encode_k17 {a : Option Addr} {n c hb g len s : Nat} {bd l : List UInt8} (hh : At w hb (hdrC g bd len s) 32) (hbd : bd.length = 32) (hlen : len < 4294967296) (hs : s < 4294967296) (b : Bf U w a n c l) (hn : n = l.length) (hl : l.length ≤ 400000)
    (hQ : ∀ sb c w', Sl w' 9 1 (some ⟨sb, 0, none⟩) ((hdr g bd len s :: cuts l).length) c (strs (hdr g bd len s :: cuts l)) → U.heap.size ≤ sb → Ext U w' (fun _ => False) → Q (.tuple #[.slice (some ⟨sb, 0, none⟩) ((hdr g bd len s :: cuts l).length) c, .int .i64 0]) w') :
    W.image_Encode_k17 a n c ⟨hb, 0, none⟩ w Q := by
  unfold W.image_Encode_k17
  refine ld_w hh (fg ?_) (hs := by rw [hdrC_length hbd]; kernel_rfl)
  refine encodeHeader_c hbd hlen hs fun w1 e1 => ft ?_
  refine al_i fun sb w2 hsb a2 e2 z2 => ?_
  have b2 := (b.same e1).same e2
  have ss2 : Sl w2 9 1 (some ⟨sb, 0, none⟩) 1 1 (strs [hdr g bd len s]) := Sl.new a2 rfl
  have hU : U.heap.size ≤ sb := by have := (b.same e1).e.size; omega
  have hne : ∀ x, a = some ⟨x, 0, none⟩ → x ≠ sb := by
    intro x hx
    subst hx
    obtain ⟨sp, ab, _⟩ := (b.same e1).s.at_
    have := ab.lt
    omega
  have hpd : padn l.length < 64 := Nat.mod_lt _ (by omega)
  have hpm := pad_mod l
  rw [pad_length] at hpm
  subst hn
  refine LoopW.nat (padn l.length) (fun j x w' => ∃ a' c', x = ((a', l.length + j, c'), ()) ∧ Bf U w' a' (l.length + j) c' (l ++ List.replicate j 0) ∧ Sl w' 9 1 (some ⟨sb, 0, none⟩) 1 1 (strs [hdr g bd len s]) ∧ (∀ x, a' = some ⟨x, 0, none⟩ → x ≠ sb))
    ⟨a, c, rfl, by simpa using b2, ss2, hne⟩ ?_
  rintro j x w3 next hj ⟨a3, c3, rfl, b3, s3, g3⟩ hnext
  dsimp only
  by_cases hlt : j < padn l.length
  case neg =>
    obtain rfl : j = padn l.length := by omega
    rw [show ((Int.tmod (((l.length + padn l.length : Nat)) : Int) 64 : Int) != 0) = false by
      rw [show Int.tmod (((l.length + padn l.length : Nat)) : Int) 64 = (((l.length + padn l.length) % 64 : Nat) : Int) from rfl, hpm]; rfl, br_false]
    have e64 : (l ++ List.replicate (padn l.length) 0).length = l.length + padn l.length := by simp
    refine encode_k20 (l := pad l) (h := hdr g bd len s) b3 (by rw [pad_length]) (by rw [pad_length]; exact hpm) (by rw [pad_length]; omega) s3 hU g3 fun sb' c' w' s' f' e' => ?_
    have hcl : (hdr g bd len s :: cuts l).length = (pad l).length / 64 + 1 := by unfold cuts; rw [List.length_cons, chunks_length]
    have := hQ sb' c' w'
    rw [hcl] at this
    exact this s' f' e'
  have hnz : (l.length + j) % 64 ≠ 0 := by unfold padn at hlt; omega
  rw [show ((Int.tmod (((l.length + j : Nat)) : Int) 64 : Int) != 0) = true by
      rw [bne_iff_ne, show Int.tmod (((l.length + j : Nat)) : Int) 64 = (((l.length + j) % 64 : Nat) : Int) from rfl]; omega, br_true]
  refine al_i fun tb w4 htb a4 e4 z4 => ?_
  have b4 := b3.same e4
  refine ap_i 5 1 (vs := by_ [0]) b4.s (.inr ⟨_, rfl, fun k hk => by rw [add_mk, a4.cell, Nat.zero_add]; rfl⟩) rfl (by_one _) (by omega) fun a5 c5 w5 s5 f5 g5 e5 => fs ?_
  have b5 := b4.step s5 f5 e5
  rw [List.append_assoc, ← List.replicate_succ'] at b5
  have hsl : sb < w4.heap.size := by
    obtain ⟨sp, as_, _⟩ := s3.at_
    have h1 := as_.lt
    have h2 := e4.size
    omega
  refine hnext hlt _ _ ⟨a5, c5, rfl, b5, (s3.ext e4 (fun _ _ h => h)).ext e5 (fun x hx hy => ?_), fun x hx => ?_⟩
  · simp only [Option.some.injEq, Addr.mk.injEq, and_true] at hx
    exact g3 x hy hx.symm
  · rcases f5 x hx with hy | hy
    · exact g3 x hy
    · omega

theorem encode_k16 {a pa : Option Addr} {n c ib g pn pc : Nat} {bd l : List UInt8} (hi : At w ib (imgC bd g pa pn pc) 45) (hbd : bd.length = 32) (b : Bf U w a n c l) (hn : n = l.length) (hl : l.length ≤ 400000)
    (hQ : ∀ sb c w', Sl w' 9 1 (some ⟨sb, 0, none⟩) ((hdr g bd l.length (crc l).toNat :: cuts l).length) c (strs (hdr g bd l.length (crc l).toNat :: cuts l)) → U.heap.size ≤ sb → Ext U w' (fun _ => False) → Q (.tuple #[.slice (some ⟨sb, 0, none⟩) ((hdr g bd l.length (crc l).toNat :: cuts l).length) c, .int .i64 0]) w') :
    W.image_Encode_k16 ⟨ib, 0, none⟩ a n c w Q := by
  unfold W.image_Encode_k16
  simp only [add_mk, Nat.zero_add]
  subst hn
  have hcr := (crc l).isLt
  refine ⟨fun w' => At w' ib (imgC bd g pa pn pc) 45, hi.drew_, ?_⟩
  refine ldS_i (fun _ h => h) (imgC_32 hbd) (fi ?_)
  refine ldS_cs (vs := by_ bd) (fun w' h j hj => ?_) (fg ?_) (hs := by rw [by_length, hbd]; kernel_rfl)
  · rw [add_mk, Nat.zero_add, h.cell]
    unfold imgC
    rw [List.getElem?_append_left hj]
  have b0 : Bf U (drew w) a l.length c l := b.same ((Ext.refl w _).drew_)
  have hz : (zeroT Try.prog 32).cells.toList = hdrC 0 zb 0 0 := by kernel_rfl
  rw [wrap_32 (by omega)]
  have tail : ∀ (hb : Nat) (w1 : World), At w1 hb (hdrC 0 zb 0 0) 32 → At w1 ib (imgC bd g pa pn pc) 45 → ib ≠ hb → Bf U w1 a l.length c l → U.heap.size ≤ hb → (∀ x, a = some ⟨x, 0, none⟩ → x ≠ hb) →
      st Try.prog 32 ⟨hb, 0, none⟩ (.agg (hdrC g bd l.length (crc l).toNat).toArray) w1 fun w2 => At w2 ib (imgC bd g pa pn pc) 45 ∧ W.image_Encode_k17 a l.length c ⟨hb, 0, none⟩ w2 Q := by
    intro hb w1 ah ai hne b1 hU hx
    refine st_w 35 ah (hdrC_length rfl) (hdrC_length hbd) (hdrC_one _ _ _ _) fun w2 a2 e2 z2 => ⟨ai.ext e2 hne, ?_⟩
    refine encode_k17 a2 hbd (by omega) hcr ⟨b1.s.ext e2 hx, b1.f, b1.e.trans e2 (fun _ _ h => h) (fun x hx hy => by omega)⟩ rfl hl hQ
  have fresh : ∀ (w1 w2 : World) (hb : Nat), At w1 ib (imgC bd g pa pn pc) 45 → Bf U w1 a l.length c l → hb = w1.heap.size → Ext w1 w2 (fun _ => False) → ib ≠ hb ∧ U.heap.size ≤ hb ∧ (∀ x, a = some ⟨x, 0, none⟩ → x ≠ hb) := by
    intro w1 w2 hb h1 h2 h3 h4
    have l1 := h1.lt
    have l2 := h2.e.size
    refine ⟨by omega, by omega, fun x hx => ?_⟩
    subst hx
    obtain ⟨sp, ab, _⟩ := h2.s.at_
    have := ab.lt
    omega
  refine ⟨?_, ?_⟩
  · refine slT b0.s rfl ⟨hi.drew_, ?_, ?_⟩
    · refine checksum_c (by omega) fun w1 e1 => fi ⟨hi.drew_.ext e1 (fun h => h), ?_⟩
      refine rqS_r (buildH hbd) (fg ?_)
      refine al_i fun hb w2 hhb a2 e2 z2 => ?_
      rw [hz] at a2
      obtain ⟨f1, f2, f3⟩ := fresh w1 w2 hb (hi.drew_.ext e1 (fun h => h)) (b0.same e1) hhb e2
      have hi2 := (hi.drew_.ext e1 (fun h => h)).ext e2 (fun h => h)
      exact ⟨hi2, tail hb w2 a2 hi2 f1 ((b0.same e1).same e2) f2 f3⟩
    · refine al_i fun hb w2 hhb a2 e2 z2 => ?_
      rw [hz] at a2
      obtain ⟨f1, f2, f3⟩ := fresh (drew w) w2 hb hi.drew_ b0 hhb e2
      have hi2 := hi.drew_.ext e2 (fun h => h)
      refine ⟨hi2, ?_⟩
      refine checksum_c (by omega) fun w1 e1 => fi ⟨hi2.ext e1 (fun h => h), ?_⟩
      refine rqS_r (buildH hbd) (fg ?_)
      exact tail hb w1 (a2.ext e1 (fun h => h)) (hi2.ext e1 (fun h => h)) f1 ((b0.same e2).same e1) f2 f3
  · refine al_i fun hb w2 hhb a2 e2 z2 => ?_
    rw [hz] at a2
    obtain ⟨f1, f2, f3⟩ := fresh (drew w) w2 hb hi.drew_ b0 hhb e2
    have hi2 := hi.drew_.ext e2 (fun h => h)
    refine ⟨hi2, ?_⟩
    refine slT (b0.same e2).s rfl ⟨hi2, ?_⟩
    refine checksum_c (by omega) fun w1 e1 => fi ⟨hi2.ext e1 (fun h => h), ?_⟩
    refine rqS_r (buildH hbd) (fg ?_)
    exact tail hb w1 (a2.ext e1 (fun h => h)) (hi2.ext e1 (fun h => h)) f1 ((b0.same e2).same e1) f2 f3

theorem bodyOf_snoc (ps : List Pg) (p : Pg) : bodyOf (ps ++ [p]) = bodyOf ps ++ pgB p := by simp [bodyOf]

/-- Encode, of an image whose pages are ps. -/
theorem encode_c {bd : List UInt8} {g : Nat} {pa : Option Addr} {n c : Nat} {ps : List Pg} (hbd : bd.length = 32) (h : Reads w pa (ps.flatMap pgC)) (hn : ps.length = n)
    (h0 : ¬ OkP ps → ∀ w', Ext w w' (fun _ => False) → Q (.tuple #[.slice none 0 0, .int .i64 1]) w')
    (h1 : OkP ps → ∀ sb c' w', Sl w' 9 1 (some ⟨sb, 0, none⟩) (secs g bd ps).length c' (strs (secs g bd ps)) → w.heap.size ≤ sb → Ext w w' (fun _ => False) → Q (.tuple #[.slice (some ⟨sb, 0, none⟩) (secs g bd ps).length c', .int .i64 0]) w') :
    CallE Try.prog 22 #[.agg (imgC bd g pa n c).toArray] w Q := by
  apply C.image_Encode
  unfold W.image_Encode
  subst hn
  refine al_i fun ib w1 hib a1 e1 z1 => ?_
  change At w1 ib (imgC bd g pa ps.length c) 45 at a1
  simp only [add_mk, Nat.zero_add]
  refine ldL a1 (imgC_33 hbd) ?_
  have hr1 := h.ext e1 (fun _ _ _ h => h)
  refine validPages_c hr1 rfl fun w2 e2 => fb ?_
  by_cases hv : validP ps = true
  case neg =>
    rw [Bool.eq_false_iff.2 hv, Bool.not_false, br_true]
    exact h0 (fun hc => hv hc.1) w2 (e1.tr e2)
  rw [hv, Bool.not_true, br_false]
  have a2 := a1.ext e2 (fun h => h)
  refine ldL a2 (imgC_33 hbd) ?_
  have hr2 := hr1.ext e2 (fun _ _ _ h => h)
  have hv' := hv
  unfold validP at hv'
  simp only [Bool.and_eq_true, decide_eq_true_eq] at hv'
  obtain ⟨hv1, hv2⟩ := hv'
  have hvm := incr_mem hv2
  refine LoopW.nat ps.length (fun i x w' => ∃ a' c', x = ((a', (bodyOf (ps.take i)).length, c'), (i : Int), ()) ∧ Bf w2 w' a' (bodyOf (ps.take i)).length c' (bodyOf (ps.take i)) ∧ ∀ p ∈ ps.take i, p.2.length = 256)
    ⟨none, 0, by simp [bodyOf], ⟨.inl ⟨rfl, by simp [bodyOf], rfl, by simp [bodyOf, by_]⟩, (fun b hb => by cases hb), Ext.refl _ _⟩, by simp⟩ ?_
  rintro i x w3 next hi ⟨a3, c3, rfl, b3, hd3⟩ hnext
  dsimp only
  have hle := bodyOf_le hd3
  have htl : (ps.take i).length ≤ 512 := by rw [List.length_take]; omega
  by_cases hlt : i < ps.length
  case neg =>
    rw [decide_eq_false (by omega), br_false]
    obtain rfl : i = ps.length := by omega
    rw [List.take_length] at *
    refine encode_k16 (a2.ext b3.e (fun h => h)) hbd b3 rfl (by omega) fun sb c' w' s' f' e' => ?_
    have hs1 := e1.size
    have hs2 := e2.size
    exact h1 ⟨hv, hd3⟩ sb c' w' s' (by omega) ((e1.tr e2).tr e')
  rw [decide_eq_true (by omega), br_true]
  have hr3 := hr2.ext b3.e (fun _ _ _ h => h)
  have hl0 : 0 < (ps.flatMap pgC).length := by rw [flat_length pgC_length]; omega
  obtain ⟨p, rfl⟩ := hr3.some_ hl0
  refine ixs i 2 52 hlt ?_
  refine rdG i hlt hr3 pgC_length (by omega) (fg ?_)
  refine al_st 2 (pgC_length _) (pgC_one _) fun vb w4 hvb a4 e4 z4 => ?_
  simp only [add_mk, Nat.zero_add]
  have b4 := b3.same e4
  refine ldT a4 rfl ?_
  rw [mkS_size]
  have bad : ¬ (ps[i].2.length = 256) → ∀ w', Ext w4 w' (fun _ => False) → Q (.tuple #[.slice none 0 0, .int .i64 1]) w' := by
    intro hne w' e'
    exact h0 (fun hc => hne (hc.2 _ (List.getElem_mem hlt))) w' (((e1.tr e2).tr b4.e).tr e')
  by_cases h256 : ps[i].2.length = 256
  case neg =>
    rw [show ((((ps[i].2.length : Nat) : Int) : Int) != 256) = true by rw [bne_iff_ne]; omega, br_true]
    exact bad h256 w4 (Ext.refl _ _)
  rw [show ((((ps[i].2.length : Nat) : Int) : Int) != 256) = false by rw [h256]; rfl, br_false]
  refine ldT a4 rfl ?_
  refine Pz.compress_c h256 fun w5 e5 => ⟨_, _, rfl, ?_⟩
  rw [show ((0 : Int) != 0) = false from rfl, br_false]
  refine ldI (a4.ext e5 (fun h => h)) rfl ?_
  have b5 := b4.same e5
  obtain ⟨hp0, hp1⟩ := hvm _ (List.getElem_mem hlt)
  have hcl := Pz.comp_length h256
  rw [mkS_size, show IntKind.wrap .u64 ps[i].1 = ((ps[i].1.toNat : Nat) : Int) by rw [wrap_u64 (by omega) (by omega)]; omega, wrap_64 (n := (Pz.comp ps[i].2).length) (by omega)]
  refine appendNumber_c (v := ps[i].1.toNat) (k := 4) b5.s (by omega) (by omega) fun a6 c6 w6 s6 f6 g6 e6 => fs ?_
  have b6 := b5.step s6 f6 e6
  refine appendNumber_c (v := (Pz.comp ps[i].2).length) (k := 2) b6.s (by omega) (by omega) fun a7 c7 w7 s7 f7 g7 e7 => fs ?_
  have b7 := b6.step s7 f7 e7
  refine ap_s (l := Pz.comp ps[i].2) 5 b7.s (by omega) fun a8 c8 w8 s8 f8 g8 e8 => fs ?_
  have b8 := b7.step s8 f8 e8
  have htk : ps.take (i + 1) = ps.take i ++ [ps[i]] := by rw [List.take_append_getElem hlt]
  have hbo : bodyOf (ps.take (i + 1)) = bodyOf (ps.take i) ++ le ps[i].1.toNat 4 ++ le (Pz.comp ps[i].2).length 2 ++ Pz.comp ps[i].2 := by rw [htk, bodyOf_snoc]; simp [pgB]
  have hbl : (bodyOf (ps.take (i + 1))).length = (bodyOf (ps.take i)).length + 4 + 2 + (Pz.comp ps[i].2).length := by rw [hbo]; simp only [List.length_append, le_length]
  rw [inc_nat (by omega)]
  refine hnext hlt _ _ ⟨a8, c8, by rw [hbl], by rw [hbl, hbo]; exact b8, fun q hq => ?_⟩
  rw [htk] at hq
  rcases List.mem_append.1 hq with hq | hq
  · exact hd3 q hq
  · rw [List.mem_singleton.1 hq]; exact h256
end
end Go.Proofs.Ytpgekajgbkbpkaa.Im
