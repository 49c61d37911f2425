/-
  Loading an image over the code. No condition beyond those stated.
-/
import Derived.Test.YtpinpccamfhofaaHiD
import Derived.Test.YtpinpccamfhofaaGA
set_option linter.unusedVariables false
set_option linter.unusedSimpArgs false
set_option maxRecDepth 100000
namespace Go.Proofs.Ytpinpccamfhofaa.Hi
open Go Go.Ev Go.Proofs Go.Proofs.Ytpinpccamfhofaa.Im
open Go.Proofs.Ytpinpccamfhofaa.Bd (St Sec Dk Ok wr fl rd cut pOff pOn zs all new lose)

/-- Load: the disk afterwards, and the image or the error. -/
def loa (s : St) (bd : List UInt8) : St × Sum Int (List UInt8 × Nat × List Pg) :=
  if (rd s 0).2 ≠ 0 then (s, .inl (rd s 0).2) else if (decH (rd s 0).1).2 ≠ 0 then (s, .inl 6) else
  match decI (all s.C s.S) with
  | .inl e => (s, .inl e)
  | .inr r => if r.1 ≠ bd then (s, .inl 21) else if (dis s).2 ≠ 0 then ((dis s).1, .inl (dis s).2) else ((dis s).1, .inr r)
theorem rd_on {s : St} {i : Nat} (h : s.off = false) (hi : i < s.S.length) : rd s (i : Int) = ((all s.C s.S).getD i [], 0) := by
  unfold rd
  rw [if_neg (by omega), h]
  simp
theorem decI_board {ss : List (List UInt8)} {b : List UInt8} {g : Nat} {ps : List Pg} (h : decI ss = .inr (b, g, ps)) : b.length = 32 := by
  unfold decI at h
  split at h
  · cases h
  split at h
  · cases h
  rename_i s0 r hall
  split at h
  · cases h
  split at h
  · cases h
  split at h
  · cases h
  split at h
  · cases h
  split at h
  · cases h
    rw [sub_length (by rw [Decidable.not_not.1 hall s0 (.head _)]; omega)]
  · cases h

section
variable {U w w' : World} {Q : Value → World → Prop} {p : Nat} {s : St} {K K' X : Nat → Prop}

theorem load_k16 {n m rb vb sb k c : Nat} {bd : List UInt8} (h : Dsk U p K w s) (hok : Ok n m s) (hm : m + 1 ≤ 1000000) (hn : n ≤ 100000) (hbd : bd.length = 32) (hv : At w vb (by_ bd) 31) (hrb : At w rb (imgC zb 0 none 0 0) 41) (hs : Sl w 9 1 (some ⟨sb, 0, none⟩) k c (strs (all s.C s.S)))
    (k1 : K vb) (k2 : K rb) (hrbU : U.heap.size ≤ rb)
    (h0 : ∀ e, decI (all s.C s.S) = .inl e → ∀ w', Dsk U p K w' s → Ext w w' (fun b => Xd U K b ∨ b = rb) → Q (.tuple #[.agg (imgC zb 0 none 0 0).toArray, .int .i64 e]) w')
    (h1 : ∀ r, decI (all s.C s.S) = .inr r → r.1 ≠ bd → ∀ w', Dsk U p K w' s → Ext w w' (fun b => Xd U K b ∨ b = rb) → Q (.tuple #[.agg (imgC zb 0 none 0 0).toArray, .int .i64 21]) w')
    (h2 : ∀ r, decI (all s.C s.S) = .inr r → r.1 = bd → (dis s).2 ≠ 0 → ∀ w', Dsk U p K w' (dis s).1 → Ext w w' (fun b => Xd U K b ∨ b = rb) → Q (.tuple #[.agg (imgC zb 0 none 0 0).toArray, .int .i64 (dis s).2]) w')
    (h3 : ∀ r, decI (all s.C s.S) = .inr r → r.1 = bd → (dis s).2 = 0 → ∀ a c' w', Sl w' 85 2 a r.2.2.length c' (r.2.2.flatMap pgC) → (∀ b, a = some ⟨b, 0, none⟩ → w.heap.size ≤ b) → Dsk U p (fun b => K b ∨ a = some ⟨b, 0, none⟩) w' (dis s).1 → Ext w w' (fun b => Xd U K b ∨ b = rb) → Q (.tuple #[.agg (imgC r.1 r.2.1 a r.2.2.length c').toArray, .int .i64 0]) w') :
    W.hibernate_Load_k16 ⟨p, 0, none⟩ ⟨vb, 0, none⟩ ⟨rb, 0, none⟩ (some ⟨sb, 0, none⟩) k c w Q := by
  unfold W.hibernate_Load_k16
  obtain ⟨sp, atS, hl, _, hnc⟩ := hs.at_
  rw [strs_length, Nat.mul_one] at hl
  have hal : (all s.C s.S).length = n := by rw [Bd.all_length, hok.len]
  have ret : ∀ (e : Int) (w1 w2 : World) (s' : St), Ext w w1 (fun b => Xd U K b ∨ b = rb) → At w1 rb (imgC zb 0 none 0 0) 41 → Dsk U p K w1 s' → (∀ w', Dsk U p K w' s' → Ext w w' (fun b => Xd U K b ∨ b = rb) → Q (.tuple #[.agg (imgC zb 0 none 0 0).toArray, .int .i64 e]) w') →
      st Try.prog 41 ⟨rb, 0, none⟩ (.agg (imgC zb 0 none 0 0).toArray) w1 fun w3 => ld Try.prog 41 ⟨rb, 0, none⟩ w3 fun v4 => fG v4 fun g5 => Q (.tuple #[.agg g5, .int .i64 e]) w3 := by
    intro e w1 _ s' ex hr hd hq
    refine retz hr rfl fun w2 e2 => ?_
    exact hq w2 (hd.step e2 (fun b _ hb => by subst hb; exact k2)) (ex.trans e2 (fun _ _ h => h) (fun _ _ h => .inr h))
  refine decode_c hs.reads hl hnc atS.lt (by omega) (fun e he w1 e1 => ⟨_, _, rfl, ?_⟩) (fun b g ps hi a1 c1 w1 s1 f1 e1 => ⟨_, _, rfl, ?_⟩)
  · refine al_st 34 (imgC_length rfl) (imgC_one _ _ _ _ _) fun xb w2 hxb a2 e2 z2 => ?_
    have e02 := e1.tr e2
    have hne : e ≠ 0 := by
      unfold decI at he
      split at he
      · cases he; decide
      · split at he
        · cases he; decide
        split at he
        · rename_i hne
          cases he
          exact hne
        split at he
        · cases he; decide
        split at he
        · cases he; decide
        split at he
        · cases he; decide
        split at he
        · cases he
        · cases he; decide
    refine br_pos (by rw [bne_iff_ne]; exact hne) ?_
    exact ret e w2 w2 s e02.of0 (hrb.ext e02 (fun h => h)) (h.same e02) (h0 e he)
  · have hb32 := decI_board hi
    refine al_st 34 (imgC_length hb32) (imgC_one _ _ _ _ _) fun xb w2 hxb a2 e2 z2 => ?_
    have e02 := e1.tr e2
    have hx2 := a2.lt
    have hz1 := e1.size
    have s2 := s1.ext e2 (fun _ _ h => h)
    refine br_neg rfl ?_
    simp only [add_mk, Nat.zero_add]
    refine ld_g 32 a2 (by rw [imgC_length hb32]; omega) (fg ?_)
    have tk : ((imgC b g a1 ps.length c1).drop 0).take 32 = by_ b := by
      unfold imgC
      rw [List.drop_zero]
      exact List.take_left' (by rw [by_length, hb32])
    rw [tk]
    refine ld_w (hv.ext e02 (fun h => h)) (fg ?_) (hs := by rw [by_length, hbd]; kernel_rfl)
    refine qB (fun w => agg_ne (eq_bytes (d := 9998) 5 hb32 hbd)) ?_
    by_cases hbb : b = bd
    case neg =>
      rw [decide_eq_false hbb, Bool.not_false, br_true]
      exact ret 21 w2 w2 s e02.of0 (hrb.ext e02 (fun h => h)) (h.same e02) (h1 _ hi hbb)
    rw [decide_eq_true hbb, Bool.not_true, br_false]
    have pl : ∀ q, a1 = some ⟨q, 0, none⟩ → q < w2.heap.size := by
      intro q hq
      subst hq
      obtain ⟨sp, ap, _⟩ := s2.at_
      exact ap.lt
    have hd2 : Dsk U p (fun q => K q ∨ a1 = some ⟨q, 0, none⟩ ∨ q = xb) w2 s := h.grow e02 fun q hq => by
      rcases hq with hq | hq | hq
      · exact ⟨.inl hq, by have := h.k hq; have := e02.size; omega⟩
      · exact ⟨.inr (f1 q hq), pl q hq⟩
      · subst hq; exact ⟨.inr (by omega), hx2⟩
    refine discard_c hd2 hok hm fun w3 d3 e3 => fi ?_
    have e03 : Ext w w3 (fun b => Xd U K b ∨ b = rb) := e02.of0.trans e3 (fun _ _ h => h) fun q _ hq => .inl ⟨hq.1, fun hc => hq.2 (.inl hc)⟩
    have hr3 : At w3 rb (imgC zb 0 none 0 0) 41 := (hrb.ext e02 (fun h => h)).ext e3 fun hq => hq.2 (.inl k2)
    by_cases hdz : (dis s).2 = 0
    case neg =>
      rw [show ((dis s).2 != 0) = true by rw [bne_iff_ne]; exact hdz, br_true]
      exact ret _ w3 w3 _ e03 hr3 (d3.mono fun _ h => .inl h) (h2 _ hi hbb hdz)
    rw [show ((dis s).2 != 0) = false by rw [hdz]; rfl, br_false]
    refine ld_w (a2.ext e3 fun hq => hq.2 (.inr (.inr rfl))) (fg ?_) (hs := by rw [imgC_length hb32]; kernel_rfl)
    refine st_w 34 hr3 rfl (imgC_length hb32) (imgC_one _ _ _ _ _) fun w4 a4 e4 z4 => ?_
    refine ld_w a4 (fg ?_) (hs := by rw [imgC_length hb32]; kernel_rfl)
    have hrbl := hrb.lt
    refine h3 _ hi hbb hdz a1 c1 w4 ((s2.ext e3 fun q hq hx => hx.2 (.inr (.inl hq))).ext e4 fun q hq hx => by have := f1 q hq; omega) f1 ((d3.mono fun q hq => by rcases hq with hq | hq; exact .inl hq; exact .inr (.inl hq)).step e4 fun q _ hq => by subst hq; exact .inl k2) (e03.trans e4 (fun _ _ h => h) (fun _ _ h => .inr h))

/-- Load. -/
theorem load_c {n m : Nat} {bd : List UInt8} (h : Dsk U p K w s) (hok : Ok n m s) (hm : m + 1 ≤ 1000000) (h1n : 1 ≤ n) (hn : n ≤ 100000) (hbd : bd.length = 32)
    (h0 : ∀ e, (loa s bd).2 = .inl e → ∀ w', Dsk U p K w' (loa s bd).1 → Ext w w' (Xd U K) → Q (.tuple #[.agg (imgC zb 0 none 0 0).toArray, .int .i64 e]) w')
    (h1 : ∀ r, (loa s bd).2 = .inr r → ∀ a c' w', Sl w' 85 2 a r.2.2.length c' (r.2.2.flatMap pgC) → (∀ b, a = some ⟨b, 0, none⟩ → w.heap.size ≤ b) → Dsk U p (fun b => K b ∨ a = some ⟨b, 0, none⟩) w' (loa s bd).1 → Ext w w' (Xd U K) → Q (.tuple #[.agg (imgC r.1 r.2.1 a r.2.2.length c').toArray, .int .i64 0]) w') :
    CallE Try.prog 22 #[.pointer (some ⟨p, 0, none⟩), .agg (by_ bd).toArray] w Q := by
  apply C.hibernate_Load
  unfold W.hibernate_Load
  refine al_i fun vb w1 hvb a1 e1 z1 => ?_
  change At w1 vb (by_ bd) 31 at a1
  refine al_i fun rb w2 hrb a2 e2 z2 => ?_
  rw [zimg] at a2
  have e02 := e1.tr e2
  have hU := h.usz
  have hlen := hok.len
  have hd2 : Dsk U p (fun b => K b ∨ b = vb ∨ b = rb) w2 s := h.grow e02 fun q hq => by
    have := e02.size
    rcases hq with hq | hq | hq
    · exact ⟨.inl hq, by have := h.k hq; omega⟩
    · subst hq; exact ⟨.inr (by omega), by omega⟩
    · subst hq; exact ⟨.inr (by omega), by omega⟩
  have a12 := a1.ext e2 (fun h => h)
  -- whatever is done later, from w on
  have fold : ∀ {w' : World}, Ext w2 w' (fun b => Xd U (fun b => K b ∨ b = vb ∨ b = rb) b ∨ b = rb) → Ext w w' (Xd U K) := fun e => e02.of0.trans e (fun _ _ h => h) fun q hq hx => by
    rcases hx with hx | hx
    · exact ⟨hx.1, fun hc => hx.2 (.inl hc)⟩
    · omega
  have ret : ∀ (e : Int) (w3 : World), (loa s bd) = (s, .inl e) → Ext w2 w3 (fun _ => False) →
      st Try.prog 41 ⟨rb, 0, none⟩ (.agg (imgC zb 0 none 0 0).toArray) w3 fun w3 => ld Try.prog 41 ⟨rb, 0, none⟩ w3 fun v4 => fG v4 fun g5 => Q (.tuple #[.agg g5, .int .i64 e]) w3 := by
    intro e w3 hl e3
    refine retz (a2.ext e3 (fun h => h)) rfl fun w4 e4 => ?_
    have hd4 := (hd2.same e3).step e4 (fun b _ hb => .inr (.inr hb))
    have := h0 e (by rw [hl]) w4
    rw [hl] at this
    exact this (hd4.mono fun _ h => .inl h) (fold (e3.of0.trans e4 (fun _ _ h => h) (fun _ _ h => .inr h)))
  refine dread_c hd2 ⟨_, _, rfl, ?_⟩
  by_cases hr0 : (rd s 0).2 = 0
  case neg =>
    rw [show ((rd s 0).2 != 0) = true by rw [bne_iff_ne]; exact hr0, br_true]
    exact ret _ w2 (by unfold loa; rw [if_pos hr0]) (Ext.refl _ _)
  rw [show ((rd s 0).2 != 0) = false by rw [hr0]; rfl, br_false]
  have hon : s.off = false := by
    cases ho : s.off with
    | false => rfl
    | true =>
      unfold rd at hr0
      rw [if_neg (by omega), ho] at hr0
      simp at hr0
  refine decodeHeader_c fun w3 e3 => ⟨_, _, rfl, ?_⟩
  refine al_st 35 (decH_len _) (decH_one _) fun hb w4 hhb a4 e4 z4 => ?_
  have e24 := e3.tr e4
  by_cases hd0 : (decH (rd s 0).1).2 = 0
  case neg =>
    rw [show ((decH (rd s 0).1).2 != 0) = true by rw [bne_iff_ne]; exact hd0, br_true]
    exact ret _ w4 (by unfold loa; rw [if_neg (fun h => h hr0), if_pos hd0]) e24
  rw [show ((decH (rd s 0).1).2 != 0) = false by rw [hd0]; rfl, br_false]
  have hloa : loa s bd = match decI (all s.C s.S) with
      | .inl e => (s, .inl e)
      | .inr r => if r.1 ≠ bd then (s, .inl 21) else if (dis s).2 ≠ 0 then ((dis s).1, .inl (dis s).2) else ((dis s).1, .inr r) := by
    unfold loa
    rw [if_neg (fun h => h hr0), if_neg (fun h => h hd0)]
  have hd4 := hd2.same e24
  refine dsize_c hd4 (fi ?_)
  refine mk_0 9 1 (by omega) (by omega) fun sb w5 hsb s5 e5 z5 => fs ?_
  rw [Int.toNat_natCast, hlen] at s5
  rw [Int.toNat_natCast, hlen]
  have hd5 := hd4.same e5
  refine dsize_c hd5 (fi ?_)
  rw [hlen]
  have hal : (all s.C s.S).length = n := by rw [Bd.all_length, hlen]
  have e25 := e24.tr e5
  have hs25 := e25.size
  have hs24 := e24.size
  refine LoopW.nat n (fun i x w' => ∃ sb' c', x = ((some ⟨sb', 0, none⟩, i, c'), (i : Int), ()) ∧ Sl w' 9 1 (some ⟨sb', 0, none⟩) i c' (strs ((all s.C s.S).take i)) ∧ w2.heap.size ≤ sb' ∧ Dsk U p (fun b => (K b ∨ b = vb ∨ b = rb) ∨ b = sb') w' s ∧ Ext w2 w' (fun _ => False))
    ⟨sb, n, rfl, by simpa [strs] using s5, by omega, hd4.grow e5 fun q hq => (by
      rcases hq with hq | hq
      · exact ⟨.inl hq, by have := hd4.k hq; have := e5.size; omega⟩
      · subst hq; exact ⟨.inr (by omega), by omega⟩), e25⟩ ?_
  rintro i x w6 next hi ⟨sb6, c6, rfl, s6, f6, d6, e6⟩ hnext
  dsimp only
  by_cases hlt : i < n
  · rw [decide_eq_true (by omega), br_true]
    refine dread_c d6 ⟨_, _, rfl, ?_⟩
    rw [rd_on hon (by omega)]
    refine br_neg rfl ?_
    refine al_i fun tb w7 htb a7 e7 z7 => ?_
    have hg : (all s.C s.S).getD i [] = (all s.C s.S)[i]'(by omega) := by rw [List.getD_eq_getElem?_getD, List.getElem?_eq_getElem (by omega)]; rfl
    refine ap_i 9 1 (vs := strs [(all s.C s.S).getD i []]) (s6.ext e7 (fun _ _ h => h)) (.inr ⟨_, rfl, fun k hk => by rw [add_mk, a7.cell, Nat.zero_add]; rfl⟩) rfl (strs_one _) (by omega) fun a8 c8 w8 s8 f8 g8 e8 => fs ?_
    obtain ⟨sb8, sp8, rfl, at8, _⟩ := s8.isome (g8 rfl)
    have hl8 := at8.lt
    have hz6 := e6.size
    have hz7 := e7.size
    have hor : sb8 = sb6 ∨ w7.heap.size ≤ sb8 := by
      rcases f8 sb8 rfl with h | h
      · simp only [Option.some.injEq, Addr.mk.injEq, and_true] at h; exact .inl h.symm
      · exact .inr h
    have d7 := d6.same e7
    have d8 : Dsk U p (fun b => (K b ∨ b = vb ∨ b = rb) ∨ b = sb6) w8 s := d7.step e8 fun q _ hq => by
      simp only [Option.some.injEq, Addr.mk.injEq, and_true] at hq
      exact .inr hq.symm
    have d8' : Dsk U p (fun b => (K b ∨ b = vb ∨ b = rb) ∨ b = sb8) w8 s := by
      rcases hor with h | h
      · rw [h]; exact d8
      · obtain ⟨F, hF1, hF2, hF3⟩ := d7
        refine ⟨F, hF1.ext e8 (fun q hq hx => ?_), fun q hq => ⟨(hF2 q hq).1, by have := (hF2 q hq).2.1; have := e8.size; omega, fun hc => ?_⟩, fun q hq => ?_⟩
        · simp only [Option.some.injEq, Addr.mk.injEq, and_true] at hx
          exact (hF2 q hq).2.2 (.inr hx.symm)
        · rcases hc with hc | hc
          · exact (hF2 q hq).2.2 (.inl hc)
          · have := (hF2 q hq).2.1; omega
        · rcases hq with hq | hq
          · have := hF3 q (.inl hq); have := e8.size; omega
          · omega
    rw [inc_nat (by omega)]
    refine hnext hlt _ _ ⟨sb8, c8, rfl, ?_, by omega, d8', (e6.tr e7).trans e8 (fun _ _ h => h) fun q hq hx => ?_⟩
    · have : (all s.C s.S).take (i + 1) = (all s.C s.S).take i ++ [(all s.C s.S).getD i []] := by rw [hg]; exact (List.take_append_getElem (by omega)).symm
      rw [this, strs_append]
      exact s8
    · simp only [Option.some.injEq, Addr.mk.injEq, and_true] at hx; omega
  rw [decide_eq_false (by omega), br_false]
  rw [List.take_of_length_le (by omega)] at s6
  have hz6 := e6.size
  have ex : ∀ {w' : World}, Ext w6 w' (fun b => Xd U (fun b => (K b ∨ b = vb ∨ b = rb) ∨ b = sb6) b ∨ b = rb) → Ext w w' (Xd U K) := fun e => fold (e6.of0.trans e (fun _ _ h => h) fun q _ hx => by
    rcases hx with hx | hx
    · exact .inl ⟨hx.1, fun hc => hx.2 (.inl hc)⟩
    · exact .inr hx)
  refine load_k16 d6 hok hm hn hbd (a12.ext e6 (fun h => h)) (a2.ext e6 (fun h => h)) s6 (.inl (.inr (.inl rfl))) (.inl (.inr (.inr rfl))) (by have := e1.size; omega) (fun e he w7 d7 e7 => ?_) (fun r hr hne w7 d7 e7 => ?_) (fun r hr hb hdz w7 d7 e7 => ?_) (fun r hr hb hdz a7 c7 w7 s7 f7 d7 e7 => ?_)
  · rw [he] at hloa
    have := h0 e (by rw [hloa]) w7
    rw [hloa] at this
    exact this (d7.mono fun _ h => .inl (.inl h)) (ex e7)
  · rw [hr] at hloa
    dsimp only at hloa
    rw [if_pos hne] at hloa
    have := h0 21 (by rw [hloa]) w7
    rw [hloa] at this
    exact this (d7.mono fun _ h => .inl (.inl h)) (ex e7)
  · rw [hr] at hloa
    dsimp only at hloa
    rw [if_neg (fun h => h hb), if_pos hdz] at hloa
    have := h0 (dis s).2 (by rw [hloa]) w7
    rw [hloa] at this
    exact this (d7.mono fun _ h => .inl (.inl h)) (ex e7)
  · rw [hr] at hloa
    dsimp only at hloa
    rw [if_neg (fun h => h hb), if_neg (fun h => h hdz)] at hloa
    have := h1 r (by rw [hloa]) a7 c7 w7 s7 (fun q hq => by have := f7 q hq; have := e02.size; omega)
    rw [hloa] at this
    exact this (d7.mono fun q hq => by rcases hq with hq | hq; exact .inl (.inl (.inl hq)); exact .inr hq) (ex e7)
end
end Go.Proofs.Ytpinpccamfhofaa.Hi
