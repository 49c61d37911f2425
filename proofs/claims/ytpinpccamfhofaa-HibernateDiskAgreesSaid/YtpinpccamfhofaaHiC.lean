/-
  The reference's Load over the code. No condition beyond those stated.
-/
import Derived.Test.YtpinpccamfhofaaHiB
set_option linter.unusedVariables false
set_option linter.unusedSimpArgs false
set_option maxRecDepth 100000
namespace Go.Proofs.Ytpinpccamfhofaa.Hi
open Go Go.Ev Go.Proofs Go.Proofs.Ytpinpccamfhofaa.Im
open Go.Proofs.Ytpinpccamfhofaa.Bd (St Sec Rk Ok wr fl rd cut pOff pOn zs all new lose)

section
variable {U w w' : World} {Q : Value → World → Prop} {p : Nat} {s : St} {K K' X : Nat → Prop}

theorem Rsk.both (h : Rsk U p K w s) (e : Ext w w' X) (hX : ∀ b, b < w.heap.size → X b → K b) (hK : ∀ b, K' b → (K b ∨ w.heap.size ≤ b) ∧ b < w'.heap.size) : Rsk U p K' w' s := by
  obtain ⟨F, hd, hF, hk⟩ := h
  have hs := e.size
  refine ⟨F, hd.ext e (fun b hb hx => (hF b hb).2.2 (hX b (hF b hb).2.1 hx)), fun b hb => ⟨(hF b hb).1, by have := (hF b hb).2.1; omega, fun hc => ?_⟩, fun b hb => (hK b hb).2⟩
  rcases (hK b hc).1 with hh | hh
  · exact (hF b hb).2.2 hh
  · have := (hF b hb).2.1; omega

theorem rload_k9 {n m rb vb sb k c : Nat} {bd : List UInt8} (h : Rsk U p K w s) (hok : Ok n m s) (hm : m + 1 ≤ 1000000) (h1n : 1 ≤ n) (hn : n ≤ 10000) (hbd : bd.length = 32) (hv : At w vb (by_ bd) 31) (hrb : At w rb (imgC zb 0 none 0 0) 41) (hs : Sl w 9 1 (some ⟨sb, 0, none⟩) k c (strs (all s.C s.S)))
    (k1 : K vb) (k2 : K rb) (hon : s.off = false)
    (h0 : ∀ e, (loa s bd).2 = .inl e → ∀ w', Rsk U p K w' (loa s bd).1 → Ext w w' (fun b => Xd U K b ∨ b = rb) → Q (.tuple #[.agg (imgC zb 0 none 0 0).toArray, .int .i64 e]) w')
    (h3 : ∀ r, (loa s bd).2 = .inr r → ∀ a c' w', Sl w' 85 2 a r.2.2.length c' (r.2.2.flatMap pgC) → (∀ b, a = some ⟨b, 0, none⟩ → w.heap.size ≤ b) → Rsk U p (fun b => K b ∨ a = some ⟨b, 0, none⟩) w' (loa s bd).1 → Ext w w' (fun b => Xd U K b ∨ b = rb) → Q (.tuple #[.agg (imgC r.1 r.2.1 a r.2.2.length c').toArray, .int .i64 0]) w') :
    W.ref35_Load_k9 ⟨p, 0, none⟩ ⟨vb, 0, none⟩ ⟨rb, 0, none⟩ (some ⟨sb, 0, none⟩) k c w Q := by
  unfold W.ref35_Load_k9
  obtain ⟨sp, atS, hl, _, hnc⟩ := hs.at_
  rw [strs_length, Nat.mul_one] at hl
  have hal : (all s.C s.S).length = n := by rw [Bd.all_length, hok.len]
  have ret : ∀ (e : Int) (w1 : World) (s' : St), loa s bd = (s', .inl e) → Ext w w1 (fun b => Xd U K b ∨ b = rb) → At w1 rb (imgC zb 0 none 0 0) 41 → Rsk U p K w1 s' →
      st Try.prog 41 ⟨rb, 0, none⟩ (.agg (imgC zb 0 none 0 0).toArray) w1 fun w3 => ld Try.prog 41 ⟨rb, 0, none⟩ w3 fun v4 => fG v4 fun g5 => Q (.tuple #[.agg g5, .int .i64 e]) w3 := by
    intro e w1 s' hl ex hr hd
    refine retz hr rfl fun w2 e2 => ?_
    have := h0 e (by rw [hl]) w2
    rw [hl] at this
    exact this (hd.step e2 (fun b _ hb => by subst hb; exact k2)) (ex.trans e2 (fun _ _ h => h) (fun _ _ h => .inr h))
  obtain ⟨s0, r, hall⟩ : ∃ s0 r, all s.C s.S = s0 :: r := by
    cases hh : all s.C s.S with
    | nil => rw [hh] at hal; simp at hal; omega
    | cons x y => exact ⟨x, y, rfl⟩
  have hr0 : rd s 0 = (s0, 0) := by
    have := rd_on (s := s) (i := 0) hon (by rw [hok.len]; omega)
    rw [hall] at this
    exact this
  have hloa : loa s bd = if (decH s0).2 ≠ 0 then (s, .inl 6) else match decI (all s.C s.S) with
      | .inl e => (s, .inl e)
      | .inr r => if r.1 ≠ bd then (s, .inl 21) else if (dis s).2 ≠ 0 then ((dis s).1, .inl (dis s).2) else ((dis s).1, .inr r) := by
    unfold loa
    rw [hr0, if_neg (by simp)] <;> rfl
  rw [hall] at hs hloa
  have hkn : k = r.length + 1 := by rw [hall] at hl; rw [← hl]; rfl
  have hrn : r.length + 1 = n := by rw [hall] at hal; rw [← hal]; rfl
  refine ixb 0 1 9 (by omega) ?_
  refine slL (o := 0 * 1) hs (v := .string (mkS s0)) rfl (ft ?_)
  refine rdecodeHeader_c fun w1 e1 => ⟨_, _, rfl, ?_⟩
  refine al_st 35 (decH_len _) (decH_one _) fun hb w2 hhb a2 e2 z2 => ?_
  have e02 := e1.tr e2
  by_cases hd0 : (decH s0).2 = 0
  case neg =>
    rw [show ((decH s0).2 != 0) = true by rw [bne_iff_ne]; exact hd0, br_true]
    exact ret 6 w2 s (by rw [hloa, if_pos hd0]) e02.of0 (hrb.ext e02 (fun h => h)) (h.same e02)
  rw [show ((decH s0).2 != 0) = false by rw [hd0]; rfl, br_false]
  rw [if_neg (fun h => h hd0)] at hloa
  have hs2 := hs.ext e02 (fun _ _ h => h)
  have hz2 := e02.size
  refine rdecode_c hs2.reads hkn.symm (by omega) (fun e he w3 e3 => ⟨_, _, rfl, ?_⟩) (fun b g ps hi a3 c3 w3 s3 f3 e3 => ⟨_, _, rfl, ?_⟩)
  · refine al_st 34 (imgC_length rfl) (imgC_one _ _ _ _ _) fun xb w4 hxb a4 e4 z4 => ?_
    have e04 := (e02.tr e3).tr e4
    have hne : e ≠ 0 := by
      unfold decI at he
      split at he
      · cases he; decide
      · split at he
        · cases he; decide
        split at he
        · rename_i hne
          cases he
          exact hne
        split at he
        · cases he; decide
        split at he
        · cases he; decide
        split at he
        · cases he; decide
        split at he
        · cases he
        · cases he; decide
    refine br_pos (by rw [bne_iff_ne]; exact hne) ?_
    rw [he] at hloa
    exact ret e w4 s hloa e04.of0 (hrb.ext e04 (fun h => h)) (h.same e04)
  · have hb32 := decI_board hi
    rw [hi] at hloa
    dsimp only at hloa
    refine al_st 34 (imgC_length hb32) (imgC_one _ _ _ _ _) fun xb w4 hxb a4 e4 z4 => ?_
    have e04 := (e02.tr e3).tr e4
    have hx4 := a4.lt
    have hz3 := e3.size
    have s4 := s3.ext e4 (fun _ _ h => h)
    refine br_neg rfl ?_
    simp only [add_mk, Nat.zero_add]
    refine ld_g 32 a4 (by rw [imgC_length hb32]; omega) (fg ?_)
    have tk : ((imgC b g a3 ps.length c3).drop 0).take 32 = by_ b := by
      unfold imgC
      rw [List.drop_zero]
      exact List.take_left' (by rw [by_length, hb32])
    rw [tk]
    refine ld_w (hv.ext e04 (fun h => h)) (fg ?_) (hs := by rw [by_length, hbd]; kernel_rfl)
    refine qB (fun w => agg_ne (eq_bytes (d := 9998) 5 hb32 hbd)) ?_
    by_cases hbb : b = bd
    case neg =>
      rw [decide_eq_false hbb, Bool.not_false, br_true]
      rw [if_pos hbb] at hloa
      exact ret 21 w4 s hloa e04.of0 (hrb.ext e04 (fun h => h)) (h.same e04)
    rw [decide_eq_true hbb, Bool.not_true, br_false]
    rw [if_neg (fun h => h hbb)] at hloa
    have pl : ∀ q, a3 = some ⟨q, 0, none⟩ → q < w4.heap.size := by
      intro q hq
      subst hq
      exact s4.lt
    have hd4 : Rsk U p (fun q => K q ∨ a3 = some ⟨q, 0, none⟩ ∨ q = xb) w4 s := h.grow e04 fun q hq => by
      rcases hq with hq | hq | hq
      · exact ⟨.inl hq, by have := h.k hq; have := e04.size; omega⟩
      · exact ⟨.inr (by have := f3 q hq; omega), pl q hq⟩
      · subst hq; exact ⟨.inr (by omega), hx4⟩
    refine rdiscard_c hd4 hok hm fun w5 d5 e5 => fi ?_
    have e05 : Ext w w5 (fun b => Xd U K b ∨ b = rb) := e04.of0.trans e5 (fun _ _ h => h) fun q _ hq => .inl ⟨hq.1, fun hc => hq.2 (.inl hc)⟩
    have hr5 : At w5 rb (imgC zb 0 none 0 0) 41 := (hrb.ext e04 (fun h => h)).ext e5 fun hq => hq.2 (.inl k2)
    by_cases hdz : (dis s).2 = 0
    case neg =>
      rw [show ((dis s).2 != 0) = true by rw [bne_iff_ne]; exact hdz, br_true]
      rw [if_pos hdz] at hloa
      exact ret _ w5 _ hloa e05 hr5 (d5.mono fun _ h => .inl h)
    rw [show ((dis s).2 != 0) = false by rw [hdz]; rfl, br_false]
    rw [if_neg (fun h => h hdz)] at hloa
    refine ld_w (a4.ext e5 fun hq => hq.2 (.inr (.inr rfl))) (fg ?_) (hs := by rw [imgC_length hb32]; kernel_rfl)
    refine st_w 34 hr5 rfl (imgC_length hb32) (imgC_one _ _ _ _ _) fun w6 a6 e6 z6 => ?_
    refine ld_w a6 (fg ?_) (hs := by rw [imgC_length hb32]; kernel_rfl)
    have hrbl := hrb.lt
    have := h3 _ (by rw [hloa]) a3 c3 w6 ((s4.ext e5 fun q hq hx => hx.2 (.inr (.inl hq))).ext e6 fun q hq hx => by have := f3 q hq; omega) (fun q hq => by have := f3 q hq; omega)
    rw [hloa] at this
    exact this ((d5.mono fun q hq => by rcases hq with hq | hq; exact .inl hq; exact .inr (.inl hq)).step e6 fun q _ hq => by subst hq; exact .inl k2) (e05.trans e6 (fun _ _ h => h) (fun _ _ h => .inr h))

/-- The reference's Load. -/
theorem rload_c {n m : Nat} {bd : List UInt8} (h : Rsk U p K w s) (hok : Ok n m s) (hm : m + 1 ≤ 1000000) (h1n : 1 ≤ n) (hn : n ≤ 10000) (hbd : bd.length = 32)
    (h0 : ∀ e, (loa s bd).2 = .inl e → ∀ w', Rsk U p K w' (loa s bd).1 → Ext w w' (Xd U K) → Q (.tuple #[.agg (imgC zb 0 none 0 0).toArray, .int .i64 e]) w')
    (h1 : ∀ r, (loa s bd).2 = .inr r → ∀ a c' w', Sl w' 85 2 a r.2.2.length c' (r.2.2.flatMap pgC) → (∀ b, a = some ⟨b, 0, none⟩ → w.heap.size ≤ b) → Rsk U p (fun b => K b ∨ a = some ⟨b, 0, none⟩) w' (loa s bd).1 → Ext w w' (Xd U K) → Q (.tuple #[.agg (imgC r.1 r.2.1 a r.2.2.length c').toArray, .int .i64 0]) w') :
    CallE Try.prog 49 #[.pointer (some ⟨p, 0, none⟩), .agg (by_ bd).toArray] w Q := by
  apply C.ref35_Load
  unfold W.ref35_Load
  refine al_i fun vb w1 hvb a1 e1 z1 => ?_
  change At w1 vb (by_ bd) 31 at a1
  refine al_i fun rb w2 hrb a2 e2 z2 => ?_
  rw [zimg] at a2
  have e02 := e1.tr e2
  have hU := h.usz
  have hlen := hok.len
  have hd2 : Rsk U p (fun b => K b ∨ b = vb ∨ b = rb) w2 s := h.grow e02 fun q hq => by
    have := e02.size
    rcases hq with hq | hq | hq
    · exact ⟨.inl hq, by have := h.k hq; omega⟩
    · subst hq; exact ⟨.inr (by omega), by omega⟩
    · subst hq; exact ⟨.inr (by omega), by omega⟩
  have a12 := a1.ext e2 (fun h => h)
  have hal : (all s.C s.S).length = n := by rw [Bd.all_length, hlen]
  have fold : ∀ {w' : World}, Ext w2 w' (fun b => Xd U (fun b => K b ∨ b = vb ∨ b = rb) b ∨ b = rb) → Ext w w' (Xd U K) := fun e => e02.of0.trans e (fun _ _ h => h) fun q hq hx => by
    rcases hx with hx | hx
    · exact ⟨hx.1, fun hc => hx.2 (.inl hc)⟩
    · omega
  refine LoopW.nat n (fun i x w' => ∃ a' c', x = ((a', i, c'), (i : Int), ()) ∧ (0 < i → s.off = false) ∧ Sl w' 9 1 a' i c' (strs ((all s.C s.S).take i)) ∧ (∀ b, a' = some ⟨b, 0, none⟩ → w2.heap.size ≤ b) ∧ Rsk U p (fun b => (K b ∨ b = vb ∨ b = rb) ∨ a' = some ⟨b, 0, none⟩) w' s ∧ Ext w2 w' (fun _ => False))
    ⟨none, 0, rfl, (fun h => by omega), .inl ⟨rfl, rfl, rfl, rfl⟩, (fun b hb => by cases hb), hd2.grow (Ext.refl _ _) (fun q hq => by rcases hq with hq | hq; exact ⟨.inl hq, hd2.k hq⟩; cases hq), Ext.refl _ _⟩ ?_
  rintro i x w6 next hi ⟨a6, c6, rfl, hon6, s6, f6, d6, e6⟩ hnext
  dsimp only
  refine rdsize_c d6 (fi ?_)
  rw [hlen]
  by_cases hlt : i < n
  · rw [decide_eq_true (by omega), br_true]
    refine rdread_c d6 (hok.le (by omega)) ⟨_, _, rfl, ?_⟩
    by_cases hon : s.off = false
    case neg =>
      have hof : s.off = true := by simpa using hon
      have hi0 : i = 0 := by
        rcases Nat.eq_zero_or_pos i with h | h
        · exact h
        · exact absurd (hon6 h) hon
      subst hi0
      have hrd : rd s ((0 : Nat) : Int) = ([], 16) := by
        unfold rd
        rw [if_neg (by rw [hlen]; omega), hof]
        rfl
      rw [hrd]
      refine br_pos rfl ?_
      have hloa : loa s bd = (s, .inl 16) := by
        have hrd' : rd s 0 = ([], 16) := hrd
        unfold loa
        rw [hrd', if_pos (by simp)]
      refine retz (a2.ext e6 (fun h => h)) rfl fun w7 e7 => ?_
      have := h0 16 (by rw [hloa]) w7
      rw [hloa] at this
      have d7 := d6.step e7 (fun b _ hb => .inl (.inr (.inr hb)))
      exact this (d7.mono fun _ h => .inl (.inl h)) (fold (e6.of0.trans e7 (fun _ _ h => h) (fun _ _ h => .inr h)))
    rw [rd_on hon (by omega)]
    refine br_neg rfl ?_
    refine al_i fun tb w7 htb a7 e7 z7 => ?_
    have hg : (all s.C s.S).getD i [] = (all s.C s.S)[i]'(by omega) := by rw [List.getD_eq_getElem?_getD, List.getElem?_eq_getElem (by omega)]; rfl
    refine ap_i 9 1 (vs := strs [(all s.C s.S).getD i []]) (s6.ext e7 (fun _ _ h => h)) (.inr ⟨_, rfl, fun k hk => by rw [add_mk, a7.cell, Nat.zero_add]; rfl⟩) rfl (strs_one _) (by omega) fun a8 c8 w8 s8 f8 g8 e8 => fs ?_
    have hz6 := e6.size
    have hz7 := e7.size
    have hz8 := e8.size
    have l8 : ∀ q, a8 = some ⟨q, 0, none⟩ → q < w8.heap.size := fun q hq => by
      subst hq
      exact s8.lt
    have d8 : Rsk U p (fun b => (K b ∨ b = vb ∨ b = rb) ∨ a8 = some ⟨b, 0, none⟩) w8 s := (d6.same e7).both e8 (fun b _ hb => .inr hb) fun q hq => by
      rcases hq with hq | hq
      · exact ⟨.inl (.inl hq), by have := d6.k (.inl hq); omega⟩
      · refine ⟨?_, l8 q hq⟩
        rcases f8 q hq with hx | hx
        · exact .inl (.inr hx)
        · exact .inr hx
    rw [inc_nat (by omega)]
    refine hnext hlt _ _ ⟨a8, c8, rfl, fun _ => hon, ?_, fun q hq => ?_, d8, (e6.tr e7).trans e8 (fun _ _ h => h) fun q hq hx => by have := f6 q hx; omega⟩
    · have : (all s.C s.S).take (i + 1) = (all s.C s.S).take i ++ [(all s.C s.S).getD i []] := by rw [hg]; exact (List.take_append_getElem (by omega)).symm
      rw [this, strs_append]
      exact s8
    · rcases f8 q hq with hx | hx
      · exact f6 q hx
      · omega
  rw [decide_eq_false (by omega), br_false]
  rw [List.take_of_length_le (by omega)] at s6
  obtain ⟨sb, rfl⟩ := s6.one_block (by omega)
  have hon := hon6 (by omega)
  have ex : ∀ {w' : World}, Ext w6 w' (fun b => Xd U (fun b => (K b ∨ b = vb ∨ b = rb) ∨ some (⟨sb, 0, none⟩ : Addr) = some ⟨b, 0, none⟩) b ∨ b = rb) → Ext w w' (Xd U K) := fun e => fold (e6.of0.trans e (fun _ _ h => h) fun q _ hx => by
    rcases hx with hx | hx
    · exact .inl ⟨hx.1, fun hc => hx.2 (.inl hc)⟩
    · exact .inr hx)
  have hz2 := e02.size
  have hz6 := e6.size
  refine rload_k9 d6 hok hm h1n hn hbd (a12.ext e6 (fun h => h)) (a2.ext e6 (fun h => h)) s6 (.inl (.inr (.inl rfl))) (.inl (.inr (.inr rfl))) hon (fun e he w7 d7 e7 => ?_) (fun r hr a7 c7 w7 s7 f7 d7 e7 => ?_)
  · exact h0 e he w7 (d7.mono fun _ h => .inl (.inl h)) (ex e7)
  · exact h1 r hr a7 c7 w7 s7 (fun q hq => by have := f7 q hq; omega) (d7.mono fun q hq => by rcases hq with hq | hq; exact .inl (.inl (.inl hq)); exact .inr hq) (ex e7)
end
end Go.Proofs.Ytpinpccamfhofaa.Hi
