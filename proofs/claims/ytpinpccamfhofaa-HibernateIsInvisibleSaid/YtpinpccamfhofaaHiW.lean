/-
  The statement HibernateIsInvisible over the code, second part. No condition beyond those stated.
-/
import Derived.Test.YtpinpccamfhofaaHiY
set_option linter.unusedVariables false
set_option linter.unusedSimpArgs false
set_option maxRecDepth 100000
namespace Go.Proofs.Ytpinpccamfhofaa.Hi
open Go Go.Ev Go.Proofs Go.Proofs.Ytpinpccamfhofaa.Im
open Go.Proofs.Ytpinpccamfhofaa.Bd (St Sec Dk Ok wr fl rd cut pOff pOn zs all new lose KOk)

section
variable {U w w' : World} {Q : Value → World → Prop} {p : Nat} {s : St} {K K' X : Nat → Prop}

theorem invisible_k31 {la : Option Addr} {ln lc ab bb n ac bc k : Nat} {xs : List Sto} {A B : List Sec} (hs : Sin U la ln lc xs) (h40 : ln ≤ 40) (hk : k ≤ ln) (ha : Sl w 9 1 (some ⟨ab, 0, none⟩) n ac (strs A)) (hal : A.length = n) (hb : Sl w 9 1 (some ⟨bb, 0, none⟩) n bc (strs B)) (hbl : B.length = n) (h256 : ∀ m ∈ B, m.length = 256) (hA : A = runM B (xs.drop k)) (hne : ab ≠ bb) (hU : U.heap.size ≤ bb) (hn0 : 0 < n) (hn : n ≤ 6)
    (e0 : Ext U w (fun _ => False)) (hQ : ∀ w', Ext U w' (fun _ => False) → Q (.bool true) w') : W.law35_HibernateIsInvisible_k31 la ln lc (some ⟨ab, 0, none⟩) n ac (some ⟨bb, 0, none⟩) n bc (k : Int) w Q := by
  unfold W.law35_HibernateIsInvisible_k31
  refine rq_r (sl_lo_any 138 3 hk) (fs ?_)
  have hsl := hs.hn
  have hs0 := hs.ext e0
  have hr := reads_drop (c := lc) (i := k) hs0.r stoC_len (by omega) (by omega) (by have := hs.hc; omega)
  have hlt : ∀ q : Addr, (if lc = k then la else la.map (·.add (k * 3))) = some q → xs.drop k ≠ [] → q.block ≠ bb := by
    intro q hq hne
    have h0 : k < xs.length := by
      rcases Nat.lt_or_ge k xs.length with h | h
      · exact h
      · exact absurd (List.drop_of_length_le h) hne
    rcases reads_drop (c := lc) (i := k) hs.r stoC_len (by omega) (by omega) (by have := hs.hc; omega) with hh | ⟨p', hp', hh⟩
    · exfalso
      have := congrArg List.length hh
      rw [flat_length stoC_len, List.length_drop, List.length_nil] at this
      omega
    · rw [hq] at hp'
      cases hp'
      have h1 := hh 0 (by rw [flat_length stoC_len, List.length_drop]; omega)
      rw [List.getElem?_eq_getElem (by rw [flat_length stoC_len, List.length_drop]; omega)] at h1
      have := cell_lt h1
      rw [show (q.add 0).block = q.block by unfold Addr.add; split <;> rfl] at this
      omega
  refine run_c hr (by rw [List.length_drop]; omega) (by omega) hb hbl hn0 (by omega) h256 hlt fun w1 b1 e1 => ⟨rfl, ?_⟩
  have a1 := ha.ext e1 (fun b hb' hc => by simp only [Option.some.injEq, Addr.mk.injEq, and_true] at hb'; omega)
  have e01 : Ext U w1 (fun _ => False) := e0.trans e1 (fun _ _ h => h) (fun b hb' hc => by omega)
  refine equalStrs_c a1.reads b1.reads hal (by rw [runM_length]; exact hbl) (by omega) fun w2 e2 => fb ?_
  refine br_pos (decide_eq_true hA) ?_
  exact awake_fin (e01.tr e2) hQ

theorem invisible_k20 {la ka pa : Option Addr} {ln lc ab bb n ac bc k kn kc ib pc : Nat} {xs : List Sto} {A B : List Sec} {kl : List Bool} (h : Dsk U p K w (onD (List.replicate 60 zs))) (hs : Sin U la ln lc xs) (hkl : KOk U ka kn kl) (h40 : ln ≤ 40) (hk : k ≤ ln) (ha : Sl w 9 1 (some ⟨ab, 0, none⟩) n ac (strs A)) (hal : A.length = n) (hb : Sl w 9 1 (some ⟨bb, 0, none⟩) n bc (strs B)) (hbl : B.length = n) (h256 : ∀ m ∈ B, m.length = 256) (hA : A = runM B (xs.drop k)) (hne : ab ≠ bb) (hU : U.heap.size ≤ bb) (hn0 : 0 < n) (hn : n ≤ 6)
    (hi : At w ib (imgC (bdN 1) 1 pa (psOf B (List.range n)).length pc) 41) (hp : Sl w 85 2 pa (psOf B (List.range n)).length pc ((psOf B (List.range n)).flatMap pgC)) (ka' : K ab) (kb' : K bb)
    (e0 : Ext U w (fun _ => False)) (hQ : ∀ w', Ext U w' (fun _ => False) → Q (.bool true) w') : W.law35_HibernateIsInvisible_k20 la ln lc ka kn kc (some ⟨ab, 0, none⟩) n ac (some ⟨bb, 0, none⟩) n bc (k : Int) (some ⟨p, 0, none⟩) ⟨ib, 0, none⟩ w Q := by
  unfold W.law35_HibernateIsInvisible_k20
  have hbd := bdN_len 1
  have hlp := psOf_length B (List.range n)
  rw [List.length_range] at hlp
  have hP : OkP (psOf B (List.range n)) := psOf_ok (fun j hj => by have := List.mem_range.1 hj; omega) (by omega) List.pairwise_lt_range (by rw [List.length_range]; omega) h256
  have hfew := secs_few (g := 1) (bd := bdN 1) hP (by omega)
  have hel : ∀ i (h : i < (psOf B (List.range n)).length) (h' : i < B.length), (psOf B (List.range n))[i] = ((i : Int), B[i]) := by
    intro i h h'
    simp only [psOf, List.getElem_map, List.getElem_range]
    rw [List.getD_eq_getElem?_getD, List.getElem?_eq_getElem h']
    rfl
  generalize psOf B (List.range n) = ps at *
  refine ld_w hi (fg ?_) (hs := by rw [imgC_length hbd]; kernel_rfl)
  have hsv := sav_secs (S := List.replicate 60 zs) (g := 1) (bd := bdN 1) (ps := ps) hbd (by rw [List.length_replicate]; omega)
  refine save_c h onD_ok (by omega) hbd hp.reads rfl hP fun w1 d1 e1 => fi ?_
  rw [hsv] at d1 ⊢
  dsimp only at d1 ⊢
  change Dsk U p _ w1 (onD (savedS 60 1 (bdN 1) ps)) at d1
  refine br_neg rfl ?_
  have hlen := savedS_len (n := 60) (g := 1) (bd := bdN 1) (ps := ps) (by omega)
  have hok := onD_ok (S := savedS 60 1 (bdN 1) ps)
  rw [hlen] at hok
  have e01 := Xd.u e0 e1
  have hk1 := hkl.ext e01
  refine doff_c (kl := kl) d1 (hok.le (by omega)) hk1.r hk1.n hkl.lt fun w2 d2 e2 => fi ?_
  have hpo : pOff (onD (savedS 60 1 (bdN 1) ps)) kl = (⟨savedS 60 1 (bdN 1) ps, [], true, none⟩, 0) := rfl
  rw [hpo] at d2 ⊢
  refine br_neg rfl ?_
  refine don_c d2 fun w3 d3 e3 => fi ?_
  have hpn : pOn ⟨savedS 60 1 (bdN 1) ps, [], true, none⟩ = (onD (savedS 60 1 (bdN 1) ps), 0) := rfl
  rw [hpn] at d3 ⊢
  refine br_neg rfl ?_
  have hl := loa_saved (n := 60) (bd' := bdN 1) hbd (show 1 < 18446744073709551616 by omega) hP
  rw [if_neg (by simp)] at hl
  refine load_c (bd := bdN 1) d3 hok (by omega) (by omega) (by omega) hbd (fun e he => by rw [hl] at he; cases he) fun r hr a4 c4 w4 s4 f4 d4 e4 => ⟨_, _, rfl, ?_⟩
  rw [hl] at hr
  cases hr
  dsimp only at s4 ⊢
  refine al_st 34 (imgC_length hbd) (imgC_one _ _ _ _ _) fun xb w5 hxb a5 e5 z5 => ?_
  refine br_neg rfl ?_
  have e05 := (Xd.u (Xd.u (Xd.u e01 e2) e3) e4).tr e5
  have one : ∀ {q : Nat}, K q → ∀ b, some (⟨q, 0, none⟩ : Addr) = some ⟨b, 0, none⟩ → K b := fun hq b hb => by
    simp only [Option.some.injEq, Addr.mk.injEq, and_true] at hb
    subst hb
    exact hq
  have hold : ∀ {q m c : Nat} {xs : List Value} {t : TypeId} {k : Nat}, K q → Sl w t k (some ⟨q, 0, none⟩) m c xs → Sl w5 t k (some ⟨q, 0, none⟩) m c xs := fun hq hs => (Sl.held (Sl.held (Sl.held (Sl.held hs e1 (one hq)) e2 (one hq)) e3 (one hq)) e4 (one hq)).ext e5 (fun _ _ h => h)
  have aa5 := hold ka' ha
  have bb5 := hold kb' hb
  have s5 := s4.ext e5 (fun _ _ h => h)
  simp only [add_mk, Nat.zero_add]
  refine ldL a5 (imgC_33 hbd) ?_
  refine br_neg (by rw [hlp]; simp) ?_
  have hx5 : xb ≠ bb := by
    have := d4.k (.inl kb')
    omega
  have hp5 : a4 ≠ some ⟨bb, 0, none⟩ := by
    intro hc
    have h1 := f4 bb hc
    have h2 := d3.k kb'
    omega
  refine LoopW.nat n (fun i x w' => x = ((i : Int), ()) ∧ Sl w' 9 1 (some ⟨bb, 0, none⟩) n bc (strs B) ∧ Ext w5 w' (· = bb)) ⟨rfl, bb5, Ext.refl _ _⟩ ?_
  rintro i x w6 next hi6 ⟨rfl, b6, e6⟩ hnext
  dsimp only
  have e06 : Ext U w6 (fun _ => False) := e05.trans e6 (fun _ _ h => h) (fun b hb' hc => by omega)
  by_cases hlt : i < n
  case neg =>
    rw [decide_eq_false (by omega), br_false]
    exact invisible_k31 hs h40 hk (aa5.ext e6 (fun b hb' hc => by simp only [Option.some.injEq, Addr.mk.injEq, and_true] at hb'; omega)) hal b6 hbl h256 hA hne hU hn0 hn e06 hQ
  rw [decide_eq_true (by omega), br_true]
  have x6 := a5.ext e6 hx5
  have s6 := (s5.ext e6 (fun b hb' hc => hp5 (by rw [hb', hc]))).reads
  obtain ⟨q, hq⟩ := s5.one_block (by omega)
  subst hq
  have hi' : i < ps.length := by omega
  have hE := hel i hi' (by omega)
  refine ldL x6 (imgC_33 hbd) ?_
  refine ixs i 2 85 hi' ?_
  refine rdF (o := 0) i hi' s6 pgC_length (by omega) (v := .int .i64 (i : Int)) (by rw [hE]; rfl) (fi ?_)
  refine br_neg (by simp) ?_
  refine ldL x6 (imgC_33 hbd) ?_
  refine ixs i 2 85 hi' ?_
  refine rdF (o := 1) i hi' s6 pgC_length (by omega) (v := .string (mkS (B[i]'(by omega)))) (by rw [hE]; rfl) (ft ?_)
  refine br_neg (by rw [mkS_size, h256 _ (List.getElem_mem _)]; rfl) ?_
  refine ldL x6 (imgC_33 hbd) ?_
  refine ixs i 2 85 hi' ?_
  refine rdF (o := 1) i hi' s6 pgC_length (by omega) (v := .string (mkS (B[i]'(by omega)))) (by rw [hE]; rfl) (ft ?_)
  refine ixb i 1 9 hlt ?_
  rw [Nat.mul_one]
  refine slS b6 (by rw [strs_length]; omega) fun w7 s7 e7 z7 => ?_
  rw [strs_set, List.set_getElem_self] at s7
  rw [inc_nat (by omega)]
  exact hnext hlt _ _ ⟨rfl, s7, e6.tr e7⟩

theorem invisible_k9 {la ka aa ba : Option Addr} {ln lc n ac bc kn kc : Nat} {cut_ : Int} {xs : List Sto} {mem : List Sec} {kl : List Bool} (hs : Sin U la ln lc xs) (hkl : KOk U ka kn kl) (h40 : ln ≤ 40) (ha : Sl w 9 1 aa n ac (strs mem)) (hb : Sl w 9 1 ba n bc (strs mem)) (hml : mem.length = n) (h256 : ∀ m ∈ mem, m.length = 256) (hne : ∀ b, aa = some ⟨b, 0, none⟩ → ba ≠ some ⟨b, 0, none⟩) (fa' : ∀ b, aa = some ⟨b, 0, none⟩ → U.heap.size ≤ b) (fb' : ∀ b, ba = some ⟨b, 0, none⟩ → U.heap.size ≤ b) (hn0 : 0 < n) (hn : n ≤ 6)
    (e0 : Ext U w (fun _ => False)) (hQ : ∀ w', Ext U w' (fun _ => False) → Q (.bool true) w') : W.law35_HibernateIsInvisible_k9 la ln lc cut_ ka kn kc aa n ac ba n bc w Q := by
  unfold W.law35_HibernateIsInvisible_k9
  rw [inc_nat (by omega)]
  refine mod_c (by omega) (by omega) (fi ?_)
  have hkb := modv_bd (v := cut_) (n := ((ln + 1 : Nat) : Int)) (by omega)
  obtain ⟨k, hk⟩ := nat_of hkb.1
  rw [hk] at hkb ⊢
  obtain ⟨ab, rfl⟩ := ha.one_block hn0
  obtain ⟨bb, rfl⟩ := hb.one_block hn0
  have hab : ab ≠ bb := fun h => hne ab rfl (by rw [h])
  have ua := fa' ab rfl
  have ub := fb' bb rfl
  have hlt : ∀ q : Addr, la = some q → xs ≠ [] → q.block < U.heap.size := by
    intro q hq hx
    rcases hs.r with hh | ⟨p', hp', hh⟩
    · exfalso
      have := congrArg List.length hh
      rw [flat_length stoC_len, List.length_nil] at this
      have : 0 < xs.length := List.length_pos_iff.2 hx
      omega
    · rw [hq] at hp'
      cases hp'
      have hpos : 0 < (xs.flatMap stoC).length := by
        rw [flat_length stoC_len]
        have : 0 < xs.length := List.length_pos_iff.2 hx
        omega
      have h1 := hh 0 hpos
      rw [List.getElem?_eq_getElem hpos] at h1
      have := cell_lt h1
      rwa [show (q.add 0).block = q.block by unfold Addr.add; split <;> rfl] at this
  have hs0 := hs.ext e0
  refine run_c hs0.r hs.hn (by omega) ha hml hn0 (by omega) h256 (fun q hq hx => by have := hlt q hq hx; omega) fun w1 a1 e1 => ⟨rfl, ?_⟩
  have b1 := hb.ext e1 (fun b hb' hc => by simp only [Option.some.injEq, Addr.mk.injEq, and_true] at hb'; omega)
  have e01 : Ext U w1 (fun _ => False) := e0.trans e1 (fun _ _ h => h) (fun b hb' hc => by omega)
  refine rq_r (sl_hi_any 138 (by have := hs.hc; omega)) (fs ?_)
  have hsn := hs.hn
  refine run_c (xs := xs.take k) (reads_take (hs.ext e01).r) (by rw [List.length_take]; omega) (by omega) b1 hml hn0 (by omega) h256 (fun q hq hx => by have := hlt q hq (fun h => hx (by rw [h, List.take_nil])); omega) fun w2 b2 e2 => ⟨rfl, ?_⟩
  have a2 := a1.ext e2 (fun b hb' hc => by simp only [Option.some.injEq, Addr.mk.injEq, and_true] at hb'; omega)
  have e02 : Ext U w2 (fun _ => False) := e01.trans e2 (fun _ _ h => h) (fun b hb' hc => by omega)
  have hA : runM mem xs = runM (runM mem (xs.take k)) (xs.drop k) := by rw [← runM_append, List.take_append_drop]
  have hBl : (runM mem (xs.take k)).length = n := by rw [runM_length]; exact hml
  have hAl : (runM mem xs).length = n := by rw [runM_length]; exact hml
  have hB256 := runM_256 (l := xs.take k) (by omega) h256
  generalize runM mem (xs.take k) = B at *
  generalize runM mem xs = A at *
  refine dnew_c (U := U) (K := fun b => b < w2.heap.size) (n := 60) (by omega) (by omega) e02 (fun b hb => hb) fun p w3 d3 e3 => ⟨_, _, rfl, ?_⟩
  refine br_neg rfl ?_
  refine eq_nil (fb (br_neg rfl ?_))
  have hbd := bdN_len 1
  refine rq_r (buildI2 (bd := bdN 1) (g := 1) hbd) (fg ?_)
  refine al_st (vs := imgC (bdN 1) 1 none 0 0) 34 (imgC_length hbd) (imgC_one _ _ _ _ _) fun ib w4 hib a4 e4 z4 => ?_
  have la2 := a2.lt
  have lb2 := b2.lt
  have hz3 := e3.size
  have li := a4.lt
  have hz4 := e4.size
  have e24 := e3.tr e4
  have A4 := a2.ext e24 (fun _ _ h => h)
  have B4 := b2.ext e24 (fun _ _ h => h)
  refine LoopW.nat n (fun i x w' => ∃ pa pc, x = ((i : Int), ()) ∧ At w' ib (imgC (bdN 1) 1 pa (psOf B (List.range i)).length pc) 41 ∧ Sl w' 85 2 pa (psOf B (List.range i)).length pc ((psOf B (List.range i)).flatMap pgC) ∧ (∀ b, pa = some ⟨b, 0, none⟩ → b ≠ ib ∧ w4.heap.size ≤ b) ∧ Ext w4 w' (· = ib))
    ⟨none, 0, rfl, a4, .inl ⟨rfl, rfl, rfl, rfl⟩, (fun b hb => by cases hb), Ext.refl _ _⟩ ?_
  rintro i x w6 next hi ⟨pa, pc, rfl, a6, s6, f6, e6⟩ hnext
  dsimp only
  have hz6 := e6.size
  have A6 := A4.ext e6 (fun b hb' hc => by simp only [Option.some.injEq, Addr.mk.injEq, and_true] at hb'; omega)
  have B6 := B4.ext e6 (fun b hb' hc => by simp only [Option.some.injEq, Addr.mk.injEq, and_true] at hb'; omega)
  by_cases hlt : i < n
  case neg =>
    rw [decide_eq_false (by omega), br_false]
    obtain rfl : i = n := by omega
    have e36 : Ext w3 w6 (fun _ => False) := e4.trans e6 (fun _ _ h => h) (fun b hb hc => by omega)
    exact invisible_k20 (d3.same e36) hs hkl h40 (by omega) A6 hAl B6 hBl hB256 hA hab ub hn0 hn a6 s6 (by show ab < _; omega) (by show bb < _; omega) ((e02.tr e3).tr e36) hQ
  rw [decide_eq_true (by omega), br_true]
  simp only [add_mk, Nat.zero_add]
  refine ⟨fun _ => True, trivial, ?_⟩
  refine ixbS i 1 9 hlt ?_
  have ed : Ext w6 (drew w6) (fun _ => False) := (Ext.refl w6 _).drew_
  generalize hw0 : drew w6 = w0
  rw [hw0] at ed
  have E0 : Ext w0 w0 (fun _ => False) := Ext.refl _ _
  have hib0 := a6.ext ed (fun h => h)
  have hs0 := s6.ext ed (fun _ _ h => h)
  have m0 := B6.ext ed (fun _ _ h => h)
  have hg : B.getD i [] = B[i]'(by omega) := by rw [List.getD_eq_getElem?_getD, List.getElem?_eq_getElem (by omega)]; rfl
  have ldp : ∀ {w' : World} {K : Option Addr → Nat → Nat → Prop}, Ext w0 w' (fun _ => False) → K pa (psOf B (List.range i)).length pc → ld Try.prog 39 ⟨ib, 33, none⟩ w' fun v => fS v fun l n c => True ∧ K l n c :=
    fun e hK => ldL (hib0.ext e (fun h => h)) (imgC_33 hbd) ⟨trivial, hK⟩
  have ldm : ∀ {w' : World} {K : ByteArray → Prop}, Ext w0 w' (fun _ => False) → K (mkS (B.getD i [])) → ld Try.prog 9 ⟨bb, i * 1, none⟩ w' fun v => fT v fun t => True ∧ K t :=
    fun e hK => slL (m0.ext e (fun _ _ h => h)) (by rw [Nat.mul_one]; exact strs_get (by omega)) (ft ⟨trivial, by rw [← hg]; exact hK⟩)
  have alp : ∀ {w' : World} {K : Addr → World → Prop}, Ext w0 w' (fun _ => False) → (∀ tb w'', At w'' tb (pgC ((i : Int), B.getD i [])) 85 → Ext w0 w'' (fun _ => False) → K ⟨tb, 0, none⟩ w'') → al 85 #[.int .i64 (i : Int), .string (mkS (B.getD i []))] w' fun a w'' => True ∧ K a w'' :=
    fun e hK => al_i fun tb w'' htb a'' e'' z'' => ⟨trivial, hK tb w'' a'' (e.tr e'')⟩
  have fin : ∀ {w' : World} {tb : Nat}, At w' tb (pgC ((i : Int), B.getD i [])) 85 → Ext w0 w' (fun _ => False) →
      rv Try.prog (Builtin.append_ #[39, 39] 39 #[.slice pa (psOf B (List.range i)).length pc, .slice (some ⟨tb, 0, none⟩) 1 1]) w' fun v w'' => fS v fun l n c => True ∧ st Try.prog 39 ⟨ib, 33, none⟩ (.slice l n c) w'' fun w3 => True ∧ next ((IntKind.wrap .i64 ((i : Int) + 1) : Int), ()) w3 := by
    intro w' tb htb e
    refine ap_i 85 2 (vs := pgC ((i : Int), B.getD i [])) (hs0.ext e (fun _ _ h => h)) (.inr ⟨_, rfl, fun k hk => by rw [add_mk, htb.cell, Nat.zero_add]⟩) rfl (pgC_one _) (by rw [psOf_length, List.length_range]; omega) fun a1 c1 w1 s1 f1 g1 e1 => fs ⟨trivial, ?_⟩
    have hi1 := (hib0.ext e (fun h => h)).ext e1 (fun h => (f6 ib h).1 rfl)
    refine st_i hi1 (by rw [imgC_length hbd]; omega) fun w2 a2 e2 z2 => ⟨trivial, ?_⟩
    rw [imgC_set hbd] at a2
    rw [inc_nat (by omega)]
    have hlti := (hib0.ext e (fun h => h)).lt
    have hz0 := ed.size
    have hz' := e.size
    have hne1 : ∀ b, a1 = some ⟨b, 0, none⟩ → b ≠ ib ∧ w4.heap.size ≤ b := by
      intro b hb
      rcases f1 b hb with hx | hx
      · exact f6 b hx
      · exact ⟨by omega, by omega⟩
    have hps : psOf B (List.range (i + 1)) = psOf B (List.range i) ++ [((i : Int), B.getD i [])] := by
      rw [List.range_succ, psOf_snoc]
    refine hnext hlt _ _ ⟨a1, c1, rfl, ?_, ?_, hne1, ?_⟩
    · rw [hps, List.length_append]
      exact a2
    · rw [hps, List.length_append, List.flatMap_append]
      simpa using s1.ext e2 (fun b hb => (hne1 b hb).1)
    · exact ((e6.tr0 (ed.tr e)).trans e1 (Z := fun b => b = ib) (fun _ _ h => h) (fun b hb hx => by have := (f6 b hx).2; omega)).trans e2 (fun _ _ h => h) (fun _ _ h => h)
  repeat' with_reducible first
    | refine ldp (by assumption) ?_
    | refine ldm (by assumption) ?_
    | refine alp (by assumption) fun _ _ _ _ => ?_
    | refine And.intro ?_ ?_
    | exact fin (by assumption) (by assumption)

theorem invisible_k2 {l la ka : Option Addr} {rn rc ln lc kn kc : Nat} {cut_ : Int} {rs : List Rw} {xs : List Sto} {kl : List Bool} {b : Bool} (hr : Rin w l rn rs) (hs : Sin w la ln lc xs) (hkl : KOk w ka kn kl) (hb : b = false → 0 < rn ∧ rn ≤ 6 ∧ ln ≤ 40) (hQ : ∀ w', Ext w w' (fun _ => False) → Q (.bool true) w') :
    W.law35_HibernateIsInvisible_k2 l rn rc la ln lc cut_ ka kn kc b w Q := by
  unfold W.law35_HibernateIsInvisible_k2
  refine br_of (fun _ => awake_fin (Ext.refl _ _) hQ) fun hbf => ?_
  obtain ⟨hn0, hn6, h40⟩ := hb hbf
  have hrn := hr.n
  refine LoopW.nat rn (fun i x w' => ∃ aa ac ba bc mem, x = ((aa, i, ac), (ba, i, bc), (i : Int), ()) ∧ Sl w' 9 1 aa i ac (strs mem) ∧ Sl w' 9 1 ba i bc (strs mem) ∧ mem.length = i ∧ (∀ m ∈ mem, m.length = 256) ∧ (∀ b, aa = some ⟨b, 0, none⟩ → ba ≠ some ⟨b, 0, none⟩) ∧ (∀ b, aa = some ⟨b, 0, none⟩ → w.heap.size ≤ b) ∧ (∀ b, ba = some ⟨b, 0, none⟩ → w.heap.size ≤ b) ∧ Ext w w' (fun _ => False))
    ⟨none, 0, none, 0, [], rfl, .inl ⟨rfl, rfl, rfl, rfl⟩, .inl ⟨rfl, rfl, rfl, rfl⟩, rfl, by simp, (fun b hb => by cases hb), (fun b hb => by cases hb), (fun b hb => by cases hb), Ext.refl _ _⟩ ?_
  rintro i x w1 next hi ⟨aa, ac, ba, bc, mem, rfl, a1, b1, hml, h256, hne, fa1, fb1, e1⟩ hnext
  dsimp only
  by_cases hlt : i < rn
  case neg =>
    rw [decide_eq_false (by omega), br_false]
    obtain rfl : i = rn := by omega
    exact invisible_k9 hs hkl h40 a1 b1 hml h256 hne fa1 fb1 hn0 hn6 e1 hQ
  rw [decide_eq_true (by omega), br_true]
  obtain ⟨q, rfl⟩ := hr.ptr (by omega)
  have hi' : i < rs.length := by omega
  refine ⟨fun w' => Ext w w' (fun _ => False), e1.drew_, ?_⟩
  refine ixsS i 3 81 hlt ?_
  refine rdFS (o := 1) i hi' (fun w' h => (hr.ext h).r) Rw.len (by omega) rfl (fs ?_)
  refine ixsS i 3 81 hlt ?_
  refine rdFS (o := 2) i hi' (fun w' h => (hr.ext h).r) Rw.len (by omega) rfl (fi ?_)
  obtain ⟨hU, hst0, hst1⟩ := (hr.ext (w' := drew w1) e1.drew_).ok rs[i] (List.getElem_mem hi')
  refine Pz.page_c hU hst0 hst1 fun d w2 hd e2 => ft ?_
  have e12 : Ext w1 w2 (fun _ => False) := e2.of_drew
  have e02 := e1.tr e12
  refine ⟨e02, ?_⟩
  refine al_i fun tb w3 htb a3 e3 z3 => ?_
  have e13 := e12.tr e3
  have e03 := e1.tr e13
  refine ⟨e03, ?_⟩
  refine ap_i 9 1 (vs := strs [d]) (a1.ext e13 (fun _ _ h => h)) (.inr ⟨_, rfl, fun k hk => by rw [add_mk, a3.cell, Nat.zero_add]; rfl⟩) rfl (strs_one _) (by omega) fun a4 c4 w4 s4 f4 g4 e4 => fs ?_
  obtain ⟨ab, rfl⟩ := s4.one_block (by omega)
  have hz3 := e03.size
  have lt1 : ∀ b, ba = some ⟨b, 0, none⟩ → b < w1.heap.size := fun b hb => by
    subst hb
    exact b1.lt
  have hz13 := e13.size
  have e04 : Ext w w4 (fun _ => False) := e03.trans e4 (fun _ _ h => h) (fun b hb hc => by have := fa1 b hc; omega)
  have uab : w.heap.size ≤ ab := by
    rcases f4 ab rfl with hx | hx
    · exact fa1 _ hx
    · omega
  have nab : ba ≠ some ⟨ab, 0, none⟩ := by
    intro hc
    rcases f4 ab rfl with hx | hx
    · exact hne _ hx hc
    · have := lt1 _ hc; omega
  refine ⟨e04, ?_⟩
  have b4 : Sl w4 9 1 ba i bc (strs mem) := (b1.ext e13 (fun _ _ h => h)).ext e4 (fun b hb hc => hne b hc hb)
  rw [← strs_append] at s4
  have hml4 : (mem ++ [d]).length = i + 1 := by rw [List.length_append, hml]; rfl
  have hgi : (mem ++ [d])[i]'(by omega) = d := by rw [List.getElem_append_right (by omega)]; simp
  refine ixb i 1 9 (by omega) ?_
  refine slL s4 (by rw [Nat.mul_one]; exact strs_get (by omega)) (ft ?_)
  rw [hgi]
  refine al_i fun ub w5 hub a5 e5 z5 => ?_
  refine ap_i 9 1 (vs := strs [d]) (b4.ext e5 (fun _ _ h => h)) (.inr ⟨_, rfl, fun k hk => by rw [add_mk, a5.cell, Nat.zero_add]; rfl⟩) rfl (strs_one _) (by omega) fun a6 c6 w6 s6 f6 g6 e6 => fs ?_
  rw [← strs_append] at s6
  have hz4 := e04.size
  have hz5 := e5.size
  have lab := s4.lt
  rw [inc_nat (by omega)]
  refine hnext hlt _ _ ⟨some ⟨ab, 0, none⟩, c4, a6, c6, mem ++ [d], rfl, (s4.ext e5 (fun _ _ h => h)).ext e6 (fun b hb hc => nab (by rw [hc, hb])), s6, hml4, fun m hm => ?_, fun b hb hc => ?_, fun b hb => ?_, fun b hb => ?_, (e04.tr e5).trans e6 (fun _ _ h => h) (fun b hb hc => by have := fb1 b hc; omega)⟩
  · rcases List.mem_append.1 hm with hm | hm
    · exact h256 m hm
    · rw [List.mem_singleton.1 hm]; exact hd
  · simp only [Option.some.injEq, Addr.mk.injEq, and_true] at hb
    subst hb
    rcases f6 _ hc with hx | hx
    · exact nab hx
    · omega
  · simp only [Option.some.injEq, Addr.mk.injEq, and_true] at hb
    omega
  · rcases f6 b hb with hx | hx
    · exact fb1 b hx
    · omega

theorem invisible_c {l la ka : Option Addr} {rn rc ln lc kn kc : Nat} {cut_ : Int} {rs : List Rw} {xs : List Sto} {kl : List Bool} (hr : Rin w l rn rs) (hs : Sin w la ln lc xs) (hkl : KOk w ka kn kl) (hQ : ∀ w', Ext w w' (fun _ => False) → Q (.bool true) w') :
    CallE Try.prog 9 #[.slice l rn rc, .slice la ln lc, .int .i64 cut_, .slice ka kn kc] w Q := by
  apply C.law35_HibernateIsInvisible
  unfold W.law35_HibernateIsInvisible
  refine large_c hr fun b hb => fb ?_
  refine br_of (fun _ => invisible_k2 hr hs hkl (fun h => by cases h) hQ) fun hbf => ?_
  have h6 := hb hbf
  refine br_of (fun _ => invisible_k2 hr hs hkl (fun h => by cases h) hQ) fun h0 => ?_
  refine invisible_k2 hr hs hkl (fun h => ⟨?_, h6, ?_⟩) hQ
  · rw [beq_eq_false_iff_ne] at h0; omega
  · have := of_decide_eq_false h; omega
end
end Go.Proofs.Ytpinpccamfhofaa.Hi
