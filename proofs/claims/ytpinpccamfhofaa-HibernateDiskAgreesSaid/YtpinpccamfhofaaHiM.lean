/-
  The statements HibernateSaveLoad and HibernateRefuses over the code. No condition beyond those stated.
-/
import Derived.Test.YtpinpccamfhofaaHiO
set_option linter.unusedVariables false
set_option linter.unusedSimpArgs false
set_option maxRecDepth 100000
namespace Go.Proofs.Ytpinpccamfhofaa.Hi
open Go Go.Ev Go.Proofs Go.Proofs.Ytpinpccamfhofaa.Im
open Go.Proofs.Ytpinpccamfhofaa.Bd (St Sec Dk Ok wr fl rd cut pOff pOn zs all new lose)

def bdN (x : UInt8) : List UInt8 := x :: List.replicate 31 0
theorem bdN_len (x : UInt8) : (bdN x).length = 32 := rfl
theorem bdN_inj {x y : UInt8} (h : x ≠ y) : bdN x ≠ bdN y := fun hc => h (List.head_eq_of_cons_eq hc)
/-- The disk after a saving. -/
def savedS (n g : Nat) (bd : List UInt8) (ps : List Pg) : List Sec := secs g bd ps ++ (List.replicate n zs).drop (secs g bd ps).length
theorem savedS_len {n g : Nat} {bd : List UInt8} {ps : List Pg} (h : (secs g bd ps).length ≤ n) : (savedS n g bd ps).length = n := by
  unfold savedS
  rw [List.length_append, List.length_drop, List.length_replicate]
  omega
theorem loa_saved {n g : Nat} {bd bd' : List UInt8} {ps : List Pg} (hb : bd.length = 32) (hg : g < 18446744073709551616) (hP : OkP ps) : loa (onD (savedS n g bd ps)) bd' = if bd ≠ bd' then (onD (savedS n g bd ps), .inl 21) else (onD ((savedS n g bd ps).set 0 zs), .inr (bd, g, ps)) :=
  loa_some rfl hb hg hP (fun d hd => rep_len d (List.mem_of_mem_drop hd))
theorem loa_gone {S : List Sec} {bd : List UInt8} (h : 0 < S.length) : loa (onD (S.set 0 zs)) bd = (onD (S.set 0 zs), .inl 6) :=
  loa_none (by rw [List.length_set]; exact h) (by rw [List.getD_eq_getElem?_getD, List.getElem?_set_self h]; rfl)

section
variable {U w w' : World} {Q : Value → World → Prop} {p : Nat} {s : St} {K K' X : Nat → Prop}

theorem large_c {l : Option Addr} {n c : Nat} {rs : List Rw} (h : Rin w l n rs) (hQ : ∀ b : Bool, (b = false → n ≤ 6) → Q (.bool b) w) : CallE Try.prog 18 #[.slice l n c] w Q := by
  apply C.law35_large
  unfold W.law35_large
  have hn := h.n
  refine LoopW.nat n (fun i x w' => x = ((i : Int), ()) ∧ w' = w) ⟨rfl, rfl⟩ ?_
  rintro i x w1 next hi ⟨rfl, rfl⟩ hnext
  dsimp only
  by_cases hlt : i < n
  case neg =>
    rw [decide_eq_false (by omega), br_false]
    exact hQ _ fun hb => by have := of_decide_eq_false hb; omega
  rw [decide_eq_true (by omega), br_true]
  obtain ⟨p, rfl⟩ := h.ptr (by omega)
  refine ixs i 3 81 hlt ?_
  refine rdF (o := 1) i (by omega) h.r Rw.len (by omega) rfl (fs ?_)
  refine br_of (fun _ => hQ _ fun hb => by cases hb) fun _ => ?_
  have hmx : rs.length ≤ 9223372036854775807 := h.mx
  rw [show IntKind.wrap .i64 ((i : Int) + 1) = ((i + 1 : Nat) : Int) by rw [wrap_i64 (by omega) (by omega)]; rfl]
  exact hnext hlt _ _ ⟨rfl, rfl⟩

/-- A block that is held over the disk's work. -/
theorem At.held {b : Nat} {cs : List Value} {T : TypeId} (h : At w b cs T) (e : Ext w w' (Xd U K)) (hb : K b) : At w' b cs T := h.ext e fun hx => hx.2 hb
theorem Sl.held {a : Option Addr} {e : TypeId} {m n c : Nat} {xs : List Value} (h : Sl w e m a n c xs) (ex : Ext w w' (Xd U K)) (hb : ∀ b, a = some ⟨b, 0, none⟩ → K b) : Sl w' e m a n c xs := h.ext ex fun b hx hy => hy.2 (hb b hx)

theorem saveLoad_k12 {vb ib n g ic : Nat} {bd : List UInt8} {ps : List Pg} {pa : Option Addr} (h : Dsk U p K w (onD (savedS n g bd ps))) (hbd : bd.length = 32) (hg : g < 18446744073709551616) (hP : OkP ps) (hsm : (secs g bd ps).length ≤ n) (hn : n ≤ 1000)
    (hv : At w vb (by_ bd) 31) (kv : K vb) (hi : At w ib (imgC bd g pa ps.length ic) 41) (ki : K ib) (hs : Sl w 85 2 pa ps.length ic (ps.flatMap pgC)) (ks : ∀ b, pa = some ⟨b, 0, none⟩ → K b)
    (e0 : Ext U w (fun _ => False)) (hQ : ∀ w', Ext U w' (fun _ => False) → Q (.bool true) w') : W.law35_HibernateSaveLoad_k12 ⟨vb, 0, none⟩ (some ⟨p, 0, none⟩) ⟨ib, 0, none⟩ 0 w Q := by
  unfold W.law35_HibernateSaveLoad_k12
  have hlen := savedS_len (n := n) (g := g) (bd := bd) (ps := ps) hsm
  have hpos : 0 < (savedS n g bd ps).length := by unfold savedS secs; simp
  have hok := onD_ok (S := savedS n g bd ps)
  rw [hlen] at hok
  have hl1 := loa_saved (n := n) (bd' := bd) hbd hg hP
  rw [if_neg (by simp)] at hl1
  refine ld_w hv (fg ?_) (hs := by rw [by_length, hbd]; kernel_rfl)
  refine load_c h hok (by omega) (by omega) (by omega) hbd (fun e he => by rw [hl1] at he; cases he) fun r hr a1 c1 w1 s1 f1 d1 e1 => ⟨_, _, rfl, ?_⟩
  rw [hl1] at hr d1
  cases hr
  dsimp only at d1 s1 ⊢
  refine al_st 34 (imgC_length hbd) (imgC_one _ _ _ _ _) fun xb w2 hxb a2 e2 z2 => ?_
  have hx2 := a2.lt
  have hs2 := e2.size
  have d2 : Dsk U p (fun b => (K b ∨ a1 = some ⟨b, 0, none⟩) ∨ b = xb) w2 (onD ((savedS n g bd ps).set 0 zs)) := d1.grow e2 fun b hb => by
    rcases hb with hb | hb
    · exact ⟨.inl hb, by have := d1.k hb; omega⟩
    · subst hb; exact ⟨.inr (by omega), hx2⟩
  have hv2 := (At.held hv e1 kv).ext e2 (fun h => h)
  refine ld_w hv2 (fg ?_) (hs := by rw [by_length, hbd]; kernel_rfl)
  have hl2 := loa_gone (bd := bd) hpos
  have hok2 := onD_ok (S := (savedS n g bd ps).set 0 zs)
  rw [List.length_set, hlen] at hok2
  refine load_c d2 hok2 (by omega) (by omega) (by omega) hbd (fun e he w3 d3 e3 => ⟨_, _, rfl, ?_⟩) (fun r hr => by rw [hl2] at hr; cases hr)
  rw [hl2] at he
  cases he
  refine al_st 34 (imgC_length rfl) (imgC_one _ _ _ _ _) fun yb w4 hyb a4 e4 z4 => ?_
  refine br_pos rfl (br_pos rfl (br_pos rfl ?_))
  have ax := (At.held a2 e3 (.inr rfl)).ext e4 (fun h => h)
  refine ld_w ax (fg ?_) (hs := by rw [imgC_length hbd]; kernel_rfl)
  have ai := (At.held ((At.held hi e1 ki).ext e2 (fun h => h)) e3 (.inl (.inl ki))).ext e4 (fun h => h)
  refine ld_w ai (fg ?_) (hs := by rw [imgC_length hbd]; kernel_rfl)
  have sx := (Sl.held (s1.ext e2 (fun _ _ h => h)) e3 (fun b hb => .inl (.inr hb))).ext e4 (fun _ _ h => h)
  have si := (Sl.held ((Sl.held hs e1 ks).ext e2 (fun _ _ h => h)) e3 (fun b hb => .inl (.inl (ks b hb)))).ext e4 (fun _ _ h => h)
  refine equalImg_c hbd hbd sx.reads si.reads rfl rfl (by have := (okP_mem hP).1; omega) fun w5 e5 => fb ?_
  refine br_pos (by simp) ?_
  exact awake_fin ((Xd.u (((Xd.u e0 e1).tr e2)) e3).tr (e4.tr e5)) hQ

theorem saveLoad_c {bd ot : List UInt8} {g : Nat} {l : Option Addr} {rn rc : Nat} {rs : List Rw} (hbd : bd.length = 32) (hot : ot.length = 32) (hg : g < 18446744073709551616) (hr : Rin w l rn rs) (hQ : ∀ w', Ext w w' (fun _ => False) → Q (.bool true) w') :
    CallE Try.prog 4 #[.agg (by_ bd).toArray, .agg (by_ ot).toArray, .int .u64 (g : Int), .slice l rn rc] w Q := by
  apply C.law35_HibernateSaveLoad
  unfold W.law35_HibernateSaveLoad
  refine al_i fun vb w1 hvb a1 e1 z1 => ?_
  change At w1 vb (by_ bd) 31 at a1
  refine al_i fun ob w2 hob a2 e2 z2 => ?_
  change At w2 ob (by_ ot) 31 at a2
  have e02 := e1.tr e2
  refine large_c (hr.ext e02) fun b _ => fb ?_
  refine br_of (fun _ => awake_fin e02 hQ) fun _ => ?_
  have a12 := a1.ext e2 (fun h => h)
  have lv := a12.lt
  have lo := a2.lt
  refine dnew_c (U := w) (K := fun b => b < w2.heap.size) (n := 40) (by omega) (by omega) e02 (fun b hb => hb) fun p w3 d3 e3 => ⟨_, _, rfl, ?_⟩
  refine br_neg rfl ?_
  refine eq_nil (fb ?_)
  refine br_neg rfl ?_
  have e03 := e02.tr e3
  refine ld_w (a12.ext e3 (fun h => h)) (fg ?_) (hs := by rw [by_length, hbd]; kernel_rfl)
  refine some_c (hr.ext e03) hbd fun ps pa pc w4 hP h6 s4 f4 e4 => fg ?_
  refine al_st 34 (imgC_length hbd) (imgC_one _ _ _ _ _) fun ib w5 hib a5 e5 z5 => ?_
  have hz3 := e3.size
  have hz4 := e4.size
  have li := a5.lt
  have s5 := s4.ext e5 (fun _ _ h => h)
  have lp : ∀ b, pa = some ⟨b, 0, none⟩ → b < w5.heap.size := by
    intro b hb
    subst hb
    obtain ⟨sp, ap, _⟩ := s5.at_
    exact ap.lt
  have d5 : Dsk w p (fun b => b < w2.heap.size ∨ (w3.heap.size ≤ b ∧ b < w5.heap.size)) w5 (onD (List.replicate 40 zs)) := d3.grow (e4.tr e5) fun b hb => by
    rcases hb with hb | hb
    · exact ⟨.inl hb, by omega⟩
    · exact ⟨.inr hb.1, hb.2⟩
  refine ld_w a5 (fg ?_) (hs := by rw [imgC_length hbd]; kernel_rfl)
  have hsm := secs_small (g := g) (bd := bd) hP h6
  have hsv := sav_secs (S := List.replicate 40 zs) (g := g) (bd := bd) (ps := ps) hbd (by rw [List.length_replicate]; omega)
  refine save_c d5 onD_ok (by omega) hbd s5.reads rfl hP fun w6 d6 e6 => fi ?_
  rw [hsv] at d6 ⊢
  dsimp only at d6 ⊢
  change Dsk w p _ w6 (onD (savedS 40 g bd ps)) at d6
  have e05 := (e03.tr e4).tr e5
  have hv6 := At.held ((a12.ext e3 (fun h => h)).ext (e4.tr e5) (fun h => h)) e6 (.inl lv)
  have ho6 := At.held ((a2.ext e3 (fun h => h)).ext (e4.tr e5) (fun h => h)) e6 (.inl lo)
  have hi6 := At.held a5 e6 (.inr ⟨by omega, li⟩)
  have ks : ∀ b, pa = some ⟨b, 0, none⟩ → b < w2.heap.size ∨ (w3.heap.size ≤ b ∧ b < w5.heap.size) := fun b hb => .inr ⟨f4 b hb, lp b hb⟩
  have hs6 := Sl.held s5 e6 ks
  have e06 := Xd.u e05 e6
  refine ld_w ho6 (fg ?_) (hs := by rw [by_length, hot]; kernel_rfl)
  refine ld_w hv6 (fg ?_) (hs := by rw [by_length, hbd]; kernel_rfl)
  refine qB (fun w => agg_ne (eq_bytes (d := 9998) 5 hot hbd)) ?_
  by_cases hob' : ot = bd
  · rw [decide_eq_true hob', Bool.not_true, br_false]
    exact saveLoad_k12 d6 hbd hg hP (by omega) (by omega) hv6 (.inl lv) hi6 (.inr ⟨by omega, li⟩) hs6 ks e06 hQ
  rw [decide_eq_false hob', Bool.not_false, br_true]
  refine ld_w ho6 (fg ?_) (hs := by rw [by_length, hot]; kernel_rfl)
  have hl1 := loa_saved (n := 40) (bd' := ot) hbd hg hP
  rw [if_pos (fun h => hob' h.symm)] at hl1
  have hlen := savedS_len (n := 40) (g := g) (bd := bd) (ps := ps) (by omega)
  have hok := onD_ok (S := savedS 40 g bd ps)
  rw [hlen] at hok
  refine load_c d6 hok (by omega) (by omega) (by omega) hot (fun e he w7 d7 e7 => ⟨_, _, rfl, ?_⟩) (fun r hr => by rw [hl1] at hr; cases hr)
  rw [hl1] at he d7
  cases he
  refine al_st 34 (imgC_length rfl) (imgC_one _ _ _ _ _) fun yb w8 hyb a8 e8 z8 => ?_
  refine br_neg rfl ?_
  exact saveLoad_k12 (d7.same e8) hbd hg hP (by omega) (by omega) ((At.held hv6 e7 (.inl lv)).ext e8 (fun h => h)) (.inl lv) ((At.held hi6 e7 (.inr ⟨by omega, li⟩)).ext e8 (fun h => h)) (.inr ⟨by omega, li⟩) ((Sl.held hs6 e7 ks).ext e8 (fun _ _ h => h)) ks ((Xd.u e06 e7).tr e8) hQ

theorem dpending_c (h : Dsk U p K w s) (hQ : Q (.int .i64 (s.C.length : Int)) w) : CallE Try.prog 28 #[.pointer (some ⟨p, 0, none⟩)] w Q := by
  obtain ⟨F, hd, _⟩ := h
  exact Bd.pending_c hd hQ

theorem refuses_c {l : Option Addr} {rn rc : Nat} {rs : List Rw} {sectors : Int} (hr : Rin w l rn rs) (hQ : ∀ w', Ext w w' (fun _ => False) → Q (.bool true) w') :
    CallE Try.prog 5 #[.slice l rn rc, .int .i64 sectors] w Q := by
  apply C.law35_HibernateRefuses
  unfold W.law35_HibernateRefuses
  refine large_c hr fun b _ => fb ?_
  refine br_of (fun _ => awake_fin (Ext.refl _ _) hQ) fun _ => ?_
  refine mod_c (by omega) (by omega) (fi ?_)
  have hmb := modv_bd (v := sectors) (n := 20) (by omega)
  obtain ⟨m, hm⟩ := nat_of hmb.1
  rw [hm] at hmb ⊢
  rw [show IntKind.wrap .i64 (1 + (m : Int)) = ((m + 1 : Nat) : Int) by rw [wrap_i64 (by omega) (by omega)]; omega]
  refine dnew_c (U := w) (K := fun _ => False) (n := m + 1) (by omega) (by omega) (Ext.refl _ _) (fun b hb => hb.elim) fun p w3 d3 e3 => ⟨_, _, rfl, ?_⟩
  refine br_neg rfl ?_
  refine eq_nil (fb ?_)
  refine br_neg rfl ?_
  have hbd := bdN_len 4
  refine some_c (bd := bdN 4) (g := 8) (hr.ext e3) hbd fun ps pa pc w4 hP h6 s4 f4 e4 => fg ?_
  refine al_st 34 (imgC_length hbd) (imgC_one _ _ _ _ _) fun ib w5 hib a5 e5 z5 => ?_
  have s5 := s4.ext e5 (fun _ _ h => h)
  have e35 := e4.tr e5
  have d5 := d3.same e35
  refine ld_w a5 (fg ?_) (hs := by rw [imgC_length hbd]; kernel_rfl)
  refine encode_c hbd s5.reads rfl (fun h => absurd hP h) fun _ sb c6 w6 s6 f6 e6 => ⟨_, _, _, _, rfl, ?_⟩
  have hSl : (List.replicate (m + 1) zs).length = m + 1 := List.length_replicate
  have hok0 := onD_ok (S := List.replicate (m + 1) zs)
  rw [hSl] at hok0
  refine dcontents_c (d5.same e6) (hok0.le (by omega)) (by omega) fun ca cc w7 s7 f7 d7 e7 => fs ?_
  have e37 := (e35.tr e6).tr e7
  have e57 := e6.tr e7
  have hz3 := e3.size
  have hz4 := e4.size
  have hz5 := e5.size
  have hz6 := e6.size
  have hz7 := e7.size
  have li := a5.lt
  have lp : ∀ b, pa = some ⟨b, 0, none⟩ → w3.heap.size ≤ b ∧ b < w7.heap.size := by
    intro b hb
    refine ⟨f4 b hb, ?_⟩
    subst hb
    obtain ⟨sp, ap, _⟩ := s5.at_
    have := ap.lt
    omega
  have lc : ∀ b, ca = some ⟨b, 0, none⟩ → w3.heap.size ≤ b ∧ b < w7.heap.size := by
    intro b hb
    refine ⟨by have := f7 b hb; omega, ?_⟩
    subst hb
    obtain ⟨sp, ap, _⟩ := s7.at_
    exact ap.lt
  have dk : Dsk w p (fun b => w3.heap.size ≤ b ∧ b < w7.heap.size) w7 (onD (List.replicate (m + 1) zs)) := d3.grow e37 fun b hb => ⟨.inr hb.1, hb.2⟩
  have a7 := a5.ext e57 (fun h => h)
  refine ld_w a7 (fg ?_) (hs := by rw [imgC_length hbd]; kernel_rfl)
  have hsm := secs_small (g := 8) (bd := bdN 4) hP h6
  have e07 := e3.tr e37
  refine save_c dk hok0 (by omega) hbd (s5.ext e57 (fun _ _ h => h)).reads rfl hP fun w8 d8 e8 => fi ?_
  have e08 := Xd.u e07 e8
  have s78 := Sl.held s7 e8 lc
  refine br_neg rfl ?_
  by_cases hfit : (secs 8 (bdN 4) ps).length ≤ m + 1
  · have hsv := sav_secs (S := List.replicate (m + 1) zs) (g := 8) (bd := bdN 4) (ps := ps) hbd (by rw [hSl]; omega)
    rw [hsv] at d8 ⊢
    dsimp only at d8 ⊢
    change Dsk w p _ w8 (onD (savedS (m + 1) 8 (bdN 4) ps)) at d8
    refine br_neg (by rw [decide_eq_false (by omega)]; rfl) (br_neg rfl ?_)
    have hlen := savedS_len (n := m + 1) (g := 8) (bd := bdN 4) (ps := ps) hfit
    have hok := onD_ok (S := savedS (m + 1) 8 (bdN 4) ps)
    rw [hlen] at hok
    refine dcontents_c d8 (hok.le (by omega)) (by omega) fun cb cd w9 s9 f9 d9 e9 => fs ?_
    have hz9 := e9.size
    have l9 : ∀ b, cb = some ⟨b, 0, none⟩ → b < w9.heap.size := by
      intro b hb
      subst hb
      obtain ⟨sp, ap, _⟩ := s9.at_
      exact ap.lt
    have d9' : Dsk w p (fun b => cb = some ⟨b, 0, none⟩) w9 (onD (savedS (m + 1) 8 (bdN 4) ps)) := d8.grow e9 fun b hb => ⟨.inr (f9 b hb), l9 b hb⟩
    have hl := loa_saved (n := m + 1) (bd' := bdN 5) hbd (show 8 < 18446744073709551616 by omega) hP
    rw [if_pos (bdN_inj (by decide))] at hl
    refine load_c (bd := bdN 5) d9' hok (by omega) (by omega) (by omega) rfl (fun e he wa da ea => ⟨_, _, rfl, ?_⟩) (fun r hr => by rw [hl] at hr; cases hr)
    rw [hl] at he da
    cases he
    refine al_st 34 (imgC_length rfl) (imgC_one _ _ _ _ _) fun yb wb hyb ab eb zb' => ?_
    refine br_pos rfl (br_pos rfl ?_)
    refine dcontents_c (da.same eb) (hok.le (by omega)) (by omega) fun cx cy wc sc fc dc ec => fs ?_
    refine equalStrs_c sc.reads (((Sl.held s9 ea (fun b hb => hb)).ext eb (fun _ _ h => h)).ext ec (fun _ _ h => h)).reads hlen hlen (by omega) fun wd ed => fb ?_
    refine br_pos (by simp) ?_
    exact awake_fin (((Xd.u (e08.tr e9) ea).tr eb).tr (ec.tr ed)) hQ
  · have hsv := sav_full (s := onD (List.replicate (m + 1) zs)) (h := hdr 8 (bdN 4) (bodyOf ps).length (crc (bodyOf ps)).toNat) (r := cuts (bodyOf ps)) (by show (List.replicate (m + 1) zs).length < _; rw [hSl]; rw [secs_cons, List.length_cons] at hfit; omega)
    rw [hsv] at d8 ⊢
    dsimp only at d8 ⊢
    refine br_neg (by rw [decide_eq_true (by omega)]; rfl) (br_pos rfl ?_)
    refine dcontents_c d8 (hok0.le (by omega)) (by omega) fun cx cy wc sc fc dc ec => fs ?_
    refine equalStrs_c sc.reads (s78.ext ec (fun _ _ h => h)).reads hSl hSl (by omega) fun wd ed => fb ?_
    refine br_pos (decide_eq_true rfl) ?_
    refine dpending_c (dc.same ed) (fi ?_)
    refine br_pos rfl ?_
    exact awake_fin ((e08.tr ec).tr ed) hQ
end
end Go.Proofs.Ytpinpccamfhofaa.Hi
