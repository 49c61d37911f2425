/-
  The statements HibernateLoadIsAtomic and HibernateSaveIsAtomic over the code. No condition beyond those stated.
-/
import Derived.Test.YtpinpccamfhofaaHiM
set_option linter.unusedVariables false
set_option linter.unusedSimpArgs false
set_option maxRecDepth 100000
namespace Go.Proofs.Ytpinpccamfhofaa.Hi
open Go Go.Ev Go.Proofs Go.Proofs.Ytpinpccamfhofaa.Im
open Go.Proofs.Ytpinpccamfhofaa.Bd (St Sec Dk Ok wr fl rd cut pOff pOn zs all new lose sel KOk)

theorem loa_head {S : List Sec} {pl : Option (Nat × List Bool)} {b bd : List UInt8} {g : Nat} {ps : List Pg} {more : List Sec} (hS : S = secs g b ps ++ more) (hb : b.length = 32) (hg : g < 18446744073709551616) (hP : OkP ps) (hm : ∀ d ∈ more, d.length = 64) :
    loa ⟨S, [], false, pl⟩ bd = if b ≠ bd then (⟨S, [], false, pl⟩, .inl 21) else if (dis ⟨S, [], false, pl⟩).2 ≠ 0 then ((dis ⟨S, [], false, pl⟩).1, .inl (dis ⟨S, [], false, pl⟩).2) else ((dis ⟨S, [], false, pl⟩).1, .inr (b, g, ps)) := by
  have hbl := body_lt hP
  have hcr := (crc (bodyOf ps)).isLt
  have hpos : 0 < S.length := by rw [hS]; unfold secs; simp
  have h0 : S.getD 0 [] = hdr g b (bodyOf ps).length (crc (bodyOf ps)).toNat := by rw [hS]; rfl
  have hr : rd ⟨S, [], false, pl⟩ 0 = (S.getD 0 [], 0) := rd_on (s := ⟨S, [], false, pl⟩) (i := 0) rfl hpos
  unfold loa
  rw [hr, h0, if_neg (by simp), decH_hdr hb hg (by omega) hcr, if_neg (by simp)]
  have hd : decI (all (St.mk S [] false pl).C (St.mk S [] false pl).S) = .inr (b, g, ps) := by
    show decI S = _
    rw [hS]
    exact decI_secs hb hg hP hm
  rw [hd]
theorem dis_cut0 {S : List Sec} {kl : List Bool} (h : 0 < S.length) : dis ⟨S, [], false, some (0, kl)⟩ = (⟨S, [], true, none⟩, 16) := by
  have hw : wr ⟨S, [], false, some (0, kl)⟩ 0 zs = (⟨S, [], true, none⟩, 16) := by
    unfold wr
    rw [if_neg (by simp only [zs_len]; omega)]
    rfl
  unfold dis
  rw [hw, if_pos (by simp)]
theorem wr_plan {S : List Sec} {C : List (Nat × Sec)} {i k : Nat} {d : Sec} {kl : List Bool} (hi : i < S.length) (hd : d.length = 64) : wr ⟨S, C, false, some (k + 1, kl)⟩ (i : Int) d = (⟨S, C ++ [(i, d)], false, some (k, kl)⟩, 0) := by
  unfold wr
  rw [if_neg (by simp only [hd]; omega)]
  simp
theorem wr_lost {S : List Sec} {C : List (Nat × Sec)} {i : Nat} {d : Sec} {kl : List Bool} (hi : i < S.length) (hd : d.length = 64) : wr ⟨S, C, false, some (0, kl)⟩ (i : Int) d = (⟨sel C kl S, [], true, none⟩, 16) := by
  unfold wr
  rw [if_neg (by simp only [hd]; omega)]
  rfl
theorem wrs_plan {S : List Sec} {kl : List Bool} : ∀ (r : List Sec) (C : List (Nat × Sec)) (n k : Nat), n + r.length ≤ S.length → (∀ d ∈ r, d.length = 64) →
    (r.length ≤ k ∧ wrs ⟨S, C, false, some (k, kl)⟩ n r = (⟨S, C ++ wl n r, false, some (k - r.length, kl)⟩, 0)) ∨ (k < r.length ∧ wrs ⟨S, C, false, some (k, kl)⟩ n r = (⟨sel (C ++ wl n (r.take k)) kl S, [], true, none⟩, 16))
  | [], C, n, k, _, _ => .inl ⟨by simp, by simp [wrs, wl]⟩
  | d :: r, C, n, 0, h, hd => by
    rw [List.length_cons] at h
    refine .inr ⟨by simp, ?_⟩
    have hw := wr_lost (S := S) (C := C) (i := n) (d := d) (kl := kl) (by omega) (hd d (.head _))
    rw [wrs, hw]
    dsimp only
    rw [if_pos (by simp)]
    simp [wl]
  | d :: r, C, n, k + 1, h, hd => by
    rw [List.length_cons] at h
    have hw := wr_plan (S := S) (C := C) (i := n) (k := k) (d := d) (kl := kl) (by omega) (hd d (.head _))
    have hs : wrs ⟨S, C, false, some (k + 1, kl)⟩ n (d :: r) = wrs ⟨S, C ++ [(n, d)], false, some (k, kl)⟩ (n + 1) r := by
      rw [wrs, hw]
      dsimp only
      rw [if_neg (by simp)]
    rcases wrs_plan (S := S) (kl := kl) r (C ++ [(n, d)]) (n + 1) k (by omega) (fun x hx => hd x (.tail _ hx)) with ⟨h1, h2⟩ | ⟨h1, h2⟩
    · refine .inl ⟨by rw [List.length_cons]; omega, ?_⟩
      rw [hs, h2, List.length_cons, show k + 1 - (r.length + 1) = k - r.length by omega]
      simp [wl]
    · refine .inr ⟨by rw [List.length_cons]; omega, ?_⟩
      rw [hs, h2]
      simp [wl]
theorem wl_pos : ∀ (r : List Sec) (n : Nat), ∀ c ∈ wl n r, n ≤ c.1
  | [], n, c, h => by simp [wl] at h
  | d :: r, n, c, h => by
    rcases List.mem_cons.1 h with rfl | h
    · exact Nat.le_refl _
    · have := wl_pos r (n + 1) c h
      omega
theorem sel_zero {C : List (Nat × Sec)} {kl : List Bool} {S : List Sec} (h : ∀ c ∈ C, 1 ≤ c.1) : (sel C kl S).getD 0 [] = S.getD 0 [] := by
  rw [List.getD_eq_getElem?_getD, List.getD_eq_getElem?_getD]
  rcases Bd.sel_from C kl S 0 with h1 | ⟨i, hi, h1, _⟩
  · rw [h1]
  · have := h _ (List.getElem_mem hi)
    omega
/-- What a saving leaves when the power is planned to fail. -/
theorem sav_plan {S : List Sec} {h : Sec} {r : List Sec} {k : Nat} {kl : List Bool} (hl : r.length + 1 ≤ S.length) (h64 : h.length = 64) (hr : ∀ d ∈ r, d.length = 64) :
    (∃ S', sav ⟨S, [], false, some (k, kl)⟩ h r = (⟨S', [], true, none⟩, 16) ∧ S'.length = S.length ∧ (S' = S ∨ S'.getD 0 [] = zs)) ∨ (∃ pl, sav ⟨S, [], false, some (k, kl)⟩ h r = (⟨h :: r ++ S.drop (r.length + 1), [], false, pl⟩, 0) ∧ ∀ q ∈ pl, q.1 ≤ k) := by
  have hpos : 0 < S.length := by omega
  unfold sav
  rw [if_neg (by show ¬ (S.length < _); omega)]
  cases k with
  | zero =>
    rw [dis_cut0 hpos]
    dsimp only
    rw [if_pos (by simp)]
    exact .inl ⟨S, rfl, rfl, .inl rfl⟩
  | succ k =>
    have hw := wr_plan (S := S) (C := []) (i := 0) (k := k) (d := zs) (kl := kl) hpos zs_len
    rw [show ((0 : Nat) : Int) = 0 from rfl] at hw
    have hd : dis ⟨S, [], false, some (k + 1, kl)⟩ = (⟨S.set 0 zs, [], false, some (k, kl)⟩, 0) := by
      unfold dis
      rw [hw]
      dsimp only
      rw [if_neg (by simp), fl_on]
      rfl
    rw [hd]
    dsimp only
    rw [if_neg (by simp)]
    have hz0 : (S.set 0 zs).getD 0 [] = zs := by rw [List.getD_eq_getElem?_getD, List.getElem?_set_self hpos]; rfl
    unfold sav1
    rcases wrs_plan (S := S.set 0 zs) (kl := kl) r [] 1 k (by rw [List.length_set]; omega) hr with ⟨h1, h2⟩ | ⟨h1, h2⟩
    · rw [h2]
      dsimp only
      rw [if_neg (by simp)]
      unfold sav2
      rw [List.nil_append, fl_on]
      dsimp only
      rw [if_neg (by simp)]
      have hlen : (all (wl 1 r) (S.set 0 zs)).length = S.length := by rw [Bd.all_length, List.length_set]
      have hall : all (wl 1 r) (S.set 0 zs) = zs :: r ++ S.drop (r.length + 1) := by
        rw [all_wl r (S.set 0 zs) 1 (by rw [List.length_set]; omega), List.drop_set_of_lt (by omega), Nat.add_comm 1]
        match S, hl with
        | x :: S, _ => rfl
      by_cases hk : k - r.length = 0
      · have hw2 := wr_lost (S := all (wl 1 r) (S.set 0 zs)) (C := []) (i := 0) (d := h) (kl := kl) (by omega) h64
        rw [show ((0 : Nat) : Int) = 0 from rfl] at hw2
        rw [hk, hw2]
        dsimp only
        rw [if_pos (by simp)]
        refine .inl ⟨_, rfl, ?_, .inr ?_⟩
        · rw [Bd.sel_length, hlen]
        · rw [sel_zero (by simp), hall]; rfl
      · obtain ⟨j, hj⟩ : ∃ j, k - r.length = j + 1 := ⟨k - r.length - 1, by omega⟩
        have hw2 := wr_plan (S := all (wl 1 r) (S.set 0 zs)) (C := []) (i := 0) (k := j) (d := h) (kl := kl) (by omega) h64
        rw [show ((0 : Nat) : Int) = 0 from rfl] at hw2
        rw [hj, hw2]
        dsimp only
        rw [if_neg (by simp), fl_on]
        refine .inr ⟨some (j, kl), ?_, fun q hq => by cases hq; show j ≤ _; omega⟩
        rw [hall]
        rfl
    · rw [h2]
      dsimp only
      rw [if_pos (by simp)]
      refine .inl ⟨_, rfl, by rw [Bd.sel_length, List.length_set], .inr ?_⟩
      rw [List.nil_append, sel_zero (fun c hc => wl_pos _ 1 c hc), hz0]

section
variable {U w w' : World} {Q : Value → World → Prop} {p : Nat} {s : St} {K K' X : Nat → Prop}

theorem loadIsAtomic_c {l ka : Option Addr} {rn rc kn kc : Nat} {rs : List Rw} {kl : List Bool} (hr : Rin w l rn rs) (hk : KOk w ka kn kl) (hQ : ∀ w', Ext w w' (fun _ => False) → Q (.bool true) w') :
    CallE Try.prog 11 #[.slice l rn rc, .slice ka kn kc] w Q := by
  apply C.law35_HibernateLoadIsAtomic
  unfold W.law35_HibernateLoadIsAtomic
  refine large_c hr fun b _ => fb ?_
  refine br_of (fun _ => awake_fin (Ext.refl _ _) hQ) fun _ => ?_
  refine dnew_c (U := w) (K := fun _ => False) (n := 40) (by omega) (by omega) (Ext.refl _ _) (fun b hb => hb.elim) fun p w3 d3 e3 => ⟨_, _, rfl, ?_⟩
  refine br_neg rfl ?_
  refine eq_nil (fb ?_)
  refine br_neg rfl ?_
  have hbd := bdN_len 4
  refine some_c (bd := bdN 4) (g := 8) (hr.ext e3) hbd fun ps pa pc w4 hP h6 s4 f4 e4 => fg ?_
  refine al_st 34 (imgC_length hbd) (imgC_one _ _ _ _ _) fun ib w5 hib a5 e5 z5 => ?_
  have s5 := s4.ext e5 (fun _ _ h => h)
  have e35 := e4.tr e5
  have hz4 := e4.size
  have li := a5.lt
  have lp : ∀ b, pa = some ⟨b, 0, none⟩ → w3.heap.size ≤ b ∧ b < w5.heap.size := by
    intro b hb
    refine ⟨f4 b hb, ?_⟩
    subst hb
    obtain ⟨sp, ap, _⟩ := s5.at_
    exact ap.lt
  have ki : w3.heap.size ≤ ib ∧ ib < w5.heap.size := ⟨by omega, li⟩
  have d5 : Dsk w p (fun b => w3.heap.size ≤ b ∧ b < w5.heap.size) w5 (onD (List.replicate 40 zs)) := d3.grow e35 fun b hb => ⟨.inr hb.1, hb.2⟩
  refine ld_w a5 (fg ?_) (hs := by rw [imgC_length hbd]; kernel_rfl)
  have hsm := secs_small (g := 8) (bd := bdN 4) hP h6
  have hsv := sav_secs (S := List.replicate 40 zs) (g := 8) (bd := bdN 4) (ps := ps) hbd (by rw [List.length_replicate]; omega)
  refine save_c d5 onD_ok (by omega) hbd s5.reads rfl hP fun w6 d6 e6 => fi ?_
  rw [hsv] at d6 ⊢
  dsimp only at d6 ⊢
  change Dsk w p _ w6 (onD (savedS 40 8 (bdN 4) ps)) at d6
  have hlen := savedS_len (n := 40) (g := 8) (bd := bdN 4) (ps := ps) (by omega)
  generalize hSS : savedS 40 8 (bdN 4) ps = S at *
  have hShape : S = secs 8 (bdN 4) ps ++ (List.replicate 40 zs).drop (secs 8 (bdN 4) ps).length := by rw [← hSS]; rfl
  have hmore : ∀ d ∈ (List.replicate 40 zs).drop (secs 8 (bdN 4) ps).length, d.length = 64 := fun d hd => rep_len d (List.mem_of_mem_drop hd)
  refine br_neg rfl ?_
  have e06 := Xd.u (e3.tr e35) e6
  have hk6 := hk.ext e06
  refine dcut_c (n := 0) d6 hk6.r hk6.n hk6.le hk.lt fun w7 d7 e7 => ⟨rfl, ?_⟩
  have hcut : cut (onD S) 0 kl = ⟨S, [], false, some (0, kl)⟩ := rfl
  rw [hcut] at d7
  have e07 := Xd.u e06 e7
  have hok7 : Ok 40 0 (⟨S, [], false, some (0, kl)⟩ : St) := ⟨hlen, by simp, by simp, fun q hq => by cases hq; show 0 ≤ _; omega⟩
  have hl7 := loa_head (pl := some (0, kl)) (bd := bdN 4) hShape hbd (show 8 < 18446744073709551616 by omega) hP hmore
  rw [if_neg (by simp), dis_cut0 (by omega), if_pos (by simp)] at hl7
  refine load_c (bd := bdN 4) d7 hok7 (by omega) (by omega) (by omega) hbd (fun e he w8 d8 e8 => ⟨_, _, rfl, ?_⟩) (fun r hr => by rw [hl7] at hr; cases hr)
  rw [hl7] at he d8
  cases he
  dsimp only at d8
  refine al_st 34 (imgC_length rfl) (imgC_one _ _ _ _ _) fun yb w9 hyb a9 e9 z9 => ?_
  refine br_neg rfl ?_
  refine ld_w a9 (fg ?_)
  refine equalImg_c (bd := zb) (bd' := zb) (g := 0) (g' := 0) (pa := none) (qa := none) (n := 0) (m := 0) (c := 0) (d := 0) (ps := []) (qs := []) rfl rfl (.inl rfl) (.inl rfl) rfl rfl (by omega) fun wa ea => fb ?_
  refine br_neg (by simp) ?_
  have e89 := e9.tr ea
  refine don_c (d8.same e89) fun wb db eb => fi ?_
  have hpon : pOn ⟨S, [], true, none⟩ = (onD S, 0) := rfl
  rw [hpon] at db ⊢
  dsimp only at db ⊢
  refine br_neg rfl ?_
  have hok8 := onD_ok (S := S)
  rw [hlen] at hok8
  have hl8 := loa_head (pl := none) (bd := bdN 4) hShape hbd (show 8 < 18446744073709551616 by omega) hP hmore
  rw [if_neg (by simp)] at hl8
  have hdn : dis ⟨S, [], false, none⟩ = (onD (S.set 0 zs), 0) := dis_on (by omega)
  rw [hdn, if_neg (by simp)] at hl8
  refine load_c (bd := bdN 4) db hok8 (by omega) (by omega) (by omega) hbd (fun e he => by
    change (loa ⟨S, [], false, none⟩ (bdN 4)).2 = _ at he
    rw [hl8] at he; cases he) fun r hr' a2 c2 wc s2 f2 dc ec => ⟨_, _, rfl, ?_⟩
  change (loa ⟨S, [], false, none⟩ (bdN 4)).2 = _ at hr'
  rw [hl8] at hr'
  cases hr'
  refine al_st 34 (imgC_length hbd) (imgC_one _ _ _ _ _) fun xb wd hxb ad ed zd => ?_
  refine br_pos rfl ?_
  refine ld_w ad (fg ?_) (hs := by rw [imgC_length hbd]; kernel_rfl)
  have ai := (At.held (At.held ((At.held (At.held (At.held a5 e6 ki) e7 ki) e8 ki).ext e89 (fun h => h)) eb ki) ec ki).ext ed (fun h => h)
  refine ld_w ai (fg ?_) (hs := by rw [imgC_length hbd]; kernel_rfl)
  have si := (Sl.held (Sl.held ((Sl.held (Sl.held (Sl.held s5 e6 lp) e7 lp) e8 lp).ext e89 (fun _ _ h => h)) eb lp) ec lp).ext ed (fun _ _ h => h)
  refine equalImg_c hbd hbd (s2.ext ed (fun _ _ h => h)).reads si.reads rfl rfl (by show ps.length ≤ _; omega) fun we ee => fb ?_
  refine br_pos (by simp) ?_
  exact awake_fin ((Xd.u (Xd.u ((Xd.u e07 e8).tr e89) eb) ec).tr (ed.tr ee)) hQ

/-- The sectors begin with those of an image. -/
def Begins (S : List Sec) (g : Nat) (bd : List UInt8) (ps : List Pg) : Prop := ∃ more, S = secs g bd ps ++ more ∧ ∀ d ∈ more, d.length = 64
theorem loa_begins {S : List Sec} {g : Nat} {bd : List UInt8} {ps : List Pg} (h : Begins S g bd ps) (hb : bd.length = 32) (hg : g < 18446744073709551616) (hP : OkP ps) : loa (onD S) bd = (onD (S.set 0 zs), .inr (bd, g, ps)) := by
  obtain ⟨more, hS, hm⟩ := h
  rw [loa_some hS hb hg hP hm, if_neg (by simp)]

theorem saveIsAtomic_k16 {ob ib oc ic : Nat} {old : Bool} {po pn : Option Addr} {ps qs : List Pg} {code : Int} {S : List Sec} {pln : Option (Nat × List Bool)} (h : Dsk U p K w ⟨S, [], false, pln⟩) (hS : S.length = 40) (hP : OkP ps) (hq : OkP qs) (h6 : ps.length ≤ 6) (hq6 : qs.length ≤ 6)
    (ho : At w ob (imgC (bdN 9) 1 po ps.length oc) 41) (ko : K ob) (hi : At w ib (imgC (bdN 9) 2 pn qs.length ic) 41) (ki : K ib) (so : Sl w 85 2 po ps.length oc (ps.flatMap pgC)) (kso : ∀ b, po = some ⟨b, 0, none⟩ → K b) (si : Sl w 85 2 pn qs.length ic (qs.flatMap pgC)) (ksi : ∀ b, pn = some ⟨b, 0, none⟩ → K b)
    (hcase : (code = 0 ∧ Begins S 2 (bdN 9) qs) ∨ (code = 16 ∧ (S.getD 0 [] = zs ∨ (old = true ∧ Begins S 1 (bdN 9) ps))))
    (e0 : Ext U w (fun _ => False)) (hQ : ∀ w', Ext U w' (fun _ => False) → Q (.bool true) w') : W.law35_HibernateSaveIsAtomic_k16 old (some ⟨p, 0, none⟩) ⟨ob, 0, none⟩ ⟨ib, 0, none⟩ code w Q := by
  unfold W.law35_HibernateSaveIsAtomic_k16
  have hbd := bdN_len 9
  refine dcut_c (n := -1) (kl := []) h (.inl rfl) rfl (by omega) (fun q hq => by cases hq) fun w1 d1 e1 => ⟨rfl, ?_⟩
  have hcut : cut ⟨S, [], false, pln⟩ (-1) [] = onD S := rfl
  rw [hcut] at d1
  have hok := onD_ok (S := S)
  rw [hS] at hok
  have ho1 := At.held ho e1 ko
  have hi1 := At.held hi e1 ki
  have so1 := Sl.held so e1 kso
  have si1 := Sl.held si e1 ksi
  have e01 := Xd.u e0 e1
  rcases hcase with ⟨rfl, hB⟩ | ⟨rfl, hz | ⟨hold, hB⟩⟩
  · have hl := loa_begins hB hbd (by omega) hq
    refine load_c (bd := bdN 9) d1 hok (by omega) (by omega) (by omega) hbd (fun e he => by rw [hl] at he; cases he) fun r hr a2 c2 w2 s2 f2 d2 e2 => ⟨_, _, rfl, ?_⟩
    rw [hl] at hr
    cases hr
    dsimp only at s2 ⊢
    refine al_st 34 (imgC_length hbd) (imgC_one _ _ _ _ _) fun xb w3 hxb a3 e3 z3 => ?_
    refine br_pos rfl (br_pos rfl ?_)
    refine ld_w a3 (fg ?_) (hs := by rw [imgC_length hbd]; kernel_rfl)
    refine ld_w ((At.held hi1 e2 ki).ext e3 (fun h => h)) (fg ?_) (hs := by rw [imgC_length hbd]; kernel_rfl)
    refine equalImg_c hbd hbd (s2.ext e3 (fun _ _ h => h)).reads ((Sl.held si1 e2 ksi).ext e3 (fun _ _ h => h)).reads rfl rfl (by omega) fun w5 e5 => fb ?_
    refine br_pos (by simp) ?_
    exact awake_fin ((Xd.u e01 e2).tr (e3.tr e5)) hQ
  · have hl := loa_none (S := S) (bd := bdN 9) (by omega) hz
    refine load_c (bd := bdN 9) d1 hok (by omega) (by omega) (by omega) hbd (fun e he w2 d2 e2 => ⟨_, _, rfl, ?_⟩) (fun r hr => by rw [hl] at hr; cases hr)
    rw [hl] at he
    cases he
    refine al_st 34 (imgC_length rfl) (imgC_one _ _ _ _ _) fun yb w3 hyb a3 e3 z3 => ?_
    refine br_neg rfl (br_neg rfl (br_pos rfl ?_))
    exact awake_fin ((Xd.u e01 e2).tr e3) hQ
  · have hl := loa_begins hB hbd (by omega) hP
    refine load_c (bd := bdN 9) d1 hok (by omega) (by omega) (by omega) hbd (fun e he => by rw [hl] at he; cases he) fun r hr a2 c2 w2 s2 f2 d2 e2 => ⟨_, _, rfl, ?_⟩
    rw [hl] at hr
    cases hr
    dsimp only at s2 ⊢
    refine al_st 34 (imgC_length hbd) (imgC_one _ _ _ _ _) fun xb w3 hxb a3 e3 z3 => ?_
    refine br_neg rfl (br_pos rfl ?_)
    have s3 := s2.ext e3 (fun _ _ h => h)
    refine ld_w a3 (fg ?_) (hs := by rw [imgC_length hbd]; kernel_rfl)
    refine ld_w ((At.held hi1 e2 ki).ext e3 (fun h => h)) (fg ?_) (hs := by rw [imgC_length hbd]; kernel_rfl)
    refine equalImg_c hbd hbd s3.reads ((Sl.held si1 e2 ksi).ext e3 (fun _ _ h => h)).reads rfl rfl (by omega) fun w5 e5 => fb ?_
    refine br_neg (by simp) ?_
    rw [hold, br_true]
    refine ld_w (a3.ext e5 (fun h => h)) (fg ?_) (hs := by rw [imgC_length hbd]; kernel_rfl)
    refine ld_w (((At.held ho1 e2 ko).ext e3 (fun h => h)).ext e5 (fun h => h)) (fg ?_) (hs := by rw [imgC_length hbd]; kernel_rfl)
    refine equalImg_c hbd hbd (s3.ext e5 (fun _ _ h => h)).reads (((Sl.held so1 e2 kso).ext e3 (fun _ _ h => h)).ext e5 (fun _ _ h => h)).reads rfl rfl (by omega) fun w6 e6 => fb ?_
    refine br_pos (by simp) ?_
    exact awake_fin ((Xd.u e01 e2).tr (e3.tr (e5.tr e6))) hQ

theorem saveIsAtomic_k9 {ob ib oc ic kn kc : Nat} {old : Bool} {po pn ka : Option Addr} {ps qs : List Pg} {S : List Sec} {cut_ : Int} {kl : List Bool} (h : Dsk U p K w (onD S)) (hS : S.length = 40) (hP : OkP ps) (hq : OkP qs) (h6 : ps.length ≤ 6) (hq6 : qs.length ≤ 6)
    (ho : At w ob (imgC (bdN 9) 1 po ps.length oc) 41) (ko : K ob) (hi : At w ib (imgC (bdN 9) 2 pn qs.length ic) 41) (ki : K ib) (so : Sl w 85 2 po ps.length oc (ps.flatMap pgC)) (kso : ∀ b, po = some ⟨b, 0, none⟩ → K b) (si : Sl w 85 2 pn qs.length ic (qs.flatMap pgC)) (ksi : ∀ b, pn = some ⟨b, 0, none⟩ → K b)
    (hk : KOk U ka kn kl) (hwas : S.getD 0 [] = zs ∨ (old = true ∧ Begins S 1 (bdN 9) ps)) (h64 : ∀ d ∈ S, d.length = 64)
    (e0 : Ext U w (fun _ => False)) (hQ : ∀ w', Ext U w' (fun _ => False) → Q (.bool true) w') : W.law35_HibernateSaveIsAtomic_k9 old cut_ ka kn kc (some ⟨p, 0, none⟩) ⟨ob, 0, none⟩ ⟨ib, 0, none⟩ w Q := by
  unfold W.law35_HibernateSaveIsAtomic_k9
  have hbd := bdN_len 9
  refine mod_c (by omega) (by omega) (fi ?_)
  have hmb := modv_bd (v := cut_) (n := 35) (by omega)
  obtain ⟨k, hkk⟩ := nat_of hmb.1
  rw [hkk] at hmb ⊢
  have hk1 := hk.ext e0
  refine dcut_c (n := (k : Int)) h hk1.r hk1.n hk1.le hk.lt fun w1 d1 e1 => ⟨rfl, ?_⟩
  have hcut : cut (onD S) (k : Int) kl = ⟨S, [], false, some (k, kl)⟩ := by
    unfold cut
    rw [if_neg (by omega), Int.toNat_natCast]
    rfl
  rw [hcut] at d1
  have ho1 := At.held ho e1 ko
  have hi1 := At.held hi e1 ki
  have so1 := Sl.held so e1 kso
  have si1 := Sl.held si e1 ksi
  have e01 := Xd.u e0 e1
  refine ld_w hi1 (fg ?_) (hs := by rw [imgC_length hbd]; kernel_rfl)
  have hok1 : Ok 40 0 (⟨S, [], false, some (k, kl)⟩ : St) := ⟨hS, by simp, by simp, fun q hq => by cases hq; show k ≤ _; omega⟩
  have hsm := secs_small (g := 2) (bd := bdN 9) hq hq6
  rw [secs_cons, List.length_cons] at hsm
  refine save_c d1 hok1 (by omega) hbd si1.reads rfl hq fun w2 d2 e2 => fi ?_
  have ho2 := At.held ho1 e2 ko
  have hi2 := At.held hi1 e2 ki
  have so2 := Sl.held so1 e2 kso
  have si2 := Sl.held si1 e2 ksi
  have e02 := Xd.u e01 e2
  rcases sav_plan (S := S) (h := hdr 2 (bdN 9) (bodyOf qs).length (crc (bodyOf qs)).toNat) (r := cuts (bodyOf qs)) (k := k) (kl := kl) (by omega) (hdr_length hbd) (cuts_len _) with ⟨S', hsv, hl', hor⟩ | ⟨pl, hsv, hple⟩
  · rw [hsv] at d2 ⊢
    dsimp only at d2 ⊢
    refine br_pos rfl ?_
    refine don_c d2 fun w3 d3 e3 => fi ?_
    have hpon : pOn ⟨S', [], true, none⟩ = (⟨S', [], false, none⟩, 0) := rfl
    rw [hpon] at d3 ⊢
    dsimp only at d3 ⊢
    refine br_neg rfl ?_
    refine saveIsAtomic_k16 d3 (by omega) hP hq h6 hq6 (At.held ho2 e3 ko) ko (At.held hi2 e3 ki) ki (Sl.held so2 e3 kso) kso (Sl.held si2 e3 ksi) ksi (.inr ⟨rfl, ?_⟩) (Xd.u e02 e3) hQ
    rcases hor with rfl | hz
    · exact hwas
    · exact .inl hz
  · rw [hsv] at d2 ⊢
    dsimp only at d2 ⊢
    refine br_neg rfl (br_neg rfl ?_)
    refine saveIsAtomic_k16 d2 (by rw [List.length_append, List.length_cons, List.length_drop]; omega) hP hq h6 hq6 ho2 ko hi2 ki so2 kso si2 ksi (.inl ⟨rfl, ⟨_, by rw [secs_cons], fun d hd => h64 d (List.mem_of_mem_drop hd)⟩⟩) e02 hQ

theorem saveIsAtomic_k2 {l m ka : Option Addr} {rn rc mn mc kn kc : Nat} {rs ms : List Rw} {old b : Bool} {cut_ : Int} {kl : List Bool} (hr : Rin w l rn rs) (hm : Rin w m mn ms) (hk : KOk w ka kn kl) (hQ : ∀ w', Ext w w' (fun _ => False) → Q (.bool true) w') :
    W.law35_HibernateSaveIsAtomic_k2 l rn rc m mn mc old cut_ ka kn kc b w Q := by
  unfold W.law35_HibernateSaveIsAtomic_k2
  refine br_of (fun _ => awake_fin (Ext.refl _ _) hQ) fun _ => ?_
  refine dnew_c (U := w) (K := fun _ => False) (n := 40) (by omega) (by omega) (Ext.refl _ _) (fun b hb => hb.elim) fun p w3 d3 e3 => ⟨_, _, rfl, ?_⟩
  refine br_neg rfl ?_
  refine eq_nil (fb ?_)
  refine br_neg rfl ?_
  have hbd := bdN_len 9
  refine some_c (bd := bdN 9) (g := 1) (hr.ext e3) hbd fun ps pa pc w4 hP h6 s4 f4 e4 => fg ?_
  refine some_c (bd := bdN 9) (g := 2) (hm.ext (e3.tr e4)) hbd fun qs qa qc w5 hq hq6 s5 f5 e5 => fg ?_
  refine al_n 34 fun ob w6 zs6 hob hzl6 a6 e6 z6 => ?_
  refine al_n 34 fun ib w7 zs7 hib hzl7 a7 e7 z7 => ?_
  refine st_w 34 (a6.ext e7 (fun h => h)) hzl6 (imgC_length hbd) (imgC_one _ _ _ _ _) fun w8 a8 e8 z8 => ?_
  have hz4 := e4.size
  have hz5 := e5.size
  have hz6 := e6.size
  have hz7 := e7.size
  have lo := a6.lt
  have li := a7.lt
  refine st_w 34 (a7.ext e8 (by omega)) hzl7 (imgC_length hbd) (imgC_one _ _ _ _ _) fun w9 a9 e9 z9 => ?_
  have s47 : Sl w7 85 2 pa ps.length pc (ps.flatMap pgC) := ((s4.ext e5 (fun _ _ h => h)).ext e6 (fun _ _ h => h)).ext e7 (fun _ _ h => h)
  have s57 : Sl w7 85 2 qa qs.length qc (qs.flatMap pgC) := (s5.ext e6 (fun _ _ h => h)).ext e7 (fun _ _ h => h)
  have lp : ∀ b, pa = some ⟨b, 0, none⟩ → w3.heap.size ≤ b ∧ b < w5.heap.size := by
    intro b hb
    refine ⟨f4 b hb, ?_⟩
    subst hb
    obtain ⟨sp, ap, _⟩ := s4.at_
    have := ap.lt
    omega
  have lq : ∀ b, qa = some ⟨b, 0, none⟩ → w3.heap.size ≤ b ∧ b < w5.heap.size := by
    intro b hb
    refine ⟨by have := f5 b hb; omega, ?_⟩
    subst hb
    obtain ⟨sp, ap, _⟩ := s5.at_
    exact ap.lt
  have s49 : Sl w9 85 2 pa ps.length pc (ps.flatMap pgC) := (s47.ext e8 (fun b hb hx => by have := (lp b hb).2; omega)).ext e9 (fun b hb hx => by have := (lp b hb).2; omega)
  have s59 : Sl w9 85 2 qa qs.length qc (qs.flatMap pgC) := (s57.ext e8 (fun b hb hx => by have := (lq b hb).2; omega)).ext e9 (fun b hb hx => by have := (lq b hb).2; omega)
  have a89 := a8.ext e9 (by omega)
  have d7 : Dsk w p (fun b => w3.heap.size ≤ b ∧ b < w7.heap.size) w7 (onD (List.replicate 40 zs)) := d3.grow (((e4.tr e5).tr e6).tr e7) fun b hb => ⟨.inr hb.1, hb.2⟩
  have d9 := (d7.step e8 fun b _ hb => ⟨by omega, by omega⟩).step e9 fun b _ hb => ⟨by omega, by omega⟩
  have e07 : Ext w w7 (fun _ => False) := (((e3.tr e4).tr e5).tr e6).tr e7
  have hz3 := e3.size
  have e09 : Ext w w9 (fun _ => False) := (e07.trans e8 (fun _ _ h => h) (fun b hb hx => by omega)).trans e9 (fun _ _ h => h) (fun b hb hx => by omega)
  have ko : w3.heap.size ≤ ob ∧ ob < w7.heap.size := ⟨by omega, by omega⟩
  have ki : w3.heap.size ≤ ib ∧ ib < w7.heap.size := ⟨by omega, by omega⟩
  have kp : ∀ b, pa = some ⟨b, 0, none⟩ → w3.heap.size ≤ b ∧ b < w7.heap.size := fun b hb => ⟨(lp b hb).1, by have := (lp b hb).2; omega⟩
  have kq : ∀ b, qa = some ⟨b, 0, none⟩ → w3.heap.size ≤ b ∧ b < w7.heap.size := fun b hb => ⟨(lq b hb).1, by have := (lq b hb).2; omega⟩
  refine br_of (fun hold => ?_) fun hold => ?_
  · refine ld_w a89 (fg ?_) (hs := by rw [imgC_length hbd]; kernel_rfl)
    have hsm := secs_small (g := 1) (bd := bdN 9) hP h6
    have hsv := sav_secs (S := List.replicate 40 zs) (g := 1) (bd := bdN 9) (ps := ps) hbd (by rw [List.length_replicate]; omega)
    refine save_c d9 onD_ok (by omega) hbd s49.reads rfl hP fun wa da ea => fi ?_
    rw [hsv] at da ⊢
    dsimp only at da ⊢
    refine br_neg rfl ?_
    have hmore : ∀ d ∈ (List.replicate 40 zs).drop (secs 1 (bdN 9) ps).length, d.length = 64 := fun d hd => rep_len d (List.mem_of_mem_drop hd)
    refine saveIsAtomic_k9 da (savedS_len (by omega)) hP hq h6 hq6 (At.held a89 ea ko) ko (At.held a9 ea ki) ki (Sl.held s49 ea kp) kp (Sl.held s59 ea kq) kq hk (.inr ⟨hold, ⟨_, rfl, hmore⟩⟩) (fun d hd => ?_) (Xd.u e09 ea) hQ
    rcases List.mem_append.1 hd with hd | hd
    · exact secs_len hbd ps d hd
    · exact hmore d hd
  · exact saveIsAtomic_k9 d9 List.length_replicate hP hq h6 hq6 a89 ko a9 ki s49 kp s59 kq hk (.inl rfl) rep_len e09 hQ

theorem saveIsAtomic_c {l m ka : Option Addr} {rn rc mn mc kn kc : Nat} {rs ms : List Rw} {old : Bool} {cut_ : Int} {kl : List Bool} (hr : Rin w l rn rs) (hm : Rin w m mn ms) (hk : KOk w ka kn kl) (hQ : ∀ w', Ext w w' (fun _ => False) → Q (.bool true) w') :
    CallE Try.prog 10 #[.slice l rn rc, .slice m mn mc, .bool old, .int .i64 cut_, .slice ka kn kc] w Q := by
  apply C.law35_HibernateSaveIsAtomic
  unfold W.law35_HibernateSaveIsAtomic
  refine large_c hr fun b _ => fb ?_
  refine br_of (fun _ => saveIsAtomic_k2 hr hm hk hQ) fun _ => ?_
  refine large_c hm fun b _ => fb ?_
  exact saveIsAtomic_k2 hr hm hk hQ
end
end Go.Proofs.Ytpinpccamfhofaa.Hi
