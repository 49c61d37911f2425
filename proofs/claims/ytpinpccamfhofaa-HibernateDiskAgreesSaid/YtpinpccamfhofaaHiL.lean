/-
  The pages to be saved, the statements' example, and the statement HibernateSelectAgrees over the code. No condition beyond those stated.
-/
import Derived.Test.YtpinpccamfhofaaHiG
import Derived.Test.YtpinpccamfhofaaHiF
import Derived.Test.YtpinpccamfhofaaGE
set_option linter.unusedVariables false
set_option linter.unusedSimpArgs false
set_option maxRecDepth 100000
namespace Go.Proofs.Ytpinpccamfhofaa.Hi
open Go Go.Ev Go.Proofs Go.Proofs.Ytpinpccamfhofaa.Im
open Go.Proofs.Ytpinpccamfhofaa.Bd (St Sec Dk Ok wr fl rd cut pOff pOn zs all new lose)

/-- What is told of a page: used, not to be saved, zero. -/
abbrev PI := Bool × Bool × Bool
def piC (x : PI) : List Value := [.bool x.1, .bool x.2.1, .bool x.2.2]
theorem piC_len (x : PI) : (piC x).length = 3 := rfl
theorem piC_one (x : PI) : ∀ v ∈ piC x, one v = true := by
  intro v hv
  simp only [piC, List.mem_cons, List.not_mem_nil, or_false] at hv
  rcases hv with rfl | rfl | rfl <;> rfl
def pick (x : PI) : Bool := x.1 && !x.2.1 && !x.2.2
def selN (l : List PI) (i : Nat) : List Nat := (List.range i).filter fun j => pick (l.getD j (false, false, false))
theorem selN_succ {l : List PI} {i : Nat} (h : i < l.length) : selN l (i + 1) = selN l i ++ (if pick l[i] then [i] else []) := by
  unfold selN
  rw [List.range_succ, List.filter_append]
  have hg : l.getD i (false, false, false) = l[i] := by rw [List.getD_eq_getElem?_getD, List.getElem?_eq_getElem h]; rfl
  congr 1
  simp only [List.filter_cons, List.filter_nil, hg]
theorem selN_le (l : List PI) (i : Nat) : (selN l i).length ≤ i := by
  unfold selN
  have := List.length_filter_le (fun j => pick (l.getD j (false, false, false))) (List.range i)
  rwa [List.length_range] at this
def is_ (l : List Nat) : List Value := l.map fun n : Nat => .int .i64 (n : Int)
theorem is_length (l : List Nat) : (is_ l).length = l.length := by simp [is_]
theorem is_one (l : List Nat) : ∀ v ∈ is_ l, one v = true := by
  intro v hv
  simp only [is_, List.mem_map] at hv
  obtain ⟨s, _, rfl⟩ := hv
  rfl
theorem is_append (a b : List Nat) : is_ (a ++ b) = is_ a ++ is_ b := by simp [is_]
theorem is_get {l : List Nat} {i : Nat} (h : i < l.length) : (is_ l)[i]? = some (.int .i64 ((l[i] : Nat) : Int)) := by
  unfold is_
  rw [List.getElem?_map, List.getElem?_eq_getElem h]
  rfl

section
variable {U w w' : World} {Q : Value → World → Prop} {p : Nat}

/-- A new list of numbers, younger than a world. -/
structure Nl (w0 w : World) (a : Option Addr) (n c : Nat) (l : List Nat) : Prop where
  s : Sl w 3 1 a n c (is_ l)
  n : l.length = n
  f : ∀ b, a = some ⟨b, 0, none⟩ → w0.heap.size ≤ b
  e : Ext w0 w (fun _ => False)

theorem select_k {w0 : World} {a : Option Addr} {n c i : Nat} {l : List PI} {K : Option Addr → Nat → Nat → World → Prop} (h : Nl w0 w a n c (selN l i)) (hi : i < l.length) (hl : l.length ≤ 1000000) (hp : pick l[i] = true) (hK : ∀ a' c' w', Nl w0 w' a' (n + 1) c' (selN l (i + 1)) → K a' (n + 1) c' w') :
    al 3 #[.int .i64 (i : Int)] w fun tb w1 => rv Try.prog (Builtin.append_ #[24, 24] 24 #[.slice a n c, .slice (some tb) 1 1]) w1 fun v w' => fS v fun l n c => K l n c w' := by
  have hle := selN_le l i
  have hn := h.n
  refine al_i fun tb w1 htb a1 e1 z1 => ?_
  refine ap_i 3 1 (vs := is_ [i]) (h.s.ext e1 (fun _ _ h => h)) (.inr ⟨_, rfl, fun k hk => by rw [add_mk, a1.cell, Nat.zero_add]; rfl⟩) rfl (is_one _) (by omega) fun a2 c2 w2 s2 f2 g2 e2 => fs ?_
  have hz := h.e.size
  have hz1 := e1.size
  refine hK a2 c2 w2 ⟨?_, ?_, fun b hb => ?_, (h.e.tr e1).trans e2 (fun _ _ h => h) fun b hb hx => by have := h.f b hx; omega⟩
  · rw [selN_succ hi, if_pos hp, is_append]
    exact s2
  · rw [selN_succ hi, if_pos hp, List.length_append, hn]; rfl
  · rcases f2 b hb with hx | hx
    · exact h.f b hx
    · omega
theorem Nl.skip {w0 : World} {a : Option Addr} {n c i : Nat} {l : List PI} (h : Nl w0 w a n c (selN l i)) (hi : i < l.length) (hp : pick l[i] = false) : Nl w0 w a n c (selN l (i + 1)) := by
  rw [selN_succ hi, if_neg (by rw [hp]; simp), List.append_nil]
  exact h
theorem Nl.same {w0 : World} {a : Option Addr} {n c : Nat} {l : List Nat} (h : Nl w0 w a n c l) (e : Ext w w' (fun _ => False)) : Nl w0 w' a n c l := ⟨h.s.ext e (fun _ _ h => h), h.n, h.f, h.e.tr e⟩

theorem select_c {pa : Option Addr} {n c : Nat} {l : List PI} (h : Reads w pa (l.flatMap piC)) (hn : l.length = n) (hl : n ≤ 1000000) (hQ : ∀ a k c' w', Nl w w' a k c' (selN l n) → Q (.slice a k c') w') :
    CallE Try.prog 15 #[.slice pa n c] w Q := by
  subst hn
  apply C.hibernate_Select
  unfold W.hibernate_Select
  refine LoopW.nat l.length (fun i x w' => ∃ a k c', x = ((a, k, c'), (i : Int), ()) ∧ Nl w w' a k c' (selN l i)) ⟨none, 0, 0, rfl, .inl ⟨rfl, rfl, rfl, rfl⟩, rfl, (fun b hb => by cases hb), Ext.refl _ _⟩ ?_
  rintro i x w1 next hi ⟨a, k, c', rfl, h1⟩ hnext
  dsimp only
  by_cases hlt : i < l.length
  case neg =>
    rw [decide_eq_false (by omega), br_false]
    obtain rfl : i = l.length := by omega
    exact hQ a k c' w1 h1
  rw [decide_eq_true (by omega), br_true]
  have hr := h.ext h1.e (fun _ _ _ h => h)
  obtain ⟨p, rfl⟩ := hr.some_ (by rw [flat_length piC_len]; omega)
  refine ixs i 3 27 hlt ?_
  refine rdG i hlt hr piC_len (by omega) (fg ?_)
  refine al_st 3 (piC_len _) (piC_one _) fun vb w2 hvb a2 e2 z2 => ?_
  simp only [add_mk, Nat.zero_add]
  have h2 := h1.same e2
  have skip : pick l[i] = false → W.hibernate_Select_k6 a k c' (i : Int) (some p) l.length c ((l.length : Nat) : Int) (i : Int) false next w2 Q := by
    intro hp
    unfold W.hibernate_Select_k6
    rw [br_false, inc_nat (by omega)]
    exact hnext hlt _ _ ⟨a, k, c', rfl, h2.skip hlt hp⟩
  refine ldB a2 rfl ?_
  refine br_of (fun b1 => ?_) fun b1 => skip (by unfold pick; rw [b1]; rfl)
  refine ldB a2 rfl ?_
  refine br_of (fun b2 => ?_) fun b2 => skip (by unfold pick; rw [b2, Bool.and_false, Bool.false_and])
  refine ldB a2 rfl ?_
  unfold W.hibernate_Select_k6
  have hp : pick l[i] = !l[i].2.2 := by unfold pick; rw [b1, b2]; rfl
  refine br_of (fun b3 => ?_) fun b3 => ?_
  · refine select_k h2 hlt hl (by rw [hp, b3]) fun a4 c4 w4 h4 => ?_
    rw [inc_nat (by omega)]
    exact hnext hlt _ _ ⟨a4, k + 1, c4, rfl, h4⟩
  · rw [inc_nat (by omega)]
    exact hnext hlt _ _ ⟨a, k, c', rfl, h2.skip hlt (by rw [hp, b3])⟩

theorem rselect_c {pa : Option Addr} {n c : Nat} {l : List PI} (h : Reads w pa (l.flatMap piC)) (hn : l.length = n) (hl : n ≤ 1000000) (hQ : ∀ a k c' w', Nl w w' a k c' (selN l n) → Q (.slice a k c') w') :
    CallE Try.prog 17 #[.slice pa n c] w Q := by
  subst hn
  apply C.ref35_Select
  unfold W.ref35_Select
  refine LoopW.nat l.length (fun i x w' => ∃ a k c', x = ((a, k, c'), (i : Int), ()) ∧ Nl w w' a k c' (selN l i)) ⟨none, 0, 0, rfl, .inl ⟨rfl, rfl, rfl, rfl⟩, rfl, (fun b hb => by cases hb), Ext.refl _ _⟩ ?_
  rintro i x w1 next hi ⟨a, k, c', rfl, h1⟩ hnext
  dsimp only
  by_cases hlt : i < l.length
  case neg =>
    rw [decide_eq_false (by omega), br_false]
    obtain rfl : i = l.length := by omega
    exact hQ a k c' w1 h1
  rw [decide_eq_true (by omega), br_true]
  have hr := h.ext h1.e (fun _ _ _ h => h)
  obtain ⟨p, rfl⟩ := hr.some_ (by rw [flat_length piC_len]; omega)
  have skip : pick l[i] = false → W.ref35_Select_k6 (some p) l.length c a k c' (i : Int) false next w1 Q := by
    intro hp
    unfold W.ref35_Select_k6
    rw [br_false, inc_nat (by omega)]
    exact hnext hlt _ _ ⟨a, k, c', rfl, h1.skip hlt hp⟩
  refine ixs i 3 27 hlt ?_
  refine rdF (o := 0) i hlt hr piC_len (by omega) rfl (fb ?_)
  refine br_of (fun b1 => ?_) fun b1 => skip (by unfold pick; rw [b1]; rfl)
  refine ixs i 3 27 hlt ?_
  refine rdF (o := 1) i hlt hr piC_len (by omega) rfl (fb ?_)
  refine br_of (fun b2 => ?_) fun b2 => skip (by unfold pick; rw [b2, Bool.and_false, Bool.false_and])
  refine ixs i 3 27 hlt ?_
  refine rdF (o := 2) i hlt hr piC_len (by omega) rfl (fb ?_)
  unfold W.ref35_Select_k6
  have hp : pick l[i] = !l[i].2.2 := by unfold pick; rw [b1, b2]; rfl
  refine br_of (fun b3 => ?_) fun b3 => ?_
  · refine select_k h1 hlt hl (by rw [hp, b3]) fun a4 c4 w4 h4 => ?_
    rw [inc_nat (by omega)]
    exact hnext hlt _ _ ⟨a4, k + 1, c4, rfl, h4⟩
  · rw [inc_nat (by omega)]
    exact hnext hlt _ _ ⟨a, k, c', rfl, h1.skip hlt (by rw [hp, b3])⟩

/-- Two lists of numbers compared. -/
theorem equalInts_c {pa qa : Option Addr} {n c m d : Nat} {ps qs : List Nat} (hp : Reads w pa (is_ ps)) (hq : Reads w qa (is_ qs)) (hn : ps.length = n) (hm : qs.length = m) (hb : n ≤ 1000000) (hQ : ∀ w', Ext w w' (fun _ => False) → Q (.bool (decide (ps = qs))) w') :
    CallE Try.prog 16 #[.slice pa n c, .slice qa m d] w Q := by
  subst hn hm
  apply C.help_Equal_int_
  unfold W.help_Equal_int_
  by_cases hl : ps.length = qs.length
  case neg =>
    rw [show ((((ps.length : Nat) : Int) : Int) != ((qs.length : Nat) : Int)) = true by rw [bne_iff_ne]; omega, br_true]
    have := hQ w (Ext.refl _ _)
    rw [decide_eq_false (fun hc => hl (by rw [hc]))] at this
    exact this
  rw [show ((((ps.length : Nat) : Int) : Int) != ((qs.length : Nat) : Int)) = false by rw [hl]; simp, br_false]
  refine LoopW.nat ps.length (fun i x w' => x = ((i : Int), ()) ∧ Ext w w' (fun _ => False) ∧ ps.take i = qs.take i) ⟨rfl, Ext.refl _ _, rfl⟩ ?_
  rintro i x w1 next hi ⟨rfl, e1, ht⟩ hnext
  dsimp only
  by_cases hlt : i < ps.length
  case neg =>
    rw [decide_eq_false (by omega), br_false]
    have := hQ w1 e1
    rw [List.take_of_length_le (by omega), List.take_of_length_le (by omega)] at ht
    rw [decide_eq_true ht] at this
    exact this
  rw [decide_eq_true (by omega), br_true]
  unfold dr
  dsimp only
  have e1' := e1.drew_
  have hp1 := hp.ext e1' (fun _ _ _ h => h)
  have hq1 := hq.ext e1' (fun _ _ _ h => h)
  obtain ⟨p, rfl⟩ := hp1.some_ (by rw [is_length]; omega)
  obtain ⟨q, rfl⟩ := hq1.some_ (by rw [is_length]; omega)
  refine ixs i 1 3 hlt ?_
  rw [Nat.mul_one]
  refine rdL hp1 (is_get hlt) (fi ?_)
  refine ixs i 1 3 (by omega) ?_
  rw [Nat.mul_one]
  refine rdL hq1 (is_get (show i < qs.length by omega)) (fi ?_)
  have hts := take_succ_eq hlt (show i < qs.length by omega) ht
  by_cases hpq : ps[i] = qs[i]'(by omega)
  · rw [show ((((ps[i] : Nat) : Int) : Int) != ((qs[i]'(by omega) : Nat) : Int)) = false by rw [hpq]; simp, br_false, inc_nat (by omega)]
    exact hnext hlt _ _ ⟨rfl, e1', hts.1 hpq⟩
  · rw [show ((((ps[i] : Nat) : Int) : Int) != ((qs[i]'(by omega) : Nat) : Int)) = true by rw [bne_iff_ne]; omega, br_true]
    have := hQ _ e1'
    rw [decide_eq_false (fun hc => hpq (hts.2 (by rw [hc])))] at this
    exact this

def aw1 : Fz := (ent (fz0 2) 1 20 5).1
def aw2 : Fz := (frz aw1 10 30).1
theorem awake_c (hQ : ∀ w', Ext w w' (fun _ => False) → Q (.bool true) w') : CallE Try.prog 14 #[] w Q := by
  apply C.law35_awake
  unfold W.law35_awake
  refine newFreezer_c (n := 2) (by omega) fun f fb_ w1 f1 hf1 hf2 e1 => ⟨_, _, rfl, ?_⟩
  have lf : f < w1.heap.size := f1.d.lt
  have lfb : fb_ < w1.heap.size := f1.e.lt
  refine dnew_c (U := w) (K := fun b => b = f ∨ b = fb_) (n := 4) (by omega) (by omega) e1 (fun b hb => by rcases hb with hb | hb <;> omega) fun p w2 d2 e2 => ⟨_, _, rfl, ?_⟩
  refine br_neg rfl (br_neg rfl ?_)
  refine eq_nil (fb ?_)
  refine br_neg rfl ?_
  refine eq_nil (fb ?_)
  refine br_neg rfl ?_
  have e02 := e1.tr e2
  have hX : ∀ {wa wb : World} {s : St}, Dsk w p (fun b => b = f ∨ b = fb_) wa s → Ext wa wb (fun b => b = f ∨ b = fb_) → Dsk w p (fun b => b = f ∨ b = fb_) wb s := fun d e => d.step e (fun _ _ h => h)
  have hU : ∀ {wa wb : World}, Ext w wa (fun _ => False) → Ext wa wb (fun b => b = f ∨ b = fb_) → Ext w wb (fun _ => False) := fun e0 e => e0.trans e (fun _ _ h => h) (fun b hb h => by rcases h with h | h <;> omega)
  refine enter_c (pr := 1) (un := 20) (now := 5) (f1.ext0 e2) fun w3 f3 e3 => fi ?_
  refine br_neg (by decide) ?_
  refine freeze_c (now := 10) (dl := 30) f3 (by decide) fun w4 f4 e4 => fi ?_
  refine br_neg (by decide) ?_
  refine frozen_c (pr := 0) f4 fun w5 f5 e5 => fb ?_
  refine br_neg (by decide) ?_
  refine frozen_c (pr := 1) f5 fun w6 f6 e6 => fb ?_
  refine br_neg (by decide) ?_
  refine advance_c (now := 20) f6 (by decide) fun w7 f7 e7 => ⟨_, _, rfl, ?_⟩
  have d7 := hX (((hX (hX d2 e3) e4).same e5).same e6) e7
  have e07 := hU (((hU (hU e02 e3) e4).tr e5).tr e6) e7
  have hzb : zb.length = 32 := rfl
  have hsl : (secs 3 zb []).length = 1 := by kernel_rfl
  rw [new_on] at d7
  have hs1 := sav_secs (S := List.replicate 4 zs) (g := 3) (bd := zb) (ps := []) hzb (by rw [hsl, List.length_replicate]; omega)
  refine save_c (g := 3) (bd := zb) (pa := none) (pn := 0) (pc := 0) (ps := []) d7 onD_ok (by omega) hzb (.inl rfl) rfl okP_nil fun w8 d8 e8 => fi ?_
  rw [hs1] at d8 ⊢
  dsimp only at d8 ⊢
  have hl1 := loa_some (S := secs 3 zb [] ++ (List.replicate 4 zs).drop (secs 3 zb []).length) (bd := zb) rfl hzb (by omega) okP_nil (fun d hd => rep_len d (List.mem_of_mem_drop hd))
  rw [if_neg (by simp)] at hl1
  have hlen8 : (secs 3 zb [] ++ (List.replicate 4 zs).drop (secs 3 zb []).length).length = 4 := by rw [List.length_append, hsl]; rfl
  have e08 := Xd.u e07 e8
  refine load_c (bd := zb) d8 onD_ok (by omega) (by rw [hlen8]; omega) (by rw [hlen8]; omega) hzb (fun e he => by rw [hl1] at he; cases he) fun r hr a9 c9 w9 s9 f9 d9 e9 => ⟨_, _, rfl, ?_⟩
  rw [hl1] at hr d9
  cases hr
  dsimp only at d9 ⊢
  have e09 := Xd.u e08 e9
  refine al_st 34 (imgC_length hzb) (imgC_one _ _ _ _ _) fun xb wa hxb aa ea za => ?_
  have hxl := aa.lt
  have da : Dsk w p (fun b => b = xb) wa (onD ((secs 3 zb [] ++ (List.replicate 4 zs).drop (secs 3 zb []).length).set 0 zs)) := d9.grow ea fun b hb => by subst hb; exact ⟨.inr (by omega), hxl⟩
  have hl2 := loa_none (S := (secs 3 zb [] ++ (List.replicate 4 zs).drop (secs 3 zb []).length).set 0 zs) (bd := zb) (by rw [List.length_set, hlen8]; omega) (by rw [List.getD_eq_getElem?_getD, List.getElem?_set_self (by rw [hlen8]; omega)]; rfl)
  refine load_c (bd := zb) da onD_ok (by omega) (by rw [List.length_set, hlen8]; omega) (by rw [List.length_set, hlen8]; omega) hzb (fun e he wb db eb => ⟨_, _, rfl, ?_⟩) (fun r hr => by rw [hl2] at hr; cases hr)
  rw [hl2] at he
  cases he
  have e0b := Xd.u (e09.tr ea) eb
  refine al_st 34 (imgC_length rfl) (imgC_one _ _ _ _ _) fun yb wc hyb ac ec zc => ?_
  refine br_pos (by decide) (br_pos (by decide) (br_pos rfl (br_pos rfl ?_)))
  simp only [add_mk, Nat.zero_add]
  have ax := (aa.ext eb fun hx => hx.2 rfl).ext ec (fun h => h)
  refine ldI ax (imgC_32 hzb) ?_
  refine br_pos rfl (br_pos rfl ?_)
  refine al_i fun lb wd hlb ad ed zd => ?_
  refine select_c (l := [(false, false, false), (true, false, false), (true, false, true)]) (n := 3) (.inr ⟨_, rfl, fun k hk => by rw [add_mk, ad.cell, Nat.zero_add]; rfl⟩) rfl (by omega) fun a2 k2 c2 we h2 => fs ?_
  refine al_i fun tb wf htb af ef zf => ?_
  have hk2 := h2.n
  have hsel : selN [(false, false, false), (true, false, false), (true, false, true)] 3 = [1] := by decide
  rw [hsel] at h2 hk2
  have hef : Ext w wf (fun _ => False) := ((((e0b.tr ec).tr ed).tr h2.e).tr ef)
  refine equalInts_c (ps := [1]) (qs := [1]) (h2.s.ext ef (fun _ _ h => h)).reads (.inr ⟨_, rfl, fun k hk => by rw [add_mk, af.cell, Nat.zero_add]; rfl⟩) hk2 rfl (by rw [← hk2]; show 1 ≤ _; omega) fun wg eg => fb ?_
  exact hQ wg (hef.tr eg)
theorem awake_fin (e0 : Ext U w (fun _ => False)) (hQ : ∀ w', Ext U w' (fun _ => False) → Q (.bool true) w') : CallE Try.prog 14 #[] w fun v w' => fB v fun b => Q (.bool b) w' :=
  awake_c fun w' e => fb (hQ w' (e0.tr e))

theorem selectAgrees_c {pa : Option Addr} {n c : Nat} {l : List PI} (h : Reads w pa (l.flatMap piC)) (hn : l.length = n) (hQ : ∀ w', Ext w w' (fun _ => False) → Q (.bool true) w') :
    CallE Try.prog 3 #[.slice pa n c] w Q := by
  apply C.law35_HibernateSelectAgrees
  unfold W.law35_HibernateSelectAgrees
  refine br_of (fun _ => awake_fin (Ext.refl _ _) hQ) fun hle => ?_
  have h100 : n ≤ 100 := by have := of_decide_eq_false hle; omega
  subst hn
  refine select_c h rfl (by omega) fun a k c' w1 h1 => fs ?_
  have hk := h1.n
  have hr := h.ext h1.e (fun _ _ _ h => h)
  -- what was chosen, up to a page
  have mono : ∀ i, i ≤ l.length → ∃ r, selN l l.length = selN l i ++ r := by
    intro i hi
    obtain ⟨d, hd⟩ : ∃ d, l.length = i + d := ⟨l.length - i, by omega⟩
    rw [hd]
    unfold selN
    rw [List.range_add, List.filter_append]
    exact ⟨_, rfl⟩
  refine LoopW.nat l.length (fun i x w' => x = (((selN l i).length : Int), (i : Int), ()) ∧ w' = w1) ⟨rfl, rfl⟩ ?_
  rintro i x w2 next hi ⟨rfl, rfl⟩ hnext
  dsimp only
  by_cases hlt : i < l.length
  case neg =>
    rw [decide_eq_false (by omega), br_false]
    obtain rfl : i = l.length := by omega
    unfold W.law35_HibernateSelectAgrees_k12
    rw [hk]
    refine br_pos (by simp) ?_
    refine rselect_c hr rfl (by omega) fun a3 k3 c3 w3 h3 => fs ?_
    refine equalInts_c (h1.s.ext h3.e (fun _ _ h => h)).reads h3.s.reads hk h3.n (by have := selN_le l l.length; omega) fun w4 e4 => fb ?_
    refine br_pos (by simp) ?_
    exact awake_fin ((h1.e.tr h3.e).tr e4) hQ
  rw [decide_eq_true (by omega), br_true]
  obtain ⟨p, rfl⟩ := hr.some_ (by rw [flat_length piC_len]; omega)
  have hle1 := selN_le l i
  have skip : pick l[i] = false → W.law35_HibernateSelectAgrees_k9 (some p) l.length c a k c' ((selN l i).length : Int) (i : Int) false next w2 Q := by
    intro hp
    unfold W.law35_HibernateSelectAgrees_k9
    rw [br_false, inc_nat (by omega)]
    refine hnext hlt _ _ ⟨?_, rfl⟩
    rw [selN_succ hlt, if_neg (by rw [hp]; simp), List.append_nil]
  refine ixs i 3 27 hlt ?_
  refine rdF (o := 0) i hlt hr piC_len (by omega) rfl (fb ?_)
  refine br_of (fun b1 => ?_) fun b1 => skip (by unfold pick; rw [b1]; rfl)
  refine ixs i 3 27 hlt ?_
  refine rdF (o := 1) i hlt hr piC_len (by omega) rfl (fb ?_)
  refine br_of (fun b2 => ?_) fun b2 => skip (by unfold pick; rw [b2, Bool.and_false, Bool.false_and])
  refine ixs i 3 27 hlt ?_
  refine rdF (o := 2) i hlt hr piC_len (by omega) rfl (fb ?_)
  have hp : pick l[i] = !l[i].2.2 := by unfold pick; rw [b1, b2]; rfl
  by_cases hb3 : pick l[i] = true
  case neg =>
    have hf := Bool.eq_false_iff.2 hb3
    rw [← hp, hf]
    exact skip hf
  rw [← hp, hb3]
  unfold W.law35_HibernateSelectAgrees_k9
  rw [br_true]
  obtain ⟨r, hr2⟩ := mono (i + 1) (by omega)
  rw [selN_succ hlt, if_pos hb3, List.append_assoc] at hr2
  have hlen : (selN l i).length < (selN l l.length).length := by rw [hr2, List.length_append, List.length_append]; show _ < _ + (1 + _); omega
  have hget : (is_ (selN l l.length))[(selN l i).length]? = some (.int .i64 ((i : Nat) : Int)) := by
    rw [is_get hlen]
    congr 2
    have : (selN l l.length)[(selN l i).length]? = some i := by rw [hr2, List.getElem?_append_right (Nat.le_refl _), Nat.sub_self]; rfl
    rw [List.getElem?_eq_getElem hlen] at this
    rw [Option.some.inj this]
  refine br_neg (decide_eq_false (by omega)) ?_
  obtain ⟨q, rfl⟩ := h1.s.reads.some_ (by rw [is_length]; omega)
  refine ixs (selN l i).length 1 3 (by omega) ?_
  rw [Nat.mul_one]
  refine rdL h1.s.reads hget (fi ?_)
  refine br_neg (by simp) ?_
  rw [inc_nat (by omega), inc_nat (by omega)]
  refine hnext hlt _ _ ⟨?_, rfl⟩
  rw [selN_succ hlt, if_pos hb3, List.length_append]
  rfl
end
end Go.Proofs.Ytpinpccamfhofaa.Hi
