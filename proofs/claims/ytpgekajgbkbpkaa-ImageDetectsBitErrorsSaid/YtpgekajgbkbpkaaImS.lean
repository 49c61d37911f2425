/-
  The statements' helpers over the code: the image that descriptions determine, comparison of images. No condition beyond those stated.
-/
import Derived.Test.YtpgekajgbkbpkaaImO
namespace Go.Proofs.Ytpgekajgbkbpkaa.Im
open Go Go.Ev Go.Proofs

def lastN : Int → List Pg → Int
  | m, [] => m
  | _, p :: r => lastN p.1 r
theorem lastN_snoc : ∀ (ps : List Pg) (m : Int) (p : Pg), lastN m (ps ++ [p]) = p.1
  | [], _, _ => rfl
  | q :: ps, _, p => lastN_snoc ps q.1 p
theorem incr_snoc : ∀ (ps : List Pg) (m : Int) (p : Pg), incr m ps = true → 0 ≤ p.1 → p.1 ≤ 2147483647 → lastN m ps < p.1 → incr m (ps ++ [p]) = true
  | [], m, p, _, h0, h1, h2 => by
    have : m < p.1 := h2
    show incr m [p] = true
    rw [incr_cons, decide_eq_true h0, decide_eq_true h1, decide_eq_true this]; rfl
  | q :: ps, m, p, h, h0, h1, h2 => by
    rw [incr_cons, Bool.and_eq_true] at h
    rw [List.cons_append, incr_cons, h.1, incr_snoc ps q.1 p h.2 h0 h1 h2]; rfl
theorem buildI2 {bd : List UInt8} {g : Nat} (hbd : bd.length = 32) : ∀ w, (Instr.build 45 #[(0, .agg (by_ bd).toArray), (1, .int .u64 (g : Int))]).run Try.prog w = .ok (.agg (imgC bd g none 0 0).toArray) w := by
  refine bld_run (structFs Try.prog 45) #[(0, 32), (32, 1), (33, 1)] (zeroT Try.prog 45) (imgC zb 0 none 0 0) (by kernel_rfl) (by kernel_rfl) (by kernel_rfl) (by kernel_rfl) ?_
  have l1 : (imgC zb 0 none 0 0).length = 34 := rfl
  have l2 : ∀ g' pa' n' c', (imgC bd g' pa' n' c').length = 34 := fun _ _ _ _ => imgC_length hbd
  have s1 : splice (imgC zb 0 none 0 0) 0 (by_ bd) = imgC bd 0 none 0 0 := by
    rw [splice_eq _ _ _ (by rw [l1, by_length, hbd]; omega), by_length, hbd]
    rfl
  have s2 : splice (imgC bd 0 none 0 0) 32 [.int .u64 (g : Int)] = imgC bd g none 0 0 := splice_end (by rw [by_length, hbd])
  rw [fill_cons 0 (by_ bd) (by rw [by_length, hbd]; rfl) rfl (by rw [l1, by_length, hbd]; omega), s1]
  rw [fill_cons 32 [.int .u64 (g : Int)] rfl rfl (by rw [l2]; show 32 + 1 ≤ 34; omega), s2]
  rfl
theorem imgC_set {bd : List UInt8} {g : Nat} {pa pa' : Option Addr} {n c n' c' : Nat} (h : bd.length = 32) : (imgC bd g pa n c).set 33 (.slice pa' n' c') = imgC bd g pa' n' c' := by
  unfold imgC
  rw [List.set_append_right _ _ (by rw [by_length]; omega), by_length, h]
  rfl

section
variable {U w : World} {Q : Value → World → Prop}

theorem large_c {l : Option Addr} {n c : Nat} {rs : List Rw} (h : Rin w l n rs) (hQ : ∀ b : Bool, Q (.bool b) w) : CallE Try.prog 20 #[.slice l n c] w Q := by
  apply C.law34_large
  unfold W.law34_large
  have hn := h.n
  refine LoopW.nat n (fun i x w' => x = ((i : Int), ()) ∧ w' = w) ⟨rfl, rfl⟩ ?_
  rintro i x w1 next hi ⟨rfl, rfl⟩ hnext
  dsimp only
  by_cases hlt : i < n
  case neg =>
    rw [decide_eq_false (by omega), br_false]
    exact hQ _
  rw [decide_eq_true (by omega), br_true]
  obtain ⟨p, rfl⟩ := h.ptr (by omega)
  refine ixs i 3 69 hlt ?_
  refine rdF (o := 1) i (by omega) h.r Rw.len (by omega) rfl (fs ?_)
  refine br_of (fun _ => hQ _) fun _ => ?_
  have hmx : rs.length ≤ 9223372036854775807 := h.mx
  rw [show IntKind.wrap .i64 ((i : Int) + 1) = ((i + 1 : Nat) : Int) by rw [wrap_i64 (by omega) (by omega)]; rfl]
  exact hnext hlt _ _ ⟨rfl, rfl⟩

theorem some_k9 {p : Addr} {rn rc rb ib i c m : Nat} {rs : List Rw} {bd : List UInt8} {g : Nat} {a : Option Addr} {ps : List Pg} {next : (Int × Int × Unit) → World → Prop} (hr : Rin w (some p) rn rs) (hi : i < rn) (hi6 : i < 6) (hbd : bd.length = 32)
    (hib : At w ib (imgC bd g a ps.length c) 45) (hs : Sl w 52 2 a ps.length c (ps.flatMap pgC)) (hne : ∀ b, a = some ⟨b, 0, none⟩ → b ≠ ib) (hps : ps.length = i)
    (hnext : ∀ d a' c' w', d.length = 256 → At w' ib (imgC bd g a' (ps.length + 1) c') 45 → Sl w' 52 2 a' (ps.length + 1) c' ((ps ++ [((m : Int), d)]).flatMap pgC) → (∀ b, a' = some ⟨b, 0, none⟩ → b ≠ ib ∧ (a = some ⟨b, 0, none⟩ ∨ w.heap.size ≤ b)) → Ext w w' (fun b => b = ib ∨ a = some ⟨b, 0, none⟩) → next ((m : Int), ((i + 1 : Nat) : Int), ()) w') :
    W.law34_Some_k9 (some p) rn rc ⟨rb, 0, none⟩ ⟨ib, 0, none⟩ (m : Int) (i : Int) next w Q := by
  unfold W.law34_Some_k9
  simp only [add_mk, Nat.zero_add]
  refine ⟨fun _ => True, trivial, ?_⟩
  have hn := hr.n
  refine ixsS i 3 69 hi ?_
  refine ixsS i 3 69 hi ?_
  have ed : Ext w (drew w) (fun _ => False) := (Ext.refl w _).drew_
  generalize hw0 : drew w = w0
  rw [hw0] at ed
  have E0 : Ext w0 w0 (fun _ => False) := Ext.refl _ _
  have hr0 := hr.ext ed
  have hib0 := hib.ext ed (fun h => h)
  have hs0 := hs.ext ed (fun _ _ h => h)
  obtain ⟨hU, hst0, hst1⟩ := hr0.ok rs[i] (List.getElem_mem (by omega))
  have ldp : ∀ {w' : World} {K : Option Addr → Nat → Nat → Prop}, Ext w0 w' (fun _ => False) → K a ps.length c → ld Try.prog 43 ⟨ib, 33, none⟩ w' fun v => fS v fun l n c => True ∧ K l n c :=
    fun e hK => ldL (hib0.ext e (fun h => h)) (imgC_33 hbd) ⟨trivial, hK⟩
  have ldw : ∀ {w' : World} {K : Option Addr → Nat → Nat → Prop}, Ext w0 w' (fun _ => False) → K rs[i].wa rs[i].wn rs[i].wc → ld Try.prog 67 ((p.add (i * 3)).add 1) w' fun v => fS v fun l n c => True ∧ K l n c :=
    fun e hK => rdF (o := 1) i (by omega) (hr0.r.ext e (fun _ _ _ h => h)) Rw.len (by omega) rfl (fs ⟨trivial, hK⟩)
  have lds : ∀ {w' : World} {K : Int → Prop}, Ext w0 w' (fun _ => False) → K rs[i].st → ld Try.prog 5 ((p.add (i * 3)).add 2) w' fun v => fI .u8 v fun x => True ∧ K x :=
    fun e hK => rdF (o := 2) i (by omega) (hr0.r.ext e (fun _ _ _ h => h)) Rw.len (by omega) rfl (fi ⟨trivial, hK⟩)
  have pg : ∀ {w' : World} {K : ByteArray → World → Prop}, Ext w0 w' (fun _ => False) → (∀ d w'', d.length = 256 → Ext w0 w'' (fun _ => False) → K (mkS d) w'') → CallE Try.prog 32 #[.slice rs[i].wa rs[i].wn rs[i].wc, .int .u8 rs[i].st] w' fun v w'' => fT v fun t => True ∧ K t w'' :=
    fun e hK => Pz.page_c (hU.ext e) hst0 hst1 fun d w'' hd e'' => ft ⟨trivial, hK d w'' hd (e.tr e'')⟩
  have alp : ∀ {w' : World} {d : List UInt8} {K : Addr → World → Prop}, Ext w0 w' (fun _ => False) → (∀ tb w'', At w'' tb (pgC ((m : Int), d)) 52 → Ext w0 w'' (fun _ => False) → K ⟨tb, 0, none⟩ w'') → al 52 #[.int .i64 (m : Int), .string (mkS d)] w' fun a w'' => True ∧ K a w'' :=
    fun e hK => al_i fun tb w'' htb a'' e'' z'' => ⟨trivial, hK tb w'' a'' (e.tr e'')⟩
  have fin : ∀ {w' : World} {d : List UInt8} {tb : Nat}, d.length = 256 → At w' tb (pgC ((m : Int), d)) 52 → Ext w0 w' (fun _ => False) →
      rv Try.prog (Builtin.append_ #[43, 43] 43 #[.slice a ps.length c, .slice (some ⟨tb, 0, none⟩) 1 1]) w' fun v w'' => fS v fun l n c => True ∧ st Try.prog 43 ⟨ib, 33, none⟩ (.slice l n c) w'' fun w3 => True ∧ next ((m : Int), (IntKind.wrap .i64 ((i : Int) + 1) : Int), ()) w3 := by
    intro w' d tb hd htb e
    refine ap_i 52 2 (vs := pgC ((m : Int), d)) (hs0.ext e (fun _ _ h => h)) (.inr ⟨_, rfl, fun k hk => by rw [add_mk, htb.cell, Nat.zero_add]⟩) rfl (pgC_one _) (by omega) fun a1 c1 w1 s1 f1 g1 e1 => fs ⟨trivial, ?_⟩
    have hi1 := (hib0.ext e (fun h => h)).ext e1 (fun h => hne ib h rfl)
    refine st_i hi1 (by rw [imgC_length hbd]; omega) fun w2 a2 e2 z2 => ⟨trivial, ?_⟩
    rw [imgC_set hbd] at a2
    rw [inc_nat (by omega)]
    have hlt := (hib0.ext e (fun h => h)).lt
    have hne1 : ∀ b, a1 = some ⟨b, 0, none⟩ → b ≠ ib := by
      intro b hb
      rcases f1 b hb with h | h
      · exact hne b h
      · omega
    have hsz1 := ed.size
    have hsz2 := e.size
    refine hnext d a1 c1 w2 hd a2 (by rw [List.flatMap_append]; simpa using s1.ext e2 hne1) (fun b hb => ⟨hne1 b hb, ?_⟩) (((ed.tr e).trans e1 (Z := fun b => b = ib ∨ a = some ⟨b, 0, none⟩) (fun _ _ h => h.elim) (fun _ _ h => .inr h)).trans e2 (fun _ _ h => h) (fun _ _ h => .inl h))
    rcases f1 b hb with h | h
    · exact .inl h
    · exact .inr (by omega)
  repeat' with_reducible first
    | refine ldp (by assumption) ?_
    | refine ldw (by assumption) ?_
    | refine lds (by assumption) ?_
    | refine pg (by assumption) fun _ _ _ _ => ?_
    | refine alp (by assumption) fun _ _ _ _ => ?_
    | refine And.intro ?_ ?_
    | exact fin (by assumption) (by assumption) (by assumption)

/-- The image that descriptions determine: at most six pages, valid. -/
theorem some_c {l : Option Addr} {rn rc g : Nat} {rs : List Rw} {bd : List UInt8} (hr : Rin w l rn rs) (hbd : bd.length = 32) (hQ : ∀ ps a c w', OkP ps → ps.length ≤ 6 → Sl w' 52 2 a ps.length c (ps.flatMap pgC) → (∀ b, a = some ⟨b, 0, none⟩ → w.heap.size ≤ b) → Ext w w' (fun _ => False) → Q (.agg (imgC bd g a ps.length c).toArray) w') :
    CallE Try.prog 21 #[.agg (by_ bd).toArray, .int .u64 (g : Int), .slice l rn rc] w Q := by
  apply C.law34_Some
  unfold W.law34_Some
  refine al_i fun bb w1 hbb a1 e1 z1 => ?_
  change At w1 bb (by_ bd) 30 at a1
  refine al_i fun ob w2 hob a2 e2 z2 => ?_
  rw [zimg] at a2
  refine ld_w (a1.ext e2 (fun h => h)) (fg ?_) (hs := by rw [by_length, hbd]; kernel_rfl)
  refine rq_r (buildI2 hbd) (fg ?_)
  refine al_st 34 (imgC_length hbd) (imgC_one _ _ _ _ _) fun ib w3 hib a3 e3 z3 => ?_
  have e03 := (e1.tr e2).tr e3
  have hsz := e03.size
  have a23 := a2.ext e3 (fun h => h)
  have hn := hr.n
  have fin : ∀ (w4 : World) (a4 : Option Addr) (c4 : Nat) (ps : List Pg), At w4 ib (imgC bd g a4 ps.length c4) 45 → Sl w4 52 2 a4 ps.length c4 (ps.flatMap pgC) → (∀ b, a4 = some ⟨b, 0, none⟩ → b ≠ ib ∧ w3.heap.size ≤ b) → Ext w3 w4 (· = ib) → OkP ps → ps.length ≤ 6 →
      ld Try.prog 45 ⟨ib, 0, none⟩ w4 fun v => fG v fun x => st Try.prog 45 ⟨ob, 0, none⟩ (.agg x) w4 fun w5 => ld Try.prog 45 ⟨ob, 0, none⟩ w5 fun v => fG v fun x => Q (.agg x) w5 := by
    intro w4 a4 c4 ps ai as_ hf e4 hok h6
    refine ld_w ai (fg ?_) (hs := by rw [imgC_length hbd]; kernel_rfl)
    have hlo := a23.lt
    refine st_w 34 (a23.ext e4 (by omega)) rfl (imgC_length hbd) (imgC_one _ _ _ _ _) fun w5 a5 e5 z5 => ?_
    refine ld_w a5 (fg ?_) (hs := by rw [imgC_length hbd]; kernel_rfl)
    have hsz1 := e1.size
    have hsz2 := e2.size
    refine hQ ps a4 c4 w5 hok h6 (as_.ext e5 (fun b hb hx => ?_)) (fun b hb => ?_) ((e03.trans e4 (fun _ _ h => h) (fun b hb hx => by omega)).trans e5 (fun _ _ h => h) (fun b hb hx => by omega))
    · have := (hf b hb).2; omega
    · have := (hf b hb).2; omega
  refine LoopW.nat 6 (fun i x w' => ∃ (m : Nat) (a : Option Addr) (c : Nat) (ps : List Pg), x = ((m : Int), (i : Int), ()) ∧ ps.length = i ∧ i ≤ rn ∧ m ≤ 100 * i ∧ incr (-1) ps = true ∧ (∀ p ∈ ps, p.2.length = 256) ∧ (0 < i → lastN (-1) ps = (m : Int)) ∧ At w' ib (imgC bd g a ps.length c) 45 ∧ Sl w' 52 2 a ps.length c (ps.flatMap pgC) ∧ (∀ b, a = some ⟨b, 0, none⟩ → b ≠ ib ∧ w3.heap.size ≤ b) ∧ Ext w3 w' (· = ib))
    ⟨0, none, 0, [], rfl, rfl, by omega, by omega, rfl, by simp, fun h => absurd h (by omega), a3, .inl ⟨rfl, rfl, rfl, rfl⟩, (fun b hb => by cases hb), Ext.refl _ _⟩ ?_
  rintro i x w4 next hi ⟨m, a, c, ps, rfl, hpl, hirn, hm, hinc, hd, hlast, ai, as_, hf, e4⟩ hnext
  dsimp only
  have hok : OkP ps := ⟨by unfold validP; rw [hinc, decide_eq_true (by omega)]; rfl, hd⟩
  by_cases hlt : i < rn
  case neg =>
    rw [decide_eq_false (by omega), br_false]
    exact fin w4 a c ps ai as_ hf e4 hok (by omega)
  rw [decide_eq_true (by omega), br_true]
  by_cases hlt6 : i < 6
  case neg =>
    rw [decide_eq_false (by omega), br_false]
    exact fin w4 a c ps ai as_ hf e4 hok (by omega)
  rw [decide_eq_true (by omega), br_true]
  obtain ⟨p, rfl⟩ := hr.ptr (by omega)
  have hib3 : w.heap.size ≤ ib := by have := (e1.tr e2).size; omega
  have hr4 : Rin w4 (some p) rn rs := hr.ext (e03.trans e4 (fun _ _ h => h) (fun b hb hx => by omega))
  refine ixs i 3 69 hlt ?_
  refine rdF (o := 0) i (by omega) hr4.r Rw.len (by omega) rfl (fi ?_)
  refine mod_c (by omega) (by omega) (fi ?_)
  have hmb := modv_bd (v := rs[i].step) (n := 50) (by omega)
  obtain ⟨k, hk⟩ := nat_of hmb.1
  rw [hk] at hmb ⊢
  have step : ∀ m' : Nat, m' ≤ 100 * (i + 1) → lastN (-1) ps < (m' : Int) → W.law34_Some_k9 (some p) rn rc ⟨ob, 0, none⟩ ⟨ib, 0, none⟩ (m' : Int) (i : Int) next w4 Q := by
    intro m' hm' hl'
    refine some_k9 hr4 hlt hlt6 hbd ai as_ (fun b hb => (hf b hb).1) hpl fun d a' c' w' hd' ai' as' hf' e' => ?_
    refine hnext hlt6 _ _ ⟨m', a', c', ps ++ [((m' : Int), d)], rfl, by rw [List.length_append]; show _ + 1 = _; omega, by omega, hm', incr_snoc ps (-1) _ hinc (by show 0 ≤ (m' : Int); omega) (by show (m' : Int) ≤ _; omega) hl', fun q hq => ?_, fun _ => lastN_snoc _ _ _, by rw [List.length_append]; exact ai', by rw [List.length_append]; exact as', fun b hb => ?_, e4.trans e' (fun _ _ h => h) (fun b hb hx => ?_)⟩
    · rcases List.mem_append.1 hq with hq | hq
      · exact hd q hq
      · rw [List.mem_singleton.1 hq]; exact hd'
    · obtain ⟨h1, h2⟩ := hf' b hb
      refine ⟨h1, ?_⟩
      have := e4.size
      rcases h2 with h2 | h2
      · exact (hf b h2).2
      · omega
    · rcases hx with hx | hx
      · exact hx
      · have := (hf b hx).2
        omega
  by_cases hi0 : i = 0
  · subst hi0
    rw [decide_eq_false (by omega), br_false]
    have hps : ps = [] := List.eq_nil_of_length_eq_zero hpl
    rw [show IntKind.wrap .i64 ((m : Int) + (k : Int)) = ((m + k : Nat) : Int) by rw [wrap_i64 (by omega) (by omega)]; omega]
    exact step (m + k) (by omega) (by rw [hps]; show -1 < ((m + k : Nat) : Int); omega)
  · rw [decide_eq_true (by omega), br_true]
    rw [show IntKind.wrap .i64 ((IntKind.wrap .i64 ((m : Int) + (k : Int))) + 1) = ((m + k + 1 : Nat) : Int) by rw [wrap_i64 (x := (m : Int) + (k : Int)) (by omega) (by omega), wrap_i64 (by omega) (by omega)]; omega]
    exact step (m + k + 1) (by omega) (by rw [hlast (by omega)]; omega)

/-- Two pages compared. -/
theorem pg_eq {p q : Pg} : (Op.equalIn 10000 52 (.agg (pgC p).toArray) (.agg (pgC q).toArray)).run Try.prog w = .ok (decide (p = q)) w := by
  rw [run_equalIn_agg w 9999 52 _ _ (by kernel_rfl) (by kernel_rfl)]
  have h1 : (Try.prog.fieldsOf 52).toList.map (·.type) = [3, 9] := by kernel_rfl
  have h2 : (Try.prog.fieldsOf 52).toList.map (·.offset) = [0, 1] := by kernel_rfl
  have h3 := flds4 h1 h2 (by kernel_rfl)
  generalize (Try.prog.fieldsOf 52).toList = l at *
  obtain ⟨f0, f1, rfl⟩ := two (l := l) (by have := congrArg List.length h1; simpa using this)
  simp only [List.map_cons, List.map_nil, List.cons.injEq, and_true] at h1 h2
  obtain ⟨t0, t1⟩ := h1
  obtain ⟨o0, o1⟩ := h2
  have key : (Op.eqFields 9999 (pgC p).toArray (pgC q).toArray [f0, f1]).run Try.prog w = .ok ((p.1 == q.1) && (((mkS p.2).toList == (mkS q.2).toList) && true)) w := by
    refine eqFields_cons (h3 _ (by simp)) (a := .int .i64 p.1) (b := .int .i64 q.1) (by rw [t0, o0]; exact run_partS (by kernel_rfl) rfl) (by rw [t0, o0]; exact run_partS (by kernel_rfl) rfl) (by rw [t0]; exact run_equalIn_int w 9998 _ .i64 .i64 _ _ (by kernel_rfl)) ?_
    exact eqFields_cons (h3 _ (by simp)) (a := .string (mkS p.2)) (b := .string (mkS q.2)) (by rw [t1, o1]; exact run_partS (by kernel_rfl) rfl) (by rw [t1, o1]; exact run_partS (by kernel_rfl) rfl) (by rw [t1]; exact run_equalIn_string w 9998 _ _ _ (by kernel_rfl)) rfl
  rw [key]
  congr 1
  rw [Bool.eq_iff_iff]
  simp only [Bool.and_eq_true, beq_iff_eq, decide_eq_true_eq, and_true, toList_mkS]
  exact ⟨fun h => Prod.ext h.1 h.2, fun h => by rw [h]; exact ⟨rfl, rfl⟩⟩

theorem take_succ_eq {α : Type} {a b : List α} {i : Nat} (ha : i < a.length) (hb : i < b.length) (h : a.take i = b.take i) : a[i] = b[i] ↔ a.take (i + 1) = b.take (i + 1) := by
  have e1 : a.take (i + 1) = a.take i ++ [a[i]] := (List.take_append_getElem ha).symm
  have e2 : b.take (i + 1) = b.take i ++ [b[i]] := (List.take_append_getElem hb).symm
  rw [e1, e2, h]
  exact ⟨fun hh => by rw [hh], fun hh => List.head_eq_of_cons_eq (List.append_cancel_left hh)⟩
theorem equalPages_c {pa qa : Option Addr} {n c m d : Nat} {ps qs : List Pg} (hp : Reads w pa (ps.flatMap pgC)) (hq : Reads w qa (qs.flatMap pgC)) (hn : ps.length = n) (hm : qs.length = m) (hb : n ≤ 1000000) (hQ : ∀ w', Ext w w' (fun _ => False) → Q (.bool (decide (ps = qs))) w') :
    CallE Try.prog 38 #[.slice pa n c, .slice qa m d] w Q := by
  subst hn hm
  apply C.help_Equal_api_Page_
  unfold W.help_Equal_api_Page_
  by_cases hl : ps.length = qs.length
  case neg =>
    rw [show ((((ps.length : Nat) : Int) : Int) != ((qs.length : Nat) : Int)) = true by rw [bne_iff_ne]; omega, br_true]
    have := hQ w (Ext.refl _ _)
    rw [decide_eq_false (fun hc => hl (by rw [hc]))] at this
    exact this
  rw [show ((((ps.length : Nat) : Int) : Int) != ((qs.length : Nat) : Int)) = false by rw [hl]; simp, br_false]
  refine LoopW.nat ps.length (fun i x w' => x = ((i : Int), ()) ∧ Ext w w' (fun _ => False) ∧ ps.take i = qs.take i) ⟨rfl, Ext.refl _ _, rfl⟩ ?_
  rintro i x w1 next hi ⟨rfl, e1, ht⟩ hnext
  dsimp only
  by_cases hlt : i < ps.length
  case neg =>
    rw [decide_eq_false (by omega), br_false]
    have := hQ w1 e1
    rw [List.take_of_length_le (by omega), List.take_of_length_le (by omega)] at ht
    rw [decide_eq_true ht] at this
    exact this
  rw [decide_eq_true (by omega), br_true]
  unfold dr
  dsimp only
  have e1' := e1.drew_
  have hp1 := hp.ext e1' (fun _ _ _ h => h)
  have hq1 := hq.ext e1' (fun _ _ _ h => h)
  obtain ⟨p, rfl⟩ := hp1.some_ (by rw [flat_length pgC_length]; omega)
  obtain ⟨q, rfl⟩ := hq1.some_ (by rw [flat_length pgC_length]; omega)
  refine ixs i 2 52 hlt ?_
  refine rdG i hlt hp1 pgC_length (by omega) (fg ?_)
  refine ixs i 2 52 (by omega) ?_
  refine rdG i (by omega) hq1 pgC_length (by omega) (fg ?_)
  refine qB (fun w => agg_ne pg_eq) ?_
  have hts := take_succ_eq hlt (show i < qs.length by omega) ht
  by_cases hpq : ps[i] = qs[i]'(by omega)
  · rw [decide_eq_true hpq, Bool.not_true, br_false, inc_nat (by omega)]
    exact hnext hlt _ _ ⟨rfl, e1', hts.1 hpq⟩
  · rw [decide_eq_false hpq, Bool.not_false, br_true]
    have := hQ _ e1'
    rw [decide_eq_false (fun hc => hpq (hts.2 (by rw [hc])))] at this
    exact this

/-- Two images compared. -/
theorem equalImg_c {bd bd' : List UInt8} {g g' : Nat} {pa qa : Option Addr} {n c m d : Nat} {ps qs : List Pg} (hb1 : bd.length = 32) (hb2 : bd'.length = 32) (hp : Reads w pa (ps.flatMap pgC)) (hq : Reads w qa (qs.flatMap pgC)) (hn : ps.length = n) (hm : qs.length = m) (hb : n ≤ 1000000)
    (hQ : ∀ w', Ext w w' (fun _ => False) → Q (.bool (decide (bd = bd') && (decide (g = g') && decide (ps = qs)))) w') :
    CallE Try.prog 26 #[.agg (imgC bd g pa n c).toArray, .agg (imgC bd' g' qa m d).toArray] w Q := by
  apply C.law34_Equal
  unfold W.law34_Equal
  refine al_i fun ab w1 hab a1 e1 z1 => ?_
  change At w1 ab (imgC bd g pa n c) 45 at a1
  refine al_i fun bb w2 hbb a2 e2 z2 => ?_
  change At w2 bb (imgC bd' g' qa m d) 45 at a2
  have a12 := a1.ext e2 (fun h => h)
  simp only [add_mk, Nat.zero_add]
  have tk : ∀ (bd : List UInt8) (g : Nat) (pa : Option Addr) (n c : Nat), bd.length = 32 → ((imgC bd g pa n c).drop 0).take 32 = by_ bd := by
    intro bd g pa n c hb
    unfold imgC
    rw [List.drop_zero]
    exact List.take_left' (by rw [by_length, hb])
  refine ld_g 32 a12 (by rw [imgC_length hb1]; omega) (fg ?_)
  refine ld_g 32 a2 (by rw [imgC_length hb2]; omega) (fg ?_)
  rw [tk bd g pa n c hb1, tk bd' g' qa m d hb2]
  refine qB (fun w => agg_eq (eq_bytes (d := 9998) 5 hb1 hb2)) ?_
  have e02 := e1.tr e2
  by_cases h1 : bd = bd'
  case neg =>
    rw [decide_eq_false h1, br_false]
    have := hQ w2 e02
    rw [decide_eq_false h1] at this
    exact this
  rw [decide_eq_true h1, br_true]
  refine ldI a12 (imgC_32 hb1) ?_
  refine ldI a2 (imgC_32 hb2) ?_
  by_cases h2 : g = g'
  case neg =>
    rw [show (((g : Nat) : Int) == ((g' : Nat) : Int)) = false by rw [beq_eq_false_iff_ne]; omega, br_false]
    have := hQ w2 e02
    rw [decide_eq_true h1, decide_eq_false h2] at this
    exact this
  rw [show (((g : Nat) : Int) == ((g' : Nat) : Int)) = true by rw [h2]; simp, br_true]
  refine ldL a12 (imgC_33 hb1) ?_
  refine ldL a2 (imgC_33 hb2) ?_
  refine equalPages_c (hp.ext e02 (fun _ _ _ h => h)) (hq.ext e02 (fun _ _ _ h => h)) hn hm hb fun w3 e3 => fb ?_
  have := hQ w3 (e02.tr e3)
  rw [decide_eq_true h1, decide_eq_true h2] at this
  exact this
end
end Go.Proofs.Ytpgekajgbkbpkaa.Im
