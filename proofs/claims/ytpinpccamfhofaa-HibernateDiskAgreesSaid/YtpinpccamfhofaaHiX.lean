/-
  The statement HibernateRestoresMemory over the code. No condition beyond those stated.
-/
import Derived.Test.YtpinpccamfhofaaHiM
set_option linter.unusedVariables false
set_option linter.unusedSimpArgs false
set_option maxRecDepth 100000
namespace Go.Proofs.Ytpinpccamfhofaa.Hi
open Go Go.Ev Go.Proofs Go.Proofs.Ytpinpccamfhofaa.Im
open Go.Proofs.Ytpinpccamfhofaa.Bd (St Sec Dk Ok wr fl rd cut pOff pOn zs all new lose KOk)

def z256 : List UInt8 := List.replicate 256 0
theorem secs_few {g : Nat} {bd : List UInt8} {ps : List Pg} (h : OkP ps) (h8 : ps.length ≤ 8) : (secs g bd ps).length ≤ 40 := by
  have := bodyOf_le h.2
  unfold secs
  rw [List.length_cons, cuts_count]
  have : padn (bodyOf ps).length < 64 := Nat.mod_lt _ (by omega)
  omega
/-- The pages with the numbers l of a memory. -/
def psOf (mem : List Sec) (l : List Nat) : List Pg := l.map fun k : Nat => ((k : Int), mem.getD k [])
theorem psOf_length (mem : List Sec) (l : List Nat) : (psOf mem l).length = l.length := by simp [psOf]
theorem psOf_snoc (mem : List Sec) (l : List Nat) (k : Nat) : psOf mem (l ++ [k]) = psOf mem l ++ [((k : Int), mem.getD k [])] := by simp [psOf]
theorem psOf_incr {mem : List Sec} : ∀ (l : List Nat) (m : Int), (∀ k ∈ l, k ≤ 1000) → (∀ k ∈ l, m < (k : Int)) → l.Pairwise (· < ·) → incr m (psOf mem l) = true
  | [], m, _, _, _ => rfl
  | k :: l, m, hb, h, hp => by
    have hk := hb k (.head _)
    have hm := h k (.head _)
    rw [List.pairwise_cons] at hp
    show (decide (0 ≤ (k : Int)) && decide ((k : Int) ≤ 2147483647) && decide (m < (k : Int)) && incr (k : Int) (psOf mem l)) = true
    rw [decide_eq_true (by omega), decide_eq_true (by omega), decide_eq_true hm, psOf_incr l (k : Int) (fun x hx => hb x (.tail _ hx)) (fun x hx => by have := hp.1 x hx; omega) hp.2]
    rfl
theorem psOf_ok {mem : List Sec} {l : List Nat} (h1 : ∀ k ∈ l, k < mem.length) (h2 : mem.length ≤ 500) (h3 : l.Pairwise (· < ·)) (h4 : l.length ≤ 512) (h5 : ∀ m ∈ mem, m.length = 256) : OkP (psOf mem l) := by
  refine ⟨?_, fun p hp => ?_⟩
  · unfold validP
    rw [psOf_length, decide_eq_true h4, psOf_incr l (-1) (fun k hk => by have := h1 k hk; omega) (fun k _ => by omega) h3]
    rfl
  · obtain ⟨k, hk, rfl⟩ := List.mem_map.1 hp
    show (mem.getD k []).length = 256
    have := h1 k hk
    rw [List.getD_eq_getElem?_getD, List.getElem?_eq_getElem this]
    exact h5 _ (List.getElem_mem this)
theorem selN_lt {l : List PI} {n : Nat} : ∀ k ∈ selN l n, k < n := fun k hk => List.mem_range.1 (List.mem_filter.1 hk).1
theorem selN_pw {l : List PI} {n : Nat} : (selN l n).Pairwise (· < ·) := (List.pairwise_lt_range).filter _

/-- The memory of zero pages, with the pages l brought back. -/
def aft (mem : List Sec) (n : Nat) (l : List Nat) : List Sec := (List.range n).map fun k => if k ∈ l then mem.getD k [] else z256
theorem aft_length (mem : List Sec) (n : Nat) (l : List Nat) : (aft mem n l).length = n := by simp [aft]
theorem aft_get {mem : List Sec} {n : Nat} {l : List Nat} {k : Nat} (h : k < (aft mem n l).length) : (aft mem n l)[k] = if k ∈ l then mem.getD k [] else z256 := by
  simp only [aft, List.getElem_map, List.getElem_range]
theorem aft_nil (mem : List Sec) (n : Nat) : aft mem n [] = List.replicate n z256 := by
  apply List.ext_getElem
  · rw [aft_length, List.length_replicate]
  · intro i h1 h2
    rw [aft_get, List.getElem_replicate]
    rfl
theorem aft_set {mem : List Sec} {n : Nat} {l : List Nat} {k : Nat} : (aft mem n l).set k (mem.getD k []) = aft mem n (l ++ [k]) := by
  apply List.ext_getElem
  · rw [List.length_set, aft_length, aft_length]
  · intro i h1 h2
    rw [List.getElem_set, aft_get (by rw [aft_length]; rw [List.length_set, aft_length] at h1; exact h1), aft_get]
    by_cases hik : k = i
    · subst hik
      rw [if_pos rfl, if_pos (by simp)]
    · rw [if_neg hik]
      simp only [List.mem_append, List.mem_singleton]
      by_cases hl : i ∈ l
      · rw [if_pos hl, if_pos (.inl hl)]
      · rw [if_neg hl, if_neg (by rintro (h | h); exact hl h; exact hik h.symm)]
theorem strs_get {l : List (List UInt8)} {i : Nat} (h : i < l.length) : (strs l)[i]? = some (.string (mkS l[i])) := by
  unfold strs
  rw [List.getElem?_map, List.getElem?_eq_getElem h]
  rfl
theorem strs_set (l : List (List UInt8)) (i : Nat) (d : List UInt8) : (strs l).set i (.string (mkS d)) = strs (l.set i d) := by simp [strs, List.map_set]

section
variable {U w w' : World} {Q : Value → World → Prop} {p : Nat} {s : St} {K K' X : Nat → Prop}

/-- A memory and what is told of its pages, both younger than a world. -/
structure MI (U w : World) (ma : Option Addr) (mc : Nat) (ia : Option Addr) (ic n : Nat) (mem : List Sec) (inf : List PI) : Prop where
  s : Sl w 9 1 ma n mc (strs mem)
  sl : mem.length = n
  t : Sl w 27 3 ia n ic (inf.flatMap piC)
  tl : inf.length = n
  d : ∀ m ∈ mem, m.length = 256
  z : ∀ i (h : i < inf.length) (h' : i < mem.length), inf[i].2.2 = decide (mem[i] = z256)
  f1 : ∀ b, ma = some ⟨b, 0, none⟩ → U.heap.size ≤ b
  f2 : ∀ b, ia = some ⟨b, 0, none⟩ → U.heap.size ≤ b
  ne : ∀ b, ma = some ⟨b, 0, none⟩ → ia ≠ some ⟨b, 0, none⟩
  e : Ext U w (fun _ => False)
theorem MI.ext {ma ia : Option Addr} {mc ic n : Nat} {mem : List Sec} {inf : List PI} (h : MI U w ma mc ia ic n mem inf) (e : Ext w w' (fun _ => False)) : MI U w' ma mc ia ic n mem inf :=
  ⟨h.s.ext e (fun _ _ h => h), h.sl, h.t.ext e (fun _ _ h => h), h.tl, h.d, h.z, h.f1, h.f2, h.ne, h.e.tr e⟩

theorem restores_k17 {l ua na ma ia : Option Addr} {rn rc un uc nn nc mc ic i : Nat} {ul nl : List Bool} {mem : List Sec} {inf : List PI} {pd : List UInt8} {next : ((Option Addr × Nat × Nat) × (Option Addr × Nat × Nat) × Int × Unit) → World → Prop} (hu : KOk U ua un ul) (hv : KOk U na nn nl) (h : MI U w ma mc ia ic i mem inf) (hd : pd.length = 256) (hi : i ≤ 100)
    (hnext : ∀ ma' mc' ia' ic' x w', MI U w' ma' mc' ia' ic' (i + 1) (mem ++ [pd]) (inf ++ [x]) → next ((ma', i + 1, mc'), (ia', i + 1, ic'), ((i + 1 : Nat) : Int), ()) w') :
    W.law35_HibernateRestoresMemory_k17 l rn rc ua un uc na nn nc (mkS z256) ma i mc ia i ic (i : Int) (mkS pd) next w Q := by
  unfold W.law35_HibernateRestoresMemory_k17
  refine al_i fun tb w1 htb a1 e1 z1 => ?_
  have h1 := h.ext e1
  refine ap_i 9 1 (vs := strs [pd]) h1.s (.inr ⟨_, rfl, fun k hk => by rw [add_mk, a1.cell, Nat.zero_add]; rfl⟩) rfl (strs_one _) (by omega) fun a2 c2 w2 s2 f2 g2 e2 => fs ?_
  obtain ⟨mb2, rfl⟩ := s2.one_block (by omega)
  have lm2 := s2.lt
  have hz1 := h1.e.size
  have e02 : Ext U w2 (fun _ => False) := h1.e.trans e2 (fun _ _ h => h) (fun b hb hx => by have := h1.f1 b hx; omega)
  have fm2 : U.heap.size ≤ mb2 := by
    rcases f2 mb2 rfl with hx | hx
    · exact h1.f1 _ hx
    · omega
  have t2 : Sl w2 27 3 ia i ic (inf.flatMap piC) := h1.t.ext e2 (fun b hb hx => h1.ne b hx hb)
  have ne2 : ia ≠ some ⟨mb2, 0, none⟩ := by
    intro hx
    rcases f2 mb2 rfl with hy | hy
    · exact h1.ne _ hy hx
    · have := h1.t
      rw [hx] at this
      have := this.lt
      omega
  rw [← strs_append] at s2
  refine ⟨fun w' => Ext U w' (fun _ => False), e02.drew_, ?_⟩
  rw [inc_nat (by omega)]
  have fin : ∀ u v : Bool, al 27 #[.bool u, .bool v, .bool (decide (pd = z256))] (drew w2) fun a w3 => Ext U w3 (fun _ => False) ∧ rv Try.prog (Builtin.append_ #[22, 22] 22 #[.slice ia i ic, .slice (some a) 1 1]) w3 fun v w4 => fS v fun l n c => Ext U w4 (fun _ => False) ∧ next ((some ⟨mb2, 0, none⟩, i + 1, c2), (l, n, c), ((i + 1 : Nat) : Int), ()) w4 := by
    intro u v
    refine al_i fun tb3 w3 htb3 a3 e3 z3 => ?_
    have e23 : Ext w2 w3 (fun _ => False) := e3.of_drew
    refine ⟨e02.tr e23, ?_⟩
    refine ap_i 27 3 (vs := piC (u, v, decide (pd = z256))) (t2.ext e23 (fun _ _ h => h)) (.inr ⟨_, rfl, fun k hk => by rw [add_mk, a3.cell, Nat.zero_add]; rfl⟩) rfl (piC_one _) (by omega) fun a4 c4 w4 s4 f4 g4 e4 => fs ?_
    have hz2 := e02.size
    have hz3 := e23.size
    have e04 : Ext U w4 (fun _ => False) := (e02.tr e23).trans e4 (fun _ _ h => h) (fun b hb hx => by have := h1.f2 b hx; omega)
    refine ⟨e04, ?_⟩
    refine hnext _ c2 a4 c4 (u, v, decide (pd = z256)) w4 ⟨?_, by rw [List.length_append, h1.sl]; rfl, ?_, by rw [List.length_append, h1.tl]; rfl, ?_, ?_, ?_, ?_, ?_, e04⟩
    · exact (s2.ext e23 (fun _ _ h => h)).ext e4 (fun b hb hx => ne2 (by rw [hx, hb]))
    · rw [List.flatMap_append]
      simpa using s4
    · intro m hm
      rcases List.mem_append.1 hm with hm | hm
      · exact h1.d m hm
      · rw [List.mem_singleton.1 hm]; exact hd
    · intro j g1 g2
      rw [List.length_append, List.length_singleton] at g1 g2
      by_cases hj : j < i
      · rw [List.getElem_append_left (by rw [h1.tl]; exact hj), List.getElem_append_left (by rw [h1.sl]; exact hj)]
        exact h1.z j (by rw [h1.tl]; exact hj) (by rw [h1.sl]; exact hj)
      · have : j = i := by rw [h1.tl] at g1; omega
        subst this
        rw [List.getElem_append_right (by rw [h1.tl]; omega), List.getElem_append_right (by rw [h1.sl]; omega)]
        simp
    · intro b hb
      simp only [Option.some.injEq, Addr.mk.injEq, and_true] at hb
      omega
    · intro b hb
      rcases f4 b hb with hx | hx
      · exact h1.f2 b hx
      · omega
    · intro b hb hc
      simp only [Option.some.injEq, Addr.mk.injEq, and_true] at hb
      subst hb
      rcases f4 _ hc with hx | hx
      · exact ne2 hx
      · omega
  have hbool : ∀ {a : Option Addr} {n c : Nat} {kl : List Bool} {K : Bool → Prop}, KOk U a n kl → i < n → (∀ b, K b) → rqS Try.prog (fun w' => Ext U w' (fun _ => False)) (Instr.indexAt 78 (.slice a n c) (.int .i64 (i : Int))) fun v => fA v fun a => ldS Try.prog (fun w' => Ext U w' (fun _ => False)) 4 a fun v => fB v K := by
    intro a n c kl K hk hin hK
    obtain ⟨q, rfl⟩ := hk.r.some_ (by rw [Bd.bls_length, hk.n]; omega)
    refine ixsS i 1 4 hin ?_
    rw [Nat.mul_one]
    refine ldS_c (v := .bool (kl.getD i false)) (fun w' he => ?_) (fb (hK _))
    rcases (hk.ext he).r with hh | ⟨q', hq', hh⟩
    · exfalso
      have := congrArg List.length hh
      rw [Bd.bls_length, hk.n, List.length_nil] at this
      omega
    · cases hq'
      rw [hh i (by rw [Bd.bls_length, hk.n]; omega)]
      exact Bd.bls_getD (by rw [hk.n]; omega)
  refine br_of (fun _ => br_of (fun hlt => ?_) fun _ => ?_) fun hge => ?_
  · have := of_decide_eq_true hlt
    refine hbool hv (by omega) fun b => ?_
    exact qSB s_eq (fin _ _)
  · exact qSB s_eq (fin _ _)
  · have := of_decide_eq_false hge
    refine hbool hu (by omega) fun b => ?_
    refine br_of (fun hlt => ?_) fun _ => ?_
    · have := of_decide_eq_true hlt
      refine hbool hv (by omega) fun b => ?_
      exact qSB s_eq (fin _ _)
    · exact qSB s_eq (fin _ _)

theorem restores_k46 {ma ia : Option Addr} {mc ic n ab : Nat} {mem : List Sec} {inf : List PI} (hm : Sl w 9 1 ma n mc (strs mem)) (hml : mem.length = n) (ht : Sl w 27 3 ia n ic (inf.flatMap piC)) (htl : inf.length = n) (hz : ∀ i (h : i < inf.length) (h' : i < mem.length), inf[i].2.2 = decide (mem[i] = z256))
    (ha : At w ab (strs (aft mem n (selN inf n))) 9) (hn : n ≤ 100) (e0 : Ext U w (fun _ => False)) (hQ : ∀ w', Ext U w' (fun _ => False) → Q (.bool true) w') :
    W.law35_HibernateRestoresMemory_k46 ma n mc ia n ic (some ⟨ab, 0, none⟩) n n w Q := by
  unfold W.law35_HibernateRestoresMemory_k46
  refine LoopW.nat n (fun i x w' => x = ((i : Int), ()) ∧ Ext w w' (fun _ => False)) ⟨rfl, Ext.refl _ _⟩ ?_
  rintro i x w1 next hi ⟨rfl, e1⟩ hnext
  dsimp only
  by_cases hlt : i < n
  case neg =>
    rw [decide_eq_false (by omega), br_false]
    unfold W.law35_HibernateRestoresMemory_k51
    exact awake_fin (e0.tr e1) hQ
  rw [decide_eq_true (by omega), br_true]
  unfold dr
  dsimp only
  have e1' := e1.drew_
  have go : next (IntKind.wrap .i64 ((i : Int) + 1), ()) (drew w1) := by
    rw [inc_nat (by omega)]
    exact hnext hlt _ _ ⟨rfl, e1'⟩
  have hr1 := ht.reads.ext e1' (fun _ _ _ h => h)
  obtain ⟨q, rfl⟩ := hr1.some_ (by rw [flat_length piC_len]; omega)
  refine ixs i 3 27 hlt ?_
  refine rdF (o := 0) i (by omega) hr1 piC_len (by omega) rfl (fb ?_)
  refine br_of (fun b1 => ?_) fun _ => go
  refine ixs i 3 27 hlt ?_
  refine rdF (o := 1) i (by omega) hr1 piC_len (by omega) rfl (fb ?_)
  refine br_of (fun b2 => ?_) fun _ => go
  have hm1 := hm.ext e1' (fun _ _ h => h)
  obtain ⟨mb, rfl⟩ := hm1.one_block (by omega)
  refine ixb i 1 9 hlt ?_
  have hil : i < (aft mem n (selN inf n)).length := by rw [aft_length]; exact hlt
  refine ldT (ha.ext e1' (fun h => h)) (by rw [Nat.mul_one]; exact strs_get hil) ?_
  refine ixb i 1 9 hlt ?_
  refine slL (o := i * 1) hm1 (by rw [Nat.mul_one]; exact strs_get (by omega)) (ft ?_)
  refine qB s_ne ?_
  have hg : mem.getD i [] = mem[i]'(by omega) := by rw [List.getD_eq_getElem?_getD, List.getElem?_eq_getElem (by omega)]; rfl
  have heq : (aft mem n (selN inf n))[i] = mem[i]'(by omega) := by
    rw [aft_get]
    by_cases hs : i ∈ selN inf n
    · rw [if_pos hs, hg]
    · rw [if_neg hs]
      have hnp : pick (inf[i]'(by omega)) = false := by
        rw [Bool.eq_false_iff]
        intro hc
        refine hs (List.mem_filter.2 ⟨List.mem_range.2 hlt, ?_⟩)
        rw [List.getD_eq_getElem?_getD, List.getElem?_eq_getElem (by omega)]
        exact hc
      have h3 := hz i (by omega) (by omega)
      have b2' : (inf[i]'(by omega)).2.1 = false := by simpa using b2
      have : (inf[i]'(by omega)).2.2 = true := by
        unfold pick at hnp
        rw [b1, b2'] at hnp
        simpa using hnp
      rw [this] at h3
      exact (of_decide_eq_true h3.symm).symm
  rw [heq, decide_eq_true rfl]
  exact go

theorem restores_k40 {ma ia pa : Option Addr} {mc ic n ab xb pc : Nat} {mem : List Sec} {inf : List PI} (hm : Sl w 9 1 ma n mc (strs mem)) (hml : mem.length = n) (ht : Sl w 27 3 ia n ic (inf.flatMap piC)) (htl : inf.length = n) (hz : ∀ i (h : i < inf.length) (h' : i < mem.length), inf[i].2.2 = decide (mem[i] = z256))
    (hx : At w xb (imgC zb 1 pa (psOf mem (selN inf n)).length pc) 41) (hp : Sl w 85 2 pa (psOf mem (selN inf n)).length pc ((psOf mem (selN inf n)).flatMap pgC))
    (ha : At w ab (strs (List.replicate n z256)) 9) (hn : n ≤ 100) (hab : U.heap.size ≤ ab) (ne1 : ma ≠ some ⟨ab, 0, none⟩) (ne2 : ia ≠ some ⟨ab, 0, none⟩) (ne3 : pa ≠ some ⟨ab, 0, none⟩) (ne4 : xb ≠ ab) (e0 : Ext U w (fun _ => False)) (hQ : ∀ w', Ext U w' (fun _ => False) → Q (.bool true) w') :
    W.law35_HibernateRestoresMemory_k40 ma n mc ia n ic ⟨xb, 0, none⟩ (some ⟨ab, 0, none⟩) n n w Q := by
  unfold W.law35_HibernateRestoresMemory_k40
  have hzb : zb.length = 32 := rfl
  simp only [add_mk, Nat.zero_add]
  have hlp := psOf_length mem (selN inf n)
  have hle := selN_le inf n
  rw [← aft_nil mem n] at ha
  refine LoopW.nat (selN inf n).length (fun i x w' => x = ((i : Int), ()) ∧ At w' ab (strs (aft mem n ((selN inf n).take i))) 9 ∧ Ext w w' (· = ab)) ⟨rfl, ha, Ext.refl _ _⟩ ?_
  rintro i x w1 next hi ⟨rfl, a1, e1⟩ hnext
  dsimp only
  have hx1 := hx.ext e1 ne4
  refine ldL hx1 (imgC_33 hzb) ?_
  have hm1 := hm.ext e1 (fun b hb hc => ne1 (by rw [hb, hc]))
  have ht1 := ht.ext e1 (fun b hb hc => ne2 (by rw [hb, hc]))
  have hp1 := hp.ext e1 (fun b hb hc => ne3 (by rw [hb, hc]))
  have e01 : Ext U w1 (fun _ => False) := e0.trans e1 (fun _ _ h => h) (fun b hb hc => by omega)
  by_cases hlt : i < (selN inf n).length
  case neg =>
    rw [decide_eq_false (by rw [hlp]; omega), br_false]
    rw [List.take_of_length_le (by omega)] at a1
    exact restores_k46 hm1 hml ht1 htl hz a1 hn e01 hQ
  rw [decide_eq_true (by rw [hlp]; omega), br_true]
  have hlt2 : i < (psOf mem (selN inf n)).length := by rw [hlp]; exact hlt
  have hk : (selN inf n)[i] < n := selN_lt _ (List.getElem_mem hlt)
  have hel : (psOf mem (selN inf n))[i] = (((selN inf n)[i] : Int), mem.getD (selN inf n)[i] []) := by simp only [psOf, List.getElem_map]
  have hr1 := hp1.reads
  obtain ⟨q, hq⟩ := hp1.one_block (by omega)
  have num : ∀ {wz : World} {K : Int → Prop}, Ext w1 wz (fun _ => False) → K ((selN inf n)[i] : Int) → rq Try.prog (Instr.indexAt 39 (.slice pa (psOf mem (selN inf n)).length pc) (.int .i64 (i : Int))) wz fun v => fA v fun a => ld Try.prog 3 (a.add 0) wz fun v => fI .i64 v K := by
    intro wz K ez hK
    have hrz := hr1.ext ez (fun _ _ _ h => h)
    subst hq
    refine ixs i 2 85 hlt2 ?_
    refine rdF (o := 0) i hlt2 hrz pgC_length (by omega) (v := .int .i64 ((selN inf n)[i] : Int)) (by rw [hel]; rfl) (fi hK)
  have dat : ∀ {wz : World} {K : ByteArray → Prop}, Ext w1 wz (fun _ => False) → K (mkS (mem.getD (selN inf n)[i] [])) → rq Try.prog (Instr.indexAt 39 (.slice pa (psOf mem (selN inf n)).length pc) (.int .i64 (i : Int))) wz fun v => fA v fun a => ld Try.prog 9 (a.add 1) wz fun v => fT v K := by
    intro wz K ez hK
    have hrz := hr1.ext ez (fun _ _ _ h => h)
    subst hq
    refine ixs i 2 85 hlt2 ?_
    refine rdF (o := 1) i hlt2 hrz pgC_length (by omega) (v := .string (mkS (mem.getD (selN inf n)[i] []))) (by rw [hel]; rfl) (ft hK)
  refine ldL hx1 (imgC_33 hzb) ?_
  refine num (Ext.refl _ _) ?_
  rw [decide_eq_false (by omega), br_false]
  refine ldL hx1 (imgC_33 hzb) ?_
  refine num (Ext.refl _ _) ?_
  rw [decide_eq_false (by omega), br_false]
  unfold dr
  dsimp only
  have ed : Ext w1 (drew w1) (fun _ => False) := (Ext.refl w1 _).drew_
  refine ldL (w := drew w1) hx1.drew_ (imgC_33 hzb) ?_
  refine num ed ?_
  refine ldL (w := drew w1) hx1.drew_ (imgC_33 hzb) ?_
  refine dat ed ?_
  refine ixb (selN inf n)[i] 1 9 hk ?_
  rw [Nat.mul_one]
  refine st_i (w := drew w1) a1.drew_ (by rw [strs_length, aft_length]; exact hk) fun w2 a2 e2 z2 => ?_
  rw [strs_set, aft_set] at a2
  rw [inc_nat (by omega)]
  exact hnext hlt _ _ ⟨rfl, by rw [← List.take_append_getElem hlt]; exact a2, e1.trans e2.of_drew (fun _ _ h => h) (fun _ _ h => h)⟩

theorem restores_k30 {ma ia pa : Option Addr} {mc ic n ib pc : Nat} {mem : List Sec} {inf : List PI} (h : Dsk U p K w (onD (List.replicate 60 zs))) (hm : Sl w 9 1 ma n mc (strs mem)) (hml : mem.length = n) (ht : Sl w 27 3 ia n ic (inf.flatMap piC)) (htl : inf.length = n) (hd : ∀ m ∈ mem, m.length = 256) (hz : ∀ i (h : i < inf.length) (h' : i < mem.length), inf[i].2.2 = decide (mem[i] = z256))
    (hi : At w ib (imgC zb 1 pa (psOf mem (selN inf n)).length pc) 41) (hp : Sl w 85 2 pa (psOf mem (selN inf n)).length pc ((psOf mem (selN inf n)).flatMap pgC))
    (km : ∀ b, ma = some ⟨b, 0, none⟩ → K b) (ki : ∀ b, ia = some ⟨b, 0, none⟩ → K b) (hn : n ≤ 8) (e0 : Ext U w (fun _ => False)) (hQ : ∀ w', Ext U w' (fun _ => False) → Q (.bool true) w') :
    W.law35_HibernateRestoresMemory_k30 (mkS z256) ma n mc ia n ic (some ⟨p, 0, none⟩) ⟨ib, 0, none⟩ w Q := by
  unfold W.law35_HibernateRestoresMemory_k30
  have hzb : zb.length = 32 := rfl
  have hle := selN_le inf n
  have hlp := psOf_length mem (selN inf n)
  have hP : OkP (psOf mem (selN inf n)) := psOf_ok (fun k hk => by have := selN_lt k hk; omega) (by omega) selN_pw (by omega) hd
  have hfew := secs_few (g := 1) (bd := zb) hP (by omega)
  generalize hps : psOf mem (selN inf n) = ps at *
  refine ld_w hi (fg ?_) (hs := by rw [imgC_length hzb]; kernel_rfl)
  have hsv := sav_secs (S := List.replicate 60 zs) (g := 1) (bd := zb) (ps := ps) hzb (by rw [List.length_replicate]; omega)
  refine save_c h onD_ok (by omega) hzb hp.reads rfl hP fun w1 d1 e1 => fi ?_
  rw [hsv] at d1 ⊢
  dsimp only at d1 ⊢
  change Dsk U p _ w1 (onD (savedS 60 1 zb ps)) at d1
  refine br_neg rfl ?_
  have hlen := savedS_len (n := 60) (g := 1) (bd := zb) (ps := ps) (by omega)
  have hok := onD_ok (S := savedS 60 1 zb ps)
  rw [hlen] at hok
  refine doff_c (kl := []) d1 (hok.le (by omega)) (.inl rfl) rfl (fun q hq => by cases hq) fun w2 d2 e2 => fi ?_
  have hpo : pOff (onD (savedS 60 1 zb ps)) [] = (⟨savedS 60 1 zb ps, [], true, none⟩, 0) := rfl
  rw [hpo] at d2 ⊢
  refine br_neg rfl ?_
  refine don_c d2 fun w3 d3 e3 => fi ?_
  have hpn : pOn ⟨savedS 60 1 zb ps, [], true, none⟩ = (onD (savedS 60 1 zb ps), 0) := rfl
  rw [hpn] at d3 ⊢
  refine br_neg rfl ?_
  have hl := loa_saved (n := 60) (bd' := zb) hzb (show 1 < 18446744073709551616 by omega) hP
  rw [if_neg (by simp)] at hl
  refine load_c (bd := zb) d3 hok (by omega) (by omega) (by omega) hzb (fun e he => by rw [hl] at he; cases he) fun r hr a4 c4 w4 s4 f4 d4 e4 => ⟨_, _, rfl, ?_⟩
  rw [hl] at hr
  cases hr
  dsimp only at s4 ⊢
  refine al_st 34 (imgC_length hzb) (imgC_one _ _ _ _ _) fun xb w5 hxb a5 e5 z5 => ?_
  refine br_neg rfl ?_
  have e04 := Xd.u (Xd.u (Xd.u (Xd.u e0 e1) e2) e3) e4
  have m5 : Sl w5 9 1 ma n mc (strs mem) := (Sl.held (Sl.held (Sl.held (Sl.held hm e1 km) e2 km) e3 km) e4 km).ext e5 (fun _ _ h => h)
  have t5 : Sl w5 27 3 ia n ic (inf.flatMap piC) := (Sl.held (Sl.held (Sl.held (Sl.held ht e1 ki) e2 ki) e3 ki) e4 ki).ext e5 (fun _ _ h => h)
  have s5 := s4.ext e5 (fun _ _ h => h)
  have e05 := e04.tr e5
  refine mk_i 9 1 (by omega) (by omega) fun ab w6 hab a6 e6 z6 => fs ?_
  have hzl : zeroL Try.prog 9 = [.string (mkS [])] := by kernel_rfl
  rw [Int.toNat_natCast, hzl, zeros_one] at a6
  rw [Int.toNat_natCast]
  have hst : List.replicate n (Value.string (mkS [])) = strs (List.replicate n []) := by simp [strs]
  rw [hst] at a6
  have m6 := m5.ext e6 (fun _ _ h => h)
  have t6 := t5.ext e6 (fun _ _ h => h)
  have s6 := s5.ext e6 (fun _ _ h => h)
  have x6 := a5.ext e6 (fun h => h)
  have e06 := e05.tr e6
  have hz0 := e05.size
  have lt_of : ∀ {a : Option Addr} {e : TypeId} {m k c : Nat} {xs : List Value}, Sl w5 e m a k c xs → a ≠ some ⟨ab, 0, none⟩ := by
    intro a e m k c xs hs hc
    subst hc
    have := hs.lt
    omega
  have hx5 := a5.lt
  refine LoopW.nat n (fun i x w' => x = ((i : Int), ()) ∧ At w' ab (strs (List.replicate i z256 ++ List.replicate (n - i) [])) 9 ∧ Ext w6 w' (· = ab)) ⟨rfl, by simpa using a6, Ext.refl _ _⟩ ?_
  rintro i x w7 next hi ⟨rfl, a7, e7⟩ hnext
  dsimp only
  by_cases hlt : i < n
  · rw [decide_eq_true (by omega), br_true]
    refine ixb i 1 9 hlt ?_
    rw [Nat.mul_one]
    refine st_i a7 (by rw [strs_length, List.length_append, List.length_replicate, List.length_replicate]; omega) fun w8 a8 e8 z8 => ?_
    rw [strs_set] at a8
    obtain ⟨k, hk⟩ : ∃ k, n - i = k + 1 := ⟨n - i - 1, by omega⟩
    have hs : (List.replicate i z256 ++ List.replicate (n - i) []).set i z256 = List.replicate (i + 1) z256 ++ List.replicate (n - (i + 1)) [] := by
      rw [List.set_append_right _ _ (by rw [List.length_replicate]; omega), List.length_replicate, Nat.sub_self, hk, List.replicate_succ, List.set_cons_zero, show n - (i + 1) = k by omega, List.replicate_succ', List.append_assoc]
      rfl
    rw [hs] at a8
    rw [inc_nat (by omega)]
    exact hnext hlt _ _ ⟨rfl, a8, e7.tr e8⟩
  rw [decide_eq_false (by omega), br_false]
  rw [show i = n by omega, Nat.sub_self, List.replicate_zero, List.append_nil] at a7
  have e07 : Ext U w7 (fun _ => False) := e06.trans e7 (fun _ _ h => h) (fun b hb hc => by omega)
  have nx : xb ≠ ab := by omega
  refine restores_k40 (pa := a4) (pc := c4) (mem := mem) (inf := inf) (m6.ext e7 (fun b hb hc => lt_of m5 (by rw [hb, hc]))) hml (t6.ext e7 (fun b hb hc => lt_of t5 (by rw [hb, hc]))) htl hz ?_ ?_ a7 (by omega) (by omega) (lt_of m5) (lt_of t5) (lt_of s5) nx e07 hQ
  · rw [hps]; exact x6.ext e7 nx
  · rw [hps]; exact s6.ext e7 (fun b hb hc => lt_of s5 (by rw [hb, hc]))

theorem restores_k19 {ma ia : Option Addr} {mc ic n : Nat} {mem : List Sec} {inf : List PI} (h : MI U w ma mc ia ic n mem inf) (hn : n ≤ 8) (hQ : ∀ w', Ext U w' (fun _ => False) → Q (.bool true) w') :
    W.law35_HibernateRestoresMemory_k19 (mkS z256) ma n mc ia n ic w Q := by
  unfold W.law35_HibernateRestoresMemory_k19
  have hzb : zb.length = 32 := rfl
  refine dnew_c (U := U) (K := fun b => b < w.heap.size) (n := 60) (by omega) (by omega) h.e (fun b hb => hb) fun p w3 d3 e3 => ⟨_, _, rfl, ?_⟩
  refine br_neg rfl ?_
  refine eq_nil (fb (br_neg rfl ?_))
  refine al_st (vs := imgC zb 1 none 0 0) 34 (imgC_length hzb) (imgC_one _ _ _ _ _) fun ib w4 hib a4 e4 z4 => ?_
  have h4 := (h.ext e3).ext e4
  refine select_c (l := inf) h4.t.reads h4.tl (by omega) fun sa sn sc w5 h5 => fs ?_
  have hsn := h5.n
  subst hsn
  have e35 := e4.tr h5.e
  have li := a4.lt
  have hz3 := e3.size
  have hz4 := e4.size
  have hz5 := h5.e.size
  have hle := selN_le inf n
  have h5' := h4.ext h5.e
  have lt5 : ∀ {a : Option Addr} {e : TypeId} {m k c : Nat} {xs : List Value} {b : Nat}, Sl w e m a k c xs → a = some ⟨b, 0, none⟩ → b < w.heap.size := by
    intro a e m k c xs b hs hc
    subst hc
    exact hs.lt
  have f4 : ∀ b, sa = some ⟨b, 0, none⟩ → b ≠ ib ∧ b < w5.heap.size := fun b hb => ⟨by have := h5.f b hb; omega, by have := h5.s; rw [hb] at this; exact this.lt⟩
  refine LoopW.nat (selN inf n).length (fun i x w' => ∃ pa pc, x = ((i : Int), ()) ∧ At w' ib (imgC zb 1 pa (psOf mem ((selN inf n).take i)).length pc) 41 ∧ Sl w' 85 2 pa (psOf mem ((selN inf n).take i)).length pc ((psOf mem ((selN inf n).take i)).flatMap pgC) ∧ (∀ b, pa = some ⟨b, 0, none⟩ → b ≠ ib ∧ w5.heap.size ≤ b) ∧ Ext w5 w' (· = ib))
    ⟨none, 0, rfl, a4.ext h5.e (fun h => h), .inl ⟨rfl, rfl, rfl, rfl⟩, (fun b hb => by cases hb), Ext.refl _ _⟩ ?_
  rintro i x w6 next hi ⟨pa, pc, rfl, a6, s6, f6, e6⟩ hnext
  dsimp only
  have hz6 := e6.size
  by_cases hlt : i < (selN inf n).length
  case neg =>
    rw [decide_eq_false (by omega), br_false]
    rw [List.take_of_length_le (by omega)] at a6 s6
    have e36 : Ext w3 w6 (fun _ => False) := e35.trans e6 (fun _ _ h => h) (fun b hb hc => by omega)
    have d6 : Dsk U p (fun b => b < w.heap.size) w6 (onD (List.replicate 60 zs)) := d3.same e36
    have m6 := h5'.s.ext e6 (fun b hb hc => by have := lt5 h.s hb; omega)
    have t6 := h5'.t.ext e6 (fun b hb hc => by have := lt5 h.t hb; omega)
    exact restores_k30 d6 m6 h.sl t6 h.tl h.d h.z a6 s6 (fun b hb => lt5 h.s hb) (fun b hb => lt5 h.t hb) hn ((h.e.tr e3).tr e36) hQ
  rw [decide_eq_true (by omega), br_true]
  obtain ⟨sb, rfl⟩ := h5.s.one_block (by omega)
  have n6 : Sl w6 3 1 (some ⟨sb, 0, none⟩) (selN inf n).length sc (is_ (selN inf n)) := h5.s.ext e6 (fun b hb hc => (f4 b hb).1 hc)
  have hk : (selN inf n)[i] < n := selN_lt _ (List.getElem_mem hlt)
  have num : ∀ {wz : World} {K : Int → Prop}, K ((selN inf n)[i] : Int) → Ext w6 wz (fun _ => False) → ld Try.prog 3 ⟨sb, i * 1, none⟩ wz fun v => fI .i64 v K := by
    intro wz K hK ez
    refine slL (n6.ext ez (fun _ _ h => h)) (by rw [Nat.mul_one]; exact is_get hlt) (fi hK)
  refine ixb i 1 3 hlt ?_
  refine num ?_ (Ext.refl _ _)
  rw [decide_eq_false (by omega), br_false]
  refine ixb i 1 3 hlt ?_
  refine num ?_ (Ext.refl _ _)
  rw [decide_eq_false (by omega), br_false]
  simp only [add_mk, Nat.zero_add]
  refine ⟨fun _ => True, trivial, ?_⟩
  refine ixbS i 1 3 hlt ?_
  refine ixbS i 1 3 hlt ?_
  have ed : Ext w6 (drew w6) (fun _ => False) := (Ext.refl w6 _).drew_
  generalize hw0 : drew w6 = w0
  rw [hw0] at ed
  have E0 : Ext w0 w0 (fun _ => False) := Ext.refl _ _
  have m0 := (h5'.s.ext e6 (fun b hb hc => by have := lt5 h.s hb; omega)).ext ed (fun _ _ h => h)
  obtain ⟨mb, rfl⟩ := m0.one_block (by omega)
  have hib0 := a6.ext ed (fun h => h)
  have hs0 := s6.ext ed (fun _ _ h => h)
  have hg : mem.getD (selN inf n)[i] [] = mem[(selN inf n)[i]]'(by rw [h.sl]; exact hk) := by rw [List.getD_eq_getElem?_getD, List.getElem?_eq_getElem (by rw [h.sl]; exact hk)]; rfl
  have ldp : ∀ {w' : World} {K : Option Addr → Nat → Nat → Prop}, Ext w0 w' (fun _ => False) → K pa (psOf mem ((selN inf n).take i)).length pc → ld Try.prog 39 ⟨ib, 33, none⟩ w' fun v => fS v fun l n c => True ∧ K l n c :=
    fun e hK => ldL (hib0.ext e (fun h => h)) (imgC_33 hzb) ⟨trivial, hK⟩
  have ldn : ∀ {w' : World} {K : Int → Prop}, Ext w0 w' (fun _ => False) → K ((selN inf n)[i] : Int) → ld Try.prog 3 ⟨sb, i * 1, none⟩ w' fun v => fI .i64 v fun x => True ∧ K x :=
    fun e hK => num ⟨trivial, hK⟩ (ed.tr e)
  have ixm : ∀ {K : Addr → Prop}, K ⟨mb, (selN inf n)[i] * 1, none⟩ → rqS Try.prog (fun _ => True) (Instr.indexAt 49 (.slice (some ⟨mb, 0, none⟩) n mc) (.int .i64 ((selN inf n)[i] : Int))) fun v => fA v K :=
    fun hK => ixbS (selN inf n)[i] 1 9 hk hK
  have ldm : ∀ {w' : World} {K : ByteArray → Prop}, Ext w0 w' (fun _ => False) → K (mkS (mem.getD (selN inf n)[i] [])) → ld Try.prog 9 ⟨mb, (selN inf n)[i] * 1, none⟩ w' fun v => fT v fun t => True ∧ K t :=
    fun e hK => slL (m0.ext e (fun _ _ h => h)) (by rw [Nat.mul_one]; exact strs_get (by rw [h.sl]; exact hk)) (ft ⟨trivial, by rw [← hg]; exact hK⟩)
  have alp : ∀ {w' : World} {K : Addr → World → Prop}, Ext w0 w' (fun _ => False) → (∀ tb w'', At w'' tb (pgC (((selN inf n)[i] : Int), mem.getD (selN inf n)[i] [])) 85 → Ext w0 w'' (fun _ => False) → K ⟨tb, 0, none⟩ w'') → al 85 #[.int .i64 ((selN inf n)[i] : Int), .string (mkS (mem.getD (selN inf n)[i] []))] w' fun a w'' => True ∧ K a w'' :=
    fun e hK => al_i fun tb w'' htb a'' e'' z'' => ⟨trivial, hK tb w'' a'' (e.tr e'')⟩
  have fin : ∀ {w' : World} {tb : Nat}, At w' tb (pgC (((selN inf n)[i] : Int), mem.getD (selN inf n)[i] [])) 85 → Ext w0 w' (fun _ => False) →
      rv Try.prog (Builtin.append_ #[39, 39] 39 #[.slice pa (psOf mem ((selN inf n).take i)).length pc, .slice (some ⟨tb, 0, none⟩) 1 1]) w' fun v w'' => fS v fun l n c => True ∧ st Try.prog 39 ⟨ib, 33, none⟩ (.slice l n c) w'' fun w3 => True ∧ next ((IntKind.wrap .i64 ((i : Int) + 1) : Int), ()) w3 := by
    intro w' tb htb e
    refine ap_i 85 2 (vs := pgC (((selN inf n)[i] : Int), mem.getD (selN inf n)[i] [])) (hs0.ext e (fun _ _ h => h)) (.inr ⟨_, rfl, fun k hk => by rw [add_mk, htb.cell, Nat.zero_add]⟩) rfl (pgC_one _) (by rw [psOf_length, List.length_take]; omega) fun a1 c1 w1 s1 f1 g1 e1 => fs ⟨trivial, ?_⟩
    have hi1 := (hib0.ext e (fun h => h)).ext e1 (fun h => (f6 ib h).1 rfl)
    refine st_i hi1 (by rw [imgC_length hzb]; omega) fun w2 a2 e2 z2 => ⟨trivial, ?_⟩
    rw [imgC_set hzb] at a2
    rw [inc_nat (by omega)]
    have hlti := (hib0.ext e (fun h => h)).lt
    have hz0 := ed.size
    have hz' := e.size
    have hne1 : ∀ b, a1 = some ⟨b, 0, none⟩ → b ≠ ib ∧ w5.heap.size ≤ b := by
      intro b hb
      rcases f1 b hb with hx | hx
      · exact f6 b hx
      · exact ⟨by omega, by omega⟩
    have hps : psOf mem ((selN inf n).take (i + 1)) = psOf mem ((selN inf n).take i) ++ [(((selN inf n)[i] : Int), mem.getD (selN inf n)[i] [])] := by
      rw [← List.take_append_getElem hlt, psOf_snoc]
    refine hnext hlt _ _ ⟨a1, c1, rfl, ?_, ?_, hne1, ?_⟩
    · rw [hps, List.length_append]
      exact a2
    · rw [hps, List.length_append, List.flatMap_append]
      simpa using s1.ext e2 (fun b hb => (hne1 b hb).1)
    · exact ((e6.tr0 (ed.tr e)).trans e1 (Z := fun b => b = ib) (fun _ _ h => h) (fun b hb hx => by have := (f6 b hx).2; omega)).trans e2 (fun _ _ h => h) (fun _ _ h => h)
  repeat' with_reducible first
    | refine ldp (by assumption) ?_
    | refine ldn (by assumption) ?_
    | refine ixm ?_
    | refine ldm (by assumption) ?_
    | refine alp (by assumption) fun _ _ _ _ => ?_
    | refine And.intro ?_ ?_
    | exact fin (by assumption) (by assumption)

theorem restores_k6 {l ua na : Option Addr} {rn rc un uc nn nc : Nat} {rs : List Rw} {ul nl : List Bool} (hr : Rin w l rn rs) (hu : KOk w ua un ul) (hv : KOk w na nn nl) (hQ : ∀ w', Ext w w' (fun _ => False) → Q (.bool true) w') :
    W.law35_HibernateRestoresMemory_k6 l rn rc ua un uc na nn nc w Q := by
  unfold W.law35_HibernateRestoresMemory_k6
  refine br_of (fun _ => awake_fin (Ext.refl _ _) hQ) fun hle => ?_
  have h8 : rn ≤ 8 := by have := of_decide_eq_false hle; omega
  have hn := hr.n
  refine Pz.mk_b (by omega) (by omega) fun b w1 hb a1 e1 z1 => fs ?_
  rw [show (256 : Int).toNat = 256 from rfl] at *
  refine bsT (l := z256) a1 List.length_replicate ?_
  refine LoopW.nat rn (fun i x w' => ∃ ma mc ia ic mem inf, x = ((ma, i, mc), (ia, i, ic), (i : Int), ()) ∧ MI w w' ma mc ia ic i mem inf)
    ⟨none, 0, none, 0, [], [], rfl, .inl ⟨rfl, rfl, rfl, rfl⟩, rfl, .inl ⟨rfl, rfl, rfl, rfl⟩, rfl, by simp, (fun i h => by simp at h), (fun b hb => by cases hb), (fun b hb => by cases hb), (fun b hb => by cases hb), e1⟩ ?_
  rintro i x w2 next hi ⟨ma, mc, ia, ic, mem, inf, rfl, h2⟩ hnext
  dsimp only
  by_cases hlt : i < rn
  case neg =>
    rw [decide_eq_false (by omega), br_false]
    obtain rfl : i = rn := by omega
    exact restores_k19 h2 h8 hQ
  rw [decide_eq_true (by omega), br_true]
  unfold dr
  dsimp only
  have h2' := h2.ext (w' := drew w2) (Ext.refl w2 _).drew_
  have hr2 := hr.ext h2'.e
  obtain ⟨q, rfl⟩ := hr.ptr (by omega)
  obtain ⟨hU, hst0, hst1⟩ := hr2.ok rs[i] (List.getElem_mem (by omega))
  refine ixs i 3 81 hlt ?_
  refine rdF (o := 1) i (by omega) hr2.r Rw.len (by omega) rfl (fs ?_)
  refine ixs i 3 81 hlt ?_
  refine rdF (o := 2) i (by omega) hr2.r Rw.len (by omega) rfl (fi ?_)
  refine Pz.page_c hU hst0 hst1 fun pd w3 hd e3 => ft ?_
  have h3 := h2'.ext e3
  refine ixs i 3 81 hlt ?_
  refine rdF (o := 0) i (by omega) (hr.ext h3.e).r Rw.len (by omega) rfl (fi ?_)
  refine br_of (fun _ => ?_) fun _ => ?_
  · exact restores_k17 hu hv h3 List.length_replicate (by omega) fun ma' mc' ia' ic' x w' h' => hnext hlt _ _ ⟨ma', mc', ia', ic', _, _, rfl, h'⟩
  · exact restores_k17 hu hv h3 hd (by omega) fun ma' mc' ia' ic' x w' h' => hnext hlt _ _ ⟨ma', mc', ia', ic', _, _, rfl, h'⟩

theorem restores_c {l ua na : Option Addr} {rn rc un uc nn nc : Nat} {rs : List Rw} {ul nl : List Bool} (hr : Rin w l rn rs) (hu : KOk w ua un ul) (hv : KOk w na nn nl) (hQ : ∀ w', Ext w w' (fun _ => False) → Q (.bool true) w') :
    CallE Try.prog 8 #[.slice l rn rc, .slice ua un uc, .slice na nn nc] w Q := by
  apply C.law35_HibernateRestoresMemory
  unfold W.law35_HibernateRestoresMemory
  have hn := hr.n
  refine LoopW.nat rn (fun i x w' => x = ((i : Int), ()) ∧ w' = w) ⟨rfl, rfl⟩ ?_
  rintro i x w1 next hi ⟨rfl, rfl⟩ hnext
  dsimp only
  by_cases hlt : i < rn
  case neg =>
    rw [decide_eq_false (by omega), br_false]
    exact restores_k6 hr hu hv hQ
  rw [decide_eq_true (by omega), br_true]
  obtain ⟨p, rfl⟩ := hr.ptr (by omega)
  refine ixs i 3 81 hlt ?_
  refine rdF (o := 1) i (by omega) hr.r Rw.len (by omega) rfl (fs ?_)
  refine br_of (fun _ => awake_fin (Ext.refl _ _) hQ) fun _ => ?_
  have hmx : rs.length ≤ 9223372036854775807 := hr.mx
  rw [show IntKind.wrap .i64 ((i : Int) + 1) = ((i + 1 : Nat) : Int) by rw [wrap_i64 (by omega) (by omega)]; rfl]
  exact hnext hlt _ _ ⟨rfl, rfl⟩
end
end Go.Proofs.Ytpinpccamfhofaa.Hi
