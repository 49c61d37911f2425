/-
  A flash memory: contracts of the program's methods. No condition beyond those stated.
-/
import Derived.Test.YtbfkhnaknbkilaaFlA
import Derived.Test.YtbfkhnaknbkilaaRep
namespace Go.Proofs.Ytbfkhnaknbkilaa.Fl
open Go Go.Ev Go.Proofs

def fkc (s : Fs) (bb : Nat) : List Value := [.int .i64 (s.nb : Int), .int .i64 (s.np : Int), .int .i64 (s.en : Int), .slice (some ⟨bb, 0, none⟩) s.nb s.nb, .bool s.off, .bool s.cut, .int .i64 s.left, .int .u64 (s.torn : Int)]
/-- Block p holds the program's flash in state s. -/
structure FkAt (w : World) (p bb : Nat) (PB : List Nat) (s : Fs) : Prop where
  d : At w p (fkc s bb) 60
  b : At w bb ((PB.zip s.er).flatMap (brow s.np)) 65
  lb : PB.length = s.nb
  g : ∀ i (h : i < PB.length), At w PB[i] (strs (s.pg.getD i [])) 9
  n1 : p ≠ bb
  n2 : p ∉ PB
  n3 : bb ∉ PB
  nd : PB.Nodup
/-- Block p holds the program's flash in state s; what it has lies in the blocks F. -/
def Fk (w : World) (p : Nat) (s : Fs) (F : Nat → Prop) : Prop := ∃ bb PB, FkAt w p bb PB s ∧ F p ∧ F bb ∧ ∀ b ∈ PB, F b
theorem FkAt.ext {w w' : World} {p bb : Nat} {PB : List Nat} {s : Fs} {X : Nat → Prop} (h : FkAt w p bb PB s) (e : Ext w w' X) (h1 : ¬ X p) (h2 : ¬ X bb) (h3 : ∀ b ∈ PB, ¬ X b) : FkAt w' p bb PB s :=
  ⟨h.d.ext e h1, h.b.ext e h2, h.lb, fun i hi => (h.g i hi).ext e (h3 _ (List.getElem_mem hi)), h.n1, h.n2, h.n3, h.nd⟩
theorem Fk.ext {w w' : World} {p : Nat} {s : Fs} {F X : Nat → Prop} (h : Fk w p s F) (e : Ext w w' X) (hx : ∀ b, F b → ¬ X b) : Fk w' p s F := by
  obtain ⟨bb, PB, h, f1, f2, f3⟩ := h
  exact ⟨bb, PB, h.ext e (hx _ f1) (hx _ f2) (fun b hb => hx _ (f3 b hb)), f1, f2, f3⟩
theorem Fk.tight {w : World} {p : Nat} {s : Fs} {F : Nat → Prop} (h : Fk w p s F) : Fk w p s (fun b => F b ∧ b < w.heap.size) := by
  obtain ⟨bb, PB, h, f1, f2, f3⟩ := h
  refine ⟨bb, PB, h, ⟨f1, h.d.lt⟩, ⟨f2, h.b.lt⟩, fun b hb => ⟨f3 b hb, ?_⟩⟩
  obtain ⟨i, hi, rfl⟩ := List.getElem_of_mem hb
  exact (h.g i hi).lt

section
variable {w : World} {Q : Value → World → Prop} {p : Nat} {s : Fs} {F : Nat → Prop}

theorem isBlock_c {b : Int} (h : Fk w p s F) (hQ : Q (.bool (isB s b)) w) : CallE Try.prog 32 #[.pointer (some ⟨p, 0, none⟩), .int .i64 b] w Q := by
  obtain ⟨bb, PB, h, f1, f2, f3⟩ := h
  apply C.flash_Flash_isBlock
  unfold W.flash_Flash_isBlock
  simp only [add_mk, Nat.zero_add]
  unfold isB at hQ
  refine br_of (fun h0 => ?_) (fun h0 => ?_)
  · simp only [decide_eq_true_eq] at h0
    rw [decide_eq_true h0, Bool.true_and] at hQ
    refine ldI h.d rfl ?_
    exact hQ
  · simp only [decide_eq_false_iff_not] at h0
    rw [decide_eq_false (by omega), Bool.false_and] at hQ
    exact hQ
theorem isPage_c {b q : Int} (h : Fk w p s F) (hQ : Q (.bool (isP s b q)) w) : CallE Try.prog 29 #[.pointer (some ⟨p, 0, none⟩), .int .i64 b, .int .i64 q] w Q := by
  apply C.flash_Flash_isPage
  unfold W.flash_Flash_isPage
  simp only [add_mk, Nat.zero_add]
  unfold isP at hQ
  refine isBlock_c h (fb ?_)
  obtain ⟨bb, PB, h, f1, f2, f3⟩ := h
  refine br_of (fun hb => ?_) (fun hb => ?_)
  · rw [hb, Bool.true_and] at hQ
    refine br_of (fun h0 => ?_) (fun h0 => ?_)
    · simp only [decide_eq_true_eq] at h0
      rw [decide_eq_true h0, Bool.true_and] at hQ
      refine ldI h.d rfl ?_
      exact hQ
    · simp only [decide_eq_false_iff_not] at h0
      rw [decide_eq_false (by omega), Bool.false_and] at hQ
      exact hQ
  · rw [hb, Bool.false_and] at hQ
    exact hQ

theorem zip_get {PB er : List Nat} {i : Nat} (h1 : i < PB.length) (h2 : er.length = PB.length) (np o : Nat) (ho : o < 2) : ((PB.zip er).flatMap (brow np))[i * 2 + o]? = (brow np (PB[i], er.getD i 0))[o]? := by
  have hz : i < (PB.zip er).length := by rw [List.length_zip]; omega
  have he : er.getD i 0 = er[i]'(by omega) := by rw [List.getD_eq_getElem?_getD, List.getElem?_eq_getElem (show i < er.length by omega)]; rfl
  rw [flat_get (f := brow np) (m := 2) (fun _ => rfl) _ i o hz ho, List.getElem_zip, he]

theorem read_c {b q : Int} (h : Fk w p s F) (hok : Ok s) (hQ : Q (.tuple #[.string (mkS (rd s b q).1), .int .i64 (rd s b q).2]) w) : CallE Try.prog 16 #[.pointer (some ⟨p, 0, none⟩), .int .i64 b, .int .i64 q] w Q := by
  apply C.flash_Flash_Read
  unfold W.flash_Flash_Read
  simp only [add_mk, Nat.zero_add]
  unfold rd at hQ
  refine isPage_c h (fb ?_)
  cases hp : isP s b q with
  | false =>
    rw [if_pos hp] at hQ
    rw [Bool.not_false, br_true]
    exact hQ
  | true =>
    rw [if_neg (by simp [hp])] at hQ
    rw [Bool.not_true, br_false]
    obtain ⟨hb0, hb1, hp0, hp1⟩ := isP_lt hp
    obtain ⟨bb, PB, h, f1, f2, f3⟩ := h
    refine ldB h.d rfl ?_
    refine br_of (fun ho => ?_) (fun ho => ?_)
    · rw [if_pos ho] at hQ
      exact hQ
    rw [if_neg (by simp [ho])] at hQ
    obtain ⟨b, rfl⟩ := nat_of hb0
    obtain ⟨q, rfl⟩ := nat_of hp0
    rw [Int.toNat_natCast] at hb1 hp1
    have hbl : b < PB.length := by rw [h.lb]; exact hb1
    refine ldL h.d rfl ?_
    refine ixb b 2 65 hb1 ?_
    simp only [add_mk]
    refine ldL h.b (by rw [zip_get hbl (by rw [hok.le, h.lb]) _ 0 (by omega)]; rfl) ?_
    refine ixb q 1 9 hp1 ?_
    refine ldT (h.g b hbl) (by rw [Nat.mul_one]; exact strs_getD (by rw [hok.rowl hb1]; exact hp1)) ?_
    exact hQ

theorem erases_c {b : Int} (h : Fk w p s F) (hok : Ok s) (hQ : Q (.int .i64 (eras s b)) w) : CallE Try.prog 20 #[.pointer (some ⟨p, 0, none⟩), .int .i64 b] w Q := by
  apply C.flash_Flash_Erases
  unfold W.flash_Flash_Erases
  simp only [add_mk, Nat.zero_add]
  unfold eras at hQ
  refine isBlock_c h (fb ?_)
  cases hp : isB s b with
  | false =>
    rw [if_neg (by simp [hp])] at hQ
    rw [Bool.not_false, br_true]
    exact hQ
  | true =>
    rw [if_pos hp] at hQ
    rw [Bool.not_true, br_false]
    obtain ⟨hb0, hb1⟩ := isB_lt hp
    obtain ⟨bb, PB, h, f1, f2, f3⟩ := h
    obtain ⟨b, rfl⟩ := nat_of hb0
    rw [Int.toNat_natCast] at hb1 hQ
    have hbl : b < PB.length := by rw [h.lb]; exact hb1
    refine ldL h.d rfl ?_
    refine ixb b 2 65 hb1 ?_
    simp only [add_mk]
    refine ldI h.b (by rw [zip_get hbl (by rw [hok.le, h.lb]) _ 1 (by omega)]; rfl) ?_
    exact hQ

theorem selected_c {t i : Nat} (hQ : Q (.int .u8 ((sel t i).toNat : Int)) w) : CallE Try.prog 31 #[.int .u64 (t : Int), .int .i64 (i : Int)] w Q := by
  apply C.flash_selected
  unfold W.flash_selected
  have h1 : IntKind.wrap .i64 (8 * (Int.tmod (i : Int) 8)) = 8 * ((i % 8 : Nat) : Int) := by
    rw [show Int.tmod (i : Int) 8 = ((i % 8 : Nat) : Int) from rfl, wrap_i64 (by omega) (by omega)]
  rw [h1]
  refine qI (shr_i (by omega) (by show 8 * ((i % 8 : Nat) : Int) ≤ ((64 : Nat) : Int); omega)) ?_
  rw [fdiv_byte, wrap_byte]
  exact hQ

/-- The flash's own cells change. -/
theorem FkAt.head {w' : World} {bb : Nat} {PB : List Nat} {s' : Fs} (h : FkAt w p bb PB s) (hd : At w' p (fkc s' bb) 60) (e : Ext w w' (· = p)) (h1 : s'.nb = s.nb) (h2 : s'.np = s.np) (h3 : s'.pg = s.pg) (h4 : s'.er = s.er) : FkAt w' p bb PB s' :=
  ⟨hd, by rw [h4, h2]; exact h.b.ext e (Ne.symm h.n1), by rw [h1]; exact h.lb, fun i hi => by rw [h3]; exact (h.g i hi).ext e (fun hx => h.n2 (hx ▸ List.getElem_mem hi)), h.n1, h.n2, h.n3, h.nd⟩

theorem lose_c {bb : Nat} (h : At w p (fkc s bb) 60) (hQ : ∀ w', At w' p (fkc { s with off := true, cut := false } bb) 60 → Ext w w' (· = p) → w'.heap.size = w.heap.size → Q (.tuple #[]) w') : CallE Try.prog 33 #[.pointer (some ⟨p, 0, none⟩)] w Q := by
  apply C.flash_Flash_lose
  unfold W.flash_Flash_lose
  simp only [add_mk, Nat.zero_add]
  refine st_i h (by show 4 < 8; omega) fun w1 a1 e1 z1 => ?_
  refine st_i a1 (by show 5 < 8; omega) fun w2 a2 e2 z2 => ?_
  exact hQ w2 a2 (e1.tr e2) (by omega)

theorem interrupted_c {bb : Nat} (h : At w p (fkc s bb) 60) (hlf : s.left ≤ 9223372036854775807) (hQ : ∀ w', At w' p (fkc (intr s).1 bb) 60 → Ext w w' (· = p) → w'.heap.size = w.heap.size → Q (.bool (intr s).2) w') : CallE Try.prog 30 #[.pointer (some ⟨p, 0, none⟩)] w Q := by
  apply C.flash_Flash_interrupted
  unfold W.flash_Flash_interrupted
  simp only [add_mk, Nat.zero_add]
  unfold intr at hQ
  refine ldB h rfl ?_
  cases hc : s.cut with
  | false =>
    rw [if_pos hc] at hQ
    rw [Bool.not_false, br_true]
    exact hQ w h (Ext.refl _ _) rfl
  | true =>
    rw [if_neg (by simp [hc])] at hQ
    rw [Bool.not_true, br_false]
    refine ldI h rfl ?_
    by_cases hl : 0 < s.left
    · rw [if_pos hl] at hQ
      rw [decide_eq_true hl, br_true]
      refine ldI h rfl ?_
      rw [wrap_i64 (by omega) (by omega)]
      refine st_i h (by show 6 < 8; omega) fun w1 a1 e1 z1 => ?_
      exact hQ w1 a1 e1 z1
    · rw [if_neg hl] at hQ
      rw [decide_eq_false hl, br_false]
      refine lose_c h fun w1 a1 e1 z1 => ⟨rfl, ?_⟩
      exact hQ w1 a1 e1 z1

theorem cutAfter_c {n : Int} {t : Nat} (h : Fk w p s F) (hQ : ∀ w', Fk w' p (cutA s n t) F → Ext w w' F → Q (.tuple #[]) w') : CallE Try.prog 21 #[.pointer (some ⟨p, 0, none⟩), .int .i64 n, .int .u64 (t : Int)] w Q := by
  obtain ⟨bb, PB, h, f1, f2, f3⟩ := h
  apply C.flash_Flash_CutAfter
  unfold W.flash_Flash_CutAfter
  simp only [add_mk, Nat.zero_add]
  refine st_i h.d (by show 5 < 8; omega) fun w1 a1 e1 z1 => ?_
  refine st_i a1 (by show 6 < 8; omega) fun w2 a2 e2 z2 => ?_
  refine st_i a2 (by show 7 < 8; omega) fun w3 a3 e3 z3 => ?_
  have e := (e1.tr e2).tr e3
  exact hQ w3 ⟨bb, PB, h.head (s' := cutA s n t) a3 e rfl rfl rfl rfl, f1, f2, f3⟩ (e.mono fun b _ hb => hb ▸ f1)
theorem powerOff_c (h : Fk w p s F) (hQ : ∀ w', Fk w' p (pOff s).1 F → Ext w w' F → Q (.int .i64 (pOff s).2) w') : CallE Try.prog 23 #[.pointer (some ⟨p, 0, none⟩)] w Q := by
  have h' := h
  obtain ⟨bb, PB, h, f1, f2, f3⟩ := h
  apply C.flash_Flash_PowerOff
  unfold W.flash_Flash_PowerOff
  simp only [add_mk, Nat.zero_add]
  unfold pOff at hQ
  refine ldB h.d rfl ?_
  refine br_of (fun ho => ?_) (fun ho => ?_)
  · rw [if_pos ho] at hQ
    exact hQ w h' (Ext.refl _ _)
  rw [if_neg (by simp [ho])] at hQ
  refine lose_c h.d fun w1 a1 e1 z1 => ⟨rfl, ?_⟩
  exact hQ w1 ⟨bb, PB, h.head a1 e1 rfl rfl rfl rfl, f1, f2, f3⟩ (e1.mono fun b _ hb => hb ▸ f1)
theorem powerOn_c (h : Fk w p s F) (hQ : ∀ w', Fk w' p (pOn s).1 F → Ext w w' F → Q (.int .i64 (pOn s).2) w') : CallE Try.prog 24 #[.pointer (some ⟨p, 0, none⟩)] w Q := by
  have h' := h
  obtain ⟨bb, PB, h, f1, f2, f3⟩ := h
  apply C.flash_Flash_PowerOn
  unfold W.flash_Flash_PowerOn
  simp only [add_mk, Nat.zero_add]
  unfold pOn at hQ
  refine ldB h.d rfl ?_
  cases ho : s.off with
  | false =>
    rw [if_neg (by simp [ho])] at hQ
    rw [Bool.not_false, br_true]
    exact hQ w h' (Ext.refl _ _)
  | true =>
    rw [if_pos ho] at hQ
    rw [Bool.not_true, br_false]
    refine st_i h.d (by show 4 < 8; omega) fun w1 a1 e1 z1 => ?_
    exact hQ w1 ⟨bb, PB, h.head (s' := { s with off := false }) a1 e1 rfl rfl rfl rfl, f1, f2, f3⟩ (e1.mono fun b _ hb => hb ▸ f1)

/-- The pages of one block change. -/
theorem FkAt.pages {w' : World} {bb b : Nat} {PB : List Nat} {r : List Pg} (h : FkAt w p bb PB s) (hok : Ok s) (hb : b < PB.length) (ha : At w' PB[b] (strs r) 9) (e : Ext w w' (· = PB[b])) : FkAt w' p bb PB { s with pg := s.pg.set b r } := by
  have hm := List.getElem_mem hb
  refine ⟨h.d.ext e (fun hx => h.n2 (hx ▸ hm)), h.b.ext e (fun hx => h.n3 (hx ▸ hm)), h.lb, fun i hi => ?_, h.n1, h.n2, h.n3, h.nd⟩
  by_cases hib : i = b
  · subst hib
    rw [show (s.pg.set i r).getD i [] = r by rw [List.getD_eq_getElem?_getD, List.getElem?_set_self (by rw [hok.lp, ← h.lb]; exact hi)]; rfl]
    exact ha
  · rw [show (s.pg.set b r).getD i [] = s.pg.getD i [] by rw [List.getD_eq_getElem?_getD, List.getD_eq_getElem?_getD, List.getElem?_set_ne (Ne.symm hib)]]
    exact (h.g i hi).ext e (fun hx => hib ((List.getElem_inj h.nd).1 hx))

theorem fits_upto {o d : Pg} : fits o d = true ↔ ∀ i, i < 64 → (d.getD i 0 &&& ~~~(o.getD i 0)) = 0 := by
  unfold fits
  simp only [List.all_eq_true, List.mem_range, beq_iff_eq]

/-- The first j bytes. -/
def progU (t : Nat) (o d : Pg) (j : Nat) : Pg := (List.range 64).map fun i => if i < j then clr (o.getD i 0) (d.getD i 0) (sel t i) else o.getD i 0
theorem upto_zero {o : Pg} (ho : o.length = 64) (f : Nat → UInt8) : ((List.range 64).map fun i => if i < 0 then f i else o.getD i 0) = o := by
  apply List.ext_getElem
  · simp [ho]
  · intro i h1 h2
    simp only [List.getElem_map, List.getElem_range, Nat.not_lt_zero, if_false]
    rw [List.getD_eq_getElem?_getD, List.getElem?_eq_getElem h2]; rfl
theorem upto_succ (o : Pg) (f : Nat → UInt8) (j : Nat) : ((List.range 64).map fun i => if i < j + 1 then f i else o.getD i 0) = ((List.range 64).map fun i => if i < j then f i else o.getD i 0).set j (f j) := by
  apply List.ext_getElem
  · simp
  · intro i h1 h2
    rw [List.getElem_set]
    simp only [List.getElem_map, List.getElem_range]
    by_cases h : j = i
    · subst h; rw [if_pos (by omega), if_pos rfl]
    · rw [if_neg h]
      by_cases h' : i < j
      · rw [if_pos (by omega), if_pos h']
      · rw [if_neg (by omega), if_neg h']
theorem upto_full (o : Pg) (f : Nat → UInt8) : ((List.range 64).map fun i => if i < 64 then f i else o.getD i 0) = (List.range 64).map f := by
  apply List.map_congr_left
  intro i hi
  rw [if_pos (by simpa using hi)]
theorem upto_get (o : Pg) (f : Nat → UInt8) {j : Nat} (hj : j < 64) : ((List.range 64).map fun i => if i < j then f i else o.getD i 0).getD j 0 = o.getD j 0 := by
  rw [List.getD_eq_getElem?_getD, List.getElem?_map, List.getElem?_range hj]
  simp

theorem program_k12 {b q : Nat} {d : Pg} {bb : Nat} {PB : List Nat} (h : FkAt w p bb PB s) (f1 : F p) (f3 : ∀ b ∈ PB, F b) (hok : Ok s) (hb : b < s.nb) (hq : q < s.np) (hd : d.length = 64)
    (hQ : ∀ w' s' r, (if (intr s).2 then (setP (intr s).1 b q (progT s.torn (page s b q) d), (16 : Int)) else (setP (intr s).1 b q d, (0 : Int))) = (s', r) → FkAt w' p bb PB s' → Ext w w' F → Q (.int .i64 r) w') :
    W.flash_Flash_Program_k12 ⟨p, 0, none⟩ (b : Int) (q : Int) (mkS d) (mkS (page s b q)) w Q := by
  unfold W.flash_Flash_Program_k12
  simp only [add_mk, Nat.zero_add]
  have hbl : b < PB.length := by rw [h.lb]; exact hb
  have hm := List.getElem_mem hbl
  refine interrupted_c h.d hok.lf fun w1 a1 e1 z1 => fb ?_
  obtain ⟨i1, i2, i3, i4, i5, i6⟩ := intr_nb s
  have h1 := h.head a1 e1 i1 i2 i4 i5
  have ok1 := hok.intr
  have e1F : Ext w w1 F := e1.mono fun b _ hb => hb ▸ f1
  cases hi : (intr s).2 with
  | false =>
    rw [Bool.not_false, br_true]
    rw [hi] at hQ
    refine ldL a1 rfl ?_
    refine ixb b 2 65 (by rw [i1]; exact hb) ?_
    simp only [add_mk]
    refine ldL h1.b (by rw [zip_get hbl (by rw [ok1.le, h1.lb]) _ 0 (by omega)]; rfl) ?_
    refine ixb q 1 9 (by rw [i2]; exact hq) ?_
    refine st_i (h1.g b hbl) (by rw [strs_length, ok1.rowl (by rw [i1]; exact hb), i2]; omega) fun w2 a2 e2 z2 => ?_
    rw [strs_set, Nat.mul_one] at a2
    exact hQ w2 _ _ rfl (h1.pages ok1 hbl a2 e2) (e1F.tr (e2.mono fun b' _ hx => hx ▸ f3 _ hm))
  | true =>
    rw [Bool.not_true, br_false]
    rw [hi] at hQ
    have hpl := hok.pagel hb hq
    generalize hpg : page s b q = o at *
    refine str_bs 5 fun cb cc w2 hcb s2 e2 => fs ?_
    rw [hpl] at s2 ⊢
    have h2 := h1.ext e2 (fun h => h) (fun h => h) (fun _ _ h => h)
    have hcb1 : w1.heap.size ≤ cb := by omega
    have hpne : p ≠ cb := by have := a1.lt; omega
    refine LoopW.nat 64 (fun j x w' => x = ((j : Int), ()) ∧ Sl w' 5 1 (some ⟨cb, 0, none⟩) 64 cc (by_ (progU s.torn o d j)) ∧ Ext w2 w' (· = cb)) ⟨rfl, by unfold progU; rw [upto_zero hpl]; exact s2, Ext.refl _ _⟩ ?_
    rintro j x w3 next hj ⟨rfl, s3, e3⟩ hnext
    dsimp only
    by_cases hlt : j < 64
    case neg =>
      rw [decide_eq_false (by omega), br_false]
      obtain rfl : j = 64 := by omega
      unfold progU at s3
      rw [upto_full] at s3
      change Sl w3 _ 1 _ 64 cc (by_ (progT s.torn o d)) at s3
      have h3 : FkAt w3 p bb PB (intr s).1 := h2.ext e3 hpne (fun hx => by have := h1.b.lt; omega) (fun b' hb' hx => by
        obtain ⟨i, hi', rfl⟩ := List.getElem_of_mem hb'
        have := (h1.g i hi').lt
        omega)
      unfold W.flash_Flash_Program_k21
      simp only [add_mk, Nat.zero_add]
      have h3' : FkAt (drew w3) p bb PB (intr s).1 := h3.ext (Ext.refl w3 _).drew_ (fun h => h) (fun h => h) (fun _ _ h => h)
      refine ⟨fun w' => At w' p (fkc (intr s).1 bb) 60 ∧ At w' bb ((PB.zip (intr s).1.er).flatMap (brow (intr s).1.np)) 65, ⟨h3'.d, h3'.b⟩, ?_⟩
      refine ldS_i (fun w h => h.1) rfl (fs ?_)
      refine ixbS b 2 65 (by rw [i1]; exact hb) ?_
      simp only [add_mk]
      refine ldS_i (fun w h => h.2) (by rw [zip_get hbl (by rw [ok1.le, h1.lb]) _ 0 (by omega)]; rfl) (fs ?_)
      refine slT (w := drew w3) (l := progT s.torn o d) s3 (progT_length _ _ _) ⟨⟨h3'.d, h3'.b⟩, ?_⟩
      refine ixbS q 1 9 (by rw [i2]; exact hq) ?_
      refine st_i (h3'.g b hbl) (by rw [strs_length, ok1.rowl (by rw [i1]; exact hb), i2]; omega) fun w4 a4 e4 z4 => ?_
      rw [strs_set, Nat.mul_one] at a4
      have h4 := h3'.pages ok1 hbl a4 e4
      refine ⟨⟨h4.d, h4.b⟩, ?_⟩
      refine hQ w4 _ _ rfl h4 ?_
      have e23 : Ext w1 w3 (fun _ => False) := e2.trans e3 (fun _ _ h => h) (fun b' hb' hx => by omega)
      exact (e1F.tr0 (e23.drew_)).tr (e4.mono fun b' _ hx => hx ▸ f3 _ hm)
    rw [decide_eq_true (by omega), br_true]
    have hold : (progU s.torn o d j).getD j 0 = o.getD j 0 := upto_get o _ hlt
    have hplen : (progU s.torn o d j).length = 64 := by simp [progU]
    have hd3 : At w3 p (fkc (intr s).1 bb) 60 := h2.d.ext e3 hpne
    have hI : Sl (drew w3) 5 1 (some ⟨cb, 0, none⟩) 64 cc (by_ (progU s.torn o d j)) ∧ At (drew w3) p (fkc (intr s).1 bb) 60 ∧ Ext w2 (drew w3) (· = cb) := ⟨s3, hd3, e3.drew_⟩
    generalize drew w3 = wd at *
    have ldc : ∀ K : Int → Prop, K ((o.getD j 0).toNat : Int) → ld Try.prog 5 ⟨cb, j * 1, none⟩ wd fun v => fI .u8 v K := fun K hK =>
      slL hI.1 (by rw [Nat.mul_one, by_get, ← hold, List.getD_eq_getElem?_getD, List.getElem?_eq_getElem (by rw [hplen]; exact hlt)]; rfl) (fi hK)
    have ldt : ∀ K : Int → Prop, K (s.torn : Int) → ld Try.prog 37 ⟨p, 7, none⟩ wd fun v => fI .u64 v K := fun K hK =>
      ldI hI.2.1 (by rw [← i6]; rfl) hK
    have fin : st Try.prog 5 ⟨cb, j * 1, none⟩ (.int .u8 (bandNot .u8 ((o.getD j 0).toNat : Int) (band .u8 (bandNot .u8 ((o.getD j 0).toNat : Int) ((d.getD j 0).toNat : Int)) ((sel s.torn j).toNat : Int)))) wd fun w' => True ∧ next ((IntKind.wrap .i64 ((j : Int) + 1)), ()) w' := by
      rw [andNot8, and8, andNot8]
      refine slS hI.1 (by rw [by_length, hplen]; omega) fun w4 s4 e4 z4 => ⟨trivial, ?_⟩
      rw [by_set, Nat.mul_one] at s4
      rw [inc_nat (by omega)]
      refine hnext hlt _ _ ⟨rfl, ?_, hI.2.2.tr e4⟩
      unfold progU at s4 ⊢
      rw [upto_succ]
      exact s4
    refine ⟨fun _ => True, trivial, ?_⟩
    refine ixbS j 1 5 (by omega) ?_
    refine qSI (sxn j (by omega)) ?_
    refine qSI (sxn j (by omega)) ?_
    repeat' first
      | exact trivial
      | exact fin
      | refine ldc _ ?_
      | refine ldt _ ?_
      | refine selected_c (fi ?_)
      | refine ixbS j 1 5 (by omega) ?_
      | refine And.intro ?_ ?_

theorem program_c {b q : Int} {d : Pg} (h : Fk w p s F) (hok : Ok s) (hQ : ∀ w', Fk w' p (prog s b q d).1 F → Ext w w' F → Q (.int .i64 (prog s b q d).2) w') :
    CallE Try.prog 12 #[.pointer (some ⟨p, 0, none⟩), .int .i64 b, .int .i64 q, .string (mkS d)] w Q := by
  apply C.flash_Flash_Program
  unfold W.flash_Flash_Program
  simp only [add_mk, Nat.zero_add]
  have h' := h
  unfold prog at hQ
  refine isPage_c h (fb ?_)
  cases hp : isP s b q with
  | false =>
    rw [if_pos (.inl hp)] at hQ
    rw [Bool.not_false, br_true]
    exact hQ w h' (Ext.refl _ _)
  | true =>
    rw [Bool.not_true, br_false, mkS_size]
    by_cases hd : d.length = 64
    case neg =>
      rw [if_pos (.inr hd)] at hQ
      rw [show (((d.length : Nat) : Int) != 64) = true by rw [bne_iff_ne]; omega, br_true]
      exact hQ w h' (Ext.refl _ _)
    rw [if_neg (by simp [hp, hd])] at hQ
    rw [show (((d.length : Nat) : Int) != 64) = false by rw [bne_eq_false_iff_eq]; omega, br_false]
    obtain ⟨hb0, hb1, hp0, hp1⟩ := isP_lt hp
    obtain ⟨bb, PB, h, f1, f2, f3⟩ := h
    refine ldB h.d rfl ?_
    refine br_of (fun ho => ?_) (fun ho => ?_)
    · rw [if_pos ho] at hQ
      exact hQ w h' (Ext.refl _ _)
    rw [if_neg (by simp [ho])] at hQ
    obtain ⟨b, rfl⟩ := nat_of hb0
    obtain ⟨q, rfl⟩ := nat_of hp0
    rw [Int.toNat_natCast] at hb1 hp1 hQ
    rw [Int.toNat_natCast] at hQ
    have hbl : b < PB.length := by rw [h.lb]; exact hb1
    refine ldL h.d rfl ?_
    refine ixb b 2 65 hb1 ?_
    simp only [add_mk]
    refine ldL h.b (by rw [zip_get hbl (by rw [hok.le, h.lb]) _ 0 (by omega)]; rfl) ?_
    refine ixb q 1 9 hp1 ?_
    refine ldT (h.g b hbl) (by rw [Nat.mul_one]; exact strs_getD (by rw [hok.rowl hb1]; exact hp1)) ?_
    have hpl := hok.pagel hb1 hp1
    change LoopW (S := Int × Unit) (fun s82 w83 next84 => br (decide ((s82.1 : Int) < ((d.length : Nat) : Int))) (dr w83 fun w85 => rq Try.prog (Instr.index 9 (.string (mkS d)) (.int .i64 s82.1)) w85 fun v86 => fI .u8 v86 fun x87 => rq Try.prog (Instr.index 9 (.string (mkS (page s b q))) (.int .i64 s82.1)) w85 fun v88 => fI .u8 v88 fun x89 => br (((bandNot .u8 x87 x89) : Int) != 0) (Q (.int .i64 9) w85) (next84 (((IntKind.wrap .i64 (s82.1 + 1)) : Int), ()) w85)) (W.flash_Flash_Program_k12 ⟨p, 0, none⟩ (b : Int) (q : Int) (mkS d) (mkS (page s b q)) w83 Q)) ((0 : Int), ()) w
    refine LoopW.nat 64 (fun j x w' => x = ((j : Int), ()) ∧ (∀ i, i < j → (d.getD i 0 &&& ~~~((page s b q).getD i 0)) = 0) ∧ Ext w w' (fun _ => False)) ⟨rfl, fun i hi => by omega, Ext.refl _ _⟩ ?_
    rintro j x w1 next hj ⟨rfl, hall, e1⟩ hnext
    dsimp only
    have h1 := h.ext e1 (fun h => h) (fun h => h) (fun _ _ h => h)
    by_cases hlt : j < 64
    case neg =>
      rw [decide_eq_false (by omega), br_false]
      rw [if_neg (by rw [fits_upto.2 (fun i hi => hall i (by omega))]; simp)] at hQ
      refine program_k12 h1 f1 f3 hok hb1 hp1 hd fun w2 s2 r hr h2 e2 => ?_
      rw [hr] at hQ
      exact hQ w2 ⟨bb, PB, h2, f1, f2, f3⟩ ((e1.of0 (X := F)).tr e2)
    rw [decide_eq_true (by omega), br_true]
    show dr w1 _
    unfold dr
    refine qI (sxn j (by omega)) ?_
    refine qI (sxn j (by omega)) ?_
    rw [andNot8, byte_ne0]
    by_cases hz : (d.getD j 0 &&& ~~~((page s b q).getD j 0)) = 0
    · rw [decide_eq_false (by simpa using hz), br_false, inc_nat (by omega)]
      refine hnext hlt _ _ ⟨rfl, fun i hi => ?_, e1.drew_⟩
      by_cases hij : i = j
      · subst hij; exact hz
      · exact hall i (by omega)
    · rw [decide_eq_true hz, br_true]
      have hnf : fits (page s b q) d = false := by
        cases hc : fits (page s b q) d with
        | false => rfl
        | true => exact absurd (fits_upto.1 hc j hlt) hz
      rw [if_pos hnf] at hQ
      exact hQ (drew w1) (h'.ext e1.drew_ (fun _ _ h => h)) e1.drew_.of0
end
end Go.Proofs.Ytbfkhnaknbkilaa.Fl
